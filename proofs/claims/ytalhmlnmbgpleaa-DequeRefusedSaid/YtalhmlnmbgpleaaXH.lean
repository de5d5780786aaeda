/-
  Layer 35: the words of a model, the contracts around an action.
  Layer 35: the states of a deque in a space; the example; the law Acts.
-/
import Derived.Test.YtalhmlnmbgpleaaXG
import Derived.Test.YtalhmlnmbgpleaaXF
namespace Go.En
open Prog Spc Go.Sort

variable {S : Sys} {I : Ids} {h h0 h' : Hp} {F F0 : Fp} {R : Value → Hp → Prop} {L : List Res} {s : Value} {σ τ : Spc}

/-! ### The words behind a transaction, as a memory -/
theorem mG_at {g : Nat → W3} {N k : Nat} (G : GW N g k) {a : Int} : (newS (knF g N)).vw a = if 0 ≤ a ∧ a < N then (g a.toNat).v else 0 := by
  unfold Spc.vw
  show (none : Option Int).getD _ = _
  rw [G.kn]
  split <;> rfl
theorem mG_nxt {g : Nat → W3} {N k : Nat} (G : GW N g k) (O : OnG N g σ) : (newS (knF (nxt g σ) N)).vw = σ.vw := by
  funext a
  rw [mG_at (G.nxt O)]
  by_cases ha : 0 ≤ a ∧ a < N
  · rw [if_pos ha, nxt_v G O (by omega), Int.toNat_of_nonneg ha.1]
  · rw [if_neg ha]
    have hn : (lastP σ.pu a).isSome = false := by
      cases hl : (lastP σ.pu a).isSome with
      | false => rfl
      | true =>
        obtain ⟨p, hp, e⟩ := List.mem_map.1 (lastP_mem.1 hl)
        exact absurd ((O.inN G).rd a (e ▸ O.pu p hp)) ha
    rw [vw_old hn, O.kn, G.kn, if_neg ha]
    rfl
theorem Sm.table {g : Nat → W3} {N k : Nat} (G : GW N g k) : Sm (fun a => 0 ≤ a ∧ a < N) (newS (knF g N)) (newS (knF g N)) (newS (knF g N)).vw 0 :=
  Sm.start (fun a ha => Dom.start G.ref a ha.1 ha.2) rfl (newS_wf (knF_val G.v))
theorem GW.zero (N : Nat) : GW N (fun _ => W0) 0 := ⟨fun _ _ => rfl, fun _ _ => ⟨by decide, by decide⟩, fun _ _ => ⟨Int.le_refl 0, Int.le_refl 0⟩⟩
theorem wp_left1 {D : Int → Prop} {m : Int → Int} {c : Nat} {p : Pl} {fr : List Int} {out : Int} {α : Type} {Q : α → Spc → Prop} {q : Int → Prog α} {σ0 : Spc} (S : Sm D σ0 σ m c) (P : PoolR m p fr out) (hD : PoolD D p) (h : ∀ σ', Sm D σ0 σ' m c → wp (q (fr.length + p.nodes - out)) σ' Q) : wp (pLeft p >>= q) σ Q := by
  have g := P.good
  have g1 := g.f1; have g2 := g.f2; have g3 := g.n1; have g4 := g.n0
  have := P.len; have := P.out0; have := P.out1
  unfold pLeft
  rw [if_pos g, wp_bind]
  refine wp_get S (hD.r 2 (by omega) (by omega)) fun σ1 S => ?_
  refine wp_get S (hD.r 1 (by omega) (by omega)) fun σ1 S => ?_
  rw [P.frE, P.outE, w64_R (z := fr.length + p.nodes) ⟨by omega, by omega⟩, w64_R ⟨by omega, by omega⟩, Int.max_eq_left (by omega)]
  exact h _ S
abbrev N35 (n : Nat) : Nat := 16 + 8 * n
theorem DSt.start {n : Nat} (hn : n ≤ 100) : DSt (p35 n) 8 (newS (knF (fun _ => W0) (N35 n))).vw [] := by
  have hz : ∀ a, (newS (knF (fun _ => W0) (N35 n))).vw a = 0 := fun a => by rw [mG_at (GW.zero _)]; split <;> rfl
  refine ⟨[], [], 0, ⟨p35_good ⟨by omega, by omega⟩, hz _, hz _, hz _, Int.le_refl 0, by show (0 : Int) ≤ n; omega, (fun x hx => by cases hx), List.nodup_nil⟩, ⟨hz _, hz _, rfl, hz _, hz _, List.nodup_nil⟩, (fun x hx => by cases hx), rfl⟩
/-- the model's words tell the deque -/
structure Dm (n : Nat) (g : Nat → W3) (vs : List Int) (k : Nat) : Prop extends GW (N35 n) g k where
  st : DSt (p35 n) 8 (newS (knF g (N35 n))).vw vs
theorem Dm.start {n : Nat} (hn : n ≤ 100) : Dm n (fun _ => W0) [] 0 := ⟨GW.zero _, DSt.start hn⟩
theorem D35_eq (n : Nat) : (fun a : Int => 0 ≤ a ∧ a < ((N35 n : Nat) : Int)) = D35 n := by
  funext a
  show (0 ≤ a ∧ a < ((16 + 8 * n : Nat) : Int)) = (0 ≤ a ∧ a < 16 + 8 * (n : Int))
  rw [Int.natCast_add, Int.natCast_mul]; rfl
theorem Dm.sm {n : Nat} {g : Nat → W3} {vs : List Int} {k : Nat} (H : Dm n g vs k) : Sm (D35 n) (newS (knF g (N35 n))) (newS (knF g (N35 n))) (newS (knF g (N35 n))).vw 0 := by
  rw [← D35_eq]; exact Sm.table H.toGW
theorem Dm.act {n : Nat} {g : Nat → W3} {vs : List Int} {k : Nat} {x : A5} (H : Dm n g vs k) (hn : n ≤ 100) (hx : x.ok) :
    wp (dAct (p35 n) x) (newS (knF g (N35 n))) fun a σ' => σ'.en = false ∧ a = (dRes n vs x).2 ∧ DSt (p35 n) 8 σ'.vw (dRes n vs x).1 :=
  Prog.wp_mono (wp_dAct H.sm H.st ⟨by omega, by omega⟩ hx (by show 0 + 20 ≤ big; decide)) fun a σ' ⟨h1, m', S', h2⟩ => ⟨S'.en, h1, by rw [show σ'.vw = m' from funext S'.vw]; exact h2⟩
theorem Dm.next {n : Nat} {g : Nat → W3} {vs vs' : List Int} {k : Nat} (H : Dm n g vs k) (O : OnG (N35 n) g σ) (hs : DSt (p35 n) 8 σ.vw vs') : Dm n (nxt g σ) vs' (k + 1) :=
  ⟨H.toGW.nxt O, by rw [mG_nxt H.toGW O]; exact hs⟩

/-! ### On arbitrary words -/
section
variable {A : Int → Prop} {σ0 : Spc} {c : Nat} {p : Pl} {root : Int} {r : Bool}
theorem PoolD.toA (h : PoolD A p) : PoolA A p := ⟨h.r, fun a ha => by have := h.n a (node_isN ha) 0 (by omega) (by omega); rwa [Int.add_zero] at this⟩
theorem node_R5 {x : Int} (h : (p.node x).isSome = true) : R64 x := by
  obtain ⟨n, hn⟩ := Option.isSome_iff_exists.1 h
  have := node_lt hn
  exact ⟨by omega, by omega⟩
theorem wd_more {a n : Int} {α : Type} {q : Unit → Prog α} {Q : α → Spc → Prop} (H : Wld A σ0 σ c) (ha : A a) (hl : σ0.pu.length + c ≤ big) (k : ∀ σ', Wld A σ0 σ' (c + 1) → wp (q ()) σ' Q) : wp (dMore a n >>= q) σ Q := by
  unfold dMore
  rw [wp_bind]
  refine wd_get H ha fun v σ1 hv _ H => ?_
  rw [← wp_bind]
  exact wd_put H ha (w64_in _) hl k
theorem wd_dUn {α : Type} {q : Unit → Prog α} {Q : α → Spc → Prop} {e : Int} (H : Wld A σ0 σ c) (he : e ≠ 0) (k : ∀ σ', Wld A σ0 σ' c → (σ'.en = false → σ'.pu = σ0.pu) → wp (q ()) σ' Q) : wp (dUn e σ0.pu.length >>= q) σ Q := by
  unfold dUn
  rw [if_pos he]
  exact wd_back H k
theorem wd_dPushT {t : Int} (H : Wld A σ0 σ c) (hRD : RootD A root) (ht : R64 t) (hl : σ0.pu.length + c + 3 ≤ big) : wp (dPushT root t r) σ fun e σ' => Wld A σ0 σ' (c + 3) ∧ e = 0 := by
  have s1 := sd_in r
  unfold dPushT
  refine wd_put H (hRD _ s1.1 (by omega)) ht (by omega) fun σ1 H => ?_
  refine wd_more H (hRD 2 (by omega) (by omega)) (by omega) fun σ2 H => ?_
  refine wd_more H (hRD 7 (by omega) (by omega)) (by omega) fun σ3 H => ?_
  exact ⟨H, rfl⟩
theorem wd_dPush {v : Int} (hw : σ.wf) (hD : PoolD A p) (hRD : RootD A root) (hv : R64 v) (hl : σ.pu.length + 20 ≤ big) : wp (dPush p root r v) σ fun e σ' => Wld A σ σ' 20 ∧ (e ≠ 0 → σ'.en = false → σ'.pu = σ.pu) := by
  have s1 := sd_in r; have s2 := sd_in (!r)
  unfold dPush
  refine wd_mark ?_
  refine wd_take (Wld.start (A := A) hw) hD.toA (by omega) (fun x σ1 hx H => ?_) fun e σ1 he H hpu => ?_
  · have hxr := node_R5 hx
    have hxN := node_isN hx
    rw [if_neg (by simp)]
    refine wd_get H (hRD _ s1.1 (by omega)) fun en σ2 hen _ H => ?_
    refine wd_put H (hD.n x hxN _ s1.1 (by omega)) ⟨by decide, by decide⟩ (by omega) fun σ3 H => ?_
    refine wd_put H (hD.n x hxN _ s2.1 (by omega)) hen (by omega) fun σ3 H => ?_
    refine wd_put H (hD.n x hxN 2 (by omega) (by omega)) hv (by omega) fun σ3 H => ?_
    split
    · refine wd_put H (hRD _ s2.1 (by omega)) hxr (by omega) fun σ3 H => ?_
      exact Prog.wp_mono (wd_dPushT H hRD hxr (by omega)) fun e σ' ⟨h1, h2⟩ => ⟨h1.mono (by omega), fun h => absurd h2 h⟩
    · split
      · rename_i hn
        refine wd_put H (hD.n en (node_isN hn) _ s1.1 (by omega)) hxr (by omega) fun σ3 H => ?_
        exact Prog.wp_mono (wd_dPushT H hRD hxr (by omega)) fun e σ' ⟨h1, h2⟩ => ⟨h1.mono (by omega), fun h => absurd h2 h⟩
      · exact wd_dUn H (by decide) fun σ4 H hu => ⟨H.mono (by omega), fun _ => hu⟩
  · have hne : e ≠ 0 := by omega
    rw [if_pos hne]
    exact wd_dUn H hne fun σ4 H hu => ⟨H.mono (by omega), fun _ => hu⟩
theorem wd_dPopT {m : Int} {en nx : Int} (H : Wld A σ0 σ c) (hD : PoolD A p) (hRD : RootD A root) (hn : (p.node en).isSome = true) (hnx : R64 nx) (hm : m = σ0.pu.length) (hl : σ0.pu.length + c + 6 ≤ big) :
    wp (dPopT p root en nx m r) σ fun e σ' => Wld A σ0 σ' (c + 6) ∧ (e.2 ≠ 0 → e.1 = 0 ∧ (σ'.en = false → σ'.pu = σ0.pu)) := by
  subst hm
  have s1 := sd_in r
  have henr := node_R5 hn
  unfold dPopT
  refine wd_put H (hRD _ s1.1 (by omega)) hnx (by omega) fun σ1 H => ?_
  refine wd_more H (hRD 2 (by omega) (by omega)) (by omega) fun σ2 H => ?_
  refine wd_more H (hRD 7 (by omega) (by omega)) (by omega) fun σ3 H => ?_
  refine wd_get H (hD.n en (node_isN hn) 2 (by omega) (by omega)) fun x σ4 hx _ H => ?_
  refine wd_give H hD.toA (by omega) henr (fun σ5 _ H => ?_) fun hno => ?_
  · rw [if_neg (by simp)]
    exact ⟨H, fun h => absurd rfl h⟩
  · rw [if_pos (by decide)]
    exact wd_dUn H (by decide) fun σ4 H hu => ⟨H.mono (by omega), fun _ => ⟨rfl, hu⟩⟩
theorem wd_dPop (hw : σ.wf) (hD : PoolD A p) (hRD : RootD A root) (hl : σ.pu.length + 20 ≤ big) : wp (dPop p root r) σ fun e σ' => Wld A σ σ' 20 ∧ (e.2 ≠ 0 → e.1 = 0 ∧ (σ'.en = false → σ'.pu = σ.pu)) := by
  have s1 := sd_in r; have s2 := sd_in (!r)
  unfold dPop
  refine wd_mark ?_
  refine wd_get (Wld.start (A := A) hw) (hRD _ s1.1 (by omega)) fun en σ1 hen _ H => ?_
  split
  · exact wd_dUn H (by decide) fun σ4 H hu => ⟨H.mono (by omega), fun _ => ⟨rfl, hu⟩⟩
  · split
    · rename_i hn
      refine wd_get H (hD.n en (node_isN hn) _ s2.1 (by omega)) fun nx σ2 hnx _ H => ?_
      split
      · refine wd_put H (hRD _ s2.1 (by omega)) ⟨by decide, by decide⟩ (by omega) fun σ3 H => ?_
        exact Prog.wp_mono (wd_dPopT H hD hRD hn hnx rfl (by omega)) fun e σ' ⟨h1, h2⟩ => ⟨h1.mono (by omega), h2⟩
      · split
        · rename_i hn2
          refine wd_put H (hD.n nx (node_isN hn2) _ s1.1 (by omega)) ⟨by decide, by decide⟩ (by omega) fun σ3 H => ?_
          exact Prog.wp_mono (wd_dPopT H hD hRD hn hnx rfl (by omega)) fun e σ' ⟨h1, h2⟩ => ⟨h1.mono (by omega), h2⟩
        · exact wd_dUn H (by decide) fun σ4 H hu => ⟨H.mono (by omega), fun _ => ⟨rfl, hu⟩⟩
    · exact wd_dUn H (by decide) fun σ4 H hu => ⟨H.mono (by omega), fun _ => ⟨rfl, hu⟩⟩
/-- a peek reads wherever the words point -/
theorem wd_dPeek (hw : σ.wf) : wp (dPeek root r) σ fun e σ' => Wld All σ σ' 0 ∧ σ'.pu = σ.pu ∧ (e.2 ≠ 0 → e.1 = 0) := by
  unfold dPeek
  refine wd_get (Wld.start (A := All) hw) trivial fun en σ1 hen e1 H => ?_
  split
  · exact ⟨H, e1, fun _ => rfl⟩
  · refine wd_get H trivial fun x σ2 hx e2 H => ?_
    exact ⟨H, e2.trans e1, fun h => absurd rfl h⟩
theorem allD : PoolD All p := ⟨fun _ _ _ => trivial, fun _ _ _ _ _ => trivial⟩
theorem safe_dAct {x : A5} (hx : x.ok) (hw : σ.wf) (hp : σ.pu = []) : wp (dAct p x) σ fun _ _ => True := by
  have hb : σ.pu.length + 20 ≤ big := by rw [hp]; decide
  unfold dAct
  split
  · exact Prog.wp_mono (wd_dPop (A := All) hw allD (fun _ _ _ => trivial) hb) fun _ _ _ => trivial
  · split
    · exact Prog.wp_mono (wd_dPeek hw) fun _ _ _ => trivial
    · rw [wp_bind]
      exact Prog.wp_mono (wd_dPush (A := All) hw allD (fun _ _ _ => trivial) hx.v hb) fun _ _ _ => trivial
theorem cost_more {a n : Int} : costLe 2 (dMore a n) := by
  unfold dMore
  exact cost_gt fun v => cost_pt trivial
theorem cost_dUn {e m : Int} : costLe 0 (dUn e m) := by
  unfold dUn
  split <;> trivial
theorem cost_bind {α β : Type} {p : Prog α} {f : α → Prog β} {n m k : Nat} (hp : costLe n p) (hf : ∀ a, costLe m (f a)) (h : n + m ≤ k) : costLe k (p >>= f) := (costLe.bind hf hp).mono h
theorem cost_ptN {a v : Int} {α : Type} {q : Unit → Prog α} {n k : Nat} (h : costLe n (q ())) (hk : n + 1 ≤ k) : costLe k (pt a v >>= q) := (cost_pt h).mono hk
theorem cost_gtN {a : Int} {α : Type} {q : Int → Prog α} {n k : Nat} (h : ∀ v, costLe n (q v)) (hk : n + 1 ≤ k) : costLe k (gt a >>= q) := (cost_gt h).mono hk
theorem cost_mk {α : Type} {q : Int → Prog α} {n : Nat} (h : ∀ v, costLe n (q v)) : costLe n (mk >>= q) := h
theorem cost_dPushT {t : Int} : costLe 5 (dPushT root t r) := by
  unfold dPushT
  exact cost_ptN (n := 4) (cost_bind (m := 2) cost_more (fun _ => cost_bind (m := 0) cost_more (fun _ => cost_bind (m := 0) cost_dUn (fun _ => trivial) (by decide)) (by decide)) (by decide)) (by decide)
theorem cost_dPush {v : Int} : costLe 16 (dPush p root r v) := by
  unfold dPush
  refine cost_mk fun m => cost_bind (m := 10) cost_take (fun t => ?_) (by decide)
  refine cost_ite (cost_bind (m := 0) cost_dUn (fun _ => trivial) (by decide)) ?_
  refine cost_gtN (n := 9) (fun en => ?_) (by decide)
  refine cost_ptN (n := 8) ?_ (by decide)
  refine cost_ptN (n := 7) ?_ (by decide)
  refine cost_ptN (n := 6) ?_ (by decide)
  refine cost_ite (cost_ptN cost_dPushT (by decide)) (cost_ite (cost_ptN cost_dPushT (by decide)) (cost_bind (m := 0) cost_dUn (fun _ => trivial) (by decide)))
theorem cost_dPopT {en nx m : Int} : costLe 11 (dPopT p root en nx m r) := by
  unfold dPopT
  refine cost_ptN (n := 10) ?_ (by decide)
  refine cost_bind (m := 8) cost_more (fun _ => ?_) (by decide)
  refine cost_bind (m := 6) cost_more (fun _ => ?_) (by decide)
  refine cost_gtN (n := 5) (fun _ => ?_) (by decide)
  refine cost_bind (m := 0) cost_give (fun _ => ?_) (by decide)
  exact cost_ite (cost_bind (m := 0) cost_dUn (fun _ => trivial) (by decide)) (cost_bind (m := 0) cost_dUn (fun _ => trivial) (by decide))
theorem cost_dPop : costLe 16 (dPop p root r) := by
  unfold dPop
  refine cost_mk fun m => cost_gtN (n := 15) (fun en => ?_) (by decide)
  refine cost_ite (cost_bind (m := 0) cost_dUn (fun _ => trivial) (by decide)) (cost_ite ?_ (cost_bind (m := 0) cost_dUn (fun _ => trivial) (by decide)))
  refine cost_gtN (n := 14) (fun nx => ?_) (by decide)
  exact cost_ite (cost_ptN cost_dPopT (by decide)) (cost_ite (cost_ptN cost_dPopT (by decide)) (cost_bind (m := 0) cost_dUn (fun _ => trivial) (by decide)))
theorem cost_dAct {x : A5} : costLe 32 (dAct p x) := by
  unfold dAct
  refine cost_ite (cost_dPop.mono (by decide)) (cost_ite ?_ (cost_bind (m := 0) cost_dPush (fun _ => trivial) (by decide)))
  unfold dPeek
  exact cost_gtN (n := 1) (fun en => cost_ite trivial (cost_gtN (n := 0) (fun _ => trivial) (by decide))) (by decide)
end

/-! ### Contracts -/
structure CsD3 (S : Sys) (I : Ids) : Prop extends CsD2 S I where
  mm : CsM3 S I
  ddo : ∀ {x : A5} {p : Pl} {s}, x.ok → Does S I.f_simulcastlaw35_Act_do [mA x, s, vP p] s (dAct p x) uE
  rpush : ∀ {l : Value} {xs : List Int} {r : Bool} {v : Int} {h R}, Sl EI1 h l xs → xs.length ≤ 1000000 → (∀ u h', Cx (fun _ => False) h h' [rSl EI1 u (rPush r v xs)] → R u h') → S.C I.f_simulcastref35_Push [l, .bool r, .int .i64 v] h R
  rpeek : ∀ {l : Value} {xs : List Int} {r : Bool} {h R}, Sl EI1 h l xs → xs.length ≤ 1000000 → xs ≠ [] → R (.int .i64 (rPeek r xs)) h → S.C I.f_simulcastref35_Peek [l, .bool r] h R
  rpop : ∀ {l : Value} {xs : List Int} {r : Bool} {h R}, Sl EI1 h l xs → xs.length ≤ 1000000 → (∀ u h', Cx (fun _ => False) h h' [rSl EI1 u (rPop r xs)] → R u h') → S.C I.f_simulcastref35_Pop [l, .bool r] h R
  rwalk : ∀ {l : Value} {xs : List Int} {r : Bool} {h R}, Sl EI1 h l xs → xs.length ≤ 1000000 → (∀ u h', Cx (fun _ => False) h h' [rSl EI1 u (ori r xs)] → R u h') → S.C I.f_simulcastref35_Walk [l, .bool r] h R
  eq64 : ∀ {a b : Value} {xs : List Int} {h R}, xs.length ≤ 1000000 → Sl EI1 h a xs → Sl EI1 h b xs → R (.bool true) h → S.C I.f_slices_Equal_int64_int64 [a, b] h R
  told : ∀ {α β : Type} {C : β → Res} {fn : Value} {p : Prog α} {out : β → α → β} {b0 : β} {u : MS} {g : Nat → W3} {n k : Nat} {Q : α → Spc → Prop} {F0 h0 h R},
    n ≤ 4096 → GW n g k → k < 4294967295 → (∀ σ, σ.wf → σ.pu = [] → wp p σ fun _ _ => True) → Acts S fn C p out → costLe 32 p →
    wp p (newS (knF g n)) Q → (∀ a σ', Q a σ' → σ'.en = false) → Cx F0 h0 h [rSl EW (sV u) (wsF g n), C b0] →
    (∀ b a σ' u' h', Q a σ' → OnG n g σ' → Cx F0 h0 h' [rSl EW (sV u') (wsF (nxt g σ') n), C (out b a)] → R (.tuple #[mM u', .bool true]) h') → S.C I.f_simulcastlaw32_Told [mM u, fn] h R
  acts35 : ∀ {a b c d e h R}, F_simulcastlaw35_DequeActs_1 S I a b c d e h R → S.C I.f_simulcastlaw35_DequeActs_1 [a, b, c, d, e] h R
  awk35 : ∀ {a b c h R}, F_simulcastlaw35_awake_1 S I a b c h R → S.C I.f_simulcastlaw35_awake_1 [a, b, c] h R
theorem Cx.dwalk {p : Pl} {root : Int} {r : Bool} {Q : Option (List Int) → Spc → Prop} (cs : CsD2 S I) (c : Cx F0 h0 h L) (i : Nat) (hi : L[i]? = some (rSpace s σ)) (hr : 0 ≤ root ∧ root ≤ 1000000) (hp0 : 0 ≤ p.nodes ∧ p.nodes ≤ 1000) (hp : wp (dWalk p root r) σ Q)
    (k : ∀ (o : Option (List Int)) σ' v h', Cx F0 h0 h' (L.set i (rSpace s σ') ++ [rSl EI1 v (o.getD [])]) → Q o σ' → R (.tuple #[v, .int .i64 (if o.isSome then 0 else 24)]) h') : S.C I.f_deque_Walk [s, vP p, .int .i64 root, .bool r] h R := by
  obtain ⟨F1, c1, up⟩ := c.frame hi
  refine cs.dwalk hr hp0 c1 hp fun o σ' v h' M c2 hq => k o σ' v h' ?_ hq
  have c3 : Cx F0 h0 h' (L.set i (rSpace s σ') ++ ([rSl EI1 v (o.getD [])] ++ M)) := up c2
  rw [← List.append_assoc] at c3
  exact c3.drop
theorem acts_D {x : A5} {p : Pl} {r1 r2 r3 r4 : Nat} (cs : CsD3 S I) (hx : x.ok) : Acts S (.func (.func I.f_simulcastlaw35_DequeActs_1) #[] #[at0 r1, at0 r2, at0 r3, at0 r4]) (fun b : Int × Int => rStar [rVar EA5 r1 x, rVar EPl r2 p, rVar EI1 r3 b.1, rVar EI1 r4 b.2]) (dAct p x) (fun _ a => a) := by
  intro b s σ h0 F0 h R c hp
  refine .inl ⟨_, _, _, rfl, ?_⟩
  refine cs.acts35 ?_
  have c := Cx.unpack (L := [rSpace s σ]) c
  unfold F_simulcastlaw35_DequeActs_1
  rw [(c.va (i := 1) rfl).whole (n := 3) rfl, vb_some, plA (i := 2) c rfl, vb_some]
  refine c.last (cs.ddo hx) 0 rfl hp fun a σ' h1 c hq => ?_
  unfold uE
  refine ext0t (ext1t ?_)
  refine c.sto1 3 rfl a.1 rfl rfl fun h2 c => ?_
  refine c.sto1 4 rfl a.2 rfl rfl fun h3 c => ?_
  exact hq _ (Cx.pack (L := [_]) c)
theorem acts_W5 {x : A5} {p : Pl} {r1 r2 : Nat} (cs : CsD3 S I) (hx : x.ok) : Acts S (.func (.func I.f_simulcastlaw35_awake_1) #[] #[at0 r1, at0 r2]) (fun _ : Unit => rStar [rVar EA5 r1 x, rVar EPl r2 p]) (dAct p x) (fun _ _ => ()) := by
  intro b s σ h0 F0 h R c hp
  refine .inl ⟨_, _, _, rfl, ?_⟩
  refine cs.awk35 ?_
  have c := Cx.unpack (L := [rSpace s σ]) c
  unfold F_simulcastlaw35_awake_1
  rw [(c.va (i := 1) rfl).whole (n := 3) rfl, vb_some, plA (i := 2) c rfl, vb_some]
  refine c.last (cs.ddo hx) 0 rfl hp fun a σ' h1 c hq => ?_
  exact hq _ (Cx.pack (L := [_]) c)

theorem K_nodes35 {n : Nat} (cs : CsM3 S I) (hn : n ≤ 100) (hR : ∀ u h', Cx (fun _ => False) h h' [rSl EW (sV u) (wsF (fun _ => W0) (N35 n))] → R (.tuple #[vP (p35 n), mM u]) h') : F_simulcastlaw35_nodes S I (.int .i64 n) h R := by
  unfold F_simulcastlaw35_nodes
  refine (Cx.start0 h).nw EPl ⟨0, 0, 0⟩ rfl fun r1 h1 c => ?_
  refine c.nw EMd (none, 0, 0) rfl fun r2 h2 c => ?_
  refine vb (v := vP (p35 n)) (by kernel_rfl) ?_
  refine vb (v := .int .i64 (8 * n)) (by rw [bin_mul, wr64 (by omega)]) ?_
  refine vb (v := .int .i64 (16 + 8 * n)) (by rw [bin_add, wr64 (by omega)]) ?_
  refine c.mksl EW W0 (n := N35 n) (by show (16 + 8 * (n : Int)) = ((16 + 8 * n : Nat) : Int); omega) rfl rfl (by show 16 + 8 * n ≤ _; omega) (by omega) fun a h3 c => ?_
  have e0 : List.replicate (N35 n) W0 = wsF (fun _ => W0) (N35 n) := by unfold wsF; rw [List.map_const', List.length_range]
  rw [e0] at c
  refine cs.mnew (ws := wsF (fun _ => W0) (N35 n)) (by rw [wsF_len]; show 16 + 8 * n ≤ _; omega) (fun w hw => by obtain ⟨i, hi, rfl⟩ := List.mem_map.1 hw; rfl) (c.sl (i := 2) rfl).sl fun u h8 c2 => ?_
  have c := c.frame0 c2
  refine c.sto 0 rfl (p35 n) rfl rfl fun h9 c => ?_
  refine c.sto (n := 1) 1 rfl u rfl rfl fun h9 c => ?_
  rw [plA (i := 0) c rfl, vb_some, mM_of (i := 1) c rfl, vb_some]
  exact hR u _ (c.pick [3])
theorem K_whole35 {u : MS} {g : Nat → W3} {N : Nat} (cs : CsM3 S I) (hN : N ≤ 5000) (hg : ∀ i, i < N → R64 (g i).v) (hs : Sl EW h (sV u) (wsF g N)) (hR : ∀ s h', Cx (fun _ => False) h h' [rSpace s (newS (knF g N))] → R s h') : F_simulcastlaw35_whole S I (mM u) h R := by
  unfold F_simulcastlaw35_whole
  refine (Cx.start0 h).nw EMd u rfl fun rm h1 c => ?_
  refine c.mmk .i64 mW fun km h2 c => ?_
  rw [mM_of (i := 0) c rfl, vb_some]
  refine cs.words (ws := wsF g N) (by rw [wsF_len]; omega) (hs.gr c.gr) fun w h3 c2 => ?_
  have c := c.frame0 c2
  rw [(c.sl (i := 2) rfl).sl.ln, wsF_len, vb_some]
  refine Lp1.by (fun (j : Nat) v h' => v = .int .i64 j ∧ j ≤ N ∧ Cx (fun _ => False) h h' [rMp .i64 mW (.map (some km)) (knF g j), rSl EW (sV w) (wsF g N)]) (fun j => N - j) 0 ⟨rfl, Nat.zero_le _, c.pick [1, 2]⟩ ?_
  clear c c2
  rintro j v h4 ⟨rfl, hj, c⟩ again hagain
  rw [bin_lss, vb_some]
  refine brd (fun h5 => ?_) fun h5 => ?_
  · refine (c.sl (i := 1) rfl).sl.whole rfl (wsF_get (i := j) (by omega)) rfl ?_
    refine c.nw EW W0 rfl fun r h5 c => ?_
    refine c.sto 2 rfl (g j) rfl rfl fun h6 c => ?_
    rw [(c.va (i := 2) rfl).whole (n := 3) rfl, vb_some]
    refine c.mup 0 rfl (j : Int) (g j) rfl fun h7 c => ?_
    rw [knF_upd] at c
    rw [bin_add, vb_some, wrS (by omega)]
    exact hagain (j + 1) _ _ ⟨rfl, by omega, c.pick [0, 1]⟩ (by omega)
  · have ej : j = N := by omega
    subst ej
    refine c.cNew cs.toCsD 0 rfl (knF_nodup _ _) (knF_val hg) fun s h4 c => ?_
    exact hR s _ (c.pick [2])
end Go.En
namespace Go.En
open Prog Spc Go.Sort

variable {S : Sys} {I : Ids} {h h0 h' : Hp} {F F0 : Fp} {R : Value → Hp → Prop} {L : List Res} {s : Value} {σ τ : Spc}

/-- a deque in a space, c writes behind -/
def D1 (D : Int → Prop) (p : Pl) (root : Int) (vs : List Int) (c : Nat) (σ : Spc) : Prop := PoolD D p ∧ RootD D root ∧ RA p root ∧ c + 40 ≤ big ∧ ∃ m, Sm D σ σ m 0 ∧ DSt p root m vs ∧ σ.pu.length ≤ c
section
variable {D : Int → Prop} {p : Pl} {root v : Int} {vs : List Int} {c : Nat} {r : Bool}
theorem DSt.cnt {m : Int → Int} (X : DSt p root m vs) : m (root + 2) = vs.length ∧ m (root + 7) = vs.length ∧ (vs.length : Int) ≤ p.nodes := by
  obtain ⟨l, fr, out, P, K, H, hc⟩ := X
  have := P.out1
  rw [K.len]
  exact ⟨K.n2, K.n7, by omega⟩
theorem D1.len (H : D1 D p root vs c σ) : (vs.length : Int) ≤ p.nodes := by
  obtain ⟨_, _, _, _, m, S, X, _⟩ := H
  exact X.cnt.2.2
theorem D1.mono (H : D1 D p root vs c σ) {c' : Nat} (h : c ≤ c') (h2 : c' + 40 ≤ big) : D1 D p root vs c' σ := by
  obtain ⟨hD, hR, hA, hc, m, S, X, hl⟩ := H
  exact ⟨hD, hR, hA, h2, m, S, X, by omega⟩
theorem D1.of {m : Int → Int} {σ' : Spc} {k : Nat} {ws : List Int} (H : D1 D p root vs c σ) (hb : c + k + 40 ≤ big) (S : Sm D σ σ' m k) (X : DSt p root m ws) : D1 D p root ws (c + k) σ' := by
  obtain ⟨hD, hR, hA, hc, _, _, _, hl⟩ := H
  have := S.len
  exact ⟨hD, hR, hA, hb, m, S.fresh, X, by omega⟩
theorem D1.push (H : D1 D p root vs c σ) (hv : R64 v) (hb : c + 12 + 40 ≤ big) : wp (dPush p root r v) σ fun e σ' => (e = 0 ∧ (vs.length : Int) < p.nodes ∧ D1 D p root (rPush r v vs) (c + 12) σ') ∨ (e = 9 ∧ p.nodes ≤ vs.length ∧ D1 D p root vs (c + 12) σ') := by
  have H' := H
  obtain ⟨hD, hR, hA, hc, m, S, X, hl⟩ := H
  refine Prog.wp_mono (wp_push1 S X hD hR hA hv (by omega)) fun e σ' hq => ?_
  rcases hq with ⟨e1, e2, m', S', X'⟩ | ⟨e1, e2, S'⟩
  · exact .inl ⟨e1, e2, H'.of hb S' X'⟩
  · exact .inr ⟨e1, e2, H'.of hb S' X⟩
theorem D1.pop (H : D1 D p root vs c σ) (hb : c + 12 + 40 ≤ big) : wp (dPop p root r) σ fun e σ' => (vs.length ≠ 0 ∧ e = (rPeek r vs, 0) ∧ D1 D p root (rPop r vs) (c + 12) σ') ∨ (e = (0, 8) ∧ vs = [] ∧ D1 D p root vs (c + 12) σ') := by
  have H' := H
  obtain ⟨hD, hR, hA, hc, m, S, X, hl⟩ := H
  refine Prog.wp_mono (wp_pop1 S X hD hR hA (by omega)) fun e σ' hq => ?_
  rcases hq with ⟨e1, e2, m', S', X'⟩ | ⟨e1, e2, S'⟩
  · exact .inl ⟨e1, e2, H'.of hb S' X'⟩
  · exact .inr ⟨e1, e2, H'.of hb S' X⟩
theorem D1.peek (H : D1 D p root vs c σ) : wp (dPeek root r) σ fun e σ' => D1 D p root vs c σ' ∧ ((vs.length ≠ 0 ∧ e = (rPeek r vs, 0)) ∨ (vs = [] ∧ e = (0, 8))) := by
  have H' := H
  obtain ⟨hD, hR, hA, hc, m, S, X, hl⟩ := H
  exact Prog.wp_mono (wp_peek1 S X hD hR) fun e σ' ⟨S', hq⟩ => ⟨H'.of hc S' X, hq⟩
theorem D1.walk (H : D1 D p root vs c σ) : wp (dWalk p root r) σ fun o σ' => o = some (ori r vs) ∧ D1 D p root vs c σ' := by
  have H' := H
  obtain ⟨hD, hR, hA, hc, m, S, X, hl⟩ := H
  exact Prog.wp_mono (wp_walk1 S X hD hR) fun e σ' ⟨hq, S'⟩ => ⟨hq, H'.of hc S' X⟩
theorem D1.cnt (H : D1 D p root vs c σ) : wp (gt (root + 2)) σ fun n σ' => n = vs.length ∧ D1 D p root vs c σ' := by
  have H' := H
  obtain ⟨hD, hR, hA, hc, m, S, X, hl⟩ := H
  rw [wp_gt, S.get (hR 2 (by omega) (by omega))]
  exact ⟨X.cnt.1, H'.of hc (S.rds _) X⟩
theorem D1.left (H : D1 D p root vs c σ) : wp (pLeft p) σ fun n σ' => n = p.nodes - vs.length ∧ D1 D p root vs c σ' := by
  have H' := H
  obtain ⟨hD, hR, hA, hc, m, S, X, hl⟩ := H
  have X' := X
  obtain ⟨l, fr, out, P, K, Hh, hcc⟩ := X
  refine wp_ret' (wp_left1 S P hD fun σ' S' => ?_)
  have := K.len
  exact ⟨by omega, H'.of hc S' X'⟩
end
theorem Dm.d1 {n : Nat} {g : Nat → W3} {vs : List Int} {k : Nat} (H : Dm n g vs k) (hn : n ≤ 100) : D1 (D35 n) (p35 n) 8 vs 0 (newS (knF g (N35 n))) :=
  have hh := p35_D (n := (n : Int)) ⟨by omega, by omega⟩
  ⟨hh.1, hh.2.1, hh.2.2, by decide, _, H.sm, H.st, Nat.le_refl 0⟩

structure CsD4 (S : Sys) (I : Ids) : Prop extends CsD3 S I where
  nodes35 : ∀ {n : Nat} {h R}, n ≤ 100 → (∀ u h', Cx (fun _ => False) h h' [rSl EW (sV u) (wsF (fun _ => W0) (N35 n))] → R (.tuple #[vP (p35 n), mM u]) h') → S.C I.f_simulcastlaw35_nodes [.int .i64 n] h R
  whole35 : ∀ {u : MS} {g : Nat → W3} {N : Nat} {h R}, N ≤ 5000 → (∀ i, i < N → R64 (g i).v) → Sl EW h (sV u) (wsF g N) → (∀ s h', Cx (fun _ => False) h h' [rSpace s (newS (knF g N))] → R s h') → S.C I.f_simulcastlaw35_whole [mM u] h R
  dref : ∀ {x : A5} {l : Value} {xs : List Int} {n : Int} {h R}, x.ok → Sl EI1 h l xs → xs.length ≤ 1000000 → ((dRes n xs x).1 = xs → ∀ h', Gr h h' → R (.tuple #[l, .int .i64 (dRes n xs x).2.1, .int .i64 (dRes n xs x).2.2]) h') →
    (∀ u h', Cx (fun _ => False) h h' [rSl EI1 u (dRes n xs x).1] → R (.tuple #[u, .int .i64 (dRes n xs x).2.1, .int .i64 (dRes n xs x).2.2]) h') → S.C I.f_simulcastlaw35_Act_ref [mA x, l, .int .i64 n] h R

theorem Cx.dref {x : A5} {l : Value} {xs : List Int} {n : Int} (cs : CsD4 S I) (c : Cx F0 h0 h L) (i : Nat) (hi : L[i]? = some (rSl EI1 l xs)) (hx : x.ok) (hN : xs.length ≤ 1000000)
    (k : ∀ w h', Cx F0 h0 h' (L.set i (rSl EI1 w (dRes n xs x).1)) → R (.tuple #[w, .int .i64 (dRes n xs x).2.1, .int .i64 (dRes n xs x).2.2]) h') : S.C I.f_simulcastlaw35_Act_ref [mA x, l, .int .i64 n] h R := by
  refine cs.dref hx (c.sl hi).sl hN (fun e h' g => ?_) fun w h' c2 => k w h' ((c.frame0 c2).repl hi)
  refine k l h' ?_
  rw [e]
  have hlt := (List.getElem?_eq_some_iff.1 hi).1
  have he := (List.getElem?_eq_some_iff.1 hi).2
  rw [← he, List.set_getElem_self]
  exact c.more g
theorem K_is35 {n : Nat} {u : MS} {g : Nat → W3} {vs : List Int} {k : Nat} {l : Value} (cs : CsD4 S I) (H : Dm n g vs k) (hn : n ≤ 100) (hs : Sl EW h (sV u) (wsF g (N35 n))) (hl : Sl EI1 h l vs) (hR : ∀ h', Gr h h' → R (.bool true) h') :
    F_simulcastlaw35_is S I (mM u) (vP (p35 n)) l h R := by
  have hcnt := H.st.cnt
  have H1 := H.d1 hn
  have hvl := H1.len
  have hvl : (vs.length : Int) ≤ n := hvl
  have hvN : vs.length ≤ 1000000 := by omega
  unfold F_simulcastlaw35_is
  refine (Cx.start0 h).nw EMd u rfl fun rm h1 c => ?_
  refine c.nw EPl (p35 n) rfl fun rp h2 c => ?_
  rw [mM_of (i := 0) c rfl, vb_some]
  refine cs.whole35 (N := N35 n) (by show 16 + 8 * n ≤ _; omega) H.v (hs.gr c.gr) fun s h3 c2 => ?_
  have c := c.frame0 c2
  rw [(c.eqP0 (i := 2) rfl), pos_some, vb_some, br_false, plA (i := 1) c rfl, vb_some]
  have hnd : 0 ≤ (p35 n).nodes ∧ (p35 n).nodes ≤ 1000 := ⟨by show (0 : Int) ≤ n; omega, by show (n : Int) ≤ 1000; omega⟩
  refine c.dwalk cs.toCsD2 2 rfl ⟨by decide, by decide⟩ hnd (H1.walk (r := false)) fun o σ1 v1 h4 c hq => ?_
  obtain ⟨rfl, H1⟩ := hq
  refine ext0t (ext1t ?_)
  rw [plA (i := 1) c rfl, vb_some]
  refine c.dwalk cs.toCsD2 2 rfl ⟨by decide, by decide⟩ hnd (H1.walk (r := true)) fun o σ2 v2 h5 c hq => ?_
  obtain ⟨rfl, H1⟩ := hq
  refine ext0t (ext1t ?_)
  rw [mM_of (i := 0) c rfl, vb_some]
  refine cs.mm.at' (u := u) (ws := wsF g (N35 n)) (by rw [wsF_len]; show 16 + 8 * n ≤ _; omega) (hs.gr c.gr) fun h6 g6 => ?_
  have c := c.more g6
  refine ext0t (ext1t ?_)
  have h15 : (wAt (wsF g (N35 n)) 15).getD W0 = g 15 := by
    rw [wsF_at ⟨by decide, by show (15 : Int) < ((16 + 8 * n : Nat) : Int); omega⟩]; rfl
  have e15 : (g 15).v = vs.length := by
    have := hcnt.2.1
    rw [mG_at H.toGW, if_pos ⟨by decide, by show (8 + 7 : Int) < ((16 + 8 * n : Nat) : Int); omega⟩] at this
    exact this
  rw [h15]
  refine c.nw EW W0 rfl fun r h7 c => ?_
  refine c.sto 5 rfl (g 15) rfl rfl fun h8 c => ?_
  refine .here ?_
  refine vb (v := .bool true) rfl ?_
  rw [br_true]
  refine vb (v := .bool true) rfl ?_
  rw [br_true]
  refine cs.rwalk (hl.gr c.gr) hvN fun w1 h9 c2 => ?_
  have c := c.frame0 c2
  refine cs.eq64 hvN (c.sl (i := 3) rfl).sl (c.sl (i := 6) rfl).sl ?_
  rw [br_true]
  refine cs.rwalk (hl.gr c.gr) hvN fun w2 h10 c2 => ?_
  have c := c.frame0 c2
  refine cs.eq64 (xs := ori true vs) (by rw [ori_len]; exact hvN) (c.sl (i := 4) rfl).sl (c.sl (i := 7) rfl).sl ?_
  rw [br_true, hl.gr c.gr |>.ln, vb_some]
  refine c.last (cs.dlen ⟨by decide, by decide⟩) 2 rfl H1.cnt fun a σ3 h11 c hq => ?_
  obtain ⟨rfl, H1⟩ := hq
  unfold uI
  rw [eqI, vb_some, br_true]
  refine (c.va (i := 5) rfl).fld (j := 0) rfl ?_
  rw [e15, vb_some, eqI, vb_some, br_true, plA (i := 1) c rfl, vb_some, vb_some]
  rw [show fa 2 (at0 rp) = some (.pointer (some ⟨rp, 0 + 2, none⟩)) from fa_add _ _ _, vb_some, show ldc (.pointer (some ⟨rp, 0 + 2, none⟩)) h11 = some (.int .i64 n) from (c.va (i := 1) rfl).row.ldc (j := 2) rfl, vb_some]
  refine c.last cs.left 2 rfl H1.left fun a σ4 h12 c hq => ?_
  obtain ⟨rfl, H1⟩ := hq
  refine ⟨(c.va (i := 1) rfl).row.ldc (j := 2) rfl, ?_⟩
  unfold uI
  refine vb (v := .int .i64 n) ?_ ?_
  · show bin .add (.int .i64 ((n : Int) - vs.length)) (.int .i64 vs.length) = _
    rw [bin_add, wr64 (by omega), Int.sub_add_cancel]
  · rw [eqI, vb_some]
    exact hR _ c.gr

/-! ### The example -/
def run5 (n : Int) (xs : List A5) : List Int := xs.foldl (fun vs x => (dRes n vs x).1) []
theorem run5_take {n : Int} {xs : List A5} {i : Nat} {x : A5} (h : xs[i]? = some x) : run5 n (xs.take (i + 1)) = (dRes n (run5 n (xs.take i)) x).1 := by
  unfold run5
  rw [List.take_add_one, h, Option.toList_some, List.foldl_append]; rfl
abbrev ex5 : List A5 := [⟨0, true, 1⟩, ⟨0, true, 2⟩, ⟨0, false, 3⟩]
structure CsD5 (S : Sys) (I : Ids) : Prop extends CsD4 S I where
  is35 : ∀ {n : Nat} {u : MS} {g : Nat → W3} {vs : List Int} {k : Nat} {l : Value} {h R}, Dm n g vs k → n ≤ 100 → Sl EW h (sV u) (wsF g (N35 n)) → Sl EI1 h l vs → (∀ h', Gr h h' → R (.bool true) h') → S.C I.f_simulcastlaw35_is [mM u, vP (p35 n), l] h R
theorem K_awake35 (cs : CsD5 S I) (hR : ∀ h', Gr h h' → R (.bool true) h') : F_simulcastlaw35_awake S I h R := by
  unfold F_simulcastlaw35_awake
  refine cs.nodes35 (n := 3) (by decide) fun u h1 c => ?_
  refine ext0t (ext1t ?_)
  refine c.nw EPl ⟨0, 0, 0⟩ rfl fun rp h2 c => ?_
  refine c.nw EMd (none, 0, 0) rfl fun rm h3 c => ?_
  refine c.sto 1 rfl (p35 3) rfl rfl fun h4 c => ?_
  refine c.sto (n := 1) 2 rfl u rfl rfl fun h5 c => ?_
  refine vb (v := mA ⟨0, true, 1⟩) (by kernel_rfl) (vb (v := mA ⟨0, true, 2⟩) (by kernel_rfl) (vb (v := mA ⟨0, false, 3⟩) (by kernel_rfl) ?_))
  refine c.bslN EA5 ex5 [mA ⟨0, true, 1⟩, mA ⟨0, true, 2⟩, mA ⟨0, false, 3⟩] rfl rfl rfl (fun u hu => by simp only [List.mem_cons, List.not_mem_nil, or_false] at hu; rcases hu with rfl | rfl | rfl <;> rfl) rfl fun a h6 c => ?_
  refine vb (v := .int .i64 3) rfl ?_
  refine Lp2.by (fun (x : Nat × (Nat → W3) × MS) v0 v1 h' => v0 = .bool true ∧ v1 = .int .i64 x.1 ∧ x.1 ≤ 3 ∧ Dm 3 x.2.1 (run5 3 (ex5.take x.1)) x.1 ∧ Cx (fun _ => False) h h' [rVar EPl rp (p35 3), rVar EMd rm x.2.2, rSl EA5 (.slice (some a) 3 3) ex5, rSl EW (sV x.2.2) (wsF x.2.1 (N35 3))]) (fun x => 3 - x.1) (0, fun _ => W0, u)
    ⟨rfl, rfl, Nat.zero_le _, Dm.start (by decide), c.pick [1, 2, 3, 0]⟩ ?_
  clear c
  rintro ⟨i, g, u⟩ v0 v1 h7 ⟨rfl, rfl, hi, H, c⟩ again hagain
  dsimp only at *
  rw [bin_lss, vb_some]
  refine brd (fun hlt => ?_) fun hge => ?_
  · refine Jn1.at (fun v h' => v = .bool true ∧ ∃ g' u', Dm 3 g' (run5 3 (ex5.take (i + 1))) (i + 1) ∧ Cx (fun _ => False) h h' [rVar EPl rp (p35 3), rVar EMd rm u', rSl EA5 (.slice (some a) 3 3) ex5, rSl EW (sV u') (wsF g' (N35 3))]) ?_ ?_
    · have hx : ex5[i]? = some (ex5[i]'(by show i < 3; omega)) := List.getElem?_eq_getElem _
      have hok : (ex5[i]'(by show i < 3; omega)).ok := by
        have hm : (ex5[i]'(by show i < 3; omega)) ∈ ex5 := List.getElem_mem _
        have : ∀ x ∈ ex5, x.ok := fun x hx => by
          simp only [List.mem_cons, List.not_mem_nil, or_false] at hx
          rcases hx with rfl | rfl | rfl <;> exact ⟨by decide, by decide⟩
        exact this _ hm
      have hrun := run5_take (n := 3) hx
      generalize ex5[i]'(by show i < 3; omega) = x at *
      refine (c.sl (i := 2) rfl).sl.whole rfl hx rfl ?_
      refine c.nw EA5 ⟨0, false, 0⟩ rfl fun rx h8 c => ?_
      refine c.sto 4 rfl x rfl rfl fun h9 c => ?_
      rw [mM_of (i := 1) c rfl, vb_some, vb_some]
      have c := Cx.pack (L := [rVar EMd rm u, rSl EA5 (.slice (some a) 3 3) ex5, rSl EW (sV u) (wsF g (N35 3))]) (M := [rVar EA5 rx x, rVar EPl rp (p35 3)]) (c.pick [1, 2, 3, 4, 0])
      obtain ⟨F1, c1, hF1, up⟩ := Cx.frameL (L := [rVar EMd rm u, rSl EA5 (.slice (some a) 3 3) ex5]) (M := [rSl EW (sV u) (wsF g (N35 3)), rStar [rVar EA5 rx x, rVar EPl rp (p35 3)]]) c
      refine cs.told (C := fun _ : Unit => rStar [rVar EA5 rx x, rVar EPl rp (p35 3)]) (b0 := ()) (by decide) H.toGW (by omega) (fun σ hw hp => safe_dAct hok hw hp) (acts_W5 cs.toCsD3 hok) cost_dAct (H.act (by decide) hok) (fun a σ' hq => hq.1) c1 fun b a σ' u' h10 hq O c2 => ?_
      have c := Cx.unpack (L := [rVar EMd rm u, rSl EA5 (.slice (some _) 3 3) ex5, rSl EW (sV u') (wsF (nxt g σ') (N35 3))]) (up c2)
      clear c1 c2 up
      have H' := H.next O hq.2.2
      rw [show dRes ((3 : Nat) : Int) = dRes 3 from rfl, ← hrun] at H'
      refine ext0t (ext1t ?_)
      refine c.nw EMd (none, 0, 0) rfl fun rn h11 c => ?_
      refine c.sto (n := 1) 5 rfl u' rfl rfl fun h12 c => ?_
      rw [mM_of (i := 5) c rfl, vb_some, br_true]
      refine c.sto (n := 1) 0 rfl u' rfl rfl fun h13 c => ?_
      exact ⟨rfl, _, u', H', c.pick [4, 0, 1, 2]⟩
    · rintro v h8 ⟨rfl, g', u', H', c⟩
      rw [bin_add, vb_some, wrS (by omega)]
      exact hagain (i + 1, g', u') _ _ _ ⟨rfl, rfl, by dsimp only; omega, H', c⟩ (by dsimp only; omega)
  · have e3 : i = 3 := by omega
    subst e3
    refine .here ?_
    rw [br_true, mM_of (i := 1) c rfl, vb_some, plA (i := 0) c rfl, vb_some]
    refine c.bslN EI1 [3, 1, 2] [.int .i64 3, .int .i64 1, .int .i64 2] rfl rfl rfl (fun u hu => by simp only [List.mem_cons, List.not_mem_nil, or_false] at hu; rcases hu with rfl | rfl | rfl <;> rfl) rfl fun b h8 c => ?_
    have e : run5 3 (ex5.take 3) = [3, 1, 2] := by decide
    rw [e] at H
    refine cs.is35 H (by decide) (c.sl (i := 3) rfl).sl (c.sl (i := 4) rfl).sl fun h9 gg => ?_
    exact hR _ (Gr.trans c.gr gg)
structure CsD6 (S : Sys) (I : Ids) : Prop extends CsD5 S I where
  awake35 : ∀ {h R}, (∀ h', Gr h h' → R (.bool true) h') → S.C I.f_simulcastlaw35_awake [] h R
theorem L_DequeActs {k : Int} {acts : List A5} {b1 : Value} (cs : CsD6 S I) (hk : 0 ≤ k ∧ k ≤ 255) (s1 : Sl EA5 h b1 acts) (w1 : ∀ x ∈ acts, x.ok) (hR : ∀ h', Gr h h' → R (.bool true) h') :
    F_simulcastlaw35_DequeActs S I (.int .u8 k) b1 h R := by
  unfold F_simulcastlaw35_DequeActs
  refine vb (v := .int .u8 (k % 9)) (by rw [bin_rem (by omega), Int.tmod_eq_emod_of_nonneg hk.1]) ?_
  refine vb (v := .int .i64 (k % 9)) (by rw [cvi_int, wr64 (by omega)]) ?_
  obtain ⟨n, hn⟩ : ∃ n : Nat, k % 9 = n := ⟨(k % 9).toNat, by omega⟩
  have hn9 : n ≤ 100 := by omega
  rw [hn, s1.ln, vb_some, bin_gtr, vb_some]
  refine brd (fun _ => cs.awake35 hR) fun hlen => ?_
  refine cs.nodes35 hn9 fun u h1 c => ?_
  refine ext0t (ext1t ?_)
  refine c.nw EPl ⟨0, 0, 0⟩ rfl fun rp h2 c => ?_
  refine c.nw EMd (none, 0, 0) rfl fun rm h3 c => ?_
  refine c.sto 1 rfl (p35 n) rfl rfl fun h4 c => ?_
  refine c.sto (n := 1) 2 rfl u rfl rfl fun h5 c => ?_
  rw [vb_some]
  have c := c.nil EI1
  refine Lp2.by (fun (x : Nat × (Nat → W3) × List Int × MS) v0 v1 h' => v1 = .int .i64 x.1 ∧ x.1 ≤ acts.length ∧ Dm n x.2.1 x.2.2.1 x.1 ∧ Cx (fun _ => False) h h' [rVar EPl rp (p35 n), rVar EMd rm x.2.2.2, rSl EI1 v0 x.2.2.1, rSl EW (sV x.2.2.2) (wsF x.2.1 (N35 n))]) (fun x => acts.length - x.1) (0, fun _ => W0, [], u)
    ⟨rfl, Nat.zero_le _, Dm.start hn9, c.pick [1, 2, 3, 0]⟩ ?_
  clear c
  rintro ⟨i, g, vs, u⟩ v0 v1 h7 ⟨rfl, hi, H, c⟩ again hagain
  dsimp only at *
  have hvl := (H.d1 hn9).len
  have hvl : (vs.length : Int) ≤ n := hvl
  rw [bin_lss, vb_some]
  refine brd (fun hlt => ?_) fun _ => cs.awake35 fun h2 g => hR _ (Gr.trans c.gr g)
  have hx : acts[i]? = some acts[i] := List.getElem?_eq_getElem (by omega)
  have hok := w1 acts[i] (List.getElem_mem _)
  generalize acts[i] = x at *
  refine (s1.gr c.gr).whole rfl hx rfl ?_
  refine c.nw EA5 ⟨0, false, 0⟩ rfl fun rx h8 c => ?_
  refine c.sto 4 rfl x rfl rfl fun h9 c => ?_
  refine c.nw EI1 0 rfl fun rv h10 c => ?_
  refine c.nw EI1 0 rfl fun re h11 c => ?_
  rw [mM_of (i := 1) c rfl, vb_some, vb_some]
  have c := Cx.pack (L := [rVar EMd rm u, rSl EI1 v0 vs, rSl EW (sV u) (wsF g (N35 n))]) (M := [rVar EA5 rx x, rVar EPl rp (p35 n), rVar EI1 rv 0, rVar EI1 re 0]) (c.pick [1, 2, 3, 4, 0, 5, 6])
  obtain ⟨F1, c1, hF1, up⟩ := Cx.frameL (L := [rVar EMd rm u, rSl EI1 v0 vs]) (M := [rSl EW (sV u) (wsF g (N35 n)), rStar [rVar EA5 rx x, rVar EPl rp (p35 n), rVar EI1 rv 0, rVar EI1 re 0]]) c
  refine cs.told (C := fun b : Int × Int => rStar [rVar EA5 rx x, rVar EPl rp (p35 n), rVar EI1 rv b.1, rVar EI1 re b.2]) (b0 := (0, 0)) (by show 16 + 8 * n ≤ _; omega) H.toGW (by omega) (fun σ hw hp => safe_dAct hok hw hp) (acts_D cs.toCsD3 hok) cost_dAct (H.act hn9 hok) (fun a σ' hq => hq.1) c1 fun b a σ' u' h12 hq O c2 => ?_
  have c := Cx.unpack (L := [rVar EMd rm u, rSl EI1 v0 vs, rSl EW (sV u') (wsF (nxt g σ') (N35 n))]) (up c2)
  clear c1 c2 up
  have H' := H.next O hq.2.2
  have ha := hq.2.1
  refine ext0t (ext1t ?_)
  refine c.nw EMd (none, 0, 0) rfl fun rn h13 c => ?_
  refine c.sto (n := 1) 7 rfl u' rfl rfl fun h14 c => ?_
  rw [(c.va (i := 3) rfl).whole (n := 3) rfl, vb_some]
  refine c.dref cs.toCsD4 1 rfl hok (by omega) fun w h15 c => ?_
  rw [show ext 0 (.tuple #[w, .int .i64 (dRes n vs x).2.1, .int .i64 (dRes n vs x).2.2]) = some w from rfl, vb_some, show ext 1 (.tuple #[w, .int .i64 (dRes n vs x).2.1, .int .i64 (dRes n vs x).2.2]) = some (.int .i64 (dRes n vs x).2.1) from rfl, vb_some, show ext 2 (.tuple #[w, .int .i64 (dRes n vs x).2.1, .int .i64 (dRes n vs x).2.2]) = some (.int .i64 (dRes n vs x).2.2) from rfl, vb_some]
  have c : Cx (fun _ => False) h h15 [rVar EPl rp (p35 n), rVar EMd rm u, rVar EMd rn u', rVar EI1 rv a.1, rVar EI1 re a.2, rSl EI1 w (dRes n vs x).1, rSl EW (sV u') (wsF (nxt g σ') (N35 n))] := c.pick [4, 0, 7, 5, 6, 1, 2]
  refine Jn1.at (fun v h'' => v = .bool false ∧ Cx (fun _ => False) h h'' [rVar EPl rp (p35 n), rVar EMd rm u, rVar EMd rn u', rSl EI1 w (dRes n vs x).1, rSl EW (sV u') (wsF (nxt g σ') (N35 n))]) ?_ ?_
  · refine vb (v := .bool false) rfl ?_
    rw [br_false, (c.va (i := 3) rfl).one rfl, vb_some, ← ha, show bin .neq (.int .i64 a.1) (.int .i64 a.1) = some (.bool false) from neI _, vb_some, br_false]
    rw [(c.va (i := 4) rfl).one rfl, vb_some, show bin .neq (.int .i64 a.2) (.int .i64 a.2) = some (.bool false) from neI _, vb_some, br_false]
    rw [mM_of (i := 2) c rfl, vb_some, plA (i := 0) c rfl, vb_some]
    refine cs.is35 H' hn9 (c.sl (i := 6) rfl).sl (c.sl (i := 5) rfl).sl fun h13 gg => ?_
    have c := c.more gg
    refine vb (v := .bool false) rfl ?_
    exact ⟨rfl, c.pick [0, 1, 2, 5, 6]⟩
  · clear c
    rintro v h13 ⟨rfl, c⟩
    rw [br_false, mM_of (i := 2) c rfl, vb_some]
    refine c.sto (n := 1) 1 rfl u' rfl rfl fun h14 c => ?_
    rw [bin_add, vb_some, wrS (by omega)]
    exact hagain (i + 1, nxt g σ', (dRes n vs x).1, u') _ _ _ ⟨rfl, by dsimp only; omega, H', c.pick [0, 1, 3, 4]⟩ (by dsimp only; omega)
end Go.En
