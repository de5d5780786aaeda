/-
  Layer 31: the pool as a list of free nodes; helpers of the laws.
  Layer 31: the laws PoolTurns and PoolOnce.
  Layer 31: words as read; the law Wild.
  Layer 31: the reference; the words behind a transaction.
  Layer 31: the law Plays.
  Layer 34: the law Wild.
-/
import Derived.Test.YtggieecoagcmbaaXF
import Derived.Test.YtggieecoagcmbaaXD
import Derived.Test.YtggieecoagcmbaaXE
namespace Go.En
open Prog Spc

variable {S : Sys} {I : Ids} {h h0 h' : Hp} {F F0 : Fp} {R : Value → Hp → Prop} {s : Value} {σ : Spc} {L : List Res} {n : Int}

/-- the pool; since σ0 -/
def PS (p : Pl) (D : Int → Prop) (σ0 σ : Spc) (fr : List Int) (out : Int) (c : Nat) : Prop := ∃ m, Sm D σ0 σ m c ∧ PoolR m p fr out
section
variable {p : Pl} {D : Int → Prop} {σ0 σ1 : Spc} {fr fr' : List Int} {out out' : Int} {c c' : Nat}
theorem PS.fresh (q : PS p D σ0 σ fr out c) : PS p D σ σ fr out 0 := let ⟨m, S, P⟩ := q; ⟨m, S.fresh, P⟩
theorem PS.over (q : PS p D σ0 σ1 fr out c) (q' : PS p D σ1 σ fr' out' c') : PS p D σ0 σ fr' out' (c + c') := let ⟨_, S, _⟩ := q; let ⟨m', S', P'⟩ := q'; ⟨m', S.trans S', P'⟩
theorem PS.mono (q : PS p D σ0 σ fr out c) (h : c ≤ c') : PS p D σ0 σ fr out c' := let ⟨m, S, P⟩ := q; ⟨m, S.mono h, P⟩
theorem PS.len (q : PS p D σ0 σ fr out c) : σ.pu.length ≤ σ0.pu.length + c := let ⟨_, S, _⟩ := q; S.len
theorem PS.good (q : PS p D σ0 σ fr out c) : p.good := let ⟨_, _, P⟩ := q; P.good
theorem PS.bnd (q : PS p D σ0 σ fr out c) : 0 ≤ out ∧ out ≤ p.nodes ∧ (fr.length : Int) ≤ out := let ⟨_, _, P⟩ := q; ⟨P.out0, P.out1, P.len⟩
theorem PS.fN (q : PS p D σ0 σ fr out c) : ∀ x ∈ fr, ∃ i, 0 ≤ i ∧ i < out ∧ x = p.frm + 8 * i := let ⟨_, _, P⟩ := q; P.fN
theorem PS.nd (q : PS p D σ0 σ fr out c) : fr.Nodup := let ⟨_, _, P⟩ := q; P.nd
theorem PS.take (q : PS p D σ σ fr out 0) (hD : PoolD D p) (hl : σ.pu.length + 30 ≤ big) : wp (pTake p) σ fun r σ' =>
    (∃ x fr', fr = x :: fr' ∧ r = (x, 0) ∧ PS p D σ σ' fr' out 2) ∨ (fr = [] ∧ out < p.nodes ∧ r = (p.frm + 8 * out, 0) ∧ PS p D σ σ' [] (out + 1) 2) ∨ (fr = [] ∧ out = p.nodes ∧ r = (0, 9) ∧ PS p D σ σ' [] out 2) := by
  obtain ⟨m, S, P⟩ := q
  refine wp_ret (wp_take S P hD (by omega) (fun x fr' σ' m' e hx S' P' _ => ?_) (fun σ' m' e ho hx S' P' _ => ?_) fun σ' e ho S' => ?_)
  · exact .inl ⟨x, fr', e, rfl, m', S', P'⟩
  · exact .inr (.inl ⟨e, ho, rfl, m', S', P'⟩)
  · exact .inr (.inr ⟨e, ho, rfl, m, S'.mono (by omega), e ▸ P⟩)
theorem PS.give (q : PS p D σ σ fr out 0) (hD : PoolD D p) (hl : σ.pu.length + 30 ≤ big) {x i : Int} (hx : x = p.frm + 8 * i) (hi : 0 ≤ i ∧ i < out) (hn : x ∉ fr) : wp (pGive p x) σ fun r σ' => r = 0 ∧ PS p D σ σ' (x :: fr) out 3 := by
  obtain ⟨m, S, P⟩ := q
  exact wp_ret (wp_give S P hD (by omega) hx hi hn fun σ' m' S' P' _ => ⟨rfl, m', S', P'⟩)
theorem PS.left (q : PS p D σ σ fr out 0) (hD : PoolD D p) : wp (pLeft p) σ fun r σ' => r = fr.length + p.nodes - out ∧ PS p D σ σ' fr out 0 := by
  obtain ⟨m, S, P⟩ := q
  exact wp_ret (wp_pLeft S P hD fun σ' S' => ⟨rfl, m, S', P⟩)
theorem PS.back (q0 : PS p D σ1 σ1 fr out 0) (q : PS p D σ1 σ fr' out' c) : PS p D σ1 (σ.back σ1.pu.length) fr out 0 := by
  obtain ⟨m, S, P⟩ := q0
  obtain ⟨_, S', _⟩ := q
  exact ⟨m, S'.back S.vw S.rg, P⟩
end
abbrev p31 (n : Int) : Pl := ⟨3, 8, n⟩
abbrev d31 (k : Nat) : Int → Prop := fun a => 0 ≤ a ∧ a < k
theorem PS.init {p : Pl} {k : Nat} (g : p.good) (hk : p.root + 3 ≤ k ∧ p.frm + 8 * p.nodes ≤ k) : PS p (d31 k) (spW (List.replicate k 0)) (spW (List.replicate k 0)) [] 0 0 ∧ PoolD (d31 k) p := by
  have hv : ∀ a, (spW (List.replicate k 0)).vw a = 0 := fun a => by
    rw [spW_vw]; split
    · exact rep_get _ _
    · rfl
  have := g.r0; have := g.f1; have := g.n0
  refine ⟨⟨(spW (List.replicate k 0)).vw, Sm.start (fun a ha => ?_) rfl (newS_wf (knW_val rep_R64)), ⟨g, ?_, ?_, ?_, by omega, by omega, fun x hx => (by cases hx), List.nodup_nil⟩⟩, ⟨fun i i0 i1 => ⟨by omega, by omega⟩, fun x hx i i0 i1 => ?_⟩⟩
  · rw [spW_kn, if_pos (by rw [List.length_replicate]; exact ha)]; rfl
  · exact hv _
  · exact hv _
  · exact hv _
  · obtain ⟨j, j0, j1, rfl⟩ := hx
    exact ⟨by omega, by omega⟩

theorem K_start31 {n : Int} (hn : 0 ≤ n ∧ n ≤ 255) (hR : ∀ a l c h', Cx (fun _ => False) h h' [rSl EI1 (.slice a l c) (List.replicate (8 + 8 * (n % 9).toNat) 0)] → R (.tuple #[vP ⟨3, 8, n % 9⟩, .agg #[.slice a l c]]) h') :
    F_simulcastlaw31_start S I (.int .u8 n) h R := by
  unfold F_simulcastlaw31_start
  refine (Cx.start0 h).nw EPl ⟨0, 0, 0⟩ rfl fun r2 h1 c => ?_
  refine c.nw ESh (none, 0, 0) rfl fun r3 h1 c => ?_
  rw [bin_rem (by omega), vb_some, cvi_int, vb_some, Int.tmod_eq_emod_of_nonneg hn.1, wr64 (n := n % 9) (by omega)]
  refine vb rfl ?_
  refine c.nw EPl ⟨0, 0, 0⟩ rfl fun r4 h1 c => ?_
  refine c.sto 2 rfl ⟨3, 8, n % 9⟩ rfl rfl fun h1 c => ?_
  refine .here ?_
  rw [plA (i := 2) c rfl]
  simp only [go_sem, pl2 (i := 2) c rfl]
  rw [wr64 (n := 8 * (n % 9)) (by omega), wr64 (n := 8 + 8 * (n % 9)) (by omega)]
  refine ⟨?_, ?_⟩
  · refine c.mksl EI1 0 (n := 8 + 8 * (n % 9).toNat) (by omega) rfl rfl (by omega) (by omega) fun a h2 c => ?_
    refine ⟨plA (i := 2) c rfl, ?_⟩
    refine vb rfl ?_
    refine c.sto 0 rfl ⟨3, 8, n % 9⟩ rfl rfl fun h3 c => ?_
    refine c.sto (n := 1) 1 rfl (some a, _, _) rfl rfl fun h4 c => ?_
    rw [plA (i := 0) c rfl, vb_some, (c.va (i := 1) rfl).whole (n := 1) rfl, vb_some]
    exact hR _ _ _ _ (c.one 3 rfl)
  · refine c.sto 0 rfl ⟨3, 8, n % 9⟩ rfl rfl fun h3 c => ?_
    refine ⟨pl2 (i := 2) c rfl, ?_⟩
    refine c.mksl EI1 0 (n := 8 + 8 * (n % 9).toNat) (by omega) rfl rfl (by omega) (by omega) fun a h2 c => ?_
    refine vb rfl ?_
    refine c.sto (n := 1) 1 rfl (some a, _, _) rfl rfl fun h4 c => ?_
    rw [plA (i := 0) c rfl, vb_some, (c.va (i := 1) rfl).whole (n := 1) rfl, vb_some]
    exact hR _ _ _ _ (c.one 3 rfl)

theorem K_awake31 (cs : CsX S I) (hR : ∀ h', Gr h h' → R (.bool true) h') : F_simulcastlaw31_awake S I h R := by
  unfold F_simulcastlaw31_awake
  refine vb rfl ?_
  refine (Cx.start0 h).nw EPl ⟨0, 0, 0⟩ rfl fun rp h1 c => ?_
  refine c.sto 0 rfl ⟨1, 8, 2⟩ rfl rfl fun h1 c => ?_
  refine c.mksl EI1 0 (n := 24) rfl rfl rfl (by omega) (by omega) fun a h2 c => ?_
  refine vb rfl ?_
  refine cs.known (c.sl (i := 1) rfl).sl (by rw [List.length_replicate]; omega) fun m h3 c2 => ?_
  have c := c.frame0 c2
  obtain ⟨F, c3, up⟩ := c.frame (i := 2) rfl
  refine cs.new (knW_nodup _) (knW_val rep_R64) c3 fun s h4 c4 => ?_
  have c := up c4
  obtain ⟨q, hD⟩ := PS.init (p := ⟨1, 8, 2⟩) (k := 24) (by decide) (by decide)
  rw [plA (i := 0) c rfl, vb_some]
  have hl0 : (spW (List.replicate 24 0)).pu.length = 0 := rfl
  refine c.last cs.take 3 rfl (q.fresh.take hD (by unfold big; omega)) fun r σ1 h5 c hq => ?_
  have hq' : r = (8, 0) ∧ PS ⟨1, 8, 2⟩ (d31 24) (spW (List.replicate 24 0)) σ1 [] 1 2 := by
    rcases hq with ⟨x, fr', e, _⟩ | ⟨_, _, e, q1⟩ | ⟨_, e, _⟩
    · cases e
    · exact ⟨e, q1⟩
    · exact absurd e (by decide)
  obtain ⟨rfl, q1⟩ := hq'
  have hl1 := q1.len
  simp only [go_sem]
  rw [plA (i := 0) c rfl, vb_some]
  refine c.last cs.take 3 rfl (q1.fresh.take hD (by unfold big; omega)) fun r σ2 h5 c hq => ?_
  have hq' : r = (16, 0) ∧ PS ⟨1, 8, 2⟩ (d31 24) σ1 σ2 [] 2 2 := by
    rcases hq with ⟨x, fr', e, _⟩ | ⟨_, _, e, q1⟩ | ⟨_, e, _⟩
    · cases e
    · exact ⟨e, q1⟩
    · exact absurd e (by decide)
  obtain ⟨rfl, q2⟩ := hq'
  have hl2 := q2.len
  simp only [go_sem]
  rw [plA (i := 0) c rfl, vb_some]
  refine c.last cs.take 3 rfl (q2.fresh.take hD (by unfold big; omega)) fun r σ3 h5 c hq => ?_
  have hq' : r = (0, 9) ∧ PS ⟨1, 8, 2⟩ (d31 24) σ2 σ3 [] 2 2 := by
    rcases hq with ⟨x, fr', e, _⟩ | ⟨_, e, _⟩ | ⟨_, _, e, q1⟩
    · cases e
    · exact absurd e (by decide)
    · exact ⟨e, q1⟩
  obtain ⟨rfl, q3⟩ := hq'
  have hl3 := q3.len
  simp only [go_sem]
  rw [plA (i := 0) c rfl, vb_some, vb_some]
  refine c.last (cs.give ⟨by omega, by omega⟩) 3 rfl (q3.fresh.give hD (by unfold big; omega) (x := 8) (i := 0) (by decide) (by decide) (by simp)) fun r σ4 h5 c ⟨e, q4⟩ => ?_
  subst e
  have hl4 := q4.len
  refine ⟨plA (i := 0) c rfl, ?_⟩
  refine c.last (cs.give ⟨by omega, by omega⟩) 3 rfl (q4.fresh.give hD (by unfold big; omega) (x := 16) (i := 1) (by decide) (by decide) (by decide)) fun r σ5 h6 c ⟨e, q5⟩ => ?_
  subst e
  have hl5 := q5.len
  rw [plA (i := 0) c rfl, vb_some]
  refine c.last cs.take 3 rfl (q5.fresh.take hD (by unfold big; omega)) fun r σ6 h7 c hq => ?_
  have hq' : r = (16, 0) := by
    rcases hq with ⟨x, fr', e, e2, _⟩ | ⟨e, _⟩ | ⟨e, _⟩
    · simp only [List.cons.injEq] at e; rw [e2, ← e.1]
    · cases e
    · cases e
  subst hq'
  simp only [go_sem, decide_true]
  refine .here ?_
  try simp only [go_sem, decide_true]
  exact hR _ c.gr
end Go.En
namespace Go.En
open Prog Spc

variable {S : Sys} {I : Ids} {h h0 h' : Hp} {F F0 : Fp} {R : Value → Hp → Prop} {s : Value} {σ : Spc} {L : List Res} {n : Int}

structure CsP1 (S : Sys) (I : Ids) : Prop extends CsX S I where
  start31 : ∀ {n : Int} {h R}, 0 ≤ n ∧ n ≤ 255 → (∀ a l c h', Cx (fun _ => False) h h' [rSl EI1 (.slice a l c) (List.replicate (8 + 8 * (n % 9).toNat) 0)] → R (.tuple #[vP ⟨3, 8, n % 9⟩, .agg #[.slice a l c]]) h') → S.C I.f_simulcastlaw31_start [.int .u8 n] h R
  awake31 : ∀ {h R}, (∀ h', Gr h h' → R (.bool true) h') → S.C I.f_simulcastlaw31_awake [] h R

theorem mn_int (a b : Int) : mn (.int .i64 a) (.int .i64 b) = some (.int .i64 (min a b)) := by
  simp only [mn]; rw [Int.min_def]; split <;> split <;> first | rfl | (congr 2; omega)
/-- the first nodes of the pool -/
def fstN (t : Nat) : List Int := (List.range t).map fun (j : Nat) => 8 + 8 * (j : Int)
theorem fstN_len (t : Nat) : (fstN t).length = t := by simp [fstN]
theorem fstN_get {t i : Nat} (h : i < t) : (fstN t)[i]? = some (8 + 8 * (i : Int)) := by simp [fstN, h]
theorem fstN_snoc (t : Nat) : fstN (t + 1) = fstN t ++ [8 + 8 * (t : Int)] := by simp [fstN, List.range_succ]
theorem fstN_take {t i : Nat} (h : i ≤ t) : (fstN t).take i = fstN i := by
  unfold fstN
  rw [← List.map_take, List.take_range, Nat.min_eq_left h]
theorem fstN_mem {t : Nat} {x : Int} (h : x ∈ fstN t) : ∃ j : Nat, j < t ∧ x = 8 + 8 * (j : Int) := by
  simp only [fstN, List.mem_map, List.mem_range] at h
  obtain ⟨j, hj, rfl⟩ := h
  exact ⟨j, hj, rfl⟩

theorem L_PoolTurns {k m : Int} (cs : CsP1 S I) (hk : 0 ≤ k ∧ k ≤ 255) (hm : 0 ≤ m ∧ m ≤ 255) (hR : ∀ h', Gr h h' → R (.bool true) h') : F_simulcastlaw31_PoolTurns S I (.int .u8 k) (.int .u8 m) h R := by
  unfold F_simulcastlaw31_PoolTurns
  have hn : 0 ≤ k % 9 ∧ k % 9 ≤ 8 := by omega
  refine cs.start31 hk fun a l1 cp h1 c0 => ?_
  have c := (Cx.start0 h).frame0 c0
  simp only [go_sem]
  refine c.nw EPl ⟨0, 0, 0⟩ rfl fun rp h1 c => ?_
  refine c.nw ESh (none, 0, 0) rfl fun rw_ h1 c => ?_
  refine c.sto 1 rfl (p31 (k % 9)) rfl rfl fun h1 c => ?_
  refine c.sto (n := 1) 2 rfl (a, l1, cp) rfl rfl fun h1 c => ?_
  rw [(c.va (i := 2) rfl).whole (n := 1) rfl, vb_some]
  refine cs.known (c.sl (i := 0) rfl).sl (by rw [List.length_replicate]; omega) fun mm h2 c2 => ?_
  have c := c.frame0 c2
  obtain ⟨F, c3, up⟩ := c.frame (i := 3) rfl
  refine cs.new (knW_nodup _) (knW_val rep_R64) c3 fun s h3 c4 => ?_
  have c := up c4
  obtain ⟨q, hD⟩ := PS.init (p := p31 (k % 9)) (k := 8 + 8 * (k % 9).toNat) ⟨by simp, by simp, hn.1, by simp only; omega, by simp, by simp only; omega, .inr (.inl (by simp))⟩ ⟨by simp only; omega, by simp only; omega⟩
  have hl0 : (newS (knW (List.replicate (8 + 8 * (k % 9).toNat) 0))).pu.length = 0 := rfl
  have c := c.nilSl EI1
  change PS _ _ (newS (knW (List.replicate (8 + 8 * (k % 9).toNat) 0))) (newS (knW (List.replicate (8 + 8 * (k % 9).toNat) 0))) [] 0 0 at q
  generalize newS (knW (List.replicate (8 + 8 * (k % 9).toNat) 0)) = σ0 at *
  have em : (m : Int).tmod 9 = m % 9 := Int.tmod_eq_emod_of_nonneg hm.1
  rw [bin_rem (by omega), em]
  refine Lp2.by (fun (x : Nat × Spc × Value) v0 v1 h' => x.1 ≤ (m % 9).toNat ∧ v0 = x.2.2 ∧ v1 = .int .i64 x.1 ∧ PS (p31 (k % 9)) (d31 (8 + 8 * (k % 9).toNat)) σ0 x.2.1 [] (min x.1 (k % 9).toNat : Nat) (40 * x.1) ∧
    Cx (fun _ => False) h h' [rSl EI1 (.slice a l1 cp) (List.replicate (8 + 8 * (k % 9).toNat) 0), rVar EPl rp (p31 (k % 9)), rVar ESh rw_ (a, l1, cp), rMp .i64 mW (.map (some mm)) (knW (List.replicate (8 + 8 * (k % 9).toNat) 0)), rSpace s x.2.1, rSl EI1 x.2.2 (fstN (min x.1 (k % 9).toNat))])
    (fun x => (m % 9).toNat - x.1) (0, σ0, _) ⟨by omega, rfl, rfl, by simpa using q, by simpa [fstN] using c⟩ ?_
  rintro ⟨i, σ, w⟩ v0 v1 h4 ⟨hi, e1, rfl, q, c⟩ again hagain
  dsimp only at *
  subst e1
  have hql := q.len
  have hlen := fstN_len (min i (k % 9).toNat)
  simp only [go_sem]
  rw [wr64 (n := m % 9) (by omega)]
  refine brd (fun h5 => ?_) fun h5 => ?_
  · refine .here ?_
    rw [plA (i := 1) c rfl, vb_some]
    refine c.last cs.take 4 rfl (q.fresh.take hD (by unfold big; omega)) fun r σ' h6 c hq => ?_
    simp only [go_sem]
    rw [wrS (by omega)]
    rcases hq with ⟨x, fr', e, _⟩ | ⟨_, ho, rfl, q1⟩ | ⟨_, ho, rfl, q1⟩
    · cases e
    · simp only at ho
      rw [decide_eq_true rfl, br_true]
      refine c.app1 5 rfl (8 + 8 * ((min i (k % 9).toNat : Nat) : Int)) rfl rfl rfl (by omega) (by omega) fun w' h7 c => ?_
      rw [← fstN_snoc] at c
      have e2 : min i (k % 9).toNat + 1 = min (i + 1) (k % 9).toNat := by omega
      refine hagain (i + 1, σ', w') _ _ _ ⟨by omega, rfl, rfl, ?_, by rw [← e2]; exact c⟩ (by omega)
      have := (q.over q1).mono (c' := 40 * (i + 1)) (by omega)
      rw [← e2]; exact_mod_cast this
    · simp only at ho
      rw [decide_eq_false (by simp), br_false]
      have e2 : min i (k % 9).toNat = min (i + 1) (k % 9).toNat := by omega
      refine hagain (i + 1, σ', v0) _ _ _ ⟨by omega, rfl, rfl, ?_, by rw [← e2]; exact c⟩ (by omega)
      have := (q.over q1).mono (c' := 40 * (i + 1)) (by omega)
      rw [← e2]; exact this
  · have ei : i = (m % 9).toNat := by omega
    generalize ht : min i (k % 9).toNat = t at *
    have ht8 : t ≤ 8 := by omega
    have htk : t ≤ (k % 9).toNat := by omega
    -- the nodes are given back
    refine Lp1.by (fun (x : Nat × Spc) u h' => x.1 ≤ t ∧ u = .int .i64 x.1 ∧ PS (p31 (k % 9)) (d31 (8 + 8 * (k % 9).toNat)) σ0 x.2 (fstN x.1).reverse t (400 + 40 * x.1) ∧
      Cx (fun _ => False) h h' [rSl EI1 (.slice a l1 cp) (List.replicate (8 + 8 * (k % 9).toNat) 0), rVar EPl rp (p31 (k % 9)), rVar ESh rw_ (a, l1, cp), rMp .i64 mW (.map (some mm)) (knW (List.replicate (8 + 8 * (k % 9).toNat) 0)), rSpace s x.2, rSl EI1 v0 (fstN t)])
      (fun x => t - x.1) (0, σ) ⟨by omega, rfl, by simpa [fstN] using q.mono (by omega), c⟩ ?_
    rintro ⟨j, σ⟩ u h6 ⟨hj, rfl, q, c⟩ again hagain
    dsimp only at *
    have hql := q.len
    rw [(c.sl (i := 5) rfl).sl.ln, hlen]
    simp only [go_sem]
    refine brd (fun h7 => ?_) fun h7 => ?_
    · have hj' : j < t := by omega
      rw [plA (i := 1) c rfl, vb_some]
      refine (c.sl (i := 5) rfl).sl.one rfl (fstN_get hj') rfl rfl ?_
      refine c.last (cs.give ⟨by omega, by omega⟩) 4 rfl (q.fresh.give hD (by unfold big; omega) (x := 8 + 8 * (j : Int)) (i := j) rfl ⟨by omega, by omega⟩ (fun hx => by
        rw [List.mem_reverse] at hx
        obtain ⟨j', hj', e⟩ := fstN_mem hx
        omega)) fun r σ' h8 c ⟨e, q1⟩ => ?_
      subst e
      simp only [go_sem, ne_eq, not_true_eq_false, decide_false]
      rw [wrS (by omega)]
      refine hagain (j + 1, σ') _ _ ⟨by omega, rfl, ?_, c⟩ (by omega)
      rw [fstN_snoc, List.reverse_append]
      exact (q.over q1).mono (by omega)
    · have ej : j = t := by omega
      subst ej
      rw [wr64 (n := (j : Int) - 1) (by omega)]
      -- and taken again
      refine Lp1.by (fun (x : Nat × Spc) u h' => x.1 ≤ j ∧ u = .int .i64 ((x.1 : Int) - 1) ∧ PS (p31 (k % 9)) (d31 (8 + 8 * (k % 9).toNat)) σ0 x.2 (fstN x.1).reverse j (800 + 40 * (j - x.1)) ∧
        Cx (fun _ => False) h h' [rSl EI1 (.slice a l1 cp) (List.replicate (8 + 8 * (k % 9).toNat) 0), rVar EPl rp (p31 (k % 9)), rVar ESh rw_ (a, l1, cp), rMp .i64 mW (.map (some mm)) (knW (List.replicate (8 + 8 * (k % 9).toNat) 0)), rSpace s x.2, rSl EI1 v0 (fstN j)])
        (fun x => x.1) (j, σ) ⟨by omega, rfl, q.mono (by omega), c⟩ ?_
      rintro ⟨g, σ⟩ u h8 ⟨hg, rfl, q, c⟩ again hagain
      dsimp only at *
      have hql := q.len
      simp only [go_sem]
      refine brd (fun h9 => ?_) fun h9 => ?_
      · obtain ⟨g, rfl⟩ : ∃ g', g = g' + 1 := ⟨g - 1, by omega⟩
        rw [plA (i := 1) c rfl, vb_some]
        refine c.last cs.take 4 rfl (q.fresh.take hD (by unfold big; omega)) fun r σ' h10 c hq => ?_
        have hq' : r = (8 + 8 * (g : Int), 0) ∧ PS (p31 (k % 9)) (d31 (8 + 8 * (k % 9).toNat)) σ σ' (fstN g).reverse j 2 := by
          rw [fstN_snoc, List.reverse_append] at hq
          rcases hq with ⟨x, fr', e, e2, q1⟩ | ⟨e, _⟩ | ⟨e, _⟩
          · simp only [List.reverse_singleton, List.singleton_append, List.cons.injEq] at e
            rw [e2, ← e.1, e.2]; exact ⟨rfl, q1⟩
          · simp at e
          · simp at e
        obtain ⟨rfl, q1⟩ := hq'
        simp only [go_sem]
        refine .here ?_
        simp only [go_sem, ne_eq, not_true_eq_false, decide_false]
        refine (c.sl (i := 5) rfl).sl.one rfl (i := g) (fstN_get (by omega)) (by omega) rfl ?_
        simp only [go_sem, ne_eq, not_true_eq_false, decide_false]
        rw [wr64 (n := ((g + 1 : Nat) : Int) - 1 - 1) (by omega)]
        exact hagain (g, σ') _ _ ⟨by omega, by congr 1; omega, (q.over q1).mono (by omega), c⟩ (by omega)
      · have eg : g = 0 := by omega
        subst eg
        refine .here ?_
        rw [plA (i := 1) c rfl, vb_some, pl2 (i := 1) c rfl, vb_some, bin_sub, vb_some]
        rw [wr64 (n := k % 9 - j) (by omega)]
        refine c.last cs.left 4 rfl (q.fresh.left hD) fun r σ' h10 c ⟨e, q1⟩ => ?_
        subst e
        refine ⟨pl2 (i := 1) c rfl, ?_⟩
        rw [pl2 (i := 1) c rfl]
        simp only [go_sem, fstN_len, List.length_reverse, mn_int]
        rw [decide_eq_true (show (((0 : Nat) : Int) + k % 9 - (j : Int) = k % 9 - (j : Int)) by omega), br_true, decide_eq_true (by omega), br_true]
        exact cs.awake31 fun h' g => hR h' (Gr.trans c.gr g)

/-- the beginning of a slice of a context in its place -/
theorem Cx.takeSl {α : Type} {E : Enc α} {v : Value} {xs : List α} (c : Cx F0 h0 h L) (i : Nat) (hi : L[i]? = some (rSl E v xs)) {n : Nat} {kk : IntKind} {z : Int} {u : Nat} (hz : z = u) (h2 : u ≤ xs.length) (hn : n = E.n) {K : Value → Prop}
    (hK : ∀ a l cp, Cx F0 h0 h (L.set i (rSl E (.slice a l cp) (xs.take u))) → K (.slice a l cp)) : Vb (slc n v none (some (.int kk z)) none) K := by
  obtain ⟨F, ⟨o, hf⟩, up⟩ := c.upd hi
  obtain ⟨w, e, o', hb⟩ := o.sub (n := n) hn (hi := some (.int kk z)) (u := u) (.inr ⟨_, _, rfl, hz⟩) h2
  obtain ⟨a, l, cp, rfl⟩ := ow_slice o'
  exact vb e (hK a l cp (up (F' := F) ⟨o', fun q => by rw [hf, hb]⟩ (.refl _ _)))
theorem p31_good {k : Int} (hn : 0 ≤ k % 9 ∧ k % 9 ≤ 8) : (p31 (k % 9)).good := ⟨by simp, by simp, hn.1, by simp only; omega, by simp, by simp only; omega, .inr (.inl (by simp))⟩

/-- what is held and what is free are all that was handed out -/
structure Held (out : Int) (fr hs : List Int) : Prop where
  hN : ∀ x ∈ hs, ∃ i, 0 ≤ i ∧ i < out ∧ x = 8 + 8 * i
  ap : ∀ x ∈ hs, x ∉ fr
  nd : hs.Nodup
  sz : (fr.length + hs.length : Int) = out

structure Act31 where
  k : Int
  n : Int
def EAct31 : Enc Act31 := { n := 2, c := fun o => [.int .u8 o.k, .int .u8 o.n], len := fun _ => rfl, one := fun a v h => by simp only [List.mem_cons, List.not_mem_nil, or_false] at h; rcases h with rfl | rfl <;> rfl }
abbrev Act31.ok (a : Act31) : Prop := (0 ≤ a.k ∧ a.k ≤ 255) ∧ 0 ≤ a.n ∧ a.n ≤ 255

theorem L_PoolOnce {k cu : Int} {l : Value} {acts : List Act31} (cs : CsP1 S I) (hk : 0 ≤ k ∧ k ≤ 255) (hl : Sl EAct31 h l acts) (hok : ∀ a ∈ acts, a.ok) (hcu : 0 ≤ cu ∧ cu ≤ 255) (hR : ∀ h', Gr h h' → R (.bool true) h') :
    F_simulcastlaw31_PoolOnce S I (.int .u8 k) l (.int .u8 cu) h R := by
  unfold F_simulcastlaw31_PoolOnce
  refine vb hl.ln ?_
  simp only [go_sem]
  refine brd (fun _ => cs.awake31 hR) fun hlen => ?_
  have hn : 0 ≤ k % 9 ∧ k % 9 ≤ 8 := by omega
  refine cs.start31 hk fun a l1 cp h1 c0 => ?_
  have c := (Cx.start0 h).frame0 c0
  simp only [go_sem]
  refine c.nw EPl ⟨0, 0, 0⟩ rfl fun rp h1 c => ?_
  refine c.nw ESh (none, 0, 0) rfl fun rw_ h1 c => ?_
  refine c.sto 1 rfl (p31 (k % 9)) rfl rfl fun h1 c => ?_
  refine c.sto (n := 1) 2 rfl (a, l1, cp) rfl rfl fun h1 c => ?_
  rw [(c.va (i := 2) rfl).whole (n := 1) rfl, vb_some]
  refine cs.known (c.sl (i := 0) rfl).sl (by rw [List.length_replicate]; omega) fun mm h2 c2 => ?_
  have c := c.frame0 c2
  obtain ⟨F, c3, up⟩ := c.frame (i := 3) rfl
  refine cs.new (knW_nodup _) (knW_val rep_R64) c3 fun s h3 c4 => ?_
  have c := up c4
  obtain ⟨q, hD⟩ := PS.init (p := p31 (k % 9)) (k := 8 + 8 * (k % 9).toNat) (p31_good hn) ⟨by simp only; omega, by simp only; omega⟩
  have hl0 : (newS (knW (List.replicate (8 + 8 * (k % 9).toNat) 0))).pu.length = 0 := rfl
  change PS _ _ (newS (knW (List.replicate (8 + 8 * (k % 9).toNat) 0))) (newS (knW (List.replicate (8 + 8 * (k % 9).toNat) 0))) [] 0 0 at q
  generalize newS (knW (List.replicate (8 + 8 * (k % 9).toNat) 0)) = σ0 at *
  refine c.mmk .i64 mB fun mh h4 c => ?_
  rw [plA (i := 1) c rfl, vb_some]
  refine c.last cs.left 4 rfl (q.fresh.left hD) fun r σ1 h5 c ⟨e, q1⟩ => ?_
  subst e
  have q := q.over q1
  have c := c.nilSl EI1
  refine vb hl.ln ?_
  simp only [go_sem]
  have ec : (cu : Int).tmod ((acts.length : Int) + 1) = cu % (acts.length + 1) := Int.tmod_eq_emod_of_nonneg hcu.1
  rw [wr64 (n := cu) (by omega), wrS (by omega)]
  rw [bin_rem (by omega)]
  simp only [go_sem]
  have ec : (cu : Int).tmod ((acts.length + 1 : Nat) : Int) = cu % (acts.length + 1 : Nat) := Int.tmod_eq_emod_of_nonneg hcu.1
  rw [ec]
  have hc0 : 0 ≤ cu % (acts.length + 1 : Nat) := Int.emod_nonneg _ (by omega)
  have hc1 : cu % (acts.length + 1 : Nat) < (acts.length + 1 : Nat) := Int.emod_lt_of_pos _ (by omega)
  obtain ⟨cut, hcut⟩ := Int.eq_ofNat_of_zero_le hc0
  rw [hcut]
  rw [hcut] at hc1
  have hc1 : cut ≤ acts.length := by omega
  clear hcut hc0 ec
  refine Lp5.by (fun (x : Nat × Spc × (Value × List Int) × List Int × Int × (Spc × Int)) v0 v1 v2 v3 v4 h' => x.1 ≤ acts.length ∧ v0 = x.2.2.1.1 ∧ v1 = .int .i64 (k % 9 - x.2.2.1.2.length) ∧ v4 = .int .i64 x.1 ∧
      (x.1 ≤ cut ∧ v2 = .int .i64 0 ∧ v3 = .int .i64 0 ∧ PS (p31 (k % 9)) (d31 (8 + 8 * (k % 9).toNat)) σ0 x.2.1 x.2.2.2.1 x.2.2.2.2.1 (40 * x.1) ∨
       cut < x.1 ∧ v2 = .int .i64 x.2.2.2.2.2.1.pu.length ∧ v3 = .int .i64 x.2.2.2.2.2.2 ∧ x.2.2.2.2.2.1.pu.length ≤ 40 * x.1 ∧ PS (p31 (k % 9)) (d31 (8 + 8 * (k % 9).toNat)) x.2.2.2.2.2.1 x.2.1 x.2.2.2.1 x.2.2.2.2.1 (40 * x.1) ∧
         ∃ fr1 out1, PS (p31 (k % 9)) (d31 (8 + 8 * (k % 9).toNat)) x.2.2.2.2.2.1 x.2.2.2.2.2.1 fr1 out1 0 ∧ x.2.2.2.2.2.2 = fr1.length + k % 9 - out1) ∧
      Held x.2.2.2.2.1 x.2.2.2.1 x.2.2.1.2 ∧ ∃ hs : List (Int × Bool), (∀ b, (lookA hs b).getD false = decide (b ∈ x.2.2.1.2)) ∧
    Cx (fun _ => False) h h' [rSl EI1 (.slice a l1 cp) (List.replicate (8 + 8 * (k % 9).toNat) 0), rVar EPl rp (p31 (k % 9)), rVar ESh rw_ (a, l1, cp), rMp .i64 mW (.map (some mm)) (knW (List.replicate (8 + 8 * (k % 9).toNat) 0)), rSpace s x.2.1, rMp .i64 mB (.map (some mh)) hs, rSl EI1 x.2.2.1.1 x.2.2.1.2])
    (fun x => acts.length - x.1) (0, σ1, (_, []), [], 0, (σ1, 0)) ⟨by omega, rfl, by simp, rfl, .inl ⟨by omega, rfl, rfl, q⟩, ⟨fun x hx => (by cases hx), fun x hx => (by cases hx), List.nodup_nil, rfl⟩, [], fun b => by simp [lookA], c⟩ ?_
  rintro ⟨i, σ, ⟨w, held⟩, fr, out, σm, lm⟩ v0 v1 v2 v3 v4 h6 ⟨hi, e1, rfl, rfl, hM, hH, hs, hhs, c⟩ again hagain
  dsimp only at *
  subst e1
  have hq : PS (p31 (k % 9)) (d31 (8 + 8 * (k % 9).toNat)) σ σ fr out 0 ∧ σ.pu.length ≤ 80 * i := by
    rcases hM with ⟨_, _, _, q⟩ | ⟨_, _, _, hm, q, _⟩
    · have := q.len; exact ⟨q.fresh, by omega⟩
    · have := q.len; exact ⟨q.fresh, by omega⟩
  obtain ⟨q, hql⟩ := hq
  have hb := q.bnd
  simp only at hb
  refine vb hl.ln ?_
  simp only [go_sem]
  refine brd (fun h7 => ?_) fun h7 => ?_
  · have hi' : i < acts.length := by omega
    have hact := hok _ (List.getElem_mem hi')
    have hla := fun {h' : Hp} (g : Gr h h') => hl.gr g
    have hsz := hH.sz
    -- the mark
    refine Jn2.at (fun a2 a3 h' => ∃ σ' σm' lm', ((i + 1 ≤ cut ∧ a2 = .int .i64 0 ∧ a3 = .int .i64 0 ∧ PS (p31 (k % 9)) (d31 (8 + 8 * (k % 9).toNat)) σ0 σ' fr out (40 * i)) ∨
        (cut < i + 1 ∧ a2 = .int .i64 σm'.pu.length ∧ a3 = .int .i64 lm' ∧ σm'.pu.length ≤ 40 * i ∧ PS (p31 (k % 9)) (d31 (8 + 8 * (k % 9).toNat)) σm' σ' fr out (40 * i) ∧
         ∃ fr1 out1, PS (p31 (k % 9)) (d31 (8 + 8 * (k % 9).toNat)) σm' σm' fr1 out1 0 ∧ lm' = fr1.length + k % 9 - out1)) ∧
      Cx (fun _ => False) h h' [rSl EI1 (.slice a l1 cp) (List.replicate (8 + 8 * (k % 9).toNat) 0), rVar EPl rp (p31 (k % 9)), rVar ESh rw_ (a, l1, cp), rMp .i64 mW (.map (some mm)) (knW (List.replicate (8 + 8 * (k % 9).toNat) 0)), rSpace s σ', rMp .i64 mB (.map (some mh)) hs, rSl EI1 v0 held]) ?_ ?_
    · refine brd (fun h8 => ?_) fun h8 => ?_
      · have hic : i = cut := by omega
        rcases hM with ⟨_, rfl, rfl, q0⟩ | ⟨h9, _⟩
        · rw [plA (i := 1) c rfl, vb_some]
          refine c.last (cs.mark (s := s)) 4 rfl (Q := fun (z : Int) σ' => z = (σ.pu.length : Int) ∧ σ' = σ) ⟨rfl, rfl⟩ fun z σ' h9 c ⟨e1, e2⟩ => ?_
          subst e1 e2
          refine ⟨plA (i := 1) c rfl, ?_⟩
          refine c.last cs.left 4 rfl (q.left hD) fun r σ2 h10 c ⟨e, q1⟩ => ?_
          subst e
          have := q0.len
          exact ⟨σ2, σ', _, .inr ⟨by omega, rfl, rfl, by omega, (q.over q1).mono (by omega), fr, out, q, rfl⟩, c⟩
        · omega
      · rcases hM with ⟨h9, rfl, rfl, q0⟩ | ⟨h9, rfl, rfl, hm, q0, hx⟩
        · exact ⟨σ, σ, 0, .inl ⟨by omega, rfl, rfl, q0⟩, c⟩
        · exact ⟨σ, σm, lm, .inr ⟨by omega, rfl, rfl, hm, q0, hx⟩, c⟩
    rintro a2 a3 h8 ⟨σ', σm', lm', hM, c⟩
    clear q hql
    have hq : PS (p31 (k % 9)) (d31 (8 + 8 * (k % 9).toNat)) σ' σ' fr out 0 ∧ σ'.pu.length ≤ 80 * i := by
      rcases hM with ⟨_, _, _, q⟩ | ⟨_, _, _, hm, q, _⟩
      · have := q.len; exact ⟨q.fresh, by omega⟩
      · have := q.len; exact ⟨q.fresh, by omega⟩
    obtain ⟨q, hql⟩ := hq
    refine .here ?_
    refine (hla c.gr).fld rfl (idx_get' hi') rfl (j := 0) rfl ?_
    rw [bin_rem (by omega), vb_some, Int.tmod_eq_emod_of_nonneg hact.1.1]
    simp only [go_sem]
    -- the end of a round
    have fin : ∀ (σ2 : Spc) (w : Value) (held2 : List Int) (fr2 : List Int) (out2 : Int) (hs2 : List (Int × Bool)) (h9 : Hp), PS (p31 (k % 9)) (d31 (8 + 8 * (k % 9).toNat)) σ' σ2 fr2 out2 10 → Held out2 fr2 held2 → (∀ b, (lookA hs2 b).getD false = decide (b ∈ held2)) →
        Cx (fun _ => False) h h9 [rSl EI1 (.slice a l1 cp) (List.replicate (8 + 8 * (k % 9).toNat) 0), rVar EPl rp (p31 (k % 9)), rVar ESh rw_ (a, l1, cp), rMp .i64 mW (.map (some mm)) (knW (List.replicate (8 + 8 * (k % 9).toNat) 0)), rSpace s σ2, rMp .i64 mB (.map (some mh)) hs2, rSl EI1 w held2] →
        Vb (lda 3 (at0 rp) h9) fun v128 => S.C I.f_pool_Pool_Left [v128, s] h9 fun v130 h14 => Vb (bin .neq v130 (.int .i64 (k % 9 - held2.length))) fun v132 => Br v132 (R (.bool false) h14) (again w (.int .i64 (k % 9 - held2.length)) a2 a3 (.int .i64 (IntKind.i64.wrap ((i : Int) + 1))) h14) := by
      intro σ2 w held2 fr2 out2 hs2 h9 q2 hH2 hhs2 c
      rw [plA (i := 1) c rfl, vb_some]
      refine c.last cs.left 4 rfl (q2.fresh.left hD) fun r σ3 h10 c ⟨e, q3⟩ => ?_
      subst e
      have hsz2 := hH2.sz
      simp only [go_sem]
      rw [decide_eq_false (by first | omega | (dsimp only; omega)), br_false, wrS (by omega)]
      have q23 := q2.over q3
      refine hagain (i + 1, σ3, (w, held2), fr2, out2, (σm', lm')) _ _ _ _ _ _ ⟨by omega, rfl, rfl, rfl, ?_, hH2, hs2, hhs2, c⟩ (by omega)
      rcases hM with ⟨h11, rfl, rfl, q0⟩ | ⟨h11, rfl, rfl, hm, q0, hx⟩
      · exact .inl ⟨h11, rfl, rfl, (q0.over q23).mono (by omega)⟩
      · exact .inr ⟨h11, rfl, rfl, by dsimp only; omega, (q0.over q23).mono (by omega), hx⟩
    refine brd (fun h9 => ?_) fun h9 => ?_
    · rw [plA (i := 1) c rfl, vb_some]
      refine c.last cs.take 4 rfl (q.take hD (by unfold big; omega)) fun r σ2 h10 c hq => ?_
      simp only [go_sem]
      rw [plA (i := 1) c rfl, vb_some]
      -- what was taken
      have hr : (∃ x fr2 out2, r = (x, 0) ∧ PS (p31 (k % 9)) (d31 (8 + 8 * (k % 9).toNat)) σ' σ2 fr2 out2 2 ∧ x ∉ held ∧ Held out2 fr2 (held ++ [x]) ∧ 0 < k % 9 - (held.length : Int) ∧ (∃ j, (p31 (k % 9)).node x = some j) ∧ R64 x) ∨ (r = (0, 9) ∧ PS (p31 (k % 9)) (d31 (8 + 8 * (k % 9).toNat)) σ' σ2 fr out 2 ∧ ¬ 0 < k % 9 - (held.length : Int)) := by
        rcases hq with ⟨x, fr', rfl, rfl, q1⟩ | ⟨rfl, ho, rfl, q1⟩ | ⟨rfl, ho, rfl, q1⟩
        · left
          have hxh : x ∉ held := fun hx => hH.ap x hx (List.mem_cons_self ..)
          obtain ⟨j, j0, j1, ex⟩ := q.fN x (List.mem_cons_self ..)
          have hnd := List.nodup_cons.1 q.nd
          simp only [List.length_cons] at hsz
          simp only at ex
          refine ⟨x, fr', out, rfl, q1, hxh, ⟨fun y hy => ?_, fun y hy hf => ?_, ?_, by simp only [List.length_append, List.length_singleton]; omega⟩, by omega, ⟨j, ?_⟩, ⟨by omega, by omega⟩⟩
          · rcases List.mem_append.1 hy with hy | hy
            · exact hH.hN y hy
            · simp only [List.mem_singleton] at hy; subst hy; exact ⟨j, j0, j1, ex⟩
          · rcases List.mem_append.1 hy with hy | hy
            · exact hH.ap y hy (List.mem_cons_of_mem _ hf)
            · simp only [List.mem_singleton] at hy; subst hy; exact hnd.1 hf
          · rw [List.nodup_append]
            exact ⟨hH.nd, by simp, fun y hy z hz e => hxh (by simp only [List.mem_singleton] at hz; rw [← hz, ← e]; exact hy)⟩
          · have := node_at (p31_good hn) j0 (by simp only; omega)
            simp only at this; rw [ex]; exact this
        · left
          simp only at ho
          simp only [List.length_nil] at hsz
          have hxh : (8 + 8 * out : Int) ∉ held := fun hx => by obtain ⟨j, j0, j1, e⟩ := hH.hN _ hx; omega
          refine ⟨8 + 8 * out, [], out + 1, rfl, q1, hxh, ⟨fun y hy => ?_, fun y hy hf => (by cases hf), ?_, by simp only [List.length_append, List.length_singleton, List.length_nil]; omega⟩, by omega, ⟨out, node_at (p31_good hn) hb.1 (by simp only; omega)⟩, ⟨by omega, by omega⟩⟩
          · rcases List.mem_append.1 hy with hy | hy
            · obtain ⟨j, j0, j1, e⟩ := hH.hN y hy; exact ⟨j, j0, by omega, e⟩
            · simp only [List.mem_singleton] at hy; subst hy; exact ⟨out, hb.1, by omega, rfl⟩
          · rw [List.nodup_append]
            exact ⟨hH.nd, by simp, fun y hy z hz e => hxh (by simp only [List.mem_singleton] at hz; rw [← hz, ← e]; exact hy)⟩
        · right
          simp only at ho
          simp only [List.length_nil] at hsz
          exact ⟨rfl, q1, by omega⟩
      rcases hr with ⟨x, fr2, out2, rfl, q1, hxh, hH2, hlt, ⟨j, hj⟩, hx64⟩ | ⟨rfl, q1, hlt⟩
      · refine c.pur (cs.node hx64) fun h11 c => ?_
        rw [hj]
        simp only [vN, go_sem, Option.getD_some, Option.isSome_some, decide_true]
        refine .here ?_
        have e3 := hhs x
        rw [decide_eq_false hxh] at e3
        have e4 := (c.mp (i := 5) rfl).look (zero := Value.bool false) (k := x)
        have e5 : ((lookA hs x).map mB).getD (Value.bool false) = Value.bool false := by
          cases hlk : lookA hs x with
          | none => rfl
          | some b => rw [hlk] at e3; simp only [Option.getD_some] at e3; subst e3; rfl
        rw [e5] at e4
        rw [e4]
        simp only [go_sem, Bool.not_true, decide_eq_true hlt, beq_self_eq_true]
        refine c.mup 5 rfl x true rfl fun h12 c => ?_
        refine c.app1 6 rfl x rfl rfl rfl (by omega) (by omega) fun w' h13 c => ?_
        rw [wr64 (n := k % 9 - held.length - 1) (by omega)]
        have e6 : (k % 9 - (held.length : Int) - 1) = k % 9 - ((held ++ [x]).length : Nat) := by simp only [List.length_append, List.length_singleton]; omega
        rw [e6]
        refine fin σ2 w' (held ++ [x]) fr2 out2 _ h13 (q1.mono (by omega)) hH2 (fun b => ?_) c
        rw [lookA_updA]
        by_cases e : b = x
        · rw [if_pos e, e]; simp
        · rw [if_neg e, hhs b]; simp [e]
      · refine c.pur (cs.node ⟨by omega, by omega⟩) fun h11 c => ?_
        simp only [vN, go_sem, decide_eq_false hlt]
        refine .here ?_
        simp only [go_sem, Int.reduceEq, decide_false, beq_self_eq_true, Bool.not_true]
        exact fin σ2 v0 held fr out hs h11 (q1.mono (by omega)) hH hhs c
    · have hsl := (c.sl (i := 6) rfl).sl
      rw [hsl.ln]
      simp only [go_sem]
      refine brd (fun h10 => ?_) fun h10 => ?_
      · obtain ⟨hd, x, rfl⟩ : ∃ hd x, held = hd ++ [x] := by
          rcases List.eq_nil_or_concat held with rfl | ⟨hd, x, e⟩
          · simp at h10
          · exact ⟨hd, x, by rw [e, List.concat_eq_append]⟩
        have hxm : x ∈ hd ++ [x] := List.mem_append_right _ (List.mem_singleton.2 rfl)
        obtain ⟨j, j0, j1, ex⟩ := hH.hN x hxm
        have hndh := List.nodup_append.1 hH.nd
        have hxd : x ∉ hd := fun hx => hndh.2.2 x hx x (List.mem_singleton.2 rfl) rfl
        simp only [List.length_append, List.length_singleton] at hsz h10 ⊢
        rw [wr64 (n := ((hd.length + 1 : Nat) : Int) - 1) (by omega)]
        refine hsl.one rfl (i := hd.length) (x := x) (by simp) (by omega) rfl ?_
        have c0 := c
        refine c.takeSl 6 rfl (u := hd.length) (by omega) (by simp) rfl fun a3' l3 c3 c => ?_
        rw [List.take_left' rfl] at c
        rw [plA (i := 1) c rfl, vb_some]
        refine c.last (cs.give ⟨by omega, by omega⟩) 4 rfl (q.give hD (by unfold big; omega) (x := x) (i := j) ex ⟨j0, j1⟩ (hH.ap x hxm)) fun r σ2 h11 c ⟨e, q1⟩ => ?_
        subst e
        simp only [go_sem, ne_eq, not_true_eq_false, decide_false]
        refine c.mup 5 rfl x false rfl fun h12 c => ?_
        rw [wr64 (n := k % 9 - ((hd.length + 1 : Nat) : Int) + 1) (by omega)]
        have e6 : (k % 9 - ((hd.length + 1 : Nat) : Int) + 1) = k % 9 - (hd.length : Nat) := by omega
        rw [e6]
        refine fin σ2 (.slice a3' l3 c3) hd (x :: fr) out _ h12 (q1.mono (by omega)) ⟨fun y hy => hH.hN y (List.mem_append_left _ hy), fun y hy hf => ?_, hndh.1, by simp only [List.length_cons]; omega⟩ (fun b => ?_) c
        · rcases List.mem_cons.1 hf with rfl | hf
          · exact hxd hy
          · exact hH.ap y (List.mem_append_left _ hy) hf
        · rw [lookA_updA]
          by_cases e : b = x
          · rw [if_pos e, e]; simp [hxd]
          · rw [if_neg e, hhs b]; simp [e]
      · exact fin σ' v0 held fr out hs h8 (q.mono (by omega)) hH hhs c
  · have ei : i = acts.length := by omega
    refine vb hl.ln ?_
    simp only [go_sem]
    refine brd (fun h8 => ?_) fun h8 => ?_
    · rcases hM with ⟨h9, _⟩ | ⟨h9, rfl, rfl, hm, q0, fr1, out1, q1, rfl⟩
      · omega
      · refine c.last (cs.back (s := s)) 4 rfl (Q := fun _ σ2 => σ2 = σ.back σm.pu.length) rfl fun _ σ2 h10 c e => ?_
        subst e
        have q2 := PS.back q1 q0
        refine .here ?_
        rw [plA (i := 1) c rfl, vb_some]
        refine c.last cs.left 4 rfl (q2.fresh.left hD) fun r σ3 h11 c ⟨e, _⟩ => ?_
        subst e
        simp only [go_sem, decide_true]
        exact cs.awake31 fun h' g => hR h' (Gr.trans c.gr g)
    · exact cs.awake31 fun h' g => hR h' (Gr.trans c.gr g)
end Go.En
namespace Go.En
open Prog Spc Go.Sort

variable {S : Sys} {I : Ids} {h h0 h' : Hp} {F F0 : Fp} {R : Value → Hp → Prop} {L : List Res} {s : Value} {σ : Spc}

/-- a value of a list, 0 outside -/
def wget (xs : List Int) (a : Int) : Int := if 0 ≤ a ∧ a < xs.length then xs[a.toNat]?.getD 0 else 0
theorem K_WGet {v : Value} {xs : List Int} {a : Int} (hs : Sl EI1 h v xs) (hN : xs.length ≤ 1000000) (hR : ∀ h', Gr h h' → R (.int .i64 (wget xs a)) h') : F_simulcastlaw31_Words_Get S I (.agg #[v]) (.int .i64 a) h R := by
  unfold F_simulcastlaw31_Words_Get
  obtain ⟨ad, cap, rfl, hs1⟩ := id hs
  have c := Cx.start0 h
  refine c.nw ESh (ad, xs.length, cap) rfl fun r h1 c => ?_
  refine Jn1.at (fun u h' => (∃ bb : Bool, u = .bool bb ∧ (bb = true ↔ ¬ (0 ≤ a ∧ a < xs.length))) ∧ Cx (fun _ => False) h h' [rVar ESh r (ad, xs.length, cap)]) ?_ ?_
  · rw [bin_lss, vb_some]
    refine brd (fun h3 => ⟨⟨true, rfl, fun _ => by omega, fun _ => rfl⟩, c⟩) fun h3 => ?_
    refine (c.va (i := 0) rfl).fld (j := 0) rfl ?_
    rw [show lnS (.slice ad xs.length cap) = some (.int .i64 xs.length) from rfl, vb_some, bin_geq, vb_some]
    exact ⟨⟨_, rfl, by rw [decide_eq_true_eq]; omega⟩, c⟩
  clear c
  rintro u h3 ⟨⟨bb, rfl, hb⟩, c⟩
  unfold wget at hR
  cases bb with
  | true =>
    rw [br_true]
    rw [if_neg (hb.1 rfl)] at hR
    exact hR _ c.gr
  | false =>
    rw [br_false]
    have hb : 0 ≤ a ∧ a < xs.length := Decidable.not_not.1 fun e => by have := hb.2 e; cases this
    have hx : xs[a.toNat]? = some xs[a.toNat] := List.getElem?_eq_getElem (by omega)
    rw [if_pos hb, hx] at hR
    refine (c.va (i := 0) rfl).fld (j := 0) rfl ?_
    exact (hs.gr c.gr).one rfl hx (by omega) rfl (hR _ c.gr)

structure CsP2 (S : Sys) (I : Ids) : Prop extends CsP1 S I, CsH S I where
  wget : ∀ {v : Value} {xs : List Int} {a : Int} {h R}, Sl EI1 h v xs → xs.length ≤ 1000000 → (∀ h', Gr h h' → R (.int .i64 (wget xs a)) h') → S.C I.f_simulcastlaw31_Words_Get [.agg #[v], .int .i64 a] h R
  freeBad : ∀ {p : Pl} {fn : Value} {h R}, ¬ p.good → (∀ h', Gr h h' → R (.tuple #[.slice none 0 0, .int .i64 1]) h') → S.C I.f_pool_Pool_Free [vP p, fn] h R
  free : ∀ {α : Type} {A : α → Res} {fn : Value} {p : Pl} {m : Int → Int} {x0 : α} {F0 h0 h R}, p.good → (∀ a, R64 (m a)) →
    (∀ x a h F R, (a = p.root ∨ (p.node a).isSome = true) → (A x).P h F → (∀ x' h' F', (A x').P h' F' → Mv F h F' h' → R (.int .i64 (m a)) h') → Cv S.C S.Y fn [.int .i64 a] h R) →
    Cx F0 h0 h [A x0] → (∀ x v h', Cx F0 h0 h' [A x, rSl EI1 v ((freeM p m p.nodes.toNat (m p.root) []).getD [])] → R (.tuple #[v, .int .i64 (if (freeM p m p.nodes.toNat (m p.root) []).isSome then 0 else 24)]) h') →
    S.C I.f_pool_Pool_Free [vP p, fn] h R
theorem L_PoolWild {p : Pl} {b1 : Value} {xs : List Int} {a : Int} (cs : CsP2 S I) (hp : R64 p.root ∧ R64 p.frm ∧ R64 p.nodes) (s1 : Sl EI1 h b1 xs) (w1 : ∀ x ∈ xs, R64 x) (ha : R64 a) (hR : ∀ h', Gr h h' → R (.bool true) h') :
    F_simulcastlaw31_PoolWild S I (vP p) b1 (.int .i64 a) h R := by
  unfold F_simulcastlaw31_PoolWild
  have c := Cx.start0 h
  refine c.nw EPl p rfl fun rp h1 c => ?_
  rw [s1.ln, vb_some, bin_gtr, vb_some]
  refine brd (fun h2 => ?_) fun h2 => ?_
  · exact cs.awake31 fun h3 g => hR _ (Gr.trans c.gr g)
  have hl : xs.length ≤ 200 := by omega
  obtain ⟨ad, cap, e1, _⟩ := id s1
  have eb : bldS [(0, 1)] #[Value.slice none 0 0] [(0, b1)] = some (.agg #[b1]) := by rw [e1]; kernel_rfl
  rw [eb, vb_some]
  refine c.nw ESh (none, 0, 0) rfl fun rw_ h3 c => ?_
  refine c.sto (n := 1) 1 rfl (ad, xs.length, cap) rfl (by rw [e1]; rfl) fun h4 c => ?_
  have ew : ∀ {L h'}, Cx (fun _ => False) h h' L → L[1]? = some (rVar ESh rw_ (ad, xs.length, cap)) → lda 1 (at0 rw_) h' = some (.agg #[b1]) := fun c hi => by rw [(c.va hi).whole (n := 1) rfl, e1]; rfl
  rw [ew c rfl, vb_some]
  refine cs.known (s1.gr c.gr) (by omega) fun mm h5 c2 => ?_
  have c := c.frame0 c2
  obtain ⟨F1, c3, up⟩ := c.frame (i := 2) rfl
  refine cs.new (knW_nodup xs) (knW_val w1) c3 fun s h6 c4 => ?_
  have c := up c4
  clear c2 c3 c4 up
  have c := c.pick [0, 1, 3]
  have hwf : (spW xs).wf := newS_wf (knW_val w1)
  have hkr : ∀ a w, (spW xs).kn a = some w → w.ref = 0 := newS_ref
  have hp0 : (spW xs).pu = [] := rfl
  have hr0 : (spW xs).rd = [] := rfl
  have hkn : ∀ a, ((spW xs).kn a).isSome = true → 0 ≤ a ∧ a < xs.length := fun a h => by
    rw [spW_kn] at h
    split at h
    · assumption
    · cases h
  change Cx (fun _ => False) h h6 [rVar EPl rp p, rVar ESh rw_ (ad, xs.length, cap), rSpace s (spW xs)] at c
  generalize spW xs = σ0 at *
  let A : Int → Prop := fun x => (p.node x).isSome = true ∨ p.root ≤ x ∧ x ≤ p.root + 2
  have hA : PoolA A p := ⟨fun i h1 h2 => .inr ⟨by omega, by omega⟩, fun a h => .inl h⟩
  have H0 : Wld A σ0 σ0 0 := Wld.start hwf
  rw [plA (i := 0) c rfl, vb_some]
  let Q : Int × Int → Spc → Prop := fun r σ' => Wld A σ0 σ' 2 ∧ (r.2 = 0 ∧ (p.node r.1).isSome = true ∨ r.1 = 0 ∧ σ'.pu = [] ∧ (r.2 = 1 ∧ ¬ p.good ∧ σ' = σ0 ∨ p.good ∧ (r.2 = 9 ∨ r.2 = 24)))
  have hQ : wp (pTake p) σ0 Q := wp_ret (wd_take H0 hA (by rw [hp0]; decide)
    (fun x σ' hx H => ⟨H, .inl ⟨rfl, hx⟩⟩)
    (fun e σ' he H hpu => ⟨H.mono (by omega), .inr ⟨rfl, by rw [hpu, hp0], he⟩⟩))
  refine c.last cs.take 2 rfl hQ fun r σ' h7 c hq => ?_
  obtain ⟨H, hq⟩ := hq
  have hrl : σ'.rd.length ≤ 200 := by
    have := rdlen (n := xs.length) (H.nd (by rw [hr0]; exact List.nodup_nil)) fun b hb => hkn b (H.kd (by rw [hr0]; exact fun a h => by cases h) b hb)
    omega
  unfold uE
  refine ext0t (ext1t ?_)
  refine c.cEntries cs.toCsH 2 rfl (by omega) (by rw [H.kn]; exact hkr) fun ve h8 c => ?_
  refine ext0t (ext1t ?_)
  rw [plA (i := 0) c rfl, vb_some]
  refine c.pur cs.check fun h9 c => ?_
  by_cases g : p.good
  · rw [if_pos g]
    refine vb (v := .bool false) rfl ?_
    rw [br_false]
    have hx : r.2 = 0 ∧ (p.node r.1).isSome = true ∨ r.1 = 0 ∧ σ'.pu = [] ∧ r.2 ≠ 0 := by
      rcases hq with h | ⟨h1, h2, h3⟩
      · exact .inl h
      · refine .inr ⟨h1, h2, ?_⟩
        rcases h3 with ⟨_, h, _⟩ | ⟨_, h⟩
        · exact absurd g h
        · omega
    have hr1 : R64 r.1 := by
      rcases hx with ⟨_, h⟩ | ⟨h, _⟩
      · obtain ⟨n, hn⟩ := Option.isSome_iff_exists.1 h
        have := node_lt hn
        exact ⟨by omega, by omega⟩
      · rw [h]; exact ⟨by decide, by decide⟩
    rw [plA (i := 0) c rfl, vb_some]
    refine c.pur (cs.node hr1) fun h10 c => ?_
    unfold vN
    refine ext0t (ext1t ?_)
    have hents := ents_mem (σ := σ')
    have hes : σ'.ents.2 = 0 → ∀ e ∈ σ'.ents.1, R64 e.at' ∧ ((p.node e.at').isSome = true ∨ p.root ≤ e.at' ∧ e.at' ≤ p.root + 2) ∧ (e.wr = true → r.2 = 0) := fun hf e he => by
      obtain ⟨b, hb, rfl⟩ := hents hf e he
      have hA := H.rd b hb
      rw [hr0] at hA
      have hA : A b := hA.elim (fun h => by cases h) id
      have hbr := hkn b (H.kd (by rw [hr0]; exact fun a h => by cases h) b hb)
      refine ⟨by show R64 b; exact ⟨by omega, by omega⟩, hA, fun hw => ?_⟩
      rcases hx with ⟨h, _⟩ | ⟨_, h, _⟩
      · exact h
      · have hw : (lastP σ'.pu b).isSome = true := hw
        rw [h] at hw; cases hw
    have hel := ents_len σ'
    refine Jn1.at (fun u h' => u = .bool false ∧ Cx (fun _ => False) h h' [rVar EPl rp p, rVar ESh rw_ (ad, xs.length, cap), rSpace s σ', rSl EE ve σ'.ents.1]) ?_ ?_
    · rw [bin_eql, vb_some]
      rcases hx with ⟨h1, h2⟩ | ⟨h1, h2, h3⟩
      · rw [decide_eq_true h1, br_true, h2]
        refine vb (v := .bool false) rfl ?_
        rw [br_false, h1]
        refine vb (v := .bool false) rfl ?_
        exact ⟨rfl, c⟩
      · rw [decide_eq_false h3, br_false, bin_neq, vb_some, decide_eq_true h3, br_true, h1]
        refine vb (v := .bool false) rfl ?_
        exact ⟨rfl, c⟩
    clear c
    rintro u h11 ⟨rfl, c⟩
    rw [br_false]
    refine Lp1.by (fun (i : Nat) v h' => v = .int .i64 i ∧ i ≤ σ'.ents.1.length ∧ Cx (fun _ => False) h h' [rVar EPl rp p, rVar ESh rw_ (ad, xs.length, cap), rSpace s σ', rSl EE ve σ'.ents.1]) (fun i => σ'.ents.1.length - i) 0 ⟨rfl, Nat.zero_le _, c⟩ ?_
    clear c
    rintro i v h12 ⟨rfl, hi, c⟩ again hagain
    refine Jn1.at (fun u h' => h' = h12 ∧ ∃ bb : Bool, u = .bool bb ∧ (bb = true → i < σ'.ents.1.length ∧ σ'.ents.2 = 0)) ?_ ?_
    · rw [(c.sl (i := 3) rfl).sl.ln, vb_some, bin_lss, vb_some]
      refine brd (fun h13 => ?_) fun h13 => ⟨rfl, false, rfl, fun e => by cases e⟩
      rw [bin_eql, vb_some]
      exact ⟨rfl, _, rfl, fun e => ⟨by omega, of_decide_eq_true e⟩⟩
    rintro u h13 ⟨rfl, bb, rfl, hb⟩
    cases bb with
    | true =>
      rw [br_true]
      obtain ⟨hi, hf⟩ := hb rfl
      have hx : σ'.ents.1[i]? = some σ'.ents.1[i] := List.getElem?_eq_getElem hi
      obtain ⟨k1, k2, k3⟩ := hes hf σ'.ents.1[i] (List.getElem_mem _)
      generalize σ'.ents.1[i] = e at *
      rw [plA (i := 0) c rfl, vb_some]
      refine (c.sl (i := 3) rfl).sl.fld rfl hx rfl (j := 0) rfl ?_
      refine c.pur (cs.node k1) fun h14 c => ?_
      unfold vN
      refine ext0t (ext1t ?_)
      refine Jn1.at (fun u h' => u = .bool false ∧ Cx (fun _ => False) h h' [rVar EPl rp p, rVar ESh rw_ (ad, xs.length, cap), rSpace s σ', rSl EE ve σ'.ents.1]) ?_ ?_
      · have htail : ∀ J : Value → Prop, J (.bool false) → Vb (ixs 6 ve (.int .i64 (i : Int))) fun v144 => Vb (fa 5 v144) fun v145 => Vb (ldc v145 h14) fun v146 => Br v146 (Vb (bin .neq (.int .i64 r.2) (.int .i64 0)) J) (J (.bool false)) := fun J hJ => by
          refine (c.sl (i := 3) rfl).sl.fld rfl hx rfl (j := 5) rfl ?_
          cases hw : e.wr with
          | false => rw [br_false]; exact hJ
          | true =>
            rw [br_true, k3 hw]
            exact vb (v := .bool false) rfl hJ
        rcases k2 with k2 | k2
        · rw [k2]
          refine vb (v := .bool false) rfl ?_
          rw [br_false]
          exact htail _ ⟨rfl, c⟩
        · cases hn : (p.node e.at').isSome with
          | true =>
            refine vb (v := .bool false) rfl ?_
            rw [br_false]
            exact htail _ ⟨rfl, c⟩
          | false =>
            refine vb (v := .bool true) rfl ?_
            rw [br_true]
            refine (c.sl (i := 3) rfl).sl.fld rfl hx rfl (j := 0) rfl ?_
            refine (c.va (i := 0) rfl).fld (j := 0) rfl ?_
            rw [show bin .lss (.int .i64 e.at') (.int .i64 p.root) = some (.bool (decide (e.at' < p.root))) from bin_lss, vb_some]
            refine brF (by omega) ?_
            refine (c.sl (i := 3) rfl).sl.fld rfl hx rfl (j := 0) rfl ?_
            refine (c.va (i := 0) rfl).fld (j := 0) rfl ?_
            have g1 := g.r1; have g0 := g.r0
            rw [show bin .add (.int .i64 p.root) (.int .i64 2) = some (.int .i64 (IntKind.i64.wrap (p.root + 2))) from bin_add, vb_some, wr64 (by omega), show bin .gtr (.int .i64 e.at') (.int .i64 (p.root + 2)) = some (.bool (decide (p.root + 2 < e.at'))) from bin_gtr, vb_some]
            refine brF (by omega) ?_
            exact htail _ ⟨rfl, c⟩
      · rintro u h15 ⟨rfl, c⟩
        rw [br_false, bin_add, vb_some, wrS (by omega)]
        exact hagain (i + 1) _ _ ⟨rfl, hi, c⟩ (by omega)
    | false =>
      rw [br_false]
      rw [plA (i := 0) c rfl, vb_some]
      refine c.pur (cs.node ha) fun h14 c => ?_
      unfold vN
      refine ext0t (ext1t ?_)
      rw [ew c rfl, vb_some]
      refine cs.known (s1.gr c.gr) (by omega) fun mm h5 c2 => ?_
      have c := c.frame0 c2
      obtain ⟨F1, c3, up⟩ := c.frame (i := 4) rfl
      refine cs.new (knW_nodup xs) (knW_val w1) c3 fun s2 h6 c4 => ?_
      have c := up c4
      clear c2 c3 c4 up
      have hwf2 : (spW xs).wf := newS_wf (knW_val w1)
      have hp2 : (spW xs).pu = [] := rfl
      change Cx (fun _ => False) h h6 ([rVar EPl rp p, rVar ESh rw_ (ad, xs.length, cap), rSpace s σ', rSl EE ve σ'.ents.1, rMp .i64 mW (.map (some mm)) (knW xs)] ++ [rSpace s2 (spW xs)]) at c
      generalize spW xs = τ0 at *
      rw [plA (i := 0) c rfl, vb_some]
      have hG : wp (pGive p a) τ0 (fun e _ => e = if (p.node a).isSome then 0 else 1) := wp_ret (wd_give (Wld.start hwf2) hA (by rw [hp2]; decide) ha (fun σ' hn _ => by show (0 : Int) = _; rw [if_pos hn]) fun hn => by show (1 : Int) = _; rw [hn]; rfl)
      refine c.last (cs.give ha) 5 rfl hG fun e _ h16 c he => ?_
      subst he
      unfold uI
      refine .here ?_
      cases hn : (p.node a).isSome with
      | true =>
        refine vb (v := .bool true) rfl ?_
        refine vb (v := .bool true) rfl ?_
        rw [br_true, br_true]
        exact cs.awake31 fun h3 g => hR _ (Gr.trans c.gr g)
      | false =>
        refine vb (v := .bool false) rfl ?_
        refine vb (v := .bool true) rfl ?_
        rw [br_true, br_false]
        refine vb (v := .bool true) rfl ?_
        rw [br_true]
        exact cs.awake31 fun h3 g => hR _ (Gr.trans c.gr g)
  · rw [if_neg g]
    refine vb (v := .bool true) rfl ?_
    rw [br_true]
    obtain ⟨e1', e2'⟩ : r.2 = 1 ∧ σ' = σ0 := by
      rcases hq with ⟨_, h⟩ | ⟨_, _, h⟩
      · obtain ⟨n, hn⟩ := Option.isSome_iff_exists.1 h
        exact absurd (node_some hn).1 g
      · rcases h with ⟨h1, _, h2⟩ | ⟨h, _⟩
        · exact ⟨h1, h2⟩
        · exact absurd h g
    subst e2'
    have hno : (p.node a).isSome = false := by
      unfold Pl.node; rw [if_neg (fun e => g e.1)]; rfl
    refine Jn1.at (fun u h' => u = .bool false ∧ ∃ s L, Cx (fun _ => False) h h' (rVar EPl rp p :: rVar ESh rw_ (ad, xs.length, cap) :: rSpace s σ' :: L)) ?_ ?_
    · rw [e1']
      refine vb (v := .bool false) rfl ?_
      rw [br_false, plA (i := 0) c rfl, vb_some]
      have hG : wp (pGive p a) σ' (fun e τ => e = 1 ∧ τ = σ') := wp_ret (wd_give H0 hA (by rw [hp0]; decide) ha (fun σ' hn _ => by rw [hno] at hn; cases hn) fun _ => ⟨rfl, rfl⟩)
      refine c.last (cs.give ha) 2 rfl hG fun e _ h16 c he => ?_
      obtain ⟨rfl, he2⟩ := he
      rw [he2] at c
      refine vb (v := .bool false) rfl ?_
      rw [br_false, (c.sl (i := 3) rfl).sl.ln, vb_some]
      have : σ'.ents.1.length = 0 := by have := ents_len σ'; rw [hr0] at this; simpa using this
      rw [this]
      exact vb (v := .bool false) rfl ⟨rfl, s, _, c⟩
    clear c
    rintro u h17 ⟨rfl, s, L, c⟩
    rw [br_false, plA (i := 0) c rfl, vb_some, ew c rfl, vb_some, vb_some]
    refine cs.freeBad g fun h18 gg => ?_
    refine ext0t (ext1t ?_)
    refine .here ?_
    refine vb (v := .bool true) rfl ?_
    rw [br_true]
    exact cs.awake31 fun h3 g => hR _ (Gr.trans (Gr.trans c.gr gg) g)
end Go.En
namespace Go.En
open Prog Spc Go.Sort

variable {S : Sys} {I : Ids} {h h0 h' : Hp} {F F0 : Fp} {R : Value → Hp → Prop} {L : List Res} {s : Value} {σ : Spc}

abbrev sSh (u : Sh) : Value := .slice u.1 u.2.1 u.2.2
def ESt : Enc (Sh × Int) := { n := 2, c := fun x => [sSh x.1, .int .i64 x.2], len := fun _ => rfl, one := fun a v h => by simp only [List.mem_cons, List.not_mem_nil, or_false] at h; rcases h with rfl | rfl <;> rfl }
def mSt (x : Sh × Int) : Value := .agg #[sSh x.1, .int .i64 x.2]
theorem bldSt (u : Sh) (n : Int) : bldS [(0, 1), (1, 1)] #[Value.slice none 0 0, Value.int IntKind.i64 0] [(0, sSh u), (1, .int .i64 n)] = some (mSt (u, n)) := by kernel_rfl
theorem st0 {r i : Nat} {x : Sh × Int} (c : Cx F0 h0 h L) (hi : L[i]? = some (rVar ESt r x)) : ldc (.pointer (some ⟨r, 0 + 0, none⟩)) h = some (sSh x.1) := (c.va hi).row.ldc (j := 0) rfl
theorem st1 {r i : Nat} {x : Sh × Int} (c : Cx F0 h0 h L) (hi : L[i]? = some (rVar ESt r x)) : ldc (.pointer (some ⟨r, 0 + 1, none⟩)) h = some (.int .i64 x.2) := (c.va hi).row.ldc (j := 1) rfl
theorem stA {r i : Nat} {x : Sh × Int} (c : Cx F0 h0 h L) (hi : L[i]? = some (rVar ESt r x)) : lda 2 (at0 r) h = some (mSt x) := (c.va hi).whole rfl

theorem K_RTake31 {fs : Sh} {rl : List Int} {out n : Int} (hs : Sl EI1 h (sSh fs) rl) (hN : rl.length ≤ 1000000) (ho : 0 ≤ out ∧ out ≤ 1000000)
    (h1 : ∀ x r w h', rl = r ++ [x] → Cx (fun _ => False) h h' [rSl EI1 (sSh w) r] → R (.tuple #[mSt (w, out), .int .i64 x]) h')
    (h2 : rl = [] → n ≤ out → ∀ h', Gr h h' → R (.tuple #[mSt (fs, out), .int .i64 (-1)]) h')
    (h3 : rl = [] → out < n → ∀ h', Gr h h' → R (.tuple #[mSt (fs, out + 1), .int .i64 out]) h') : F_simulcastref31_Take S I (mSt (fs, out)) (.int .i64 n) h R := by
  unfold F_simulcastref31_Take
  have c := Cx.start0 h
  refine c.nw ESt (fs, out) rfl fun r1 h1' c => ?_
  refine c.nw ESt ((none, 0, 0), 0) rfl fun r2 h2' c => ?_
  refine (c.va (i := 0) rfl).fld (j := 0) rfl ?_
  refine vb (hs.gr c.gr).ln ?_
  rw [bin_gtr, vb_some]
  refine brd (fun h4 => ?_) fun h4 => ?_
  · refine (c.va (i := 0) rfl).fld (j := 0) rfl ?_
    refine (c.va (i := 0) rfl).fld (j := 0) rfl ?_
    refine vb (hs.gr c.gr).ln ?_
    rw [bin_sub, vb_some, wr64 (by omega)]
    have hx : rl[rl.length - 1]? = some rl[rl.length - 1] := List.getElem?_eq_getElem (by omega)
    have hsplit : rl = rl.take (rl.length - 1) ++ [rl[rl.length - 1]] := by
      conv => lhs; rw [← List.take_length (l := rl), show rl.length = rl.length - 1 + 1 by omega]
      rw [List.take_add_one, hx]; rfl
    refine (hs.gr c.gr).one rfl hx (by omega) rfl ?_
    rw [fa_add, vb_some, st0 (i := 0) c rfl, vb_some, vb_some, st0 (i := 0) c rfl, vb_some]
    refine vb (hs.gr c.gr).ln ?_
    rw [bin_sub, vb_some, wr64 (by omega)]
    obtain ⟨w, e1, hs2, _⟩ := (hs.gr c.gr).sub (n := 1) rfl (lo := none) (hi := some (.int .i64 ((rl.length : Int) - 1))) (l := 0) (u := rl.length - 1) (.inl ⟨rfl, rfl⟩) (.inr ⟨_, _, rfl, by omega⟩) (Nat.zero_le _) (by omega)
    refine vb e1 ?_
    rw [fa_add, vb_some, st1 (i := 0) c rfl, vb_some]
    have hs2 : Sl EI1 h2' w (rl.take (rl.length - 1)) := by simpa using hs2
    have g2 := c
    refine c.bsl0 EI1 fun u h5 c => ?_
    refine ⟨st1 (i := 0) c rfl, st0 (i := 0) c rfl, st0 (i := 0) c rfl, ?_⟩
    have hs3 : Sl EI1 h5 w (rl.take (rl.length - 1)) := by
      obtain ⟨w', e1', hs2', _⟩ := (hs.gr c.gr).sub (n := 1) rfl (lo := none) (hi := some (.int .i64 ((rl.length : Int) - 1))) (l := 0) (u := rl.length - 1) (.inl ⟨rfl, rfl⟩) (.inr ⟨_, _, rfl, by omega⟩) (Nat.zero_le _) (by omega)
      have : w' = w := Option.some.inj (e1'.symm.trans e1)
      subst this
      simpa using hs2'
    refine c.ap 2 rfl hs3 rfl rfl (by rw [List.length_take]; simp only [List.length_nil]; omega) (by rw [List.length_take]; simp only [List.length_nil]; omega) fun v' h6 c => ?_
    refine ⟨st1 (i := 0) c rfl, ?_⟩
    obtain ⟨a, l, cp, rfl⟩ := ow_slice (c.sl (i := 2) rfl)
    refine vb (bldSt (a, l, cp) out) ?_
    refine c.sto (n := 2) 1 rfl ((a, l, cp), out) rfl rfl fun h7 c => ?_
    rw [stA (i := 1) c rfl, vb_some]
    exact h1 _ _ (a, l, cp) _ hsplit (c.pick [2])
  · have e0 : rl = [] := List.eq_nil_of_length_eq_zero (by omega)
    refine (c.va (i := 0) rfl).fld (j := 1) rfl ?_
    rw [bin_geq, vb_some]
    refine brd (fun h5 => ?_) fun h5 => ?_
    · rw [stA (i := 0) c rfl, vb_some]
      refine c.sto (n := 2) 1 rfl (fs, out) rfl rfl fun h7 c => ?_
      rw [stA (i := 1) c rfl, vb_some]
      exact h2 e0 h5 _ c.gr
    · refine (c.va (i := 0) rfl).fld (j := 0) rfl ?_
      refine (c.va (i := 0) rfl).fld (j := 1) rfl ?_
      rw [bin_add, vb_some, wr64 (by omega)]
      refine vb (bldSt fs (out + 1)) ?_
      rw [fa_add, vb_some, st1 (i := 0) c rfl, vb_some]
      refine c.sto (n := 2) 1 rfl (fs, out + 1) rfl rfl fun h7 c => ?_
      refine ⟨st1 (i := 0) c rfl, ?_⟩
      rw [stA (i := 1) c rfl, vb_some]
      exact h3 e0 (by omega) _ c.gr
theorem K_RGive31 {fs : Sh} {rl : List Int} {out n : Int} (hs : Sl EI1 h (sSh fs) rl) (hN : rl.length ≤ 1000000) (hR : ∀ w h', Cx (fun _ => False) h h' [rSl EI1 (sSh w) (rl ++ [n])] → R (mSt (w, out)) h') :
    F_simulcastref31_Give S I (mSt (fs, out)) (.int .i64 n) h R := by
  unfold F_simulcastref31_Give
  have c := Cx.start0 h
  refine c.nw ESt (fs, out) rfl fun r1 h1' c => ?_
  refine c.nw ESt ((none, 0, 0), 0) rfl fun r2 h2' c => ?_
  refine Jn0.at (fun h' => ∃ w, Cx (fun _ => False) h h' [rVar ESt r2 (w, out), rSl EI1 (sSh w) (rl ++ [n])]) ?_ ?_
  · rw [fa_add, vb_some, st0 (i := 0) c rfl, vb_some, fa_add, vb_some, st1 (i := 0) c rfl, vb_some]
    refine ⟨?_, ?_⟩
    · refine c.bsl0 EI1 fun u h5 c => ?_
      refine ⟨st1 (i := 0) c rfl, st0 (i := 0) c rfl, ?_, ?_⟩
      · refine c.ap 2 rfl (hs.gr c.gr) rfl rfl (by simp only [List.length_nil]; omega) (by simp only [List.length_nil]; omega) fun v' h6 c => ?_
        refine ⟨st1 (i := 0) c rfl, ?_⟩
        refine c.bsl1 EI1 n rfl rfl fun u h7 c => ?_
        refine ⟨st1 (i := 0) c rfl, ?_⟩
        refine c.ap 2 rfl (c.sl (i := 3) rfl).sl rfl rfl (by simp only [List.nil_append, List.length_singleton]; omega) (by simp only [List.nil_append, List.length_singleton]; omega) fun v' h6 c => ?_
        refine ⟨st1 (i := 0) c rfl, ?_⟩
        obtain ⟨a, l, cp, rfl⟩ := ow_slice (c.sl (i := 2) rfl)
        refine vb (bldSt (a, l, cp) out) ?_
        refine c.sto (n := 2) 1 rfl ((a, l, cp), out) rfl rfl fun h7 c => ?_
        exact ⟨(a, l, cp), c.pick [1, 2]⟩
      · refine c.bsl1 EI1 n rfl rfl fun u h7 c => ?_
        refine ⟨st1 (i := 0) c rfl, st0 (i := 0) c rfl, ?_⟩
        refine c.ap 2 rfl (hs.gr c.gr) rfl rfl (by simp only [List.length_nil]; omega) (by simp only [List.length_nil]; omega) fun v' h6 c => ?_
        refine ⟨st1 (i := 0) c rfl, ?_⟩
        refine c.ap 2 rfl (c.sl (i := 3) rfl).sl rfl rfl (by simp only [List.nil_append, List.length_singleton]; omega) (by simp only [List.nil_append, List.length_singleton]; omega) fun v' h6 c => ?_
        refine ⟨st1 (i := 0) c rfl, ?_⟩
        obtain ⟨a, l, cp, rfl⟩ := ow_slice (c.sl (i := 2) rfl)
        refine vb (bldSt (a, l, cp) out) ?_
        refine c.sto (n := 2) 1 rfl ((a, l, cp), out) rfl rfl fun h7 c => ?_
        exact ⟨(a, l, cp), c.pick [1, 2]⟩
    · refine c.bsl1 EI1 n rfl rfl fun u h7 c => ?_
      refine ⟨st1 (i := 0) c rfl, st0 (i := 0) c rfl, ?_⟩
      refine c.bsl0 EI1 fun u h5 c => ?_
      refine ⟨st1 (i := 0) c rfl, st0 (i := 0) c rfl, ?_⟩
      refine c.ap 3 rfl (hs.gr c.gr) rfl rfl (by simp only [List.length_nil]; omega) (by simp only [List.length_nil]; omega) fun v' h6 c => ?_
      refine ⟨st1 (i := 0) c rfl, ?_⟩
      refine c.ap 3 rfl (c.sl (i := 2) rfl).sl rfl rfl (by simp only [List.nil_append, List.length_singleton]; omega) (by simp only [List.nil_append, List.length_singleton]; omega) fun v' h6 c => ?_
      refine ⟨st1 (i := 0) c rfl, ?_⟩
      obtain ⟨a, l, cp, rfl⟩ := ow_slice (c.sl (i := 3) rfl)
      refine vb (bldSt (a, l, cp) out) ?_
      refine c.sto (n := 2) 1 rfl ((a, l, cp), out) rfl rfl fun h7 c => ?_
      exact ⟨(a, l, cp), c.pick [1, 3]⟩
  · rintro h3 ⟨w, c⟩
    rw [stA (i := 0) c rfl, vb_some]
    exact hR w _ (c.pick [1])
theorem K_Turned31 {l : Value} {rl : List Int} (hs : Sl EI1 h l rl) (hN : rl.length ≤ 1000000) (hR : ∀ w h', Cx (fun _ => False) h h' [rSl EI1 w rl.reverse] → R w h') : F_simulcastref31_Turned S I l h R := by
  unfold F_simulcastref31_Turned
  rw [hs.ln, vb_some, bin_sub, vb_some, wr64 (by omega)]
  refine Lp2.by (fun (i : Nat) u v h' => v = .int .i64 ((i : Int) - 1) ∧ i ≤ rl.length ∧ Cx (fun _ => False) h h' [rSl EI1 u (rl.drop i).reverse]) (fun i => i) rl.length ⟨rfl, Nat.le_refl _, by simpa using (Cx.start0 h).nil EI1⟩ ?_
  rintro i u v h1 ⟨rfl, hi, c⟩ again hagain
  rw [bin_geq, vb_some]
  refine brd (fun h2 => ?_) fun h2 => ?_
  · obtain ⟨k, rfl⟩ : ∃ k, i = k + 1 := ⟨i - 1, by omega⟩
    have hx : rl[k]? = some rl[k] := List.getElem?_eq_getElem (by omega)
    refine (hs.gr c.gr).one rfl hx (by omega) rfl ?_
    refine c.app1 0 rfl rl[k] rfl rfl rfl (by rw [List.length_reverse, List.length_drop]; omega) (by rw [List.length_reverse, List.length_drop]; omega) fun v' h3 c => ?_
    rw [bin_sub, vb_some, wr64 (by omega)]
    refine hagain k _ _ _ ⟨by congr 1; omega, by omega, ?_⟩ (by omega)
    rw [List.drop_eq_getElem_cons (show k < rl.length by omega), List.reverse_cons]
    exact c
  · have : i = 0 := by omega
    subst this
    rw [List.drop_zero] at c
    exact hR _ _ c
theorem K_Same31 {a b : Value} {xs : List Int} (hN : xs.length ≤ 1000000) (ha : Sl EI1 h a xs) (hb : Sl EI1 h b xs) (hR : R (.bool true) h) : F_simulcastref31_Same S I a b h R := by
  unfold F_simulcastref31_Same
  rw [ha.ln, vb_some, hb.ln, vb_some, bin_neq, vb_some]
  refine brd (fun h1 => absurd rfl h1) fun _ => ?_
  refine Lp1.by (fun (i : Nat) u h' => u = .int .i64 i ∧ i ≤ xs.length ∧ h' = h) (fun i => xs.length - i) 0 ⟨rfl, Nat.zero_le _, rfl⟩ ?_
  rintro i u h1 ⟨rfl, hi, rfl⟩ again hagain
  rw [vb_some, bin_lss, vb_some]
  refine brd (fun h2 => ?_) fun h2 => hR
  have hx : xs[i]? = some xs[i] := List.getElem?_eq_getElem (by omega)
  refine ha.one rfl hx rfl rfl (hb.one rfl hx rfl rfl ?_)
  rw [bin_neq, vb_some]
  refine brd (fun h1 => absurd rfl h1) fun _ => ?_
  rw [bin_add, vb_some, wrS (by omega)]
  exact hagain (i + 1) _ _ ⟨rfl, by omega, rfl⟩ (by omega)

/-! ### The words behind a transaction -/
def wsE (ws : List Int) (es : List E6) : List Int := es.foldl (fun ws e => ws.set e.at'.toNat e.new) ws
theorem wsE_len : ∀ {es : List E6} {ws : List Int}, (wsE ws es).length = ws.length
  | [], ws => rfl
  | e :: es, ws => by
    show (wsE (ws.set _ _) es).length = _
    rw [wsE_len, List.length_set]
theorem wsE_at {i : Nat} : ∀ {es : List E6} {ws : List Int}, (∀ e ∈ es, 0 ≤ e.at') → (es.map (·.at')).Nodup → i < ws.length →
    (wsE ws es)[i]? = match es.find? (fun e => e.at' == (i : Int)) with | some e => some e.new | none => ws[i]?
  | [], ws, _, _, _ => rfl
  | e :: es, ws, h0, hn, hi => by
    rw [List.map_cons, List.nodup_cons] at hn
    show (wsE (ws.set e.at'.toNat e.new) es)[i]? = _
    rw [wsE_at (fun x hx => h0 x (List.mem_cons_of_mem _ hx)) hn.2 (by rw [List.length_set]; exact hi), List.find?_cons]
    have hp := h0 e (List.mem_cons_self ..)
    by_cases hb : e.at' = (i : Int)
    · have h1 : (e.at' == (i : Int)) = true := by simpa using hb
      have : es.find? (fun e => e.at' == (i : Int)) = none := by
        rw [List.find?_eq_none]
        intro x hx hc
        simp only [beq_iff_eq] at hc
        exact hn.1 (List.mem_map.2 ⟨x, hx, hc.trans hb.symm⟩)
      rw [h1, this]
      have : e.at'.toNat = i := by omega
      show (ws.set e.at'.toNat e.new)[i]? = _
      rw [this, List.getElem?_set_self hi]
    · have h1 : (e.at' == (i : Int)) = false := by simpa using hb
      rw [h1]
      have : (ws.set e.at'.toNat e.new)[i]? = ws[i]? := List.getElem?_set_ne (by omega)
      rw [this]
theorem entl_find0 {i : Int} (σ : Spc) : σ.entl.find? (fun e => e.at' == i) = if i ∈ σ.rd then some (σ.ent i) else none := by
  unfold Spc.entl
  rw [List.find?_map]
  by_cases hm : i ∈ σ.rd
  · rw [if_pos hm]
    have : (sorted σ.rd).find? ((fun e : E6 => e.at' == i) ∘ σ.ent) = some i := by
      cases hf : (sorted σ.rd).find? ((fun e : E6 => e.at' == i) ∘ σ.ent) with
      | none =>
        rw [List.find?_eq_none] at hf
        refine absurd ?_ (hf i ((sorted_perm σ.rd).mem_iff.2 hm))
        show (i == i) = true
        simp
      | some a =>
        have h2 := List.find?_some hf
        have h2 : (a == i) = true := h2
        simp only [beq_iff_eq] at h2
        rw [h2]
    rw [this]; rfl
  · rw [if_neg hm]
    have : (sorted σ.rd).find? ((fun e : E6 => e.at' == i) ∘ σ.ent) = none := by
      rw [List.find?_eq_none]
      intro a ha hc
      have hc : (a == i) = true := hc
      simp only [beq_iff_eq] at hc
      exact hm (by rw [← hc]; exact (sorted_perm σ.rd).mem_iff.1 ha)
    rw [this]; rfl
/-- a space since words -/
structure OnW (ws : List Int) (σ : Spc) : Prop extends Gd σ where
  en : σ.en = false
  kn : σ.kn = (spW ws).kn
theorem OnW.dom {ws : List Int} (H : OnW ws σ) : Dom ws.length σ.kn := fun a h1 h2 => by rw [H.kn, spW_kn, if_pos ⟨h1, h2⟩]; rfl
theorem OnW.inN {ws : List Int} (H : OnW ws σ) : InN ws.length σ.kn σ := H.toGd.inN H.en fun a h => by
  rw [H.kn, spW_kn] at h
  split at h
  · assumption
  · cases h
theorem OnW.ver {ws : List Int} (H : OnW ws σ) : ∀ a w, σ.kn a = some w → w.ver < 4294967295 := fun a w h => by
  rw [H.kn, spW_kn] at h
  split at h
  · cases h; exact (by decide : (0 : Int) < 4294967295)
  · cases h
theorem OnW.words {ws : List Int} (H : OnW ws σ) : wsE ws σ.entl = (List.range ws.length).map fun (i : Nat) => σ.vw i := by
  refine List.ext_getElem? fun i => ?_
  by_cases hi : i < ws.length
  · rw [wsE_at (fun e he => by obtain ⟨a, ha, rfl⟩ := List.mem_map.1 he; exact (H.inN.rd a ((sorted_perm σ.rd).mem_iff.1 ha)).1) (by show ((σ.entl).map (·.at')).Nodup; unfold Spc.entl; rw [entl_at]; exact nd_sorted H.nd) hi, entl_find0]
    have e : ((List.range ws.length).map fun (i : Nat) => σ.vw i)[i]? = some (σ.vw i) := by simp [hi]
    rw [e]
    by_cases hm : (i : Int) ∈ σ.rd
    · rw [if_pos hm]; rfl
    · rw [if_neg hm]
      show ws[i]? = _
      have hno : (lastP σ.pu i).isSome = false := by
        cases hl : (lastP σ.pu (i : Int)).isSome with
        | false => rfl
        | true =>
          obtain ⟨p, hp, e⟩ := List.mem_map.1 (lastP_mem.1 hl)
          exact absurd (e ▸ H.pu p hp) hm
      rw [vw_old hno, H.kn, spW_kn, if_pos ⟨by omega, by omega⟩, List.getElem?_eq_getElem hi]
      simp [hi]
  · rw [List.getElem?_eq_none (by rw [wsE_len]; omega), List.getElem?_eq_none (by simp; omega)]
theorem K_Behind {u : Sh} {ws : List Int} (cs : CsP2 S I) (H : OnW ws σ) (hl : σ.rd.length ≤ 32) (hN : ws.length ≤ 4096) (hs : ∀ h', Ch F h h' → Sl EI1 h' (sSh u) ws) (a : (rSpace s σ).P h F)
    (hR : ∀ w h', Cx F h h' [rSpace s σ, rSl EI1 (sSh w) ((List.range ws.length).map fun (i : Nat) => σ.vw i)] → R (.tuple #[.agg #[sSh w], .bool true]) h') : F_simulcastlaw31_Words_Behind S I (.agg #[sSh u]) s h R := by
  unfold F_simulcastlaw31_Words_Behind
  have c := Cx.start a
  refine c.nw ESh u rfl fun r1 h1 c => ?_
  refine c.nw ESh (none, 0, 0) rfl fun r2 h2 c => ?_
  have hents := H.inN.entsE H.dom (by omega) H.ver hl
  refine c.cEntries cs.toCsH 0 rfl (by omega) (by rw [H.kn]; exact newS_ref) fun ve h3 c => ?_
  rw [hents] at c ⊢
  refine ext0t (ext1t ?_)
  refine Jn1.at (fun v h' => v = .bool false ∧ h' = h3) ?_ ?_
  · refine vb (v := .bool false) rfl ?_
    rw [br_false]
    obtain ⟨F1, a1⟩ := c.get (i := 0) rfl
    refine cs.ended a1 ?_
    rw [H.en]
    exact ⟨rfl, rfl⟩
  rintro v h4 ⟨rfl, rfl⟩
  rw [br_false]
  refine c.bsl0 EI1 fun w h5 c => ?_
  refine (c.va (i := 1) rfl).fld (j := 0) rfl ?_
  refine c.ap 4 rfl (hs _ c.gr) rfl rfl (by simp only [List.length_nil]; omega) (by simp only [List.length_nil]; omega) fun v' h6 c => ?_
  obtain ⟨b, l, cp, rfl⟩ := ow_slice (c.sl (i := 4) rfl)
  refine vb (v := .agg #[sSh (b, l, cp)]) (by kernel_rfl) ?_
  refine c.nw ESh (none, 0, 0) rfl fun r3 h7 c => ?_
  refine c.sto (n := 1) 5 rfl (b, l, cp) rfl rfl fun h8 c => ?_
  refine Lp1.by (fun (i : Nat) v h' => v = .int .i64 i ∧ i ≤ σ.entl.length ∧ Cx F h h' [rSpace s σ, rVar ESh r1 u, rVar ESh r2 (none, 0, 0), rSl EE ve σ.entl, rSl EI1 (sSh (b, l, cp)) (wsE ws (σ.entl.take i)), rVar ESh r3 (b, l, cp)]) (fun i => σ.entl.length - i) 0 ⟨rfl, Nat.zero_le _, by simpa [wsE] using c⟩ ?_
  clear c
  have hel : σ.entl.length = σ.rd.length := by unfold Spc.entl; rw [List.length_map, sorted_len]
  rintro i v h9 ⟨rfl, hi, c⟩ again hagain
  rw [(c.sl (i := 3) rfl).sl.ln, vb_some, bin_lss, vb_some]
  refine brd (fun h10 => ?_) fun h10 => ?_
  · have hx : σ.entl[i]? = some σ.entl[i] := List.getElem?_eq_getElem (by omega)
    have hin : 0 ≤ σ.entl[i].at' ∧ σ.entl[i].at' < ws.length := by
      obtain ⟨a, ha, e⟩ := List.mem_map.1 (List.getElem_mem (l := σ.entl) (show i < σ.entl.length by omega))
      rw [← e]
      exact H.inN.rd a ((sorted_perm σ.rd).mem_iff.1 ha)
    have htk : wsE ws (σ.entl.take (i + 1)) = (wsE ws (σ.entl.take i)).set σ.entl[i].at'.toNat σ.entl[i].new := by
      unfold wsE
      rw [List.take_add_one, hx, List.foldl_append]; rfl
    generalize σ.entl[i] = e at *
    refine Jn1.at (fun v h' => v = .bool false ∧ h' = h9) ?_ ?_
    · refine (c.sl (i := 3) rfl).sl.fld rfl hx rfl (j := 0) rfl ?_
      refine (c.va (i := 5) rfl).fld (j := 0) rfl ?_
      rw [(c.sl (i := 4) rfl).sl.ln, vb_some, wsE_len, show bin .geq (.int .i64 e.at') (.int .i64 (ws.length : Int)) = some (.bool (decide ((ws.length : Int) ≤ e.at'))) from bin_geq, vb_some]
      refine brF (by omega) ?_
      refine (c.sl (i := 3) rfl).sl.fld rfl hx rfl (j := 0) rfl ?_
      rw [show bin .lss (.int .i64 e.at') (.int .i64 0) = some (.bool (decide (e.at' < 0))) from bin_lss, vb_some, decide_eq_false (by omega)]
      exact ⟨rfl, rfl⟩
    rintro v h11 ⟨rfl, rfl⟩
    rw [br_false]
    refine (c.va (i := 5) rfl).fld (j := 0) rfl ?_
    refine (c.sl (i := 3) rfl).sl.fld rfl hx rfl (j := 0) rfl ?_
    refine (c.sl (i := 3) rfl).sl.fld rfl hx rfl (j := 4) rfl ?_
    refine c.wr 4 rfl (n := e.at'.toNat) (by omega) (by rw [wsE_len]; omega) e.new rfl rfl fun h12 c => ?_
    rw [bin_add, vb_some, wrS (by omega)]
    refine hagain (i + 1) _ _ ⟨rfl, by omega, ?_⟩ (by omega)
    rw [htk]; exact c
  · have ei : i = σ.entl.length := by omega
    subst ei
    rw [List.take_length, H.words] at c
    rw [(c.va (i := 5) rfl).whole (n := 1) rfl, vb_some]
    refine c.sto (n := 1) 2 rfl (b, l, cp) rfl rfl fun h13 c => ?_
    rw [(c.va (i := 2) rfl).whole (n := 1) rfl, vb_some]
    exact hR (b, l, cp) _ (c.pick [0, 4])
end Go.En
namespace Go.En
open Prog Spc Go.Sort

variable {S : Sys} {I : Ids} {h h0 h' : Hp} {F F0 : Fp} {R : Value → Hp → Prop} {L : List Res} {s : Value} {σ : Spc}

structure CsP3 (S : Sys) (I : Ids) : Prop extends CsP2 S I where
  rtake : ∀ {fs : Sh} {rl : List Int} {out n : Int} {h R}, Sl EI1 h (sSh fs) rl → rl.length ≤ 1000000 → 0 ≤ out ∧ out ≤ 1000000 →
    (∀ x r w h', rl = r ++ [x] → Cx (fun _ => False) h h' [rSl EI1 (sSh w) r] → R (.tuple #[mSt (w, out), .int .i64 x]) h') →
    (rl = [] → n ≤ out → ∀ h', Gr h h' → R (.tuple #[mSt (fs, out), .int .i64 (-1)]) h') →
    (rl = [] → out < n → ∀ h', Gr h h' → R (.tuple #[mSt (fs, out + 1), .int .i64 out]) h') → S.C I.f_simulcastref31_Take [mSt (fs, out), .int .i64 n] h R
  rgive : ∀ {fs : Sh} {rl : List Int} {out n : Int} {h R}, Sl EI1 h (sSh fs) rl → rl.length ≤ 1000000 → (∀ w h', Cx (fun _ => False) h h' [rSl EI1 (sSh w) (rl ++ [n])] → R (mSt (w, out)) h') → S.C I.f_simulcastref31_Give [mSt (fs, out), .int .i64 n] h R
  turned : ∀ {l : Value} {rl : List Int} {h R}, Sl EI1 h l rl → rl.length ≤ 1000000 → (∀ w h', Cx (fun _ => False) h h' [rSl EI1 w rl.reverse] → R w h') → S.C I.f_simulcastref31_Turned [l] h R
  same31 : ∀ {a b : Value} {xs : List Int} {h R}, xs.length ≤ 1000000 → Sl EI1 h a xs → Sl EI1 h b xs → R (.bool true) h → S.C I.f_simulcastref31_Same [a, b] h R
  behind : ∀ {u : Sh} {ws : List Int} {σ : Spc} {s : Value} {h F R}, OnW ws σ → σ.rd.length ≤ 32 → ws.length ≤ 4096 → (∀ h', Ch F h h' → Sl EI1 h' (sSh u) ws) → (rSpace s σ).P h F →
    (∀ w h', Cx F h h' [rSpace s σ, rSl EI1 (sSh w) ((List.range ws.length).map fun (i : Nat) => σ.vw i)] → R (.tuple #[.agg #[sSh w], .bool true]) h') → S.C I.f_simulcastlaw31_Words_Behind [.agg #[sSh u], s] h R

theorem Cx.cBehind {u : Sh} {ws : List Int} (cs : CsP3 S I) (c : Cx F0 h0 h L) (i : Nat) (hi : L[i]? = some (rSpace s σ)) (j : Nat) (hj : L[j]? = some (rSl EI1 (sSh u) ws)) (hij : i ≠ j) (H : OnW ws σ) (hl : σ.rd.length ≤ 32) (hN : ws.length ≤ 4096)
    (k : ∀ w h', Cx F0 h0 h' (L.set i (rSpace s σ) ++ [rSl EI1 (sSh w) ((List.range ws.length).map fun (i : Nat) => σ.vw i)]) → R (.tuple #[.agg #[sSh w], .bool true]) h') : S.C I.f_simulcastlaw31_Words_Behind [.agg #[sSh u], s] h R := by
  obtain ⟨F1, c1, hd, up⟩ := c.frameD hi
  obtain ⟨F', a, m⟩ := c1.fin
  have hw := frame_sl hd hij hj
  have ho := c.sl hj
  refine cs.behind H hl hN (fun h' ch => ho.sl.ch ch fun r hr hF => ?_) a fun w h' c2 => k w h' (up (c2.wk m.2))
  rcases m.grow r hF with e | e
  · exact hw r hr e
  · have := ho.lt hr; omega

/-- the pool and the words between two transactions -/
structure Pp (n : Int) (ws : List Int) (fr : List Int) (out : Int) (has : List Int) : Prop where
  len : ws.length = 8 + 8 * n.toNat
  R : ∀ x ∈ ws, R64 x
  P : PoolR (spW ws).vw (p31 n) fr out
  hs : ∀ k ∈ has, 0 ≤ k ∧ k < out ∧ (8 + 8 * k) ∉ fr
  nd : has.Nodup
  cnt : (has.length : Int) + fr.length = out
def ix8 (x : Int) : Int := (x - 8) / 8
theorem PS.vw {p : Pl} {D : Int → Prop} {σ0 σ : Spc} {fr : List Int} {out : Int} {c : Nat} (q : PS p D σ0 σ fr out c) : PoolR σ.vw p fr out ∧ σ.en = false := by
  obtain ⟨m, S, P⟩ := q
  exact ⟨P.ext fun a _ => S.vw a, S.en⟩
theorem Pp.PS {n : Int} {ws fr : List Int} {out : Int} {has : List Int} (H : Pp n ws fr out has) (hn : 0 ≤ n ∧ n ≤ 8) : En.PS (p31 n) (d31 ws.length) (spW ws) (spW ws) fr out 0 ∧ PoolD (d31 ws.length) (p31 n) ∧ Gd (spW ws) := by
  have hl := H.len
  refine ⟨⟨(spW ws).vw, Sm.start (fun a ha => ?_) rfl (newS_wf (knW_val H.R)), H.P⟩, ⟨fun i h1 h2 => ⟨by simp only; omega, by simp only; omega⟩, fun x hx i h1 h2 => ?_⟩, Gd.new (knW_val H.R)⟩
  · rw [spW_kn, if_pos ha]; rfl
  · obtain ⟨j, j0, j1, rfl⟩ := hx
    simp only at j1
    exact ⟨by simp only; omega, by simp only; omega⟩
theorem Pp.next {n : Int} {ws fr fr' : List Int} {out out' : Int} {has has' : List Int} {σ : Spc} (H : Pp n ws fr out has) (hn : 0 ≤ n ∧ n ≤ 8) (hw : σ.wf) (P : PoolR σ.vw (p31 n) fr' out')
    (hs : ∀ k ∈ has', 0 ≤ k ∧ k < out' ∧ (8 + 8 * k) ∉ fr') (nd : has'.Nodup) (cnt : (has'.length : Int) + fr'.length = out') : Pp n ((List.range ws.length).map fun (i : Nat) => σ.vw i) fr' out' has' := by
  have hl := H.len
  refine ⟨by simpa using hl, fun x hx => ?_, ?_, hs, nd, cnt⟩
  · obtain ⟨i, _, rfl⟩ := List.mem_map.1 hx
    exact hw.vw _
  · refine P.ext fun a ha => ?_
    have hin : 0 ≤ a ∧ a < ws.length := by
      rcases ha with h | h | h | h
      · simp only at h; omega
      · simp only at h; omega
      · simp only at h; omega
      · have h2 := P.isN h
        obtain ⟨j, j0, j1, rfl⟩ := h2
        simp only at j1
        exact ⟨by simp only; omega, by simp only; omega⟩
    rw [spW_vw, if_pos (by simpa using hin)]
    have : a.toNat < ws.length := by omega
    simp only [List.getElem?_map, List.getElem?_range this, Option.map_some, Option.getD_some]
    rw [Int.toNat_of_nonneg hin.1]
abbrev EIs (xs : List Int) : List Int := (xs.map ix8).reverse

theorem nodup_erase {xs : List Int} {k : Nat} {q : Int} (hn : xs.Nodup) (hk : xs[k]? = some q) : q ∉ xs.take k ++ xs.drop (k + 1) ∧ (xs.take k ++ xs.drop (k + 1)).Nodup ∧ (∀ x ∈ xs.take k ++ xs.drop (k + 1), x ∈ xs) ∧ (xs.take k ++ xs.drop (k + 1)).length + 1 = xs.length := by
  obtain ⟨hl, rfl⟩ := List.getElem?_eq_some_iff.1 hk
  have e : xs = xs.take k ++ xs[k] :: xs.drop (k + 1) := by rw [← List.drop_eq_getElem_cons hl, List.take_append_drop]
  have hn2 := hn
  rw [e] at hn2
  generalize hq : xs[k] = q at *
  have hp : (xs.take k ++ q :: xs.drop (k + 1)).Perm (q :: (xs.take k ++ xs.drop (k + 1))) := List.perm_middle
  have hn3 := List.nodup_cons.1 (hp.nodup_iff.1 hn2)
  refine ⟨hn3.1, hn3.2, fun x hx => ?_, ?_⟩
  · rw [e]
    exact hp.mem_iff.2 (List.mem_cons_of_mem _ hx)
  · have := hp.length_eq
    rw [← e] at this
    simp only [List.length_cons] at this
    omega

theorem rtake2 {fs : Sh} {rl : List Int} {out n : Int} (cs : CsP3 S I) (hs : Sl EI1 h (sSh fs) rl) (hl : rl.length ≤ 1000000) (ho : 0 ≤ out ∧ out ≤ 1000000)
    (k : ∀ st x h', (∃ r w, rl = r ++ [x] ∧ st = (w, out) ∧ Cx (fun _ => False) h h' [rSl EI1 (sSh w) r]) ∨ (rl = [] ∧ out < n ∧ st = (fs, out + 1) ∧ x = out ∧ Gr h h') ∨ (rl = [] ∧ n ≤ out ∧ st = (fs, out) ∧ x = -1 ∧ Gr h h') → R (.tuple #[mSt st, .int .i64 x]) h') :
    S.C I.f_simulcastref31_Take [mSt (fs, out), .int .i64 n] h R :=
  cs.rtake hs hl ho (fun x r w h' e c => k _ x h' (.inl ⟨r, w, e, rfl, c⟩)) (fun e1 e2 h' g => k _ _ h' (.inr (.inr ⟨e1, e2, rfl, rfl, g⟩))) (fun e1 e2 h' g => k _ _ h' (.inr (.inl ⟨e1, e2, rfl, rfl, g⟩)))

theorem L_PoolPlays {k : Int} {b1 : Value} {acts : List Act31} (cs : CsP3 S I) (hk : 0 ≤ k ∧ k ≤ 255) (s1 : Sl EAct31 h b1 acts) (hok : ∀ a ∈ acts, a.ok) (hR : ∀ h', Gr h h' → R (.bool true) h') :
    F_simulcastlaw31_PoolPlays S I (.int .u8 k) b1 h R := by
  unfold F_simulcastlaw31_PoolPlays
  rw [s1.ln, vb_some, bin_gtr, vb_some]
  refine brd (fun _ => cs.awake31 hR) fun hlen => ?_
  have hn : 0 ≤ k % 9 ∧ k % 9 ≤ 8 := by omega
  refine cs.start31 hk fun ad l1 cp h1 c0 => ?_
  have c := (Cx.start0 h).frame0 c0
  refine ext0t (ext1t ?_)
  refine c.nw EPl ⟨0, 0, 0⟩ rfl fun rp h1 c => ?_
  refine c.nw ESh (none, 0, 0) rfl fun rw_ h1 c => ?_
  refine c.sto 1 rfl (p31 (k % 9)) rfl rfl fun h1 c => ?_
  refine c.sto (n := 1) 2 rfl (ad, l1, cp) rfl rfl fun h1 c => ?_
  refine c.nw ESt ((none, 0, 0), 0) rfl fun rm h1 c => ?_
  have c := (c.nil EI1).nil EI1
  obtain ⟨q0, hD0⟩ := PS.init (p := p31 (k % 9)) (k := 8 + 8 * (k % 9).toNat) ⟨by simp, by simp, hn.1, by simp only; omega, by simp, by simp only; omega, .inr (.inl (by simp))⟩ ⟨by simp only; omega, by simp only; omega⟩
  have H0 : Pp (k % 9) (List.replicate (8 + 8 * (k % 9).toNat) 0) [] 0 [] := ⟨by simp, rep_R64, q0.vw.1, (fun k h => by cases h), List.nodup_nil, rfl⟩
  refine Lp2.by (fun (x : Nat × Sh × List Int × Sh × List Int × Int × List Int) v0 v1 h' => v1 = .int .i64 x.1 ∧ x.1 ≤ acts.length ∧ Pp (k % 9) x.2.2.1 x.2.2.2.2.1 x.2.2.2.2.2.1 x.2.2.2.2.2.2 ∧
      Cx (fun _ => False) h h' [rVar EPl rp (p31 (k % 9)), rVar ESh rw_ x.2.1, rSl EI1 (sSh x.2.1) x.2.2.1, rVar ESt rm (x.2.2.2.1, x.2.2.2.2.2.1), rSl EI1 (sSh x.2.2.2.1) (EIs x.2.2.2.2.1), rSl EI1 v0 x.2.2.2.2.2.2]) (fun x => acts.length - x.1) (0, (ad, l1, cp), _, (none, 0, 0), [], 0, [])
    ⟨rfl, Nat.zero_le _, H0, c.pick [1, 2, 0, 3, 4, 5]⟩ ?_
  clear c c0 q0 hD0 H0
  rintro ⟨i, u, ws, fs, fr, out, has⟩ hv v1 h2 ⟨rfl, hi, H, c⟩ again hagain
  dsimp only at *
  rw [vb_some, bin_lss, vb_some]
  refine brd (fun hlt => ?_) fun _ => cs.awake31 fun h' g => hR _ (Gr.trans c.gr g)
  have hx : acts[i]? = some acts[i] := List.getElem?_eq_getElem (by omega)
  have hax := hok acts[i] (List.getElem_mem _)
  have hwl := H.len
  have hpn := H.P.len; have hp1 := H.P.out1; have hp0 := H.P.out0
  simp only at hp1
  have hcnt := H.cnt
  have hrl : (EIs fr).length = fr.length := by simp [EIs]
  obtain ⟨q, hD, G0⟩ := H.PS hn
  rw [show lda 1 (at0 rw_) h2 = some (.agg #[sSh u]) from (c.va (i := 1) rfl).whole rfl, vb_some]
  refine cs.known (c.sl (i := 2) rfl).sl (by omega) fun mm h3 c2 => ?_
  have c := c.frame0 c2
  obtain ⟨F1, c3, up⟩ := c.frame (i := 6) rfl
  refine cs.new (knW_nodup ws) (knW_val H.R) c3 fun s h4 c4 => ?_
  have c := (up c4).pick [0, 1, 2, 3, 4, 5, 7]
  clear c2 c3 c4 up
  change Cx (fun _ => False) h h4 [rVar EPl rp (p31 (k % 9)), rVar ESh rw_ u, rSl EI1 (sSh u) ws, rVar ESt rm (fs, out), rSl EI1 (sSh fs) (EIs fr), rSl EI1 hv has, rSpace s (spW ws)] at c
  have hr0 : (spW ws).rd = [] := rfl
  have hpu0 : (spW ws).pu = [] := rfl
  have hk0 : (spW ws).kn = (spW ws).kn := rfl
  have hbig : (spW ws).pu.length + 200 ≤ big := by rw [hpu0]; decide
  rw [plA (i := 0) c rfl, vb_some]
  rw [show fa 2 (at0 rp) = some (.pointer (some ⟨rp, 0 + 2, none⟩)) from fa_add _ _ _, vb_some, pl2 (i := 0) c rfl, vb_some, show fa 1 (at0 rm) = some (.pointer (some ⟨rm, 0 + 1, none⟩)) from fa_add _ _ _, vb_some, st1 (i := 3) c rfl, vb_some, bin_sub, vb_some]
  rw [show fa 0 (at0 rm) = some (.pointer (some ⟨rm, 0 + 0, none⟩)) from fa_add _ _ _, vb_some, st0 (i := 3) c rfl, vb_some]
  refine vb (c.sl (i := 4) rfl).sl.ln ?_
  dsimp only
  rw [hrl, wr64 (n := k % 9 - out) (by omega), bin_add, vb_some, wr64 (n := k % 9 - out + fr.length) (by omega)]
  have hleft := wp_gd G0 (wp_cost cost_left (q.left hD))
  refine c.last cs.left 6 rfl hleft fun r σ h5 c hq => ?_
  obtain ⟨G1, hk1, _, hrd1, hr, q1⟩ := hq
  rw [hr0, List.length_nil] at hrd1
  subst hr
  refine ⟨st0 (i := 3) c rfl, st1 (i := 3) c rfl, pl2 (i := 0) c rfl, ?_⟩
  unfold uI
  simp only
  rw [show bin .neq (.int .i64 ((fr.length : Int) + k % 9 - out)) (.int .i64 (k % 9 - out + fr.length)) = some (.bool false) by rw [bin_neq]; congr 2; simp only [decide_eq_false_iff_not, Decidable.not_not]; omega, vb_some, br_false]
  -- the action
  refine Jn1.at (fun hv' h' => ∃ (fs' : Sh) (fr' : List Int) (out' : Int) (has' : List Int) (σ' : Spc), Gd σ' ∧ σ'.kn = (spW ws).kn ∧ σ'.rd.length ≤ 20 ∧ σ'.en = false ∧ PoolR σ'.vw (p31 (k % 9)) fr' out' ∧
      (∀ k ∈ has', 0 ≤ k ∧ k < out' ∧ (8 + 8 * k) ∉ fr') ∧ has'.Nodup ∧ (has'.length : Int) + fr'.length = out' ∧
      Cx (fun _ => False) h h' [rVar EPl rp (p31 (k % 9)), rVar ESh rw_ u, rSl EI1 (sSh u) ws, rVar ESt rm (fs', out'), rSl EI1 (sSh fs') (EIs fr'), rSl EI1 hv' has', rSpace s σ']) ?_ ?_
  · refine (s1.gr c.gr).fld rfl hx rfl (j := 0) rfl ?_
    rw [show bin .rem (.int .u8 acts[i].k) (.int .u8 3) = some (.int .u8 (acts[i].k.tmod 3)) from bin_rem (by omega), vb_some, bin_lss, vb_some]
    have q2 : PS (p31 (k % 9)) (d31 ws.length) σ σ fr out 0 := q1.fresh
    have hl2 : σ.pu.length + 30 ≤ big := by have := q1.len; omega
    refine brd (fun h6 => ?_) fun h6 => ?_
    · rw [plA (i := 0) c rfl, vb_some]
      refine c.last cs.take 6 rfl (wp_gd G1 (wp_cost cost_take (q2.take hD hl2))) fun r σ' h7 c hq => ?_
      obtain ⟨G2, hk2, _, hrd2, hq⟩ := hq
      unfold uE
      refine ext0t (ext1t ?_)
      rw [stA (i := 3) c rfl, vb_some]
      rw [vb_some, pl2 (i := 0) c rfl, vb_some]
      refine rtake2 cs (c.sl (i := 4) rfl).sl (by omega) ⟨hp0, by omega⟩ fun st x h8 hp => ?_
      -- how it ends
      have key : (∃ fs' fr' out', r = (8 + 8 * x, 0) ∧ 0 ≤ x ∧ x ≤ 1000 ∧ st = (fs', out') ∧ PoolR σ'.vw (p31 (k % 9)) fr' out' ∧ σ'.en = false ∧ (∀ k ∈ has ++ [x], 0 ≤ k ∧ k < out' ∧ (8 + 8 * k) ∉ fr') ∧ (has ++ [x]).Nodup ∧ ((has ++ [x]).length : Int) + fr'.length = out' ∧
            Cx (fun _ => False) h h8 [rVar EPl rp (p31 (k % 9)), rVar ESh rw_ u, rSl EI1 (sSh u) ws, rVar ESt rm (fs, out), rSl EI1 (sSh fs') (EIs fr'), rSl EI1 hv has, rSpace s σ']) ∨
          (r = (0, 9) ∧ x = -1 ∧ st = (fs, out) ∧ PoolR σ'.vw (p31 (k % 9)) fr out ∧ σ'.en = false ∧ Cx (fun _ => False) h h8 [rVar EPl rp (p31 (k % 9)), rVar ESh rw_ u, rSl EI1 (sSh u) ws, rVar ESt rm (fs, out), rSl EI1 (sSh fs) (EIs fr), rSl EI1 hv has, rSpace s σ']) := by
        rcases hq with ⟨y, fr', rfl, rfl, q3⟩ | ⟨rfl, ho, rfl, q3⟩ | ⟨rfl, ho, rfl, q3⟩
        · -- a free node
          rcases hp with ⟨r', w, e, rfl, c2⟩ | ⟨e, _⟩ | ⟨e, _⟩
          · left
            obtain ⟨j, j0, j1, ey⟩ := H.P.fN y (List.mem_cons_self ..)
            simp only at ey
            have e : (fr'.map ix8).reverse ++ [ix8 y] = r' ++ [x] := by rw [← e]; simp [EIs]
            obtain ⟨e2, e3⟩ := List.append_inj' e rfl
            simp only [List.cons.injEq, and_true] at e3
            have ex : x = j := by rw [← e3]; unfold ix8; omega
            have hyn : y ∉ fr' := (List.nodup_cons.1 H.P.nd).1
            refine ⟨w, fr', out, by rw [ey, ex], by omega, by omega, rfl, q3.vw.1, q3.vw.2, fun k hk => ?_, ?_, ?_, ?_⟩
            · rcases List.mem_append.1 hk with hk | hk
              · obtain ⟨a1, a2, a3⟩ := H.hs k hk
                exact ⟨a1, a2, fun hm => a3 (List.mem_cons_of_mem _ hm)⟩
              · simp only [List.mem_singleton] at hk
                subst hk
                exact ⟨by omega, by omega, by rw [ex, ← ey]; exact hyn⟩
            · rw [List.nodup_append]
              exact ⟨H.nd, by simp, fun a ha b hb e => by
                rw [List.mem_singleton.1 hb, ex] at e
                exact (H.hs a ha).2.2 (by rw [e, ← ey]; exact List.mem_cons_self ..)⟩
            · rw [List.length_append, List.length_singleton]
              simp only [List.length_cons] at hcnt
              omega
            · have c := (c.frame0 c2).pick [0, 1, 2, 3, 7, 5, 6]
              rw [← e2] at c
              exact c
          · simp [EIs] at e
          · simp [EIs] at e
        · -- a new node
          rcases hp with ⟨r', w, e, _⟩ | ⟨_, _, rfl, rfl, g⟩ | ⟨_, h2, _⟩
          · simp [EIs] at e
          · left
            refine ⟨fs, [], x + 1, rfl, by omega, by omega, rfl, q3.vw.1, q3.vw.2, fun k hk => ?_, ?_, ?_, c.more g⟩
            · rcases List.mem_append.1 hk with hk | hk
              · obtain ⟨a1, a2, a3⟩ := H.hs k hk
                exact ⟨a1, by omega, a3⟩
              · simp only [List.mem_singleton] at hk
                subst hk
                exact ⟨by omega, by omega, by simp⟩
            · rw [List.nodup_append]
              exact ⟨H.nd, by simp, fun a ha b hb e => by
                simp only [List.mem_singleton] at hb
                subst hb; subst e
                have := (H.hs a ha).2.1; omega⟩
            · rw [List.length_append, List.length_singleton]
              simp only [List.length_nil] at hcnt ⊢
              omega
          · have ho : out < k % 9 := ho
            have h2 : k % 9 ≤ out := h2
            omega
        · -- none left
          rcases hp with ⟨r', w, e, _⟩ | ⟨_, h2, _⟩ | ⟨_, _, rfl, rfl, g⟩
          · simp [EIs] at e
          · have ho : out = k % 9 := ho
            have h2 : out < k % 9 := h2
            omega
          · right
            exact ⟨rfl, rfl, rfl, q3.vw.1, q3.vw.2, c.more g⟩
      clear hp c
      refine ext0t (ext1t ?_)
      rcases key with ⟨fs', fr', out', rfl, x0, x1, rfl, P3, en3, k1, k2, k3, c⟩ | ⟨rfl, rfl, rfl, P3, en3, c⟩
      · refine c.nw ESt ((none, 0, 0), 0) rfl fun rn h9 c => ?_
        refine c.sto (n := 2) 7 rfl (fs', out') rfl rfl fun h10 c => ?_
        refine Jn1.at (fun v h' => v = .bool false ∧ h' = h10) ?_ ?_
        · refine vb (v := .bool true) rfl ?_
          refine vb (v := .bool true) (by rw [bin_geq, decide_eq_true x0]) ?_
          refine vb (v := .bool false) rfl ?_
          rw [br_false]
          refine vb (v := .bool true) rfl ?_
          rw [br_true, bin_mul, vb_some, wr64 (by omega), bin_add, vb_some, wr64 (by omega)]
          refine vb (v := .bool false) (by rw [bin_neq]; simp) ?_
          rw [br_false]
          exact vb (v := .bool false) rfl ⟨rfl, rfl⟩
        rintro v h11 ⟨rfl, rfl⟩
        rw [br_false]
        refine Jn1.at (fun hv' h' => Cx (fun _ => False) h h' [rVar EPl rp (p31 (k % 9)), rVar ESh rw_ u, rSl EI1 (sSh u) ws, rVar ESt rm (fs, out), rSl EI1 (sSh fs') (EIs fr'), rSl EI1 hv' (has ++ [x]), rSpace s σ', rVar ESt rn (fs', out')]) ?_ ?_
        · refine vb (v := .bool true) rfl ?_
          rw [br_true]
          exact c.app1 5 rfl x rfl rfl rfl (by omega) (by omega) fun v' h12 c => c
        clear c
        intro hv' h12 c
        rw [stA (i := 7) c rfl, vb_some]
        refine c.sto (n := 2) 3 rfl (fs', out') rfl rfl fun h13 c => ?_
        exact ⟨fs', fr', out', has ++ [x], σ', G2, hk2.trans hk1, by omega, en3, P3, k1, k2, k3, c.drop (L := [_, _, _, _, _, _, _]) (L' := [_])⟩
      · refine c.nw ESt ((none, 0, 0), 0) rfl fun rn h9 c => ?_
        refine c.sto (n := 2) 7 rfl (fs, out) rfl rfl fun h10 c => ?_
        refine Jn1.at (fun v h' => v = .bool false ∧ h' = h10) ?_ ?_
        · refine vb (v := .bool false) rfl ?_
          refine vb (v := .bool false) rfl ?_
          refine vb (v := .bool false) rfl ?_
          rw [br_false]
          refine vb (v := .bool false) rfl ?_
          rw [br_false]
          refine vb (v := .bool true) rfl ?_
          rw [br_true]
          refine vb (v := .bool false) rfl ?_
          rw [br_false]
          exact vb (v := .bool false) rfl ⟨rfl, rfl⟩
        rintro v h11 ⟨rfl, rfl⟩
        rw [br_false]
        refine Jn1.at (fun hv' h' => Cx (fun _ => False) h h' [rVar EPl rp (p31 (k % 9)), rVar ESh rw_ u, rSl EI1 (sSh u) ws, rVar ESt rm (fs, out), rSl EI1 (sSh fs) (EIs fr), rSl EI1 hv' has, rSpace s σ', rVar ESt rn (fs, out)]) ?_ ?_
        · refine vb (v := .bool false) rfl ?_
          rw [br_false]
          exact c
        clear c
        intro hv' h12 c
        rw [stA (i := 7) c rfl, vb_some]
        refine c.sto (n := 2) 3 rfl (fs, out) rfl rfl fun h13 c => ?_
        exact ⟨fs, fr, out, has, σ', G2, hk2.trans hk1, by omega, en3, P3, H.hs, H.nd, H.cnt, c.drop (L := [_, _, _, _, _, _, _]) (L' := [_])⟩
    · rw [(c.sl (i := 5) rfl).sl.ln, vb_some, bin_gtr, vb_some]
      refine brd (fun h7 => ?_) fun h7 => ?_
      · refine (s1.gr c.gr).fld rfl hx rfl (j := 1) rfl ?_
        have hN := hax.2
        rw [cvi_int, vb_some, wr64 (by omega), vb_some, show bin .rem (.int .i64 acts[i].n) (.int .i64 (has.length : Int)) = some (.int .i64 (acts[i].n.tmod (has.length : Int))) from bin_rem (by omega), vb_some, Int.tmod_eq_emod_of_nonneg hN.1]
        have hm1 := Int.emod_nonneg acts[i].n (show (has.length : Int) ≠ 0 by omega)
        have hm2 := Int.emod_lt_of_pos acts[i].n (show (0 : Int) < has.length by omega)
        obtain ⟨z, hz⟩ : ∃ z : Nat, acts[i].n % (has.length : Int) = z := ⟨_, (Int.toNat_of_nonneg hm1).symm⟩
        rw [hz] at hm2 ⊢
        have hq : has[z]? = some has[z] := List.getElem?_eq_getElem (by omega)
        obtain ⟨n1, n2, n3, n4⟩ := nodup_erase H.nd hq
        obtain ⟨a1, a2, a3⟩ := H.hs has[z] (List.getElem_mem _)
        generalize has[z] = y at *
        rw [plA (i := 0) c rfl, vb_some]
        refine (c.sl (i := 5) rfl).sl.one rfl hq rfl rfl ?_
        rw [bin_mul, vb_some, wr64 (by omega), bin_add, vb_some, wr64 (by omega)]
        refine c.last (cs.give ⟨by omega, by omega⟩) 6 rfl (wp_gd G1 (wp_cost cost_give (q2.give hD hl2 (x := 8 + 8 * y) (i := y) rfl ⟨a1, a2⟩ a3))) fun r σ' h8 c hq' => ?_
        obtain ⟨G2, hk2, _, hrd2, rfl, q3⟩ := hq'
        refine vb (v := .bool false) rfl ?_
        rw [br_false, stA (i := 3) c rfl, vb_some]
        refine (c.sl (i := 5) rfl).sl.one rfl hq rfl rfl ?_
        refine cs.rgive (c.sl (i := 4) rfl).sl (by omega) fun w h9 c2 => ?_
        have c := (c.frame0 c2).pick [0, 1, 2, 3, 7, 5, 6]
        clear c2
        have ee : EIs fr ++ [y] = EIs ((8 + 8 * y) :: fr) := by
          show (fr.map ix8).reverse ++ [y] = (ix8 (8 + 8 * y) :: fr.map ix8).reverse
          rw [List.reverse_cons, show ix8 (8 + 8 * y) = y by unfold ix8; omega]
        rw [ee] at c
        refine c.sto (n := 2) 3 rfl (w, out) rfl rfl fun h10 c => ?_
        obtain ⟨v1, e1, hs1, hb1⟩ := (c.sl (i := 5) rfl).sl.sub (n := 1) rfl (lo := none) (hi := some (.int .i64 (z : Nat))) (l := 0) (u := z) (.inl ⟨rfl, rfl⟩) (.inr ⟨_, _, rfl, rfl⟩) (Nat.zero_le _) (by omega)
        obtain ⟨v2, e2, hs2, hb2⟩ := (c.sl (i := 5) rfl).sl.sub (n := 1) rfl (lo := some (.int .i64 ((z + 1 : Nat) : Int))) (hi := none) (l := z + 1) (u := has.length) (.inr ⟨_, _, rfl, rfl⟩) (.inl ⟨rfl, rfl⟩) (by omega) (by omega)
        have hs1 : Sl EI1 h10 v1 (has.take z) := by simpa using hs1
        have hs2 : Sl EI1 h10 v2 (has.drop (z + 1)) := by simpa using hs2
        refine vb e1 ?_
        rw [bin_add, vb_some, wrS (by omega)]
        refine vb e2 ?_
        have k1 : Cx (fun _ => False) h10 h10 [] := Cx.start0 h10
        refine k1.bsl0 EI1 fun w0 h11 k1 => ?_
        refine k1.ap 0 rfl (hs1.gr k1.gr) rfl rfl (by rw [List.length_take]; simp only [List.length_nil]; omega) (by rw [List.length_take]; simp only [List.length_nil]; omega) fun w1 h12 k1 => ?_
        refine k1.ap 0 rfl (hs2.gr k1.gr) rfl rfl (by rw [List.length_drop, List.length_append, List.length_take]; simp only [List.length_nil]; omega) (by rw [List.length_drop, List.length_append, List.length_take]; simp only [List.length_nil]; omega) fun w2 h13 k1 => ?_
        have c := (c.frame0 k1).pick [0, 1, 2, 3, 4, 7, 6]
        refine ⟨w, (8 + 8 * y) :: fr, out, has.take z ++ has.drop (z + 1), σ', G2, hk2.trans hk1, by omega, q3.vw.2, q3.vw.1, fun k hk => ?_, n2, ?_, c⟩
        · obtain ⟨b1, b2, b3⟩ := H.hs k (n3 k hk)
          refine ⟨b1, b2, fun hm => ?_⟩
          rcases List.mem_cons.1 hm with e | hm
          · exact n1 (by rw [show y = k by omega]; exact hk)
          · exact b3 hm
        · simp only [List.length_cons]; omega
      · exact ⟨fs, fr, out, has, σ, G1, hk1, by omega, q1.vw.2, q1.vw.1, H.hs, H.nd, H.cnt, c⟩
  clear c q1 hleft
  rintro hv' h6 ⟨fs', fr', out', has', σ', G2, hk2, hrd2, en2, P2, k1, k2, k3, c⟩
  have O : OnW ws σ' := ⟨G2, en2, hk2⟩
  rw [show lda 1 (at0 rw_) h6 = some (.agg #[sSh u]) from (c.va (i := 1) rfl).whole rfl, vb_some]
  refine c.cBehind cs 6 rfl 2 rfl (by decide) O (by omega) (by omega) fun w h7 c => ?_
  refine ext0t (ext1t ?_)
  have H' := H.next hn G2.wf P2 k1 k2 k3
  have hwl' : ((List.range ws.length).map fun (i : Nat) => σ'.vw i).length = ws.length := by simp
  generalize (List.range ws.length).map (fun (i : Nat) => σ'.vw i) = ws' at *
  have hvw : (spW ws').vw = wget ws' := funext fun a => spW_vw ws' a
  have P' := H'.P
  have hfl := P'.len; have hf1 := P'.out1; have hf0 := P'.out0
  have hf1 : out' ≤ k % 9 := hf1
  refine c.nw ESh (none, 0, 0) rfl fun rx h8 c => ?_
  refine c.sto (n := 1) 8 rfl w rfl rfl fun h9 c => ?_
  rw [plA (i := 0) c rfl, vb_some, show lda 1 (at0 rx) h9 = some (.agg #[sSh w]) from (c.va (i := 8) rfl).whole rfl, vb_some, vb_some]
  obtain ⟨F1, c1, up⟩ := c.frame (i := 7) rfl
  have hfr : freeM (p31 (k % 9)) (wget ws') (p31 (k % 9)).nodes.toNat (wget ws' (p31 (k % 9)).root) [] = some (fr'.map ix8) := by
    rw [← hvw]
    rw [freeM_lk P'.good [] P'.link (fun x hx => P'.isN hx) (by show fr'.length ≤ (k % 9).toNat; omega)]
    rfl
  refine cs.free (A := fun _ : Unit => rSl EI1 (sSh w) ws') (m := wget ws') (x0 := ()) P'.good (fun a => ?_) (fun x a h F R _ a1 hk => ?_) c1 fun _ fv h10 c2 => ?_
  · rw [← hvw]; exact (newS_wf (knW_val H'.R)).vw a
  · refine .inl ⟨_, _, _, rfl, ?_⟩
    refine cs.wget a1.1.sl (by omega) fun h' g => ?_
    exact hk () h' F ((rSl EI1 (sSh w) ws').loc a1 g fun _ _ e => e) ⟨g.mono fun _ _ e => e.elim, fun r hr => .inl hr⟩
  rw [hfr] at c2 ⊢
  have c := up c2
  clear c1 c2 up
  refine ext0t (ext1t ?_)
  refine Jn1.at (fun v h' => v = .bool false ∧ Cx (fun _ => False) h h' [rVar EPl rp (p31 (k % 9)), rVar ESh rw_ u, rSl EI1 (sSh w) ws', rVar ESt rm (fs', out'), rSl EI1 (sSh fs') (EIs fr'), rSl EI1 hv' has', rVar ESh rx w]) ?_ ?_
  · refine vb (v := .bool false) rfl ?_
    rw [br_false]
    refine vb (v := .bool false) rfl ?_
    rw [br_false]
    refine (c.va (i := 3) rfl).fld (j := 0) rfl ?_
    have hel : (EIs fr').length = fr'.length := by simp [EIs]
    refine cs.turned (c.sl (i := 4) rfl).sl (by omega) fun tv h11 c2 => ?_
    have c := c.frame0 c2
    have er : (EIs fr').reverse = fr'.map ix8 := by simp [EIs]
    rw [er] at c
    refine cs.same31 (xs := fr'.map ix8) (by rw [List.length_map]; omega) (c.sl (i := 9) rfl).sl (c.sl (i := 10) rfl).sl ?_
    refine vb (v := .bool false) rfl ?_
    rw [br_false, show lda 1 (at0 rx) h11 = some (.agg #[sSh w]) from (c.va (i := 8) rfl).whole rfl, vb_some, vb_some, st1 (i := 3) c rfl, vb_some]
    refine cs.wget (c.sl (i := 7) rfl).sl (by omega) fun h12 g => ?_
    have c := c.more g
    clear g c2
    refine ⟨st1 (i := 3) c rfl, ?_⟩
    have e4 : wget ws' 4 = out' := by rw [← hvw]; exact P'.outE
    have e5 : wget ws' 5 = fr'.length := by rw [← hvw]; exact P'.frE
    rw [e4, show bin .neq (.int .i64 out') (.int .i64 out') = some (.bool false) by rw [bin_neq]; simp, vb_some, br_false]
    rw [show lda 1 (at0 rx) h12 = some (.agg #[sSh w]) from (c.va (i := 8) rfl).whole rfl, vb_some, vb_some, st0 (i := 3) c rfl, vb_some]
    refine vb (c.sl (i := 4) rfl).sl.ln ?_
    refine cs.wget (c.sl (i := 7) rfl).sl (by omega) fun h13 g => ?_
    have c := c.more g
    clear g
    refine ⟨st0 (i := 3) c rfl, ?_⟩
    rw [e5, hel, show bin .neq (.int .i64 (fr'.length : Int)) (.int .i64 (fr'.length : Int)) = some (.bool false) by rw [bin_neq]; simp, vb_some, br_false]
    refine vb (c.sl (i := 9) rfl).sl.ln ?_
    refine vb (c.sl (i := 5) rfl).sl.ln ?_
    rw [bin_add, vb_some, Option.getD_some, List.length_map, wr64 (by omega)]
    refine (c.va (i := 3) rfl).fld (j := 1) rfl ?_
    rw [show bin .neq (.int .i64 ((fr'.length : Int) + has'.length)) (.int .i64 out') = some (.bool false) by rw [bin_neq]; congr 2; simp only [decide_eq_false_iff_not, Decidable.not_not]; omega, vb_some]
    exact ⟨rfl, c.pick [0, 1, 7, 3, 4, 5, 8]⟩
  clear c
  rintro v h11 ⟨rfl, c⟩
  rw [br_false, show lda 1 (at0 rx) h11 = some (.agg #[sSh w]) from (c.va (i := 6) rfl).whole rfl, vb_some]
  refine c.sto (n := 1) 1 rfl w rfl rfl fun h12 c => ?_
  rw [bin_add, vb_some, wrS (by omega)]
  exact hagain (i + 1, w, ws', fs', fr', out', has') _ _ _ ⟨rfl, by dsimp only; omega, H', c.drop (L := [_, _, _, _, _, _]) (L' := [_])⟩ (by dsimp only; omega)
end Go.En
namespace Go.En
open Prog Spc Go.Sort

variable {S : Sys} {I : Ids} {h h0 h' : Hp} {F F0 : Fp} {R : Value → Hp → Prop} {L : List Res} {s : Value} {σ : Spc}

abbrev All : Int → Prop := fun _ => True
theorem poolAll (p : Pl) : PoolA All p := ⟨fun _ _ _ => trivial, fun _ _ => trivial⟩
section
variable {p : Pl} {root : Int}
theorem wd_qTail {σ0 σ : Spc} {c : Nat} {a v : Int} (H : Wld All σ0 σ c) (hv : R64 v) (ha : R64 a) (hl : σ0.pu.length + c + 8 ≤ big) : wp (qTail root a v) σ fun e σ' => Wld All σ0 σ' (c + 8) ∧ e = 0 := by
  unfold qTail
  refine wd_put H trivial hv (by omega) fun σ1 H => ?_
  refine wd_put H trivial ⟨by decide, by decide⟩ (by omega) fun σ1 H => ?_
  refine wd_put H trivial ha (by omega) fun σ1 H => ?_
  refine wd_get H trivial fun n σ1 hn _ H => ?_
  refine wd_put H trivial (w64_in _) (by omega) fun σ1 H => ?_
  exact ⟨H.mono (by omega), rfl⟩
theorem wd_unP {σ0 σ : Spc} {c : Nat} {α : Type} {q : Unit → Prog α} {Q : α → Spc → Prop} {e : Int} (H : Wld All σ0 σ c) (he : e ≠ 0) (k : ∀ σ', Wld All σ0 σ' c → (σ'.en = false → σ'.pu = σ0.pu) → wp (q ()) σ' Q) : wp (unP e σ0.pu.length >>= q) σ Q := by
  unfold unP
  rw [if_pos he]
  exact wd_back H k
theorem node_R {x : Int} (h : (p.node x).isSome = true) : R64 x ∧ 0 < x := by
  obtain ⟨n, hn⟩ := Option.isSome_iff_exists.1 h
  have := node_lt hn
  exact ⟨⟨by omega, by omega⟩, by omega⟩
theorem wd_qPut {v : Int} (hw : σ.wf) (hv : R64 v) (hl : σ.pu.length + 20 ≤ big) : wp (qPut p root v) σ fun e σ' => Wld All σ σ' 20 ∧ (e ≠ 0 → σ'.en = false → σ'.pu = σ.pu) := by
  unfold qPut
  refine wd_mark ?_
  refine wd_take (Wld.start (A := All) hw) (poolAll p) (by omega) (fun x σ1 hx H => ?_) fun e σ1 he H hpu => ?_
  · rw [if_neg (by simp)]
    refine wd_get H trivial fun en σ2 hen _ H => ?_
    have hxr := (node_R hx).1
    split
    · refine wd_put H trivial hxr (by omega) fun σ3 H => ?_
      exact Prog.wp_mono (wd_qTail H hv hxr (by omega)) fun e σ' ⟨h1, h2⟩ => ⟨h1.mono (by omega), fun h => absurd h2 h⟩
    · split
      · refine wd_put H trivial hxr (by omega) fun σ3 H => ?_
        exact Prog.wp_mono (wd_qTail H hv hxr (by omega)) fun e σ' ⟨h1, h2⟩ => ⟨h1.mono (by omega), fun h => absurd h2 h⟩
      · exact wd_unP H (by decide) fun σ4 H hu => ⟨H.mono (by omega), fun _ => hu⟩
  · have hne : e ≠ 0 := by omega
    rw [if_pos hne]
    exact wd_unP H hne fun σ4 H hu => ⟨H.mono (by omega), fun _ => hu⟩
theorem wd_qEnd {σ0 σ : Spc} {c : Nat} {v : Int} (H : Wld All σ0 σ c) (hl : σ0.pu.length + c + 1 ≤ big) : wp (qEnd root v) σ fun e σ' => Wld All σ0 σ' (c + 1) ∧ e.2 = 0 := by
  unfold qEnd
  refine wd_get H trivial fun n σ1 hn _ H => ?_
  refine wd_put H trivial (w64_in _) (by omega) fun σ1 H => ?_
  exact ⟨H, rfl⟩
theorem wd_qTake (hw : σ.wf) (hl : σ.pu.length + 20 ≤ big) : wp (qTake p root) σ fun e σ' => Wld All σ σ' 20 ∧ (e.2 ≠ 0 → σ'.en = false → σ'.pu = σ.pu) := by
  unfold qTake
  refine wd_mark ?_
  refine wd_get (Wld.start (A := All) hw) trivial fun a σ1 ha _ H => ?_
  split
  · exact wd_unP H (by decide) fun σ4 H hu => ⟨H.mono (by omega), fun _ => hu⟩
  · split
    · rename_i hn
      refine wd_get H trivial fun v σ2 hv _ H => ?_
      refine wd_get H trivial fun nx σ2 hnx _ H => ?_
      refine wd_give H (poolAll p) (by omega) (node_R hn).1 (fun σ3 _ H => ?_) fun hno => ?_
      · rw [if_neg (by simp)]
        refine wd_put H trivial hnx (by omega) fun σ3 H => ?_
        split
        · refine wd_put H trivial ⟨by decide, by decide⟩ (by omega) fun σ3 H => ?_
          exact Prog.wp_mono (wd_qEnd H (by omega)) fun e σ' ⟨h1, h2⟩ => ⟨h1.mono (by omega), fun h => absurd h2 h⟩
        · exact Prog.wp_mono (wd_qEnd H (by omega)) fun e σ' ⟨h1, h2⟩ => ⟨h1.mono (by omega), fun h => absurd h2 h⟩
      · rw [if_pos (by decide)]
        exact wd_unP H (by decide) fun σ4 H hu => ⟨H.mono (by omega), fun _ => hu⟩
    · exact wd_unP H (by decide) fun σ4 H hu => ⟨H.mono (by omega), fun _ => hu⟩
theorem wd_qLoop : ∀ (n : Nat) (a : Int) (acc : List Int) (σ : Spc), wp (qLoop p n a acc) σ fun o _ => ∀ l, o = some l → l.length ≤ acc.length + n
  | 0, a, acc, σ => by
    unfold qLoop
    show ∀ l, (if a = 0 then some acc else none) = some l → _
    intro l hl
    split at hl
    · cases hl; omega
    · cases hl
  | n + 1, a, acc, σ => by
    unfold qLoop
    split
    · show ∀ l, some acc = some l → _
      intro l hl; cases hl; omega
    · split
      · rw [wp_bind, wp_gt, wp_bind, wp_gt]
        refine Prog.wp_mono (wd_qLoop n _ _ _) fun o _ ho l hl => ?_
        have := ho l hl
        rw [List.length_append, List.length_singleton] at this
        omega
      · show ∀ l, none = some l → _
        intro l hl; cases hl
theorem wd_qWalk (hn : 0 ≤ p.nodes) : wp (qWalk p root) σ fun o _ => ∀ l, o = some l → (l.length : Int) ≤ p.nodes := by
  unfold qWalk
  rw [wp_bind, wp_gt]
  refine Prog.wp_mono (wd_qLoop p.nodes.toNat _ [] _) fun o _ ho l hl => ?_
  have := ho l hl
  simp only [List.length_nil] at this
  omega
end
theorem Sl.fld2 {α : Type} {E : Enc α} {v : Value} {xs : List α} (H : Sl E h v xs) {n : Nat} (hn : n = E.n) {k : Value → Prop} {i : Nat} {x : α} (hx : xs[i]? = some x) {q : IntKind} {z : Int} (hz : z = i) (j1 j2 : Nat) {u : Value} (hu : (E.c x)[j1 + j2]? = some u) (hk : k u) :
    Vb (ixs n v (.int q z)) fun p => Vb (fa j1 p) fun p => Vb (fa j2 p) fun p => Vb (ldc p h) k := by
  obtain ⟨r, o, e, hr⟩ := H.ix hx hn hz (k := q)
  rw [e, vb_some, fa_add, vb_some, fa_add, vb_some, Nat.add_assoc]
  exact vb (hr.1.ldc hu) hk
structure CsZ1 (S : Sys) (I : Ids) : Prop extends CsZ S I, CsH S I

theorem L_QueueWild {k : Int} {b1 : Value} {xs : List Int} {a : Act34} (cs : CsZ1 S I) (hk : 0 ≤ k ∧ k ≤ 255) (s1 : Sl EI1 h b1 xs) (w1 : ∀ x ∈ xs, R64 x) (ha : a.ok) (hR : ∀ h', Gr h h' → R (.bool true) h') :
    F_simulcastlaw34_QueueWild S I (.int .u8 k) b1 (.agg ⟨EAct.c a⟩) h R := by
  unfold F_simulcastlaw34_QueueWild
  have c := Cx.start0 h
  refine c.nw EAct a rfl fun ra h1 c => ?_
  rw [s1.ln, vb_some, bin_gtr, vb_some]
  refine brd (fun _ => cs.awake fun h2 g => hR _ (Gr.trans c.gr g)) fun hl => ?_
  have hn : 0 ≤ k % 9 ∧ k % 9 ≤ 8 := by omega
  refine cs.start hk fun ad l1 cp h1 c0 => ?_
  have c := (c.frame0 c0).drop (L := [_])
  refine ext0t (ext1t ?_)
  refine c.nw EPl ⟨0, 0, 0⟩ rfl fun rp h1 c => ?_
  refine c.nw ESh (none, 0, 0) rfl fun r8 h1 c => ?_
  refine c.sto 1 rfl (pQ (k % 9)) rfl rfl fun h1 c => ?_
  refine c.sto (n := 1) 2 rfl (ad, l1, cp) rfl rfl fun h1 c => ?_
  obtain ⟨bd, cap, e1, _⟩ := id s1
  have eb : bldS [(0, 1)] #[Value.slice none 0 0] [(0, b1)] = some (.agg #[b1]) := by rw [e1]; kernel_rfl
  rw [eb, vb_some]
  have c := c.drop (L := [_, _]) (L' := [_])
  refine c.nw ESh (none, 0, 0) rfl fun rw_ h3 c => ?_
  refine c.sto (n := 1) 2 rfl (bd, xs.length, cap) rfl (by rw [e1]; rfl) fun h4 c => ?_
  have ew : ∀ {L h'}, Cx (fun _ => False) h h' L → L[2]? = some (rVar ESh rw_ (bd, xs.length, cap)) → lda 1 (at0 rw_) h' = some (.agg #[b1]) := fun c hi => by rw [(c.va hi).whole (n := 1) rfl, e1]; rfl
  rw [ew c rfl, vb_some]
  refine cs.space0 (s1.gr c.gr) (by omega) w1 fun s h2 c2 => ?_
  have c := c.frame0 c2
  rw [plA (i := 1) c rfl, vb_some]
  have hwf : (spW xs).wf := newS_wf (knW_val w1)
  have hp0 : (spW xs).pu = [] := rfl
  have hr0 : (spW xs).rd = [] := rfl
  have hkr : ∀ a w, (spW xs).kn a = some w → w.ref = 0 := newS_ref
  have hkn : ∀ a, ((spW xs).kn a).isSome = true → 0 ≤ a ∧ a < xs.length := fun a h => by
    rw [spW_kn] at h
    split at h
    · assumption
    · cases h
  obtain ⟨F1, c3, up⟩ := c.frame (i := 3) rfl
  refine cs.walk (p := pQ (k % 9)) ⟨by decide, by decide⟩ c3 (wd_qWalk hn.1) fun o σ' v h5 M c4 ho => ?_
  have c := up c4
  have c := c.pick [0, 1, 2, 4]
  clear c2 c3 c4 up
  refine ext0t (ext1t ?_)
  have htail : ∀ K : Value → Prop, K (.bool false) → Vb (lnS v) fun v50 => Vb (fa 2 (at0 rp)) fun v51 => Vb (ldc v51 h5) fun v52 => Vb (bin .gtr v50 v52) K := fun K hK => by
    rw [(c.sl (i := 3) rfl).sl.ln, vb_some]
    refine (c.va (i := 1) rfl).fld (j := 2) rfl ?_
    have : ((o.getD []).length : Int) ≤ k % 9 := by
      cases o with
      | none => exact hn.1
      | some l => exact ho l rfl
    rw [show bin .gtr (.int .i64 ((o.getD []).length : Int)) (.int .i64 (k % 9)) = some (.bool (decide (k % 9 < ((o.getD []).length : Int)))) from bin_gtr, vb_some, decide_eq_false (by omega)]
    exact hK
  refine Jn1.at (fun u h' => u = .bool false ∧ Cx (fun _ => False) h h' [rVar EAct ra a, rVar EPl rp (pQ (k % 9)), rVar ESh rw_ (bd, xs.length, cap)]) ?_ ?_
  · cases o with
    | none =>
      refine vb (v := .bool true) rfl ?_
      rw [br_true]
      refine vb (v := .bool false) rfl ?_
      rw [br_false]
      refine vb (c.sl (i := 3) rfl).sl.ln (vb (v := .bool false) rfl ?_)
      rw [br_false]
      exact htail _ ⟨rfl, c.pick [0, 1, 2]⟩
    | some l =>
      refine vb (v := .bool false) rfl ?_
      rw [br_false]
      exact htail _ ⟨rfl, c.pick [0, 1, 2]⟩
  clear c htail
  rintro u h6 ⟨rfl, c⟩
  rw [br_false, ew c rfl, vb_some]
  refine cs.space0 (s1.gr c.gr) (by omega) w1 fun s h7 c2 => ?_
  have c := c.frame0 c2
  clear c2
  generalize spW xs = σ0 at *
  refine Jn1.at (fun u h' => ∃ (f : Int) (σ' : Spc), u = .int .i64 f ∧ Wld All σ0 σ' 20 ∧ (f ≠ 0 → σ'.en = false → σ'.pu = []) ∧ Cx (fun _ => False) h h' [rVar EAct ra a, rVar EPl rp (pQ (k % 9)), rVar ESh rw_ (bd, xs.length, cap), rSpace s σ']) ?_ ?_
  · refine (c.va (i := 0) rfl).fld (j := 0) rfl ?_
    rw [show bin .rem (.int .u8 a.k) (.int .u8 3) = some (.int .u8 (a.k.tmod 3)) from bin_rem (by omega), vb_some, bin_lss, vb_some]
    refine brd (fun h8 => ?_) fun h8 => ?_
    · rw [plA (i := 1) c rfl, vb_some]
      refine (c.va (i := 0) rfl).fld (j := 1) rfl ?_
      refine c.last (cs.qput ⟨by decide, by decide⟩ ha.2) 3 rfl (wd_qPut hwf ha.2 (by rw [hp0]; decide)) fun e σ' h9 c hq => ?_
      exact ⟨e, σ', rfl, hq.1, (by rw [← hp0]; exact hq.2), c⟩
    · rw [plA (i := 1) c rfl, vb_some]
      refine c.last (cs.qtake ⟨by decide, by decide⟩) 3 rfl (wd_qTake hwf (by rw [hp0]; decide)) fun e σ' h9 c hq => ?_
      unfold uE
      refine ext0t (ext1t ?_)
      exact ⟨e.2, σ', rfl, hq.1, (by rw [← hp0]; exact hq.2), c⟩
  clear c
  rintro u h8 ⟨f, τ, rfl, H, hu, c⟩
  have hrl : τ.rd.length ≤ 120 := by
    have := rdlen (n := xs.length) (H.nd (by rw [hr0]; exact List.nodup_nil)) fun b hb => hkn b (H.kd (by rw [hr0]; exact fun a h => by cases h) b hb)
    omega
  refine c.cEntries cs.toCsH 3 rfl (by omega) (by rw [H.kn]; exact hkr) fun ve h9 c => ?_
  refine ext0t (ext1t ?_)
  have hel := ents_len τ
  have hes : τ.ents.2 = 0 → f ≠ 0 → ∀ e ∈ τ.ents.1, e.new = e.old.v := fun hf hne e he => by
    have hen : τ.en = false := by
      cases hc : τ.en with
      | false => rfl
      | true => unfold Spc.ents at hf; rw [if_pos hc] at hf; cases hf
    have hpu := hu hne hen
    obtain ⟨b, hb, rfl⟩ := ents_mem hf e he
    show τ.vw b = ((τ.kn b).getD W0).v
    unfold Spc.vw
    rw [hpu]
    show (none : Option Int).getD _ = _
    cases τ.kn b <;> rfl
  refine Lp1.by (fun (i : Nat) v h' => v = .int .i64 i ∧ i ≤ τ.ents.1.length ∧ h' = h9) (fun i => τ.ents.1.length - i) 0 ⟨rfl, Nat.zero_le _, rfl⟩ ?_
  rintro i v h10 ⟨rfl, hi, rfl⟩ again hagain
  refine Jn1.at (fun u h' => h' = h10 ∧ ∃ bb : Bool, u = .bool bb ∧ (bb = true → i < τ.ents.1.length ∧ τ.ents.2 = 0 ∧ f ≠ 0)) ?_ ?_
  · rw [(c.sl (i := 4) rfl).sl.ln, vb_some, bin_lss, vb_some]
    refine brd (fun h13 => ?_) fun h13 => ⟨rfl, false, rfl, fun e => by cases e⟩
    rw [bin_eql, vb_some]
    refine brd (fun h14 => ?_) fun h14 => ⟨rfl, false, rfl, fun e => by cases e⟩
    rw [bin_neq, vb_some]
    exact ⟨rfl, _, rfl, fun e => ⟨by omega, h14, of_decide_eq_true e⟩⟩
  rintro u h13 ⟨rfl, bb, rfl, hb⟩
  cases bb with
  | true =>
    rw [br_true]
    obtain ⟨hi, hf, hne⟩ := hb rfl
    have hx : τ.ents.1[i]? = some τ.ents.1[i] := List.getElem?_eq_getElem hi
    have hk := hes hf hne τ.ents.1[i] (List.getElem_mem _)
    generalize τ.ents.1[i] = e at *
    refine (c.sl (i := 4) rfl).sl.fld rfl hx rfl (j := 4) rfl ?_
    refine (c.sl (i := 4) rfl).sl.fld2 rfl hx rfl 1 0 rfl ?_
    rw [hk, show bin .neq (.int .i64 e.old.v) (.int .i64 e.old.v) = some (.bool false) by rw [bin_neq]; simp, vb_some, br_false, bin_add, vb_some, wrS (by omega)]
    exact hagain (i + 1) _ _ ⟨rfl, hi, rfl⟩ (by omega)
  | false =>
    rw [br_false]
    exact cs.awake fun h2 g => hR _ (Gr.trans c.gr g)
end Go.En
