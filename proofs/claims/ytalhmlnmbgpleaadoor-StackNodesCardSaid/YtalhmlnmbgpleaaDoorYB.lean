/-
  Layer 33: the stack's functions.
  Layer 33: a world: words by location; a transaction on it.
  Layer 33: Alike, Fresh, Nodes; the reference; slices.Equal.
-/
import Derived.Test.YtalhmlnmbgpleaaDoorYA
import Derived.Test.YtalhmlnmbgpleaaDoorXD
import Derived.Test.YtalhmlnmbgpleaaDoorXE
namespace Go.En
open Prog Spc Go.Sort

variable {S : Sys} {I : Ids} {h h0 h' : Hp} {F F0 : Fp} {R : Value → Hp → Prop} {L : List Res} {s : Value} {σ τ : Spc}
theorem addI {a b : Int} (h : R64 (a + b)) : bin .add (.int .i64 a) (.int .i64 b) = some (.int .i64 (a + b)) := by rw [bin_add, wr64 h]
theorem add0 {a : Int} (h : R64 a) : bin .add (.int .i64 a) (.int .i64 0) = some (.int .i64 a) := by
  rw [addI (by rw [Int.add_zero]; exact h), Int.add_zero]
theorem uno_nb (r : Bool) : uno .not (.bool r) = some (.bool !r) := rfl
theorem eqI (a : Int) : bin .eql (.int .i64 a) (.int .i64 a) = some (.bool true) := by rw [bin_eql]; simp
theorem neI (a : Int) : bin .neq (.int .i64 a) (.int .i64 a) = some (.bool false) := by rw [bin_neq]; simp
theorem dUn0 (m m' : Int) : dUn 0 m = dUn 0 m' := rfl
theorem K_sMore {root n : Int} (cs : CsT S I) (hr : 0 ≤ root ∧ root ≤ 1000000) : ∀ h0 F σ R Q, Cx F h0 h0 [rSpace s σ] → wp (sMore root n) σ Q → (∀ a σ' h' M, Cx F h0 h' (rSpace s σ' :: M) → Q a σ' → R (uU a) h') → F_stack_more S I s (.int .i64 root) (.int .i64 n) h0 R := by
  intro h0 F σ R Q c hp hR
  unfold F_stack_more
  have hp : wp (gt (root + 1) >>= fun v => pt (root + 1) (w64 (v + n)) >>= fun _ => gt (root + 7) >>= fun v => pt (root + 7) (w64 (v + n))) σ Q := hp
  rw [addI ⟨by omega, by omega⟩, vb_some, vb_some, addI ⟨by omega, by omega⟩]
  refine c.does cs.get 0 rfl hp fun v σ h1 c hp => ?_
  unfold uI
  rw [bin_addw, vb_some]
  refine c.does cs.put 0 rfl hp fun _ σ h2 c hp => ?_
  rw [vb_some, vb_some]
  refine c.does cs.get 0 rfl hp fun v σ h1 c hp => ?_
  unfold uI
  rw [bin_addw, vb_some]
  refine c.last cs.put 0 rfl hp fun _ σ h2 c hq => ?_
  exact hR _ _ _ [] c hq
theorem K_sUndo (cs : CsT S I) {r : Nat} {e m : Int} {R : Hp → Prop} (a : (rSpace s σ).P h F) (hv : Va EI1 h r e) (hR : ∀ h' F', (rSpace s (if e ≠ 0 then σ.back m else σ)).P h' F' → Mv F h F' h' → R h') :
    F_stack_undo S I s (.int .i64 m) (at0 r) h fun _ h => R h := by
  unfold F_stack_undo
  refine nckb ?_
  rw [hv.one rfl]
  simp only [go_sem]
  refine brd (fun h1 => ?_) fun h1 => ?_
  · rw [if_pos h1] at hR
    have c := Cx.start a
    exact c.last cs.back 0 rfl (Q := fun _ σ' => σ' = σ.back m) rfl fun _ σ' h' c e => let ⟨F', a', m⟩ := c.fin; hR _ _ (e ▸ a') m
  · rw [if_neg h1] at hR
    exact hR _ _ a (.refl _ _)
structure CsS1' (S : Sys) (I : Ids) : Prop extends CsT S I where
  smore : ∀ {root n : Int} {s}, 0 ≤ root ∧ root ≤ 1000000 → Does S I.f_stack_more [s, .int .i64 root, .int .i64 n] s (sMore root n) uU
  sundo : ∀ {s h F σ r} {e m : Int} {R : Hp → Prop}, (rSpace s σ).P h F → Va EI1 h r e → (∀ h' F', (rSpace s (if e ≠ 0 then σ.back m else σ)).P h' F' → Mv F h F' h' → R h') → S.D I.f_stack_undo [s, .int .i64 m, at0 r] h R
theorem Cx.sundo {β : Type} {r : Nat} {e m : Int} {R : Hp → Prop} {q : Unit → Prog β} {Q : β → Spc → Prop} (cs : CsS1' S I) (c : Cx F0 h0 h L) (i : Nat) (hi : L[i]? = some (rSpace s σ)) (j : Nat) (hj : L[j]? = some (rVar EI1 r e))
    (hp : wp (dUn e m >>= q) σ Q) (k : ∀ σ' h', Cx F0 h0 h' (L.set i (rSpace s σ')) → wp (q ()) σ' Q → R h') : S.D I.f_stack_undo [s, .int .i64 m, at0 r] h R := by
  obtain ⟨F, a, up⟩ := c.upd hi
  refine cs.sundo a (c.va hj) fun h' F' a' mv => k _ _ (up a' mv) ?_
  rw [Prog.wp_bind] at hp
  unfold dUn at hp
  split at hp
  · rename_i he; rw [if_pos he]; exact hp
  · rename_i he; rw [if_neg he]; exact hp
section
variable {p : Pl} {root v : Int}
theorem K_sPush (cs : CsS1' S I) (hr : 0 ≤ root ∧ root ≤ 1000000) : ∀ h0 F σ R Q, Cx F h0 h0 [rSpace s σ] → wp (sPush p root v) σ Q → (∀ a σ' h' M, Cx F h0 h' (rSpace s σ' :: M) → Q a σ' → R (uI a) h') → F_stack_Push S I s (vP p) (.int .i64 root) (.int .i64 v) h0 R := by
  intro h0 F σ R Q c hp hR
  unfold F_stack_Push
  unfold sPush at hp
  refine c.nw EPl p rfl fun rp h1 c => ?_
  refine c.nw EI1 0 rfl fun re h1 c => ?_
  refine c.doesE cs.mark Ens.mk 0 rfl hp fun m σ h1 hm c hp => ?_
  rw [plA (i := 1) c rfl, vb_some]
  refine c.doesE cs.take (Ens.take p) 0 rfl hp fun t σ h1 hE c hp => ?_
  unfold uE
  refine ext0t (ext1t ?_)
  refine c.sto1 2 rfl t.2 rfl rfl fun h1 c => ?_
  rw [(c.va (i := 2) rfl).one rfl, vb_some, bin_neq, vb_some]
  refine brd (fun h3 => ?_) fun h3 => ?_
  · rw [if_pos h3] at hp
    rw [vb_some]
    refine c.sto1 2 rfl t.2 rfl rfl fun h4 c => ?_
    refine c.sundo cs 0 rfl 2 rfl hp fun σ h5 c hp => ?_
    rw [(c.va (i := 2) rfl).one rfl, vb_some]
    exact hR _ _ _ _ c hp
  · rw [if_neg h3] at hp
    have hnode : (p.node t.1).isSome = true := by
      rcases hE with h | h
      · exact h.2
      · rcases h.2 with h | h | h <;> omega
    obtain ⟨nn, hnn⟩ := Option.isSome_iff_exists.1 hnode
    have hlt := node_lt hnn
    have hrR : R64 root := ⟨by omega, by omega⟩
    have htR : R64 t.1 := ⟨by omega, by omega⟩
    refine En.vb (add0 htR) ?_
    refine En.vb (add0 hrR) ?_
    refine c.does cs.get 0 rfl hp fun tp σ h1 c hp => ?_
    unfold uI
    refine c.does cs.put 0 rfl hp fun _ σ h1 c hp => ?_
    refine En.vb (addI ⟨by omega, by omega⟩) ?_
    refine c.does cs.put 0 rfl hp fun _ σ h1 c hp => ?_
    refine En.vb (add0 hrR) ?_
    refine c.does cs.put 0 rfl hp fun _ σ h1 c hp => ?_
    refine c.does (cs.smore hr) 0 rfl hp fun _ σ h1 c hp => ?_
    refine c.sto1 2 rfl 0 rfl rfl fun h1 c => ?_
    refine c.sundo cs 0 rfl 2 rfl hp fun σ h5 c hp => ?_
    rw [(c.va (i := 2) rfl).one rfl, vb_some]
    exact hR _ _ _ _ c hp
theorem ens_give (p : Pl) (a : Int) : Ens (pGive p a) fun e => (e = 0 ∧ (p.node a).isSome = true) ∨ (e = 1 ∧ (p.node a).isSome = false) := by
  unfold pGive
  refine .ite (fun h => .then fun _ => .then fun _ => .then fun _ => .then fun _ => .pure (.inl ⟨rfl, h⟩)) fun h => .pure (.inr ⟨rfl, by simpa using h⟩)
theorem K_sPop (cs : CsS1' S I) (hr : 0 ≤ root ∧ root ≤ 1000000) : ∀ h0 F σ R Q, Cx F h0 h0 [rSpace s σ] → wp (sPop p root) σ Q → (∀ a σ' h' M, Cx F h0 h' (rSpace s σ' :: M) → Q a σ' → R (uE a) h') → F_stack_Pop S I s (vP p) (.int .i64 root) h0 R := by
  intro h0 F σ R Q c hp hR
  unfold F_stack_Pop
  unfold sPop at hp
  have hrR : R64 root := ⟨by omega, by omega⟩
  refine c.nw EPl p rfl fun rp h1 c => ?_
  refine c.nw EI1 0 rfl fun re h1 c => ?_
  refine c.doesE cs.mark Ens.mk 0 rfl hp fun m σ h1 hm c hp => ?_
  refine En.vb (add0 hrR) ?_
  refine c.doesE cs.get (Ens.gt _) 0 rfl hp fun a σ h1 ha c hp => ?_
  unfold uI
  rw [bin_eql, vb_some]
  refine brd (fun h6 => ?_) fun h6 => ?_
  · rw [if_pos h6] at hp
    refine c.sto1 2 rfl 8 rfl rfl fun h1 c => ?_
    refine c.sundo cs 0 rfl 2 rfl hp fun σ h5 c hp => ?_
    rw [(c.va (i := 2) rfl).one rfl, vb_some]
    exact hR _ _ _ _ c hp
  rw [if_neg h6] at hp
  rw [plA (i := 1) c rfl, vb_some]
  refine c.pur (cs.node ha) fun h1 c => ?_
  unfold vN
  refine ext0t (ext1t ?_)
  rw [uno_nb, vb_some]
  cases hn : p.node a with
  | none =>
    rw [hn, if_neg (by simp)] at hp
    rw [Option.isSome_none, Bool.not_false, br_true]
    refine c.sto1 2 rfl 24 rfl rfl fun h1 c => ?_
    refine c.sundo cs 0 rfl 2 rfl hp fun σ h5 c hp => ?_
    rw [(c.va (i := 2) rfl).one rfl, vb_some]
    exact hR _ _ _ _ c hp
  | some n =>
    have hlt := node_lt hn
    rw [hn, if_pos (by rfl)] at hp
    rw [Option.isSome_some, Bool.not_true, br_false]
    refine En.vb (add0 ha) ?_
    refine c.does cs.get 0 rfl hp fun nx σ h1 c hp => ?_
    unfold uI
    refine En.vb (addI ⟨by omega, by omega⟩) ?_
    refine c.does cs.get 0 rfl hp fun v σ h1 c hp => ?_
    unfold uI
    rw [plA (i := 1) c rfl, vb_some]
    refine c.does (cs.give ha) 0 rfl hp fun e2 σ h1 c hp => ?_
    unfold uI
    rw [bin_neq, vb_some]
    refine brd (fun h7 => ?_) fun h7 => ?_
    · rw [if_pos h7] at hp
      refine c.sto1 2 rfl e2 rfl rfl fun h1 c => ?_
      refine c.sundo cs 0 rfl 2 rfl hp fun σ h5 c hp => ?_
      rw [(c.va (i := 2) rfl).one rfl, vb_some]
      exact hR _ _ _ _ c hp
    · rw [if_neg h7] at hp
      refine En.vb (add0 hrR) ?_
      refine c.does cs.put 0 rfl hp fun _ σ h1 c hp => ?_
      refine c.does (cs.smore hr) 0 rfl hp fun _ σ h1 c hp => ?_
      refine c.sto1 2 rfl 0 rfl rfl fun h1 c => ?_
      refine c.sundo cs 0 rfl 2 rfl hp fun σ h5 c hp => ?_
      rw [(c.va (i := 2) rfl).one rfl, vb_some]
      exact hR _ _ _ _ c hp
/-- the answer of Top where the word below may be anything -/
def sTop' (root : Int) : Prog (Int × Int) := gt root >>= fun a => if a = 0 then pure (0, 8) else gt (w64 (a + 1)) >>= fun x => pure (x, 0)
theorem K_sTop (cs : CsT S I) (hr : 0 ≤ root ∧ root ≤ 1000000) : ∀ h0 F σ R Q, Cx F h0 h0 [rSpace s σ] → wp (sTop' root) σ Q → (∀ a σ' h' M, Cx F h0 h' (rSpace s σ' :: M) → Q a σ' → R (uE a) h') → F_stack_Top S I s (.int .i64 root) h0 R := by
  intro h0 F σ R Q c hp hR
  unfold F_stack_Top
  unfold sTop' at hp
  refine En.vb (add0 ⟨by omega, by omega⟩) ?_
  refine c.does cs.get 0 rfl hp fun a σ h1 c hp => ?_
  unfold uI
  rw [bin_eql, vb_some]
  refine brd (fun h6 => ?_) fun h6 => ?_
  · rw [if_pos h6] at hp
    exact hR (0, 8) _ _ _ c hp
  · rw [if_neg h6] at hp
    rw [bin_addw, vb_some]
    refine c.does cs.get 0 rfl hp fun x σ h1 c hp => ?_
    exact hR (x, 0) _ _ _ c hp
theorem K_sLen (cs : CsT S I) (hr : 0 ≤ root ∧ root ≤ 1000000) : ∀ h0 F σ R Q, Cx F h0 h0 [rSpace s σ] → wp (gt (root + 1)) σ Q → (∀ a σ' h' M, Cx F h0 h' (rSpace s σ' :: M) → Q a σ' → R (uI a) h') → F_stack_Len S I s (.int .i64 root) h0 R := by
  intro h0 F σ R Q c hp hR
  unfold F_stack_Len
  refine En.vb (addI ⟨by omega, by omega⟩) ?_
  refine c.last cs.get 0 rfl hp fun a σ h1 c hq => ?_
  exact hR _ _ _ _ c hq
theorem K_sWalk (cs : CsT S I) (hr : 0 ≤ root ∧ root ≤ 1000000) (hp0 : 0 ≤ p.nodes ∧ p.nodes ≤ 1000) : ∀ h0 F σ (R : Value → Hp → Prop) (Q : Option (List Int) → Spc → Prop), Cx F h0 h0 [rSpace s σ] → wp (sWalk p root) σ Q →
    (∀ r σ' v h' M, Cx F h0 h' (rSpace s σ' :: rSl EI1 v (r.getD []) :: M) → Q r σ' → R (.tuple #[v, .int .i64 (if r.isSome then 0 else 24)]) h') → F_stack_Walk S I s (vP p) (.int .i64 root) h0 R := by
  intro h0 F σ R Q c hp hR
  unfold F_stack_Walk
  unfold sWalk at hp
  refine c.nw EPl p rfl fun rp h1 c => ?_
  refine En.vb (add0 ⟨by omega, by omega⟩) ?_
  refine c.doesE cs.get (Ens.gt _) 0 rfl hp fun a σ h2 ha c hp => ?_
  unfold uI
  have c := c.nil EI1
  refine Lp2.by (fun (z : Nat × Int × Spc × List Int) u v h' => v = .int .i64 z.2.1 ∧ R64 z.2.1 ∧ (z.2.2.2.length : Int) + z.1 = p.nodes ∧ wp (sLoop p z.1 z.2.1 z.2.2.2) z.2.2.1 Q ∧ Cx F h0 h' [rSpace s z.2.2.1, rVar EPl rp p, rSl EI1 u z.2.2.2]) (fun z => z.1) (p.nodes.toNat, a, σ, []) ⟨rfl, ha, by dsimp only; rw [List.length_nil]; omega, hp, c⟩ ?_
  clear c hp
  rintro ⟨n, a, σ, acc⟩ u v h3 ⟨rfl, ha, hl, hp, c⟩ again hagain
  dsimp only at *
  rw [plA (i := 1) c rfl, vb_some]
  refine c.pur (cs.node ha) fun h4 c => ?_
  unfold vN
  refine ext0t (ext1t ?_)
  rw [bin_eql, vb_some]
  refine brd (fun e => ?_) fun e => ?_
  · have hq : Q (some acc) σ := by
      cases n with
      | zero => unfold sLoop at hp; rw [if_pos e] at hp; exact hp
      | succ n => unfold sLoop at hp; rw [if_pos e] at hp; exact hp
    exact hR (some acc) σ _ _ _ (c.pick [0, 2, 1]) hq
  · refine Jn1.at (fun v h' => v = .bool (decide (¬ ((p.node a).isSome = true ∧ 0 < n))) ∧ h' = h4) ?_ ?_
    · rw [uno_nb, vb_some]
      cases hn : (p.node a).isSome with
      | false =>
        rw [Bool.not_false, br_true]
        exact ⟨by simp, rfl⟩
      | true =>
        rw [Bool.not_true, br_false, (c.sl (i := 2) rfl).sl.ln, vb_some]
        refine (c.va (i := 1) rfl).fld (j := 2) rfl ?_
        rw [bin_geq, vb_some]
        refine ⟨?_, rfl⟩
        congr 1
        exact decide_eq_decide.2 ⟨fun h hc => by have := hc.2; omega, fun h => by have h0 : n = 0 := Nat.eq_zero_of_not_pos fun h2 => h ⟨rfl, h2⟩; omega⟩
    rintro v h5 ⟨rfl, rfl⟩
    refine brd (fun hb => ?_) fun hb => ?_
    · have hq : Q none σ := by
        cases n with
        | zero => unfold sLoop at hp; rw [if_neg e] at hp; exact hp
        | succ n => unfold sLoop at hp; rw [if_neg e, if_neg (fun h => hb ⟨h, Nat.succ_pos n⟩)] at hp; exact hp
      have c := c.nil EI1
      exact hR none σ _ _ [] (c.pick [0, 3]) hq
    · obtain ⟨hn, hn0⟩ := Classical.not_not.1 hb
      obtain ⟨n, rfl⟩ : ∃ n', n = n' + 1 := ⟨n - 1, by omega⟩
      unfold sLoop at hp
      rw [if_neg e, if_pos hn] at hp
      have hlt := node_RS hn
      obtain ⟨nn, hnn⟩ := Option.isSome_iff_exists.1 hn
      have hlt := node_lt hnn
      refine En.vb (addI ⟨by omega, by omega⟩) ?_
      refine c.does cs.get 0 rfl hp fun x σ h6 c hp => ?_
      unfold uI
      refine c.app1 2 rfl x rfl rfl rfl (by omega) (by omega) fun w h7 c => ?_
      refine En.vb (add0 ha) ?_
      refine c.doesE cs.get (Ens.gt _) 0 rfl hp fun nx σ h8 hnx c hp => ?_
      exact hagain (n, nx, σ, acc ++ [x]) _ _ _ ⟨rfl, hnx, by dsimp only; rw [List.length_append, List.length_singleton]; omega, hp, c⟩ (by dsimp only; omega)
end
end Go.En
namespace Go.En
open Prog Spc Go.Sort

variable {S : Sys} {I : Ids} {h h0 h' : Hp} {F F0 : Fp} {R : Value → Hp → Prop} {L : List Res} {s : Value} {σ τ : Spc}
theorem Mp.ln {α : Type} {ik : IntKind} {E : α → Value} {v : Value} {ps : List (Int × α)} (H : Mp ik E h v ps) : lnM v h = some (.int .i64 ps.length) := by
  obtain ⟨r, es, clock, rfl, hh, he⟩ := H
  have e : es.size = ps.length := by
    have := congrArg List.length he.dat
    rw [List.length_map, List.length_map, Array.length_toList] at this
    exact this
  show (match h[r]? with | some (.map es _) => some (Value.int .i64 es.size) | _ => none) = _
  rw [hh]
  show some (Value.int .i64 es.size) = _
  rw [e]
/-- the words of the first N locations -/
structure WoR (N : Nat) (ps : List (Int × W3)) (m : Int → Int) (V : Int) : Prop where
  nd : (ps.map (·.1)).Nodup
  dom : ∀ a, (lookA ps a).isSome = true ↔ (0 ≤ a ∧ a < N)
  val : ∀ a w, lookA ps a = some w → w.v = m a ∧ w.ref = 0 ∧ 0 ≤ w.ver ∧ w.ver ≤ V
  out : ∀ a, ¬ (0 ≤ a ∧ a < (N : Int)) → m a = 0
  rg : ∀ a, R64 (m a)
section
variable {N : Nat} {ps ps' qs : List (Int × W3)} {m m' : Int → Int} {V V' : Int}
theorem WoR.mem (H : WoR N ps m V) {p : Int × W3} (h : p ∈ ps) : p.2.v = m p.1 ∧ p.2.ref = 0 ∧ 0 ≤ p.2.ver ∧ p.2.ver ≤ V := H.val p.1 p.2 ((lookA_mem H.nd).1 h)
theorem WoR.kn (H : WoR N ps m V) : (newS ps).kn = lookA ps := by
  funext a
  show (lookA ps a).filter _ = _
  cases hx : lookA ps a with
  | none => rfl
  | some w =>
    have := (H.val a w hx).2.1
    simp [Option.filter, this]
theorem WoR.sm (H : WoR N ps m V) : Sm (fun a => 0 ≤ a ∧ a < (N : Int)) (newS ps) (newS ps) m 0 := by
  refine ⟨rfl, rfl, fun a ha => by rw [H.kn]; exact (H.dom a).2 ha, ⟨[], rfl, Nat.le_refl _⟩, fun a => ?_, H.rg⟩
  show (((newS ps).kn a).map (·.v)).getD 0 = m a
  rw [H.kn]
  cases hx : lookA ps a with
  | none =>
    have : ¬ (0 ≤ a ∧ a < (N : Int)) := fun h => by have := (H.dom a).2 h; rw [hx] at this; cases this
    exact (H.out a this).symm
  | some w => exact (H.val a w hx).1
theorem WoR.r64 (H : WoR N ps m V) : ∀ p ∈ ps, R64 p.2.v := fun p hp => by rw [(H.mem hp).1]; exact H.rg _
theorem WoR.gd (H : WoR N ps m V) : Gd (newS ps) := Gd.new H.r64
theorem WoR.keys (H : WoR N ps m V) (a : Int) : a ∈ ps.map (·.1) ↔ (0 ≤ a ∧ a < (N : Int)) := by
  rw [← H.dom]
  constructor
  · intro h
    obtain ⟨p, hp, rfl⟩ := List.mem_map.1 h
    rw [(lookA_mem H.nd (k := p.1) (x := p.2)).1 hp]; rfl
  · intro h
    obtain ⟨w, hw⟩ := Option.isSome_iff_exists.1 h
    exact List.mem_map.2 ⟨(a, w), (lookA_mem H.nd).2 hw, rfl⟩
theorem WoR.len (H : WoR N ps m V) (H' : WoR N ps' m' V') : ps.length = ps'.length := by
  have h1 := nodup_sub H.nd fun a ha => (H'.keys a).2 ((H.keys a).1 ha)
  have h2 := nodup_sub H'.nd fun a ha => (H.keys a).2 ((H'.keys a).1 ha)
  rw [List.length_map, List.length_map] at h1 h2
  omega
theorem WoR.lenN (H : WoR N ps m V) : ps.length = N := by
  have h1 := rdlen (n := N) H.nd fun a ha => (H.keys a).1 ha
  have h2 := nodup_sub (xs := (List.range N).map fun (i : Nat) => (i : Int)) (ys := ps.map (·.1)) (by
    rw [List.Nodup, List.pairwise_map]
    exact (List.nodup_range (n := N)).imp fun h e => h (by omega)) fun a ha => by
    obtain ⟨i, hi, rfl⟩ := List.mem_map.1 ha
    exact (H.keys _).2 ⟨by omega, by have := List.mem_range.1 hi; omega⟩
  rw [List.length_map, List.length_range, List.length_map] at h2
  rw [List.length_map] at h1
  omega
/-- the last written entry of a list -/
def lastE (es : List E6) (a : Int) : Option E6 := es.reverse.find? fun e => e.at' == a && e.wr
theorem lastE_snoc {es : List E6} {e : E6} {a : Int} : lastE (es ++ [e]) a = if (e.at' == a && e.wr) = true then some e else lastE es a := by
  unfold lastE
  rw [List.reverse_append]
  show ([e] ++ es.reverse).find? _ = _
  rw [List.singleton_append, List.find?_cons]
  cases (e.at' == a && e.wr) <;> rfl
def wrW (V : Option E6) (o : Option W3) : Option W3 := match V with
  | some e => some ⟨e.new, e.old.ver + 1, 0⟩
  | none => o
/-- what a transaction must leave of its space -/
structure Good (N : Nat) (ps : List (Int × W3)) (σ : Spc) : Prop where
  gd : Gd σ
  kn : σ.kn = lookA ps
  en : σ.en = false
  few : σ.rd.length ≤ 32 ∨ σ.pu = []
  pl : σ.pu.length ≤ 1000000
theorem Good.inN (H : Good N ps σ) (W : WoR N ps m V) : InN N (lookA ps) σ :=
  ⟨H.kn, H.en, H.gd.nd, fun a ha => (W.dom a).1 (by have := H.gd.kd a ha; rwa [H.kn] at this), H.gd.wf⟩
theorem Good.rdl (H : Good N ps σ) (W : WoR N ps m V) : σ.rd.length ≤ N := rdlen (n := N) H.gd.nd (H.inN W).rd
theorem Good.ents (H : Good N ps σ) (W : WoR N ps m V) (hN : N ≤ 4096) (hV : V < 4294967295) : σ.ents = (σ.entl, 0) ∨ (σ.ents = ([], 15) ∧ σ.pu = []) := by
  have hI := H.inN W
  by_cases hl : σ.rd.length ≤ 32
  · exact .inl (hI.entsE (fun a a0 a1 => (W.dom a).2 ⟨a0, a1⟩) (by omega) (fun a w hw => by have := (W.val a w hw).2.2.2; omega) hl)
  · have hp : σ.pu = [] := H.few.resolve_left hl
    refine .inr ⟨?_, hp⟩
    have e : σ.entl.length = σ.rd.length := by unfold Spc.entl; rw [List.length_map, sorted_len]
    have hc : chk σ.entl = 15 := by unfold En.chk; rw [if_neg (by omega), if_pos (by omega)]
    unfold Spc.ents
    rw [if_neg (by rw [H.en]; simp), if_neg (by omega), if_pos (by rw [hc]; decide), hc]
/-- the world behind a transaction -/
theorem WoR.next (W : WoR N ps m V) (H : Good N ps σ) (hnd : (qs.map (·.1)).Nodup) (hq : ∀ a, lookA qs a = wrW (if (lastP σ.pu a).isSome then some (σ.ent a) else none) (lookA ps a)) : WoR N qs σ.vw (V + 1) := by
  have hmem : ∀ a, (lastP σ.pu a).isSome = true → a ∈ σ.rd := fun a ha => by
    obtain ⟨p, h1, rfl⟩ := List.mem_map.1 (lastP_mem.1 ha)
    exact H.gd.pu p h1
  have hrd := (H.inN W).rd
  have old : ∀ a, (lastP σ.pu a).isSome = false → σ.vw a = ((lookA ps a).map (·.v)).getD 0 := fun a ha => by rw [vw_old ha, H.kn]
  refine ⟨hnd, fun a => ?_, fun a w hw => ?_, fun a ha => ?_, fun a => H.gd.wf.vw a⟩
  · rw [hq]
    cases hs : (lastP σ.pu a).isSome with
    | true => exact ⟨fun _ => hrd a (hmem a hs), fun _ => rfl⟩
    | false => exact W.dom a
  · rw [hq] at hw
    cases hs : (lastP σ.pu a).isSome with
    | true =>
      rw [hs] at hw
      have hw : some (⟨σ.vw a, ((σ.kn a).getD W0).ver + 1, 0⟩ : W3) = some w := hw
      injection hw with hw
      subst hw
      obtain ⟨w, hw⟩ := Option.isSome_iff_exists.1 (H.gd.kd a (hmem a hs))
      have hv := W.val a w (by rw [← H.kn]; exact hw)
      rw [hw]
      show σ.vw a = σ.vw a ∧ (0 : Int) = 0 ∧ 0 ≤ w.ver + 1 ∧ w.ver + 1 ≤ V + 1
      exact ⟨rfl, rfl, by omega, by omega⟩
    | false =>
      rw [hs] at hw
      have hw : lookA ps a = some w := hw
      have hv := W.val a w hw
      refine ⟨?_, hv.2.1, hv.2.2.1, by omega⟩
      rw [old a hs, hw]; rfl
  · cases hs : (lastP σ.pu a).isSome with
    | true => exact absurd (hrd a (hmem a hs)) ha
    | false =>
      rw [old a hs]
      cases hx : lookA ps a with
      | none => rfl
      | some w => exact absurd ((W.dom a).1 (by rw [hx]; rfl)) ha
end
theorem eqA_W3 (x : W3) : eqA [true, true, true] (mW x) (mW x) = some true := by
  simp [eqA, mW, eqL, eq1]
structure CsS2' (S : Sys) (I : Ids) : Prop extends CsS1' S I where
  hh : CsH S I
section
variable {N : Nat} {ps : List (Int × W3)} {m : Int → Int} {V : Int} {wv fn : Value}
theorem updA_new {ps : List (Int × W3)} {k : Int} {x : W3} (h : k ∉ ps.map (·.1)) : updA ps k x = ps ++ [(k, x)] := by
  refine updA_end ?_
  unfold lookA
  rw [Option.map_eq_none_iff, List.find?_eq_none]
  intro p hp
  simp only [beq_iff_eq]
  exact fun e => h (List.mem_map.2 ⟨p, hp, e⟩)
theorem entl_last {i : Int} (σ : Spc) (hp : ∀ p ∈ σ.pu, p.1 ∈ σ.rd) : lastE σ.entl i = if (lastP σ.pu i).isSome then some (σ.ent i) else none := by
  have key : ∀ e ∈ σ.entl, e.at' = i → e.wr = true → e = σ.ent i ∧ (lastP σ.pu i).isSome = true := fun e he e1 e2 => by
    obtain ⟨a, _, rfl⟩ := List.mem_map.1 he
    have e1 : a = i := e1
    subst e1
    exact ⟨rfl, e2⟩
  unfold lastE
  cases hf : σ.entl.reverse.find? (fun e => e.at' == i && e.wr) with
  | some e =>
    have h1 := List.find?_some hf
    simp only [Bool.and_eq_true, beq_iff_eq] at h1
    obtain ⟨h2, h3⟩ := key e (List.mem_reverse.1 (List.mem_of_find?_eq_some hf)) h1.1 h1.2
    rw [if_pos h3, h2]
  | none =>
    rw [List.find?_eq_none] at hf
    rw [if_neg fun hs => ?_]
    have hm : i ∈ sorted σ.rd := by
      rw [(sorted_perm σ.rd).mem_iff]
      obtain ⟨p, h1, rfl⟩ := List.mem_map.1 (lastP_mem.1 hs)
      exact hp p h1
    refine hf (σ.ent i) (List.mem_reverse.2 (List.mem_map.2 ⟨i, hm, rfl⟩)) ?_
    show (i == i && (lastP σ.pu i).isSome) = true
    rw [hs]; simp
set_option maxHeartbeats 1600000 in
theorem K_Done {G : List Res → Spc → Prop} (cs : CsS2' S I) (hN : N ≤ 4096) (W : WoR N ps m V) (hV : V < 4294967295) (hG : ∀ L' σ', G L' σ' → Good N ps σ') (c : Cx F h0 h (rMp .i64 mW wv ps :: L))
    (hdo : ∀ s h1 K, Cx F h0 h1 (rMp .i64 mW wv ps :: rSpace s (newS ps) :: L) → (∀ L' σ' h2, G L' σ' → Cx F h0 h2 (rMp .i64 mW wv ps :: rSpace s σ' :: L') → K (.tuple #[]) h2) → Cv S.C S.Y fn [s] h1 K)
    (hR : ∀ L' σ' ps' nv ev h3, G L' σ' → WoR N ps' σ'.vw (V + 1) → Cx F h0 h3 (rMp .i64 mW wv ps :: rMp .i64 mW nv ps' :: rSl EE ev σ'.ents.1 :: L') → R (.tuple #[nv, ev, .bool true]) h3) : F_simulcastlaw33_World_Done S I wv fn h R := by
  unfold F_simulcastlaw33_World_Done
  have c := Cx.pack (L := [rMp .i64 mW wv ps]) (M := L) c
  refine c.cNew cs.toCsD 0 rfl W.nd W.r64 fun s h1 c => ?_
  have c := Cx.unpack (L := [rMp .i64 mW wv ps, rSpace s (newS ps)]) (M := L) (c.pick [0, 2, 1])
  refine hdo s h1 _ c fun L' σ' h2 hg c => ?_
  have H := hG L' σ' hg
  have hI := H.inN W
  have hrl := H.rdl W
  have hee := H.ents W hN hV
  have c := Cx.pack (L := [rMp .i64 mW wv ps, rSpace s σ']) (M := L') c
  refine c.cEntries cs.hh 1 rfl (by omega) (fun a w hw => (W.val a w (by rw [← H.kn]; exact hw)).2.1) fun ev h3 c => ?_
  refine ext0t (ext1t ?_)
  refine c.mmk .i64 mW fun k1 h4 c => ?_
  refine c.range 0 rfl fun r mb h5 hm c => ?_
  subst hm
  have c : Cx F h0 h5 [rIt .i64 mW r mb ps [], rSpace s σ', rStar L', rSl EE ev σ'.ents.1, rMp .i64 mW (.map (some k1)) []] := c
  refine Lp0.by (fun (z : List Nat × List (Int × W3)) h' => Cx F h0 h' [rIt .i64 mW r mb ps z.1, rSpace s σ', rStar L', rSl EE ev σ'.ents.1, rMp .i64 mW (.map (some k1)) z.2] ∧ (z.2.map (·.1)).Nodup ∧ (∀ q, q ∈ z.2 ↔ ∃ j ∈ z.1, ps[j]? = some q)) (fun z => ps.length - z.1.length) ([], []) ⟨c, List.nodup_nil, fun q => ⟨(fun h => by cases h), fun ⟨j, h, _⟩ => by cases h⟩⟩ ?_
  clear c
  rintro ⟨D, qs⟩ h6 ⟨c, hnd, hqs⟩ again hagain
  dsimp only at *
  refine c.next 0 rfl (fun hall c => ?_) fun j pr h7 hpj hjD c he => ?_
  rotate_left
  · rw [show ext 0 (.tuple #[.bool true, .int .i64 pr.1, mW pr.2]) = some (.bool true) from rfl, vb_some, br_true, he, vb_some]
    rw [show ext 0 (.tuple #[.int .i64 pr.1, mW pr.2]) = some (.int .i64 pr.1) from rfl, vb_some, show ext 1 (.tuple #[.int .i64 pr.1, mW pr.2]) = some (mW pr.2) from rfl, vb_some]
    refine c.nw EW W0 rfl fun rw_ h8 c => ?_
    refine c.sto 5 rfl pr.2 rfl rfl fun h9 c => ?_
    rw [show lda 3 (at0 rw_) h9 = some (mW pr.2) from (c.va (i := 5) rfl).whole rfl, vb_some]
    have hkn : pr.1 ∉ qs.map (·.1) := fun hm => by
      obtain ⟨q, hq, e⟩ := List.mem_map.1 hm
      obtain ⟨j', hj', hq'⟩ := (hqs q).1 hq
      have h1 := (lookA_mem W.nd (k := q.1) (x := q.2)).1 (List.mem_of_getElem? hq')
      have h2 := (lookA_mem W.nd (k := pr.1) (x := pr.2)).1 (List.mem_of_getElem? hpj)
      have hjj : j' = j := by
        obtain ⟨l1, e1⟩ := List.getElem?_eq_some_iff.1 hq'
        obtain ⟨l2, e2⟩ := List.getElem?_eq_some_iff.1 hpj
        refine (List.getElem_inj (h₀ := by rw [List.length_map]; exact l1) (h₁ := by rw [List.length_map]; exact l2) W.nd).1 ?_
        rw [List.getElem_map, List.getElem_map, e1, e2]; exact e
      exact hjD (hjj ▸ hj')
    refine c.mup 4 rfl pr.1 pr.2 rfl fun h10 c => ?_
    rw [updA_new hkn] at c
    have hDl : (D ++ [j]).length ≤ ps.length := by
      obtain ⟨_, hit, _⟩ := c.get (i := 0) rfl
      exact hit.len
    refine hagain (D ++ [j], qs ++ [pr]) _ ⟨c.pick [0, 1, 2, 3, 4], ?_, fun q => ?_⟩ (by dsimp only; rw [List.length_append, List.length_singleton] at *; omega)
    · rw [List.map_append, List.nodup_append]
      exact ⟨hnd, by simp, fun a ha b hb e => hkn (by simp only [List.map_cons, List.map_nil, List.mem_singleton] at hb; rw [← hb, ← e]; exact ha)⟩
    · rw [List.mem_append, List.mem_singleton, hqs]
      constructor
      · rintro (⟨j', h1, h2⟩ | rfl)
        · exact ⟨j', List.mem_append_left _ h1, h2⟩
        · exact ⟨j, List.mem_append_right _ (List.mem_singleton.2 rfl), hpj⟩
      · rintro ⟨j', h1, h2⟩
        rcases List.mem_append.1 h1 with h1 | h1
        · exact .inl ⟨j', h1, h2⟩
        · rw [List.mem_singleton] at h1
          subst h1
          rw [hpj] at h2
          injection h2 with h2
          exact .inr h2.symm
  rw [show ext 0 (.tuple #[.bool false]) = some (.bool false) from rfl, vb_some, br_false]
  have hsame : ∀ a, lookA qs a = lookA ps a := fun a => by
    have hiff : ∀ w, lookA qs a = some w ↔ lookA ps a = some w := fun w => by
      rw [← lookA_mem hnd, ← lookA_mem W.nd, hqs]
      constructor
      · rintro ⟨j, _, h⟩; exact List.mem_of_getElem? h
      · intro h
        obtain ⟨j, hj⟩ := List.getElem?_of_mem h
        exact ⟨j, hall j (List.getElem?_eq_some_iff.1 hj).1, hj⟩
    cases h1 : lookA ps a with
    | some w => exact (hiff w).2 h1
    | none =>
      cases h2 : lookA qs a with
      | none => rfl
      | some w => rw [(hiff w).1 h2] at h1; cases h1
  clear hagain again hqs hall
  have c : Cx F h0 h6 [rMp .i64 mW (.map (some mb)) ps, rSpace s σ', rStar L', rSl EE ev σ'.ents.1, rMp .i64 mW (.map (some k1)) qs] := c
  have fin : ∀ qs' h9, Cx F h0 h9 [rMp .i64 mW (.map (some mb)) ps, rSpace s σ', rStar L', rSl EE ev σ'.ents.1, rMp .i64 mW (.map (some k1)) qs'] → WoR N qs' σ'.vw (V + 1) → R (.tuple #[.map (some k1), ev, .bool true]) h9 := fun qs' h9 c w =>
    hR L' σ' qs' _ _ h9 hg w (Cx.unpack (L := [rMp .i64 mW (.map (some mb)) ps, rMp .i64 mW (.map (some k1)) qs', rSl EE ev σ'.ents.1]) (M := L') (c.pick [0, 4, 3, 2]))
  rcases hee with hee | ⟨hee, hpu⟩
  · rw [hee] at c fin ⊢
    dsimp only at c fin ⊢
    have hel : σ'.entl.length ≤ 4096 := by
      have : σ'.entl.length = σ'.rd.length := by unfold Spc.entl; rw [List.length_map, sorted_len]
      omega
    rw [(c.sl (i := 3) rfl).sl.ln, vb_some]
    refine Lp1.by (fun (z : Nat × List (Int × W3)) v h' => v = .int .i64 z.1 ∧ z.1 ≤ σ'.entl.length ∧ (z.2.map (·.1)).Nodup ∧ (∀ a, lookA z.2 a = wrW (lastE (σ'.entl.take z.1) a) (lookA ps a)) ∧ Cx F h0 h' [rMp .i64 mW (.map (some mb)) ps, rSpace s σ', rStar L', rSl EE ev σ'.entl, rMp .i64 mW (.map (some k1)) z.2]) (fun z => σ'.entl.length - z.1) (0, qs)
      ⟨rfl, Nat.zero_le _, hnd, fun a => hsame a, c⟩ ?_
    clear c hsame hnd
    rintro ⟨i, qs⟩ v h7 ⟨rfl, hi, hnd, hq, c⟩ again hagain
    dsimp only at *
    rw [bin_lss, vb_some]
    refine brd (fun hlt => ?_) fun hge => ?_
    · have hx : σ'.entl[i]? = some σ'.entl[i] := List.getElem?_eq_getElem (by omega)
      have hmem := List.getElem_mem (l := σ'.entl) (n := i) (by omega)
      obtain ⟨a, ha, hea⟩ : ∃ a ∈ σ'.rd, σ'.entl[i] = σ'.ent a := by
        obtain ⟨a, ha, e⟩ := List.mem_map.1 hmem
        exact ⟨a, (sorted_perm σ'.rd).mem_iff.1 ha, e.symm⟩
      rw [hea] at hx
      clear hmem hea
      obtain ⟨w, hw⟩ := Option.isSome_iff_exists.1 ((W.dom a).2 (hI.rd a ha))
      have hold : (σ'.ent a).old = w := by show (σ'.kn a).getD W0 = w; rw [H.kn, hw]; rfl
      have hver := W.val a w hw
      have hqa : (lookA qs a).isSome = true := by
        rw [hq]
        unfold wrW
        split
        · rfl
        · rw [hw]; rfl
      refine Jn0.at (fun h' => ∃ qs', (qs'.map (·.1)).Nodup ∧ (∀ b, lookA qs' b = wrW (lastE (σ'.entl.take (i + 1)) b) (lookA ps b)) ∧ Cx F h0 h' [rMp .i64 mW (.map (some mb)) ps, rSpace s σ', rStar L', rSl EE ev σ'.entl, rMp .i64 mW (.map (some k1)) qs']) ?_ ?_
      · refine (c.sl (i := 3) rfl).sl.whole rfl hx rfl ?_
        have et : σ'.entl.take (i + 1) = σ'.entl.take i ++ [σ'.ent a] := by rw [List.take_add_one, hx]; rfl
        rw [et]
        refine c.nw EE ⟨0, W0, 0, false⟩ rfl fun re h8 c => ?_
        refine c.sto 5 rfl (σ'.ent a) rfl rfl fun h9 c => ?_
        refine (c.va (i := 5) rfl).fld (j := 0) rfl ?_
        rw [show (σ'.ent a).at' = a from rfl, (c.mp (i := 4) rfl).lookOk, vb_some]
        refine ext0t (ext1t ?_)
        have hw3 : ∃ w : W3, (Option.map mW (lookA qs a)).getD (Value.agg #[Value.int IntKind.i64 0, Value.int IntKind.u32 0, Value.int IntKind.u32 0]) = mW w := by
          cases lookA qs a with
          | none => exact ⟨W0, rfl⟩
          | some w => exact ⟨w, rfl⟩
        obtain ⟨w', hw'⟩ := hw3
        rw [hw', hqa]
        refine c.nw EW W0 rfl fun rw_ h10 c => ?_
        refine c.sto 6 rfl w' rfl rfl fun h11 c => ?_
        refine Jn1.at (fun v h' => v = .bool false ∧ h' = h11) ?_ ?_
        · rw [uno_nb, vb_some, Bool.not_true, br_false]
          have hrow : Row EW h11 re (0 + 1) (σ'.ent a).old := EE_old (c.va (i := 5) rfl).row
          refine En.vb (fa_add _ _ _) (En.vb (hrow.lda rfl) ?_)
          refine (c.va (i := 5) rfl).fld (j := 0) rfl ?_
          rw [show (σ'.ent a).at' = a from rfl, (c.mp (i := 0) rfl).look, vb_some, hw, hold]
          refine En.vb (v := .bool false) ?_ ⟨rfl, rfl⟩
          show neg? (eqA [true, true, true] (mW w) (mW w)) = _
          rw [eqA_W3]; rfl
        rintro v h12 ⟨rfl, rfl⟩
        rw [br_false]
        refine (c.va (i := 5) rfl).fld (j := 5) rfl ?_
        cases hwr : (σ'.ent a).wr with
        | true =>
          rw [br_true]
          refine (c.va (i := 5) rfl).fld (j := 0) rfl ?_
          refine (c.va (i := 5) rfl).fld (j := 4) rfl ?_
          refine En.vb (fa_add _ _ _) (En.vb (fa_add _ _ _) (En.vb ((c.va (i := 5) rfl).row.ldc (j := 2) rfl) ?_))
          rw [hold]
          have hadd : bin .add (.int .u32 w.ver) (.int .u32 1) = some (.int .u32 (w.ver + 1)) := by
            rw [bin_add]
            congr 2
            simp only [IntKind.wrap, IntKind.bits, IntKind.signed]
            simp
            omega
          rw [hadd, vb_some, bldW, vb_some]
          refine c.mup 4 rfl a (⟨(σ'.ent a).new, w.ver + 1, 0⟩ : W3) rfl fun h13 c => ?_
          refine ⟨_, nodup_updA _ _ hnd, fun b => ?_, c.pick [0, 1, 2, 3, 4]⟩
          rw [lookA_updA, lastE_snoc, hwr, show (σ'.ent a).at' = a from rfl, Bool.and_true]
          by_cases e : b = a
          · rw [if_pos e, if_pos (by rw [e]; simp)]
            show _ = some (⟨(σ'.ent a).new, (σ'.ent a).old.ver + 1, 0⟩ : W3)
            rw [hold]
          · rw [if_neg e, if_neg (by simpa using fun h => e h.symm)]
            exact hq b
        | false =>
          rw [br_false]
          refine ⟨qs, hnd, fun b => ?_, c.pick [0, 1, 2, 3, 4]⟩
          rw [lastE_snoc, hwr, Bool.and_false, if_neg (by simp)]
          exact hq b
      · clear c
        rintro h8 ⟨qs', hnd', hq', c⟩
        rw [bin_add, vb_some, wrS (by omega)]
        exact hagain (i + 1, qs') _ _ ⟨rfl, by dsimp only; omega, hnd', hq', c⟩ (by dsimp only; omega)
    · rw [List.take_of_length_le (by omega)] at hq
      have w := W.next H hnd fun a => by rw [hq, entl_last σ' H.gd.pu]
      refine .here ?_
      refine En.vb (v := .bool false) rfl ?_
      rw [br_false]
      refine .here ?_
      rw [eqI, vb_some, br_true]
      obtain ⟨F', pa⟩ := c.get (i := 1) rfl
      refine cs.ended pa ?_
      rw [H.en, uno_nb, vb_some]
      exact fin qs _ c w
  · rw [hee] at c fin ⊢
    dsimp only at c fin ⊢
    rw [(c.sl (i := 3) rfl).sl.ln, vb_some]
    refine Lp1.by (fun (_ : Unit) v h' => v = .int .i64 0 ∧ h' = h6) (fun _ => 0) () ⟨rfl, rfl⟩ ?_
    rintro _ v h7 ⟨rfl, rfl⟩ again hagain
    rw [bin_lss, vb_some]
    refine brd (fun h => absurd h (by simp)) fun _ => ?_
    have w := W.next H hnd fun a => by rw [hsame, hpu]; rfl
    refine .here ?_
    rw [eqI, vb_some, br_true]
    refine c.cWrites cs.hh 1 rfl (by rw [hpu]; exact Nat.zero_le _) fun wv h8 c => ?_
    rw [hpu] at c
    have e0 : (cpt (sorted (([] : List (Int × Int)).map (·.1)))).length = 0 := by
      have := cpt_len (sorted (([] : List (Int × Int)).map (·.1)))
      rw [sorted_len] at this
      simpa using this
    rw [(c.sl (i := 5) rfl).sl.ln, e0, vb_some]
    refine Lp1.by (fun (_ : Unit) v h' => v = .int .i64 0 ∧ h' = h8) (fun _ => 0) () ⟨rfl, rfl⟩ ?_
    rintro _ v h9 ⟨rfl, rfl⟩ again2 hagain2
    rw [bin_lss, vb_some]
    refine brd (fun h => absurd h (by simp)) fun _ => ?_
    refine .here ?_
    refine En.vb (v := .bool false) rfl ?_
    rw [br_false, vb_some, br_true]
    obtain ⟨F', pa⟩ := c.get (i := 1) rfl
    refine cs.ended pa ?_
    rw [H.en, uno_nb, vb_some]
    exact fin qs _ (c.pick [0, 1, 2, 3, 4]) w
end
end Go.En
namespace Go.En
open Prog Spc Go.Sort

variable {S : Sys} {I : Ids} {h h0 h' : Hp} {F F0 : Fp} {R : Value → Hp → Prop} {L : List Res} {s : Value} {σ τ : Spc}
abbrev SH : Type := Option Addr × Nat × Nat
abbrev shV (u : SH) : Value := .slice u.1 u.2.1 u.2.2
theorem Ow.isH {α : Type} {E : Enc α} {v : Value} {xs : List α} (H : Ow E h v xs) : ∃ u : SH, v = shV u := by
  rcases H with ⟨rfl, _⟩ | ⟨r, o, cap, rfl, _⟩
  · exact ⟨(none, 0, 0), rfl⟩
  · exact ⟨(_, _, _), rfl⟩
section
variable {N : Nat} {ps qs : List (Int × W3)} {m : Int → Int} {V V' : Int} {av bv : Value}
theorem K_Alike (W : WoR N ps m V) (W' : WoR N qs m V') (c : Cx F h0 h (rMp .i64 mW av ps :: rMp .i64 mW bv qs :: L)) (hR : ∀ h', Cx F h0 h' (rMp .i64 mW av ps :: rMp .i64 mW bv qs :: L) → R (.bool true) h') : F_simulcastlaw33_Alike S I av bv h R := by
  unfold F_simulcastlaw33_Alike
  have c := Cx.pack (L := [rMp .i64 mW av ps, rMp .i64 mW bv qs]) (M := L) c
  rw [(c.mp (i := 0) rfl).ln, vb_some, (c.mp (i := 1) rfl).ln, vb_some, W.len W', neI, vb_some, br_false]
  refine c.range 0 rfl fun r mb h5 hm c => ?_
  subst hm
  refine Lp0.by (fun (D : List Nat) h' => Cx F h0 h' [rIt .i64 mW r mb ps D, rMp .i64 mW bv qs, rStar L]) (fun D => ps.length - D.length) [] c ?_
  clear c
  rintro D h6 c again hagain
  refine c.next 0 rfl (fun hall c => ?_) fun j pr h7 hpj hjD c he => ?_
  · rw [show ext 0 (.tuple #[.bool false]) = some (.bool false) from rfl, vb_some, br_false]
    exact hR _ (Cx.unpack (L := [rMp .i64 mW (.map (some mb)) ps, rMp .i64 mW bv qs]) (M := L) c)
  · rw [show ext 0 (.tuple #[.bool true, .int .i64 pr.1, mW pr.2]) = some (.bool true) from rfl, vb_some, br_true, he, vb_some]
    rw [show ext 0 (.tuple #[.int .i64 pr.1, mW pr.2]) = some (.int .i64 pr.1) from rfl, vb_some, show ext 1 (.tuple #[.int .i64 pr.1, mW pr.2]) = some (mW pr.2) from rfl, vb_some]
    refine c.nw EW W0 rfl fun rw_ h8 c => ?_
    refine c.sto 3 rfl pr.2 rfl rfl fun h9 c => ?_
    have hp := List.mem_of_getElem? hpj
    have h1 := (W.keys pr.1).1 (List.mem_map.2 ⟨pr, hp, rfl⟩)
    obtain ⟨w, hw⟩ := Option.isSome_iff_exists.1 ((W'.dom pr.1).2 h1)
    have hv1 := (W.mem hp).1
    have hv2 := (W'.val pr.1 w hw).1
    rw [(c.mp (i := 1) rfl).look, vb_some, hw]
    refine En.vb (show fdc 0 (mW w) = some (.int .i64 w.v) from rfl) ?_
    refine (c.va (i := 3) rfl).fld (j := 0) rfl ?_
    rw [hv1, hv2, neI, vb_some, br_false]
    have hDl : (D ++ [j]).length ≤ ps.length := by
      obtain ⟨_, hit, _⟩ := c.get (i := 0) rfl
      exact hit.len
    refine hagain (D ++ [j]) _ (c.pick [0, 1, 2]) ?_
    rw [List.length_append, List.length_singleton] at *
    omega
theorem wz33 : bldS [(0, 1), (1, 1), (2, 1)] #[Value.int IntKind.i64 0, Value.int IntKind.u32 0, Value.int IntKind.u32 0] [] = some (mW W0) := by kernel_rfl
theorem WoR.fresh : WoR N (knF (fun _ => W0) N) (fun _ => 0) 0 := by
  have hl : ∀ a, lookA (knF (fun _ => W0) N) a = if 0 ≤ a ∧ a < (N : Int) then some W0 else none := fun a => knF_look
  refine ⟨knF_nodup _ _, fun a => ?_, fun a w hw => ?_, fun _ _ => rfl, fun _ => ⟨by decide, by decide⟩⟩
  · rw [hl]
    split
    · rename_i h; exact ⟨fun _ => h, fun _ => rfl⟩
    · rename_i h; exact ⟨(fun e => by cases e), fun e => absurd e h⟩
  · rw [hl] at hw
    split at hw
    · injection hw with hw
      subst hw
      exact ⟨rfl, rfl, by decide, by decide⟩
    · cases hw
theorem K_Fresh (hN : N ≤ 100000) (hR : ∀ k h', Cx (fun _ => False) h h' [rMp .i64 mW (.map (some k)) (knF (fun _ => W0) N)] → R (.map (some k)) h') : F_simulcastlaw33_Fresh S I (.int .i64 N) h R := by
  unfold F_simulcastlaw33_Fresh
  refine (Cx.start0 h).mmk .i64 mW fun km h1 c => ?_
  refine Lp1.by (fun (j : Nat) v h' => v = .int .i64 j ∧ j ≤ N ∧ Cx (fun _ => False) h h' [rMp .i64 mW (.map (some km)) (knF (fun _ => W0) j)]) (fun j => N - j) 0 ⟨rfl, Nat.zero_le _, c⟩ ?_
  clear c
  rintro j v h4 ⟨rfl, hj, c⟩ again hagain
  rw [bin_lss, vb_some]
  refine brd (fun h5 => ?_) fun h5 => ?_
  · rw [wz33, vb_some]
    refine c.mup 0 rfl (j : Int) W0 rfl fun h6 c => ?_
    have c : Cx (fun _ => False) h h6 [rMp .i64 mW (.map (some km)) (updA (knF (fun _ => W0) j) (j : Int) ((fun _ => W0) j))] := c
    rw [knF_upd] at c
    rw [bin_add, vb_some, wrS (by omega)]
    exact hagain (j + 1) _ _ ⟨rfl, by omega, c⟩ (by omega)
  · have ej : j = N := by omega
    subst ej
    exact hR _ _ c
theorem K_Nodes {n : Int} (hn : 0 ≤ n ∧ n ≤ 255) (hR : ∀ h', Gr h h' → R (vP (p33 (n % 17))) h') : F_simulcastlaw33_Nodes S I (.int .u8 n) h R := by
  unfold F_simulcastlaw33_Nodes
  refine (Cx.start0 h).nw EPl ⟨0, 0, 0⟩ rfl fun r h1 c => ?_
  rw [show bin .rem (.int .u8 n) (.int .u8 17) = some (.int .u8 (n % 17)) by rw [bin_rem (by omega), Int.tmod_eq_emod_of_nonneg hn.1], vb_some, cvi_int, vb_some, wr64 ⟨by omega, by omega⟩]
  refine En.vb (v := vP (p33 (n % 17))) (by kernel_rfl) ?_
  refine c.sto 0 rfl (p33 (n % 17)) rfl rfl fun h2 c => ?_
  rw [plA (i := 0) c rfl, vb_some]
  exact hR _ c.gr
end
section
variable {l : List Int} {v : Value} {x left : Int}
theorem K_rPush (H : Sl EI1 h v l) (hl : l.length ≤ 100000) (h1 : left ≤ 0 → R (.tuple #[v, .int .i64 9]) h) (h2 : 0 < left → ∀ w h', Cx (fun _ => False) h h' [rSl EI1 (shV w) (l ++ [x])] → R (.tuple #[shV w, .int .i64 0]) h') : F_simulcastref33_Push S I v (.int .i64 x) (.int .i64 left) h R := by
  unfold F_simulcastref33_Push
  rw [bin_leq, vb_some]
  refine brd (fun e => h1 e) fun e => ?_
  have c := (Cx.start0 h).nil EI1
  refine c.ap (xs := []) 0 rfl H rfl rfl (by simp only [List.length_nil]; omega) (by simp only [List.length_nil]; omega) fun w1 h3 c => ?_
  refine c.app1 0 rfl x rfl rfl rfl (by rw [List.nil_append]; omega) (by rw [List.nil_append]; omega) fun w2 h4 c => ?_
  obtain ⟨u, rfl⟩ := (c.sl (i := 0) rfl).isH
  exact h2 (by omega) u _ c
theorem K_rPop (H : Sl EI1 h v l) (hl : l.length ≤ 100000) (h1 : l = [] → R (.tuple #[v, .int .i64 0, .int .i64 8]) h) (h2 : ∀ y, l.getLast? = some y → ∀ w, slc 1 v none (some (.int .i64 ((l.length - 1 : Nat) : Int))) none = some w → R (.tuple #[w, .int .i64 y, .int .i64 0]) h) : F_simulcastref33_Pop S I v h R := by
  unfold F_simulcastref33_Pop
  rw [H.ln, vb_some, bin_eql, vb_some]
  refine brd (fun e => h1 (List.eq_nil_of_length_eq_zero (by omega))) fun e => ?_
  have e1 : bin .sub (.int .i64 (l.length : Int)) (.int .i64 1) = some (.int .i64 ((l.length - 1 : Nat) : Int)) := by
    rw [bin_sub, wr64 ⟨by omega, by omega⟩]
    congr 2
    omega
  rw [vb_some, e1, vb_some]
  obtain ⟨w, ew, _, _⟩ := H.sub (n := 1) rfl (lo := none) (hi := some (.int .i64 ((l.length - 1 : Nat) : Int))) (l := 0) (u := l.length - 1) (.inl ⟨rfl, rfl⟩) (.inr ⟨_, _, rfl, rfl⟩) (Nat.zero_le _) (by omega)
  rw [ew, vb_some, vb_some, e1, vb_some]
  have hx : l[l.length - 1]? = some (l[l.length - 1]'(by omega)) := List.getElem?_eq_getElem (by omega)
  refine H.one rfl hx rfl rfl ?_
  exact h2 _ (by rw [List.getLast?_eq_getElem?]; exact hx) w ew
theorem K_rWalk (H : Sl EI1 h v l) (hl : l.length ≤ 100000) (hR : ∀ w h', Cx (fun _ => False) h h' [rSl EI1 w l.reverse] → R w h') : F_simulcastref33_Walk S I v h R := by
  unfold F_simulcastref33_Walk
  rw [H.ln, vb_some, bin_sub, vb_some, wr64 ⟨by omega, by omega⟩]
  have c := (Cx.start0 h).nil EI1
  refine Lp2.by (fun (i : Nat) w v h' => v = .int .i64 ((i : Int) - 1) ∧ i ≤ l.length ∧ Cx (fun _ => False) h h' [rSl EI1 w (l.drop i).reverse]) (fun i => i) l.length ⟨rfl, Nat.le_refl _, by rw [List.drop_length]; exact c⟩ ?_
  clear c
  rintro i w v h3 ⟨rfl, hi, c⟩ again hagain
  rw [bin_geq, vb_some]
  refine brd (fun e => ?_) fun e => ?_
  · obtain ⟨i, rfl⟩ : ∃ i', i = i' + 1 := ⟨i - 1, by omega⟩
    have hx : l[i]? = some (l[i]'(by omega)) := List.getElem?_eq_getElem (by omega)
    refine (H.gr c.gr).one rfl hx (by omega) rfl ?_
    have hdl : (l.drop (i + 1)).reverse.length ≤ l.length := by rw [List.length_reverse, List.length_drop]; omega
    refine c.app1 0 rfl (l[i]'(by omega)) rfl rfl rfl (by omega) (by omega) fun w2 h4 c => ?_
    refine En.vb (v := .int .i64 ((i : Int) - 1)) (by rw [bin_sub, wr64 ⟨by omega, by omega⟩]; congr 2; omega) ?_
    refine hagain i _ _ _ ⟨rfl, by omega, ?_⟩ (by omega)
    rw [List.drop_eq_getElem_cons (show i < l.length by omega), List.reverse_cons]
    exact c
  · have ei : i = 0 := by omega
    subst ei
    exact hR _ _ c
theorem K_Equal {v1 v2 : Value} (H1 : Sl EI1 h v1 l) (H2 : Sl EI1 h v2 l) (hl : l.length ≤ 100000) (hR : R (.bool true) h) : F_slices_Equal_int64_int64 S I v1 v2 h R := by
  unfold F_slices_Equal_int64_int64
  rw [H1.ln, vb_some, H2.ln, vb_some, neI, vb_some, br_false, vb_some]
  refine Lp1.by (fun (i : Nat) v h' => v = .int .i64 i ∧ i ≤ l.length ∧ h' = h) (fun i => l.length - i) 0 ⟨rfl, Nat.zero_le _, rfl⟩ ?_
  rintro i v h3 ⟨rfl, hi, rfl⟩ again hagain
  rw [bin_lss, vb_some]
  refine brd (fun e => ?_) fun e => hR
  have hx : l[i]? = some (l[i]'(by omega)) := List.getElem?_eq_getElem (by omega)
  refine H1.one rfl hx rfl rfl ?_
  refine H2.one rfl hx rfl rfl ?_
  rw [neI, vb_some, br_false, bin_add, vb_some, wrS (by omega)]
  exact hagain (i + 1) _ _ ⟨rfl, by omega, rfl⟩ (by omega)
/-- a slice's last element is cut off -/
theorem Cx.cutS {u : SH} {xs : List Int} (c : Cx F0 h0 h L) (i : Nat) (hi : L[i]? = some (rSl EI1 (shV u) xs)) {k : Nat} (hk : k ≤ xs.length) : ∃ u' : SH, slc 1 (shV u) none (some (.int .i64 (k : Int))) none = some (shV u') ∧ Cx F0 h0 h (L.set i (rSl EI1 (shV u') (xs.take k))) := by
  obtain ⟨F, ⟨o, hf⟩, up⟩ := c.upd hi
  obtain ⟨w, e, o', hb⟩ := o.sub (n := 1) rfl (hi := some (.int .i64 (k : Int))) (u := k) (.inr ⟨_, _, rfl, rfl⟩) hk
  obtain ⟨u', rfl⟩ := o'.isH
  exact ⟨u', e, up (F' := F) ⟨o', fun q => by rw [hf, hb]⟩ (.refl _ _)⟩
end
end Go.En
