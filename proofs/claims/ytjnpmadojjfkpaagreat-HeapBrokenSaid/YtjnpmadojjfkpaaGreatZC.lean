/-
  Layer 38: the small functions, over a context with the space and the operation's state ahead.
  Layer 38: moves up and down, nodes taken and given, a removal, a search: over the clean texts.
  Layer 38: Push, Pop, Min, Lower, Drop, Len over the clean texts.
  Layer 38: Walk over the clean texts.
-/
import Derived.Test.YtjnpmadojjfkpaaGreatZA
import Derived.Test.YtjnpmadojjfkpaaGreatXE
import Derived.Test.YtjnpmadojjfkpaaGreatXD
import Derived.Test.YtjnpmadojjfkpaaGreatZB
namespace Go.En
open Prog Spc Go.Sort

variable {S : Sys} {I : Ids} {h h0 h' : Hp} {F F0 : Fp} {R : Value → Hp → Prop} {L : List Res} {s : Value} {σ τ : Spc}

theorem Cx.ptr {i : Nat} (c : Cx F0 h0 h L) (hi : L[i]? = some (rSpace s σ)) : ∃ p, s = at0 p := let ⟨_, x, hp, _⟩ := c.get hi; ⟨x.1, hp.1⟩
theorem addI {a b : Int} (h : R64 (a + b)) : bin .add (.int .i64 a) (.int .i64 b) = some (.int .i64 (a + b)) := by rw [bin_add, wr64 h]
theorem subI {a b : Int} (h : R64 (a - b)) : bin .sub (.int .i64 a) (.int .i64 b) = some (.int .i64 (a - b)) := by rw [bin_sub, wr64 h]
theorem quoI {a b : Int} (ha : 0 ≤ a ∧ a ≤ 9223372036854775807) (hb : 0 < b) : bin .quo (.int .i64 a) (.int .i64 b) = some (.int .i64 (a / b)) := by
  have h1 := Int.ediv_nonneg ha.1 (Int.le_of_lt hb)
  have h2 := Int.ediv_le_self b ha.1
  rw [bin_quo (by omega), Int.tdiv_eq_ediv_of_nonneg ha.1, wr64 ⟨by omega, by omega⟩]
theorem remI {k : IntKind} {a b : Int} (ha : 0 ≤ a) (hb : 0 < b) : bin .rem (.int k a) (.int k b) = some (.int k (a % b)) := by
  rw [bin_rem (by omega), Int.tmod_eq_emod_of_nonneg ha]
theorem uno_nb (r : Bool) : uno .not (.bool r) = some (.bool !r) := rfl
theorem eqI {k : IntKind} (a : Int) : bin .eql (.int k a) (.int k a) = some (.bool true) := by rw [bin_eql]; simp
theorem neI {k : IntKind} (a : Int) : bin .neq (.int k a) (.int k a) = some (.bool false) := by rw [bin_neq]; simp
theorem node_l {p : Pl} {x : Int} (h : (p.node x).isSome = true) : 1 ≤ x ∧ x ≤ 4088 := by
  obtain ⟨n, hn⟩ := Option.isSome_iff_exists.1 h
  exact node_lt hn
theorem Cx.third {A B X : Res} (c : Cx F0 h0 h ((A :: B :: L) ++ [X])) : Cx F0 h0 h (A :: B :: X :: L) := c.perm (((List.perm_append_comm (l₁ := L) (l₂ := [X])).cons B).cons A)
theorem Cx.un3 {A B X : Res} (c : Cx F0 h0 h (A :: B :: X :: L)) : Cx F0 h0 h (A :: B :: L) := c.sub (((List.sublist_cons_self X L).cons_cons B).cons_cons A)
/-- a heap -/
def EHe : Enc (Pl × Int) := { n := 4, c := fun g => [.int .i64 g.1.root, .int .i64 g.1.frm, .int .i64 g.1.nodes, .int .i64 g.2], len := fun _ => rfl, one := fun a v h => by simp only [List.mem_cons, List.not_mem_nil, or_false] at h; rcases h with rfl | rfl | rfl | rfl <;> rfl }
def vHe (p : Pl) (root : Int) : Value := .agg ⟨EHe.c (p, root)⟩
/-- the state of an operation -/
def EHw : Enc (Pl × Int × Nat × Bool) := { n := 6, c := fun x => [.int .i64 x.1.root, .int .i64 x.1.frm, .int .i64 x.1.nodes, .int .i64 x.2.1, at0 x.2.2.1, .bool x.2.2.2], len := fun _ => rfl, one := fun a v h => by simp only [List.mem_cons, List.not_mem_nil, or_false] at h; rcases h with rfl | rfl | rfl | rfl | rfl | rfl <;> rfl }
abbrev rH (r : Nat) (p : Pl) (root : Int) (sp : Nat) (b : Bool) : Res := rVar EHw r (p, root, sp, b)
abbrev HL (sp r : Nat) (p : Pl) (root : Int) (σ : Spc) (b : Bool) (L : List Res) : List Res := rSpace (at0 sp) σ :: rH r p root sp b :: L
/-- a key -/
def mK (k : Int × Int) : Value := .agg #[.int .i64 k.1, .int .i64 k.2]
structure CsY0 (S : Sys) (I : Ids) : Prop extends CsT S I where
  wnode : ∀ {a b h R}, F_heap_work_node S I a b h R → S.C I.f_heap_work_node [a, b] h R
  wget : ∀ {a b c h R}, F_heap_work_get S I a b c h R → S.C I.f_heap_work_get [a, b, c] h R
  wput : ∀ {a b c d h R}, F_heap_work_put S I a b c d h R → S.C I.f_heap_work_put [a, b, c, d] h R
  wroot : ∀ {a b h R}, F_heap_work_root S I a b h R → S.C I.f_heap_work_root [a, b] h R
  wadd : ∀ {a b c h R}, F_heap_work_add S I a b c h R → S.C I.f_heap_work_add [a, b, c] h R
  wrow : ∀ {a b h R}, F_heap_work_row S I a b h R → S.C I.f_heap_work_row [a, b] h R
  witem : ∀ {a b h R}, F_heap_work_item S I a b h R → S.C I.f_heap_work_item [a, b] h R
  wkey : ∀ {a b h R}, F_heap_work_key S I a b h R → S.C I.f_heap_work_key [a, b] h R
  ahead : ∀ {a b h R}, F_heap_ahead S I a b h R → S.C I.f_heap_ahead [a, b] h R
  wlay : ∀ {a b c h R}, F_heap_work_lay S I a b c h R → S.C I.f_heap_work_lay [a, b, c] h R
  wrise : ∀ {a b c h R}, F_heap_work_rise S I a b c h R → S.C I.f_heap_work_rise [a, b, c] h R
  wsink : ∀ {a b c d h R}, F_heap_work_sink S I a b c d h R → S.C I.f_heap_work_sink [a, b, c, d] h R
  wtake : ∀ {a h R}, F_heap_work_take S I a h R → S.C I.f_heap_work_take [a] h R
  wgive : ∀ {a b h R}, F_heap_work_give S I a b h R → S.C I.f_heap_work_give [a, b] h R
  wmany : ∀ {a h R}, F_heap_work_many S I a h R → S.C I.f_heap_work_many [a] h R
  wrem : ∀ {a b c h R}, F_heap_work_remove S I a b c h R → S.C I.f_heap_work_remove [a, b, c] h R
  wfind : ∀ {a b h R}, F_heap_work_find S I a b h R → S.C I.f_heap_work_find [a, b] h R
  wend : ∀ {a b c h} {R : Hp → Prop}, F_heap_work_end S I a b c h (fun _ h => R h) → S.D I.f_heap_work_end [a, b, c] h R
  wnone : ∀ {a b c h} {R : Hp → Prop}, F_heap_work_none S I a b c h (fun _ h => R h) → S.D I.f_heap_work_none [a, b, c] h R
/-- a root of a heap -/
abbrev Rtl (root : Int) : Prop := 0 ≤ root ∧ root ≤ 4000
/-- a node, or none -/
abbrev NdV (p : Pl) (x : Int) : Prop := x = 0 ∨ (p.node x).isSome = true
theorem NdV.le {p : Pl} {x : Int} (h : NdV p x) : 0 ≤ x ∧ x ≤ 4088 := by
  rcases h with h | h
  · omega
  · have := node_l h; omega
theorem hNode_v {p : Pl} {b : Bool} {n : Int} : NdV p (hNode p b n).1 := by
  unfold hNode
  split
  · rename_i h; exact .inr h
  · exact .inl rfl
section
variable {sp r : Nat} {p : Pl} {root a cell v i x n : Int} {b : Bool} {β : Type} {Q : β → Spc → Prop}
theorem hw_p (c : Cx F0 h0 h (HL sp r p root σ b L)) {k : Value → Prop} (hk : k (vP p)) : Vb (nck (at0 r)) fun v => Vb (fa 0 v) fun v => Vb (fa 0 v) fun v => Vb (lda 3 v h) k := by
  refine nckb (En.vb (fa_add _ _ _) (En.vb (fa_add _ _ _) (En.vb ?_ hk)))
  have hr : Row EPl h r 0 p := fun j u hu => (c.va (i := 1) rfl).row j u (by
    match j, hu with
    | 0, hu => exact hu
    | 1, hu => exact hu
    | 2, hu => exact hu
    | j + 3, hu => simp [EPl] at hu)
  exact hr.lda rfl
theorem hw_s (c : Cx F0 h0 h (HL sp r p root σ b L)) {k : Value → Prop} (hk : k (at0 sp)) : Vb (nck (at0 r)) fun v => Vb (fa 4 v) fun v => Vb (ldc v h) k :=
  nckb ((c.va (i := 1) rfl).fld (j := 4) rfl hk)
theorem hw_b (c : Cx F0 h0 h (HL sp r p root σ b L)) {k : Value → Prop} (hk : k (.bool b)) : Vb (nck (at0 r)) fun v => Vb (fa 5 v) fun v => Vb (ldc v h) k :=
  nckb ((c.va (i := 1) rfl).fld (j := 5) rfl hk)
theorem hw_r (c : Cx F0 h0 h (HL sp r p root σ b L)) {k : Value → Prop} (hk : k (.int .i64 root)) : Vb (nck (at0 r)) fun v => Vb (fa 0 v) fun v => Vb (fa 3 v) fun v => Vb (ldc v h) k :=
  nckb (En.vb (fa_add _ _ _) (En.vb (fa_add _ _ _) (En.vb ((c.va (i := 1) rfl).row.ldc (j := 3) rfl) hk)))
theorem node_ (cs : CsY0 S I) (c : Cx F0 h0 h (HL sp r p root σ b L)) (ha : R64 n) (hk : ∀ h', Cx F0 h0 h' (HL sp r p root σ (hNode p b n).2 L) → R (.int .i64 (hNode p b n).1) h') : S.C I.f_heap_work_node [at0 r, .int .i64 n] h R := by
  refine cs.wnode ?_
  unfold F_heap_work_node
  refine hw_p c ?_
  refine c.pur (cs.node ha) fun h1 c => ?_
  unfold vN
  refine ext0t (ext1t ?_)
  rw [uno_nb, vb_some]
  unfold hNode at hk
  cases hn : (p.node n).isSome with
  | true =>
    rw [hn, if_pos rfl] at hk
    rw [Bool.not_true, br_false]
    exact hk _ c
  | false =>
    rw [hn, if_neg (by simp)] at hk
    rw [Bool.not_false, br_true]
    refine nckb ?_
    refine c.stof 1 rfl (j := 5) (p, root, sp, true) rfl (by decide) rfl fun h3 c => ?_
    exact hk _ c
theorem get_ {q : Int → Prog β} (cs : CsY0 S I) (c : Cx F0 h0 h (HL sp r p root σ b L)) (ha : R64 (a + cell)) (hp : wp (hGet a cell >>= q) σ Q) (hk : ∀ v σ' h', R64 v → Cx F0 h0 h' (HL sp r p root σ' b L) → wp (q v) σ' Q → R (.int .i64 v) h') :
    S.C I.f_heap_work_get [at0 r, .int .i64 a, .int .i64 cell] h R := by
  refine cs.wget ?_
  unfold F_heap_work_get
  unfold hGet at hp
  rw [bin_eql, vb_some]
  refine brd (fun e => ?_) fun e => ?_
  · rw [if_pos e] at hp
    exact hk 0 σ _ ⟨by decide, by decide⟩ c hp
  · rw [if_neg e] at hp
    refine hw_s c ?_
    rw [addI ha, vb_some]
    refine c.doesE cs.get (Ens.gt _) 0 rfl hp fun v σ' h1 hv c hp => ?_
    exact hk v σ' _ hv c hp
theorem put_ {q : Unit → Prog β} (cs : CsY0 S I) (c : Cx F0 h0 h (HL sp r p root σ b L)) (ha : R64 (a + cell)) (hp : wp (hPut a cell v >>= q) σ Q) (hk : ∀ σ' h', Cx F0 h0 h' (HL sp r p root σ' b L) → wp (q ()) σ' Q → R (.tuple #[]) h') :
    S.C I.f_heap_work_put [at0 r, .int .i64 a, .int .i64 cell, .int .i64 v] h R := by
  refine cs.wput ?_
  unfold F_heap_work_put
  unfold hPut at hp
  rw [bin_neq, vb_some]
  refine brd (fun e => ?_) fun e => ?_
  · rw [if_neg e] at hp
    refine hw_s c ?_
    rw [addI ha, vb_some]
    refine c.does cs.put 0 rfl hp fun _ σ' h1 c hp => ?_
    exact hk σ' _ c hp
  · rw [if_pos (Classical.not_not.1 e)] at hp
    exact hk σ _ c hp
theorem root_ {q : Int → Prog β} (cs : CsY0 S I) (c : Cx F0 h0 h (HL sp r p root σ b L)) (hr : Rtl root) (hc : 0 ≤ cell ∧ cell ≤ 1000) (hp : wp (gt (root + cell) >>= q) σ Q) (hk : ∀ v σ' h', R64 v → Cx F0 h0 h' (HL sp r p root σ' b L) → wp (q v) σ' Q → R (.int .i64 v) h') :
    S.C I.f_heap_work_root [at0 r, .int .i64 cell] h R := by
  refine cs.wroot ?_
  unfold F_heap_work_root
  refine hw_s c ?_
  refine hw_r c ?_
  rw [addI ⟨by omega, by omega⟩, vb_some]
  refine c.doesE cs.get (Ens.gt _) 0 rfl hp fun v σ' h1 hv c hp => ?_
  exact hk v σ' _ hv c hp
theorem add_ {q : Unit → Prog β} (cs : CsY0 S I) (c : Cx F0 h0 h (HL sp r p root σ b L)) (hr : Rtl root) (hc : 0 ≤ cell ∧ cell ≤ 1000) (hp : wp (dMore (root + cell) n >>= q) σ Q) (hk : ∀ σ' h', Cx F0 h0 h' (HL sp r p root σ' b L) → wp (q ()) σ' Q → R (.tuple #[]) h') :
    S.C I.f_heap_work_add [at0 r, .int .i64 cell, .int .i64 n] h R := by
  refine cs.wadd ?_
  unfold F_heap_work_add
  unfold dMore at hp
  rw [pb_assoc] at hp
  refine nckb (En.vb (fa_add _ _ _) (En.vb ((c.va (i := 1) rfl).row.ldc (j := 4) rfl) ?_))
  refine nckb (En.vb (fa_add _ _ _) (En.vb (fa_add _ _ _) (En.vb ((c.va (i := 1) rfl).row.ldc (j := 3) rfl) ?_)))
  refine En.vb (addI (a := root) (b := cell) ⟨by omega, by omega⟩) ?_
  refine root_ cs c hr hc hp fun v σ1 h1 hv c hp => ?_
  refine ⟨(c.va (i := 1) rfl).row.ldc (j := 3) rfl, (c.va (i := 1) rfl).row.ldc (j := 4) rfl, ?_⟩
  rw [bin_addw, vb_some]
  refine c.does cs.put 0 rfl hp fun _ σ' h1 c hp => ?_
  exact hk σ' _ c hp
theorem row_ {q : Int × Bool → Prog β} (cs : CsY0 S I) (c : Cx F0 h0 h (HL sp r p root σ b L)) (hr : Rtl root) (hi : 1 ≤ i ∧ i ≤ 64) (hp : wp (hRow p root b i >>= q) σ Q) (hk : ∀ x b' σ' h', NdV p x → (b' = false → x ≠ 0) → Cx F0 h0 h' (HL sp r p root σ' b' L) → wp (q (x, b')) σ' Q → R (.tuple #[.int .i64 x, .int .i64 ((i - 1) % 8)]) h') :
    S.C I.f_heap_work_row [at0 r, .int .i64 i] h R := by
  refine cs.wrow ?_
  unfold F_heap_work_row
  unfold hRow at hp
  simp only [pb_assoc, pb_pure] at hp
  have e1 : bin .sub (.int .i64 i) (.int .i64 1) = some (.int .i64 (i - 1)) := subI ⟨by omega, by omega⟩
  rw [e1, vb_some, quoI ⟨by omega, by omega⟩ (by decide), vb_some, addI ⟨by omega, by omega⟩, vb_some]
  refine root_ cs c hr ⟨by omega, by omega⟩ hp fun v σ1 h1 hv c hp => ?_
  refine node_ cs c hv fun h2 c => ?_
  rw [vb_some, remI (by omega) (by decide), vb_some]
  refine hk _ _ σ1 _ hNode_v (fun e => ?_) c hp
  unfold hNode at e ⊢
  split at e
  · rename_i h; rw [if_pos h]; have := node_l h; dsimp only; omega
  · cases e
theorem item_ {q : Int × Bool → Prog β} (cs : CsY0 S I) (c : Cx F0 h0 h (HL sp r p root σ b L)) (hr : Rtl root) (hi : 1 ≤ i ∧ i ≤ 64) (hp : wp (hItem p root b i >>= q) σ Q) (hk : ∀ x b' σ' h', NdV p x → Cx F0 h0 h' (HL sp r p root σ' b' L) → wp (q (x, b')) σ' Q → R (.int .i64 x) h') :
    S.C I.f_heap_work_item [at0 r, .int .i64 i] h R := by
  refine cs.witem ?_
  unfold F_heap_work_item
  unfold hItem at hp
  rw [pb_assoc] at hp
  refine row_ cs c hr hi hp fun x b' σ1 h1 hx _ c hp => ?_
  refine ext0t (ext1t ?_)
  rw [bin_eql, vb_some]
  dsimp only at hp
  have hl := hx.le
  refine brd (fun e => ?_) fun e => ?_
  · rw [if_pos e] at hp
    exact hk 0 b' σ1 _ (.inl rfl) c hp
  · rw [if_neg e] at hp
    simp only [pb_assoc, pb_pure] at hp
    refine get_ cs c ⟨by omega, by omega⟩ hp fun v σ2 h2 hv c hp => ?_
    refine node_ cs c hv fun h3 c => ?_
    exact hk _ _ σ2 _ hNode_v c hp
theorem bldK (a b : Int) : bldA 1 #[Value.int IntKind.i64 0, Value.int IntKind.i64 0] [(0, .int .i64 a), (1, .int .i64 b)] = some (mK (a, b)) := by kernel_rfl
theorem key_ {q : Int × Int → Prog β} (cs : CsY0 S I) (c : Cx F0 h0 h (HL sp r p root σ b L)) (hx : 0 ≤ x ∧ x ≤ 5000) (hp : wp (hKey x >>= q) σ Q) (hk : ∀ k σ' h', Cx F0 h0 h' (HL sp r p root σ' b L) → wp (q k) σ' Q → R (mK k) h') :
    S.C I.f_heap_work_key [at0 r, .int .i64 x] h R := by
  refine cs.wkey ?_
  unfold F_heap_work_key
  unfold hKey at hp
  simp only [pb_assoc, pb_pure] at hp
  refine c.nw EPt (0, 0) rfl fun rk h1 c => ?_
  have c := c.third
  refine get_ cs c ⟨by omega, by omega⟩ hp fun u σ1 h2 hu c hp => ?_
  refine get_ cs c ⟨by omega, by omega⟩ hp fun o σ2 h3 ho c hp => ?_
  rw [bldK, vb_some]
  refine c.sto 2 rfl (u, o) rfl rfl fun h4 c => ?_
  rw [show lda 2 (at0 rk) h4 = some (mK (u, o)) from (c.va (i := 2) rfl).whole rfl, vb_some]
  exact hk (u, o) σ2 _ c.un3 hp
theorem eqA_K (a b : Int × Int) : eqA [true, true] (mK a) (mK b) = some (decide (a = b)) := by
  obtain ⟨a1, a2⟩ := a
  obtain ⟨b1, b2⟩ := b
  by_cases h1 : a1 = b1 <;> by_cases h2 : a2 = b2 <;> simp [eqA, mK, eqL, eq1, h1, h2]
theorem K_ahead (cs : CsY0 S I) (a b : Int × Int) : Pur S I.f_heap_ahead [mK a, mK b] (.bool (klt a b)) := by
  refine Pur.of fun h R c hR => cs.ahead ?_
  unfold F_heap_ahead
  refine c.nw EPt a rfl fun ra h1 c => ?_
  refine c.nw EPt b rfl fun rb h2 c => ?_
  refine Jn1.at (fun v h' => v = .bool (klt a b) ∧ h' = h2) ?_ ?_
  rotate_left
  · rintro v h3 ⟨rfl, rfl⟩
    exact hR _ _ c
  rw [show lda 2 (at0 ra) h2 = some (mK a) from (c.va (i := 0) rfl).whole rfl, vb_some, show lda 2 (at0 rb) h2 = some (mK b) from (c.va (i := 1) rfl).whole rfl, vb_some, eqA_K]
  have lda0 : ∀ {k : Value → Prop}, k (.int .i64 a.1) → Vb (ixa 2 1 (at0 ra) (.int .i64 0)) fun v => Vb (ldc v h2) k := fun hk => En.vb (ixa_at (i := 0) rfl (by decide) 0) (En.vb ((c.va (i := 0) rfl).row.ldc (j := 0) rfl) hk)
  have lda1 : ∀ {k : Value → Prop}, k (.int .i64 a.2) → Vb (ixa 2 1 (at0 ra) (.int .i64 1)) fun v => Vb (ldc v h2) k := fun hk => En.vb (ixa_at (i := 1) rfl (by decide) 0) (En.vb ((c.va (i := 0) rfl).row.ldc (j := 1) rfl) hk)
  have ldb0 : ∀ {k : Value → Prop}, k (.int .i64 b.1) → Vb (ixa 2 1 (at0 rb) (.int .i64 0)) fun v => Vb (ldc v h2) k := fun hk => En.vb (ixa_at (i := 0) rfl (by decide) 0) (En.vb ((c.va (i := 1) rfl).row.ldc (j := 0) rfl) hk)
  have ldb1 : ∀ {k : Value → Prop}, k (.int .i64 b.2) → Vb (ixa 2 1 (at0 rb) (.int .i64 1)) fun v => Vb (ldc v h2) k := fun hk => En.vb (ixa_at (i := 1) rfl (by decide) 0) (En.vb ((c.va (i := 1) rfl).row.ldc (j := 1) rfl) hk)
  refine En.vb (v := .bool (decide (a ≠ b))) (by show neg? (some (decide (a = b))) = _; by_cases e : a = b <;> simp [neg?, e]) ?_
  refine brd (fun e => ?_) fun e => ?_
  · refine lda0 (ldb0 ?_)
    rw [bin_lss, vb_some]
    refine brd (fun h1 => ?_) fun h1 => ?_
    · exact ⟨by rw [klt_iff.2 (.inl h1)], rfl⟩
    · refine lda0 (ldb0 ?_)
      rw [bin_eql, vb_some]
      refine brd (fun h3 => ?_) fun h3 => ?_
      · refine lda1 (ldb1 ?_)
        rw [bin_lss, vb_some]
        refine ⟨?_, rfl⟩
        unfold klt
        congr 1
        exact decide_eq_decide.2 (by omega)
      · refine ⟨?_, rfl⟩
        rw [klt_f.2 (by omega)]
  · have e := Classical.not_not.1 e
    subst e
    exact ⟨by rw [klt_f.2 (by omega)], rfl⟩
end
end Go.En
namespace Go.En
open Prog Spc Go.Sort

variable {S : Sys} {I : Ids} {h h0 h' : Hp} {F F0 : Fp} {R : Value → Hp → Prop} {L : List Res} {s : Value} {σ τ : Spc}
section
variable {sp r : Nat} {p : Pl} {root a cell v i x n : Int} {b : Bool} {β : Type} {Q : β → Spc → Prop}
theorem lay_ {q : Bool → Prog β} (cs : CsY0 S I) (c : Cx F0 h0 h (HL sp r p root σ b L)) (hr : Rtl root) (hi : 1 ≤ i ∧ i ≤ 64) (hx : 0 ≤ x ∧ x ≤ 5000) (hp : wp (hLay p root b i x >>= q) σ Q) (hk : ∀ b' σ' h', Cx F0 h0 h' (HL sp r p root σ' b' L) → wp (q b') σ' Q → R (.tuple #[]) h') :
    S.C I.f_heap_work_lay [at0 r, .int .i64 i, .int .i64 x] h R := by
  refine cs.wlay ?_
  unfold F_heap_work_lay
  unfold hLay at hp
  simp only [pb_assoc, pb_pure] at hp
  refine row_ cs c hr hi hp fun w b' σ1 h1 hw _ c hp => ?_
  have hl := hw.le
  refine ext0t (ext1t ?_)
  refine put_ cs c ⟨by omega, by omega⟩ hp fun σ2 h2 c hp => ?_
  refine put_ cs c ⟨by omega, by omega⟩ hp fun σ3 h3 c hp => ?_
  exact hk b' σ3 _ c hp
set_option maxHeartbeats 800000 in
theorem rise_ {q : Int × Bool → Prog β} (cs : CsY0 S I) (c : Cx F0 h0 h (HL sp r p root σ b L)) (hr : Rtl root) (hi : 1 ≤ i ∧ i ≤ 64) (hx : 0 ≤ x ∧ x ≤ 5000) (hp : wp (hRiseS p root b i x >>= q) σ Q) (hk : ∀ i' b' σ' h', 1 ≤ i' → i' ≤ i → Cx F0 h0 h' (HL sp r p root σ' b' L) → wp (q (i', b')) σ' Q → R (.int .i64 i') h') :
    S.C I.f_heap_work_rise [at0 r, .int .i64 i, .int .i64 x] h R := by
  refine cs.wrise ?_
  unfold F_heap_work_rise
  unfold hRiseS at hp
  rw [pb_assoc] at hp
  refine key_ cs c hx hp fun own σ1 h1 c hp => ?_
  refine c.nw EPt (0, 0) rfl fun ro h2 c => ?_
  have c := c.third
  refine c.sto 2 rfl own rfl rfl fun h3 c => ?_
  refine .here ?_
  refine Lp1.by (fun (z : Nat × Bool × Int × Spc) v h' => v = .int .i64 z.2.2.1 ∧ 1 ≤ z.2.2.1 ∧ z.2.2.1 ≤ i ∧ z.2.2.1.toNat ≤ z.1 ∧ wp (hRise p root own x z.1 z.2.1 z.2.2.1 >>= q) z.2.2.2 Q ∧ Cx F0 h0 h' (HL sp r p root z.2.2.2 z.2.1 (rVar EPt ro own :: L))) (fun z => z.1) (i.toNat, b, i, σ1) ⟨rfl, hi.1, Int.le_refl _, Nat.le_refl _, hp, c⟩ ?_
  clear c hp
  rintro ⟨f, b, i', σ⟩ v h4 ⟨rfl, i1, i2, hf, hp, c⟩ again hagain
  dsimp only at *
  obtain ⟨f, rfl⟩ : ∃ f', f = f' + 1 := ⟨f - 1, by omega⟩
  unfold hRise at hp
  have fin : ∀ (σ : Spc) (b : Bool) (h' : Hp), Cx F0 h0 h' (HL sp r p root σ b (rVar EPt ro own :: L)) → wp ((hLay p root b i' x >>= fun b => pure (i', b)) >>= q) σ Q → S.C I.f_heap_work_lay [at0 r, .int .i64 i', .int .i64 x] h' fun _ h5 => R (.int .i64 i') h5 := fun σ b h' c hp => by
    simp only [pb_assoc, pb_pure] at hp
    exact lay_ cs c hr ⟨i1, by omega⟩ hx hp fun b' σ' h5 c hp => hk i' b' σ' h5 i1 i2 c.un3 hp
  refine Jn1.at (fun v h' => v = .bool (decide (1 < i' ∧ b = false)) ∧ h' = h4) ?_ ?_
  · rw [bin_gtr, vb_some]
    refine brd (fun e => ?_) fun e => ?_
    · refine hw_b c ?_
      rw [uno_nb, vb_some]
      refine ⟨?_, rfl⟩
      cases b <;> simp [e]
    · refine ⟨?_, rfl⟩
      rw [decide_eq_false (fun h => e h.1)]
  rintro v h5 ⟨rfl, rfl⟩
  refine brd (fun e => ?_) fun e => ?_
  · rw [if_pos e, pb_assoc] at hp
    rw [quoI ⟨by omega, by omega⟩ (by decide), vb_some]
    refine item_ cs c hr ⟨by omega, by omega⟩ hp fun u b' σ2 h6 hu c hp => ?_
    have hul := hu.le
    rw [show lda 2 (at0 ro) h6 = some (mK own) from (c.va (i := 2) rfl).whole rfl, vb_some]
    rw [pb_assoc] at hp
    refine key_ cs c ⟨by omega, by omega⟩ hp fun ku σ3 h7 c hp => ?_
    refine ⟨(c.va (i := 2) rfl).whole rfl, ?_⟩
    refine c.pur (K_ahead cs own ku) fun h8 c => ?_
    rw [uno_nb, vb_some]
    cases hlt : klt own ku with
    | true =>
      rw [hlt, if_pos rfl, pb_assoc] at hp
      rw [Bool.not_true, br_false]
      refine lay_ cs c hr ⟨i1, by omega⟩ ⟨by omega, by omega⟩ hp fun b2 σ4 h9 c hp => ?_
      rw [vb_some]
      exact hagain (f, b2, i' / 2, σ4) _ _ ⟨rfl, show 1 ≤ i' / 2 by omega, show i' / 2 ≤ i by omega, show (i' / 2).toNat ≤ f by omega, hp, c⟩ (by dsimp only; omega)
    | false =>
      rw [hlt, if_neg (by simp)] at hp
      rw [Bool.not_false, br_true]
      exact fin _ _ _ c hp
  · rw [if_neg e] at hp
    exact fin _ _ _ c hp
set_option maxHeartbeats 1600000 in
theorem sink_ {q : Bool → Prog β} (cs : CsY0 S I) (c : Cx F0 h0 h (HL sp r p root σ b L)) (hr : Rtl root) (hi : 1 ≤ i ∧ i ≤ 64) (hn : i ≤ n ∧ n ≤ 60) (hx : 0 ≤ x ∧ x ≤ 5000) (hp : wp (hSinkS p root b i x n >>= q) σ Q) (hk : ∀ b' σ' h', Cx F0 h0 h' (HL sp r p root σ' b' L) → wp (q b') σ' Q → R (.tuple #[]) h') :
    S.C I.f_heap_work_sink [at0 r, .int .i64 i, .int .i64 x, .int .i64 n] h R := by
  refine cs.wsink ?_
  unfold F_heap_work_sink
  unfold hSinkS at hp
  rw [pb_assoc] at hp
  refine key_ cs c hx hp fun own σ1 h1 c hp => ?_
  refine c.nw EPt (0, 0) rfl fun ro h2 c => ?_
  have c := c.third
  refine c.sto 2 rfl own rfl rfl fun h3 c => ?_
  refine .here ?_
  refine Lp1.by (fun (z : Nat × Bool × Int × Spc) v h' => v = .int .i64 z.2.2.1 ∧ 1 ≤ z.2.2.1 ∧ z.2.2.1 ≤ n ∧ (n - z.2.2.1).toNat ≤ z.1 ∧ wp (hSink p root own x n z.1 z.2.1 z.2.2.1 >>= q) z.2.2.2 Q ∧ Cx F0 h0 h' (HL sp r p root z.2.2.2 z.2.1 (rVar EPt ro own :: L))) (fun z => z.1) ((n - i).toNat, b, i, σ1) ⟨rfl, hi.1, hn.1, Nat.le_refl _, hp, c⟩ ?_
  clear c hp
  rintro ⟨f, b, i', σ⟩ v h4 ⟨rfl, i1, i2, hf, hp, c⟩ again hagain
  dsimp only at *
  have fin : ∀ (σ : Spc) (b : Bool) (h' : Hp), Cx F0 h0 h' (HL sp r p root σ b (rVar EPt ro own :: L)) → wp (hLay p root b i' x >>= q) σ Q → S.C I.f_heap_work_lay [at0 r, .int .i64 i', .int .i64 x] h' fun _ h5 => R (.tuple #[]) h5 := fun σ b h' c hp =>
    lay_ cs c hr ⟨i1, by omega⟩ hx hp fun b' σ' h5 c hp => hk b' σ' h5 c.un3 hp
  have e2 : bin .mul (.int .i64 2) (.int .i64 i') = some (.int .i64 (2 * i')) := by rw [bin_mul, wr64 ⟨by omega, by omega⟩]
  refine Jn1.at (fun v h' => v = .bool (decide (2 * i' ≤ n ∧ b = false)) ∧ h' = h4) ?_ ?_
  · rw [e2, vb_some, bin_leq, vb_some]
    refine brd (fun e => ?_) fun e => ?_
    · refine hw_b c ?_
      rw [uno_nb, vb_some]
      refine ⟨?_, rfl⟩
      cases b <;> simp [e]
    · refine ⟨?_, rfl⟩
      rw [decide_eq_false (fun h => e h.1)]
  rintro v h5 ⟨rfl, rfl⟩
  refine brd (fun e => ?_) fun e => ?_
  · obtain ⟨f, rfl⟩ : ∃ f', f = f' + 1 := ⟨f - 1, by omega⟩
    unfold hSink at hp
    rw [if_pos e, pb_assoc] at hp
    rw [e2, vb_some]
    unfold hKid at hp
    rw [pb_assoc] at hp
    refine item_ cs c hr ⟨by omega, by omega⟩ hp fun u b' σ2 h6 hu c hp => ?_
    have hul := hu.le
    dsimp only at hp
    refine Jn2.at (fun kid y h' => ∃ (j yy : Int) (b2 : Bool) (σ3 : Spc), kid = .int .i64 j ∧ y = .int .i64 yy ∧ 2 * i' ≤ j ∧ j ≤ n ∧ 0 ≤ yy ∧ yy ≤ 4088 ∧ Cx F0 h0 h' (HL sp r p root σ3 b2 (rVar EPt ro own :: L)) ∧
      wp (hKey yy >>= fun kx => (if klt kx own = true then hLay p root b2 i' yy >>= fun b => hSink p root own x n f b j else hLay p root b2 i' x) >>= q) σ3 Q) ?_ ?_
    · rw [bin_lss, vb_some]
      refine brd (fun e3 => ?_) fun e3 => ?_
      · rw [if_pos e3, pb_assoc] at hp
        rw [addI ⟨by omega, by omega⟩, vb_some]
        refine item_ cs c hr ⟨by omega, by omega⟩ hp fun y b2 σ3 h7 hy c hp => ?_
        have hyl := hy.le
        rw [pb_assoc] at hp
        refine key_ cs c ⟨by omega, by omega⟩ hp fun ky σ4 h8 c hp => ?_
        rw [pb_assoc] at hp
        refine key_ cs c ⟨by omega, by omega⟩ hp fun kx σ5 h9 c hp => ?_
        refine c.pur (K_ahead cs ky kx) fun h10 c => ?_
        cases hlt : klt ky kx with
        | true =>
          rw [hlt, if_pos rfl] at hp
          rw [br_true, vb_some]
          simp only [pb_assoc, pb_pure] at hp
          exact ⟨2 * i' + 1, y, b2, σ5, rfl, rfl, by omega, by omega, by omega, by omega, c, hp⟩
        | false =>
          rw [hlt, if_neg (by simp)] at hp
          rw [br_false]
          simp only [pb_assoc, pb_pure] at hp
          exact ⟨2 * i', u, b2, σ5, rfl, rfl, by omega, by omega, by omega, by omega, c, hp⟩
      · rw [if_neg e3] at hp
        simp only [pb_assoc, pb_pure] at hp
        exact ⟨2 * i', u, b', σ2, rfl, rfl, by omega, by omega, by omega, by omega, c, hp⟩
    clear c hp
    rintro kid y h7 ⟨j, yy, b2, σ3, rfl, rfl, j1, j2, y0, y1, c, hp⟩
    rw [show lda 2 (at0 ro) h7 = some (mK own) from (c.va (i := 2) rfl).whole rfl, vb_some]
    refine key_ cs c ⟨by omega, by omega⟩ hp fun kx σ4 h8 c hp => ?_
    refine ⟨(c.va (i := 2) rfl).whole rfl, ?_⟩
    refine c.pur (K_ahead cs kx own) fun h9 c => ?_
    rw [uno_nb, vb_some]
    cases hlt : klt kx own with
    | true =>
      rw [hlt, if_pos rfl, pb_assoc] at hp
      rw [Bool.not_true, br_false]
      refine lay_ cs c hr ⟨i1, by omega⟩ ⟨by omega, by omega⟩ hp fun b3 σ5 h10 c hp => ?_
      exact hagain (f, b3, j, σ5) _ _ ⟨rfl, show 1 ≤ j by omega, j2, show (n - j).toNat ≤ f by omega, hp, c⟩ (by dsimp only; omega)
    | false =>
      rw [hlt, if_neg (by simp)] at hp
      rw [Bool.not_false, br_true]
      exact fin _ _ _ c hp
  · cases f with
    | zero => unfold hSink at hp; exact fin _ _ _ c hp
    | succ f =>
      unfold hSink at hp
      rw [if_neg e] at hp
      exact fin _ _ _ c hp
theorem take_ {q : Int × Int → Prog β} (cs : CsY0 S I) (c : Cx F0 h0 h (HL sp r p root σ b L)) (hr : Rtl root) (hp : wp (hTake p root >>= q) σ Q) (hk : ∀ x e σ' h', (e = 0 → (p.node x).isSome = true) → Cx F0 h0 h' (HL sp r p root σ' b L) → wp (q (x, e)) σ' Q → R (.tuple #[.int .i64 x, .int .i64 e]) h') :
    S.C I.f_heap_work_take [at0 r] h R := by
  refine cs.wtake ?_
  unfold F_heap_work_take
  unfold hTake at hp
  rw [pb_assoc] at hp
  refine hw_p c ?_
  refine hw_s c ?_
  refine c.doesE cs.take (Ens.take p) 0 rfl hp fun t σ h1 hE c hp => ?_
  unfold uE
  refine ext0t (ext1t ?_)
  refine .here ?_
  rw [bin_eql, vb_some]
  have hx : t.2 = 0 → (p.node t.1).isSome = true := fun e => by
    rcases hE with h | h
    · exact h.2
    · rcases h.2 with h | h | h <;> omega
  refine brd (fun e => ?_) fun e => ?_
  · rw [if_pos e] at hp
    simp only [pb_assoc, pb_pure] at hp
    refine add_ cs c hr ⟨by omega, by omega⟩ hp fun σ2 h2 c hp => ?_
    exact hk t.1 t.2 σ2 _ hx c hp
  · rw [if_neg e] at hp
    exact hk t.1 t.2 σ _ hx c hp
theorem give_ {q : Int → Prog β} (cs : CsY0 S I) (c : Cx F0 h0 h (HL sp r p root σ b L)) (hr : Rtl root) (ha : R64 a) (hp : wp (hGive p root a >>= q) σ Q) (hk : ∀ e σ' h', Cx F0 h0 h' (HL sp r p root σ' b L) → wp (q e) σ' Q → R (.int .i64 e) h') :
    S.C I.f_heap_work_give [at0 r, .int .i64 a] h R := by
  refine cs.wgive ?_
  unfold F_heap_work_give
  unfold hGive at hp
  rw [pb_assoc] at hp
  refine hw_p c ?_
  refine hw_s c ?_
  refine c.does (cs.give ha) 0 rfl hp fun e σ h1 c hp => ?_
  unfold uI
  refine .here ?_
  rw [bin_eql, vb_some]
  refine brd (fun e1 => ?_) fun e1 => ?_
  · rw [if_pos e1] at hp
    simp only [pb_assoc, pb_pure] at hp
    refine add_ cs c hr ⟨by omega, by omega⟩ hp fun σ2 h2 c hp => ?_
    exact hk e σ2 _ c hp
  · rw [if_neg e1] at hp
    exact hk e σ _ c hp
theorem many_ {q : Int → Prog β} (cs : CsY0 S I) (c : Cx F0 h0 h (HL sp r p root σ b L)) (hr : Rtl root) (hp : wp (gt (root + 0) >>= q) σ Q) (hk : ∀ n σ' h', R64 n → Cx F0 h0 h' (HL sp r p root σ' b L) → wp (q n) σ' Q → R (.tuple #[.int .i64 n, .bool (decide (0 ≤ n ∧ n ≤ 32))]) h') :
    S.C I.f_heap_work_many [at0 r] h R := by
  refine cs.wmany ?_
  unfold F_heap_work_many
  refine root_ cs c hr ⟨by omega, by omega⟩ hp fun n σ' h1 hn c hp => ?_
  refine Jn2.at (fun v w h' => v = .int .i64 n ∧ w = .bool (decide (0 ≤ n ∧ n ≤ 32)) ∧ h' = h1) ?_ ?_
  · rw [bin_geq, vb_some]
    refine brd (fun e => ?_) fun e => ?_
    · rw [bin_leq, vb_some]
      refine ⟨rfl, ?_, rfl⟩
      congr 1
      exact decide_eq_decide.2 ⟨fun h => ⟨e, h⟩, fun h => h.2⟩
    · exact ⟨rfl, by rw [decide_eq_false fun h => e h.1], rfl⟩
  rintro v w h2 ⟨rfl, rfl, rfl⟩
  exact hk n σ' _ hn c hp
def uR3 (x : Int × Int × Int) : Value := .tuple #[.int .i64 x.1, .int .i64 x.2.1, .int .i64 x.2.2]
set_option maxHeartbeats 1600000 in
theorem rem_ {q : Int × Int × Int × Bool → Prog β} (cs : CsY0 S I) (c : Cx F0 h0 h (HL sp r p root σ b L)) (hr : Rtl root) (hi : 1 ≤ i ∧ i ≤ n) (hn : n ≤ 32) (hp : wp (hRem p root b i n >>= q) σ Q) (hk : ∀ pr v e b' σ' h', Cx F0 h0 h' (HL sp r p root σ' b' L) → wp (q (pr, v, e, b')) σ' Q → R (uR3 (pr, v, e)) h') :
    S.C I.f_heap_work_remove [at0 r, .int .i64 i, .int .i64 n] h R := by
  refine cs.wrem ?_
  unfold F_heap_work_remove
  unfold hRem at hp
  rw [pb_assoc] at hp
  refine item_ cs c hr ⟨hi.1, by omega⟩ hp fun x b1 σ1 h1 hx c hp => ?_
  have hxl := hx.le
  rw [pb_assoc] at hp
  refine item_ cs c hr ⟨by omega, by omega⟩ hp fun y b2 σ2 h2 hy c hp => ?_
  have hyl := hy.le
  rw [pb_assoc] at hp
  refine get_ cs c ⟨by omega, by omega⟩ hp fun pr σ3 h3 _ c hp => ?_
  rw [pb_assoc] at hp
  refine get_ cs c ⟨by omega, by omega⟩ hp fun v σ4 h4 _ c hp => ?_
  rw [pb_assoc] at hp
  refine row_ cs c hr ⟨by omega, by omega⟩ hp fun w b3 σ5 h5 hw hwb c hp => ?_
  have hwl := hw.le
  refine ext0t (ext1t ?_)
  refine hw_b c ?_
  cases b3 with
  | true =>
    rw [if_pos rfl] at hp
    rw [br_true]
    exact hk 0 0 24 _ σ5 _ c hp
  | false =>
  rw [if_neg (by simp), pb_assoc] at hp
  rw [br_false]
  refine add_ cs c hr ⟨by omega, by omega⟩ hp fun σ6 h6 c hp => ?_
  have e1 : bin .sub (.int .i64 n) (.int .i64 1) = some (.int .i64 (n - 1)) := subI ⟨by omega, by omega⟩
  rw [pb_assoc] at hp
  -- behind the move
  refine Jn0.at (fun h' => ∃ (b4 : Bool) (σ7 : Spc), Cx F0 h0 h' (HL sp r p root σ7 b4 L) ∧ wp ((if (n - 1) % 8 = 0 then pt (root + (3 + (n - 1) / 8)) 0 >>= fun _ => hGive p root w >>= fun e => if e ≠ 0 then pure (0, 0, e, b4) else hRemT p root x pr v b4 else hRemT p root x pr v b4) >>= q) σ7 Q) ?_ ?_
  · unfold hMove at hp
    rw [bin_neq, vb_some]
    refine brd (fun e => ?_) fun e => ?_
    · rw [if_pos e, pb_assoc] at hp
      refine rise_ cs c hr ⟨hi.1, by omega⟩ ⟨by omega, by omega⟩ hp fun i' b4 σ7 h7 i1 i2 c hp => ?_
      dsimp only at hp
      rw [bin_eql, vb_some]
      refine brd (fun e2 => ?_) fun e2 => ?_
      · rw [if_pos e2] at hp
        rw [e1, vb_some]
        refine sink_ cs c hr ⟨hi.1, by omega⟩ ⟨by omega, by omega⟩ ⟨by omega, by omega⟩ hp fun b5 σ8 h8 c hp => ?_
        exact ⟨b5, σ8, c, hp⟩
      · rw [if_neg e2] at hp
        exact ⟨b4, σ7, c, hp⟩
    · rw [if_neg e] at hp
      exact ⟨false, σ6, c, hp⟩
  clear c hp
  rintro h7 ⟨b4, σ7, c, hp⟩
  refine Jn0.at (fun h' => ∃ (σ8 : Spc), Cx F0 h0 h' (HL sp r p root σ8 b4 L) ∧ wp (hRemT p root x pr v b4 >>= q) σ8 Q) ?_ ?_
  · rw [bin_eql, vb_some]
    refine brd (fun e => ?_) fun e => ?_
    · rw [if_pos e, pb_assoc] at hp
      refine hw_s c ?_
      refine hw_r c ?_
      rw [e1, vb_some, quoI ⟨by omega, by omega⟩ (by decide), vb_some, addI ⟨by omega, by omega⟩, vb_some, addI ⟨by omega, by omega⟩, vb_some]
      refine c.does cs.put 0 rfl hp fun _ σ8 h8 c hp => ?_
      have c : Cx F0 h0 h8 (HL sp r p root σ8 b4 L) := c
      rw [pb_assoc] at hp
      refine give_ cs c hr ⟨by omega, by omega⟩ hp fun e2 σ9 h9 c hp => ?_
      rw [bin_neq, vb_some]
      refine brd (fun e3 => ?_) fun e3 => ?_
      · rw [if_pos e3] at hp
        exact hk 0 0 e2 _ σ9 _ c hp
      · rw [if_neg e3] at hp
        exact ⟨σ9, c, hp⟩
    · rw [if_neg e] at hp
      exact ⟨σ7, c, hp⟩
  clear c hp
  rintro h8 ⟨σ8, c, hp⟩
  unfold hRemT at hp
  rw [pb_assoc] at hp
  refine give_ cs c hr ⟨by omega, by omega⟩ hp fun e2 σ9 h9 c hp => ?_
  rw [bin_neq, vb_some]
  refine brd (fun e3 => ?_) fun e3 => ?_
  · rw [if_pos e3] at hp
    exact hk 0 0 e2 _ σ9 _ c hp
  · rw [if_neg e3] at hp
    refine hw_b c ?_
    cases b4 with
    | true =>
      rw [if_pos rfl] at hp
      rw [br_true]
      exact hk 0 0 24 _ σ9 _ c hp
    | false =>
      rw [if_neg (by simp)] at hp
      rw [br_false]
      exact hk pr v 0 _ σ9 _ c hp
theorem find_ {q : Int × Int × Int × Int × Bool → Prog β} (cs : CsY0 S I) (c : Cx F0 h0 h (HL sp r p root σ b L)) (hb : b = false) (hr : Rtl root) (hx : R64 x) (hp : wp (hFind p root x >>= q) σ Q)
    (hk : ∀ a i n e b' σ' h', (e = 0 → (p.node a).isSome = true ∧ 1 ≤ i ∧ i ≤ n ∧ n ≤ 32) → Cx F0 h0 h' (HL sp r p root σ' b' L) → wp (q (a, i, n, e, b')) σ' Q → R (.tuple #[.int .i64 a, .int .i64 i, .int .i64 n, .int .i64 e]) h') :
    S.C I.f_heap_work_find [at0 r, .int .i64 x] h R := by
  subst hb
  refine cs.wfind ?_
  unfold F_heap_work_find
  unfold hFind at hp
  rw [pb_assoc] at hp
  refine many_ cs c hr hp fun n σ1 h1 hn c hp => ?_
  refine ext0t (ext1t ?_)
  rw [uno_nb, vb_some]
  by_cases hok : 0 ≤ n ∧ n ≤ 32
  · rw [if_neg (by simpa using hok)] at hp
    rw [decide_eq_true hok, Bool.not_true, br_false]
    refine hw_p c ?_
    refine c.pur (cs.node hx) fun h2 c => ?_
    unfold vN
    refine ext0t (ext1t ?_)
    rw [uno_nb, vb_some]
    cases hnd : (p.node x).isSome with
    | false =>
      rw [hnd, if_neg (by simp)] at hp
      rw [Bool.not_false, br_true]
      exact hk 0 0 0 10 _ σ1 _ (fun e => by cases e) c hp
    | true =>
      rw [hnd, if_pos rfl, pb_assoc] at hp
      rw [Bool.not_true, br_false]
      have hxl := node_l hnd
      refine get_ cs c ⟨by omega, by omega⟩ hp fun i σ2 h3 hi c hp => ?_
      refine Jn1.at (fun v h' => v = .bool (decide (i < 1 ∨ n < i)) ∧ h' = h3) ?_ ?_
      · rw [bin_lss, vb_some]
        refine brd (fun e => ?_) fun e => ?_
        · exact ⟨by rw [decide_eq_true (.inl e)], rfl⟩
        · rw [bin_gtr, vb_some]
          refine ⟨?_, rfl⟩
          congr 1
          exact decide_eq_decide.2 ⟨fun h => .inr h, fun h => h.resolve_left e⟩
      rintro v h4 ⟨rfl, rfl⟩
      refine brd (fun e => ?_) fun e => ?_
      · rw [if_pos e] at hp
        exact hk 0 0 0 10 _ σ2 _ (fun e => by cases e) c hp
      · rw [if_neg e, pb_assoc] at hp
        refine row_ cs c hr ⟨by omega, by omega⟩ hp fun w b2 σ3 h5 hw hwb c hp => ?_
        have hwl := hw.le
        refine ext0t (ext1t ?_)
        refine hw_b c ?_
        cases b2 with
        | true =>
          rw [if_pos rfl] at hp
          rw [br_true]
          exact hk 0 0 0 24 _ σ3 _ (fun e => by cases e) c hp
        | false =>
          rw [if_neg (by simp), pb_assoc] at hp
          rw [br_false]
          refine get_ cs c ⟨by omega, by omega⟩ hp fun v σ4 h6 hv c hp => ?_
          rw [bin_neq, vb_some]
          refine brd (fun e2 => ?_) fun e2 => ?_
          · rw [if_pos e2] at hp
            exact hk 0 0 0 10 _ σ4 _ (fun e => by cases e) c hp
          · rw [if_neg e2] at hp
            exact hk x i n 0 _ σ4 _ (fun _ => ⟨hnd, by omega, by omega, hok.2⟩) c hp
  · rw [if_pos hok] at hp
    rw [decide_eq_false hok, Bool.not_false, br_true]
    exact hk 0 0 0 24 _ σ1 _ (fun e => by cases e) c hp
/-- the end of an operation -/
theorem end_ {q : Int → Prog β} {re : Nat} {e m : Int} {R : Hp → Prop} {L : List Res} (cs : CsY0 S I) (c : Cx F0 h0 h (HL sp r p root σ b (rVar EI1 re e :: L))) (hp : wp (hEnd m e b >>= q) σ Q) (hk : ∀ e' σ' h', Cx F0 h0 h' (HL sp r p root σ' b (rVar EI1 re e' :: L)) → wp (q e') σ' Q → R h') :
    S.D I.f_heap_work_end [at0 r, .int .i64 m, at0 re] h R := by
  refine cs.wend ?_
  unfold F_heap_work_end
  unfold hEnd at hp
  dsimp only at hp
  refine Jn0.at (fun h' => Cx F0 h0 h' (HL sp r p root σ b (rVar EI1 re (if b = true ∧ e = 0 then 24 else e) :: L))) ?_ ?_
  · refine Jn1.at (fun v h' => v = .bool (decide (b = true ∧ e = 0)) ∧ h' = h) ?_ ?_
    · refine hw_b c ?_
      cases b with
      | true =>
        rw [br_true]
        refine nckb ?_
        rw [(c.va (i := 2) rfl).one rfl, vb_some, bin_eql, vb_some]
        refine ⟨?_, rfl⟩
        simp
      | false =>
        rw [br_false]
        exact ⟨by simp, rfl⟩
    rintro v h1 ⟨rfl, rfl⟩
    refine brd (fun e1 => ?_) fun e1 => ?_
    · rw [if_pos e1]
      refine nckb ?_
      exact c.sto1 2 rfl 24 rfl rfl fun h2 c => c
    · rw [if_neg e1]
      exact c
  clear c
  intro h1 c
  refine nckb ?_
  rw [(c.va (i := 2) rfl).one rfl, vb_some, bin_neq, vb_some]
  refine brd (fun e1 => ?_) fun e1 => ?_
  · rw [if_pos e1] at hp
    simp only [pb_assoc, pb_pure] at hp
    refine hw_s c ?_
    refine c.does cs.back 0 rfl hp fun _ σ2 h2 c hp => ?_
    exact hk _ σ2 _ c hp
  · rw [if_neg e1] at hp
    exact hk _ σ _ c hp
end
end Go.En
namespace Go.En
open Prog Spc Go.Sort

variable {S : Sys} {I : Ids} {h h0 h' : Hp} {F F0 : Fp} {R : Value → Hp → Prop} {L : List Res} {s : Value} {σ τ : Spc}
section
variable {p : Pl} {root x pr v : Int}
theorem bldH (p : Pl) (root : Int) (sp : Nat) : bldS [(0, 4), (4, 1), (5, 1)] #[Value.int IntKind.i64 0, Value.int IntKind.i64 0, Value.int IntKind.i64 0, Value.int IntKind.i64 0, Value.pointer none, Value.bool false] [(0, vHe p root), (1, at0 sp)] = some (.agg ⟨EHw.c (p, root, sp, false)⟩) := by kernel_rfl
theorem ext0r {x y z : Value} {k : Value → Prop} (hk : k x) : Vb (ext 0 (.tuple #[x, y, z])) k := En.vb rfl hk
theorem ext1r {x y z : Value} {k : Value → Prop} (hk : k y) : Vb (ext 1 (.tuple #[x, y, z])) k := En.vb rfl hk
theorem ext2r {x y z : Value} {k : Value → Prop} (hk : k z) : Vb (ext 2 (.tuple #[x, y, z])) k := En.vb rfl hk
set_option maxHeartbeats 1600000 in
theorem K_hPush (cs : CsY0 S I) (hr : Rtl root) : ∀ h0 F σ R Q, Cx F h0 h0 [rSpace s σ] → wp (hPush p root pr v) σ Q → (∀ a σ' h' M, Cx F h0 h' (rSpace s σ' :: M) → Q a σ' → R (uE a) h') → F_heap_Heap_Push S I (vHe p root) s (.int .i64 pr) (.int .i64 v) h0 R := by
  intro h0 F σ R Q c hp hR
  obtain ⟨sp, rfl⟩ := c.ptr (i := 0) rfl
  unfold F_heap_Heap_Push
  unfold hPush at hp
  refine c.nw EHe (p, root) rfl fun rh h1 c => ?_
  refine c.nw EI1 0 rfl fun rx h2 c => ?_
  refine c.nw EI1 0 rfl fun re h3 c => ?_
  rw [show lda 4 (at0 rh) h3 = some (vHe p root) from (c.va (i := 1) rfl).whole rfl, vb_some, bldH, vb_some]
  refine c.nw EHw (p, root, sp, false) rfl fun rw_ h4 c => ?_
  refine c.doesE cs.mark Ens.mk 0 rfl hp fun m σ h5 hm c hp => ?_
  have c : Cx F h0 h5 (HL sp rw_ p root σ false [rVar EI1 re 0, rVar EI1 rx 0, rVar EHe rh (p, root)]) := c.pick [0, 4, 3, 2, 1]
  unfold hPushB at hp
  rw [pb_assoc] at hp
  -- the end
  have fin : ∀ (x e e0 x0 : Int) (b : Bool) (σ : Spc) (h' : Hp), Cx F h0 h' (HL sp rw_ p root σ b [rVar EI1 re e0, rVar EI1 rx x0, rVar EHe rh (p, root)]) → wp (hEnd m e b >>= fun e => (pure (if e ≠ 0 then 0 else x, e) : Prog (Int × Int))) σ Q →
      Sb (sto 1 (at0 rx) (.int .i64 x) h') fun h7 => Sb (sto 1 (at0 re) (.int .i64 e) h7) fun h8 => S.D I.f_heap_work_end [at0 rw_, .int .i64 m, at0 re] h8 fun h9 => S.D I.f_heap_work_none [at0 rw_, at0 rx, at0 re] h9 fun h10 => Vb (ldc (at0 rx) h10) fun r0 => Vb (ldc (at0 re) h10) fun r1 => R (.tuple #[r0, r1]) h10 := by
    intro x e e0 x0 b σ h' c hp
    refine c.sto1 3 rfl x rfl rfl fun h7 c => ?_
    refine c.sto1 2 rfl e rfl rfl fun h8 c => ?_
    have c : Cx F h0 h8 (HL sp rw_ p root σ b (rVar EI1 re e :: [rVar EI1 rx x, rVar EHe rh (p, root)])) := c
    refine end_ cs c hp fun e' σ' h9 c hq => ?_
    refine cs.wnone ?_
    unfold F_heap_work_none
    refine nckb ?_
    rw [(c.va (i := 2) rfl).one rfl, vb_some, bin_neq, vb_some]
    have last : ∀ (y : Int) (h'' : Hp), y = (if e' ≠ 0 then 0 else x) → Cx F h0 h'' (HL sp rw_ p root σ' b (rVar EI1 re e' :: [rVar EI1 rx y, rVar EHe rh (p, root)])) → Vb (ldc (at0 rx) h'') fun r0 => Vb (ldc (at0 re) h'') fun r1 => R (.tuple #[r0, r1]) h'' := fun y h'' hy c => by
      rw [(c.va (i := 3) rfl).one rfl, vb_some, (c.va (i := 2) rfl).one rfl, vb_some, hy]
      exact hR (if e' ≠ 0 then 0 else x, e') σ' h'' _ c hq
    refine brd (fun h1 => ?_) fun h1 => ?_
    · refine nckb ?_
      refine c.sto1 3 rfl 0 rfl rfl fun h11 c => ?_
      exact last 0 h11 (by rw [if_pos h1]) c
    · exact last x h9 (by rw [if_neg h1]) c
  refine many_ cs c hr hp fun n σ h6 hn c hp => ?_
  refine ext0t (ext1t ?_)
  rw [bin_eql, vb_some]
  refine brd (fun e => ?_) fun e => ?_
  · rw [if_pos e] at hp
    exact fin 0 9 _ _ _ σ h6 c hp
  rw [if_neg e] at hp
  rw [uno_nb, vb_some]
  by_cases hok : 0 ≤ n ∧ n ≤ 32
  rotate_left
  · rw [if_pos hok] at hp
    rw [decide_eq_false hok, Bool.not_false, br_true]
    exact fin 0 24 _ _ _ σ h6 c hp
  rw [if_neg (by simpa using hok), pb_assoc] at hp
  rw [decide_eq_true hok, Bool.not_true, br_false]
  refine root_ cs c hr ⟨by omega, by omega⟩ hp fun o σ h7 ho c hp => ?_
  rw [bin_geq, vb_some]
  refine brd (fun e1 => ?_) fun e1 => ?_
  · rw [if_pos e1] at hp
    exact fin 0 9 _ _ _ σ h7 c hp
  rw [if_neg e1, pb_assoc] at hp
  refine take_ cs c hr hp fun x e2 σ h8 hxe c hp => ?_
  refine ext0t (ext1t ?_)
  refine c.sto1 2 rfl e2 rfl rfl fun h9 c => ?_
  rw [(c.va (i := 2) rfl).one rfl, vb_some, bin_neq, vb_some]
  refine brd (fun e3 => ?_) fun e3 => ?_
  · rw [if_pos e3] at hp
    rw [vb_some]
    exact fin 0 e2 _ _ _ σ h9 c hp
  rw [if_neg e3] at hp
  have hxl := node_l (hxe (Classical.not_not.1 e3))
  refine Jn0.at (fun h' => ∃ (σ' : Spc), Cx F h0 h' (HL sp rw_ p root σ' false [rVar EI1 re e2, rVar EI1 rx 0, rVar EHe rh (p, root)]) ∧ wp (hPushT p root x n pr v >>= fun r => hEnd m r.2.1 r.2.2 >>= fun e => (pure (if e ≠ 0 then 0 else r.1, e) : Prog (Int × Int))) σ' Q) ?_ ?_
  · rw [remI (by omega) (by decide), vb_some, bin_eql, vb_some]
    refine brd (fun e4 => ?_) fun e4 => ?_
    · rw [if_pos e4, pb_assoc] at hp
      refine take_ cs c hr hp fun w e5 σ h10 hwe c hp => ?_
      refine ext0t (ext1t ?_)
      rw [bin_neq, vb_some]
      refine brd (fun e6 => ?_) fun e6 => ?_
      · rw [if_pos e6] at hp
        exact fin 0 e5 _ _ _ σ h10 c hp
      rw [if_neg e6, pb_assoc] at hp
      refine hw_r c ?_
      rw [quoI ⟨by omega, by omega⟩ (by decide), vb_some, addI ⟨by omega, by omega⟩, vb_some, addI ⟨by omega, by omega⟩, vb_some]
      refine c.does cs.put 0 rfl hp fun _ σ8 h11 c hp => ?_
      exact ⟨σ8, c, hp⟩
    · rw [if_neg e4] at hp
      exact ⟨σ, c, hp⟩
  clear c hp
  rintro h10 ⟨σ, c, hp⟩
  unfold hPushT at hp
  rw [pb_assoc] at hp
  refine put_ cs c ⟨by omega, by omega⟩ hp fun σ h11 c hp => ?_
  rw [pb_assoc] at hp
  refine put_ cs c ⟨by omega, by omega⟩ hp fun σ h12 c hp => ?_
  rw [pb_assoc] at hp
  refine root_ cs c hr ⟨by omega, by omega⟩ hp fun o2 σ h13 ho2 c hp => ?_
  rw [pb_assoc] at hp
  refine put_ cs c ⟨by omega, by omega⟩ hp fun σ h14 c hp => ?_
  rw [pb_assoc] at hp
  refine add_ cs c hr ⟨by omega, by omega⟩ hp fun σ h15 c hp => ?_
  rw [pb_assoc] at hp
  refine add_ cs c hr ⟨by omega, by omega⟩ hp fun σ h16 c hp => ?_
  rw [addI ⟨by omega, by omega⟩, vb_some]
  rw [pb_assoc] at hp
  refine rise_ cs c hr ⟨by omega, by omega⟩ ⟨by omega, by omega⟩ hp fun i' b' σ h17 i1 i2 c hp => ?_
  exact fin x 0 _ _ _ σ h17 c hp
theorem K_hPop (cs : CsY0 S I) (hr : Rtl root) : ∀ h0 F σ R Q, Cx F h0 h0 [rSpace s σ] → wp (hPop p root) σ Q → (∀ a σ' h' M, Cx F h0 h' (rSpace s σ' :: M) → Q a σ' → R (uR3 a) h') → F_heap_Heap_Pop S I (vHe p root) s h0 R := by
  intro h0 F σ R Q c hp hR
  obtain ⟨sp, rfl⟩ := c.ptr (i := 0) rfl
  unfold F_heap_Heap_Pop
  unfold hPop at hp
  refine c.nw EHe (p, root) rfl fun rh h1 c => ?_
  refine c.nw EI1 0 rfl fun re h3 c => ?_
  rw [show lda 4 (at0 rh) h3 = some (vHe p root) from (c.va (i := 1) rfl).whole rfl, vb_some, bldH, vb_some]
  refine c.nw EHw (p, root, sp, false) rfl fun rw_ h4 c => ?_
  refine c.doesE cs.mark Ens.mk 0 rfl hp fun m σ h5 hm c hp => ?_
  have c : Cx F h0 h5 (HL sp rw_ p root σ false [rVar EI1 re 0, rVar EHe rh (p, root)]) := c.pick [0, 3, 2, 1]
  unfold hPopB at hp
  rw [pb_assoc] at hp
  have fin : ∀ (x y e e0 : Int) (b : Bool) (σ : Spc) (h' : Hp), Cx F h0 h' (HL sp rw_ p root σ b [rVar EI1 re e0, rVar EHe rh (p, root)]) → wp (hEnd m e b >>= fun e => (pure (x, y, e) : Prog (Int × Int × Int))) σ Q →
      Sb (sto 1 (at0 re) (.int .i64 e) h') fun h8 => S.D I.f_heap_work_end [at0 rw_, .int .i64 m, at0 re] h8 fun h9 => Vb (ldc (at0 re) h9) fun r1 => R (.tuple #[.int .i64 x, .int .i64 y, r1]) h9 := by
    intro x y e e0 b σ h' c hp
    refine c.sto1 2 rfl e rfl rfl fun h8 c => ?_
    have c : Cx F h0 h8 (HL sp rw_ p root σ b (rVar EI1 re e :: [rVar EHe rh (p, root)])) := c
    refine end_ cs c hp fun e' σ' h9 c hq => ?_
    rw [(c.va (i := 2) rfl).one rfl, vb_some]
    exact hR (x, y, e') σ' h9 _ c hq
  refine many_ cs c hr hp fun n σ h6 hn c hp => ?_
  refine ext0t (ext1t ?_)
  rw [bin_eql, vb_some]
  refine brd (fun e => ?_) fun e => ?_
  · rw [if_pos e] at hp
    exact fin 0 0 8 _ _ σ h6 c hp
  rw [if_neg e] at hp
  rw [uno_nb, vb_some]
  by_cases hok : 0 ≤ n ∧ n ≤ 32
  rotate_left
  · rw [if_pos hok] at hp
    rw [decide_eq_false hok, Bool.not_false, br_true]
    exact fin 0 0 24 _ _ σ h6 c hp
  rw [if_neg (by simpa using hok)] at hp
  rw [decide_eq_true hok, Bool.not_true, br_false]
  refine rem_ cs c hr ⟨by omega, by omega⟩ hok.2 hp fun pr v e2 b' σ h7 c hp => ?_
  unfold uR3
  refine ext0r (ext1r (ext2r ?_))
  exact fin pr v e2 _ _ σ h7 c hp
theorem K_hMin (cs : CsY0 S I) (hr : Rtl root) : ∀ h0 F σ R Q, Cx F h0 h0 [rSpace s σ] → wp (hMin p root) σ Q → (∀ a σ' h' M, Cx F h0 h' (rSpace s σ' :: M) → Q a σ' → R (uR3 a) h') → F_heap_Heap_Min S I (vHe p root) s h0 R := by
  intro h0 F σ R Q c hp hR
  obtain ⟨sp, rfl⟩ := c.ptr (i := 0) rfl
  unfold F_heap_Heap_Min
  unfold hMin at hp
  refine c.nw EHe (p, root) rfl fun rh h1 c => ?_
  rw [show lda 4 (at0 rh) h1 = some (vHe p root) from (c.va (i := 1) rfl).whole rfl, vb_some, bldH, vb_some]
  refine c.nw EHw (p, root, sp, false) rfl fun rw_ h4 c => ?_
  have c : Cx F h0 h4 (HL sp rw_ p root σ false [rVar EHe rh (p, root)]) := c.pick [0, 2, 1]
  refine many_ cs c hr hp fun n σ h6 hn c hp => ?_
  refine ext0t (ext1t ?_)
  rw [bin_eql, vb_some]
  refine brd (fun e => ?_) fun e => ?_
  · rw [if_pos e] at hp
    exact hR (0, 0, 8) σ h6 _ c hp
  rw [if_neg e] at hp
  rw [uno_nb, vb_some]
  by_cases hok : 0 ≤ n ∧ n ≤ 32
  rotate_left
  · rw [if_pos hok] at hp
    rw [decide_eq_false hok, Bool.not_false, br_true]
    exact hR (0, 0, 24) σ h6 _ c hp
  rw [if_neg (by simpa using hok)] at hp
  rw [decide_eq_true hok, Bool.not_true, br_false]
  refine item_ cs c hr ⟨by omega, by omega⟩ hp fun x b' σ h7 hx c hp => ?_
  have hxl := hx.le
  refine get_ cs c ⟨by omega, by omega⟩ hp fun pr σ h8 _ c hp => ?_
  refine get_ cs c ⟨by omega, by omega⟩ hp fun v σ h9 _ c hp => ?_
  refine hw_b c ?_
  dsimp only at hp
  cases b' with
  | true =>
    rw [if_pos rfl] at hp
    rw [br_true]
    exact hR (0, 0, 24) σ h9 _ c hp
  | false =>
    rw [if_neg (by simp)] at hp
    rw [br_false]
    exact hR (pr, v, 0) σ h9 _ c hp
theorem ext04 {x y z w : Value} {k : Value → Prop} (hk : k x) : Vb (ext 0 (.tuple #[x, y, z, w])) k := En.vb rfl hk
theorem ext14 {x y z w : Value} {k : Value → Prop} (hk : k y) : Vb (ext 1 (.tuple #[x, y, z, w])) k := En.vb rfl hk
theorem ext24 {x y z w : Value} {k : Value → Prop} (hk : k z) : Vb (ext 2 (.tuple #[x, y, z, w])) k := En.vb rfl hk
theorem ext34 {x y z w : Value} {k : Value → Prop} (hk : k w) : Vb (ext 3 (.tuple #[x, y, z, w])) k := En.vb rfl hk
theorem K_hLow (cs : CsY0 S I) (hr : Rtl root) (hx : R64 x) : ∀ h0 F σ R Q, Cx F h0 h0 [rSpace s σ] → wp (hLow p root x pr) σ Q → (∀ a σ' h' M, Cx F h0 h' (rSpace s σ' :: M) → Q a σ' → R (uI a) h') → F_heap_Heap_Lower S I (vHe p root) s (.int .i64 x) (.int .i64 pr) h0 R := by
  intro h0 F σ R Q c hp hR
  obtain ⟨sp, rfl⟩ := c.ptr (i := 0) rfl
  unfold F_heap_Heap_Lower
  unfold hLow at hp
  refine c.nw EHe (p, root) rfl fun rh h1 c => ?_
  refine c.nw EI1 0 rfl fun re h3 c => ?_
  rw [show lda 4 (at0 rh) h3 = some (vHe p root) from (c.va (i := 1) rfl).whole rfl, vb_some, bldH, vb_some]
  refine c.nw EHw (p, root, sp, false) rfl fun rw_ h4 c => ?_
  refine c.doesE cs.mark Ens.mk 0 rfl hp fun m σ h5 hm c hp => ?_
  have c : Cx F h0 h5 (HL sp rw_ p root σ false [rVar EI1 re 0, rVar EHe rh (p, root)]) := c.pick [0, 3, 2, 1]
  unfold hLowB at hp
  rw [pb_assoc] at hp
  have fin : ∀ (e e0 : Int) (b : Bool) (σ : Spc) (h' : Hp), Cx F h0 h' (HL sp rw_ p root σ b [rVar EI1 re e0, rVar EHe rh (p, root)]) → wp (hEnd m e b) σ Q →
      Sb (sto 1 (at0 re) (.int .i64 e) h') fun h8 => S.D I.f_heap_work_end [at0 rw_, .int .i64 m, at0 re] h8 fun h9 => Vb (ldc (at0 re) h9) fun r0 => R r0 h9 := by
    intro e e0 b σ h' c hp
    refine c.sto1 2 rfl e rfl rfl fun h8 c => ?_
    have c : Cx F h0 h8 (HL sp rw_ p root σ b (rVar EI1 re e :: [rVar EHe rh (p, root)])) := c
    refine end_ cs c (q := fun e => (pure e : Prog Int)) (by rw [Prog.wp_bind]; exact hp) fun e' σ' h9 c hq => ?_
    rw [(c.va (i := 2) rfl).one rfl, vb_some]
    exact hR e' σ' h9 _ c hq
  refine find_ cs c rfl hr hx hp fun a i n e b' σ h6 hf c hp => ?_
  refine ext04 (ext14 (ext24 (ext34 ?_)))
  refine c.sto1 2 rfl e rfl rfl fun h7 c => ?_
  rw [(c.va (i := 2) rfl).one rfl, vb_some, bin_neq, vb_some]
  dsimp only at hp
  refine brd (fun e1 => ?_) fun e1 => ?_
  · rw [if_pos e1] at hp
    rw [vb_some]
    exact fin e _ _ σ h7 c hp
  rw [if_neg e1, pb_assoc] at hp
  obtain ⟨hnd, i1, i2, n32⟩ := hf (Classical.not_not.1 e1)
  have hal := node_l hnd
  refine get_ cs c ⟨by omega, by omega⟩ hp fun u σ h8 hu c hp => ?_
  rw [bin_gtr, vb_some]
  refine brd (fun e2 => ?_) fun e2 => ?_
  · rw [if_pos e2] at hp
    exact fin 4 _ _ σ h8 c hp
  rw [if_neg e2, pb_assoc] at hp
  refine put_ cs c ⟨by omega, by omega⟩ hp fun σ h9 c hp => ?_
  rw [pb_assoc] at hp
  refine rise_ cs c hr ⟨i1, by omega⟩ ⟨by omega, by omega⟩ hp fun i' b2 σ h10 _ _ c hp => ?_
  exact fin 0 _ _ σ h10 c hp
theorem K_hDrop (cs : CsY0 S I) (hr : Rtl root) (hx : R64 x) : ∀ h0 F σ R Q, Cx F h0 h0 [rSpace s σ] → wp (hDrop p root x) σ Q → (∀ a σ' h' M, Cx F h0 h' (rSpace s σ' :: M) → Q a σ' → R (uE a) h') → F_heap_Heap_Drop S I (vHe p root) s (.int .i64 x) h0 R := by
  intro h0 F σ R Q c hp hR
  obtain ⟨sp, rfl⟩ := c.ptr (i := 0) rfl
  unfold F_heap_Heap_Drop
  unfold hDrop at hp
  refine c.nw EHe (p, root) rfl fun rh h1 c => ?_
  refine c.nw EI1 0 rfl fun re h3 c => ?_
  rw [show lda 4 (at0 rh) h3 = some (vHe p root) from (c.va (i := 1) rfl).whole rfl, vb_some, bldH, vb_some]
  refine c.nw EHw (p, root, sp, false) rfl fun rw_ h4 c => ?_
  refine c.doesE cs.mark Ens.mk 0 rfl hp fun m σ h5 hm c hp => ?_
  have c : Cx F h0 h5 (HL sp rw_ p root σ false [rVar EI1 re 0, rVar EHe rh (p, root)]) := c.pick [0, 3, 2, 1]
  unfold hDropB at hp
  rw [pb_assoc] at hp
  have fin : ∀ (x e e0 : Int) (b : Bool) (σ : Spc) (h' : Hp), Cx F h0 h' (HL sp rw_ p root σ b [rVar EI1 re e0, rVar EHe rh (p, root)]) → wp (hEnd m e b >>= fun e => (pure (x, e) : Prog (Int × Int))) σ Q →
      Sb (sto 1 (at0 re) (.int .i64 e) h') fun h8 => S.D I.f_heap_work_end [at0 rw_, .int .i64 m, at0 re] h8 fun h9 => Vb (ldc (at0 re) h9) fun r1 => R (.tuple #[.int .i64 x, r1]) h9 := by
    intro x e e0 b σ h' c hp
    refine c.sto1 2 rfl e rfl rfl fun h8 c => ?_
    have c : Cx F h0 h8 (HL sp rw_ p root σ b (rVar EI1 re e :: [rVar EHe rh (p, root)])) := c
    refine end_ cs c hp fun e' σ' h9 c hq => ?_
    rw [(c.va (i := 2) rfl).one rfl, vb_some]
    exact hR (x, e') σ' h9 _ c hq
  refine find_ cs c rfl hr hx hp fun a i n e b' σ h6 hf c hp => ?_
  refine ext04 (ext14 (ext24 (ext34 ?_)))
  refine c.sto1 2 rfl e rfl rfl fun h7 c => ?_
  rw [(c.va (i := 2) rfl).one rfl, vb_some, bin_neq, vb_some]
  dsimp only at hp
  refine brd (fun e1 => ?_) fun e1 => ?_
  · rw [if_pos e1] at hp
    rw [vb_some]
    exact fin 0 e _ _ σ h7 c hp
  rw [if_neg e1, pb_assoc] at hp
  obtain ⟨hnd, i1, i2, n32⟩ := hf (Classical.not_not.1 e1)
  refine rem_ cs c hr ⟨i1, i2⟩ n32 hp fun pr v e2 b2 σ h8 c hp => ?_
  unfold uR3
  refine ext0r (ext1r (ext2r ?_))
  refine c.sto1 2 rfl e2 rfl rfl fun h9 c => ?_
  rw [(c.va (i := 2) rfl).one rfl, vb_some]
  exact fin v e2 _ _ σ h9 c hp
theorem K_hLen (cs : CsY0 S I) (hr : Rtl root) : ∀ h0 F σ R Q, Cx F h0 h0 [rSpace s σ] → wp (gt (root + 0)) σ Q → (∀ a σ' h' M, Cx F h0 h' (rSpace s σ' :: M) → Q a σ' → R (uI a) h') → F_heap_Heap_Len S I (vHe p root) s h0 R := by
  intro h0 F σ R Q c hp hR
  unfold F_heap_Heap_Len
  refine c.nw EHe (p, root) rfl fun rh h1 c => ?_
  refine (c.va (i := 1) rfl).fld (j := 3) rfl ?_
  refine En.vb (addI (a := root) (b := 0) ⟨by omega, by omega⟩) ?_
  refine c.last cs.get 0 rfl hp fun a σ h1 c hq => ?_
  exact hR _ _ _ _ c hq
end
end Go.En
namespace Go.En
open Prog Spc Go.Sort

variable {S : Sys} {I : Ids} {h h0 h' : Hp} {F F0 : Fp} {R : Value → Hp → Prop} {L : List Res} {s : Value} {σ τ : Spc}
/-- a pointer to a block -/
def EPr : Enc (Option Addr) := { n := 1, c := fun a => [.pointer a], len := fun _ => rfl, one := fun a v h => by simp only [List.mem_singleton] at h; subst h; rfl }
structure CsY1 (S : Sys) (I : Ids) : Prop extends CsY0 S I where
  uwk1 : ∀ {a b c : Value} {h R}, F_heap_Heap_Walk_1 S I a b c h R → S.C I.f_heap_Heap_Walk_1 [a, b, c] h R
  sortC : ∀ {α : Type} {Z : α → Res} {v fn : Value} {N : Int → Prop} {lt : Int → Int → Bool} {x : α} {d : List Int} {F h0 h R}, CmpOK S Z fn N lt → d.length ≤ 32 → (∀ y ∈ d, N y) → Cx F h0 h [rSl EI1 v d, Z x] → (∀ x' C h', C.Perm d → Srt lt C → Cx F h0 h' [rSl EI1 v C, Z x'] → R (.tuple #[]) h') → S.C I.f_slices_SortStableFunc_api_Loc_api_Loc [v, fn] h R
/-- spaces whose nodes' words are known -/
def Jm (p : Pl) (m : Int → Int) (J : Spc → Prop) : Prop := ∀ σ x i, J σ → (p.node x).isSome = true → 0 ≤ i → i ≤ 7 → Prog.wp (gt (x + i)) σ fun v σ' => v = m (x + i) ∧ J σ'
section
variable {sp r : Nat} {p : Pl} {root a cell v i x n : Int} {b : Bool} {β : Type} {Q : β → Spc → Prop} {J : Spc → Prop} {m : Int → Int}
theorem hGet_J (hJ : Jm p m J) (hs : J σ) (hx : (p.node x).isSome = true) (hi : 0 ≤ i ∧ i ≤ 7) {q : Int → Prog β} (hk : ∀ σ', J σ' → Prog.wp (q (m (x + i))) σ' Q) : Prog.wp (hGet x i >>= q) σ Q := by
  have := node_l hx
  unfold hGet
  rw [if_neg (by omega), Prog.wp_bind]
  exact Prog.wp_mono (hJ σ x i hs hx hi.1 hi.2) fun v σ' ⟨e, h⟩ => by subst e; exact hk σ' h
theorem getJ (cs : CsY0 S I) (hJ : Jm p m J) (c : Cx F0 h0 h (HL sp r p root σ b L)) (hs : J σ) (hx : (p.node x).isSome = true) (hi : 0 ≤ cell ∧ cell ≤ 7) (hk : ∀ σ' h', J σ' → Cx F0 h0 h' (HL sp r p root σ' b L) → R (.int .i64 (m (x + cell))) h') :
    S.C I.f_heap_work_get [at0 r, .int .i64 x, .int .i64 cell] h R := by
  have := node_l hx
  refine get_ cs c ⟨by omega, by omega⟩ (q := fun v => (pure v : Prog Int)) (Q := fun v σ' => v = m (x + cell) ∧ J σ') (hGet_J hJ hs hx hi fun σ' h => ⟨rfl, h⟩) fun v σ' h' _ c ⟨e, h⟩ => ?_
  subst e
  exact hk σ' h' h c
theorem keyJ (cs : CsY0 S I) (hJ : Jm p m J) (c : Cx F0 h0 h (HL sp r p root σ b L)) (hs : J σ) (hx : (p.node x).isSome = true) (hk : ∀ σ' h', J σ' → Cx F0 h0 h' (HL sp r p root σ' b L) → R (mK (kyM m x)) h') :
    S.C I.f_heap_work_key [at0 r, .int .i64 x] h R := by
  have := node_l hx
  refine key_ cs c ⟨by omega, by omega⟩ (q := fun v => (pure v : Prog (Int × Int))) (Q := fun k σ' => k = kyM m x ∧ J σ') ?_ fun k σ' h' c ⟨e, h⟩ => ?_
  · unfold hKey
    simp only [pb_assoc, pb_pure]
    refine hGet_J hJ hs hx ⟨by omega, by omega⟩ fun σ1 h1 => ?_
    refine hGet_J hJ h1 hx ⟨by omega, by omega⟩ fun σ2 h2 => ?_
    rw [Int.add_zero]
    exact ⟨rfl, h2⟩
  · subst e
    exact hk σ' h' h c
/-- the space, an operation's state and the pointer to it, for a function that compares -/
def rCmp (sp r rv : Nat) (p : Pl) (root : Int) (J : Spc → Prop) (L : List Res) (σ : Spc) : Res := rIf (J σ) (rStar (HL sp r p root σ false (rVar EPr rv (some ⟨r, 0, none⟩) :: L)))
set_option maxHeartbeats 3200000 in
theorem cmp_ok {rv : Nat} (cs : CsY1 S I) (hJ : Jm p m J) : CmpOK S (rCmp sp r rv p root J L) (.func (.func I.f_heap_Heap_Walk_1) #[] #[at0 rv]) (fun x => (p.node x).isSome = true) (nlt m) := by
  refine ⟨nlt_swo m, fun {σ a b h F R} na nb pa hk => .inl ⟨_, _, _, rfl, cs.uwk1 ?_⟩⟩
  obtain ⟨hs, pa⟩ := pa
  have c := Cx.star pa
  clear pa
  have fin : ∀ σ' z h', J σ' → Cx F h h' (HL sp r p root σ' false (rVar EPr rv (some ⟨r, 0, none⟩) :: L)) → (z < 0 ↔ nlt m a b = true) → R (.int .i64 z) h' := fun σ' z h' hs c hz => by
    obtain ⟨F', a', mv⟩ := c.unstar
    exact hk σ' z h' F' ⟨hs, a'⟩ mv hz
  clear hk
  unfold F_heap_Heap_Walk_1
  refine Jn2.at (fun x y h' => ∃ rx ry σ' L1, x = at0 rx ∧ y = at0 ry ∧ J σ' ∧ Va EPt h' rx (kyM m a) ∧ Va EPt h' ry (kyM m b) ∧ Cx F h h' (HL sp r p root σ' false (rVar EPr rv (some ⟨r, 0, none⟩) :: L) ++ L1)) ?_ ?_
  · rw [(c.va (i := 2) rfl).one rfl, vb_some, vb_some]
    have c := Cx.pack (L := [rSpace (at0 sp) σ, rH r p root sp false, rVar EPr rv (some ⟨r, 0, none⟩)]) (M := L) c
    have leaf : ∀ (σ : Spc) (h' : Hp) (rx ry : Nat), J σ → (Cx F h h' [rSpace (at0 sp) σ, rH r p root sp false, rVar EPr rv (some ⟨r, 0, none⟩), rStar L, rVar EPt rx (0, 0), rVar EPt ry (0, 0)] ∨ Cx F h h' [rSpace (at0 sp) σ, rH r p root sp false, rVar EPr rv (some ⟨r, 0, none⟩), rStar L, rVar EPt ry (0, 0), rVar EPt rx (0, 0)]) →
        Sb (sto 2 (at0 rx) (mK (kyM m a)) h') fun h1 => Sb (sto 2 (at0 ry) (mK (kyM m b)) h1) fun h2 => ∃ rx' ry' σ' L1, at0 rx = at0 rx' ∧ at0 ry = at0 ry' ∧ J σ' ∧ Va EPt h2 rx' (kyM m a) ∧ Va EPt h2 ry' (kyM m b) ∧ Cx F h h2 (HL sp r p root σ' false (rVar EPr rv (some ⟨r, 0, none⟩) :: L) ++ L1) := by
      intro σ h' rx ry hs hc
      rcases hc with c | c
      · refine c.sto 4 rfl (kyM m a) rfl rfl fun h1 c => ?_
        refine c.sto 5 rfl (kyM m b) rfl rfl fun h2 c => ?_
        refine ⟨rx, ry, σ, [], rfl, rfl, hs, c.va (i := 4) rfl, c.va (i := 5) rfl, ?_⟩
        rw [List.append_nil]
        exact Cx.unpack (L := [rSpace (at0 sp) σ, rH r p root sp false, rVar EPr rv (some ⟨r, 0, none⟩)]) (M := L) (c.pick [0, 1, 2, 3])
      · refine c.sto 5 rfl (kyM m a) rfl rfl fun h1 c => ?_
        refine c.sto 4 rfl (kyM m b) rfl rfl fun h2 c => ?_
        refine ⟨rx, ry, σ, [], rfl, rfl, hs, c.va (i := 5) rfl, c.va (i := 4) rfl, ?_⟩
        rw [List.append_nil]
        exact Cx.unpack (L := [rSpace (at0 sp) σ, rH r p root sp false, rVar EPr rv (some ⟨r, 0, none⟩)]) (M := L) (c.pick [0, 1, 2, 3])
    clear fin
    repeat' first
      | refine ⟨(c.va (i := 2) rfl).one rfl, ?_⟩
      | refine keyJ cs.toCsY0 hJ c hs na fun σ h1 hs c => ?_
      | refine keyJ cs.toCsY0 hJ c hs nb fun σ h1 hs c => ?_
      | refine c.nw EPt (0, 0) rfl fun rk h1 c => ?_
      | exact leaf _ _ _ _ hs (.inl c)
      | exact leaf _ _ _ _ hs (.inr c)
      | refine ⟨?_, ?_⟩
  clear c
  rintro x y h1 ⟨rx, ry, σ', L1, rfl, rfl, hs, vx, vy, c⟩
  have c := c.drop
  rw [show lda 2 (at0 rx) h1 = some (mK (kyM m a)) from vx.whole rfl, vb_some, show lda 2 (at0 ry) h1 = some (mK (kyM m b)) from vy.whole rfl, vb_some]
  refine K_ahead cs.toCsY0 _ _ h1 _ fun h2 g => ?_
  have c := c.more g
  cases hl : klt (kyM m a) (kyM m b) with
  | true =>
    rw [br_true]
    exact fin σ' _ h2 hs c ⟨fun _ => hl, fun _ => by decide⟩
  | false =>
    rw [br_false]
    have vx := vx.gr g
    have vy := vy.gr g
    rw [show lda 2 (at0 rx) h2 = some (mK (kyM m a)) from vx.whole rfl, vb_some, show lda 2 (at0 ry) h2 = some (mK (kyM m b)) from vy.whole rfl, vb_some, eqA_K]
    refine En.vb (v := .bool (decide (kyM m a = kyM m b))) rfl ?_
    refine brd (fun _ => ?_) fun _ => ?_
    · exact fin σ' _ h2 hs c ⟨fun h => by omega, fun h => (Bool.false_ne_true (hl.symm.trans h)).elim⟩
    · exact fin σ' _ h2 hs c ⟨fun h => by omega, fun h => (Bool.false_ne_true (hl.symm.trans h)).elim⟩
/-- the items, by place -/
def hWalkP (p : Pl) (root : Int) : Prog (Option (List Int)) := gt (root + 0) >>= fun n => if ¬ (0 ≤ n ∧ n ≤ 32) then pure none else hAllL p root n n.toNat false 1 [] >>= fun r => pure (if r.2 = true then none else some r.1)
set_option maxHeartbeats 1600000 in
theorem K_hWalk {Qo : Option (List Int) → Prop} (cs : CsY1 S I) (hr : Rtl root) (hJ : Jm p m J) (c : Cx F h0 h [rSpace s σ]) (hp : Prog.wp (hWalkP p root) σ fun o σ' => J σ' ∧ (∀ l, o = some l → ∀ x ∈ l, (p.node x).isSome = true) ∧ Qo o)
    (hR : ∀ o C σ' v h' M, J σ' → Qo o → (o = none → C = []) → (∀ l, o = some l → C.Perm l ∧ Srt (nlt m) C) → Cx F h0 h' (rSpace s σ' :: rSl EPt v (C.map fun x => (m (x + 0), m (x + 1))) :: M) → R (.tuple #[v, .int .i64 (if o.isSome then 0 else 24)]) h') : F_heap_Heap_Walk S I (vHe p root) s h R := by
  obtain ⟨sp, rfl⟩ := c.ptr (i := 0) rfl
  unfold F_heap_Heap_Walk
  unfold hWalkP at hp
  refine c.nw EHe (p, root) rfl fun rh h1 c => ?_
  rw [show lda 4 (at0 rh) h1 = some (vHe p root) from (c.va (i := 1) rfl).whole rfl, vb_some, bldH, vb_some]
  refine c.nw EHw (p, root, sp, false) rfl fun rw_ h2 c => ?_
  refine c.nw EPr none rfl fun rv h3 c => ?_
  refine c.sto1 3 rfl (some ⟨rw_, 0, none⟩) rfl rfl fun h4 c => ?_
  have c : Cx F h0 h4 (HL sp rw_ p root σ false [rVar EPr rv (some ⟨rw_, 0, none⟩), rVar EHe rh (p, root)]) := c.pick [0, 2, 3, 1]
  rw [(c.va (i := 2) rfl).one rfl, vb_some]
  refine many_ cs.toCsY0 c hr hp fun n σ h5 hn c hp => ?_
  refine ext0t (ext1t ?_)
  rw [uno_nb, vb_some]
  by_cases hok : 0 ≤ n ∧ n ≤ 32
  rotate_left
  · rw [if_pos hok] at hp
    rw [decide_eq_false hok, Bool.not_false, br_true]
    have c := c.nil EPt
    exact hR none [] σ _ h5 _ hp.1 hp.2.2 (fun _ => rfl) (fun l e => by cases e) (c.pick [0, 4])
  rw [if_neg (by simpa using hok)] at hp
  rw [decide_eq_true hok, Bool.not_true, br_false]
  have c := c.nil EI1
  refine Lp2.by (fun (z : Nat × Bool × Spc × List Int) u w h' => w = .int .i64 ((z.2.2.2.length : Int) + 1) ∧ z.2.2.2.length + z.1 = n.toNat ∧ Prog.wp (hAllL p root n z.1 z.2.1 ((z.2.2.2.length : Int) + 1) z.2.2.2 >>= fun r => (pure (if r.2 = true then none else some r.1) : Prog (Option (List Int)))) z.2.2.1 (fun o σ' => J σ' ∧ (∀ l, o = some l → ∀ x ∈ l, (p.node x).isSome = true) ∧ Qo o) ∧
    Cx F h0 h' (HL sp rw_ p root z.2.2.1 z.2.1 [rVar EPr rv (some ⟨rw_, 0, none⟩), rVar EHe rh (p, root), rSl EI1 u z.2.2.2])) (fun z => z.1) (n.toNat, false, σ, []) ⟨rfl, by simp, by simpa using hp, c⟩ ?_
  clear c hp
  rintro ⟨f, b, σ, acc⟩ u w h6 ⟨rfl, hl, hp, c⟩ again hagain
  dsimp only at *
  refine Jn1.at (fun w h' => w = .bool (decide ((acc.length : Int) + 1 ≤ n ∧ b = false)) ∧ h' = h6) ?_ ?_
  · rw [bin_leq, vb_some]
    refine brd (fun e => ?_) fun e => ?_
    · rw [(c.va (i := 2) rfl).one rfl, vb_some]
      refine hw_b c ?_
      rw [uno_nb, vb_some]
      refine ⟨?_, rfl⟩
      cases b <;> simp [e]
    · exact ⟨by rw [decide_eq_false fun h => e h.1], rfl⟩
  rintro w h7 ⟨rfl, rfl⟩
  refine brd (fun e => ?_) fun e => ?_
  · obtain ⟨f, rfl⟩ : ∃ f', f = f' + 1 := ⟨f - 1, by omega⟩
    unfold hAllL at hp
    rw [if_pos e, pb_assoc] at hp
    rw [(c.va (i := 2) rfl).one rfl, vb_some]
    refine item_ cs.toCsY0 c hr ⟨by omega, by omega⟩ hp fun x b' σ h8 hx c hp => ?_
    have hxl := hx.le
    refine c.app1 4 rfl x rfl rfl rfl (by omega) (by omega) fun w h9 c => ?_
    rw [addI ⟨by omega, by omega⟩, vb_some]
    refine hagain (f, b', σ, acc ++ [x]) _ _ _ ⟨by dsimp only; rw [List.length_append, List.length_singleton]; rfl, by dsimp only; rw [List.length_append, List.length_singleton]; omega, ?_, c⟩ (by dsimp only; omega)
    dsimp only at hp ⊢
    rw [List.length_append, List.length_singleton]
    exact hp
  · have hp : Prog.wp (pure (if b = true then none else some acc) : Prog (Option (List Int))) σ fun o σ' => J σ' ∧ (∀ l, o = some l → ∀ x ∈ l, (p.node x).isSome = true) ∧ Qo o := by
      cases f with
      | zero => unfold hAllL at hp; exact hp
      | succ f => unfold hAllL at hp; rw [if_neg e] at hp; exact hp
    have hp : J σ ∧ (∀ l, (if b = true then none else some acc) = some l → ∀ x ∈ l, (p.node x).isSome = true) ∧ Qo (if b = true then none else some acc) := hp
    rw [(c.va (i := 2) rfl).one rfl, vb_some]
    refine hw_b c ?_
    cases b with
    | true =>
      rw [br_true]
      have c := c.nil EPt
      exact hR none [] σ _ _ _ hp.1 hp.2.2 (fun _ => rfl) (fun l e => by cases e) (c.pick [0, 5])
    | false =>
      rw [br_false, vb_some]
      obtain ⟨hs, hnd, hq⟩ := hp
      have hnd := hnd acc rfl
      have c : Cx F h0 h7 [rSl EI1 u acc, rCmp sp rw_ rv p root J [rVar EHe rh (p, root)] σ] := by
        have c2 := Cx.pack (L := [rSl EI1 u acc]) (M := HL sp rw_ p root σ false [rVar EPr rv (some ⟨rw_, 0, none⟩), rVar EHe rh (p, root)]) (c.pick [4, 0, 1, 2, 3])
        exact c2.conv (i := 1) rfl fun F' a => ⟨hs, a⟩
      refine cs.sortC (cmp_ok cs hJ) (by omega) hnd c fun σ C h8 hC hS c => ?_
      have hs : J σ := by obtain ⟨_, a⟩ := c.get (i := 1) rfl; exact a.1
      have c : Cx F h0 h8 (HL sp rw_ p root σ false [rVar EPr rv (some ⟨rw_, 0, none⟩), rVar EHe rh (p, root), rSl EI1 u C]) := by
        have c2 : Cx F h0 h8 [rSl EI1 u C, rStar (HL sp rw_ p root σ false [rVar EPr rv (some ⟨rw_, 0, none⟩), rVar EHe rh (p, root)])] := c.conv (i := 1) rfl fun F' a => a.2
        exact (Cx.unpack (L := [rSl EI1 u C]) (M := HL sp rw_ p root σ false [rVar EPr rv (some ⟨rw_, 0, none⟩), rVar EHe rh (p, root)]) c2).pick [1, 2, 3, 4, 0]
      have hCn : ∀ x ∈ C, (p.node x).isSome = true := fun x hx => hnd x (hC.mem_iff.1 hx)
      have hCl : C.length ≤ 32 := by rw [hC.length_eq]; omega
      rw [(c.sl (i := 4) rfl).sl.ln, vb_some]
      have c := c.nil EPt
      refine Lp2.by (fun (z : Nat × Spc) u2 w h' => w = .int .i64 z.1 ∧ z.1 ≤ C.length ∧ J z.2 ∧ Cx F h0 h' (HL sp rw_ p root z.2 false [rVar EPr rv (some ⟨rw_, 0, none⟩), rVar EHe rh (p, root), rSl EI1 u C, rSl EPt u2 ((C.take z.1).map fun x => (m (x + 0), m (x + 1)))])) (fun z => C.length - z.1) (0, σ) ⟨rfl, Nat.zero_le _, hs, c⟩ ?_
      clear c hs
      rintro ⟨q, σ⟩ u2 w h9 ⟨rfl, hq2, hs, c⟩ again2 hagain2
      dsimp only at *
      rw [bin_lss, vb_some]
      refine brd (fun e2 => ?_) fun e2 => ?_
      · have hlt : q < C.length := by omega
        have hx : C[q]? = some C[q] := List.getElem?_eq_getElem hlt
        have hxn := hCn _ (List.getElem_mem hlt)
        have ht := take_s hlt
        generalize C[q] = x at *
        refine (c.sl (i := 4) rfl).sl.one rfl hx rfl rfl ?_
        rw [(c.va (i := 2) rfl).one rfl, vb_some, vb_some]
        refine getJ cs.toCsY0 hJ c hs hxn ⟨by decide, by decide⟩ fun σ h10 hs c => ?_
        refine ⟨(c.va (i := 2) rfl).one rfl, ?_⟩
        refine getJ cs.toCsY0 hJ c hs hxn ⟨by decide, by decide⟩ fun σ h11 hs c => ?_
        rw [bldK, vb_some]
        refine c.app1 5 rfl (m (x + 0), m (x + 1)) rfl rfl rfl (by rw [List.length_map, List.length_take]; omega) (by rw [List.length_map, List.length_take]; omega) fun w h12 c => ?_
        rw [bin_add, vb_some, wrS (by omega)]
        refine hagain2 (q + 1, σ) _ _ _ ⟨rfl, by dsimp only; omega, hs, ?_⟩ (by dsimp only; omega)
        dsimp only
        rw [ht, List.map_append]
        exact c
      · have eq : q = C.length := by omega
        subst eq
        rw [List.take_length] at c
        exact hR (some acc) C σ _ _ _ hs hq (fun e => by cases e) (fun l e => by injection e with e; subst e; exact ⟨hC, hS⟩) (c.pick [0, 5])
end
end Go.En
