/-
  Layer 40: the graph's small functions.
  Layer 40: the graph's loops over its lists.
  Layer 40: the graph's operations.
  Layer 40: the graph's operations on edges and vertices.
-/
import Derived.Test.YtmpdclbiopalaaaXG
import Derived.Test.YtmpdclbiopalaaaXD
namespace Go.En
open Prog Spc Go.Sort

variable {S : Sys} {I : Ids} {h h0 h' : Hp} {F F0 : Fp} {R : Value → Hp → Prop} {L : List Res} {s : Value} {σ τ : Spc}

def EPtr : Enc (Option Addr) := { n := 1, c := fun a => [.pointer a], len := fun _ => rfl, one := fun a v h => by simp only [List.mem_singleton] at h; subst h; rfl }
theorem Cx.ptr {i : Nat} (c : Cx F0 h0 h L) (hi : L[i]? = some (rSpace s σ)) : ∃ p, s = at0 p := let ⟨_, x, hp, _⟩ := c.get hi; ⟨x.1, hp.1⟩
def EG : Enc (Pl × Int) := { n := 4, c := fun g => [.int .i64 g.1.root, .int .i64 g.1.frm, .int .i64 g.1.nodes, .int .i64 g.2], len := fun _ => rfl, one := fun a v h => by simp only [List.mem_cons, List.not_mem_nil, or_false] at h; rcases h with rfl | rfl | rfl | rfl <;> rfl }
def vG (p : Pl) (root : Int) : Value := .agg ⟨EG.c (p, root)⟩
def EL : Enc (Int × Int × Int) := { n := 3, c := fun l => [.int .i64 l.1, .int .i64 l.2.1, .int .i64 l.2.2], len := fun _ => rfl, one := fun a v h => by simp only [List.mem_cons, List.not_mem_nil, or_false] at h; rcases h with rfl | rfl | rfl <;> rfl }
def vL (hd nx pv : Int) : Value := .agg ⟨EL.c (hd, nx, pv)⟩
theorem addI {a b : Int} (h : R64 (a + b)) : bin .add (.int .i64 a) (.int .i64 b) = some (.int .i64 (a + b)) := by rw [bin_add, wr64 h]
theorem uno_nb (r : Bool) : uno .not (.bool r) = some (.bool !r) := rfl
theorem eqI (a : Int) : bin .eql (.int .i64 a) (.int .i64 a) = some (.bool true) := by rw [bin_eql]; simp
theorem neI (a : Int) : bin .neq (.int .i64 a) (.int .i64 a) = some (.bool false) := by rw [bin_neq]; simp
theorem gW {i r : Nat} {p : Pl} {root : Int} (c : Cx F0 h0 h L) (hi : L[i]? = some (rVar EG r (p, root))) : lda 4 (at0 r) h = some (vG p root) := (c.va hi).whole rfl
theorem gP {i r : Nat} {p : Pl} {root : Int} (c : Cx F0 h0 h L) (hi : L[i]? = some (rVar EG r (p, root))) {k : Value → Prop} (hk : k (vP p)) : Vb (fa 0 (at0 r)) fun v => Vb (lda 3 v h) k := by
  refine vb (fa_add _ _ _) (vb ?_ hk)
  have hr : Row EPl h r 0 p := fun j u hu => (c.va hi).row j u (by
    match j, hu with
    | 0, hu => exact hu
    | 1, hu => exact hu
    | 2, hu => exact hu
    | j + 3, hu => simp [EPl] at hu)
  exact hr.lda rfl
theorem gN {i r : Nat} {p : Pl} {root : Int} (c : Cx F0 h0 h L) (hi : L[i]? = some (rVar EG r (p, root))) {k : Value → Prop} (hk : k (.int .i64 p.nodes)) : Vb (fa 0 (at0 r)) fun v => Vb (fa 2 v) fun w => Vb (ldc w h) k := by
  refine vb (fa_add _ _ _) (vb (fa_add _ _ _) (vb ?_ hk))
  exact (c.va hi).row.ldc (j := 2) rfl
theorem lW {i r : Nat} {hd nx pv : Int} (c : Cx F0 h0 h L) (hi : L[i]? = some (rVar EL r (hd, nx, pv))) : lda 3 (at0 r) h = some (vL hd nx pv) := (c.va hi).whole rfl

section
variable {p : Pl} {root n a b hd nx pv : Int}
theorem K_gat : ∀ h R, Cx (fun _ => False) h h [] → (∀ h' M, Cx (fun _ => False) h h' M → R (.int .i64 (w64 (a + b))) h') → F_graph_at S I (.int .i64 a) (.int .i64 b) h R := by
  intro h R c hR
  unfold F_graph_at
  rw [bin_addw, vb_some]
  exact hR _ _ c
theorem K_gnode (hn : R64 n) (cs : CsQ S I) : ∀ h R, Cx (fun _ => False) h h [] → (∀ h' M, Cx (fun _ => False) h h' M → R (.bool (p.node n).isSome) h') → F_graph_Graph_node S I (vG p root) (.int .i64 n) h R := by
  intro h R c hR
  unfold F_graph_Graph_node
  refine c.nw EG (p, root) rfl fun r h1 c => ?_
  refine gP (i := 0) c rfl ?_
  refine c.pur (cs.node hn) fun h2 c => ?_
  unfold vN
  exact ext0t (ext1t (hR _ _ c))
theorem K_vmark (hr : 0 ≤ root ∧ root ≤ 4000) : ∀ h R, Cx (fun _ => False) h h [] → (∀ h' M, Cx (fun _ => False) h h' M → R (.int .i64 (gMk root)) h') → F_graph_Graph_vertexMark S I (vG p root) h R := by
  intro h R c hR
  unfold F_graph_Graph_vertexMark
  refine c.nw EG (p, root) rfl fun r h1 c => ?_
  refine (c.va (i := 0) rfl).fld (j := 3) rfl ?_
  refine vb (v := .int .i64 (2 * root)) (by rw [bin_mul, wr64 (by omega)]) ?_
  refine vb (v := .int .i64 (gMk root)) (by rw [bin_sub, wr64 (by omega)]; rfl) ?_
  exact hR _ _ c
theorem K_emark (hr : 0 ≤ root ∧ root ≤ 4000) : ∀ h R, Cx (fun _ => False) h h [] → (∀ h' M, Cx (fun _ => False) h h' M → R (.int .i64 (gEk root)) h') → F_graph_Graph_edgeMark S I (vG p root) h R := by
  intro h R c hR
  unfold F_graph_Graph_edgeMark
  refine c.nw EG (p, root) rfl fun r h1 c => ?_
  refine (c.va (i := 0) rfl).fld (j := 3) rfl ?_
  refine vb (v := .int .i64 (2 * root)) (by rw [bin_mul, wr64 (by omega)]) ?_
  refine vb (v := .int .i64 (gEk root)) (by rw [bin_sub, wr64 (by omega)]; rfl) ?_
  exact hR _ _ c
theorem bldL (hd nx pv : Int) : bldS [(0, 1), (1, 1), (2, 1)] #[Value.int IntKind.i64 0, Value.int IntKind.i64 0, Value.int IntKind.i64 0] [(0, .int .i64 hd), (1, .int .i64 nx), (2, .int .i64 pv)] = some (vL hd nx pv) := by kernel_rfl
theorem K_all (hr : 0 ≤ root ∧ root ≤ 4000) : ∀ h R, Cx (fun _ => False) h h [] → (∀ h' M, Cx (fun _ => False) h h' M → R (vL root 2 3) h') → F_graph_Graph_all S I (vG p root) h R := by
  intro h R c hR
  unfold F_graph_Graph_all
  refine c.nw EG (p, root) rfl fun r h1 c => ?_
  refine c.nw EL (0, 0, 0) rfl fun r2 h2 c => ?_
  refine (c.va (i := 0) rfl).fld (j := 3) rfl ?_
  refine vb (addI (by show R64 (root + 0); exact ⟨by omega, by omega⟩)) ?_
  rw [show ((p, root) : Pl × Int).2 + 0 = root from Int.add_zero _, bldL, vb_some]
  refine c.sto 1 rfl (root, 2, 3) rfl rfl fun h3 c => ?_
  rw [lW (i := 1) c rfl, vb_some]
  exact hR _ _ c
theorem K_out : ∀ h R, Cx (fun _ => False) h h [] → (∀ h' M, Cx (fun _ => False) h h' M → R (vL (w64 (n + 4)) 4 5) h') → F_graph_Graph_out S I (vG p root) (.int .i64 n) h R := by
  intro h R c hR
  unfold F_graph_Graph_out
  refine c.nw EG (p, root) rfl fun r h1 c => ?_
  refine c.nw EL (0, 0, 0) rfl fun r2 h2 c => ?_
  rw [bin_addw, vb_some, bldL, vb_some]
  refine c.sto 1 rfl (w64 (n + 4), 4, 5) rfl rfl fun h3 c => ?_
  rw [lW (i := 1) c rfl, vb_some]
  exact hR _ _ c
theorem K_in : ∀ h R, Cx (fun _ => False) h h [] → (∀ h' M, Cx (fun _ => False) h h' M → R (vL (w64 (n + 5)) 6 7) h') → F_graph_Graph_in S I (vG p root) (.int .i64 n) h R := by
  intro h R c hR
  unfold F_graph_Graph_in
  refine c.nw EG (p, root) rfl fun r h1 c => ?_
  refine c.nw EL (0, 0, 0) rfl fun r2 h2 c => ?_
  rw [bin_addw, vb_some, bldL, vb_some]
  refine c.sto 1 rfl (w64 (n + 5), 6, 7) rfl rfl fun h3 c => ?_
  rw [lW (i := 1) c rfl, vb_some]
  exact hR _ _ c
theorem K_gmore (cs : CsT S I) : ∀ h0 F σ R Q, Cx F h0 h0 [rSpace s σ] → wp (dMore a n) σ Q → (∀ a σ' h' M, Cx F h0 h' (rSpace s σ' :: M) → Q a σ' → R (uU a) h') → F_graph_more S I s (.int .i64 a) (.int .i64 n) h0 R := by
  intro h0 F σ R Q c hp hR
  unfold F_graph_more
  unfold dMore at hp
  refine c.does cs.get 0 rfl hp fun v σ h1 c hp => ?_
  unfold uI
  rw [bin_addw, vb_some]
  refine c.last cs.put 0 rfl hp fun _ σ h2 c hq => ?_
  exact hR _ _ _ [] c hq
theorem K_gundo (cs : CsT S I) {r : Nat} {e m : Int} {R : Hp → Prop} (a : (rSpace s σ).P h F) (hv : Va EI1 h r e) (hR : ∀ h' F', (rSpace s (if e ≠ 0 then σ.back m else σ)).P h' F' → Mv F h F' h' → R h') :
    F_graph_undo S I s (.int .i64 m) (at0 r) h fun _ h => R h := by
  unfold F_graph_undo
  refine nckb ?_
  rw [hv.one rfl]
  simp only [go_sem]
  refine brd (fun h1 => ?_) fun h1 => ?_
  · rw [if_pos h1] at hR
    have c := Cx.start a
    exact c.last cs.back 0 rfl (Q := fun _ σ' => σ' = σ.back m) rfl fun _ σ' h' c e => let ⟨F', a', m⟩ := c.fin; hR _ _ (e ▸ a') m
  · rw [if_neg h1] at hR
    exact hR _ _ a (.refl _ _)
end
structure CsK0 (S : Sys) (I : Ids) : Prop extends CsT S I where
  gat : ∀ {a b : Int}, Pur S I.f_graph_at [.int .i64 a, .int .i64 b] (.int .i64 (w64 (a + b)))
  gnode : ∀ {p : Pl} {root n : Int}, R64 n → Pur S I.f_graph_Graph_node [vG p root, .int .i64 n] (.bool (p.node n).isSome)
  vmark : ∀ {p : Pl} {root : Int}, 0 ≤ root ∧ root ≤ 4000 → Pur S I.f_graph_Graph_vertexMark [vG p root] (.int .i64 (gMk root))
  emark : ∀ {p : Pl} {root : Int}, 0 ≤ root ∧ root ≤ 4000 → Pur S I.f_graph_Graph_edgeMark [vG p root] (.int .i64 (gEk root))
  all : ∀ {p : Pl} {root : Int}, 0 ≤ root ∧ root ≤ 4000 → Pur S I.f_graph_Graph_all [vG p root] (vL root 2 3)
  out : ∀ {p : Pl} {root n : Int}, Pur S I.f_graph_Graph_out [vG p root, .int .i64 n] (vL (w64 (n + 4)) 4 5)
  in' : ∀ {p : Pl} {root n : Int}, Pur S I.f_graph_Graph_in [vG p root, .int .i64 n] (vL (w64 (n + 5)) 6 7)
  gmore : ∀ {a n : Int} {s}, Does S I.f_graph_more [s, .int .i64 a, .int .i64 n] s (dMore a n) uU
  gundo : ∀ {s h F σ r} {e m : Int} {R : Hp → Prop}, (rSpace s σ).P h F → Va EI1 h r e → (∀ h' F', (rSpace s (if e ≠ 0 then σ.back m else σ)).P h' F' → Mv F h F' h' → R h') → S.D I.f_graph_undo [s, .int .i64 m, at0 r] h R
theorem Cx.gundo {β : Type} {r : Nat} {e m : Int} {R : Hp → Prop} {q : Unit → Prog β} {Q : β → Spc → Prop} (cs : CsK0 S I) (c : Cx F0 h0 h L) (i : Nat) (hi : L[i]? = some (rSpace s σ)) (j : Nat) (hj : L[j]? = some (rVar EI1 r e))
    (hp : wp (dUn e m >>= q) σ Q) (k : ∀ σ' h', Cx F0 h0 h' (L.set i (rSpace s σ')) → wp (q ()) σ' Q → R h') : S.D I.f_graph_undo [s, .int .i64 m, at0 r] h R := by
  obtain ⟨F, a, up⟩ := c.upd hi
  refine cs.gundo a (c.va hj) fun h' F' a' mv => k _ _ (up a' mv) ?_
  rw [Prog.wp_bind] at hp
  unfold dUn at hp
  split at hp
  · rename_i he; rw [if_pos he]; exact hp
  · rename_i he; rw [if_neg he]; exact hp
theorem dUn0 (m m' : Int) : dUn 0 m = dUn 0 m' := rfl
section
variable {p : Pl} {root n a b hd nx pv : Int}
/-- a cell's location -/
theorem Cx.at' {K : Value → Hp → Prop} (cs : CsK0 S I) (c : Cx F0 h0 h L) (hr : R64 (a + b)) (k : ∀ h', Cx F0 h0 h' L → K (.int .i64 (a + b)) h') : S.C I.f_graph_at [.int .i64 a, .int .i64 b] h K := by
  refine c.pur cs.gat fun h' c => ?_
  rw [w64_R hr]; exact k h' c
theorem K_vertex (cs : CsK0 S I) (hr : 0 ≤ root ∧ root ≤ 4000) (hn : R64 n) : ∀ h0 F σ R Q, Cx F h0 h0 [rSpace s σ] → wp (gIs p (gMk root) n) σ Q → (∀ a σ' h' M, Cx F h0 h' (rSpace s σ' :: M) → Q a σ' → R (uB a) h') → F_graph_Graph_vertex S I (vG p root) s (.int .i64 n) h0 R := by
  intro h0 F σ R Q c hp hR
  unfold F_graph_Graph_vertex
  unfold gIs at hp
  refine c.nw EG (p, root) rfl fun r h1 c => ?_
  refine .here ?_
  rw [gW (i := 1) c rfl, vb_some]
  refine c.pur (cs.gnode hn) fun h2 c => ?_
  cases hN : (p.node n).isSome with
  | false =>
    rw [hN, if_neg (by simp)] at hp
    rw [br_false]
    exact hR _ _ _ _ c hp
  | true =>
    have hrr := node_R5 hN
    rw [hN, if_pos rfl] at hp
    rw [br_true, gW (i := 1) c rfl, vb_some]
    refine c.at' cs (by rw [Int.add_zero]; exact hn) fun h3 c => ?_
    rw [Int.add_zero]
    refine ⟨gW (i := 1) c rfl, ?_⟩
    refine c.does cs.get 0 rfl hp fun v σ h4 c hp => ?_
    refine ⟨gW (i := 1) c rfl, ?_⟩
    refine c.pur (cs.vmark hr) fun h5 c => ?_
    unfold uI
    rw [bin_eql, vb_some]
    exact hR _ _ _ _ c hp
theorem K_edge (cs : CsK0 S I) (hr : 0 ≤ root ∧ root ≤ 4000) (hn : R64 n) : ∀ h0 F σ R Q, Cx F h0 h0 [rSpace s σ] → wp (gIs p (gEk root) n) σ Q → (∀ a σ' h' M, Cx F h0 h' (rSpace s σ' :: M) → Q a σ' → R (uB a) h') → F_graph_Graph_edge S I (vG p root) s (.int .i64 n) h0 R := by
  intro h0 F σ R Q c hp hR
  unfold F_graph_Graph_edge
  unfold gIs at hp
  refine c.nw EG (p, root) rfl fun r h1 c => ?_
  refine .here ?_
  rw [gW (i := 1) c rfl, vb_some]
  refine c.pur (cs.gnode hn) fun h2 c => ?_
  cases hN : (p.node n).isSome with
  | false =>
    rw [hN, if_neg (by simp)] at hp
    rw [br_false]
    exact hR _ _ _ _ c hp
  | true =>
    rw [hN, if_pos rfl] at hp
    rw [br_true, gW (i := 1) c rfl, vb_some]
    refine c.at' cs (by rw [Int.add_zero]; exact hn) fun h3 c => ?_
    rw [Int.add_zero]
    refine ⟨gW (i := 1) c rfl, ?_⟩
    refine c.does cs.get 0 rfl hp fun v σ h4 c hp => ?_
    refine ⟨gW (i := 1) c rfl, ?_⟩
    refine c.pur (cs.emark hr) fun h5 c => ?_
    unfold uI
    rw [bin_eql, vb_some]
    exact hR _ _ _ _ c hp
/-- links lie in a node -/
abbrev In7 (i : Int) : Prop := 0 ≤ i ∧ i ≤ 7
theorem K_link (cs : CsK0 S I) (hn : 1 ≤ n ∧ n ≤ 4088) (h1 : In7 nx) (h2 : In7 pv) : ∀ h0 F σ R Q, Cx F h0 h0 [rSpace s σ] → wp (gLnk p hd nx pv n) σ Q → (∀ a σ' h' M, Cx F h0 h' (rSpace s σ' :: M) → Q a σ' → R (uI a) h') → F_graph_Graph_link S I (vG p root) s (vL hd nx pv) (.int .i64 n) h0 R := by
  intro h0 F σ R Q c hp hR
  unfold F_graph_Graph_link
  unfold gLnk at hp
  refine c.nw EG (p, root) rfl fun rg h1 c => ?_
  refine c.nw EL (hd, nx, pv) rfl fun rl h2 c => ?_
  refine (c.va (i := 2) rfl).fld (j := 0) rfl ?_
  refine c.doesE cs.get (Ens.gt _) 0 rfl hp fun was σ h3 hw c hp => ?_
  refine (c.va (i := 2) rfl).fld (j := 1) rfl ?_
  refine c.at' cs ⟨by first | omega | (dsimp only; omega), by first | omega | (dsimp only; omega)⟩ fun h4 c => ?_
  unfold uI
  refine c.does cs.put 0 rfl hp fun _ σ h5 c hp => ?_
  refine (c.va (i := 2) rfl).fld (j := 2) rfl ?_
  refine c.at' cs ⟨by first | omega | (dsimp only; omega), by first | omega | (dsimp only; omega)⟩ fun h6 c => ?_
  refine c.does cs.put 0 rfl hp fun _ σ h7 c hp => ?_
  refine (c.va (i := 2) rfl).fld (j := 0) rfl ?_
  refine c.does cs.put 0 rfl hp fun _ σ h8 c hp => ?_
  rw [bin_eql, vb_some]
  refine brd (fun h9 => ?_) fun h9 => ?_
  · rw [if_pos h9] at hp
    exact hR _ _ _ _ c hp
  rw [if_neg h9] at hp
  rw [gW (i := 1) c rfl, vb_some]
  refine c.pur (cs.gnode hw) fun h10 c => ?_
  rw [uno_nb, vb_some]
  cases hN : (p.node was).isSome with
  | false =>
    rw [hN, if_neg (by simp)] at hp
    rw [Bool.not_false, br_true]
    exact hR _ _ _ _ c hp
  | true =>
    obtain ⟨k, hk⟩ := Option.isSome_iff_exists.1 hN
    have hlt := node_lt hk
    rw [hN, if_pos rfl] at hp
    rw [Bool.not_true, br_false]
    refine (c.va (i := 2) rfl).fld (j := 2) rfl ?_
    refine c.at' cs ⟨by first | omega | (dsimp only; omega), by first | omega | (dsimp only; omega)⟩ fun h11 c => ?_
    refine c.does cs.put 0 rfl hp fun _ σ h12 c hp => ?_
    exact hR _ _ _ _ c hp
theorem K_unlink (cs : CsK0 S I) (hn : 1 ≤ n ∧ n ≤ 4088) (h1 : In7 nx) (h2 : In7 pv) : ∀ h0 F σ R Q, Cx F h0 h0 [rSpace s σ] → wp (gUnl p hd nx pv n) σ Q → (∀ a σ' h' M, Cx F h0 h' (rSpace s σ' :: M) → Q a σ' → R (uI a) h') → F_graph_Graph_unlink S I (vG p root) s (vL hd nx pv) (.int .i64 n) h0 R := by
  intro h0 F σ R Q c hp hR
  unfold F_graph_Graph_unlink
  unfold gUnl at hp
  refine c.nw EG (p, root) rfl fun rg h1 c => ?_
  refine c.nw EL (hd, nx, pv) rfl fun rl h2 c => ?_
  refine (c.va (i := 2) rfl).fld (j := 2) rfl ?_
  rw [show fa 1 (at0 rl) = some (.pointer (some ⟨rl, 0 + 1, none⟩)) from fa_add _ _ _, vb_some, show ldc (.pointer (some ⟨rl, 0 + 1, none⟩)) h2 = some (.int .i64 nx) from (c.va (i := 2) rfl).row.ldc (j := 1) rfl, vb_some]
  refine c.at' cs ⟨by first | omega | (dsimp only; omega), by first | omega | (dsimp only; omega)⟩ fun h3 c => ?_
  refine ⟨(c.va (i := 2) rfl).row.ldc (j := 1) rfl, ?_⟩
  refine c.doesE cs.get (Ens.gt _) 0 rfl hp fun a σ h4 ha c hp => ?_
  refine ⟨(c.va (i := 2) rfl).row.ldc (j := 1) rfl, ?_⟩
  refine c.at' cs ⟨by first | omega | (dsimp only; omega), by first | omega | (dsimp only; omega)⟩ fun h5 c => ?_
  refine c.doesE cs.get (Ens.gt _) 0 rfl hp fun b σ h6 hb c hp => ?_
  unfold uI
  refine Jn0.at (fun h' => ∃ σ, Cx F h0 h' [rSpace s σ, rVar EG rg (p, root), rVar EL rl (hd, nx, pv)] ∧ wp (gUnlT p pv a b) σ Q) ?_ ?_
  · rw [bin_eql, vb_some]
    refine brd (fun h7 => ?_) fun h7 => ?_
    · rw [if_pos h7] at hp
      refine (c.va (i := 2) rfl).fld (j := 0) rfl ?_
      refine c.does cs.put 0 rfl hp fun _ σ h8 c hp => ?_
      exact ⟨σ, c, hp⟩
    · rw [if_neg h7] at hp
      rw [gW (i := 1) c rfl, vb_some]
      refine c.pur (cs.gnode ha) fun h8 c => ?_
      rw [uno_nb, vb_some]
      cases hN : (p.node a).isSome with
      | false =>
        rw [hN, if_neg (by simp)] at hp
        rw [Bool.not_false, br_true]
        exact hR _ _ _ _ c hp
      | true =>
        obtain ⟨k, hk⟩ := Option.isSome_iff_exists.1 hN
        have hlt := node_lt hk
        rw [hN, if_pos rfl] at hp
        rw [Bool.not_true, br_false]
        refine (c.va (i := 2) rfl).fld (j := 1) rfl ?_
        refine c.at' cs ⟨by first | omega | (dsimp only; omega), by first | omega | (dsimp only; omega)⟩ fun h9 c => ?_
        refine c.does cs.put 0 rfl hp fun _ σ h10 c hp => ?_
        exact ⟨σ, c, hp⟩
  · clear c
    rintro h7 ⟨σ, c, hp⟩
    unfold gUnlT at hp
    rw [bin_eql, vb_some]
    refine brd (fun h8 => ?_) fun h8 => ?_
    · rw [if_pos h8] at hp
      exact hR _ _ _ _ c hp
    rw [if_neg h8] at hp
    rw [gW (i := 1) c rfl, vb_some]
    refine c.pur (cs.gnode hb) fun h9 c => ?_
    rw [uno_nb, vb_some]
    cases hN : (p.node b).isSome with
    | false =>
      rw [hN, if_neg (by simp)] at hp
      rw [Bool.not_false, br_true]
      exact hR _ _ _ _ c hp
    | true =>
      obtain ⟨k, hk⟩ := Option.isSome_iff_exists.1 hN
      have hlt := node_lt hk
      rw [hN, if_pos rfl] at hp
      rw [Bool.not_true, br_false]
      refine (c.va (i := 2) rfl).fld (j := 2) rfl ?_
      refine c.at' cs ⟨by first | omega | (dsimp only; omega), by first | omega | (dsimp only; omega)⟩ fun h10 c => ?_
      refine c.does cs.put 0 rfl hp fun _ σ h11 c hp => ?_
      exact hR _ _ _ _ c hp
end
end Go.En
namespace Go.En
open Prog Spc Go.Sort

variable {S : Sys} {I : Ids} {h h0 h' : Hp} {F F0 : Fp} {R : Value → Hp → Prop} {L : List Res} {s : Value} {σ τ : Spc}

structure CsK1 (S : Sys) (I : Ids) : Prop extends CsK0 S I where
  vertex : ∀ {p : Pl} {root n : Int} {s}, 0 ≤ root ∧ root ≤ 4000 → R64 n → Does S I.f_graph_Graph_vertex [vG p root, s, .int .i64 n] s (gIs p (gMk root) n) uB
  edge : ∀ {p : Pl} {root n : Int} {s}, 0 ≤ root ∧ root ≤ 4000 → R64 n → Does S I.f_graph_Graph_edge [vG p root, s, .int .i64 n] s (gIs p (gEk root) n) uB
  link : ∀ {p : Pl} {root n hd nx pv : Int} {s}, 1 ≤ n ∧ n ≤ 4088 → In7 nx → In7 pv → Does S I.f_graph_Graph_link [vG p root, s, vL hd nx pv, .int .i64 n] s (gLnk p hd nx pv n) uI
  unlink : ∀ {p : Pl} {root n hd nx pv : Int} {s}, 1 ≤ n ∧ n ≤ 4088 → In7 nx → In7 pv → Does S I.f_graph_Graph_unlink [vG p root, s, vL hd nx pv, .int .i64 n] s (gUnl p hd nx pv n) uI
  through : ∀ {p : Pl} {root hd nx pv : Int} {a e : Option Addr} {h R}, (∀ x y z w h', Cx (fun _ => False) h h' [rVar EPtr x a, rVar EL y (hd, nx, pv), rVar EG z (p, root), rVar EPtr w e] → R (.func (.func I.f_graph_Graph_through_1) #[] #[at0 x, at0 y, at0 z, at0 w]) h') → S.C I.f_graph_Graph_through [vG p root, .pointer a, vL hd nx pv, .pointer e] h R
  thr1 : ∀ {a b c d e h R}, F_graph_Graph_through_1 S I a b c d e h R → S.C I.f_graph_Graph_through_1 [a, b, c, d, e] h R
section
variable {p : Pl} {root n a b hd nx pv : Int}
theorem K_through {aa e : Option Addr} (hR : ∀ x y z w h', Cx (fun _ => False) h h' [rVar EPtr x aa, rVar EL y (hd, nx, pv), rVar EG z (p, root), rVar EPtr w e] → R (.func (.func I.f_graph_Graph_through_1) #[] #[at0 x, at0 y, at0 z, at0 w]) h') : F_graph_Graph_through S I (vG p root) (.pointer aa) (vL hd nx pv) (.pointer e) h R := by
  unfold F_graph_Graph_through
  refine (Cx.start0 h).nw EG (p, root) rfl fun z h1 c => ?_
  refine c.nw EPtr aa rfl fun x h2 c => ?_
  refine c.nw EL (hd, nx, pv) rfl fun y h3 c => ?_
  refine c.nw EPtr e rfl fun w h4 c => ?_
  exact vb rfl (hR x y z w _ (c.pick [1, 2, 0, 3]))
def u2 (x : Int × Int) : Value := .tuple #[.int .i64 x.1, .int .i64 x.2]
/-- what a search has at hand -/
abbrev fdL (sp rg rs rb rv rw re x y z w d l : Nat) (p : Pl) (root b hd : Int) (v w' e : Int) (o : Loop) (σ : Spc) (st : LoopState) (j : Option Code) : List Res :=
  [rSpace (at0 sp) σ, rVar EG rg (p, root), rVar EPtr rs (some ⟨sp, 0, none⟩), rVar EI1 rb b, rVar EI1 rv v, rVar EI1 rw w', rVar EI1 re e,
    rVar EPtr x (some ⟨sp, 0, none⟩), rVar EL y (hd, 4, 5), rVar EG z (p, root), rVar EPtr w (some ⟨re, 0, none⟩), rObj d (.deferred (some [])), rObj l (lpO o st j)]
theorem K_find (cs : CsK1 S I) (ha : 1 ≤ a ∧ a ≤ 4088) (hp0 : 0 ≤ p.nodes ∧ p.nodes ≤ 1000) : ∀ h0 F σ R Q, Cx F h0 h0 [rSpace s σ] → wp (gFind p a b) σ Q → (∀ a σ' h' M, Cx F h0 h' (rSpace s σ' :: M) → Q a σ' → R (uE a) h') → F_graph_Graph_find S I (vG p root) s (.int .i64 a) (.int .i64 b) h0 R := by
  intro h0 F σ R Q c hp hR
  obtain ⟨sp, rfl⟩ := c.ptr (i := 0) rfl
  unfold F_graph_Graph_find
  unfold gFind at hp
  refine c.nw EG (p, root) rfl fun rg h1 c => ?_
  refine c.nw EPtr (some ⟨sp, 0, none⟩) rfl fun rs h1 c => ?_
  refine c.nw EI1 b rfl fun rb h1 c => ?_
  refine c.nw EI1 0 rfl fun rv h1 c => ?_
  refine c.nw EI1 0 rfl fun rw h1 c => ?_
  refine c.nw EI1 0 rfl fun re h1 c => ?_
  refine c.sto1 6 rfl 0 rfl rfl fun h1 c => ?_
  rw [gW (i := 1) c rfl, vb_some, (c.va (i := 2) rfl).one rfl, vb_some, vb_some]
  refine c.pur cs.out fun h2 c => ?_
  rw [w64_R (z := a + 4) ⟨by omega, by omega⟩]
  refine ⟨(c.va (i := 2) rfl).one rfl, gW (i := 1) c rfl, ?_⟩
  refine cs.through fun x y z w h3 c2 => ?_
  have c := c.frame0 c2
  clear c2
  refine c.rg rfl fun l d o h4 hd hY c => ?_
  subst hd
  refine cs.thr1 ?_
  unfold F_graph_Graph_through_1
  rw [(c.va (i := 7) rfl).one rfl, vb_some]
  refine (c.va (i := 8) rfl).fld (j := 0) rfl ?_
  refine c.doesE cs.get (Ens.gt _) 0 rfl hp fun n σ h5 hn c hp => ?_
  refine Lp2.by (fun (q : Nat × Int × Spc) u v h' => (∃ many : Int, u = .int .i64 many ∧ 0 ≤ many ∧ many + q.1 = p.nodes) ∧ v = .int .i64 q.2.1 ∧ R64 q.2.1 ∧ wp (gFindL p b q.1 q.2.1) q.2.2 Q ∧
    Cx F h0 h' (fdL sp rg rs rb rv rw re x y z w h3.size l p root b (a + 4) 0 0 0 o q.2.2 .ready none)) (fun q => q.1) (p.nodes.toNat, n, σ) ⟨⟨0, rfl, Int.le_refl 0, by dsimp only; omega⟩, rfl, hn, hp, c⟩ ?_
  clear c hp
  rintro ⟨k, n, σ⟩ u v h6 ⟨⟨many, rfl, hm0, hk⟩, rfl, hn, hp, c⟩ again hagain
  dsimp only at *
  rw [bin_neq, vb_some]
  refine brd (fun h7 => ?_) fun h7 => ?_
  · refine vb (addI (by show R64 (many + 1); exact ⟨by omega, by omega⟩)) ?_
    refine Jn1.at (fun v h' => ∃ bb : Bool, v = .bool bb ∧ (bb = true → (p.node n).isSome = false ∨ k = 0) ∧ (bb = false → (p.node n).isSome = true ∧ k ≠ 0) ∧ Cx F h0 h' (fdL sp rg rs rb rv rw re x y z w h3.size l p root b (a + 4) 0 0 0 o σ .ready none)) ?_ ?_
    · rw [gW (i := 9) c rfl, vb_some]
      refine c.pur (cs.gnode hn) fun h8 c => ?_
      rw [uno_nb, vb_some]
      cases hN : (p.node n).isSome with
      | false =>
        rw [Bool.not_false, br_true]
        exact ⟨true, rfl, fun _ => .inl rfl, (fun e => by cases e), c⟩
      | true =>
        rw [Bool.not_true, br_false]
        refine gN (i := 9) c rfl ?_
        rw [bin_gtr, vb_some]
        refine ⟨_, rfl, fun e => .inr ?_, fun e => ⟨rfl, ?_⟩, c⟩
        · have := of_decide_eq_true e; omega
        · have := of_decide_eq_false e; omega
    clear c
    rintro v h8 ⟨bb, rfl, hb1, hb2, c⟩
    cases bb with
    | true =>
      have hq : gFindL p b k n = pure (0, 24) := by
        cases k with
        | zero => unfold gFindL; rw [if_neg h7]
        | succ k =>
          have : (p.node n).isSome = false := (hb1 rfl).resolve_right (by omega)
          unfold gFindL; rw [if_neg h7, if_neg (by rw [this]; simp)]
      rw [hq] at hp
      rw [br_true, (c.va (i := 10) rfl).one rfl, vb_some]
      refine vb rfl ?_
      refine c.sto1 6 rfl 24 rfl rfl fun h9 c => ?_
      obtain ⟨h10, e, c⟩ := c.endl (i := 12) rfl (by simp)
      refine ⟨_, _, e, ?_⟩
      unfold Jp
      rw [(c.va (i := 6) rfl).one rfl, vb_some]
      refine c.sto1 4 rfl 0 rfl rfl fun h11 c => ?_
      refine ⟨(c.va (i := 6) rfl).one rfl, ?_⟩
      refine c.sto1 5 rfl 24 rfl rfl fun h12 c => ?_
      refine c.tkd (i := 11) rfl fun h13 c => ?_
      rw [(c.va (i := 4) rfl).one rfl, vb_some, (c.va (i := 5) rfl).one rfl, vb_some]
      exact hR (0, 24) _ _ _ c hp
    | false =>
      obtain ⟨hN, hk0⟩ := hb2 rfl
      obtain ⟨kk, hkk⟩ := Option.isSome_iff_exists.1 hN
      have hlt := node_lt hkk
      obtain ⟨k, rfl⟩ : ∃ k', k = k' + 1 := ⟨k - 1, by omega⟩
      unfold gFindL at hp
      rw [if_neg h7, if_pos hN] at hp
      rw [br_false]
      refine .inr ⟨l, rfl, hY _ _ _ (c.lpat (i := 12) rfl) ?_⟩
      show A1 [_] _
      unfold A1
      refine c.bgn (i := 12) rfl fun h9 c => ?_
      rw [(c.va (i := 2) rfl).one rfl, vb_some, (c.va (i := 3) rfl).one rfl, vb_some]
      refine c.at' cs.toCsK0 ⟨by omega, by omega⟩ fun h10 c => ?_
      refine ⟨(c.va (i := 3) rfl).one rfl, (c.va (i := 2) rfl).one rfl, ?_⟩
      refine c.does cs.get 0 rfl hp fun t σ h11 c hp => ?_
      refine ⟨(c.va (i := 3) rfl).one rfl, ?_⟩
      unfold uI
      rw [bin_eql, vb_some]
      refine brd (fun h12 => ?_) fun h12 => ?_
      · rw [if_pos h12] at hp
        refine c.sto1 4 rfl n rfl rfl fun h13 c => ?_
        refine c.sto1 5 rfl 0 rfl rfl fun h14 c => ?_
        refine c.fin' (i := 12) (some .ret) rfl fun h15 c => ?_
        refine vb (v := .bool true) rfl ?_
        rw [br_true]
        obtain ⟨h16, e, c⟩ := c.endl (i := 12) rfl (by simp)
        refine ⟨_, _, e, ?_⟩
        unfold Jp
        refine c.tkd (i := 11) rfl fun h17 c => ?_
        rw [(c.va (i := 4) rfl).one rfl, vb_some, (c.va (i := 5) rfl).one rfl, vb_some]
        exact hR (n, 0) _ _ _ c hp
      · rw [if_neg h12] at hp
        refine c.fin' (i := 12) none rfl fun h15 c => ?_
        refine vb (v := .bool false) rfl ?_
        rw [br_false, (c.va (i := 7) rfl).one rfl, vb_some]
        refine (c.va (i := 8) rfl).fld (j := 1) rfl ?_
        refine c.at' cs.toCsK0 (b := 4) ⟨by omega, by omega⟩ fun h16 c => ?_
        refine ⟨(c.va (i := 7) rfl).one rfl, ?_⟩
        refine c.doesE cs.get (Ens.gt _) 0 rfl hp fun n' σ h17 hn' c hp => ?_
        exact hagain (k, n', σ) _ _ _ ⟨⟨many + 1, rfl, by omega, by dsimp only; omega⟩, rfl, hn', hp, c⟩ (by dsimp only; omega)
  · have h7 : n = 0 := Decidable.not_not.1 h7
    have hq : gFindL p b k n = pure (0, 0) := by
      cases k with
      | zero => unfold gFindL; rw [if_pos h7]
      | succ k => unfold gFindL; rw [if_pos h7]
    rw [hq] at hp
    obtain ⟨h10, e, c⟩ := c.endl (i := 12) rfl (by simp)
    refine ⟨_, _, e, ?_⟩
    unfold Jp
    rw [(c.va (i := 6) rfl).one rfl, vb_some]
    refine c.sto1 4 rfl 0 rfl rfl fun h11 c => ?_
    refine ⟨(c.va (i := 6) rfl).one rfl, ?_⟩
    refine c.sto1 5 rfl 0 rfl rfl fun h12 c => ?_
    refine c.tkd (i := 11) rfl fun h13 c => ?_
    rw [(c.va (i := 4) rfl).one rfl, vb_some, (c.va (i := 5) rfl).one rfl, vb_some]
    exact hR (0, 0) _ _ _ c hp

def E2I : Enc (Int × Int) := { n := 2, c := fun x => [.int .i64 x.1, .int .i64 x.2], len := fun _ => rfl, one := fun a v h => by simp only [List.mem_cons, List.not_mem_nil, or_false] at h; rcases h with rfl | rfl <;> rfl }
def ESh : Enc (Option Addr × Nat × Nat) := { n := 1, c := fun a => [.slice a.1 a.2.1 a.2.2], len := fun _ => rfl, one := fun a v h => by simp only [List.mem_singleton] at h; subst h; rfl }
abbrev shV (u : Option Addr × Nat × Nat) : Value := .slice u.1 u.2.1 u.2.2
abbrev egL (sp rg rs rl rh ro re x y z w d l : Nat) (p : Pl) (root hd nx pv whom e : Int) (u : Option Addr × Nat × Nat) (acc : List (Int × Int)) (o : Loop) (σ : Spc) (st : LoopState) (j : Option Code) : List Res :=
  [rSpace (at0 sp) σ, rVar EG rg (p, root), rVar EPtr rs (some ⟨sp, 0, none⟩), rVar EL rl (hd, nx, pv), rVar EI1 rh whom, rVar ESh ro u, rVar EI1 re e, rSl E2I (shV u) acc,
    rVar EPtr x (some ⟨sp, 0, none⟩), rVar EL y (hd, nx, pv), rVar EG z (p, root), rVar EPtr w (some ⟨re, 0, none⟩), rObj d (.deferred (some [])), rObj l (lpO o st j)]
theorem bld2 (a b : Int) : bldA 1 #[Value.int IntKind.i64 0, Value.int IntKind.i64 0] [(0, .int .i64 a), (1, .int .i64 b)] = some (.agg ⟨E2I.c (a, b)⟩) := by kernel_rfl
theorem K_edges {whom : Int} (cs : CsK1 S I) (hr : 0 ≤ root ∧ root ≤ 4000) (hn : R64 n) (h1 : In7 nx) (h2 : In7 whom) (hp0 : 0 ≤ p.nodes ∧ p.nodes ≤ 1000) : ∀ h0 F σ (R : Value → Hp → Prop) (Q : Option (List (Int × Int)) × Int → Spc → Prop), Cx F h0 h0 [rSpace s σ] → wp (gEdg p root n hd nx whom) σ Q →
    (∀ (r : Option (List (Int × Int)) × Int) σ' v h' M, Cx F h0 h' (rSpace s σ' :: rSl E2I v (r.1.getD []) :: M) → Q r σ' → R (.tuple #[v, .int .i64 r.2]) h') → F_graph_Graph_edges S I (vG p root) s (.int .i64 n) (vL hd nx pv) (.int .i64 whom) h0 R := by
  intro h0 F σ R Q c hp hR
  obtain ⟨sp, rfl⟩ := c.ptr (i := 0) rfl
  unfold F_graph_Graph_edges
  unfold gEdg at hp
  refine c.nw EG (p, root) rfl fun rg h1 c => ?_
  refine c.nw EPtr (some ⟨sp, 0, none⟩) rfl fun rs h1 c => ?_
  refine c.nw EL (hd, nx, pv) rfl fun rl h1 c => ?_
  refine c.nw EI1 whom rfl fun rh h1 c => ?_
  rw [gW (i := 1) c rfl, vb_some, (c.va (i := 2) rfl).one rfl, vb_some]
  refine c.does (cs.vertex hr hn) 0 rfl hp fun bb σ h3 c hp => ?_
  unfold uB
  rw [uno_nb, vb_some]
  cases bb with
  | false =>
    rw [if_neg (by simp)] at hp
    rw [Bool.not_false, br_true]
    exact hR (none, 10) _ _ _ _ ((c.nil E2I).pick [0, 5]) hp
  | true =>
  rw [if_pos rfl] at hp
  rw [Bool.not_true, br_false]
  refine c.nw ESh (none, 0, 0) rfl fun ro h4 c => ?_
  refine c.nw EI1 0 rfl fun re h4 c => ?_
  have c := c.nil E2I
  refine c.sto1 6 rfl 0 rfl rfl fun h4 c => ?_
  rw [gW (i := 1) c rfl, vb_some, (c.va (i := 2) rfl).one rfl, vb_some, lW (i := 3) c rfl, vb_some]
  refine cs.through fun x y z w h3 c2 => ?_
  have c := c.frame0 c2
  clear c2
  refine c.rg rfl fun l d o h4 hd' hY c => ?_
  subst hd'
  refine cs.thr1 ?_
  unfold F_graph_Graph_through_1
  rw [(c.va (i := 8) rfl).one rfl, vb_some]
  refine (c.va (i := 9) rfl).fld (j := 0) rfl ?_
  refine c.doesE cs.get (Ens.gt _) 0 rfl hp fun n σ h5 hn c hp => ?_
  rw [wp_bind] at hp
  have c : Cx F h0 h5 (egL sp rg rs rl rh ro re x y z w h3.size l p root hd nx pv whom 0 (none, 0, 0) [] o σ .ready none) := c
  refine Lp2.by (fun (q : Nat × Int × Spc × (Option Addr × Nat × Nat) × List (Int × Int)) u v h' => (∃ many : Int, u = .int .i64 many ∧ many = q.2.2.2.2.length ∧ many + q.1 = p.nodes) ∧ v = .int .i64 q.2.1 ∧ R64 q.2.1 ∧ wp (gEdgL p nx whom q.1 q.2.1 q.2.2.2.2) q.2.2.1 (fun a σ' => wp (pure (a, if a.isSome then 0 else 24)) σ' Q) ∧
    Cx F h0 h' (egL sp rg rs rl rh ro re x y z w h3.size l p root hd nx pv whom 0 q.2.2.2.1 q.2.2.2.2 o q.2.2.1 .ready none)) (fun q => q.1) (p.nodes.toNat, n, σ, (none, 0, 0), []) ⟨⟨0, rfl, rfl, by dsimp only; omega⟩, rfl, hn, hp, c⟩ ?_
  clear c hp
  rintro ⟨k, n, σ, us, acc⟩ u v h6 ⟨⟨many, rfl, hm, hk⟩, rfl, hn, hp, c⟩ again hagain
  dsimp only at *
  rw [bin_neq, vb_some]
  refine brd (fun h7 => ?_) fun h7 => ?_
  · refine vb (addI (by show R64 (many + 1); exact ⟨by omega, by omega⟩)) ?_
    refine Jn1.at (fun v h' => ∃ bb : Bool, v = .bool bb ∧ (bb = true → (p.node n).isSome = false ∨ k = 0) ∧ (bb = false → (p.node n).isSome = true ∧ k ≠ 0) ∧ Cx F h0 h' (egL sp rg rs rl rh ro re x y z w h3.size l p root hd nx pv whom 0 us acc o σ .ready none)) ?_ ?_
    · rw [gW (i := 10) c rfl, vb_some]
      refine c.pur (cs.gnode hn) fun h8 c => ?_
      rw [uno_nb, vb_some]
      cases hN : (p.node n).isSome with
      | false =>
        rw [Bool.not_false, br_true]
        exact ⟨true, rfl, fun _ => .inl rfl, (fun e => by cases e), c⟩
      | true =>
        rw [Bool.not_true, br_false]
        refine gN (i := 10) c rfl ?_
        rw [bin_gtr, vb_some]
        refine ⟨_, rfl, fun e => .inr ?_, fun e => ⟨rfl, ?_⟩, c⟩
        · have := of_decide_eq_true e; omega
        · have := of_decide_eq_false e; omega
    clear c
    rintro v h8 ⟨bb, rfl, hb1, hb2, c⟩
    cases bb with
    | true =>
      have hq : gEdgL p nx whom k n acc = pure none := by
        cases k with
        | zero => unfold gEdgL; rw [if_neg h7]
        | succ k =>
          have : (p.node n).isSome = false := (hb1 rfl).resolve_right (by omega)
          unfold gEdgL; rw [if_neg h7, if_neg (by rw [this]; simp)]
      rw [hq] at hp
      rw [br_true, (c.va (i := 11) rfl).one rfl, vb_some]
      refine vb rfl ?_
      refine c.sto1 6 rfl 24 rfl rfl fun h9 c => ?_
      obtain ⟨h10, e, c⟩ := c.endl (i := 13) rfl (by simp)
      refine ⟨_, _, e, ?_⟩
      unfold Jp
      rw [(c.va (i := 6) rfl).one rfl, vb_some]
      refine vb (v := .bool true) rfl ?_
      rw [br_true, vb_some]
      refine c.tkd (i := 12) rfl fun h13 c => ?_
      exact hR (none, 24) _ _ _ _ ((c.nil E2I).pick [0, 14]) hp
    | false =>
      obtain ⟨hN, hk0⟩ := hb2 rfl
      obtain ⟨kk, hkk⟩ := Option.isSome_iff_exists.1 hN
      have hlt := node_lt hkk
      obtain ⟨k, rfl⟩ : ∃ k', k = k' + 1 := ⟨k - 1, by omega⟩
      unfold gEdgL at hp
      rw [if_neg h7, if_pos hN] at hp
      rw [br_false]
      refine .inr ⟨l, rfl, hY _ _ _ (c.lpat (i := 13) rfl) ?_⟩
      show A1 [_] _
      unfold A1
      refine c.bgn (i := 13) rfl fun h9 c => ?_
      rw [(c.va (i := 5) rfl).one rfl, vb_some, (c.va (i := 2) rfl).one rfl, vb_some, (c.va (i := 4) rfl).one rfl, vb_some, vb_some]
      refine c.at' cs.toCsK0 ⟨by omega, by omega⟩ fun h10 c => ?_
      refine ⟨(c.va (i := 2) rfl).one rfl, (c.va (i := 2) rfl).one rfl, (c.va (i := 5) rfl).one rfl, ?_⟩
      refine c.does cs.get 0 rfl hp fun t σ h11 c hp => ?_
      refine ⟨(c.va (i := 2) rfl).one rfl, (c.va (i := 5) rfl).one rfl, ?_⟩
      refine c.at' cs.toCsK0 ⟨by omega, by omega⟩ fun h12 c => ?_
      refine ⟨(c.va (i := 2) rfl).one rfl, (c.va (i := 5) rfl).one rfl, ?_⟩
      refine c.does cs.get 0 rfl hp fun wt σ h13 c hp => ?_
      refine ⟨(c.va (i := 5) rfl).one rfl, ?_⟩
      unfold uI
      rw [bld2, vb_some]
      refine c.bsl1 E2I (t, wt) rfl rfl fun u h14 c => ?_
      refine ⟨(c.va (i := 5) rfl).one rfl, ?_⟩
      refine c.ap 7 rfl (c.sl (i := 14) rfl).sl rfl rfl (by simp only [List.length_singleton]; omega) (by simp only [List.length_singleton]; omega) fun w' h15 c => ?_
      obtain ⟨a2, l2, c2, rfl⟩ := ow_slice (c.sl (i := 7) rfl)
      refine c.sto1 5 rfl (a2, l2, c2) rfl rfl fun h16 c => ?_
      refine c.fin' (i := 13) none rfl fun h17 c => ?_
      refine vb (v := .bool false) rfl ?_
      rw [br_false, (c.va (i := 8) rfl).one rfl, vb_some]
      refine (c.va (i := 9) rfl).fld (j := 1) rfl ?_
      refine c.at' cs.toCsK0 (b := nx) ⟨by omega, by omega⟩ fun h18 c => ?_
      refine ⟨(c.va (i := 8) rfl).one rfl, ?_⟩
      refine c.doesE cs.get (Ens.gt _) 0 rfl hp fun n' σ h19 hn' c hp => ?_
      refine hagain (k, n', σ, (a2, l2, c2), acc ++ [(t, wt)]) _ _ _ ⟨⟨many + 1, rfl, by dsimp only; rw [List.length_append, List.length_singleton]; omega, by dsimp only; omega⟩, rfl, hn', hp, ?_⟩ (by dsimp only; omega)
      exact c.drop (L := egL sp rg rs rl rh ro re x y z w h3.size l p root hd nx pv whom 0 (a2, l2, c2) (acc ++ [(t, wt)]) o σ .ready none) (L' := [_])
  · have h7 : n = 0 := Decidable.not_not.1 h7
    have hq : gEdgL p nx whom k n acc = pure (some acc) := by
      cases k with
      | zero => unfold gEdgL; rw [if_pos h7]
      | succ k => unfold gEdgL; rw [if_pos h7]
    rw [hq] at hp
    obtain ⟨h10, e, c⟩ := c.endl (i := 13) rfl (by simp)
    refine ⟨_, _, e, ?_⟩
    unfold Jp
    rw [(c.va (i := 6) rfl).one rfl, vb_some]
    refine vb (v := .bool false) rfl ?_
    rw [br_false, (c.va (i := 5) rfl).one rfl, vb_some]
    refine c.tkd (i := 12) rfl fun h13 c => ?_
    exact hR (some acc, 0) _ _ _ _ (c.pick [0, 7]) hp
abbrev veL (sp rg ro re x y z w d l : Nat) (p : Pl) (root e : Int) (u : Option Addr × Nat × Nat) (acc : List Int) (o : Loop) (σ : Spc) (st : LoopState) (j : Option Code) : List Res :=
  [rSpace (at0 sp) σ, rVar EG rg (p, root), rVar ESh ro u, rVar EI1 re e, rSl EI1 (shV u) acc,
    rVar EPtr x (some ⟨sp, 0, none⟩), rVar EL y (root, 2, 3), rVar EG z (p, root), rVar EPtr w (some ⟨re, 0, none⟩), rObj d (.deferred (some [])), rObj l (lpO o st j)]
theorem K_Verts (cs : CsK1 S I) (hr : 0 ≤ root ∧ root ≤ 4000) (hp0 : 0 ≤ p.nodes ∧ p.nodes ≤ 1000) : ∀ h0 F σ (R : Value → Hp → Prop) (Q : Option (List Int) → Spc → Prop), Cx F h0 h0 [rSpace s σ] → wp (gVer p root) σ Q →
    (∀ (r : Option (List Int)) σ' v h' M, Cx F h0 h' (rSpace s σ' :: rSl EI1 v (r.getD []) :: M) → Q r σ' → R (.tuple #[v, .int .i64 (if r.isSome then 0 else 24)]) h') → F_graph_Graph_Vertices S I (vG p root) s h0 R := by
  intro h0 F σ R Q c hp hR
  obtain ⟨sp, rfl⟩ := c.ptr (i := 0) rfl
  unfold F_graph_Graph_Vertices
  unfold gVer at hp
  refine c.nw EG (p, root) rfl fun rg h1 c => ?_
  refine c.nw ESh (none, 0, 0) rfl fun ro h4 c => ?_
  refine c.nw EI1 0 rfl fun re h4 c => ?_
  have c := c.nil EI1
  refine c.sto1 3 rfl 0 rfl rfl fun h4 c => ?_
  rw [gW (i := 1) c rfl, vb_some, vb_some]
  refine c.pur (cs.all hr) fun h2 c => ?_
  refine ⟨gW (i := 1) c rfl, ?_⟩
  refine cs.through fun x y z w h3 c2 => ?_
  have c := c.frame0 c2
  clear c2
  refine c.rg rfl fun l d o h4 hd' hY c => ?_
  subst hd'
  refine cs.thr1 ?_
  unfold F_graph_Graph_through_1
  rw [(c.va (i := 5) rfl).one rfl, vb_some]
  refine (c.va (i := 6) rfl).fld (j := 0) rfl ?_
  refine c.doesE cs.get (Ens.gt _) 0 rfl hp fun n σ h5 hn c hp => ?_
  have c : Cx F h0 h5 (veL sp rg ro re x y z w h3.size l p root 0 (none, 0, 0) [] o σ .ready none) := c
  refine Lp2.by (fun (q : Nat × Int × Spc × (Option Addr × Nat × Nat) × List Int) u v h' => (∃ many : Int, u = .int .i64 many ∧ many = q.2.2.2.2.length ∧ many + q.1 = p.nodes) ∧ v = .int .i64 q.2.1 ∧ R64 q.2.1 ∧ wp (gVerL p q.1 q.2.1 q.2.2.2.2) q.2.2.1 Q ∧
    Cx F h0 h' (veL sp rg ro re x y z w h3.size l p root 0 q.2.2.2.1 q.2.2.2.2 o q.2.2.1 .ready none)) (fun q => q.1) (p.nodes.toNat, n, σ, (none, 0, 0), []) ⟨⟨0, rfl, rfl, by dsimp only; omega⟩, rfl, hn, hp, c⟩ ?_
  clear c hp
  rintro ⟨k, n, σ, us, acc⟩ u v h6 ⟨⟨many, rfl, hm, hk⟩, rfl, hn, hp, c⟩ again hagain
  dsimp only at *
  rw [bin_neq, vb_some]
  refine brd (fun h7 => ?_) fun h7 => ?_
  · refine vb (addI (by show R64 (many + 1); exact ⟨by omega, by omega⟩)) ?_
    refine Jn1.at (fun v h' => ∃ bb : Bool, v = .bool bb ∧ (bb = true → (p.node n).isSome = false ∨ k = 0) ∧ (bb = false → (p.node n).isSome = true ∧ k ≠ 0) ∧ Cx F h0 h' (veL sp rg ro re x y z w h3.size l p root 0 us acc o σ .ready none)) ?_ ?_
    · rw [gW (i := 7) c rfl, vb_some]
      refine c.pur (cs.gnode hn) fun h8 c => ?_
      rw [uno_nb, vb_some]
      cases hN : (p.node n).isSome with
      | false =>
        rw [Bool.not_false, br_true]
        exact ⟨true, rfl, fun _ => .inl rfl, (fun e => by cases e), c⟩
      | true =>
        rw [Bool.not_true, br_false]
        refine gN (i := 7) c rfl ?_
        rw [bin_gtr, vb_some]
        refine ⟨_, rfl, fun e => .inr ?_, fun e => ⟨rfl, ?_⟩, c⟩
        · have := of_decide_eq_true e; omega
        · have := of_decide_eq_false e; omega
    clear c
    rintro v h8 ⟨bb, rfl, hb1, hb2, c⟩
    cases bb with
    | true =>
      have hq : gVerL p k n acc = pure none := by
        cases k with
        | zero => unfold gVerL; rw [if_neg h7]
        | succ k =>
          have : (p.node n).isSome = false := (hb1 rfl).resolve_right (by omega)
          unfold gVerL; rw [if_neg h7, if_neg (by rw [this]; simp)]
      rw [hq] at hp
      rw [br_true, (c.va (i := 8) rfl).one rfl, vb_some]
      refine vb rfl ?_
      refine c.sto1 3 rfl 24 rfl rfl fun h9 c => ?_
      obtain ⟨h10, e, c⟩ := c.endl (i := 10) rfl (by simp)
      refine ⟨_, _, e, ?_⟩
      unfold Jp
      rw [(c.va (i := 3) rfl).one rfl, vb_some]
      refine vb (v := .bool true) rfl ?_
      rw [br_true, vb_some]
      refine c.tkd (i := 9) rfl fun h13 c => ?_
      exact hR none _ _ _ _ ((c.nil EI1).pick [0, 11]) hp
    | false =>
      obtain ⟨hN, hk0⟩ := hb2 rfl
      obtain ⟨kk, hkk⟩ := Option.isSome_iff_exists.1 hN
      have hlt := node_lt hkk
      obtain ⟨k, rfl⟩ : ∃ k', k = k' + 1 := ⟨k - 1, by omega⟩
      unfold gVerL at hp
      rw [if_neg h7, if_pos hN] at hp
      rw [br_false]
      refine .inr ⟨l, rfl, hY _ _ _ (c.lpat (i := 10) rfl) ?_⟩
      show A1 [_] _
      unfold A1
      refine c.bgn (i := 10) rfl fun h9 c => ?_
      rw [(c.va (i := 2) rfl).one rfl, vb_some]
      refine c.bsl1 EI1 n rfl rfl fun u h14 c => ?_
      refine c.ap 4 rfl (c.sl (i := 11) rfl).sl rfl rfl (by simp only [List.length_singleton]; omega) (by simp only [List.length_singleton]; omega) fun w' h15 c => ?_
      obtain ⟨a2, l2, c2, rfl⟩ := ow_slice (c.sl (i := 4) rfl)
      refine c.sto1 2 rfl (a2, l2, c2) rfl rfl fun h16 c => ?_
      refine c.fin' (i := 10) none rfl fun h17 c => ?_
      refine vb (v := .bool false) rfl ?_
      rw [br_false, (c.va (i := 5) rfl).one rfl, vb_some]
      refine (c.va (i := 6) rfl).fld (j := 1) rfl ?_
      refine c.at' cs.toCsK0 (b := 2) ⟨by omega, by omega⟩ fun h18 c => ?_
      refine ⟨(c.va (i := 5) rfl).one rfl, ?_⟩
      refine c.doesE cs.get (Ens.gt _) 0 rfl hp fun n' σ h19 hn' c hp => ?_
      refine hagain (k, n', σ, (a2, l2, c2), acc ++ [n]) _ _ _ ⟨⟨many + 1, rfl, by dsimp only; rw [List.length_append, List.length_singleton]; omega, by dsimp only; omega⟩, rfl, hn', hp, ?_⟩ (by dsimp only; omega)
      exact c.drop (L := veL sp rg ro re x y z w h3.size l p root 0 (a2, l2, c2) (acc ++ [n]) o σ .ready none) (L' := [_])
  · have h7 : n = 0 := Decidable.not_not.1 h7
    have hq : gVerL p k n acc = pure (some acc) := by
      cases k with
      | zero => unfold gVerL; rw [if_pos h7]
      | succ k => unfold gVerL; rw [if_pos h7]
    rw [hq] at hp
    obtain ⟨h10, e, c⟩ := c.endl (i := 10) rfl (by simp)
    refine ⟨_, _, e, ?_⟩
    unfold Jp
    rw [(c.va (i := 3) rfl).one rfl, vb_some]
    refine vb (v := .bool false) rfl ?_
    rw [br_false, (c.va (i := 2) rfl).one rfl, vb_some]
    refine c.tkd (i := 9) rfl fun h13 c => ?_
    exact hR (some acc) _ _ _ _ (c.pick [0, 4]) hp
end
end Go.En
namespace Go.En
open Prog Spc Go.Sort

variable {S : Sys} {I : Ids} {h h0 h' : Hp} {F F0 : Fp} {R : Value → Hp → Prop} {L : List Res} {s : Value} {σ τ : Spc}

structure CsK2 (S : Sys) (I : Ids) : Prop extends CsK1 S I where
  find : ∀ {p : Pl} {root a b : Int} {s}, 1 ≤ a ∧ a ≤ 4088 → 0 ≤ p.nodes ∧ p.nodes ≤ 1000 → Does S I.f_graph_Graph_find [vG p root, s, .int .i64 a, .int .i64 b] s (gFind p a b) uE
  edges : ∀ {p : Pl} {root n hd nx pv whom : Int} {s h0 F σ} {R : Value → Hp → Prop} {Q : Option (List (Int × Int)) × Int → Spc → Prop}, 0 ≤ root ∧ root ≤ 4000 → R64 n → In7 nx → In7 whom → 0 ≤ p.nodes ∧ p.nodes ≤ 1000 → Cx F h0 h0 [rSpace s σ] → wp (gEdg p root n hd nx whom) σ Q →
    (∀ (r : Option (List (Int × Int)) × Int) σ' v h' M, Cx F h0 h' (rSpace s σ' :: rSl E2I v (r.1.getD []) :: M) → Q r σ' → R (.tuple #[v, .int .i64 r.2]) h') → S.C I.f_graph_Graph_edges [vG p root, s, .int .i64 n, vL hd nx pv, .int .i64 whom] h0 R
  verts : ∀ {p : Pl} {root : Int} {s h0 F σ} {R : Value → Hp → Prop} {Q : Option (List Int) → Spc → Prop}, 0 ≤ root ∧ root ≤ 4000 → 0 ≤ p.nodes ∧ p.nodes ≤ 1000 → Cx F h0 h0 [rSpace s σ] → wp (gVer p root) σ Q →
    (∀ (r : Option (List Int)) σ' v h' M, Cx F h0 h' (rSpace s σ' :: rSl EI1 v (r.getD []) :: M) → Q r σ' → R (.tuple #[v, .int .i64 (if r.isSome then 0 else 24)]) h') → S.C I.f_graph_Graph_Vertices [vG p root, s] h0 R
section
variable {p : Pl} {root n a b w v : Int}
theorem node_lt' {x : Int} (h : (p.node x).isSome = true) : 1 ≤ x ∧ x ≤ 4088 := by
  obtain ⟨k, hk⟩ := Option.isSome_iff_exists.1 h
  exact node_lt hk
theorem bsl8 (x v : Int) (e : TypeId) (h : Hp) : bsl #[Value.int IntKind.i64 0] 1 8 e [(0, .int .i64 x), (1, .int .i64 v), (4, .int .i64 0), (5, .int .i64 0), (6, .int .i64 0), (7, .int .i64 0)] h =
    some (.slice (some ⟨h.size, 0, none⟩) 8 8, h.push (.cells ⟨[.int .i64 x, .int .i64 v, .int .i64 0, .int .i64 0, .int .i64 0, .int .i64 0, .int .i64 0, .int .i64 0]⟩ e)) := by kernel_rfl
theorem Cx.bslP8 (c : Cx F0 h0 h L) (x v : Int) {e : TypeId} {k : Value → Hp → Prop} (hk : ∀ u h', Cx F0 h0 h' (L ++ [rSl EI1 u [x, v, 0, 0, 0, 0, 0, 0]]) → k u h') :
    Eb (bsl #[Value.int IntKind.i64 0] 1 8 e [(0, .int .i64 x), (1, .int .i64 v), (4, .int .i64 0), (5, .int .i64 0), (6, .int .i64 0), (7, .int .i64 0)] h) k :=
  eb (bsl8 x v e h) (hk _ _ (c.add (F' := fun q => q = h.size) ⟨Ow.lit (xs := [x, v, 0, 0, 0, 0, 0, 0]) rfl rfl, fun q => by simp [blk, eq_comm]⟩ (Ch.push _ _) fun r e => by omega))
theorem K_gAdd (cs : CsK2 S I) (hr : 0 ≤ root ∧ root ≤ 4000) (hv : R64 v) : ∀ h0 F σ R Q, Cx F h0 h0 [rSpace s σ] → wp (gAdd p root v) σ Q → (∀ a σ' h' M, Cx F h0 h' (rSpace s σ' :: M) → Q a σ' → R (uE a) h') → F_graph_Graph_Add S I (vG p root) s (.int .i64 v) h0 R := by
  intro h0 F σ R Q c hp hR
  unfold F_graph_Graph_Add
  unfold gAdd at hp
  refine c.nw EG (p, root) rfl fun rg h1 c => ?_
  refine c.nw EI1 0 rfl fun re h1 c => ?_
  refine c.doesE cs.mark Ens.mk 0 rfl hp fun m σ h1 hm c hp => ?_
  refine gP (i := 1) c rfl ?_
  refine c.doesE cs.take (Ens.take p) 0 rfl hp fun t σ h1 hE c hp => ?_
  unfold uE
  refine ext0t (ext1t ?_)
  refine c.sto1 2 rfl t.2 rfl rfl fun h1 c => ?_
  rw [(c.va (i := 2) rfl).one rfl, vb_some, bin_neq, vb_some]
  refine brd (fun h3 => ?_) fun h3 => ?_
  · rw [if_pos h3] at hp
    rw [vb_some]
    refine c.sto1 2 rfl t.2 rfl rfl fun h4 c => ?_
    refine c.gundo cs.toCsK0 0 rfl 2 rfl hp fun σ h5 c hp => ?_
    rw [(c.va (i := 2) rfl).one rfl, vb_some]
    exact hR (0, t.2) _ _ _ c hp
  rw [if_neg h3] at hp
  have hnode : (p.node t.1).isSome = true := by
    rcases hE with h | h
    · exact h.2
    · rcases h.2 with h | h | h <;> omega
  have hlt := node_lt' hnode
  generalize t.1 = n at *
  rw [gW (i := 1) c rfl, vb_some]
  refine c.pur (cs.vmark hr) fun h4 c => ?_
  refine c.bslP8 (gMk root) v fun bs h5 c => ?_
  rw [(c.sl (i := 3) rfl).sl.ln, vb_some]
  -- the eight turns of the loop
  let pr : Nat → Prog (Int × Int) := fun i =>
    let tail : Prog (Int × Int) := (gLnk p root 2 3 n >>= fun e => if e ≠ 0 then (dUn e m >>= fun _ => pure (0, e)) else (dMore (root + 1) 1 >>= fun _ => dMore (root + 7) 1 >>= fun _ => dUn 0 m >>= fun _ => pure (n, 0)))
    if i = 0 then (pt n (gMk root) >>= fun _ => pt (n + 1) v >>= fun _ => pt (n + 4) 0 >>= fun _ => pt (n + 5) 0 >>= fun _ => pt (n + 6) 0 >>= fun _ => pt (n + 7) 0 >>= fun _ => tail)
    else if i = 1 then (pt (n + 1) v >>= fun _ => pt (n + 4) 0 >>= fun _ => pt (n + 5) 0 >>= fun _ => pt (n + 6) 0 >>= fun _ => pt (n + 7) 0 >>= fun _ => tail)
    else if i ≤ 4 then (pt (n + 4) 0 >>= fun _ => pt (n + 5) 0 >>= fun _ => pt (n + 6) 0 >>= fun _ => pt (n + 7) 0 >>= fun _ => tail)
    else if i = 5 then (pt (n + 5) 0 >>= fun _ => pt (n + 6) 0 >>= fun _ => pt (n + 7) 0 >>= fun _ => tail)
    else if i = 6 then (pt (n + 6) 0 >>= fun _ => pt (n + 7) 0 >>= fun _ => tail)
    else if i = 7 then (pt (n + 7) 0 >>= fun _ => tail)
    else tail
  refine Lp1.by (fun (q : Nat × Spc) u h' => u = .int .i64 q.1 ∧ q.1 ≤ 8 ∧ wp (pr q.1) q.2 Q ∧ Cx F h0 h' [rSpace s q.2, rVar EG rg (p, root), rVar EI1 re t.2, rSl EI1 bs [gMk root, v, 0, 0, 0, 0, 0, 0]]) (fun q => 8 - q.1) (0, σ) ⟨rfl, by dsimp only; omega, hp, c⟩ ?_
  clear c hp
  rintro ⟨i, σ⟩ u h6 ⟨rfl, hi, hp, c⟩ again hagain
  dsimp only at *
  have hlen : (([gMk root, v, 0, 0, 0, 0, 0, 0] : List Int).length : Int) = 8 := rfl
  rw [hlen, bin_lss, vb_some]
  refine brd (fun h7 => ?_) fun h7 => ?_
  · have hi8 : i = 0 ∨ i = 1 ∨ i = 2 ∨ i = 3 ∨ i = 4 ∨ i = 5 ∨ i = 6 ∨ i = 7 := by omega
    obtain ⟨x, hx, hp1, hp2⟩ : ∃ x : Int, ([gMk root, v, 0, 0, 0, 0, 0, 0] : List Int)[i]? = some x ∧ (i ≠ 2 ∧ i ≠ 3 → wp (pt (n + i) x >>= fun _ => pr (i + 1)) σ Q) ∧ (i = 2 ∨ i = 3 → wp (pr (i + 1)) σ Q) := by
      rcases hi8 with h | h | h | h | h | h | h | h <;> subst h
      · exact ⟨gMk root, rfl, fun _ => by rw [show n + ((0 : Nat) : Int) = n from Int.add_zero n]; exact hp, fun e => by omega⟩
      · exact ⟨v, rfl, fun _ => hp, fun e => by omega⟩
      · exact ⟨0, rfl, fun e => by omega, fun _ => hp⟩
      · exact ⟨0, rfl, fun e => by omega, fun _ => hp⟩
      · exact ⟨0, rfl, fun _ => hp, fun e => by omega⟩
      · exact ⟨0, rfl, fun _ => hp, fun e => by omega⟩
      · exact ⟨0, rfl, fun _ => hp, fun e => by omega⟩
      · exact ⟨0, rfl, fun _ => hp, fun e => by omega⟩
    refine Jn0.at (fun h' => ∃ σ, wp (pr (i + 1)) σ Q ∧ Cx F h0 h' [rSpace s σ, rVar EG rg (p, root), rVar EI1 re t.2, rSl EI1 bs [gMk root, v, 0, 0, 0, 0, 0, 0]]) ?_ ?_
    · refine (c.sl (i := 3) rfl).sl.one rfl hx rfl rfl ?_
      refine Jn1.at (fun u h' => u = .bool (decide (i ≠ 2 ∧ i ≠ 3)) ∧ h' = h6) ?_ ?_
      · rw [bin_neq, vb_some]
        refine brd (fun h8 => ?_) fun h8 => ⟨by rw [decide_eq_false (by omega)], rfl⟩
        rw [bin_neq, vb_some]
        refine ⟨?_, rfl⟩
        by_cases h9 : i = 3
        · subst h9; rfl
        · rw [decide_eq_true (by omega), decide_eq_true (by omega)]
      · rintro u h8 ⟨rfl, rfl⟩
        refine brd (fun h9 => ?_) fun h9 => ⟨σ, hp2 (by omega), c⟩
        refine c.at' cs.toCsK0 (b := (i : Int)) ⟨by omega, by omega⟩ fun h10 c => ?_
        refine c.does cs.put 0 rfl (hp1 h9) fun _ σ h11 c hp => ?_
        exact ⟨σ, hp, c⟩
    · clear c hp hp1 hp2
      rintro h8 ⟨σ, hp, c⟩
      rw [bin_add, vb_some, wrS (by omega)]
      exact hagain (i + 1, σ) _ _ ⟨rfl, by dsimp only; omega, hp, c⟩ (by dsimp only; omega)
  · have e8 : i = 8 := by omega
    subst e8
    have hp : wp (gLnk p root 2 3 n >>= fun e => if e ≠ 0 then (dUn e m >>= fun _ => pure (0, e)) else (dMore (root + 1) 1 >>= fun _ => dMore (root + 7) 1 >>= fun _ => dUn 0 m >>= fun _ => pure (n, 0))) σ Q := hp
    rw [gW (i := 1) c rfl, vb_some, vb_some]
    refine c.pur (cs.all hr) fun h8 c => ?_
    refine ⟨gW (i := 1) c rfl, ?_⟩
    refine c.does (cs.link hlt ⟨by decide, by decide⟩ ⟨by decide, by decide⟩) 0 rfl hp fun e σ h9 c hp => ?_
    unfold uI
    rw [bin_neq, vb_some]
    refine brd (fun h10 => ?_) fun h10 => ?_
    · rw [if_pos h10] at hp
      refine c.sto1 2 rfl e rfl rfl fun h11 c => ?_
      refine c.gundo cs.toCsK0 0 rfl 2 rfl hp fun σ h5 c hp => ?_
      rw [(c.va (i := 2) rfl).one rfl, vb_some]
      exact hR (0, e) _ _ _ c hp
    · rw [if_neg h10] at hp
      refine (c.va (i := 1) rfl).fld (j := 3) rfl ?_
      refine vb (addI (by show R64 (root + 1); exact ⟨by omega, by omega⟩)) ?_
      refine c.does cs.gmore 0 rfl hp fun _ σ h11 c hp => ?_
      refine (c.va (i := 1) rfl).fld (j := 3) rfl ?_
      refine vb (addI (by show R64 (root + 7); exact ⟨by omega, by omega⟩)) ?_
      refine c.does cs.gmore 0 rfl hp fun _ σ h12 c hp => ?_
      refine c.sto1 2 rfl 0 rfl rfl fun h13 c => ?_
      refine c.gundo cs.toCsK0 0 rfl 2 rfl hp fun σ h5 c hp => ?_
      rw [(c.va (i := 2) rfl).one rfl, vb_some]
      exact hR (n, 0) _ _ _ c hp
end
end Go.En
namespace Go.En
open Prog Spc Go.Sort

variable {S : Sys} {I : Ids} {h h0 h' : Hp} {F F0 : Fp} {R : Value → Hp → Prop} {L : List Res} {s : Value} {σ τ : Spc}
section
variable {p : Pl} {root n a b w v hd : Int}
/-- a mark that holds names a node -/
theorem ens_is {k : Int} : Ens (gIs p k n) fun bb => bb = true → (p.node n).isSome = true := by
  unfold gIs
  exact .ite (fun h => .then fun _ => .pure fun _ => h) fun _ => .pure fun e => by cases e
theorem ens_findL : ∀ (k : Nat) (n : Int), Ens (gFindL p b k n) fun f => f.1 ≠ 0 → (p.node f.1).isSome = true
  | 0, n => .pure fun h => absurd rfl h
  | k + 1, n => by
    unfold gFindL
    refine .ite (fun _ => .pure fun h => absurd rfl h) fun _ => .ite (fun hn => .then fun t => .ite (fun _ => .pure fun _ => hn) fun _ => .then fun n' => ens_findL k n') fun _ => .pure fun h => absurd rfl h
theorem ens_find : Ens (gFind p a b) fun f => f.1 ≠ 0 → (p.node f.1).isSome = true := by
  unfold gFind
  exact .then fun n => ens_findL _ n
theorem K_gLink (cs : CsK2 S I) (hr : 0 ≤ root ∧ root ≤ 4000) (hp0 : 0 ≤ p.nodes ∧ p.nodes ≤ 1000) (ha : R64 a) (hb : R64 b) (hw : R64 w) : ∀ h0 F σ R Q, Cx F h0 h0 [rSpace s σ] → wp (gLink p root a b w) σ Q → (∀ a σ' h' M, Cx F h0 h' (rSpace s σ' :: M) → Q a σ' → R (uE a) h') → F_graph_Graph_Link S I (vG p root) s (.int .i64 a) (.int .i64 b) (.int .i64 w) h0 R := by
  intro h0 F σ R Q c hp hR
  unfold F_graph_Graph_Link
  unfold gLink at hp
  refine c.nw EG (p, root) rfl fun rg h1 c => ?_
  refine c.nw EI1 0 rfl fun re h1 c => ?_
  refine c.doesE cs.mark Ens.mk 0 rfl hp fun m σ h1 hm c hp => ?_
  refine Jn1.at (fun u h' => ∃ bb : Bool, u = .bool bb ∧ ∃ σ, Cx F h0 h' [rSpace s σ, rVar EG rg (p, root), rVar EI1 re 0] ∧ (bb = true → wp (dUn 10 m >>= fun _ => pure (0, 10)) σ Q) ∧ (bb = false → (p.node a).isSome = true ∧ (p.node b).isSome = true ∧ wp (gLinkS p root a b w m) σ Q)) ?_ ?_
  · rw [gW (i := 1) c rfl, vb_some]
    refine c.doesE (cs.vertex hr ha) (ens_is (p := p)) 0 rfl hp fun bb σ h3 hva c hp => ?_
    unfold uB
    rw [uno_nb, vb_some]
    cases bb with
    | false =>
      rw [if_neg (by simp)] at hp
      rw [Bool.not_false, br_true]
      exact ⟨true, rfl, σ, c, fun _ => hp, (fun e => by cases e)⟩
    | true =>
      rw [if_pos rfl] at hp
      rw [Bool.not_true, br_false, gW (i := 1) c rfl, vb_some]
      refine c.doesE (cs.vertex hr hb) (ens_is (p := p)) 0 rfl hp fun bb σ h4 hvb c hp => ?_
      unfold uB
      rw [uno_nb, vb_some]
      cases bb with
      | false =>
        rw [if_neg (by simp)] at hp
        exact ⟨true, rfl, σ, c, fun _ => hp, (fun e => by cases e)⟩
      | true =>
        rw [if_pos rfl] at hp
        exact ⟨false, rfl, σ, c, (fun e => by cases e), fun _ => ⟨hva rfl, hvb rfl, hp⟩⟩
  clear c hp
  rintro u h2 ⟨bb, rfl, σ, c, hp1, hp2⟩
  cases bb with
  | true =>
    have hp := hp1 rfl
    rw [br_true]
    refine c.sto1 2 rfl 10 rfl rfl fun h4 c => ?_
    refine c.gundo cs.toCsK0 0 rfl 2 rfl hp fun σ h5 c hp => ?_
    rw [(c.va (i := 2) rfl).one rfl, vb_some]
    exact hR (0, 10) _ _ _ c hp
  | false =>
  obtain ⟨hna, hnb, hp⟩ := hp2 rfl
  have hla := node_lt' hna; have hlb := node_lt' hnb
  unfold gLinkS at hp
  rw [br_false, gW (i := 1) c rfl, vb_some]
  refine c.does (cs.find hla hp0) 0 rfl hp fun f σ h3 c hp => ?_
  unfold uE
  refine ext0t (ext1t ?_)
  rw [bin_neq, vb_some]
  refine brd (fun h4 => ?_) fun h4 => ?_
  · rw [if_pos h4] at hp
    refine c.sto1 2 rfl 11 rfl rfl fun h4 c => ?_
    refine c.gundo cs.toCsK0 0 rfl 2 rfl hp fun σ h5 c hp => ?_
    rw [(c.va (i := 2) rfl).one rfl, vb_some]
    exact hR (0, 11) _ _ _ c hp
  rw [if_neg h4] at hp
  refine gP (i := 1) c rfl ?_
  refine c.doesE cs.take (Ens.take p) 0 rfl hp fun t σ h1 hE c hp => ?_
  unfold uE
  refine ext0t (ext1t ?_)
  refine c.sto1 2 rfl t.2 rfl rfl fun h1 c => ?_
  rw [(c.va (i := 2) rfl).one rfl, vb_some, bin_neq, vb_some]
  refine brd (fun h3 => ?_) fun h3 => ?_
  · rw [if_pos h3] at hp
    rw [vb_some]
    refine c.sto1 2 rfl t.2 rfl rfl fun h4 c => ?_
    refine c.gundo cs.toCsK0 0 rfl 2 rfl hp fun σ h5 c hp => ?_
    rw [(c.va (i := 2) rfl).one rfl, vb_some]
    exact hR (0, t.2) _ _ _ c hp
  rw [if_neg h3] at hp
  rw [bin_neq, vb_some]
  refine brd (fun h5 => ?_) fun h5 => ?_
  · rw [if_pos h5] at hp
    refine c.sto1 2 rfl f.2 rfl rfl fun h4 c => ?_
    refine c.gundo cs.toCsK0 0 rfl 2 rfl hp fun σ h5 c hp => ?_
    rw [(c.va (i := 2) rfl).one rfl, vb_some]
    exact hR (0, f.2) _ _ _ c hp
  rw [if_neg h5] at hp
  have hnode : (p.node t.1).isSome = true := by
    rcases hE with h | h
    · exact h.2
    · rcases h.2 with h | h | h <;> omega
  have hlt := node_lt' hnode
  generalize t.1 = n at *
  unfold gLinkT at hp
  rw [gW (i := 1) c rfl, vb_some]
  refine c.pur (cs.emark hr) fun h4 c => ?_
  refine c.bslN EI1 [gEk root, a, b, w] [.int .i64 (gEk root), .int .i64 a, .int .i64 b, .int .i64 w] rfl rfl rfl (fun u hu => by simp only [List.mem_cons, List.not_mem_nil, or_false] at hu; rcases hu with rfl | rfl | rfl | rfl <;> rfl) rfl fun bs h5 c => ?_
  rw [show lnS (.slice (some bs) 4 4) = some (.int .i64 4) from rfl, vb_some]
  let tail : Prog (Int × Int) := (gLnk p (a + 4) 4 5 n >>= fun e => if e ≠ 0 then (dUn e m >>= fun _ => pure (0, e)) else (gLnk p (b + 5) 6 7 n >>= fun e => if e ≠ 0 then (dUn e m >>= fun _ => pure (0, e)) else gLinkU root a b n m))
  let pr : Nat → Prog (Int × Int) := fun i =>
    if i = 0 then (pt n (gEk root) >>= fun _ => pt (n + 1) a >>= fun _ => pt (n + 2) b >>= fun _ => pt (n + 3) w >>= fun _ => tail)
    else if i = 1 then (pt (n + 1) a >>= fun _ => pt (n + 2) b >>= fun _ => pt (n + 3) w >>= fun _ => tail)
    else if i = 2 then (pt (n + 2) b >>= fun _ => pt (n + 3) w >>= fun _ => tail)
    else if i = 3 then (pt (n + 3) w >>= fun _ => tail)
    else tail
  refine Lp1.by (fun (q : Nat × Spc) u h' => u = .int .i64 q.1 ∧ q.1 ≤ 4 ∧ wp (pr q.1) q.2 Q ∧ Cx F h0 h' [rSpace s q.2, rVar EG rg (p, root), rVar EI1 re t.2, rSl EI1 (.slice (some bs) 4 4) [gEk root, a, b, w]]) (fun q => 4 - q.1) (0, σ) ⟨rfl, by dsimp only; omega, hp, c⟩ ?_
  clear c hp
  rintro ⟨i, σ⟩ u h6 ⟨rfl, hi, hp, c⟩ again hagain
  dsimp only at *
  rw [bin_lss, vb_some]
  refine brd (fun h7 => ?_) fun h7 => ?_
  · have hi4 : i = 0 ∨ i = 1 ∨ i = 2 ∨ i = 3 := by omega
    obtain ⟨x, hx, hp1⟩ : ∃ x : Int, ([gEk root, a, b, w] : List Int)[i]? = some x ∧ wp (pt (n + i) x >>= fun _ => pr (i + 1)) σ Q := by
      rcases hi4 with h | h | h | h <;> subst h
      · exact ⟨gEk root, rfl, by rw [show n + ((0 : Nat) : Int) = n from Int.add_zero n]; exact hp⟩
      · exact ⟨a, rfl, hp⟩
      · exact ⟨b, rfl, hp⟩
      · exact ⟨w, rfl, hp⟩
    refine (c.sl (i := 3) rfl).sl.one rfl hx rfl rfl ?_
    refine c.at' cs.toCsK0 (b := (i : Int)) ⟨by omega, by omega⟩ fun h10 c => ?_
    refine c.does cs.put 0 rfl hp1 fun _ σ h11 c hp => ?_
    rw [bin_add, vb_some, wrS (by omega)]
    exact hagain (i + 1, σ) _ _ ⟨rfl, by dsimp only; omega, hp, c⟩ (by dsimp only; omega)
  · have e4 : i = 4 := by omega
    subst e4
    have hp : wp tail σ Q := hp
    rw [gW (i := 1) c rfl, vb_some, vb_some]
    refine c.pur cs.out fun h8 c => ?_
    rw [w64_R (z := a + 4) ⟨by omega, by omega⟩]
    refine ⟨gW (i := 1) c rfl, ?_⟩
    refine c.does (cs.link hlt ⟨by decide, by decide⟩ ⟨by decide, by decide⟩) 0 rfl hp fun e σ h9 c hp => ?_
    unfold uI
    rw [bin_neq, vb_some]
    refine brd (fun h10 => ?_) fun h10 => ?_
    · rw [if_pos h10] at hp
      refine c.sto1 2 rfl e rfl rfl fun h11 c => ?_
      refine c.gundo cs.toCsK0 0 rfl 2 rfl hp fun σ h5 c hp => ?_
      rw [(c.va (i := 2) rfl).one rfl, vb_some]
      exact hR (0, e) _ _ _ c hp
    rw [if_neg h10] at hp
    rw [gW (i := 1) c rfl, vb_some, vb_some]
    refine c.pur cs.in' fun h8 c => ?_
    rw [w64_R (z := b + 5) ⟨by omega, by omega⟩]
    refine ⟨gW (i := 1) c rfl, ?_⟩
    refine c.does (cs.link hlt ⟨by decide, by decide⟩ ⟨by decide, by decide⟩) 0 rfl hp fun e σ h9 c hp => ?_
    unfold uI
    rw [bin_neq, vb_some]
    refine brd (fun h10 => ?_) fun h10 => ?_
    · rw [if_pos h10] at hp
      refine c.sto1 2 rfl e rfl rfl fun h11 c => ?_
      refine c.gundo cs.toCsK0 0 rfl 2 rfl hp fun σ h5 c hp => ?_
      rw [(c.va (i := 2) rfl).one rfl, vb_some]
      exact hR (0, e) _ _ _ c hp
    rw [if_neg h10] at hp
    unfold gLinkU at hp
    refine c.at' cs.toCsK0 (b := 6) ⟨by omega, by omega⟩ fun h10 c => ?_
    refine c.does cs.gmore 0 rfl hp fun _ σ h11 c hp => ?_
    refine c.at' cs.toCsK0 (b := 7) ⟨by omega, by omega⟩ fun h10 c => ?_
    refine c.does cs.gmore 0 rfl hp fun _ σ h11 c hp => ?_
    refine (c.va (i := 1) rfl).fld (j := 3) rfl ?_
    refine vb (addI (by show R64 (root + 2); exact ⟨by omega, by omega⟩)) ?_
    refine c.does cs.gmore 0 rfl hp fun _ σ h11 c hp => ?_
    refine (c.va (i := 1) rfl).fld (j := 3) rfl ?_
    refine vb (addI (by show R64 (root + 7); exact ⟨by omega, by omega⟩)) ?_
    refine c.does cs.gmore 0 rfl hp fun _ σ h12 c hp => ?_
    refine c.sto1 2 rfl 0 rfl rfl fun h13 c => ?_
    refine c.gundo cs.toCsK0 0 rfl 2 rfl hp fun σ h5 c hp => ?_
    rw [(c.va (i := 2) rfl).one rfl, vb_some]
    exact hR (n, 0) _ _ _ c hp
theorem K_gcut (cs : CsK2 S I) (hr : 0 ≤ root ∧ root ≤ 4000) (hn : 1 ≤ n ∧ n ≤ 4088) : ∀ h0 F σ R Q, Cx F h0 h0 [rSpace s σ] → wp (gCutI p root n) σ Q → (∀ a σ' h' M, Cx F h0 h' (rSpace s σ' :: M) → Q a σ' → R (uI a) h') → F_graph_Graph_cut S I (vG p root) s (.int .i64 n) h0 R := by
  intro h0 F σ R Q c hp hR
  unfold F_graph_Graph_cut
  unfold gCutI at hp
  refine c.nw EG (p, root) rfl fun rg h1 c => ?_
  refine c.at' cs.toCsK0 (b := 1) ⟨by omega, by omega⟩ fun h2 c => ?_
  refine c.doesE cs.get (Ens.gt _) 0 rfl hp fun a σ h3 ha c hp => ?_
  refine c.at' cs.toCsK0 (b := 2) ⟨by omega, by omega⟩ fun h2 c => ?_
  refine c.doesE cs.get (Ens.gt _) 0 rfl hp fun b σ h3 hb c hp => ?_
  unfold uI
  refine Jn1.at (fun u h' => u = .bool (!((p.node a).isSome && (p.node b).isSome)) ∧ Cx F h0 h' [rSpace s σ, rVar EG rg (p, root)]) ?_ ?_
  · rw [gW (i := 1) c rfl, vb_some]
    refine c.pur (cs.gnode ha) fun h8 c => ?_
    rw [uno_nb, vb_some]
    cases hN : (p.node a).isSome with
    | false => rw [Bool.not_false, br_true]; exact ⟨rfl, c⟩
    | true =>
      rw [Bool.not_true, br_false, gW (i := 1) c rfl, vb_some]
      refine c.pur (cs.gnode hb) fun h8 c => ?_
      rw [uno_nb, vb_some]
      exact ⟨rfl, c⟩
  clear c
  rintro u h4 ⟨rfl, c⟩
  by_cases hab : (p.node a).isSome = true ∧ (p.node b).isSome = true
  rotate_left
  · rw [if_neg hab] at hp
    have e : ((p.node a).isSome && (p.node b).isSome) = false := by
      rw [Bool.and_eq_false_iff]
      rcases Decidable.not_and_iff_or_not.1 hab with h | h
      · exact .inl (by simpa using h)
      · exact .inr (by simpa using h)
    rw [e, Bool.not_false, br_true]
    exact hR _ _ _ _ c hp
  rw [if_pos hab] at hp
  obtain ⟨hna, hnb⟩ := hab
  have hla := node_lt' hna; have hlb := node_lt' hnb
  rw [hna, hnb, Bool.and_self, Bool.not_true, br_false, gW (i := 1) c rfl, vb_some, vb_some]
  refine c.pur cs.out fun h8 c => ?_
  rw [w64_R (z := a + 4) ⟨by omega, by omega⟩]
  refine ⟨gW (i := 1) c rfl, ?_⟩
  refine c.does (cs.unlink hn ⟨by decide, by decide⟩ ⟨by decide, by decide⟩) 0 rfl hp fun e σ h9 c hp => ?_
  unfold uI
  rw [bin_neq, vb_some]
  refine brd (fun h10 => ?_) fun h10 => ?_
  · rw [if_pos h10] at hp
    exact hR _ _ _ _ c hp
  rw [if_neg h10] at hp
  rw [gW (i := 1) c rfl, vb_some, vb_some]
  refine c.pur cs.in' fun h8 c => ?_
  rw [w64_R (z := b + 5) ⟨by omega, by omega⟩]
  refine ⟨gW (i := 1) c rfl, ?_⟩
  refine c.does (cs.unlink hn ⟨by decide, by decide⟩ ⟨by decide, by decide⟩) 0 rfl hp fun e σ h9 c hp => ?_
  unfold uI
  rw [bin_neq, vb_some]
  refine brd (fun h10 => ?_) fun h10 => ?_
  · rw [if_pos h10] at hp
    exact hR _ _ _ _ c hp
  rw [if_neg h10] at hp
  unfold gCutU at hp
  refine c.at' cs.toCsK0 (b := 6) ⟨by omega, by omega⟩ fun h10 c => ?_
  refine c.does cs.gmore 0 rfl hp fun _ σ h11 c hp => ?_
  refine c.at' cs.toCsK0 (b := 7) ⟨by omega, by omega⟩ fun h10 c => ?_
  refine c.does cs.gmore 0 rfl hp fun _ σ h11 c hp => ?_
  refine (c.va (i := 1) rfl).fld (j := 3) rfl ?_
  refine vb (addI (by show R64 (root + 2); exact ⟨by omega, by omega⟩)) ?_
  refine c.does cs.gmore 0 rfl hp fun _ σ h11 c hp => ?_
  refine (c.va (i := 1) rfl).fld (j := 3) rfl ?_
  refine vb (addI (by show R64 (root + 7); exact ⟨by omega, by omega⟩)) ?_
  refine c.does cs.gmore 0 rfl hp fun _ σ h12 c hp => ?_
  refine gP (i := 1) c rfl ?_
  refine c.last (cs.give ⟨by omega, by omega⟩) 0 rfl hp fun e σ h13 c hq => ?_
  exact hR _ _ _ _ c hq
structure CsK3 (S : Sys) (I : Ids) : Prop extends CsK2 S I where
  gadd : ∀ {p : Pl} {root v : Int} {s}, 0 ≤ root ∧ root ≤ 4000 → R64 v → Does S I.f_graph_Graph_Add [vG p root, s, .int .i64 v] s (gAdd p root v) uE
  glink : ∀ {p : Pl} {root a b w : Int} {s}, 0 ≤ root ∧ root ≤ 4000 → 0 ≤ p.nodes ∧ p.nodes ≤ 1000 → R64 a → R64 b → R64 w → Does S I.f_graph_Graph_Link [vG p root, s, .int .i64 a, .int .i64 b, .int .i64 w] s (gLink p root a b w) uE
  gcut : ∀ {p : Pl} {root n : Int} {s}, 0 ≤ root ∧ root ≤ 4000 → 1 ≤ n ∧ n ≤ 4088 → Does S I.f_graph_Graph_cut [vG p root, s, .int .i64 n] s (gCutI p root n) uI
theorem K_gCut (cs : CsK3 S I) (hr : 0 ≤ root ∧ root ≤ 4000) (hn : R64 n) : ∀ h0 F σ R Q, Cx F h0 h0 [rSpace s σ] → wp (gCut p root n) σ Q → (∀ a σ' h' M, Cx F h0 h' (rSpace s σ' :: M) → Q a σ' → R (uI a) h') → F_graph_Graph_Cut S I (vG p root) s (.int .i64 n) h0 R := by
  intro h0 F σ R Q c hp hR
  unfold F_graph_Graph_Cut
  unfold gCut at hp
  refine c.nw EG (p, root) rfl fun rg h1 c => ?_
  refine c.nw EI1 0 rfl fun re h1 c => ?_
  refine c.doesE cs.mark Ens.mk 0 rfl hp fun m σ h1 hm c hp => ?_
  rw [gW (i := 1) c rfl, vb_some]
  refine c.doesE (cs.edge hr hn) (ens_is (p := p)) 0 rfl hp fun bb σ h3 hv c hp => ?_
  unfold uB
  rw [uno_nb, vb_some]
  cases bb with
  | false =>
    rw [if_neg (by simp)] at hp
    rw [Bool.not_false, br_true]
    refine c.sto1 2 rfl 10 rfl rfl fun h4 c => ?_
    refine c.gundo cs.toCsK0 0 rfl 2 rfl hp fun σ h5 c hp => ?_
    rw [(c.va (i := 2) rfl).one rfl, vb_some]
    exact hR 10 _ _ _ c hp
  | true =>
    rw [if_pos rfl] at hp
    rw [Bool.not_true, br_false, gW (i := 1) c rfl, vb_some]
    refine c.does (cs.gcut hr (node_lt' (hv rfl))) 0 rfl hp fun e σ h4 c hp => ?_
    unfold uI
    refine c.sto1 2 rfl e rfl rfl fun h4 c => ?_
    refine c.gundo cs.toCsK0 0 rfl 2 rfl hp fun σ h5 c hp => ?_
    rw [(c.va (i := 2) rfl).one rfl, vb_some]
    exact hR e _ _ _ c hp
theorem K_gempty {nx pv : Int} (cs : CsK3 S I) (hr : 0 ≤ root ∧ root ≤ 4000) (hp0 : 0 ≤ p.nodes ∧ p.nodes ≤ 1000) : ∀ h0 F σ R Q, Cx F h0 h0 [rSpace s σ] → wp (gEmp p root hd (p.nodes.toNat + 1)) σ Q → (∀ a σ' h' M, Cx F h0 h' (rSpace s σ' :: M) → Q a σ' → R (uI a) h') → F_graph_Graph_empty S I (vG p root) s (vL hd nx pv) h0 R := by
  intro h0 F σ R Q c hp hR
  unfold F_graph_Graph_empty
  refine c.nw EG (p, root) rfl fun rg h1 c => ?_
  refine c.nw EL (hd, nx, pv) rfl fun rl h1 c => ?_
  refine Lp1.by (fun (q : Nat × Spc) u h' => (∃ many : Int, u = .int .i64 many ∧ 0 ≤ many ∧ many + q.1 = p.nodes + 1) ∧ wp (gEmp p root hd q.1) q.2 Q ∧ Cx F h0 h' [rSpace s q.2, rVar EG rg (p, root), rVar EL rl (hd, nx, pv)]) (fun q => q.1) (p.nodes.toNat + 1, σ) ⟨⟨0, rfl, Int.le_refl 0, by dsimp only; omega⟩, hp, c⟩ ?_
  clear c hp
  rintro ⟨k, σ⟩ u h2 ⟨⟨many, rfl, hm0, hk⟩, hp, c⟩ again hagain
  dsimp only at *
  refine (c.va (i := 2) rfl).fld (j := 0) rfl ?_
  have hgt : ∃ q : Int → Prog Int, gEmp p root hd k = (gt hd >>= q) ∧ ∀ n, q n = if n = 0 then pure 0 else match k with
      | 0 => pure 24
      | k + 1 => if (p.node n).isSome then (gCutI p root n >>= fun e => if e ≠ 0 then pure e else gEmp p root hd k) else pure 24 := by
    cases k with
    | zero => exact ⟨_, rfl, fun n => by dsimp only; split <;> rfl⟩
    | succ k => exact ⟨_, rfl, fun n => rfl⟩
  obtain ⟨q, hq, hqn⟩ := hgt
  rw [hq] at hp
  refine c.doesE cs.get (Ens.gt _) 0 rfl hp fun n σ h3 hn c hp => ?_
  rw [hqn] at hp
  unfold uI
  rw [bin_eql, vb_some]
  refine brd (fun h4 => ?_) fun h4 => ?_
  · rw [if_pos h4] at hp
    exact hR _ _ _ _ c hp
  rw [if_neg h4] at hp
  refine Jn1.at (fun u h' => ∃ bb : Bool, u = .bool bb ∧ (bb = true → (p.node n).isSome = false ∨ k = 0) ∧ (bb = false → (p.node n).isSome = true ∧ k ≠ 0) ∧ Cx F h0 h' [rSpace s σ, rVar EG rg (p, root), rVar EL rl (hd, nx, pv)]) ?_ ?_
  · rw [gW (i := 1) c rfl, vb_some]
    refine c.pur (cs.gnode hn) fun h8 c => ?_
    rw [uno_nb, vb_some]
    cases hN : (p.node n).isSome with
    | false =>
      rw [Bool.not_false, br_true]
      exact ⟨true, rfl, fun _ => .inl rfl, (fun e => by cases e), c⟩
    | true =>
      rw [Bool.not_true, br_false]
      refine gN (i := 1) c rfl ?_
      rw [bin_gtr, vb_some]
      refine ⟨_, rfl, fun e => .inr ?_, fun e => ⟨rfl, ?_⟩, c⟩
      · have := of_decide_eq_true e; omega
      · have := of_decide_eq_false e; omega
  clear c
  rintro u h5 ⟨bb, rfl, hb1, hb2, c⟩
  cases bb with
  | true =>
    rw [br_true]
    have hp : wp (pure 24) σ Q := by
      cases k with
      | zero => exact hp
      | succ k =>
        have : (p.node n).isSome = false := (hb1 rfl).resolve_right (by omega)
        dsimp only at hp
        rw [if_neg (by rw [this]; simp)] at hp
        exact hp
    exact hR 24 _ _ _ c hp
  | false =>
    obtain ⟨hN, hk0⟩ := hb2 rfl
    obtain ⟨k, rfl⟩ : ∃ k', k = k' + 1 := ⟨k - 1, by omega⟩
    dsimp only at hp
    rw [if_pos hN] at hp
    rw [br_false, gW (i := 1) c rfl, vb_some]
    refine c.does (cs.gcut hr (node_lt' hN)) 0 rfl hp fun e σ h6 c hp => ?_
    unfold uI
    rw [bin_neq, vb_some]
    refine brd (fun h7 => ?_) fun h7 => ?_
    · rw [if_pos h7] at hp
      exact hR _ _ _ _ c hp
    rw [if_neg h7] at hp
    refine vb (addI ⟨by omega, by omega⟩) ?_
    exact hagain (k, σ) _ _ ⟨⟨many + 1, rfl, by omega, by dsimp only; omega⟩, hp, c⟩ (by dsimp only; omega)
structure CsK4 (S : Sys) (I : Ids) : Prop extends CsK3 S I where
  gCut : ∀ {p : Pl} {root n : Int} {s}, 0 ≤ root ∧ root ≤ 4000 → R64 n → Does S I.f_graph_Graph_Cut [vG p root, s, .int .i64 n] s (En.gCut p root n) uI
  gempty : ∀ {p : Pl} {root hd nx pv : Int} {s}, 0 ≤ root ∧ root ≤ 4000 → 0 ≤ p.nodes ∧ p.nodes ≤ 1000 → Does S I.f_graph_Graph_empty [vG p root, s, vL hd nx pv] s (gEmp p root hd (p.nodes.toNat + 1)) uI
theorem K_gDrop (cs : CsK4 S I) (hr : 0 ≤ root ∧ root ≤ 4000) (hp0 : 0 ≤ p.nodes ∧ p.nodes ≤ 1000) (hn : R64 n) : ∀ h0 F σ R Q, Cx F h0 h0 [rSpace s σ] → wp (gDrop p root n) σ Q → (∀ a σ' h' M, Cx F h0 h' (rSpace s σ' :: M) → Q a σ' → R (uE a) h') → F_graph_Graph_Drop S I (vG p root) s (.int .i64 n) h0 R := by
  intro h0 F σ R Q c hp hR
  unfold F_graph_Graph_Drop
  unfold gDrop at hp
  refine c.nw EG (p, root) rfl fun rg h1 c => ?_
  refine c.nw EI1 0 rfl fun re h1 c => ?_
  refine c.doesE cs.mark Ens.mk 0 rfl hp fun m σ h1 hm c hp => ?_
  rw [gW (i := 1) c rfl, vb_some]
  refine c.doesE (cs.vertex hr hn) (ens_is (p := p)) 0 rfl hp fun bb σ h3 hv c hp => ?_
  unfold uB
  rw [uno_nb, vb_some]
  cases bb with
  | false =>
    rw [if_neg (by simp)] at hp
    rw [Bool.not_false, br_true]
    refine c.sto1 2 rfl 10 rfl rfl fun h4 c => ?_
    refine c.gundo cs.toCsK0 0 rfl 2 rfl hp fun σ h5 c hp => ?_
    rw [(c.va (i := 2) rfl).one rfl, vb_some]
    exact hR (0, 10) _ _ _ c hp
  | true =>
  rw [if_pos rfl] at hp
  have hN := hv rfl
  have hlt := node_lt' hN
  unfold gDropT at hp
  rw [Bool.not_true, br_false]
  refine c.at' cs.toCsK0 (b := 1) ⟨by omega, by omega⟩ fun h4 c => ?_
  refine c.does cs.get 0 rfl hp fun lab σ h5 c hp => ?_
  unfold uI
  rw [gW (i := 1) c rfl, vb_some, vb_some]
  refine c.pur cs.out fun h6 c => ?_
  rw [w64_R (z := n + 4) ⟨by omega, by omega⟩]
  refine ⟨gW (i := 1) c rfl, ?_⟩
  refine c.pur cs.in' fun h7 c => ?_
  rw [w64_R (z := n + 5) ⟨by omega, by omega⟩]
  refine c.bslN EL [(n + 4, 4, 5), (n + 5, 6, 7)] [vL (n + 4) 4 5, vL (n + 5) 6 7] rfl rfl rfl (fun u hu => by simp only [List.mem_cons, List.not_mem_nil, or_false] at hu; rcases hu with rfl | rfl <;> rfl) rfl fun bs h8 c => ?_
  rw [show lnS (.slice (some bs) 2 2) = some (.int .i64 2) from rfl, vb_some]
  let p2 : Prog (Int × Int) := gDropU p root n lab m
  let p1 : Prog (Int × Int) := gEmp p root (n + 5) (p.nodes.toNat + 1) >>= fun e => if e ≠ 0 then (dUn e m >>= fun _ => pure (0, e)) else p2
  let pr : Nat → Prog (Int × Int) := fun i => if i = 0 then gEmp p root (n + 4) (p.nodes.toNat + 1) >>= fun e => if e ≠ 0 then (dUn e m >>= fun _ => pure (0, e)) else p1 else if i = 1 then p1 else p2
  refine Lp1.by (fun (q : Nat × Spc) u h' => u = .int .i64 q.1 ∧ q.1 ≤ 2 ∧ wp (pr q.1) q.2 Q ∧ Cx F h0 h' [rSpace s q.2, rVar EG rg (p, root), rVar EI1 re 0, rSl EL (.slice (some bs) 2 2) [(n + 4, 4, 5), (n + 5, 6, 7)]]) (fun q => 2 - q.1) (0, σ) ⟨rfl, by dsimp only; omega, hp, c⟩ ?_
  clear c hp
  rintro ⟨i, σ⟩ u h9 ⟨rfl, hi, hp, c⟩ again hagain
  dsimp only at *
  rw [bin_lss, vb_some]
  refine brd (fun h10 => ?_) fun h10 => ?_
  · have hi2 : i = 0 ∨ i = 1 := by omega
    obtain ⟨x, hx, hp1⟩ : ∃ x : Int × Int × Int, ([(n + 4, 4, 5), (n + 5, 6, 7)] : List (Int × Int × Int))[i]? = some x ∧ wp (gEmp p root x.1 (p.nodes.toNat + 1) >>= fun e => if e ≠ 0 then (dUn e m >>= fun _ => pure (0, e)) else pr (i + 1)) σ Q := by
      rcases hi2 with h | h <;> subst h
      · exact ⟨_, rfl, hp⟩
      · exact ⟨_, rfl, hp⟩
    refine (c.sl (i := 3) rfl).sl.whole rfl hx rfl ?_
    refine c.nw EL (0, 0, 0) rfl fun rl h11 c => ?_
    refine c.sto 4 rfl x rfl rfl fun h12 c => ?_
    obtain ⟨x1, x2, x3⟩ := x
    rw [gW (i := 1) c rfl, vb_some, lW (i := 4) c rfl, vb_some]
    refine c.does (cs.gempty hr hp0) 0 rfl hp1 fun e σ h13 c hp => ?_
    unfold uI
    rw [bin_neq, vb_some]
    refine brd (fun h14 => ?_) fun h14 => ?_
    · rw [if_pos h14] at hp
      refine c.sto1 2 rfl e rfl rfl fun h11 c => ?_
      refine c.gundo cs.toCsK0 0 rfl 2 rfl hp fun σ h5 c hp => ?_
      rw [(c.va (i := 2) rfl).one rfl, vb_some]
      exact hR (0, e) _ _ _ c hp
    rw [if_neg h14] at hp
    rw [bin_add, vb_some, wrS (by omega)]
    exact hagain (i + 1, σ) _ _ ⟨rfl, by dsimp only; omega, hp, c.drop (L := [_, _, _, _]) (L' := [_])⟩ (by dsimp only; omega)
  · have e2 : i = 2 := by omega
    subst e2
    have hp : wp (gDropU p root n lab m) σ Q := hp
    unfold gDropU at hp
    rw [gW (i := 1) c rfl, vb_some, vb_some]
    refine c.pur (cs.all hr) fun h11 c => ?_
    refine ⟨gW (i := 1) c rfl, ?_⟩
    refine c.does (cs.unlink hlt ⟨by decide, by decide⟩ ⟨by decide, by decide⟩) 0 rfl hp fun e σ h12 c hp => ?_
    unfold uI
    rw [bin_neq, vb_some]
    refine brd (fun h14 => ?_) fun h14 => ?_
    · rw [if_pos h14] at hp
      refine c.sto1 2 rfl e rfl rfl fun h11 c => ?_
      refine c.gundo cs.toCsK0 0 rfl 2 rfl hp fun σ h5 c hp => ?_
      rw [(c.va (i := 2) rfl).one rfl, vb_some]
      exact hR (0, e) _ _ _ c hp
    rw [if_neg h14] at hp
    refine (c.va (i := 1) rfl).fld (j := 3) rfl ?_
    refine vb (addI (by show R64 (root + 1); exact ⟨by omega, by omega⟩)) ?_
    refine c.does cs.gmore 0 rfl hp fun _ σ h11 c hp => ?_
    refine (c.va (i := 1) rfl).fld (j := 3) rfl ?_
    refine vb (addI (by show R64 (root + 7); exact ⟨by omega, by omega⟩)) ?_
    refine c.does cs.gmore 0 rfl hp fun _ σ h12 c hp => ?_
    refine gP (i := 1) c rfl ?_
    refine c.does (cs.give hn) 0 rfl hp fun e σ h13 c hp => ?_
    unfold uI
    rw [bin_neq, vb_some]
    refine brd (fun h14 => ?_) fun h14 => ?_
    · rw [if_pos h14] at hp
      refine c.sto1 2 rfl e rfl rfl fun h11 c => ?_
      refine c.gundo cs.toCsK0 0 rfl 2 rfl hp fun σ h5 c hp => ?_
      rw [(c.va (i := 2) rfl).one rfl, vb_some]
      exact hR (0, e) _ _ _ c hp
    rw [if_neg h14] at hp
    refine c.sto1 2 rfl 0 rfl rfl fun h13 c => ?_
    refine c.gundo cs.toCsK0 0 rfl 2 rfl hp fun σ h5 c hp => ?_
    rw [(c.va (i := 2) rfl).one rfl, vb_some]
    exact hR (lab, 0) _ _ _ c hp
def uIB (x : Int × Bool) : Value := .tuple #[.int .i64 x.1, .bool x.2]
theorem K_gWei (cs : CsK2 S I) (hr : 0 ≤ root ∧ root ≤ 4000) (hp0 : 0 ≤ p.nodes ∧ p.nodes ≤ 1000) (ha : R64 a) (hb : R64 b) : ∀ h0 F σ R Q, Cx F h0 h0 [rSpace s σ] → wp (gWei p root a b) σ Q → (∀ a σ' h' M, Cx F h0 h' (rSpace s σ' :: M) → Q a σ' → R (uIB a) h') → F_graph_Graph_Weight S I (vG p root) s (.int .i64 a) (.int .i64 b) h0 R := by
  intro h0 F σ R Q c hp hR
  unfold F_graph_Graph_Weight
  unfold gWei at hp
  refine c.nw EG (p, root) rfl fun rg h1 c => ?_
  refine Jn1.at (fun u h' => ∃ bb : Bool, u = .bool bb ∧ ∃ σ, Cx F h0 h' [rSpace s σ, rVar EG rg (p, root)] ∧ (bb = true → wp (pure (0, false)) σ Q) ∧ (bb = false → (p.node a).isSome = true ∧ (p.node b).isSome = true ∧ wp (gWeiT p a b) σ Q)) ?_ ?_
  · rw [gW (i := 1) c rfl, vb_some]
    refine c.doesE (cs.vertex hr ha) (ens_is (p := p)) 0 rfl hp fun bb σ h3 hva c hp => ?_
    unfold uB
    rw [uno_nb, vb_some]
    cases bb with
    | false =>
      rw [if_neg (by simp)] at hp
      rw [Bool.not_false, br_true]
      exact ⟨true, rfl, σ, c, fun _ => hp, (fun e => by cases e)⟩
    | true =>
      rw [if_pos rfl] at hp
      rw [Bool.not_true, br_false, gW (i := 1) c rfl, vb_some]
      refine c.doesE (cs.vertex hr hb) (ens_is (p := p)) 0 rfl hp fun bb σ h4 hvb c hp => ?_
      unfold uB
      rw [uno_nb, vb_some]
      cases bb with
      | false =>
        rw [if_neg (by simp)] at hp
        exact ⟨true, rfl, σ, c, fun _ => hp, (fun e => by cases e)⟩
      | true =>
        rw [if_pos rfl] at hp
        exact ⟨false, rfl, σ, c, (fun e => by cases e), fun _ => ⟨hva rfl, hvb rfl, hp⟩⟩
  clear c hp
  rintro u h2 ⟨bb, rfl, σ, c, hp1, hp2⟩
  cases bb with
  | true =>
    rw [br_true]
    exact hR (0, false) _ _ _ c (hp1 rfl)
  | false =>
  obtain ⟨hna, hnb, hp⟩ := hp2 rfl
  unfold gWeiT at hp
  rw [br_false, gW (i := 1) c rfl, vb_some]
  refine c.doesE (cs.find (node_lt' hna) hp0) (ens_find (p := p)) 0 rfl hp fun f σ h3 hf c hp => ?_
  unfold uE
  refine ext0t (ext1t ?_)
  refine Jn1.at (fun u h' => u = .bool (decide (f.1 = 0 ∨ f.2 ≠ 0)) ∧ h' = h3) ?_ ?_
  · rw [bin_eql, vb_some]
    refine brd (fun h4 => ⟨by rw [decide_eq_true (.inl h4)], rfl⟩) fun h4 => ?_
    rw [bin_neq, vb_some]
    exact ⟨by congr 1; exact decide_eq_decide.2 ⟨.inr, fun h => h.resolve_left h4⟩, rfl⟩
  rintro u h4 ⟨rfl, rfl⟩
  refine brd (fun h5 => ?_) fun h5 => ?_
  · rw [if_pos h5] at hp
    exact hR (0, false) _ _ _ c hp
  rw [if_neg h5] at hp
  have hlt := node_lt' (hf (by omega))
  refine c.at' cs.toCsK0 (b := 3) ⟨by omega, by omega⟩ fun h6 c => ?_
  refine c.does cs.get 0 rfl hp fun x σ h7 c hp => ?_
  exact hR (x, true) _ _ _ c hp
theorem K_gLab (cs : CsK2 S I) (hr : 0 ≤ root ∧ root ≤ 4000) (hn : R64 n) : ∀ h0 F σ R Q, Cx F h0 h0 [rSpace s σ] → wp (gLab p root n) σ Q → (∀ a σ' h' M, Cx F h0 h' (rSpace s σ' :: M) → Q a σ' → R (uE a) h') → F_graph_Graph_Label S I (vG p root) s (.int .i64 n) h0 R := by
  intro h0 F σ R Q c hp hR
  unfold F_graph_Graph_Label
  unfold gLab at hp
  refine c.nw EG (p, root) rfl fun rg h1 c => ?_
  rw [gW (i := 1) c rfl, vb_some]
  refine c.doesE (cs.vertex hr hn) (ens_is (p := p)) 0 rfl hp fun bb σ h3 hv c hp => ?_
  unfold uB
  rw [uno_nb, vb_some]
  cases bb with
  | false =>
    rw [if_neg (by simp)] at hp
    rw [Bool.not_false, br_true]
    exact hR (0, 10) _ _ _ c hp
  | true =>
    rw [if_pos rfl] at hp
    have hlt := node_lt' (hv rfl)
    rw [Bool.not_true, br_false]
    refine c.at' cs.toCsK0 (b := 1) ⟨by omega, by omega⟩ fun h6 c => ?_
    refine c.does cs.get 0 rfl hp fun x σ h7 c hp => ?_
    exact hR (x, 0) _ _ _ c hp
theorem K_gEdges (cs : CsK2 S I) (hr : 0 ≤ root ∧ root ≤ 4000) : ∀ h0 F σ R Q, Cx F h0 h0 [rSpace s σ] → wp (gt (root + 2)) σ Q → (∀ a σ' h' M, Cx F h0 h' (rSpace s σ' :: M) → Q a σ' → R (uI a) h') → F_graph_Graph_Edges S I (vG p root) s h0 R := by
  intro h0 F σ R Q c hp hR
  unfold F_graph_Graph_Edges
  refine c.nw EG (p, root) rfl fun rg h1 c => ?_
  refine (c.va (i := 1) rfl).fld (j := 3) rfl ?_
  refine vb (addI (by show R64 (root + 2); exact ⟨by omega, by omega⟩)) ?_
  refine c.last cs.get 0 rfl hp fun x σ h7 c hp => ?_
  exact hR _ _ _ _ c hp
/-- outgoing and incoming edges -/
abbrev ListQ : Type := Option (List (Int × Int)) × Int
theorem K_gOut (cs : CsK2 S I) (hr : 0 ≤ root ∧ root ≤ 4000) (hn : R64 n) (hp0 : 0 ≤ p.nodes ∧ p.nodes ≤ 1000) : ∀ h0 F σ (R : Value → Hp → Prop) (Q : ListQ → Spc → Prop), Cx F h0 h0 [rSpace s σ] → wp (gOut p root n) σ Q →
    (∀ (r : ListQ) σ' v h' M, Cx F h0 h' (rSpace s σ' :: rSl E2I v (r.1.getD []) :: M) → Q r σ' → R (.tuple #[v, .int .i64 r.2]) h') → F_graph_Graph_Out S I (vG p root) s (.int .i64 n) h0 R := by
  intro h0 F σ R Q c hp hR
  unfold F_graph_Graph_Out
  refine c.nw EG (p, root) rfl fun rg h1 c => ?_
  rw [gW (i := 1) c rfl, vb_some, vb_some]
  refine c.pur cs.out fun h2 c => ?_
  refine ⟨gW (i := 1) c rfl, ?_⟩
  obtain ⟨F1, c1, up⟩ := c.frame (i := 0) rfl
  refine cs.edges hr hn ⟨by decide, by decide⟩ ⟨by decide, by decide⟩ hp0 c1 hp fun r σ' v h' M c2 hq => ?_
  refine ext0t (ext1t ?_)
  exact hR r σ' v h' M (((up c2).perm (by
    show List.Perm (rSpace s σ' :: rVar EG rg (p, root) :: (rSl E2I v (r.1.getD []) :: M)) (rSpace s σ' :: rSl E2I v (r.1.getD []) :: (M ++ [rVar EG rg (p, root)]))
    refine List.Perm.cons _ ?_
    refine (List.Perm.swap _ _ _).trans (List.Perm.cons _ ?_)
    exact (List.perm_append_singleton _ _).symm)).drop (L := rSpace s σ' :: rSl E2I v (r.1.getD []) :: M) (L' := [_])) hq
theorem K_gIn (cs : CsK2 S I) (hr : 0 ≤ root ∧ root ≤ 4000) (hn : R64 n) (hp0 : 0 ≤ p.nodes ∧ p.nodes ≤ 1000) : ∀ h0 F σ (R : Value → Hp → Prop) (Q : ListQ → Spc → Prop), Cx F h0 h0 [rSpace s σ] → wp (gIn p root n) σ Q →
    (∀ (r : ListQ) σ' v h' M, Cx F h0 h' (rSpace s σ' :: rSl E2I v (r.1.getD []) :: M) → Q r σ' → R (.tuple #[v, .int .i64 r.2]) h') → F_graph_Graph_In S I (vG p root) s (.int .i64 n) h0 R := by
  intro h0 F σ R Q c hp hR
  unfold F_graph_Graph_In
  refine c.nw EG (p, root) rfl fun rg h1 c => ?_
  rw [gW (i := 1) c rfl, vb_some, vb_some]
  refine c.pur cs.in' fun h2 c => ?_
  refine ⟨gW (i := 1) c rfl, ?_⟩
  obtain ⟨F1, c1, up⟩ := c.frame (i := 0) rfl
  refine cs.edges hr hn ⟨by decide, by decide⟩ ⟨by decide, by decide⟩ hp0 c1 hp fun r σ' v h' M c2 hq => ?_
  refine ext0t (ext1t ?_)
  exact hR r σ' v h' M (((up c2).perm (by
    show List.Perm (rSpace s σ' :: rVar EG rg (p, root) :: (rSl E2I v (r.1.getD []) :: M)) (rSpace s σ' :: rSl E2I v (r.1.getD []) :: (M ++ [rVar EG rg (p, root)]))
    refine List.Perm.cons _ ?_
    refine (List.Perm.swap _ _ _).trans (List.Perm.cons _ ?_)
    exact (List.perm_append_singleton _ _).symm)).drop (L := rSpace s σ' :: rSl E2I v (r.1.getD []) :: M) (L' := [_])) hq
end
end Go.En
