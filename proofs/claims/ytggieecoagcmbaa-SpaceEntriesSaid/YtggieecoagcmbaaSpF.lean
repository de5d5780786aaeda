/-
  Layer 31: the pool.
-/
import Derived.Test.YtggieecoagcmbaaSpE
namespace Go.En
open Prog Spc

variable {S : Sys} {I : Ids} {h h0 h' : Hp} {F F0 : Fp} {R : Value → Hp → Prop} {s : Value} {σ : Spc} {L : List Res}

structure Pl where
  root : Int
  frm : Int
  nodes : Int
def EPl : Enc Pl := { n := 3, c := fun p => [.int .i64 p.root, .int .i64 p.frm, .int .i64 p.nodes], len := fun _ => rfl, one := fun a v h => by simp only [List.mem_cons, List.not_mem_nil, or_false] at h; rcases h with rfl | rfl | rfl <;> rfl }
def vP (p : Pl) : Value := .agg ⟨EPl.c p⟩
structure Pl.good (p : Pl) : Prop where
  r0 : 0 ≤ p.root
  f1 : 1 ≤ p.frm
  n0 : 0 ≤ p.nodes
  n1 : p.nodes ≤ 128
  r1 : p.root ≤ 4093
  f2 : p.frm + 8 * p.nodes ≤ 4096
  ap : p.nodes = 0 ∨ p.root + 3 ≤ p.frm ∨ p.frm + 8 * p.nodes ≤ p.root
instance (p : Pl) : Decidable p.good := decidable_of_iff (0 ≤ p.root ∧ 1 ≤ p.frm ∧ 0 ≤ p.nodes ∧ p.nodes ≤ 128 ∧ p.root ≤ 4093 ∧ p.frm + 8 * p.nodes ≤ 4096 ∧ (p.nodes = 0 ∨ p.root + 3 ≤ p.frm ∨ p.frm + 8 * p.nodes ≤ p.root))
  ⟨fun ⟨a, b, c, d, e, f, g⟩ => ⟨a, b, c, d, e, f, g⟩, fun ⟨a, b, c, d, e, f, g⟩ => ⟨a, b, c, d, e, f, g⟩⟩

/-- a function that gives a value and turns nothing -/
def Pur (S : Sys) (f : Nat) (args : List Value) (v : Value) : Prop := ∀ h R, (∀ h', Gr h h' → R v h') → S.C f args h R
theorem Cx.pur {f : Nat} {args : List Value} {v : Value} (D : Pur S f args v) (c : Cx F0 h0 h L) (k : ∀ h', Cx F0 h0 h' L → R v h') : S.C f args h R := D h R fun h' g => k h' (c.more g)
theorem Pur.of {f : Nat} {args : List Value} {v : Value} (H : ∀ h R, Cx (fun _ => False) h h [] → (∀ h' M, Cx (fun _ => False) h h' M → R v h') → S.C f args h R) : Pur S f args v :=
  fun h R hR => H h R (Cx.start0 h) fun h' _ c => hR h' c.gr

/-- the fields of a pool -/
theorem pl0 {i r : Nat} {p : Pl} (c : Cx F0 h0 h L) (hi : L[i]? = some (rVar EPl r p)) : ldc (.pointer (some ⟨r, 0 + 0, none⟩)) h = some (.int .i64 p.root) := (c.va hi).row.ldc (j := 0) rfl
theorem pl1 {i r : Nat} {p : Pl} (c : Cx F0 h0 h L) (hi : L[i]? = some (rVar EPl r p)) : ldc (.pointer (some ⟨r, 0 + 1, none⟩)) h = some (.int .i64 p.frm) := (c.va hi).row.ldc (j := 1) rfl
theorem pl2 {i r : Nat} {p : Pl} (c : Cx F0 h0 h L) (hi : L[i]? = some (rVar EPl r p)) : ldc (.pointer (some ⟨r, 0 + 2, none⟩)) h = some (.int .i64 p.nodes) := (c.va hi).row.ldc (j := 2) rfl
theorem plA {i r : Nat} {p : Pl} (c : Cx F0 h0 h L) (hi : L[i]? = some (rVar EPl r p)) : lda 3 (.pointer (some ⟨r, 0, none⟩)) h = some (vP p) := (c.va hi).whole rfl

theorem K_Check {p : Pl} : ∀ h R, Cx (fun _ => False) h h [] → (∀ h' M, Cx (fun _ => False) h h' M → R (.int .i64 (if p.good then 0 else 1)) h') → F_pool_Pool_Check S I (vP p) h R := by
  intro h R c hR
  unfold F_pool_Pool_Check
  refine c.nw EPl p rfl fun r h1 c => ?_
  have e0 := pl0 (i := 0) c rfl
  have e1 := pl1 (i := 0) c rfl
  have e2 := pl2 (i := 0) c rfl
  have hR := hR _ _ c
  repeat' first
    | refine Jn1.here ?_
    | simp only [go_sem, e0, e1, e2]
    | rw [wr64 (n := 8 * p.nodes) (by omega)]
    | rw [wr64 (n := 4096 - 8 * p.nodes) (by omega)]
    | rw [wr64 (n := p.root + 3) (by omega)]
    | rw [wr64 (n := p.frm + 8 * p.nodes) (by omega)]
    | refine brd (fun _ => ?_) (fun _ => ?_)
  all_goals first
    | (rw [if_pos ⟨by omega, by omega, by omega, by omega, by omega, by omega, by omega⟩] at hR; exact hR)
    | (rw [if_neg (fun ⟨a, b, c, d, e, f, g⟩ => by omega)] at hR; exact hR)

def Pl.node (p : Pl) (a : Int) : Option Int := if p.good ∧ p.frm ≤ a ∧ (a - p.frm) % 8 = 0 ∧ (a - p.frm) / 8 < p.nodes then some ((a - p.frm) / 8) else none
def vN (o : Option Int) : Value := .tuple #[.int .i64 (o.getD 0), .bool o.isSome]
theorem node_some {p : Pl} {a n : Int} (h : p.node a = some n) : p.good ∧ a = p.frm + 8 * n ∧ 0 ≤ n ∧ n < p.nodes := by
  unfold Pl.node at h
  split at h
  · rename_i g
    simp only [Option.some.injEq] at h
    exact ⟨g.1, by omega, by omega, by omega⟩
  · cases h
theorem node_at {p : Pl} (g : p.good) {n : Int} (h0 : 0 ≤ n) (h1 : n < p.nodes) : p.node (p.frm + 8 * n) = some n := by
  unfold Pl.node
  rw [if_pos ⟨g, by omega, by omega, by omega⟩]
  congr 1; omega
theorem node_lt {p : Pl} {a n : Int} (h : p.node a = some n) : 1 ≤ a ∧ a ≤ 4088 := by
  obtain ⟨g, e, h0, h1⟩ := node_some h
  have := g.f1; have := g.f2; have := g.n1; omega

structure CsP (S : Sys) (I : Ids) : Prop extends CsD S I where
  check : ∀ {p : Pl}, Pur S I.f_pool_Pool_Check [vP p] (.int .i64 (if p.good then 0 else 1))

theorem K_Node {p : Pl} {a : Int} (ha : R64 a) (cs : CsP S I) : ∀ h R, Cx (fun _ => False) h h [] → (∀ h' M, Cx (fun _ => False) h h' M → R (vN (p.node a)) h') → F_pool_Pool_Node S I (vP p) (.int .i64 a) h R := by
  intro h R c hR
  unfold F_pool_Pool_Node
  refine c.nw EPl p rfl fun r h1 c => ?_
  refine .here ?_
  rw [plA (i := 0) c rfl]
  simp only [go_sem]
  refine c.pur cs.check fun h2 c => ?_
  have e1 := pl1 (i := 0) c rfl
  have e2 := pl2 (i := 0) c rfl
  have hR := hR _ _ c
  unfold Pl.node at hR
  simp only [go_sem, e1, e2]
  by_cases g : p.good
  · have := g.f1; have := g.f2; have := g.n1; have := g.n0
    simp only [g, if_true, true_and] at hR ⊢
    simp only [ne_eq, not_true_eq_false, decide_false, go_sem]
    refine brd (fun h3 => ?_) fun h3 => ?_
    · rw [if_neg (fun e => by omega)] at hR; exact hR
    · rw [wr64 (n := a - p.frm) (by omega), bin_rem (by omega), bin_quo (by omega)]
      simp only [go_sem]
      rw [Int.tmod_eq_emod_of_nonneg (by omega), Int.tdiv_eq_ediv_of_nonneg (by omega), wr64 (n := (a - p.frm) / 8) (by omega)]
      refine brd (fun h4 => ?_) fun h4 => ?_
      · rw [if_neg (fun e => h4 e.2.1)] at hR; exact hR
      · refine brd (fun h5 => ?_) fun h5 => ?_
        · rw [if_neg (fun e => by omega)] at hR; exact hR
        · rw [if_pos ⟨by omega, by omega, by omega⟩] at hR; exact hR
  · simp only [g, if_false, false_and] at hR ⊢
    simp only [ne_eq, Int.one_ne_zero, not_false_eq_true, decide_true, go_sem]
    exact hR
end Go.En
