/-
  Layer 31: the pool: allocation and release as programs.
-/
import Derived.Test.YtggieecoagcmbaaSpF
namespace Go.En
open Prog Spc

variable {S : Sys} {I : Ids} {h h0 h' : Hp} {F F0 : Fp} {R : Value → Hp → Prop} {s : Value} {σ : Spc} {L : List Res}

def uE (x : Int × Int) : Value := .tuple #[.int .i64 x.1, .int .i64 x.2]
@[go_sem] theorem uE_def (x : Int × Int) : uE x = .tuple #[.int .i64 x.1, .int .i64 x.2] := rfl

def pAdd (p : Pl) (k n : Int) : Prog Unit := do
  let v ← gt (p.root + k)
  pt (p.root + k) (w64 (v + n))
def pTake (p : Pl) : Prog (Int × Int) :=
  if p.good then do
    let first ← gt p.root
    if first ≠ 0 then
      if (p.node first).isSome then do
        let nx ← gt first
        pt p.root nx
        pAdd p 2 (-1)
        pure (first, 0)
      else pure (0, 24)
    else do
      let n ← gt (p.root + 1)
      if n < 0 ∨ p.nodes ≤ n then pure (0, 9)
      else do
        pt (p.root + 1) (n + 1)
        pure (p.frm + 8 * n, 0)
  else pure (0, 1)
def pGive (p : Pl) (a : Int) : Prog Int :=
  if (p.node a).isSome then do
    let r ← gt p.root
    pt a r
    pt p.root a
    pAdd p 2 1
    pure 0
  else pure 1
def pLeft (p : Pl) : Prog Int :=
  if p.good then do
    let f ← gt (p.root + 2)
    let o ← gt (p.root + 1)
    pure (max (w64 (w64 (f + p.nodes) - o)) 0)
  else pure 0

@[go_sem] theorem mx_int (a b : Int) : mx (.int .i64 a) (.int .i64 b) = some (.int .i64 (max a b)) := by
  simp only [mx]; rw [Int.max_def]; split <;> split <;> first | rfl | (congr 2; omega)
structure CsQ (S : Sys) (I : Ids) : Prop extends CsP S I where
  node : ∀ {p : Pl} {a : Int}, R64 a → Pur S I.f_pool_Pool_Node [vP p, .int .i64 a] (vN (p.node a))

theorem K_add {p : Pl} {k n : Int} (cs : CsQ S I) (hr : 0 ≤ p.root ∧ p.root ≤ 4093) (hk : 0 ≤ k ∧ k ≤ 2) :
    ∀ h0 F σ R Q, Cx F h0 h0 [rSpace s σ] → wp (pAdd p k n) σ Q → (∀ a σ' h' M, Cx F h0 h' (rSpace s σ' :: M) → Q a σ' → R (uU a) h') → F_pool_Pool_add S I (vP p) s (.int .i64 k) (.int .i64 n) h0 R := by
  intro h0 F σ R Q c hp hR
  unfold F_pool_Pool_add
  refine c.nw EPl p rfl fun r h1 c => ?_
  simp only [go_sem, pl0 (i := 1) c rfl]
  rw [wr64 (n := p.root + k) (by omega)]
  refine c.does cs.get 0 rfl hp fun v σ h2 c hp => ?_
  refine ⟨pl0 (i := 1) c rfl, ?_⟩
  simp only [go_sem]
  refine c.last cs.put 0 rfl hp fun _ σ h3 c hp => ?_
  exact hR _ _ _ _ c hp

structure CsR (S : Sys) (I : Ids) : Prop extends CsQ S I where
  add : ∀ {p : Pl} {k n : Int} {s}, 0 ≤ p.root ∧ p.root ≤ 4093 → 0 ≤ k ∧ k ≤ 2 → Does S I.f_pool_Pool_add [vP p, s, .int .i64 k, .int .i64 n] s (pAdd p k n) uU

theorem K_Take {p : Pl} (cs : CsR S I) :
    ∀ h0 F σ R Q, Cx F h0 h0 [rSpace s σ] → wp (pTake p) σ Q → (∀ a σ' h' M, Cx F h0 h' (rSpace s σ' :: M) → Q a σ' → R (uE a) h') → F_pool_Pool_Take S I (vP p) s h0 R := by
  intro h0 F σ R Q c hp hR
  unfold F_pool_Pool_Take
  refine c.nw EPl p rfl fun r h1 c => ?_
  rw [plA (i := 1) c rfl]
  simp only [go_sem]
  refine c.pur cs.check fun h2 c => ?_
  unfold pTake at hp
  by_cases g : p.good
  · have := g.f1; have := g.f2; have := g.n1; have := g.n0; have := g.r0; have := g.r1
    simp only [g, if_true] at hp ⊢
    simp only [go_sem, pl0 (i := 1) c rfl, ne_eq, not_true_eq_false, decide_false]
    refine c.doesE cs.get (Ens.gt _) 0 rfl hp fun v σ h2 hv c hp => ?_
    simp only [go_sem]
    refine brd (fun h3 => ?_) fun h3 => ?_
    · rw [if_pos h3] at hp
      rw [plA (i := 1) c rfl]
      simp only [go_sem]
      refine c.pur (cs.node hv) fun h4 c => ?_
      simp only [vN, go_sem]
      cases hn : p.node v with
      | none =>
        simp only [hn, Option.isSome_none, Bool.false_eq_true, if_false] at hp
        simp only [Option.isSome_none, Bool.not_false, go_sem]
        exact hR _ _ _ _ c hp
      | some n =>
        simp only [hn, Option.isSome_some, if_true] at hp
        simp only [Option.isSome_some, Bool.not_true, go_sem, pl0 (i := 1) c rfl]
        refine c.does cs.get 0 rfl hp fun nx σ h5 c hp => ?_
        refine ⟨pl0 (i := 1) c rfl, ?_⟩
        refine c.does cs.put 0 rfl hp fun _ σ h6 c hp => ?_
        rw [plA (i := 1) c rfl]
        simp only [go_sem]
        refine c.does (cs.add ⟨by omega, by omega⟩ ⟨by omega, by omega⟩) 0 rfl hp fun _ σ h7 c hp => ?_
        exact hR _ _ _ _ c hp
    · rw [if_neg h3] at hp
      simp only [go_sem, pl0 (i := 1) c rfl]
      rw [wr64 (n := p.root + 1) (by omega)]
      refine c.doesE cs.get (Ens.gt _) 0 rfl hp fun n σ h4 hn c hp => ?_
      refine .here ?_
      simp only [go_sem]
      have hfull : n < 0 ∨ p.nodes ≤ n → R (.tuple #[.int .i64 0, .int .i64 9]) h4 := fun e => by
        rw [if_pos e] at hp
        exact hR _ _ _ _ c hp
      refine brd (fun h5 => hfull (.inl h5)) fun h5 => ?_
      simp only [go_sem, pl2 (i := 1) c rfl]
      refine brd (fun h6 => hfull (.inr h6)) fun h6 => ?_
      rw [if_neg (by omega)] at hp
      simp only [go_sem, pl0 (i := 1) c rfl]
      rw [wr64 (n := p.root + 1) (by omega), wr64 (n := n + 1) (by omega)]
      refine c.does cs.put 0 rfl hp fun _ σ h7 c hp => ?_
      simp only [go_sem, pl1 (i := 1) c rfl]
      rw [wr64 (n := 8 * n) (by omega), wr64 (n := p.frm + 8 * n) (by omega)]
      exact hR _ _ _ _ c hp
  · simp only [g, if_false] at hp ⊢
    simp only [ne_eq, Int.one_ne_zero, not_false_eq_true, decide_true, go_sem]
    exact hR _ _ _ _ c hp

theorem K_Give {p : Pl} {a : Int} (ha : R64 a) (cs : CsR S I) :
    ∀ h0 F σ R Q, Cx F h0 h0 [rSpace s σ] → wp (pGive p a) σ Q → (∀ a σ' h' M, Cx F h0 h' (rSpace s σ' :: M) → Q a σ' → R (uI a) h') → F_pool_Pool_Give S I (vP p) s (.int .i64 a) h0 R := by
  intro h0 F σ R Q c hp hR
  unfold F_pool_Pool_Give
  refine c.nw EPl p rfl fun r h1 c => ?_
  rw [plA (i := 1) c rfl]
  simp only [go_sem]
  refine c.pur (cs.node ha) fun h2 c => ?_
  simp only [vN, go_sem]
  unfold pGive at hp
  cases hn : p.node a with
  | none =>
    simp only [hn, Option.isSome_none, Bool.false_eq_true, if_false] at hp
    simp only [Option.isSome_none, Bool.not_false, go_sem]
    exact hR _ _ _ _ c hp
  | some n =>
    obtain ⟨g, _⟩ := node_some hn
    have := g.r0; have := g.r1
    simp only [hn, Option.isSome_some, if_true] at hp
    simp only [Option.isSome_some, Bool.not_true, go_sem, pl0 (i := 1) c rfl]
    refine c.does cs.get 0 rfl hp fun v σ h3 c hp => ?_
    refine c.does cs.put 0 rfl hp fun _ σ h4 c hp => ?_
    simp only [go_sem, pl0 (i := 1) c rfl]
    refine c.does cs.put 0 rfl hp fun _ σ h5 c hp => ?_
    rw [plA (i := 1) c rfl]
    simp only [go_sem]
    refine c.does (cs.add ⟨by omega, by omega⟩ ⟨by omega, by omega⟩) 0 rfl hp fun _ σ h7 c hp => ?_
    exact hR _ _ _ _ c hp

theorem K_Left {p : Pl} (cs : CsR S I) :
    ∀ h0 F σ R Q, Cx F h0 h0 [rSpace s σ] → wp (pLeft p) σ Q → (∀ a σ' h' M, Cx F h0 h' (rSpace s σ' :: M) → Q a σ' → R (uI a) h') → F_pool_Pool_Left S I (vP p) s h0 R := by
  intro h0 F σ R Q c hp hR
  unfold F_pool_Pool_Left
  refine c.nw EPl p rfl fun r h1 c => ?_
  rw [plA (i := 1) c rfl]
  simp only [go_sem]
  refine c.pur cs.check fun h2 c => ?_
  unfold pLeft at hp
  by_cases g : p.good
  · have := g.f1; have := g.f2; have := g.n1; have := g.n0; have := g.r0; have := g.r1
    simp only [g, if_true] at hp ⊢
    simp only [go_sem, pl0 (i := 1) c rfl, pl2 (i := 1) c rfl, ne_eq, not_true_eq_false, decide_false]
    rw [wr64 (n := p.root + 2) (by omega), wr64 (n := p.root + 1) (by omega)]
    refine c.does cs.get 0 rfl hp fun f σ h3 c hp => ?_
    refine ⟨pl0 (i := 1) c rfl, pl2 (i := 1) c rfl, ?_⟩
    simp only [go_sem]
    refine c.does cs.get 0 rfl hp fun o σ h4 c hp => ?_
    refine ⟨pl2 (i := 1) c rfl, ?_⟩
    simp only [uI, go_sem]
    exact hR _ _ _ _ c hp
  · simp only [g, if_false] at hp ⊢
    simp only [ne_eq, Int.one_ne_zero, not_false_eq_true, decide_true, go_sem]
    exact hR _ _ _ _ c hp

structure CsT (S : Sys) (I : Ids) : Prop extends CsR S I where
  take : ∀ {p : Pl} {s}, Does S I.f_pool_Pool_Take [vP p, s] s (pTake p) uE
  give : ∀ {p : Pl} {a : Int} {s}, R64 a → Does S I.f_pool_Pool_Give [vP p, s, .int .i64 a] s (pGive p a) uI
  left : ∀ {p : Pl} {s}, Does S I.f_pool_Pool_Left [vP p, s] s (pLeft p) uI

theorem Ens.ite {α : Type} {c : Prop} [Decidable c] {p q : Prog α} {P : α → Prop} (h1 : c → Ens p P) (h2 : ¬c → Ens q P) : Ens (if c then p else q) P := by
  split
  · exact h1 (by assumption)
  · exact h2 (by assumption)
theorem Ens.then {α β : Type} {p : Prog α} {f : α → Prog β} {P' : β → Prop} (h' : ∀ a, Ens (f a) P') : Ens (p >>= f) P' := Ens.bind (Ens.any p) fun a _ => h' a
/-- what an allocation gives -/
theorem Ens.take (p : Pl) : Ens (pTake p) fun r => (r.2 = 0 ∧ (p.node r.1).isSome = true) ∨ (r.1 = 0 ∧ (r.2 = 1 ∨ r.2 = 9 ∨ r.2 = 24)) := by
  unfold pTake
  refine .ite (fun g => ?_) fun _ => .pure (.inr ⟨rfl, .inl rfl⟩)
  refine .then fun first => .ite (fun _ => .ite (fun hn => ?_) fun _ => .pure (.inr ⟨rfl, .inr (.inr rfl)⟩)) fun _ => ?_
  · exact .then fun _ => .then fun _ => .then fun _ => .pure (.inl ⟨rfl, hn⟩)
  · refine .then fun n => .ite (fun _ => .pure (.inr ⟨rfl, .inr (.inl rfl)⟩)) fun hn => .then fun _ => .pure (.inl ⟨rfl, ?_⟩)
    rw [node_at g (by omega) (by omega)]; rfl
end Go.En
