/-
  Layer 34: the queue's functions as programs.
-/
import Derived.Test.YtggieecoagcmbaaSpH
namespace Go.En
open Prog Spc

variable {S : Sys} {I : Ids} {h h0 h' : Hp} {F F0 : Fp} {R : Value → Hp → Prop} {s : Value} {σ : Spc} {L : List Res}

/-- what happens at the end: back to the mark, on error -/
def unP (e m : Int) : Prog Unit := if e ≠ 0 then bk m else pure ()
def qTail (root a v : Int) : Prog Int := do
  pt a v
  pt (a + 1) 0
  pt (root + 1) a
  let n ← gt (root + 7)
  pt (root + 7) (w64 (n + 1))
  unP 0 0
  pure 0
def qPut (p : Pl) (root v : Int) : Prog Int := do
  let m ← mk
  let r ← pTake p
  if r.2 ≠ 0 then do
    unP r.2 m
    pure r.2
  else do
    let en ← gt (root + 1)
    if en = 0 then do
      pt root r.1
      qTail root r.1 v
    else if (p.node en).isSome then do
      pt (en + 1) r.1
      qTail root r.1 v
    else do
      unP 24 m
      pure 24
def qEnd (root v : Int) : Prog (Int × Int) := do
  let n ← gt (root + 7)
  pt (root + 7) (w64 (n - 1))
  unP 0 0
  pure (v, 0)
def qTake (p : Pl) (root : Int) : Prog (Int × Int) := do
  let m ← mk
  let a ← gt root
  if a = 0 then do
    unP 8 m
    pure (0, 8)
  else if (p.node a).isSome then do
    let v ← gt a
    let nx ← gt (a + 1)
    let e ← pGive p a
    if e ≠ 0 then do
      unP e m
      pure (0, e)
    else do
      pt root nx
      if nx = 0 then do
        pt (root + 1) 0
        qEnd root v
      else qEnd root v
  else do
    unP 24 m
    pure (0, 24)
def qFirst (root : Int) : Prog (Int × Int) := do
  let a ← gt root
  if a = 0 then pure (0, 8) else do
    let v ← gt a
    pure (v, 0)
def qLoop (p : Pl) : Nat → Int → List Int → Prog (Option (List Int))
  | 0, a, acc => pure (if a = 0 then some acc else none)
  | n + 1, a, acc => if a = 0 then pure (some acc) else if (p.node a).isSome then do
      let v ← gt a
      let nx ← gt (a + 1)
      qLoop p n nx (acc ++ [v])
    else pure none
def qWalk (p : Pl) (root : Int) : Prog (Option (List Int)) := do
  let a ← gt root
  qLoop p p.nodes.toNat a []

structure CsU (S : Sys) (I : Ids) : Prop extends CsT S I where
  isNode : ∀ {p : Pl} {a : Int}, R64 a → Pur S I.f_queue_isNode [vP p, .int .i64 a] (.bool (p.node a).isSome)
  undo : ∀ {s h F σ r} {e m : Int} {R : Hp → Prop}, (rSpace s σ).P h F → Va EI1 h r e → (∀ h' F', (rSpace s (if e ≠ 0 then σ.back m else σ)).P h' F' → Mv F h F' h' → R h') → S.D I.f_queue_undo [s, .int .i64 m, at0 r] h R

theorem K_isNode {p : Pl} {a : Int} (ha : R64 a) (cs : CsT S I) : ∀ h R, Cx (fun _ => False) h h [] → (∀ h' M, Cx (fun _ => False) h h' M → R (.bool (p.node a).isSome) h') → F_queue_isNode S I (vP p) (.int .i64 a) h R := by
  intro h R c hR
  unfold F_queue_isNode
  refine c.nw EPl p rfl fun r h1 c => ?_
  rw [plA (i := 0) c rfl]
  simp only [go_sem]
  refine c.pur (cs.node ha) fun h2 c => ?_
  simp only [vN, go_sem]
  exact hR _ _ c

theorem K_undo (cs : CsT S I) {r : Nat} {e m : Int} {R : Hp → Prop} (a : (rSpace s σ).P h F) (hv : Va EI1 h r e) (hR : ∀ h' F', (rSpace s (if e ≠ 0 then σ.back m else σ)).P h' F' → Mv F h F' h' → R h') :
    F_queue_undo S I s (.int .i64 m) (at0 r) h fun _ h => R h := by
  unfold F_queue_undo
  refine nckb ?_
  rw [hv.one rfl]
  simp only [go_sem]
  refine brd (fun h1 => ?_) fun h1 => ?_
  · rw [if_pos h1] at hR
    have c := Cx.start a
    exact c.last cs.back 0 rfl (Q := fun _ σ' => σ' = σ.back m) rfl fun _ σ' h' c e => let ⟨F', a', m⟩ := c.fin; hR _ _ (e ▸ a') m
  · rw [if_neg h1] at hR
    exact hR _ _ a (.refl _ _)

theorem Cx.undo {β : Type} {r : Nat} {e m : Int} {R : Hp → Prop} {q : Unit → Prog β} {Q : β → Spc → Prop} (cs : CsU S I) (c : Cx F0 h0 h L) (i : Nat) (hi : L[i]? = some (rSpace s σ)) (j : Nat) (hj : L[j]? = some (rVar EI1 r e))
    (hp : wp (unP e m >>= q) σ Q) (k : ∀ σ' h', Cx F0 h0 h' (L.set i (rSpace s σ')) → wp (q ()) σ' Q → R h') : S.D I.f_queue_undo [s, .int .i64 m, at0 r] h R := by
  obtain ⟨F, a, up⟩ := c.upd hi
  refine cs.undo a (c.va hj) fun h' F' a' mv => k _ _ (up a' mv) ?_
  rw [Prog.wp_bind] at hp
  unfold unP at hp
  split at hp
  · rename_i he; rw [if_pos he]; exact hp
  · rename_i he; rw [if_neg he]; exact hp
theorem unP0 (m m' : Int) : unP 0 m = unP 0 m' := rfl

theorem K_qPut {p : Pl} {root v : Int} (cs : CsU S I) (hr : 0 ≤ root ∧ root ≤ 1000000) (hv : R64 v) :
    ∀ h0 F σ R Q, Cx F h0 h0 [rSpace s σ] → wp (qPut p root v) σ Q → (∀ a σ' h' M, Cx F h0 h' (rSpace s σ' :: M) → Q a σ' → R (uI a) h') → F_queue_Put S I s (vP p) (.int .i64 root) (.int .i64 v) h0 R := by
  intro h0 F σ R Q c hp hR
  unfold F_queue_Put
  refine c.nw EPl p rfl fun rp h1 c => ?_
  refine c.nw EI1 0 rfl fun re h1 c => ?_
  refine c.doesE cs.mark Ens.mk 0 rfl hp fun m σ h1 hm c hp => ?_
  rw [plA (i := 1) c rfl]
  simp only [go_sem]
  refine c.doesE cs.take (Ens.take p) 0 rfl hp fun r σ h1 hE c hp => ?_
  simp only [go_sem]
  refine c.sto1 2 rfl r.2 rfl rfl fun h1 c => ?_
  rw [(c.va (i := 2) rfl).one rfl]
  simp only [go_sem]
  refine brd (fun h3 => ?_) fun h3 => ?_
  · rw [if_pos h3] at hp
    refine c.undo cs 0 rfl 2 rfl hp fun σ h1 c hp => ?_
    exact hR _ _ _ _ c hp
  · rw [if_neg h3] at hp
    have hnode : (p.node r.1).isSome = true := by
      rcases hE with h | h
      · exact h.2
      · rcases h.2 with h | h | h <;> omega
    obtain ⟨nn, hnn⟩ := Option.isSome_iff_exists.1 hnode
    have hlt := node_lt hnn
    rw [wr64 (n := root + 1) (by omega)]
    refine c.doesE cs.get (Ens.gt _) 0 rfl hp fun en σ h1 hen c hp => ?_
    have hr2 : r.2 = 0 := by omega
    rw [hr2] at c
    refine Jn0.at (fun h => ∃ σ, Cx F h0 h [rSpace s σ, rVar EPl rp p, rVar EI1 re 0] ∧ wp (qTail root r.1 v) σ Q) ?_ ?_
    · simp only [go_sem]
      refine brd (fun h4 => ?_) fun h4 => ?_
      · rw [if_pos h4] at hp
        rw [wr64 (n := root + 0) (by omega), Int.add_zero]
        refine c.does cs.put 0 rfl hp fun _ σ h1 c hp => ?_
        exact ⟨σ, c, hp⟩
      · rw [if_neg h4] at hp
        rw [plA (i := 1) c rfl]
        simp only [go_sem]
        refine c.pur (cs.isNode hen) fun h1 c => ?_
        simp only [go_sem]
        cases hn : p.node en with
        | none =>
          simp only [hn, Option.isSome_none, Bool.false_eq_true, if_false] at hp
          simp only [Option.isSome_none, Bool.not_false, go_sem]
          refine c.sto1 2 rfl 24 rfl rfl fun h1 c => ?_
          rw [(c.va (i := 2) rfl).one rfl]
          simp only [go_sem]
          refine c.undo cs 0 rfl 2 rfl hp fun σ h1 c hp => ?_
          exact hR _ _ _ _ c hp
        | some n =>
          have := node_lt hn
          simp only [hn, Option.isSome_some, if_true] at hp
          simp only [Option.isSome_some, Bool.not_true, go_sem]
          rw [wr64 (n := en + 1) (by omega)]
          refine c.does cs.put 0 rfl hp fun _ σ h1 c hp => ?_
          exact ⟨σ, c, hp⟩
    · rintro h1 ⟨σ, c, hp⟩
      unfold qTail at hp
      try simp only [go_sem]
      simp only [wr64 (n := r.1) (by omega), Int.add_zero, wr64 (n := r.1 + 1) (by omega), wr64 (n := root + 1) (by omega), wr64 (n := root + 7) (by omega)]
      refine c.does cs.put 0 rfl hp fun _ σ h1 c hp => ?_
      refine c.does cs.put 0 rfl hp fun _ σ h1 c hp => ?_
      refine c.does cs.put 0 rfl hp fun _ σ h1 c hp => ?_
      refine c.does cs.get 0 rfl hp fun n σ h1 c hp => ?_
      simp only [go_sem]
      refine c.does cs.put 0 rfl hp fun _ σ h1 c hp => ?_
      rw [(c.va (i := 2) rfl).one rfl]
      simp only [go_sem]
      rw [unP0 0 m] at hp
      refine c.undo cs 0 rfl 2 rfl hp fun σ h1 c hp => ?_
      exact hR _ _ _ _ c hp

theorem ens_give (p : Pl) (a : Int) : Ens (pGive p a) fun e => (e = 0 ∧ (p.node a).isSome = true) ∨ (e = 1 ∧ (p.node a).isSome = false) := by
  unfold pGive
  refine .ite (fun h => .then fun _ => .then fun _ => .then fun _ => .then fun _ => .pure (.inl ⟨rfl, h⟩)) fun h => .pure (.inr ⟨rfl, by simpa using h⟩)

theorem K_qTake {p : Pl} {root : Int} (cs : CsU S I) (hr : 0 ≤ root ∧ root ≤ 1000000) :
    ∀ h0 F σ R Q, Cx F h0 h0 [rSpace s σ] → wp (qTake p root) σ Q → (∀ a σ' h' M, Cx F h0 h' (rSpace s σ' :: M) → Q a σ' → R (uE a) h') → F_queue_Take S I s (vP p) (.int .i64 root) h0 R := by
  intro h0 F σ R Q c hp hR
  unfold F_queue_Take
  refine c.nw EPl p rfl fun rp h1 c => ?_
  refine c.nw EI1 0 rfl fun re h1 c => ?_
  refine c.doesE cs.mark Ens.mk 0 rfl hp fun m σ h1 hm c hp => ?_
  simp only [go_sem]
  rw [wr64 (n := root + 0) (by omega), Int.add_zero, wr64 (n := root + 1) (by omega), wr64 (n := root + 7) (by omega)]
  refine c.doesE cs.get (Ens.gt _) 0 rfl hp fun a σ h1 ha c hp => ?_
  simp only [go_sem]
  refine brd (fun h3 => ?_) fun h3 => ?_
  · rw [if_pos h3] at hp
    refine c.sto1 2 rfl 8 rfl rfl fun h1 c => ?_
    rw [(c.va (i := 2) rfl).one rfl]
    simp only [go_sem]
    refine c.undo cs 0 rfl 2 rfl hp fun σ h1 c hp => ?_
    exact hR _ _ _ _ c hp
  rw [if_neg h3] at hp
  rw [plA (i := 1) c rfl]
  simp only [go_sem]
  refine c.pur (cs.isNode ha) fun h1 c => ?_
  simp only [go_sem]
  cases hn : p.node a with
  | none =>
    simp only [hn, Option.isSome_none, Bool.false_eq_true, if_false] at hp
    simp only [Option.isSome_none, Bool.not_false, go_sem]
    refine c.sto1 2 rfl 24 rfl rfl fun h1 c => ?_
    rw [(c.va (i := 2) rfl).one rfl]
    simp only [go_sem]
    refine c.undo cs 0 rfl 2 rfl hp fun σ h1 c hp => ?_
    exact hR _ _ _ _ c hp
  | some n =>
    have := node_lt hn
    simp only [hn, Option.isSome_some, if_true] at hp
    simp only [Option.isSome_some, Bool.not_true, go_sem]
    rw [wr64 (n := a + 0) (by omega), Int.add_zero, wr64 (n := a + 1) (by omega)]
    refine c.does cs.get 0 rfl hp fun v σ h1 c hp => ?_
    refine c.doesE cs.get (Ens.gt _) 0 rfl hp fun nx σ h1 hnx c hp => ?_
    rw [plA (i := 1) c rfl]
    simp only [go_sem]
    refine c.does (cs.give ha) 0 rfl hp fun e σ h1 c hp => ?_
    simp only [go_sem]
    refine c.sto1 2 rfl e rfl rfl fun h1 c => ?_
    rw [(c.va (i := 2) rfl).one rfl]
    simp only [go_sem]
    refine brd (fun h4 => ?_) fun h4 => ?_
    · rw [if_pos h4] at hp
      refine c.undo cs 0 rfl 2 rfl hp fun σ h1 c hp => ?_
      exact hR _ _ _ _ c hp
    · rw [if_neg h4] at hp
      have he : e = 0 := by omega
      subst he
      refine c.does cs.put 0 rfl hp fun _ σ h1 c hp => ?_
      refine Jn0.at (fun h => ∃ σ, Cx F h0 h [rSpace s σ, rVar EPl rp p, rVar EI1 re 0] ∧ wp (qEnd root v) σ Q) ?_ ?_
      · simp only [go_sem]
        refine brd (fun h5 => ?_) fun h5 => ?_
        · rw [if_pos h5] at hp
          refine c.does cs.put 0 rfl hp fun _ σ h1 c hp => ?_
          exact ⟨σ, c, hp⟩
        · rw [if_neg h5] at hp
          exact ⟨σ, c, hp⟩
      · rintro h1 ⟨σ, c, hp⟩
        unfold qEnd at hp
        refine c.does cs.get 0 rfl hp fun n σ h1 c hp => ?_
        simp only [go_sem]
        refine c.does cs.put 0 rfl hp fun _ σ h1 c hp => ?_
        rw [(c.va (i := 2) rfl).one rfl]
        simp only [go_sem]
        rw [unP0 0 m] at hp
        refine c.undo cs 0 rfl 2 rfl hp fun σ h1 c hp => ?_
        exact hR _ _ _ _ c hp

theorem K_qFirst {root : Int} (cs : CsU S I) (hr : 0 ≤ root ∧ root ≤ 1000000) :
    ∀ h0 F σ R Q, Cx F h0 h0 [rSpace s σ] → wp (qFirst root) σ Q → (∀ a σ' h' M, Cx F h0 h' (rSpace s σ' :: M) → Q a σ' → R (uE a) h') → F_queue_First S I s (.int .i64 root) h0 R := by
  intro h0 F σ R Q c hp hR
  unfold F_queue_First
  simp only [go_sem]
  rw [wr64 (n := root + 0) (by omega), Int.add_zero]
  refine c.doesE cs.get (Ens.gt _) 0 rfl hp fun a σ h1 ha c hp => ?_
  simp only [go_sem]
  refine brd (fun h3 => ?_) fun h3 => ?_
  · rw [if_pos h3] at hp
    exact hR _ _ _ _ c hp
  · rw [if_neg h3] at hp
    rw [wr64 (n := a + 0) (by omega), Int.add_zero]
    refine c.does cs.get 0 rfl hp fun v σ h1 c hp => ?_
    exact hR _ _ _ _ c hp
theorem K_qLen {root : Int} (cs : CsU S I) (hr : 0 ≤ root ∧ root ≤ 1000000) :
    ∀ h0 F σ R Q, Cx F h0 h0 [rSpace s σ] → wp (gt (root + 7)) σ Q → (∀ a σ' h' M, Cx F h0 h' (rSpace s σ' :: M) → Q a σ' → R (uI a) h') → F_queue_Len S I s (.int .i64 root) h0 R := by
  intro h0 F σ R Q c hp hR
  unfold F_queue_Len
  simp only [go_sem]
  rw [wr64 (n := root + 7) (by omega)]
  refine c.last cs.get 0 rfl hp fun v σ h1 c hp => ?_
  exact hR _ _ _ _ c hp
end Go.En
