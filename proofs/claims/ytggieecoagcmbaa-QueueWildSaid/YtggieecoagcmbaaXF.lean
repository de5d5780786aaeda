/-
  Layer 34: the queue's functions as programs.
  Layer 34: the queue's walk.
  Layer 34: the queue in memory. No program text in sight.
  Layers 31 and 34: the helpers of the laws.
  Layer 34: two queues that share a pool, as lists. No program text in sight.
  Layer 34: the reference; an operation; what observers tell.
  Layer 34: the example; the laws.
  Layer 34: the further laws.
  Layer 34: two queues that share a pool.
-/
import Derived.Test.YtggieecoagcmbaaXD
namespace Go.En
open Prog Spc

variable {S : Sys} {I : Ids} {h h0 h' : Hp} {F F0 : Fp} {R : Value → Hp → Prop} {s : Value} {σ : Spc} {L : List Res}

/-- what happens at the end: back to the mark, on error -/
def unP (e m : Int) : Prog Unit := if e ≠ 0 then bk m else pure ()
def qTail (root a v : Int) : Prog Int := do
  pt a v
  pt (a + 1) 0
  pt (root + 1) a
  let n ← gt (root + 7)
  pt (root + 7) (w64 (n + 1))
  unP 0 0
  pure 0
def qPut (p : Pl) (root v : Int) : Prog Int := do
  let m ← mk
  let r ← pTake p
  if r.2 ≠ 0 then do
    unP r.2 m
    pure r.2
  else do
    let en ← gt (root + 1)
    if en = 0 then do
      pt root r.1
      qTail root r.1 v
    else if (p.node en).isSome then do
      pt (en + 1) r.1
      qTail root r.1 v
    else do
      unP 24 m
      pure 24
def qEnd (root v : Int) : Prog (Int × Int) := do
  let n ← gt (root + 7)
  pt (root + 7) (w64 (n - 1))
  unP 0 0
  pure (v, 0)
def qTake (p : Pl) (root : Int) : Prog (Int × Int) := do
  let m ← mk
  let a ← gt root
  if a = 0 then do
    unP 8 m
    pure (0, 8)
  else if (p.node a).isSome then do
    let v ← gt a
    let nx ← gt (a + 1)
    let e ← pGive p a
    if e ≠ 0 then do
      unP e m
      pure (0, e)
    else do
      pt root nx
      if nx = 0 then do
        pt (root + 1) 0
        qEnd root v
      else qEnd root v
  else do
    unP 24 m
    pure (0, 24)
def qFirst (root : Int) : Prog (Int × Int) := do
  let a ← gt root
  if a = 0 then pure (0, 8) else do
    let v ← gt a
    pure (v, 0)
def qLoop (p : Pl) : Nat → Int → List Int → Prog (Option (List Int))
  | 0, a, acc => pure (if a = 0 then some acc else none)
  | n + 1, a, acc => if a = 0 then pure (some acc) else if (p.node a).isSome then do
      let v ← gt a
      let nx ← gt (a + 1)
      qLoop p n nx (acc ++ [v])
    else pure none
def qWalk (p : Pl) (root : Int) : Prog (Option (List Int)) := do
  let a ← gt root
  qLoop p p.nodes.toNat a []

structure CsU (S : Sys) (I : Ids) : Prop extends CsT S I where
  isNode : ∀ {p : Pl} {a : Int}, R64 a → Pur S I.f_queue_isNode [vP p, .int .i64 a] (.bool (p.node a).isSome)
  undo : ∀ {s h F σ r} {e m : Int} {R : Hp → Prop}, (rSpace s σ).P h F → Va EI1 h r e → (∀ h' F', (rSpace s (if e ≠ 0 then σ.back m else σ)).P h' F' → Mv F h F' h' → R h') → S.D I.f_queue_undo [s, .int .i64 m, at0 r] h R

theorem K_isNode {p : Pl} {a : Int} (ha : R64 a) (cs : CsT S I) : ∀ h R, Cx (fun _ => False) h h [] → (∀ h' M, Cx (fun _ => False) h h' M → R (.bool (p.node a).isSome) h') → F_queue_isNode S I (vP p) (.int .i64 a) h R := by
  intro h R c hR
  unfold F_queue_isNode
  refine c.nw EPl p rfl fun r h1 c => ?_
  rw [plA (i := 0) c rfl]
  simp only [go_sem]
  refine c.pur (cs.node ha) fun h2 c => ?_
  simp only [vN, go_sem]
  exact hR _ _ c

theorem K_undo (cs : CsT S I) {r : Nat} {e m : Int} {R : Hp → Prop} (a : (rSpace s σ).P h F) (hv : Va EI1 h r e) (hR : ∀ h' F', (rSpace s (if e ≠ 0 then σ.back m else σ)).P h' F' → Mv F h F' h' → R h') :
    F_queue_undo S I s (.int .i64 m) (at0 r) h fun _ h => R h := by
  unfold F_queue_undo
  refine nckb ?_
  rw [hv.one rfl]
  simp only [go_sem]
  refine brd (fun h1 => ?_) fun h1 => ?_
  · rw [if_pos h1] at hR
    have c := Cx.start a
    exact c.last cs.back 0 rfl (Q := fun _ σ' => σ' = σ.back m) rfl fun _ σ' h' c e => let ⟨F', a', m⟩ := c.fin; hR _ _ (e ▸ a') m
  · rw [if_neg h1] at hR
    exact hR _ _ a (.refl _ _)

theorem Cx.undo {β : Type} {r : Nat} {e m : Int} {R : Hp → Prop} {q : Unit → Prog β} {Q : β → Spc → Prop} (cs : CsU S I) (c : Cx F0 h0 h L) (i : Nat) (hi : L[i]? = some (rSpace s σ)) (j : Nat) (hj : L[j]? = some (rVar EI1 r e))
    (hp : wp (unP e m >>= q) σ Q) (k : ∀ σ' h', Cx F0 h0 h' (L.set i (rSpace s σ')) → wp (q ()) σ' Q → R h') : S.D I.f_queue_undo [s, .int .i64 m, at0 r] h R := by
  obtain ⟨F, a, up⟩ := c.upd hi
  refine cs.undo a (c.va hj) fun h' F' a' mv => k _ _ (up a' mv) ?_
  rw [Prog.wp_bind] at hp
  unfold unP at hp
  split at hp
  · rename_i he; rw [if_pos he]; exact hp
  · rename_i he; rw [if_neg he]; exact hp
theorem unP0 (m m' : Int) : unP 0 m = unP 0 m' := rfl

theorem K_qPut {p : Pl} {root v : Int} (cs : CsU S I) (hr : 0 ≤ root ∧ root ≤ 1000000) (hv : R64 v) :
    ∀ h0 F σ R Q, Cx F h0 h0 [rSpace s σ] → wp (qPut p root v) σ Q → (∀ a σ' h' M, Cx F h0 h' (rSpace s σ' :: M) → Q a σ' → R (uI a) h') → F_queue_Put S I s (vP p) (.int .i64 root) (.int .i64 v) h0 R := by
  intro h0 F σ R Q c hp hR
  unfold F_queue_Put
  refine c.nw EPl p rfl fun rp h1 c => ?_
  refine c.nw EI1 0 rfl fun re h1 c => ?_
  refine c.doesE cs.mark Ens.mk 0 rfl hp fun m σ h1 hm c hp => ?_
  rw [plA (i := 1) c rfl]
  simp only [go_sem]
  refine c.doesE cs.take (Ens.take p) 0 rfl hp fun r σ h1 hE c hp => ?_
  simp only [go_sem]
  refine c.sto1 2 rfl r.2 rfl rfl fun h1 c => ?_
  rw [(c.va (i := 2) rfl).one rfl]
  simp only [go_sem]
  refine brd (fun h3 => ?_) fun h3 => ?_
  · rw [if_pos h3] at hp
    refine c.undo cs 0 rfl 2 rfl hp fun σ h1 c hp => ?_
    exact hR _ _ _ _ c hp
  · rw [if_neg h3] at hp
    have hnode : (p.node r.1).isSome = true := by
      rcases hE with h | h
      · exact h.2
      · rcases h.2 with h | h | h <;> omega
    obtain ⟨nn, hnn⟩ := Option.isSome_iff_exists.1 hnode
    have hlt := node_lt hnn
    rw [wr64 (n := root + 1) (by omega)]
    refine c.doesE cs.get (Ens.gt _) 0 rfl hp fun en σ h1 hen c hp => ?_
    have hr2 : r.2 = 0 := by omega
    rw [hr2] at c
    refine Jn0.at (fun h => ∃ σ, Cx F h0 h [rSpace s σ, rVar EPl rp p, rVar EI1 re 0] ∧ wp (qTail root r.1 v) σ Q) ?_ ?_
    · simp only [go_sem]
      refine brd (fun h4 => ?_) fun h4 => ?_
      · rw [if_pos h4] at hp
        rw [wr64 (n := root + 0) (by omega), Int.add_zero]
        refine c.does cs.put 0 rfl hp fun _ σ h1 c hp => ?_
        exact ⟨σ, c, hp⟩
      · rw [if_neg h4] at hp
        rw [plA (i := 1) c rfl]
        simp only [go_sem]
        refine c.pur (cs.isNode hen) fun h1 c => ?_
        simp only [go_sem]
        cases hn : p.node en with
        | none =>
          simp only [hn, Option.isSome_none, Bool.false_eq_true, if_false] at hp
          simp only [Option.isSome_none, Bool.not_false, go_sem]
          refine c.sto1 2 rfl 24 rfl rfl fun h1 c => ?_
          rw [(c.va (i := 2) rfl).one rfl]
          simp only [go_sem]
          refine c.undo cs 0 rfl 2 rfl hp fun σ h1 c hp => ?_
          exact hR _ _ _ _ c hp
        | some n =>
          have := node_lt hn
          simp only [hn, Option.isSome_some, if_true] at hp
          simp only [Option.isSome_some, Bool.not_true, go_sem]
          rw [wr64 (n := en + 1) (by omega)]
          refine c.does cs.put 0 rfl hp fun _ σ h1 c hp => ?_
          exact ⟨σ, c, hp⟩
    · rintro h1 ⟨σ, c, hp⟩
      unfold qTail at hp
      try simp only [go_sem]
      simp only [wr64 (n := r.1) (by omega), Int.add_zero, wr64 (n := r.1 + 1) (by omega), wr64 (n := root + 1) (by omega), wr64 (n := root + 7) (by omega)]
      refine c.does cs.put 0 rfl hp fun _ σ h1 c hp => ?_
      refine c.does cs.put 0 rfl hp fun _ σ h1 c hp => ?_
      refine c.does cs.put 0 rfl hp fun _ σ h1 c hp => ?_
      refine c.does cs.get 0 rfl hp fun n σ h1 c hp => ?_
      simp only [go_sem]
      refine c.does cs.put 0 rfl hp fun _ σ h1 c hp => ?_
      rw [(c.va (i := 2) rfl).one rfl]
      simp only [go_sem]
      rw [unP0 0 m] at hp
      refine c.undo cs 0 rfl 2 rfl hp fun σ h1 c hp => ?_
      exact hR _ _ _ _ c hp

theorem ens_give (p : Pl) (a : Int) : Ens (pGive p a) fun e => (e = 0 ∧ (p.node a).isSome = true) ∨ (e = 1 ∧ (p.node a).isSome = false) := by
  unfold pGive
  refine .ite (fun h => .then fun _ => .then fun _ => .then fun _ => .then fun _ => .pure (.inl ⟨rfl, h⟩)) fun h => .pure (.inr ⟨rfl, by simpa using h⟩)

theorem K_qTake {p : Pl} {root : Int} (cs : CsU S I) (hr : 0 ≤ root ∧ root ≤ 1000000) :
    ∀ h0 F σ R Q, Cx F h0 h0 [rSpace s σ] → wp (qTake p root) σ Q → (∀ a σ' h' M, Cx F h0 h' (rSpace s σ' :: M) → Q a σ' → R (uE a) h') → F_queue_Take S I s (vP p) (.int .i64 root) h0 R := by
  intro h0 F σ R Q c hp hR
  unfold F_queue_Take
  refine c.nw EPl p rfl fun rp h1 c => ?_
  refine c.nw EI1 0 rfl fun re h1 c => ?_
  refine c.doesE cs.mark Ens.mk 0 rfl hp fun m σ h1 hm c hp => ?_
  simp only [go_sem]
  rw [wr64 (n := root + 0) (by omega), Int.add_zero, wr64 (n := root + 1) (by omega), wr64 (n := root + 7) (by omega)]
  refine c.doesE cs.get (Ens.gt _) 0 rfl hp fun a σ h1 ha c hp => ?_
  simp only [go_sem]
  refine brd (fun h3 => ?_) fun h3 => ?_
  · rw [if_pos h3] at hp
    refine c.sto1 2 rfl 8 rfl rfl fun h1 c => ?_
    rw [(c.va (i := 2) rfl).one rfl]
    simp only [go_sem]
    refine c.undo cs 0 rfl 2 rfl hp fun σ h1 c hp => ?_
    exact hR _ _ _ _ c hp
  rw [if_neg h3] at hp
  rw [plA (i := 1) c rfl]
  simp only [go_sem]
  refine c.pur (cs.isNode ha) fun h1 c => ?_
  simp only [go_sem]
  cases hn : p.node a with
  | none =>
    simp only [hn, Option.isSome_none, Bool.false_eq_true, if_false] at hp
    simp only [Option.isSome_none, Bool.not_false, go_sem]
    refine c.sto1 2 rfl 24 rfl rfl fun h1 c => ?_
    rw [(c.va (i := 2) rfl).one rfl]
    simp only [go_sem]
    refine c.undo cs 0 rfl 2 rfl hp fun σ h1 c hp => ?_
    exact hR _ _ _ _ c hp
  | some n =>
    have := node_lt hn
    simp only [hn, Option.isSome_some, if_true] at hp
    simp only [Option.isSome_some, Bool.not_true, go_sem]
    rw [wr64 (n := a + 0) (by omega), Int.add_zero, wr64 (n := a + 1) (by omega)]
    refine c.does cs.get 0 rfl hp fun v σ h1 c hp => ?_
    refine c.doesE cs.get (Ens.gt _) 0 rfl hp fun nx σ h1 hnx c hp => ?_
    rw [plA (i := 1) c rfl]
    simp only [go_sem]
    refine c.does (cs.give ha) 0 rfl hp fun e σ h1 c hp => ?_
    simp only [go_sem]
    refine c.sto1 2 rfl e rfl rfl fun h1 c => ?_
    rw [(c.va (i := 2) rfl).one rfl]
    simp only [go_sem]
    refine brd (fun h4 => ?_) fun h4 => ?_
    · rw [if_pos h4] at hp
      refine c.undo cs 0 rfl 2 rfl hp fun σ h1 c hp => ?_
      exact hR _ _ _ _ c hp
    · rw [if_neg h4] at hp
      have he : e = 0 := by omega
      subst he
      refine c.does cs.put 0 rfl hp fun _ σ h1 c hp => ?_
      refine Jn0.at (fun h => ∃ σ, Cx F h0 h [rSpace s σ, rVar EPl rp p, rVar EI1 re 0] ∧ wp (qEnd root v) σ Q) ?_ ?_
      · simp only [go_sem]
        refine brd (fun h5 => ?_) fun h5 => ?_
        · rw [if_pos h5] at hp
          refine c.does cs.put 0 rfl hp fun _ σ h1 c hp => ?_
          exact ⟨σ, c, hp⟩
        · rw [if_neg h5] at hp
          exact ⟨σ, c, hp⟩
      · rintro h1 ⟨σ, c, hp⟩
        unfold qEnd at hp
        refine c.does cs.get 0 rfl hp fun n σ h1 c hp => ?_
        simp only [go_sem]
        refine c.does cs.put 0 rfl hp fun _ σ h1 c hp => ?_
        rw [(c.va (i := 2) rfl).one rfl]
        simp only [go_sem]
        rw [unP0 0 m] at hp
        refine c.undo cs 0 rfl 2 rfl hp fun σ h1 c hp => ?_
        exact hR _ _ _ _ c hp

theorem K_qFirst {root : Int} (cs : CsU S I) (hr : 0 ≤ root ∧ root ≤ 1000000) :
    ∀ h0 F σ R Q, Cx F h0 h0 [rSpace s σ] → wp (qFirst root) σ Q → (∀ a σ' h' M, Cx F h0 h' (rSpace s σ' :: M) → Q a σ' → R (uE a) h') → F_queue_First S I s (.int .i64 root) h0 R := by
  intro h0 F σ R Q c hp hR
  unfold F_queue_First
  simp only [go_sem]
  rw [wr64 (n := root + 0) (by omega), Int.add_zero]
  refine c.doesE cs.get (Ens.gt _) 0 rfl hp fun a σ h1 ha c hp => ?_
  simp only [go_sem]
  refine brd (fun h3 => ?_) fun h3 => ?_
  · rw [if_pos h3] at hp
    exact hR _ _ _ _ c hp
  · rw [if_neg h3] at hp
    rw [wr64 (n := a + 0) (by omega), Int.add_zero]
    refine c.does cs.get 0 rfl hp fun v σ h1 c hp => ?_
    exact hR _ _ _ _ c hp
theorem K_qLen {root : Int} (cs : CsU S I) (hr : 0 ≤ root ∧ root ≤ 1000000) :
    ∀ h0 F σ R Q, Cx F h0 h0 [rSpace s σ] → wp (gt (root + 7)) σ Q → (∀ a σ' h' M, Cx F h0 h' (rSpace s σ' :: M) → Q a σ' → R (uI a) h') → F_queue_Len S I s (.int .i64 root) h0 R := by
  intro h0 F σ R Q c hp hR
  unfold F_queue_Len
  simp only [go_sem]
  rw [wr64 (n := root + 7) (by omega)]
  refine c.last cs.get 0 rfl hp fun v σ h1 c hp => ?_
  exact hR _ _ _ _ c hp
end Go.En
namespace Go.En
open Prog Spc

variable {S : Sys} {I : Ids} {h h0 h' : Hp} {F F0 : Fp} {R : Value → Hp → Prop} {s : Value} {σ : Spc} {L : List Res}

def EPtr : Enc (Option Addr) := { n := 1, c := fun a => [.pointer a], len := fun _ => rfl, one := fun a v h => by simp only [List.mem_singleton] at h; subst h; rfl }
def ESh : Enc (Option Addr × Nat × Nat) := { n := 1, c := fun a => [.slice a.1 a.2.1 a.2.2], len := fun _ => rfl, one := fun a v h => by simp only [List.mem_singleton] at h; subst h; rfl }
theorem Cx.ptr {i : Nat} (c : Cx F0 h0 h L) (hi : L[i]? = some (rSpace s σ)) : ∃ p, s = at0 p := let ⟨_, x, hp, _⟩ := c.get hi; ⟨x.1, hp.1⟩
/-- a slice of none -/
theorem Cx.nilSl {α : Type} (E : Enc α) (c : Cx F0 h0 h L) : Cx F0 h0 h (L ++ [rSl E (.slice none 0 0) []]) :=
  c.add (F' := fun _ => False) ⟨.nil, fun q => by simp [blk]⟩ (.refl _ _) fun r e => e.elim

structure CsV (S : Sys) (I : Ids) : Prop extends CsU S I where
  qput : ∀ {p : Pl} {root v : Int} {s}, 0 ≤ root ∧ root ≤ 1000000 → R64 v → Does S I.f_queue_Put [s, vP p, .int .i64 root, .int .i64 v] s (qPut p root v) uI
  qtake : ∀ {p : Pl} {root : Int} {s}, 0 ≤ root ∧ root ≤ 1000000 → Does S I.f_queue_Take [s, vP p, .int .i64 root] s (qTake p root) uE
  qfirst : ∀ {root : Int} {s}, 0 ≤ root ∧ root ≤ 1000000 → Does S I.f_queue_First [s, .int .i64 root] s (qFirst root) uE
  qlen : ∀ {root : Int} {s}, 0 ≤ root ∧ root ≤ 1000000 → Does S I.f_queue_Len [s, .int .i64 root] s (gt (root + 7)) uI
  nodes : ∀ {a : Option Addr} {root : Int} {h R}, (∀ x y h', Cx (fun _ => False) h h' [rVar EPtr x a, rVar EI1 y root] → R (.func (.func I.f_queue_nodes_1) #[] #[at0 x, at0 y]) h') → S.C I.f_queue_nodes [.pointer a, .int .i64 root] h R
  nodes1 : ∀ {x y z h R}, F_queue_nodes_1 S I x y z h R → S.C I.f_queue_nodes_1 [x, y, z] h R

theorem K_nodes {a : Option Addr} {root : Int} (hR : ∀ x y h', Cx (fun _ => False) h h' [rVar EPtr x a, rVar EI1 y root] → R (.func (.func I.f_queue_nodes_1) #[] #[at0 x, at0 y]) h') : F_queue_nodes S I (.pointer a) (.int .i64 root) h R := by
  unfold F_queue_nodes
  refine (Cx.start0 h).nw EPtr a rfl fun x h1 c => ?_
  refine c.nw EI1 root rfl fun y h1 c => ?_
  exact vb rfl (hR x y _ c)

theorem ow_len {α : Type} {E : Enc α} {a : Option Addr} {l c : Nat} {xs : List α} (o : Ow E h (.slice a l c) xs) : l = xs.length := by
  rcases o with ⟨e, rfl⟩ | ⟨r, o, cap, e, _⟩
  · simp only [Value.slice.injEq] at e; simp [e.2.1]
  · simp only [Value.slice.injEq] at e; exact e.2.1
/-- what a walk has at hand -/
abbrev qwL (sp rs rp rv re ro x y d l : Nat) (p : Pl) (root : Int) (o : Loop) (σ : Spc) (sh : Option Addr × Nat × Nat) (acc : List Int) (st : LoopState) : List Res :=
  [rSpace (at0 sp) σ, rVar EPtr rs (some ⟨sp, 0, none⟩), rVar EPl rp p, rVar ESh rv (none, 0, 0), rVar EI1 re 0, rVar ESh ro sh, rSl EI1 (.slice sh.1 sh.2.1 sh.2.2) acc, rVar EPtr x (some ⟨sp, 0, none⟩), rVar EI1 y root,
    rObj d (.deferred (some [])), rObj l (lpO o st none)]
theorem qLoop_end {p : Pl} {n : Nat} {acc : List Int} : qLoop p n 0 acc = pure (some acc) := by cases n <;> rfl
theorem qLoop_lost {p : Pl} {n : Nat} {a : Int} {acc : List Int} (h0 : a ≠ 0) (hn : n = p.nodes.toNat - acc.length) (h : (p.node a).isSome = false ∨ p.nodes ≤ acc.length) : qLoop p n a acc = pure none := by
  cases n with
  | zero => simp [qLoop, h0]
  | succ n =>
    have : (p.node a).isSome = false := h.resolve_right (by omega)
    simp [qLoop, h0, this]
theorem qLoop_more {p : Pl} {n : Nat} {a : Int} {acc : List Int} (h0 : a ≠ 0) (hn : n = p.nodes.toNat - acc.length) (h : (p.node a).isSome = true) (h2 : acc.length < p.nodes) : ∃ m, n = m + 1 ∧ qLoop p n a acc = (do
      let v ← gt a
      let nx ← gt (a + 1)
      qLoop p m nx (acc ++ [v])) := by
  cases n with
  | zero => omega
  | succ n => exact ⟨n, rfl, by simp [qLoop, h0, h]⟩

theorem K_qWalk {p : Pl} {root : Int} (cs : CsV S I) (hr : 0 ≤ root ∧ root ≤ 1000000) :
    ∀ h0 F σ R Q, Cx F h0 h0 [rSpace s σ] → wp (qWalk p root) σ Q → (∀ (o : Option (List Int)) σ' v h' M, Cx F h0 h' (rSpace s σ' :: rSl EI1 v (o.getD []) :: M) → Q o σ' → R (.tuple #[v, .int .i64 (if o.isSome then 0 else 24)]) h') → F_queue_Walk S I s (vP p) (.int .i64 root) h0 R := by
  intro h0 F σ R Q c hp hR
  obtain ⟨sp, rfl⟩ := c.ptr (i := 0) rfl
  unfold F_queue_Walk
  refine c.nw EPtr (some ⟨sp, 0, none⟩) rfl fun rs h1 c => ?_
  refine c.nw EPl p rfl fun rp h1 c => ?_
  refine c.nw ESh (none, 0, 0) rfl fun rv h1 c => ?_
  refine c.nw EI1 0 rfl fun re h1 c => ?_
  refine c.nw ESh (none, 0, 0) rfl fun ro h1 c => ?_
  have c := c.nilSl EI1
  rw [(c.va (i := 1) rfl).one rfl]
  simp only [go_sem]
  refine cs.nodes fun x y h2 c2 => ?_
  have c := c.frame0 c2
  refine c.rg rfl fun l d o h3 hd hY c => ?_
  subst hd
  refine cs.nodes1 ?_
  unfold F_queue_nodes_1
  rw [(c.va (i := 7) rfl).one rfl, vb_some, (c.va (i := 8) rfl).one rfl, vb_some, bin_add, vb_some, wr64 (n := root + 0) (by omega), Int.add_zero]
  unfold qWalk at hp
  refine c.doesE cs.get (Ens.gt _) 0 rfl hp fun a σ h4 ha c hp => ?_
  refine Lp1.by (fun (x' : Nat × Int × List Int × Spc × (Option Addr × Nat × Nat)) v h' => v = .int .i64 x'.2.1 ∧ R64 x'.2.1 ∧ x'.1 = p.nodes.toNat - x'.2.2.1.length ∧ wp (qLoop p x'.1 x'.2.1 x'.2.2.1) x'.2.2.2.1 Q ∧
    Cx F h0 h' (qwL sp rs rp rv re ro x y h2.size l p root o x'.2.2.2.1 x'.2.2.2.2 x'.2.2.1 .ready))
    (fun x' => x'.1) (p.nodes.toNat, a, [], σ, (none, 0, 0)) ⟨rfl, ha, by simp, hp, c⟩ ?_
  rintro ⟨n, a, acc, σ, sh⟩ v h5 ⟨rfl, ha, hn, hp, c⟩ again hagain
  dsimp only at *
  refine .here ?_
  simp only [go_sem]
  refine brd (fun h6 => ?_) fun h6 => ?_
  · refine .inr ⟨l, rfl, hY _ _ _ (c.lpat (i := 10) rfl) ?_⟩
    show A1 [_] _
    unfold A1
    refine c.bgn (i := 10) rfl fun h7 c => ?_
    refine Jn1.at (fun v h => ∃ b : Bool, v = .bool b ∧ Cx F h0 h (qwL sp rs rp rv re ro x y h2.size l p root o σ sh acc .busy) ∧ (b = true → (p.node a).isSome = false ∨ p.nodes ≤ acc.length) ∧ (b = false → (p.node a).isSome = true ∧ acc.length < p.nodes)) ?_ ?_
    · rw [plA (i := 2) c rfl]
      simp only [go_sem]
      refine c.pur (cs.isNode ha) fun h8 c => ?_
      simp only [go_sem]
      cases hnd : (p.node a).isSome with
      | false =>
        simp only [Bool.not_false, go_sem]
        exact ⟨true, rfl, c, fun _ => by simp, fun e => by cases e⟩
      | true =>
        simp only [Bool.not_true, go_sem]
        rw [(c.va (i := 5) rfl).one rfl]
        simp only [go_sem]
        rw [pl2 (i := 2) c rfl, ow_len (c.sl (i := 6) rfl)]
        simp only [go_sem]
        exact ⟨_, rfl, c, fun e => .inr (by simpa using e), fun e => ⟨trivial, by simpa using e⟩⟩
    · rintro v h8 ⟨b, rfl, c, hb1, hb2⟩
      cases b with
      | true =>
        simp only [go_sem]
        rw [qLoop_lost h6 hn (hb1 rfl)] at hp
        refine c.sto1 3 rfl (none, 0, 0) rfl rfl fun h9 c => ?_
        refine c.sto1 4 rfl 24 rfl rfl fun h9 c => ?_
        refine c.fin' (i := 10) (some .ret) rfl fun h9 c => ?_
        obtain ⟨h10, e, c⟩ := c.endl (i := 10) rfl (by simp)
        refine ⟨_, _, e, ?_⟩
        unfold Jp
        refine c.tkd (i := 9) rfl fun h11 c => ?_
        rw [(c.va (i := 3) rfl).one rfl, vb_some, (c.va (i := 4) rfl).one rfl, vb_some]
        have c := c.nilSl EI1
        have c := (c.front 11 rfl).front 1 rfl
        exact hR none _ _ _ _ c hp
      | false =>
        obtain ⟨hnd, hlen⟩ := hb2 rfl
        obtain ⟨nn, hnn⟩ := Option.isSome_iff_exists.1 hnd
        have hlt := node_lt hnn
        have hgood := (node_some hnn).1
        have := hgood.n1
        obtain ⟨m, rfl, hq⟩ := qLoop_more h6 hn hnd hlen
        rw [hq] at hp
        simp only [go_sem]
        rw [(c.va (i := 5) rfl).one rfl, vb_some, (c.va (i := 1) rfl).one rfl, vb_some, wr64 (n := a + 0) (by omega), Int.add_zero]
        refine c.does cs.get 0 rfl hp fun v σ h9 c hp => ?_
        refine ⟨(c.va (i := 5) rfl).one rfl, ?_⟩
        have hb : acc.length ≤ 128 := by omega
        refine c.bsl1 EI1 v rfl rfl fun u h10 c => ?_
        refine ⟨(c.va (i := 5) rfl).one rfl, ?_⟩
        refine c.ap 6 rfl (c.sl (i := 11) rfl).sl rfl rfl (by simp only [List.length_singleton]; omega) (by simp only [List.length_singleton]; omega) fun w h11 c => ?_
        obtain ⟨a2, l2, c2, rfl⟩ := ow_slice (c.sl (i := 6) rfl)
        refine c.sto1 5 rfl (a2, l2, c2) rfl rfl fun h12 c => ?_
        refine c.fin' (i := 10) none rfl fun h13 c => ?_
        try simp only [go_sem]
        rw [(c.va (i := 7) rfl).one rfl, vb_some, wr64 (n := a + 1) (by omega)]
        refine c.doesE cs.get (Ens.gt _) 0 rfl hp fun nx σ h14 hnx c hp => ?_
        refine hagain (m, nx, acc ++ [v], σ, (a2, l2, c2)) _ _ ⟨rfl, hnx, ?_, hp, ?_⟩ (by simp)
        · simp only [List.length_append, List.length_singleton]; omega
        · exact c.drop (L := qwL sp rs rp rv re ro x y h2.size l p root o σ (a2, l2, c2) (acc ++ [v]) .ready) (L' := [_])
  · have : a = 0 := by omega
    subst this
    rw [qLoop_end] at hp
    obtain ⟨h10, e, c⟩ := c.endl (i := 10) rfl (by simp)
    refine ⟨_, _, e, ?_⟩
    unfold Jp
    rw [(c.va (i := 5) rfl).one rfl, vb_some]
    refine c.sto1 3 rfl sh rfl rfl fun h11 c => ?_
    refine c.sto1 4 rfl 0 rfl rfl fun h12 c => ?_
    refine c.tkd (i := 9) rfl fun h13 c => ?_
    rw [(c.va (i := 3) rfl).one rfl, vb_some, (c.va (i := 4) rfl).one rfl, vb_some]
    have c := (c.front 6 rfl).front 1 rfl
    exact hR (some acc) _ _ _ _ c hp
end Go.En
namespace Go.En
open Prog Spc

/-- a queue: its nodes and their values -/
structure QueueR (m : Int → Int) (root : Int) (ns vs : List Int) : Prop where
  link : Lk m 1 (m root) ns
  last : m (root + 1) = ns.getLast?.getD 0
  held : m (root + 7) = ns.length
  vals : vs = ns.map m
theorem QueueR.ext {m m' : Int → Int} {root : Int} {ns vs : List Int} (q : QueueR m root ns vs) (h : ∀ a, (a = root ∨ a = root + 1 ∨ a = root + 7 ∨ ∃ x ∈ ns, a = x ∨ a = x + 1) → m' a = m a) : QueueR m' root ns vs :=
  ⟨by rw [h _ (.inl rfl)]; exact q.link.ext fun x hx => h _ (.inr (.inr (.inr ⟨x, hx, .inr rfl⟩))), by rw [h _ (.inr (.inl rfl))]; exact q.last, by rw [h _ (.inr (.inr (.inl rfl)))]; exact q.held,
   by rw [q.vals]; exact List.map_congr_left fun x hx => (h _ (.inr (.inr (.inr ⟨x, hx, .inl rfl⟩)))).symm⟩
/-- which node was taken -/
def Took (p : Pl) (fr : List Int) (out x : Int) (fr' : List Int) (out' : Int) : Prop := (fr = x :: fr' ∧ out' = out) ∨ (fr = [] ∧ fr' = [] ∧ out < p.nodes ∧ x = p.frm + 8 * out ∧ out' = out + 1)

/-- a chain with one more at its end -/
theorem Lk.snoc {m : Int → Int} {o y : Int} : ∀ {l : List Int} {a z : Int}, Lk m o a (l ++ [z]) → Lk m o (m (z + o)) [y] → m (y + o) = 0 → Lk m o a (l ++ [z, y])
  | [], a, z, h, h2, h3 => ⟨h.1, h2.1, h3⟩
  | x :: r, a, z, h, h2, h3 => ⟨h.1, Lk.snoc h.2 h2 h3⟩
theorem Lk.last {m : Int → Int} {o : Int} : ∀ {l : List Int} {a z : Int}, Lk m o a (l ++ [z]) → m (z + o) = 0
  | [], a, z, h => h.2
  | x :: r, a, z, h => Lk.last (l := r) h.2
/-- the last link is turned to a further node -/
theorem Lk.push {m m' : Int → Int} {o y : Int} : ∀ {l : List Int} {a z : Int}, Lk m o a (l ++ [z]) → (∀ x ∈ l, m' (x + o) = m (x + o)) → m' (z + o) = y → m' (y + o) = 0 → Lk m' o a (l ++ [z] ++ [y])
  | [], a, z, h, _, h2, h3 => ⟨h.1, h2, h3⟩
  | x :: r, a, z, h, e, h2, h3 => ⟨h.1, by
    rw [e x (List.mem_cons_self ..)]
    exact Lk.push h.2 (fun w hw => e w (List.mem_cons_of_mem _ hw)) h2 h3⟩

section
variable {D : Int → Prop} {σ σ' : Spc} {m : Int → Int} {α : Type} {Q : α → Spc → Prop} {p : Pl} {fr : List Int} {out root : Int} {ns vs : List Int}

structure QDom (D : Int → Prop) (p : Pl) (root : Int) : Prop where
  pool : PoolD D p
  r : ∀ i, 0 ≤ i → i ≤ 7 → D (root + i)
  lo : p.root + 3 ≤ root
  hi : root + 8 ≤ p.frm

/-- the memory behind the end of a Put -/
def mTail (m : Int → Int) (root x v n : Int) : Int → Int := upd (upd (upd (upd m x v) (x + 1) 0) (root + 1) x) (root + 7) (n + 1)
theorem mTail_at (m : Int → Int) (root x v n a : Int) : mTail m root x v n a = if a = root + 7 then n + 1 else if a = root + 1 then x else if a = x + 1 then 0 else if a = x then v else m a := rfl

theorem wp_qTail {q : Int → Prog α} {σ0 : Spc} {c : Nat} {x v n : Int} (S : Sm D σ0 σ m c) (hD : QDom D p root) (hl : σ0.pu.length + c + 10 ≤ big) (hv : R64 v) (hx : isN p x) (g : p.good) (h7 : m (root + 7) = n) (hn : 0 ≤ n ∧ n ≤ 1000)
    (h : ∀ σ', Sm D σ0 σ' (mTail m root x v n) (c + 5) → wp (q 0) σ' Q) : wp (qTail root x v >>= q) σ Q := by
  have hxp := isN_pos g hx
  have hi := hD.hi
  have hD1 := hD.r 1 (by omega) (by omega)
  have hD7 := hD.r 7 (by omega) (by omega)
  have hDx0 := hD.pool.n x hx 0 (by omega) (by omega)
  rw [Int.add_zero] at hDx0
  have hDx1 := hD.pool.n x hx 1 (by omega) (by omega)
  unfold qTail
  rw [wp_bind]
  refine wp_put S hDx0 hv (by omega) fun σ4 S => ?_
  refine wp_put S hDx1 ⟨by omega, by omega⟩ (by omega) fun σ4 S => ?_
  refine wp_put S hD1 ⟨by omega, by omega⟩ (by omega) fun σ4 S => ?_
  refine wp_get S hD7 fun σ4 S => ?_
  refine wp_put S hD7 (w64_in _) (by omega) fun σ4 S => ?_
  rw [upd_ne _ _ (by omega), upd_ne _ _ (by omega), upd_ne _ _ (by omega), h7, w64_R ⟨by omega, by omega⟩] at S
  exact h _ (S.mono (by omega))

theorem getLast_snoc {l : List Int} {z : Int} : (l ++ [z]).getLast?.getD 0 = z := by simp

theorem wp_qPut {q : Int → Prog α} {v : Int} (S : Sm D σ σ m 0) (P : PoolR m p fr out) (hq : QueueR m root ns vs) (hD : QDom D p root) (hl : σ.pu.length + 30 ≤ big) (hv : R64 v)
    (hns : ∀ x ∈ ns, ∃ i, 0 ≤ i ∧ i < out ∧ x = p.frm + 8 * i) (hap : ∀ x ∈ ns, x ∉ fr) (hnd : ns.Nodup)
    (h1 : ∀ x fr' out' σ' m', Took p fr out x fr' out' → isN p x → Sm D σ σ' m' 20 → PoolR m' p fr' out' → QueueR m' root (ns ++ [x]) (vs ++ [v]) →
      (∀ a, a ≠ p.root → a ≠ p.root + 1 → a ≠ p.root + 2 → a ≠ root → a ≠ root + 1 → a ≠ root + 7 → (∀ y ∈ ns ++ [x], a ≠ y ∧ a ≠ y + 1) → m' a = m a) → wp (q 0) σ' Q)
    (h2 : ∀ σ', fr = [] → out = p.nodes → Sm D σ σ' m 20 → wp (q 9) σ' Q) : wp (qPut p root v >>= q) σ Q := by
  have S0 := S
  have g := P.good
  have g1 := g.f1; have g2 := g.f2; have g3 := g.n1; have lo := hD.lo; have hi := hD.hi; have g4 := g.r0
  have hlen : (ns.length : Int) ≤ out := nodes_len hns hnd P.out0
  have hout := P.out1
  unfold qPut
  rw [wp_bind]
  refine wp_mark ?_
  -- the node is at hand
  have main : ∀ x fr' out' σ1 m1, Took p fr out x fr' out' → isN p x → Sm D σ σ1 m1 2 → PoolR m1 p fr' out' → (∀ a, a ≠ p.root → a ≠ p.root + 1 → a ≠ p.root + 2 → m1 a = m a) →
      wp (do
        let en ← gt (root + 1)
        if en = 0 then do
          pt root x
          qTail root x v
        else if (p.node en).isSome then do
          pt (en + 1) x
          qTail root x v
        else do
          unP 24 σ.pu.length
          pure 24) σ1 fun a σ' => wp (q a) σ' Q := by
    intro x fr' out' σ1 m1 hT hx S P1 hm
    have hxp := isN_pos g hx
    have hD1 := hD.r 1 (by omega) (by omega)
    have hD0 := hD.r 0 (by omega) (by omega)
    rw [Int.add_zero] at hD0
    have hxf : ∀ y ∈ fr', y ≠ x := by
      intro y hy e
      subst e
      rcases hT with ⟨rfl, _⟩ | ⟨rfl, rfl, _⟩
      · exact (List.nodup_cons.1 P.nd).1 hy
      · cases hy
    have hxn : ∀ y ∈ ns, y ≠ x := by
      intro y hy e
      subst e
      rcases hT with ⟨rfl, _⟩ | ⟨rfl, rfl, h3, h4, _⟩
      · exact hap y hy (List.mem_cons_self ..)
      · obtain ⟨i, _, i1, e⟩ := hns y hy; omega
    have hnf : ∀ y ∈ ns, y ∉ fr' := by
      intro y hy h
      rcases hT with ⟨rfl, _⟩ | ⟨rfl, rfl, _⟩
      · exact hap y hy (List.mem_cons_of_mem _ h)
      · cases h
    have hfrN : ∀ y ∈ fr', isN p y := fun y hy => P1.isN hy
    refine wp_get S hD1 fun σ2 S => ?_
    rw [hm (root + 1) (by omega) (by omega) (by omega), hq.last]
    obtain ⟨i, i0, i1, rfl⟩ := hx
    have h7 : m1 (root + 7) = ns.length := by rw [hm _ (by omega) (by omega) (by omega), hq.held]
    have hroot : m1 root = m root := hm _ (by omega) (by omega) (by omega)
    have hx : isN p (p.frm + 8 * i) := ⟨i, i0, i1, rfl⟩
    have nsm : ∀ y ∈ ns, m1 y = m y ∧ m1 (y + 1) = m (y + 1) := fun y hy => by
      obtain ⟨j, j0, j1, rfl⟩ := hns y hy
      have := g.ap
      exact ⟨hm _ (by omega) (by omega) (by omega), hm _ (by omega) (by omega) (by omega)⟩
    -- what the end leaves
    have fin : ∀ (m2 m' : Int → Int) σ', m' = mTail m2 root (p.frm + 8 * i) v ns.length → (∀ a, a ≠ root → (∀ y ∈ ns, a ≠ y + 1) → m2 a = m1 a) → Lk m' 1 (m' root) (ns ++ [p.frm + 8 * i]) → Sm D σ σ' m' 20 → wp (q 0) σ' Q := by
      intro m2 m' σ' e hm2 hlk S
      have ha := mTail_at m2 root (p.frm + 8 * i) v ns.length
      rw [← e] at ha
      have hnsa : ∀ y ∈ ns, m' y = m y := by
        intro y hy
        obtain ⟨j, j0, j1, rfl⟩ := hns y hy
        have := hxn _ hy
        rw [ha, if_neg (by omega), if_neg (by omega), if_neg (by omega), if_neg (by omega), hm2 _ (by omega) (fun z hz => by obtain ⟨k, k0, k1, rfl⟩ := hns z hz; omega), (nsm _ hy).1]
      refine h1 _ fr' out' σ' m' hT hx S (P1.ext fun a h => ?_) ⟨hlk, ?_, ?_, ?_⟩ fun a a1 a2 a3 a4 a5 a6 a7 => ?_
      · have hP : a < root ∨ ∃ y ∈ fr', a = y := by
          rcases h with h | h | h | h
          · left; omega
          · left; omega
          · left; omega
          · exact .inr ⟨a, h, rfl⟩
        rcases hP with h | ⟨y, hy, rfl⟩
        · rw [ha, if_neg (by omega), if_neg (by omega), if_neg (by omega), if_neg (by omega), hm2 _ (by omega) (fun z hz => by obtain ⟨k, k0, k1, rfl⟩ := hns z hz; omega)]
        · obtain ⟨j, j0, j1, rfl⟩ := hfrN a hy
          have := hxf _ hy
          rw [ha, if_neg (by omega), if_neg (by omega), if_neg (by omega), if_neg (by omega), hm2 _ (by omega) (fun z hz => by obtain ⟨k, k0, k1, rfl⟩ := hns z hz; omega)]
      · rw [getLast_snoc, ha, if_neg (by omega), if_pos rfl]
      · rw [ha, if_pos rfl]; simp
      · rw [hq.vals, List.map_append, List.map_cons, List.map_nil]
        congr 1
        · exact (List.map_congr_left hnsa).symm
        · rw [ha, if_neg (by omega), if_neg (by omega), if_neg (by omega), if_pos rfl]
      · have h8 := a7 _ (List.mem_append_right _ (List.mem_singleton.2 rfl))
        rw [ha, if_neg (by omega), if_neg (by omega), if_neg (by omega), if_neg (by omega), hm2 _ a4 (fun z hz => (a7 z (List.mem_append_left _ hz)).2), hm _ a1 a2 a3]
    rcases List.eq_nil_or_concat ns with rfl | ⟨l, z, rfl⟩
    · simp only [List.getLast?_nil, Option.getD_none, if_true]
      refine wp_put S hD0 ⟨by omega, by omega⟩ (by omega) fun σ3 S => ?_
      rw [← wp_bind]
      refine wp_qTail S hD (by omega) hv hx g (n := 0) (by rw [upd_ne _ _ (by omega)]; exact h7) (by omega) fun σ4 S => ?_
      refine fin _ _ σ4 rfl (fun a a1 _ => upd_ne _ _ a1) ?_ (S.mono (by omega))
      refine ⟨?_, ?_⟩
      · rw [mTail_at, if_neg (by omega), if_neg (by omega), if_neg (by omega), if_neg (by omega), upd_eq]
      · show mTail _ _ _ _ _ _ = 0
        rw [mTail_at, if_neg (by omega), if_neg (by omega), if_pos rfl]
    · rw [List.concat_eq_append] at *
      have hz : z ∈ l ++ [z] := List.mem_append_right _ (List.mem_singleton.2 rfl)
      obtain ⟨j, j0, j1, hzj⟩ := hns z hz
      have hzN : isN p z := ⟨j, j0, by omega, hzj⟩
      have hzp := isN_pos g hzN
      have hzx := hxn z hz
      rw [getLast_snoc, if_neg (by omega), if_pos (isN_node g hzN)]
      refine wp_put S (hD.pool.n z hzN 1 (by omega) (by omega)) ⟨by omega, by omega⟩ (by omega) fun σ3 S => ?_
      rw [← wp_bind]
      refine wp_qTail S hD (by omega) hv hx g (n := ((l ++ [z]).length : Nat)) (by rw [upd_ne _ _ (by omega)]; exact h7) ⟨by omega, by omega⟩ fun σ4 S => ?_
      refine fin _ _ σ4 rfl (fun a _ a1 => upd_ne _ _ (a1 z hz)) ?_ (S.mono (by omega))
      have hlk := hq.link
      have e0 : mTail (upd m1 (z + 1) (p.frm + 8 * i)) root (p.frm + 8 * i) v ((l ++ [z]).length : Nat) root = m root := by
        rw [mTail_at, if_neg (by omega), if_neg (by omega), if_neg (by omega), if_neg (by omega), upd_ne _ _ (by omega), hroot]
      rw [e0]
      refine hlk.push (fun w hw => ?_) ?_ ?_
      · have hw' : w ∈ l ++ [z] := List.mem_append_left _ hw
        have hwx := hxn w hw'
        have hwz : w ≠ z := fun e => by
          subst e
          rw [List.nodup_append] at hnd
          exact hnd.2.2 w hw w (List.mem_singleton.2 rfl) rfl
        have h9 := (nsm w hw').2
        obtain ⟨k, k0, k1, rfl⟩ := hns w hw'
        rw [mTail_at, if_neg (by omega), if_neg (by omega), if_neg (by omega), if_neg (by omega), upd_ne _ _ (by omega), h9]
      · rw [mTail_at, if_neg (by omega), if_neg (by omega), if_neg (by omega), if_neg (by omega), upd_eq]
      · rw [mTail_at, if_neg (by omega), if_neg (by omega), if_pos rfl]
  refine wp_take S P hD.pool (by omega) (fun x fr' σ' m' e hx S P' hm => ?_) (fun σ' m' e ho hx S P' hm => ?_) fun σ' e ho S => ?_
  · dsimp only
    rw [if_neg (by simp)]
    exact main x fr' out σ' m' (.inl ⟨e, rfl⟩) hx S P' fun a a1 a2 a3 => hm a a1 a3
  · dsimp only
    rw [if_neg (by simp)]
    exact main _ [] _ σ' m' (.inr ⟨e, rfl, ho, rfl, rfl⟩) hx S P' fun a a1 a2 a3 => hm a a2
  · dsimp only
    rw [if_pos (by simp)]
    unfold unP
    rw [if_pos (by simp)]
    refine wp_back S S0.vw S0.rg fun σ' S => ?_
    exact h2 σ' e ho (S.mono (by omega))

theorem wp_qTake {q : Int × Int → Prog α} (S : Sm D σ σ m 0) (P : PoolR m p fr out) (hq : QueueR m root ns vs) (hD : QDom D p root) (hl : σ.pu.length + 30 ≤ big)
    (hns : ∀ x ∈ ns, ∃ i, 0 ≤ i ∧ i < out ∧ x = p.frm + 8 * i) (hap : ∀ x ∈ ns, x ∉ fr) (hnd : ns.Nodup)
    (h1 : ∀ x ns' v vs' σ' m', ns = x :: ns' → vs = v :: vs' → isN p x → Sm D σ σ' m' 20 → PoolR m' p (x :: fr) out → QueueR m' root ns' vs' →
      (∀ a, a ≠ p.root → a ≠ p.root + 2 → a ≠ root → a ≠ root + 1 → a ≠ root + 7 → a ≠ x → m' a = m a) → wp (q (v, 0)) σ' Q)
    (h2 : ∀ σ', ns = [] → Sm D σ σ' m 20 → wp (q (0, 8)) σ' Q) : wp (qTake p root >>= q) σ Q := by
  have S0 := S
  have g := P.good
  have g1 := g.f1; have g2 := g.f2; have g3 := g.n1; have lo := hD.lo; have hi := hD.hi; have g4 := g.r0
  have hlen : (ns.length : Int) ≤ out := nodes_len hns hnd P.out0
  have hout := P.out1
  have hD0 := hD.r 0 (by omega) (by omega)
  rw [Int.add_zero] at hD0
  have hD1 := hD.r 1 (by omega) (by omega)
  have hD7 := hD.r 7 (by omega) (by omega)
  unfold qTake
  rw [wp_bind]
  refine wp_mark ?_
  refine wp_get S hD0 fun σ1 S => ?_
  cases ns with
  | nil =>
    have e : m root = 0 := hq.link
    rw [e, if_pos rfl]
    unfold unP
    rw [if_pos (by simp)]
    refine wp_back S S0.vw S0.rg fun σ' S => ?_
    exact h2 σ' rfl (S.mono (by omega))
  | cons x ns' =>
    obtain ⟨e, hlk⟩ := hq.link
    obtain ⟨i, i0, i1, hxi⟩ := hns x (List.mem_cons_self ..)
    have hx : isN p x := ⟨i, i0, by omega, hxi⟩
    have hxp := isN_pos g hx
    have hxf := hap x (List.mem_cons_self ..)
    rw [List.nodup_cons] at hnd
    have hN' : ∀ y ∈ ns', ∃ j, 0 ≤ j ∧ j < out ∧ y = p.frm + 8 * j ∧ y ≠ x := fun y hy => by
      obtain ⟨j, j0, j1, e⟩ := hns y (List.mem_cons_of_mem _ hy)
      exact ⟨j, j0, j1, e, fun h => hnd.1 (h ▸ hy)⟩
    rw [e, if_neg (by omega), if_pos (isN_node g hx)]
    have hDx := hD.pool.n x hx 0 (by omega) (by omega)
    rw [Int.add_zero] at hDx
    refine wp_get S hDx fun σ1 S => ?_
    refine wp_get S (hD.pool.n x hx 1 (by omega) (by omega)) fun σ1 S => ?_
    refine wp_give S P hD.pool (by omega) hxi ⟨i0, i1⟩ hxf fun σ2 m2 S P2 hm => ?_
    rw [if_neg (by simp)]
    refine wp_put S hD0 (by have := S0.rg (x + 1); exact this) (by omega) fun σ3 S => ?_
    have hfrN : ∀ y ∈ x :: fr, ∃ j, y = p.frm + 8 * j ∧ 0 ≤ j := fun y hy => by
      obtain ⟨j, j0, j1, e⟩ := P2.fN y hy; exact ⟨j, e, j0⟩
    -- the end
    have fin : ∀ (m3 : Int → Int) σ3, Sm D σ σ3 m3 6 → (∀ a, a ≠ root + 1 → m3 a = upd m2 root (m (x + 1)) a) → m3 (root + 1) = ns'.getLast?.getD 0 → wp (qEnd root (m x)) σ3 fun a σ' => wp (q a) σ' Q := by
      intro m3 σ3 S hm3 hlast
      unfold qEnd
      refine wp_get S hD7 fun σ4 S => ?_
      refine wp_put S hD7 (w64_in _) (by omega) fun σ4 S => ?_
      have e7 : w64 (m3 (root + 7) - 1) = (ns'.length : Nat) := by
        rw [hm3 _ (by omega), upd_ne _ _ (by omega), hm _ (by omega) (by omega) (by omega), hq.held]
        simp only [List.length_cons] at hlen ⊢
        rw [w64_R ⟨by omega, by omega⟩]; omega
      rw [e7] at S
      have ha : ∀ a, a ≠ root → a ≠ root + 1 → a ≠ root + 7 → upd m3 (root + 7) (ns'.length : Nat) a = m2 a := fun a a1 a2 a3 => by
        rw [upd_ne _ _ a3, hm3 a a2, upd_ne _ _ a1]
      refine h1 x ns' (m x) (ns'.map m) σ4 _ rfl (by rw [hq.vals]; rfl) hx (S.mono (by omega)) (P2.ext fun a h => ?_) ⟨?_, ?_, upd_eq _ _ _, ?_⟩ fun a a1 a2 a3 a4 a5 a6 => ?_
      · have hP : a < root ∨ root + 7 < a := by
          rcases h with h | h | h | h
          · left; omega
          · left; omega
          · left; omega
          · obtain ⟨j, e, _⟩ := hfrN a h; right; omega
        exact ha a (by omega) (by omega) (by omega)
      · rw [upd_ne _ _ (by omega), hm3 root (by omega), upd_eq]
        refine hlk.ext fun y hy => ?_
        obtain ⟨j, j0, j1, rfl, hne⟩ := hN' y hy
        have := g.ap
        rw [ha _ (by omega) (by omega) (by omega), hm _ (by omega) (by omega) (by omega)]
      · rw [upd_ne _ _ (by omega)]; exact hlast
      · refine List.map_congr_left fun y hy => ?_
        obtain ⟨j, j0, j1, rfl, hne⟩ := hN' y hy
        have := g.ap
        rw [ha _ (by omega) (by omega) (by omega), hm _ (by omega) (by omega) (by omega)]
      · rw [ha a a3 a4 a5, hm a a1 a2 a6]
    by_cases hz : m (x + 1) = 0
    · rw [if_pos hz]
      refine wp_put S hD1 ⟨by omega, by omega⟩ (by omega) fun σ4 S => ?_
      have hnil : ns' = [] := by
        cases ns' with
        | nil => rfl
        | cons y r =>
          obtain ⟨e2, _⟩ := hlk
          obtain ⟨j, j0, j1, e3, _⟩ := hN' y (List.mem_cons_self ..)
          omega
      refine fin _ σ4 (S.mono (by omega)) (fun a ha => upd_ne _ _ ha) ?_
      rw [upd_eq, hnil]; rfl
    · rw [if_neg hz]
      refine fin _ σ3 (S.mono (by omega)) (fun _ _ => rfl) ?_
      rw [upd_ne _ _ (by omega), hm _ (by omega) (by omega) (by omega), hq.last]
      cases ns' with
      | nil => exact absurd hlk hz
      | cons y r => rw [List.getLast?_cons_cons]

def qHead : List Int → Int × Int
  | [] => (0, 8)
  | v :: _ => (v, 0)
theorem wp_qFirst {q : Int × Int → Prog α} {σ0 : Spc} {c : Nat} (S : Sm D σ0 σ m c) (g : p.good) (hq : QueueR m root ns vs) (hD : QDom D p root) (hns : ∀ x ∈ ns, isN p x)
    (h : ∀ σ', Sm D σ0 σ' m c → wp (q (qHead vs)) σ' Q) : wp (qFirst root >>= q) σ Q := by
  have hD0 := hD.r 0 (by omega) (by omega)
  rw [Int.add_zero] at hD0
  unfold qFirst
  rw [wp_bind]
  refine wp_get S hD0 fun σ1 S => ?_
  have hv := hq.vals
  cases ns with
  | nil =>
    have e : m root = 0 := hq.link
    subst hv
    rw [e, if_pos rfl]
    exact h _ S
  | cons x r =>
    obtain ⟨e, hlk⟩ := hq.link
    have hx := hns x (List.mem_cons_self ..)
    have hxp := isN_pos g hx
    subst hv
    rw [e, if_neg (by omega)]
    have hDx := hD.pool.n x hx 0 (by omega) (by omega)
    rw [Int.add_zero] at hDx
    refine wp_get S hDx fun σ1 S => ?_
    exact h _ S
theorem wp_qLoop {q : Option (List Int) → Prog α} {σ0 : Spc} {c : Nat} (g : p.good) (hD : PoolD D p) : ∀ (l : List Int) (n : Nat) (a : Int) (acc : List Int) (σ : Spc), Sm D σ0 σ m c → Lk m 1 a l → (∀ x ∈ l, isN p x) → l.length ≤ n →
    (∀ σ', Sm D σ0 σ' m c → wp (q (some (acc ++ l.map m))) σ' Q) → wp (qLoop p n a acc >>= q) σ Q
  | [], n, a, acc, σ, S, hlk, _, _, h => by
    have e : a = 0 := hlk
    subst e
    have : qLoop p n 0 acc = pure (some acc) := by cases n <;> rfl
    rw [this]
    have := h σ S
    rw [List.map_nil, List.append_nil] at this
    exact this
  | x :: r, n, a, acc, σ, S, hlk, hN, hn, h => by
    obtain ⟨e, hlk⟩ := hlk
    subst e
    have hx := hN a (List.mem_cons_self ..)
    have hxp := isN_pos g hx
    cases n with
    | zero => simp at hn
    | succ n =>
      unfold qLoop
      rw [if_neg (by omega), if_pos (isN_node g hx), wp_bind]
      have hDx := hD.n a hx 0 (by omega) (by omega)
      rw [Int.add_zero] at hDx
      refine wp_get S hDx fun σ1 S => ?_
      refine wp_get S (hD.n a hx 1 (by omega) (by omega)) fun σ1 S => ?_
      rw [← wp_bind]
      refine wp_qLoop g hD r n _ _ σ1 S hlk (fun y hy => hN y (List.mem_cons_of_mem _ hy)) (by simpa using hn) fun σ2 S => ?_
      have := h σ2 S
      rw [List.append_assoc]
      exact this
theorem wp_qWalk {q : Option (List Int) → Prog α} {σ0 : Spc} {c : Nat} (S : Sm D σ0 σ m c) (g : p.good) (hq : QueueR m root ns vs) (hD : QDom D p root) (hns : ∀ x ∈ ns, isN p x) (hlen : (ns.length : Int) ≤ p.nodes)
    (h : ∀ σ', Sm D σ0 σ' m c → wp (q (some vs)) σ' Q) : wp (qWalk p root >>= q) σ Q := by
  have hD0 := hD.r 0 (by omega) (by omega)
  rw [Int.add_zero] at hD0
  unfold qWalk
  rw [wp_bind]
  refine wp_get S hD0 fun σ1 S => ?_
  rw [← wp_bind]
  refine wp_qLoop g hD.pool ns _ _ [] σ1 S hq.link hns (by omega) fun σ2 S => ?_
  rw [List.nil_append, ← hq.vals]
  exact h σ2 S
theorem wp_pLeft {q : Int → Prog α} {σ0 : Spc} {c : Nat} (S : Sm D σ0 σ m c) (P : PoolR m p fr out) (hD : PoolD D p) (h : ∀ σ', Sm D σ0 σ' m c → wp (q (fr.length + p.nodes - out)) σ' Q) : wp (pLeft p >>= q) σ Q := by
  have g := P.good
  have g1 := g.f1; have g2 := g.f2; have g3 := g.n1; have g4 := g.n0
  have := P.len; have := P.out0; have := P.out1
  unfold pLeft
  rw [if_pos g, wp_bind]
  refine wp_get S (hD.r 2 (by omega) (by omega)) fun σ1 S => ?_
  refine wp_get S (hD.r 1 (by omega) (by omega)) fun σ1 S => ?_
  rw [P.frE, P.outE, w64_R (z := fr.length + p.nodes) ⟨by omega, by omega⟩, w64_R ⟨by omega, by omega⟩, Int.max_eq_left (by omega)]
  exact h _ S
end
end Go.En
namespace Go.En
open Prog Spc

variable {S : Sys} {I : Ids} {h h0 h' : Hp} {F F0 : Fp} {R : Value → Hp → Prop} {s : Value} {σ : Spc} {L : List Res}

/-- words from the location 0 on, as entries of a map -/
def knW (xs : List Int) : List (Int × W3) := xs.zipIdx.map fun x => ((x.2 : Int), ⟨x.1, 0, 0⟩)
theorem knW_snoc (xs : List Int) (x : Int) : knW (xs ++ [x]) = knW xs ++ [((xs.length : Int), ⟨x, 0, 0⟩)] := by
  unfold knW
  rw [List.zipIdx_append, List.map_append]; simp
theorem knW_keys (xs : List Int) : (knW xs).map (·.1) = (List.range xs.length).map fun (i : Nat) => (i : Int) := by
  unfold knW
  apply List.ext_getElem?
  intro i
  simp only [List.map_map, List.getElem?_map, List.getElem?_zipIdx]
  by_cases hi : i < xs.length
  · simp [hi]
  · simp [hi]
theorem knW_nodup (xs : List Int) : ((knW xs).map (·.1)).Nodup := by
  rw [knW_keys]
  unfold List.Nodup
  rw [List.pairwise_map]
  exact List.nodup_range.imp fun h e => h (by exact_mod_cast e)
theorem knW_look (xs : List Int) (a : Int) : lookA (knW xs) a = if 0 ≤ a ∧ a < xs.length then some ⟨xs[a.toNat]?.getD 0, 0, 0⟩ else none := by
  by_cases h : 0 ≤ a ∧ a < xs.length
  · rw [if_pos h, ← lookA_mem (knW_nodup xs)]
    unfold knW
    rw [List.mem_map]
    refine ⟨(xs[a.toNat]'(by omega), a.toNat), ?_, ?_⟩
    · rw [List.mem_zipIdx_iff_getElem?]; simp
    · have : a.toNat < xs.length := by omega
      simp [this]; omega
  · rw [if_neg h]
    cases hl : lookA (knW xs) a with
    | none => rfl
    | some w =>
      rw [← lookA_mem (knW_nodup xs)] at hl
      have : a ∈ (knW xs).map (·.1) := List.mem_map.2 ⟨_, hl, rfl⟩
      rw [knW_keys, List.mem_map] at this
      obtain ⟨i, hi, e⟩ := this
      rw [List.mem_range] at hi
      exact absurd ⟨by omega, by omega⟩ h
theorem knW_val {xs : List Int} (hx : ∀ x ∈ xs, R64 x) : ∀ p ∈ knW xs, R64 p.2.v := by
  intro p hp
  unfold knW at hp
  obtain ⟨x, hx', rfl⟩ := List.mem_map.1 hp
  rw [List.mem_zipIdx_iff_getElem?] at hx'
  exact hx _ (List.mem_of_getElem? hx')
/-- a space over words -/
def spW (xs : List Int) : Spc := newS (knW xs)
theorem spW_kn (xs : List Int) (a : Int) : (spW xs).kn a = if 0 ≤ a ∧ a < xs.length then some ⟨xs[a.toNat]?.getD 0, 0, 0⟩ else none := by
  unfold spW newS
  simp only [knW_look]
  split <;> rfl
theorem spW_vw (xs : List Int) (a : Int) : (spW xs).vw a = if 0 ≤ a ∧ a < xs.length then xs[a.toNat]?.getD 0 else 0 := by
  unfold Spc.vw
  rw [spW_kn]
  show (lastP [] a).getD _ = _
  rw [lastP_nil]
  split <;> rfl

structure CsW (S : Sys) (I : Ids) : Prop extends CsV S I where
  walk : ∀ {p : Pl} {root : Int} {s h0 F σ R} {Q : Option (List Int) → Spc → Prop}, 0 ≤ root ∧ root ≤ 1000000 → Cx F h0 h0 [rSpace s σ] → wp (qWalk p root) σ Q →
    (∀ (o : Option (List Int)) σ' v h' M, Cx F h0 h' (rSpace s σ' :: rSl EI1 v (o.getD []) :: M) → Q o σ' → R (.tuple #[v, .int .i64 (if o.isSome then 0 else 24)]) h') → S.C I.f_queue_Walk [s, vP p, .int .i64 root] h0 R

theorem K_Known {v : Value} {xs : List Int} (hs : Sl EI1 h v xs) (hb : xs.length ≤ 1000000) (hR : ∀ m h', Cx (fun _ => False) h h' [rMp .i64 mW (.map (some m)) (knW xs)] → R (.map (some m)) h') :
    F_simulcastlaw31_Words_Known S I (.agg #[v]) h R := by
  unfold F_simulcastlaw31_Words_Known
  obtain ⟨a, cap, rfl, hs1⟩ := id hs
  refine (Cx.start0 h).nw ESh (a, xs.length, cap) rfl fun r h1 c => ?_
  refine c.mmk .i64 mW fun m h2 c => ?_
  refine Lp1.by (fun (i : Nat) v h' => i ≤ xs.length ∧ v = .int .i64 i ∧ Cx (fun _ => False) h h' [rVar ESh r (a, xs.length, cap), rMp .i64 mW (.map (some m)) (knW (xs.take i))]) (fun i => xs.length - i) 0 ⟨by omega, rfl, c⟩ ?_
  rintro i v h3 ⟨hi, rfl, c⟩ again hagain
  refine (c.va (i := 0) rfl).fld (j := 0) rfl ?_
  simp only [go_sem]
  refine brd (fun h4 => ?_) fun h4 => ?_
  · have hi' : i < xs.length := by omega
    refine (c.va (i := 0) rfl).row.ldc (j := 0) rfl |> fun e => ?_
    rw [e, vb_some]
    refine (hs.gr c.gr).one rfl (List.getElem?_eq_getElem hi') rfl rfl ?_
    refine vb rfl ?_
    refine c.mup 1 rfl (i : Int) ⟨xs[i], 0, 0⟩ rfl fun h5 c => ?_
    rw [wrS (by omega)]
    refine hagain (i + 1) _ _ ⟨by omega, rfl, ?_⟩ (by omega)
    rw [List.take_add_one, List.getElem?_eq_getElem hi']
    have e2 : updA (knW (xs.take i)) (i : Int) ⟨xs[i], 0, 0⟩ = knW (xs.take i ++ [xs[i]]) := by
      rw [knW_snoc, updA_end]
      · rw [List.length_take, Nat.min_eq_left (by omega)]
      · rw [knW_look, if_neg (by rw [List.length_take]; omega)]
    rw [e2] at c
    exact c
  · have : i = xs.length := by omega
    subst this
    rw [List.take_length] at c
    exact hR _ _ (c.one 1 rfl)

structure CsX (S : Sys) (I : Ids) : Prop extends CsW S I where
  known : ∀ {v xs h R}, Sl EI1 h v xs → xs.length ≤ 1000000 → (∀ m h', Cx (fun _ => False) h h' [rMp .i64 mW (.map (some m)) (knW xs)] → R (.map (some m)) h') → S.C I.f_simulcastlaw31_Words_Known [.agg #[v]] h R

theorem K_space0 {v : Value} {xs : List Int} (cs : CsX S I) (hs : Sl EI1 h v xs) (hb : xs.length ≤ 1000000) (hx : ∀ x ∈ xs, R64 x) (hR : ∀ s h', Cx (fun _ => False) h h' [rSpace s (spW xs)] → R s h') :
    F_simulcastlaw34_space0 S I (.agg #[v]) h R := by
  unfold F_simulcastlaw34_space0
  obtain ⟨a, cap, rfl, hs1⟩ := id hs
  refine (Cx.start0 h).nw ESh (a, xs.length, cap) rfl fun r h1 c => ?_
  rw [(c.va (i := 0) rfl).whole (n := 1) rfl, vb_some]
  refine cs.known (hs.gr c.gr) hb fun m h2 c2 => ?_
  have c := c.frame0 c2
  obtain ⟨F, c3, up⟩ := c.frame (i := 1) rfl
  refine cs.new (knW_nodup xs) (knW_val hx) c3 fun s h3 c4 => ?_
  exact hR _ _ ((up c4).one 2 rfl)

/-- a new slice of zeroes -/
theorem Cx.mksl {α : Type} (E : Enc α) (x0 : α) (c : Cx F0 h0 h L) {zero : Array Value} {n : Nat} {size bytes : Nat} {e : TypeId} {z : Int} (hz : z = n) (h0' : zero.toList = E.c x0) (hs : size = E.n) (hb : n ≤ 1000000000) (hb2 : bytes ≤ 10000) {k : Value → Hp → Prop}
    (hk : ∀ a h', Cx F0 h0 h' (L ++ [rSl E (.slice (some a) n n) (List.replicate n x0)]) → k (.slice (some a) n n) h') : Eb (msl zero size bytes e (.int .i64 z) (.int .i64 z) h) k := by
  subst hz
  refine make_ok h0' hs hb hb2 fun h' o g hsz => hk _ h' (c.add (F' := fun q => q = h.size) ⟨o, fun q => by simp [blk, eq_comm]⟩ g fun r e => by omega)

theorem K_start34 {n : Int} (hn : 0 ≤ n ∧ n ≤ 255) (hR : ∀ a l c h', Cx (fun _ => False) h h' [rSl EI1 (.slice a l c) (List.replicate (24 + 8 * (n % 9).toNat) 0)] → R (.tuple #[vP ⟨3, 24, n % 9⟩, .agg #[.slice a l c]]) h') :
    F_simulcastlaw34_start S I (.int .u8 n) h R := by
  unfold F_simulcastlaw34_start
  refine (Cx.start0 h).nw EPl ⟨0, 0, 0⟩ rfl fun r2 h1 c => ?_
  refine c.nw ESh (none, 0, 0) rfl fun r3 h1 c => ?_
  rw [bin_rem (by omega), vb_some, cvi_int, vb_some, Int.tmod_eq_emod_of_nonneg hn.1, wr64 (n := n % 9) (by omega)]
  refine vb rfl ?_
  refine c.nw EPl ⟨0, 0, 0⟩ rfl fun r4 h1 c => ?_
  refine c.sto 2 rfl ⟨3, 24, n % 9⟩ rfl rfl fun h1 c => ?_
  refine .here ?_
  rw [plA (i := 2) c rfl]
  simp only [go_sem, pl2 (i := 2) c rfl]
  rw [wr64 (n := 8 * (n % 9)) (by omega), wr64 (n := 24 + 8 * (n % 9)) (by omega)]
  refine ⟨?_, ?_⟩
  · refine c.mksl EI1 0 (n := 24 + 8 * (n % 9).toNat) (by omega) rfl rfl (by omega) (by omega) fun a h2 c => ?_
    refine ⟨plA (i := 2) c rfl, ?_⟩
    refine vb rfl ?_
    refine c.sto 0 rfl ⟨3, 24, n % 9⟩ rfl rfl fun h3 c => ?_
    refine c.sto (n := 1) 1 rfl (some a, _, _) rfl rfl fun h4 c => ?_
    rw [plA (i := 0) c rfl, vb_some, (c.va (i := 1) rfl).whole (n := 1) rfl, vb_some]
    exact hR _ _ _ _ (c.one 3 rfl)
  · refine c.sto 0 rfl ⟨3, 24, n % 9⟩ rfl rfl fun h3 c => ?_
    refine ⟨pl2 (i := 2) c rfl, ?_⟩
    refine c.mksl EI1 0 (n := 24 + 8 * (n % 9).toNat) (by omega) rfl rfl (by omega) (by omega) fun a h2 c => ?_
    refine vb rfl ?_
    refine c.sto (n := 1) 1 rfl (some a, _, _) rfl rfl fun h4 c => ?_
    rw [plA (i := 0) c rfl, vb_some, (c.va (i := 1) rfl).whole (n := 1) rfl, vb_some]
    exact hR _ _ _ _ (c.one 3 rfl)
end Go.En
namespace Go.En
open Prog Spc

theorem wp_ret {α : Type} {p : Prog α} {σ : Spc} {Q : α → Spc → Prop} (h : wp (p >>= Prog.ret) σ Q) : wp p σ Q := by
  rw [wp_bind] at h; exact h

/-- the pool of the laws -/
abbrev pQ (n : Int) : Pl := ⟨3, 24, n⟩
abbrev dQ (n : Int) : Int → Prop := fun a => 0 ≤ a ∧ a < 24 + 8 * n
theorem pQ_good {n : Int} (h : 0 ≤ n ∧ n ≤ 8) : (pQ n).good := ⟨by simp, by simp, h.1, by simp only; omega, by simp, by simp only; omega, .inr (.inl (by simp))⟩
theorem dQ_dom {n r : Int} (hr : r = 8 ∨ r = 16) (h : 0 ≤ n ∧ n ≤ 8) : QDom (dQ n) (pQ n) r := by
  refine ⟨⟨fun i h0 h1 => ⟨by simp only; omega, by simp only; omega⟩, fun x hx i h0 h1 => ?_⟩, fun i h0 h1 => ⟨by omega, by omega⟩, by simp only; omega, by simp only; omega⟩
  obtain ⟨j, j0, j1, rfl⟩ := hx
  simp only at *
  exact ⟨by omega, by omega⟩

/-- two queues; since σ0 -/
def QS (n : Int) (σ0 σ : Spc) (r : Int) (vs : List Int) (r' : Int) (vs' : List Int) (c : Nat) : Prop :=
  ∃ m fr out ns ns', Sm (dQ n) σ0 σ m c ∧ PoolR m (pQ n) fr out ∧ QueueR m r ns vs ∧ QueueR m r' ns' vs' ∧ (∀ x ∈ ns ++ ns', ∃ i, 0 ≤ i ∧ i < out ∧ x = 24 + 8 * i) ∧ (fr ++ (ns ++ ns')).Nodup ∧ (fr.length + ns.length + ns'.length : Int) = out

section
variable {n r r' : Int} {σ0 σ : Spc} {vs vs' : List Int} {c : Nat}
theorem QS.swap (q : QS n σ0 σ r vs r' vs' c) : QS n σ0 σ r' vs' r vs c := by
  obtain ⟨m, fr, out, ns, ns', h1, h2, h3, h4, h5, h6, h7⟩ := q
  refine ⟨m, fr, out, ns', ns, h1, h2, h4, h3, fun x hx => h5 x (by rw [List.mem_append] at hx ⊢; exact hx.symm), ?_, by omega⟩
  exact (List.Perm.nodup_iff (List.Perm.append_left fr List.perm_append_comm)).1 h6
theorem QS.fresh (q : QS n σ0 σ r vs r' vs' c) : QS n σ σ r vs r' vs' 0 := by
  obtain ⟨m, fr, out, ns, ns', h1, h⟩ := q
  exact ⟨m, fr, out, ns, ns', h1.fresh, h⟩
theorem QS.over {σ1 : Spc} {ws ws' : List Int} {c' : Nat} (q : QS n σ0 σ1 r ws r' ws' c) (q' : QS n σ1 σ r vs r' vs' c') : QS n σ0 σ r vs r' vs' (c + c') := by
  obtain ⟨m, fr, out, ns, ns', h1, h⟩ := q'
  obtain ⟨_, _, _, _, _, g1, _⟩ := q
  exact ⟨m, fr, out, ns, ns', g1.trans h1, h⟩
theorem QS.mono (q : QS n σ0 σ r vs r' vs' c) {c' : Nat} (h : c ≤ c') : QS n σ0 σ r vs r' vs' c' := by
  obtain ⟨m, fr, out, ns, ns', h1, h2⟩ := q
  exact ⟨m, fr, out, ns, ns', h1.mono h, h2⟩
theorem QS.len (q : QS n σ0 σ r vs r' vs' c) : σ.pu.length ≤ σ0.pu.length + c := by
  obtain ⟨m, fr, out, ns, ns', h1, h2⟩ := q
  exact h1.len
theorem QueueR.len {m : Int → Int} {root : Int} {ns vs : List Int} (q : QueueR m root ns vs) : vs.length = ns.length := by rw [q.vals, List.length_map]

structure QHyp (n r r' : Int) : Prop where
  n : 0 ≤ n ∧ n ≤ 8
  r : r = 8 ∧ r' = 16 ∨ r = 16 ∧ r' = 8
theorem QHyp.swap (h : QHyp n r r') : QHyp n r' r := ⟨h.n, h.r.symm.imp And.symm And.symm⟩

theorem QS.put (q : QS n σ σ r vs r' vs' 0) (hh : QHyp n r r') (hl : σ.pu.length + 30 ≤ big) {v : Int} (hv : R64 v) :
    wp (qPut (pQ n) r v) σ fun e σ' => if (vs.length + vs'.length : Int) < n then e = 0 ∧ QS n σ σ' r (vs ++ [v]) r' vs' 20 else e = 9 ∧ QS n σ σ' r vs r' vs' 20 := by
  obtain ⟨m, fr, out, ns, ns', S, P, q1, q2, hN, hnd, hlen⟩ := q
  have hn := hh.n
  have hD := dQ_dom (r := r) (n := n) (by rcases hh.r with h | h <;> omega) hn
  have e1 := q1.len; have e2 := q2.len
  have ho := P.out1
  simp only at ho
  refine wp_ret ?_
  have hap : ∀ x ∈ ns ++ ns', x ∉ fr := fun x hx hf => (List.nodup_append.1 hnd).2.2 x hf x hx rfl
  refine wp_qPut S P q1 hD hl hv (fun x hx => hN x (List.mem_append_left _ hx)) (fun x hx => hap x (List.mem_append_left _ hx)) (List.nodup_append.1 (List.nodup_append.1 hnd).2.1).1 (fun x fr' out' σ' m' hT hx S' P' q1' hm => ?_) fun σ' hf he S' => ?_
  · have hT' := hT
    show ite _ _ _
    have hxout : ∃ i, 0 ≤ i ∧ i < out' ∧ x = 24 + 8 * i := by
      rcases hT with ⟨rfl, rfl⟩ | ⟨rfl, rfl, h1, h2, h3⟩
      · exact P.fN x (List.mem_cons_self ..)
      · exact ⟨out, P.out0, by omega, h2⟩
    have hle : out ≤ out' := by rcases hT with ⟨_, h⟩ | ⟨_, _, _, _, h⟩ <;> omega
    have hxn : x ∉ ns ++ ns' := by
      intro h
      rcases hT with ⟨rfl, rfl⟩ | ⟨rfl, rfl, h1, h2, h3⟩
      · exact hap x h (List.mem_cons_self ..)
      · obtain ⟨i, i0, i1, e⟩ := hN x h
        simp only at h2; omega
    have hfl : (fr'.length + (ns.length + 1) + ns'.length : Int) = out' ∧ (ns.length + ns'.length : Int) < n := by
      rcases hT with ⟨rfl, rfl⟩ | ⟨rfl, rfl, h1, h2, h3⟩
      · simp only [List.length_cons] at hlen; omega
      · simp only [List.length_nil] at hlen ⊢; simp only at h1; omega
    rw [if_pos (by omega)]
    refine ⟨rfl, m', fr', out', ns ++ [x], ns', S', P', q1', q2.ext fun a ha => ?_, fun y hy => ?_, ?_, by simp only [List.length_append, List.length_singleton]; omega⟩
    · -- the other queue is as it was
      have key : (a = r' ∨ a = r' + 1 ∨ a = r' + 7) ∨ ∃ y ∈ ns', ∃ i, 0 ≤ i ∧ y = 24 + 8 * i ∧ (a = y ∨ a = y + 1) := by
        rcases ha with h | h | h | ⟨y, hy, h⟩
        · exact .inl (.inl h)
        · exact .inl (.inr (.inl h))
        · exact .inl (.inr (.inr h))
        · obtain ⟨i, i0, _, e⟩ := hN y (List.mem_append_right _ hy)
          exact .inr ⟨y, hy, i, i0, e, h⟩
      have hnsx : ∀ z ∈ ns ++ [x], ∃ j, 0 ≤ j ∧ z = 24 + 8 * j := fun z hz => by
        rcases List.mem_append.1 hz with hz | hz
        · obtain ⟨j, j0, _, e⟩ := hN z (List.mem_append_left _ hz); exact ⟨j, j0, e⟩
        · simp only [List.mem_singleton] at hz; subst hz; obtain ⟨j, j0, _, e⟩ := hxout; exact ⟨j, j0, e⟩
      rcases key with h | ⟨y, hy, i, i0, rfl, h⟩
      · have := hh.r
        refine hm a ?_ ?_ ?_ ?_ ?_ ?_ fun z hz => ?_
        all_goals first
          | ((try simp only); omega)
          | (obtain ⟨j, j0, rfl⟩ := hnsx z hz; omega)
      · have := hh.r
        have hne : ∀ z ∈ ns ++ [x], z ≠ 24 + 8 * i := fun z hz e => by
          rcases List.mem_append.1 hz with hz | hz
          · exact (List.nodup_append.1 (List.nodup_append.1 hnd).2.1).2.2 z hz _ hy e
          · simp only [List.mem_singleton] at hz
            subst hz
            exact hxn (List.mem_append_right _ (e ▸ hy))
        refine hm a ?_ ?_ ?_ ?_ ?_ ?_ fun z hz => ?_
        all_goals first
          | ((try simp only); omega)
          | (have := hne z hz; obtain ⟨j, j0, rfl⟩ := hnsx z hz; omega)
    · rcases List.mem_append.1 hy with hy | hy
      · rcases List.mem_append.1 hy with hy | hy
        · obtain ⟨i, i0, i1, e⟩ := hN y (List.mem_append_left _ hy); exact ⟨i, i0, by omega, e⟩
        · simp only [List.mem_singleton] at hy; subst hy; exact hxout
      · obtain ⟨i, i0, i1, e⟩ := hN y (List.mem_append_right _ hy); exact ⟨i, i0, by omega, e⟩
    · have hp : (fr' ++ (ns ++ [x] ++ ns')).Perm (x :: (fr' ++ (ns ++ ns'))) := by
        rw [List.append_assoc ns]
        refine (List.Perm.append_left fr' (List.perm_middle (a := x) (l₁ := ns) (l₂ := ns'))).trans ?_
        exact List.perm_middle
      rw [hp.nodup_iff, List.nodup_cons]
      rcases hT with ⟨rfl, rfl⟩ | ⟨rfl, rfl, h1, h2, h3⟩
      · rw [List.cons_append, List.nodup_cons] at hnd; exact hnd
      · exact ⟨by simpa using hxn, hnd⟩
  · show ite _ _ _
    subst hf
    simp only [List.length_nil] at hlen
    simp only at he
    rw [if_neg (by omega)]
    exact ⟨rfl, m, [], out, ns, ns', S', P, q1, q2, hN, hnd, by simpa using hlen⟩

theorem QS.take (q : QS n σ σ r vs r' vs' 0) (hh : QHyp n r r') (hl : σ.pu.length + 30 ≤ big) :
    wp (qTake (pQ n) r) σ fun e σ' => match vs with
      | [] => e = (0, 8) ∧ QS n σ σ' r [] r' vs' 20
      | v :: ws => e = (v, 0) ∧ QS n σ σ' r ws r' vs' 20 := by
  obtain ⟨m, fr, out, ns, ns', S, P, q1, q2, hN, hnd, hlen⟩ := q
  have hn := hh.n
  have hD := dQ_dom (r := r) (n := n) (by rcases hh.r with h | h <;> omega) hn
  have e1 := q1.len; have e2 := q2.len
  refine wp_ret ?_
  have hap : ∀ x ∈ ns ++ ns', x ∉ fr := fun x hx hf => (List.nodup_append.1 hnd).2.2 x hf x hx rfl
  refine wp_qTake S P q1 hD hl (fun x hx => hN x (List.mem_append_left _ hx)) (fun x hx => hap x (List.mem_append_left _ hx)) (List.nodup_append.1 (List.nodup_append.1 hnd).2.1).1 (fun x ms v ws σ' m' hx hv hxN S' P' q1' hm => ?_) fun σ' hf S' => ?_
  · subst hx hv
    refine ⟨rfl, m', x :: fr, out, ms, ns', S', P', q1', q2.ext fun a ha => ?_, fun y hy => hN y ?_, ?_, by simp only [List.length_cons] at hlen ⊢; omega⟩
    · have hx := hN x (by simp)
      obtain ⟨j, j0, j1, rfl⟩ := hx
      have := hh.r
      rcases ha with h | h | h | ⟨y, hy, h⟩
      · exact hm a (by simp only; omega) (by simp only; omega) (by omega) (by omega) (by omega) (by omega)
      · exact hm a (by simp only; omega) (by simp only; omega) (by omega) (by omega) (by omega) (by omega)
      · exact hm a (by simp only; omega) (by simp only; omega) (by omega) (by omega) (by omega) (by omega)
      · obtain ⟨i, i0, i1, rfl⟩ := hN y (List.mem_append_right _ hy)
        have hne : (24 + 8 * j : Int) ≠ 24 + 8 * i := (List.nodup_append.1 (List.nodup_append.1 hnd).2.1).2.2 _ (List.mem_cons_self ..) _ hy
        exact hm a (by simp only; omega) (by simp only; omega) (by omega) (by omega) (by omega) (by omega)
    · rw [List.cons_append]; exact List.mem_cons_of_mem _ hy
    · rw [List.cons_append]
      rw [List.cons_append] at hnd
      exact (List.perm_middle.nodup_iff).1 hnd
  · subst hf
    have hv : vs = [] := List.length_eq_zero_iff.1 (by simpa using e1)
    subst hv
    exact ⟨rfl, m, fr, out, [], ns', S', P, q1, q2, hN, hnd, hlen⟩

theorem QS.isN {n out : Int} {ns' : List Int} (hN : ∀ x ∈ ns', ∃ i, 0 ≤ i ∧ i < out ∧ x = 24 + 8 * i) (ho : out ≤ n) : ∀ x ∈ ns', En.isN (pQ n) x := fun x hx => by
  obtain ⟨i, i0, i1, e⟩ := hN x hx
  exact ⟨i, i0, by simp only; omega, e⟩
theorem QS.first (q : QS n σ σ r vs r' vs' 0) (hh : QHyp n r r') : wp (qFirst r) σ fun e σ' => e = qHead vs ∧ QS n σ σ' r vs r' vs' 0 := by
  obtain ⟨m, fr, out, ns, ns', S, P, q1, q2, hN, hnd, hlen⟩ := q
  have hD := dQ_dom (r := r) (n := n) (by rcases hh.r with h | h <;> omega) hh.n
  refine wp_ret (wp_qFirst S P.good q1 hD (QS.isN (fun x hx => hN x (List.mem_append_left _ hx)) P.out1) fun σ' S' => ?_)
  exact ⟨rfl, m, fr, out, ns, ns', S', P, q1, q2, hN, hnd, hlen⟩
theorem QS.walk (q : QS n σ σ r vs r' vs' 0) (hh : QHyp n r r') : wp (qWalk (pQ n) r) σ fun e σ' => e = some vs ∧ QS n σ σ' r vs r' vs' 0 := by
  obtain ⟨m, fr, out, ns, ns', S, P, q1, q2, hN, hnd, hlen⟩ := q
  have hD := dQ_dom (r := r) (n := n) (by rcases hh.r with h | h <;> omega) hh.n
  have := P.out1
  refine wp_ret (wp_qWalk S P.good q1 hD (QS.isN (fun x hx => hN x (List.mem_append_left _ hx)) P.out1) (by simp only at *; omega) fun σ' S' => ?_)
  exact ⟨rfl, m, fr, out, ns, ns', S', P, q1, q2, hN, hnd, hlen⟩
theorem QS.lenw (q : QS n σ σ r vs r' vs' 0) (hh : QHyp n r r') : wp (gt (r + 7)) σ fun e σ' => e = vs.length ∧ QS n σ σ' r vs r' vs' 0 := by
  obtain ⟨m, fr, out, ns, ns', S, P, q1, q2, hN, hnd, hlen⟩ := q
  have hD := dQ_dom (r := r) (n := n) (by rcases hh.r with h | h <;> omega) hh.n
  refine wp_ret (wp_get S (hD.r 7 (by omega) (by omega)) fun σ' S' => ?_)
  exact ⟨by rw [q1.held, q1.len], m, fr, out, ns, ns', S', P, q1, q2, hN, hnd, hlen⟩
theorem QS.left (q : QS n σ σ r vs r' vs' 0) (hh : QHyp n r r') : wp (pLeft (pQ n)) σ fun e σ' => e = n - vs.length - vs'.length ∧ QS n σ σ' r vs r' vs' 0 := by
  obtain ⟨m, fr, out, ns, ns', S, P, q1, q2, hN, hnd, hlen⟩ := q
  have hD := dQ_dom (r := r) (n := n) (by rcases hh.r with h | h <;> omega) hh.n
  have e1 := q1.len; have e2 := q2.len
  refine wp_ret (wp_pLeft S P hD.pool fun σ' S' => ?_)
  exact ⟨by simp only; omega, m, fr, out, ns, ns', S', P, q1, q2, hN, hnd, hlen⟩
end
end Go.En
namespace Go.En
open Prog Spc

variable {S : Sys} {I : Ids} {h h0 h' : Hp} {F F0 : Fp} {R : Value → Hp → Prop} {s : Value} {σ : Spc} {L : List Res} {n : Int}

theorem idx_get' {α : Type} {xs : List α} {i : Nat} (h : i < xs.length) : xs[i]? = some xs[i] := List.getElem?_eq_getElem h

theorem K_Same34 {a b : Value} {xs ys : List Int} (ha : Sl EI1 h a xs) (hb : Sl EI1 h b ys) (hl : xs.length ≤ 1000000) (hR : R (.bool (decide (xs = ys))) h) : F_simulcastref34_Same S I a b h R := by
  unfold F_simulcastref34_Same
  refine vb ha.ln (vb hb.ln ?_)
  simp only [go_sem]
  refine brd (fun h1 => ?_) fun h1 => ?_
  · rw [decide_eq_false (fun e => h1 (by rw [e]))] at hR; exact hR
  have hlen : xs.length = ys.length := by omega
  refine .by (fun (i : Nat) v h' => i ≤ xs.length ∧ v = .int .i64 i ∧ h' = h ∧ xs.take i = ys.take i) (fun i => xs.length - i) 0 ⟨by omega, rfl, rfl, rfl⟩ ?_
  rintro i v h' ⟨hi, rfl, rfl, he⟩ again hagain
  refine vb ha.ln ?_
  simp only [go_sem]
  refine brd (fun h1 => ?_) fun h1 => ?_
  · have hi1 : i < xs.length := by omega
    have hi2 : i < ys.length := by omega
    refine ha.one rfl (idx_get' hi1) rfl rfl (hb.one rfl (idx_get' hi2) rfl rfl ?_)
    simp only [go_sem]
    refine brd (fun h2 => ?_) fun h2 => ?_
    · rw [decide_eq_false (fun e => h2 (by subst e; rfl))] at hR; exact hR
    · refine hagain (i + 1) _ _ ⟨by omega, by rw [wrS (by omega)], rfl, ?_⟩ (by omega)
      rw [List.take_add_one, List.take_add_one, he, idx_get' hi1, idx_get' hi2]
      have : xs[i] = ys[i] := by omega
      rw [this]
  · have : i = xs.length := by omega
    subst this
    rw [List.take_length, hlen, List.take_length] at he
    rw [decide_eq_true he] at hR; exact hR

theorem K_refPut34 {l : Value} {xs : List Int} {v left : Int} (hl : Sl EI1 h l xs) (hlen : xs.length ≤ 1000000) (h1 : left ≤ 0 → R (.tuple #[l, .int .i64 9]) h)
    (h2 : 0 < left → ∀ w h', Cx (fun _ => False) h h' [rSl EI1 w (xs ++ [v])] → R (.tuple #[w, .int .i64 0]) h') : F_simulcastref34_Put S I l (.int .i64 v) (.int .i64 left) h R := by
  unfold F_simulcastref34_Put
  simp only [go_sem]
  refine brd (fun h3 => h1 h3) fun h3 => ?_
  refine (Cx.start0 h).bsl0 EI1 fun u h4 c => ?_
  refine c.ap 0 rfl (hl.gr c.gr) rfl rfl (by simp only [List.length_nil]; omega) (by simp only [List.length_nil]; omega) fun w h5 c => ?_
  rw [List.nil_append] at c
  refine c.app1 0 rfl v rfl rfl rfl (by simp only [List.nil_append]; omega) (by simp only [List.nil_append]; omega) fun w h6 c => ?_
  exact h2 (by omega) w _ c

theorem K_refTake34 {l : Value} {xs : List Int} (hl : Sl EI1 h l xs) (hlen : xs.length ≤ 1000000) (h1 : xs = [] → R (.tuple #[l, .int .i64 0, .int .i64 8]) h)
    (h2 : ∀ x r w h', xs = x :: r → Cx (fun _ => False) h h' [rSl EI1 w r] → R (.tuple #[w, .int .i64 x, .int .i64 0]) h') : F_simulcastref34_Take S I l h R := by
  unfold F_simulcastref34_Take
  refine vb hl.ln ?_
  simp only [go_sem]
  cases xs with
  | nil => exact brT (by simp) (h1 rfl)
  | cons x r =>
    simp only [List.length_cons] at hlen
    refine brF (by simp only [List.length_cons]; omega) ?_
    obtain ⟨w, e, hw, hb⟩ := hl.sub (n := 1) rfl (lo := some (.int .i64 1)) (hi := none) (l := 1) (u := (x :: r).length) (.inr ⟨_, _, rfl, rfl⟩) (.inl ⟨rfl, rfl⟩) (by simp) (Nat.le_refl _)
    rw [List.take_length, List.drop_one, List.tail_cons] at hw
    refine vb e ?_
    obtain ⟨ar, ao, e2, hrow, _⟩ := hl.ix (i := 0) (x := x) rfl (n := 1) rfl (k := .i64) (z := 0) rfl
    rw [e2, vb_some, hrow.ldc0 rfl, vb_some]
    refine (Cx.start0 h).bsl0 EI1 fun u h4 c => ?_
    refine ⟨(hrow.ch c.gr fun e => e).ldc0 rfl, ?_⟩
    refine c.ap 0 rfl (hw.gr c.gr) rfl rfl (by simp only [List.length_nil]; omega) (by simp only [List.length_nil]; omega) fun w h5 c => ?_
    rw [List.nil_append] at c
    exact ⟨(hrow.ch c.gr fun e => e).ldc0 rfl, h2 x r w _ rfl c⟩

structure Act34 where
  k : Int
  v : Int
def EAct : Enc Act34 := { n := 2, c := fun o => [.int .u8 o.k, .int .i64 o.v], len := fun _ => rfl, one := fun a v h => by simp only [List.mem_cons, List.not_mem_nil, or_false] at h; rcases h with rfl | rfl <;> rfl }
abbrev Act34.ok (a : Act34) : Prop := (0 ≤ a.k ∧ a.k ≤ 255) ∧ R64 a.v

structure CsY (S : Sys) (I : Ids) : Prop extends CsX S I where
  space0 : ∀ {v xs h R}, Sl EI1 h v xs → xs.length ≤ 1000000 → (∀ x ∈ xs, R64 x) → (∀ s h', Cx (fun _ => False) h h' [rSpace s (spW xs)] → R s h') → S.C I.f_simulcastlaw34_space0 [.agg #[v]] h R
  start : ∀ {n : Int} {h R}, 0 ≤ n ∧ n ≤ 255 → (∀ a l c h', Cx (fun _ => False) h h' [rSl EI1 (.slice a l c) (List.replicate (24 + 8 * (n % 9).toNat) 0)] → R (.tuple #[vP ⟨3, 24, n % 9⟩, .agg #[.slice a l c]]) h') → S.C I.f_simulcastlaw34_start [.int .u8 n] h R
  same : ∀ {a b xs ys h R}, Sl EI1 h a xs → Sl EI1 h b ys → xs.length ≤ 1000000 → R (.bool (decide (xs = ys))) h → S.C I.f_simulcastref34_Same [a, b] h R
  rput : ∀ {l xs h R} {v left : Int}, Sl EI1 h l xs → xs.length ≤ 1000000 → (left ≤ 0 → R (.tuple #[l, .int .i64 9]) h) → (0 < left → ∀ w h', Cx (fun _ => False) h h' [rSl EI1 w (xs ++ [v])] → R (.tuple #[w, .int .i64 0]) h') → S.C I.f_simulcastref34_Put [l, .int .i64 v, .int .i64 left] h R
  rtake : ∀ {l xs h R}, Sl EI1 h l xs → xs.length ≤ 1000000 → (xs = [] → R (.tuple #[l, .int .i64 0, .int .i64 8]) h) → (∀ x r w h', xs = x :: r → Cx (fun _ => False) h h' [rSl EI1 w r] → R (.tuple #[w, .int .i64 x, .int .i64 0]) h') → S.C I.f_simulcastref34_Take [l] h R

theorem hh8 {n : Int} (h : 0 ≤ n ∧ n ≤ 8) : QHyp n 8 16 := ⟨h, .inl ⟨rfl, rfl⟩⟩
theorem QS.vlen {r r' : Int} {σ0 : Spc} {vs vs' : List Int} {c : Nat} (q : QS n σ0 σ r vs r' vs' c) : (vs.length + vs'.length : Int) ≤ n := by
  obtain ⟨m, fr, out, ns, ns', S, P, q1, q2, hN, hnd, hlen⟩ := q
  have := P.out1
  simp only at this
  rw [q1.len, q2.len]; omega

/-- an operation agrees with the reference -/
theorem K_done34 {l : Value} {vs : List Int} {a : Act34} (cs : CsY S I) (hn : 0 ≤ n ∧ n ≤ 8) (q : QS n σ σ 8 vs 16 [] 0) (hl : σ.pu.length + 30 ≤ big) (ha : a.ok) (c : Cx F h h [rSpace s σ]) (hs : Sl EI1 h l vs) (hd : ∀ r, blk l = some r → ¬ F r)
    (hA : ∀ σ' h', QS n σ σ' 8 vs 16 [] 20 → Cx F h h' [rSpace s σ'] → R (.tuple #[l, .bool true]) h')
    (hB : ∀ σ' w ws h', QS n σ σ' 8 ws 16 [] 20 → Cx F h h' [rSpace s σ', rSl EI1 w ws] → R (.tuple #[w, .bool true]) h') : F_simulcastlaw34_done S I s (vP (pQ n)) l (.agg ⟨EAct.c a⟩) h R := by
  unfold F_simulcastlaw34_done
  have hvl := q.vlen
  simp only [List.length_nil] at hvl
  refine c.nw EPl (pQ n) rfl fun rp h1 c => ?_
  refine c.nw EAct a rfl fun ra h1 c => ?_
  refine (c.va (i := 2) rfl).fld (j := 0) rfl ?_
  rw [bin_rem (by omega), vb_some, Int.tmod_eq_emod_of_nonneg ha.1.1]
  simp only [go_sem]
  refine brd (fun h3 => ?_) fun h3 => ?_
  · rw [plA (i := 1) c rfl]
    simp only [go_sem]
    have e1 : ldc (.pointer (some ⟨ra, 0 + 1, none⟩)) h1 = some (.int .i64 a.v) := (c.va (i := 2) rfl).row.ldc (j := 1) rfl
    rw [e1, vb_some]
    refine c.last (cs.qput ⟨by omega, by omega⟩ ha.2) 0 rfl (q.put (hh8 hn) hl ha.2) fun e σ' h4 c hq => ?_
    have e2 : ldc (.pointer (some ⟨ra, 0 + 1, none⟩)) h4 = some (.int .i64 a.v) := (c.va (i := 2) rfl).row.ldc (j := 1) rfl
    rw [e2, vb_some, pl2 (i := 1) c rfl, vb_some, hs.ln, vb_some]
    simp only [go_sem]
    rw [wr64 (n := n - vs.length) (by omega)]
    have hs4 := hs.ch c.gr hd
    refine cs.rput hs4 (by omega) (fun hle => ?_) fun hlt w h5 c5 => ?_
    · rw [if_neg (by simp only [List.length_nil]; omega)] at hq
      simp only [go_sem, hq.1, decide_true]
      exact hA σ' h4 hq.2 (c.one 0 rfl)
    · rw [if_pos (by simp only [List.length_nil]; omega)] at hq
      simp only [go_sem, hq.1, decide_true]
      have c := c.frame0 c5
      exact hB σ' w _ h5 hq.2 (((c.front 3 rfl).front 1 rfl).drop (L := [_, _]))
  · rw [plA (i := 1) c rfl]
    simp only [go_sem]
    refine c.last (cs.qtake ⟨by omega, by omega⟩) 0 rfl (q.take (hh8 hn) hl) fun e σ' h4 c hq => ?_
    have hs4 := hs.ch c.gr hd
    simp only [go_sem]
    refine cs.rtake hs4 (by omega) (fun hnil => ?_) fun x r w h5 hcons c5 => ?_
    · subst hnil
      obtain ⟨rfl, hq⟩ := hq
      simp only [go_sem, decide_true]
      refine .here ?_
      try simp only [go_sem, decide_true]
      exact hA σ' h4 hq (c.one 0 rfl)
    · subst hcons
      obtain ⟨rfl, hq⟩ := hq
      simp only [go_sem, decide_true]
      refine .here ?_
      try simp only [go_sem, decide_true]
      have c := c.frame0 c5
      exact hB σ' w _ h5 hq (((c.front 3 rfl).front 1 rfl).drop (L := [_, _]))

/-- the observers agree -/
theorem K_tells34 {l : Value} {vs : List Int} (cs : CsY S I) (hn : 0 ≤ n ∧ n ≤ 8) (q : QS n σ σ 8 vs 16 [] 0) (c : Cx F h h [rSpace s σ]) (hs : Sl EI1 h l vs) (hd : ∀ r, blk l = some r → ¬ F r)
    (hR : ∀ σ' h', QS n σ σ' 8 vs 16 [] 0 → Cx F h h' [rSpace s σ'] → R (.bool true) h') : F_simulcastlaw34_tells S I s (vP (pQ n)) l h R := by
  unfold F_simulcastlaw34_tells
  have hvl := q.vlen
  simp only [List.length_nil] at hvl
  refine c.nw EPl (pQ n) rfl fun rp h1 c => ?_
  rw [plA (i := 1) c rfl, vb_some]
  obtain ⟨F1, c1, up⟩ := c.frame (i := 0) rfl
  refine cs.walk ⟨by omega, by omega⟩ c1 (q.walk (hh8 hn)) fun o σ1 v h2 M c2 ⟨ho, q1⟩ => ?_
  subst ho
  have c := (up c2).sub (L' := [rSpace s σ1, rVar EPl rp (pQ n), rSl EI1 v vs]) (by simp [Option.getD])
  simp only [go_sem, Option.isSome_some, if_true]
  refine c.last (cs.qfirst ⟨by omega, by omega⟩) 0 rfl (q1.fresh.first (hh8 hn)) fun e σ2 h3 c ⟨he, q2⟩ => ?_
  subst he
  simp only [go_sem]
  refine .here ?_
  simp only [decide_false, go_sem, ne_eq, not_true_eq_false]
  refine cs.same (c.sl (i := 2) rfl).sl (hs.ch c.gr hd) (by omega) ?_
  simp only [decide_true, Bool.not_true, go_sem]
  rw [hs.ln, vb_some]
  refine c.last (cs.qlen ⟨by omega, by omega⟩) 0 rfl (q2.fresh.lenw (hh8 hn)) fun e σ3 h4 c ⟨he, q3⟩ => ?_
  subst he
  simp only [go_sem, ne_eq, not_true_eq_false, decide_false]
  rw [plA (i := 1) c rfl, vb_some, pl2 (i := 1) c rfl, vb_some]
  simp only [go_sem]
  refine c.last cs.left 0 rfl (q3.fresh.left (hh8 hn)) fun e σ4 h5 c ⟨he, q4⟩ => ?_
  subst he
  refine ⟨pl2 (i := 1) c rfl, ?_⟩
  rw [wr64 (n := n - vs.length) (by omega)]
  simp only [go_sem, List.length_nil, Int.natCast_zero, Int.sub_zero, ne_eq, not_true_eq_false, decide_false, hs.ln]
  have q5 : QS n σ σ4 8 vs 16 [] 0 := ((q1.over q2).over q3).over q4
  have hs5 := hs.ch c.gr hd
  have fin := hR σ4 h5 q5 (c.one 0 rfl)
  cases vs with
  | nil =>
    refine brT (by simp) (.here ?_)
    simp only [qHead, decide_true, go_sem]
    exact fin
  | cons x r =>
    refine brF (by simp only [List.length_cons]; omega) (.here ?_)
    simp only [qHead, decide_true, go_sem]
    refine hs5.one rfl (i := 0) (x := x) rfl rfl rfl ?_
    simp only [go_sem, decide_true]
    exact fin
end Go.En
namespace Go.En
open Prog Spc

variable {S : Sys} {I : Ids} {h h0 h' : Hp} {F F0 : Fp} {R : Value → Hp → Prop} {s : Value} {σ : Spc} {L : List Res} {n : Int}

theorem rep_R64 {k : Nat} : ∀ x ∈ List.replicate k (0 : Int), R64 x := fun x hx => by
  rw [List.mem_replicate] at hx; rw [hx.2]; exact ⟨by omega, by omega⟩
theorem rep_get (k i : Nat) : (List.replicate k (0 : Int))[i]?.getD 0 = 0 := by
  rw [List.getElem?_replicate]; split <;> rfl
theorem QS.init {k : Nat} (hn : 0 ≤ n ∧ n ≤ 8) (hk : (k : Int) = 24 + 8 * n) : QS n (spW (List.replicate k 0)) (spW (List.replicate k 0)) 8 [] 16 [] 0 := by
  have hv : ∀ a, (spW (List.replicate k 0)).vw a = 0 := fun a => by
    rw [spW_vw]; split
    · exact rep_get _ _
    · rfl
  refine ⟨(spW (List.replicate k 0)).vw, [], 0, [], [], Sm.start (fun a ha => ?_) rfl (newS_wf (knW_val rep_R64)), ⟨pQ_good hn, ?_, ?_, ?_, by omega, by simp only; omega, fun x hx => (by cases hx), List.nodup_nil⟩, ⟨?_, ?_, ?_, rfl⟩, ⟨?_, ?_, ?_, rfl⟩, fun x hx => (by cases hx), by simp, by simp⟩
  · rw [spW_kn, if_pos (by rw [List.length_replicate]; omega)]; rfl
  all_goals exact hv _

theorem K_awake34 (cs : CsY S I) (hR : ∀ h', Gr h h' → R (.bool true) h') : F_simulcastlaw34_awake S I h R := by
  unfold F_simulcastlaw34_awake
  refine cs.start (by omega) fun a l cp h1 c0 => ?_
  have c := (Cx.start0 h).frame0 c0
  simp only [go_sem]
  refine c.nw EPl ⟨0, 0, 0⟩ rfl fun rp h1 c => ?_
  refine c.nw ESh (none, 0, 0) rfl fun rw_ h1 c => ?_
  refine c.sto 1 rfl (pQ 4) rfl rfl fun h1 c => ?_
  refine c.sto (n := 1) 2 rfl (a, l, cp) rfl rfl fun h1 c => ?_
  rw [(c.va (i := 2) rfl).whole (n := 1) rfl, vb_some]
  refine cs.space0 (c.sl (i := 0) rfl).sl (by rw [List.length_replicate]; omega) rep_R64 fun s h2 c2 => ?_
  have c := c.frame0 c2
  have q := QS.init (n := 4) (k := 24 + 8 * ((4 : Int) % 9).toNat) (by omega) (by decide)
  refine c.bslN EI1 [5, 6, 7] [.int .i64 5, .int .i64 6, .int .i64 7] rfl rfl rfl (fun u hu => by simp only [List.mem_cons, List.not_mem_nil, or_false] at hu; rcases hu with rfl | rfl | rfl <;> rfl) rfl fun b h3 c => ?_
  have hln := (c.sl (i := 4) rfl).sl.ln
  rw [hln, vb_some]
  have hl0 : (spW (List.replicate (24 + 8 * ((4 : Int) % 9).toNat) 0)).pu.length = 0 := rfl
  refine Lp1.by (fun (x : Nat × Spc) v h' => x.1 ≤ 3 ∧ v = .int .i64 x.1 ∧ QS 4 (spW (List.replicate (24 + 8 * ((4 : Int) % 9).toNat) 0)) x.2 8 ([5, 6, 7].take x.1) 16 [] (20 * x.1) ∧
    Cx (fun _ => False) h h' [rSl EI1 (.slice a l cp) (List.replicate (24 + 8 * ((4 : Int) % 9).toNat) 0), rVar EPl rp (pQ 4), rVar ESh rw_ (a, l, cp), rSpace s x.2, rSl EI1 (.slice (some b) 3 3) [5, 6, 7]])
    (fun x => 3 - x.1) (0, _) ⟨by omega, rfl, q, c⟩ ?_
  rintro ⟨i, σ⟩ v h3 ⟨hi, rfl, q, c⟩ again hagain
  dsimp only at *
  have hql := q.len
  simp only [go_sem, List.length_cons, List.length_nil]
  refine brd (fun h4 => ?_) fun h4 => ?_
  · have hi' : i < ([5, 6, 7] : List Int).length := by simp only [List.length_cons, List.length_nil]; omega
    refine (c.sl (i := 4) rfl).sl.one rfl (idx_get' hi') rfl rfl ?_
    rw [plA (i := 1) c rfl, vb_some]
    have hv : R64 ([5, 6, 7] : List Int)[i] := by
      have : ([5, 6, 7] : List Int)[i] ∈ ([5, 6, 7] : List Int) := List.getElem_mem hi'
      simp only [List.mem_cons, List.not_mem_nil, or_false] at this
      omega
    refine c.last (cs.qput ⟨by omega, by omega⟩ hv) 3 rfl (q.fresh.put (hh8 (by omega)) (by unfold big; omega) hv) fun e σ' h5 c hq => ?_
    have ht : (([5, 6, 7] : List Int).take i).length = i := by rw [List.length_take, Nat.min_eq_left]; exact Nat.le_of_lt hi'
    rw [if_pos (by rw [ht]; simp only [List.length_nil]; omega)] at hq
    obtain ⟨rfl, hq⟩ := hq
    simp only [go_sem, ne_eq, not_true_eq_false, decide_false]
    rw [wrS (by omega)]
    refine hagain (i + 1, σ') _ _ ⟨by omega, rfl, ?_, c⟩ (by omega)
    have := (q.over hq).mono (c' := 20 * (i + 1)) (by omega)
    rw [List.take_add_one, idx_get' hi']
    exact this
  · have : i = 3 := by omega
    subst this
    have q : QS 4 _ σ 8 [5, 6, 7] 16 [] 60 := q
    refine c.last (cs.qlen ⟨by omega, by omega⟩) 3 rfl (q.fresh.lenw (hh8 (by omega))) fun e σ1 h5 c ⟨he, q1⟩ => ?_
    subst he
    have q := (q.over q1)
    refine c.last (cs.qfirst ⟨by omega, by omega⟩) 3 rfl (q.fresh.first (hh8 (by omega))) fun e σ1 h6 c ⟨he, q1⟩ => ?_
    subst he
    have q := (q.over q1)
    simp only [go_sem, qHead]
    rw [plA (i := 1) c rfl, vb_some]
    have hl1 := q.len
    refine c.last (cs.qtake ⟨by omega, by omega⟩) 3 rfl (q.fresh.take (hh8 (by omega)) (by unfold big; omega)) fun e σ1 h7 c ⟨he, q1⟩ => ?_
    subst he
    have q := (q.over q1)
    have hl1 := q.len
    simp only [go_sem]
    rw [plA (i := 1) c rfl, vb_some]
    refine c.last (cs.qtake ⟨by omega, by omega⟩) 3 rfl (q.fresh.take (hh8 (by omega)) (by unfold big; omega)) fun e σ1 h8 c ⟨he, q1⟩ => ?_
    subst he
    have q := (q.over q1)
    have hl1 := q.len
    simp only [go_sem]
    rw [plA (i := 1) c rfl, vb_some]
    refine c.last (cs.qput ⟨by omega, by omega⟩ ⟨by omega, by omega⟩) 3 rfl (q.fresh.put (hh8 (by omega)) (by unfold big; omega) ⟨by omega, by omega⟩) fun e σ1 h9 c hq => ?_
    rw [if_pos (by simp)] at hq
    obtain ⟨rfl, q1⟩ := hq
    have q := (q.over q1)
    rw [plA (i := 1) c rfl, vb_some]
    obtain ⟨F1, c1, up⟩ := c.frame (i := 3) rfl
    refine cs.walk ⟨by omega, by omega⟩ c1 (q.fresh.walk (hh8 (by omega))) fun o σ1 v h10 M c2 ⟨ho, q1⟩ => ?_
    subst ho
    have c := up c2
    have c := c.sub (L' := [rSl EI1 v [7, 8]]) (by simp [Option.getD])
    simp only [go_sem, Option.isSome_some, if_true]
    refine .here ?_
    simp only [go_sem, decide_true, List.length_cons, List.length_nil]
    refine brT (by omega) ?_
    refine c.bslN EI1 [7, 8] [.int .i64 7, .int .i64 8] rfl rfl rfl (fun u hu => by simp only [List.mem_cons, List.not_mem_nil, or_false] at hu; rcases hu with rfl | rfl <;> rfl) rfl fun b h11 c => ?_
    refine cs.same (c.sl (i := 0) rfl).sl (c.sl (i := 1) rfl).sl (by simp) ?_
    rw [decide_eq_true rfl]
    exact hR _ c.gr

structure CsZ (S : Sys) (I : Ids) : Prop extends CsY S I where
  awake : ∀ {h R}, (∀ h', Gr h h' → R (.bool true) h') → S.C I.f_simulcastlaw34_awake [] h R
  done : ∀ {n : Int} {s h F σ R l vs} {a : Act34}, 0 ≤ n ∧ n ≤ 8 → QS n σ σ 8 vs 16 [] 0 → σ.pu.length + 30 ≤ big → a.ok → Cx F h h [rSpace s σ] → Sl EI1 h l vs → (∀ r, blk l = some r → ¬ F r) →
    (∀ σ' h', QS n σ σ' 8 vs 16 [] 20 → Cx F h h' [rSpace s σ'] → R (.tuple #[l, .bool true]) h') →
    (∀ σ' w ws h', QS n σ σ' 8 ws 16 [] 20 → Cx F h h' [rSpace s σ', rSl EI1 w ws] → R (.tuple #[w, .bool true]) h') → S.C I.f_simulcastlaw34_done [s, vP (pQ n), l, .agg ⟨EAct.c a⟩] h R
  tells : ∀ {n : Int} {s h F σ R l vs}, 0 ≤ n ∧ n ≤ 8 → QS n σ σ 8 vs 16 [] 0 → Cx F h h [rSpace s σ] → Sl EI1 h l vs → (∀ r, blk l = some r → ¬ F r) →
    (∀ σ' h', QS n σ σ' 8 vs 16 [] 0 → Cx F h h' [rSpace s σ'] → R (.bool true) h') → S.C I.f_simulcastlaw34_tells [s, vP (pQ n), l] h R

/-- the frame of a call that works on the space: the slice w is not touched -/
theorem frame_sl {α : Type} {E : Enc α} {w : Value} {xs : List α} {i j : Nat} (hf : ∀ (j : Nat) (B : Res), i ≠ j → L[j]? = some B → ∃ G, B.P h G ∧ ∀ r, F r → ¬ G r) (hij : i ≠ j) (hj : L[j]? = some (rSl E w xs)) : ∀ r, blk w = some r → ¬ F r := fun r hr hF => by
  obtain ⟨G, ⟨_, hG⟩, hd⟩ := hf j _ hij hj
  exact hd r hF ((hG r).2 hr)

/-- the beginning of a law -/
theorem start34 {k : Int} (cs : CsZ S I) (hk : 0 ≤ k ∧ k ≤ 255) {P : Value → Hp → Prop}
    (hR : ∀ a l c h', Cx (fun _ => False) h h' [rSl EI1 (.slice a l c) (List.replicate (24 + 8 * (k % 9).toNat) 0)] → P (.tuple #[vP (pQ (k % 9)), .agg #[.slice a l c]]) h') : S.C I.f_simulcastlaw34_start [.int .u8 k] h P := cs.start hk hR

theorem L_QueuePlays {k : Int} {l : Value} {acts : List Act34} (cs : CsZ S I) (hk : 0 ≤ k ∧ k ≤ 255) (hl : Sl EAct h l acts) (hok : ∀ a ∈ acts, a.ok) (hR : ∀ h', Gr h h' → R (.bool true) h') : F_simulcastlaw34_QueuePlays S I (.int .u8 k) l h R := by
  unfold F_simulcastlaw34_QueuePlays
  refine vb hl.ln ?_
  simp only [go_sem]
  refine brd (fun _ => cs.awake hR) fun hlen => ?_
  have hn : 0 ≤ k % 9 ∧ k % 9 ≤ 8 := by omega
  refine cs.start hk fun a l1 cp h1 c0 => ?_
  have c := (Cx.start0 h).frame0 c0
  simp only [go_sem]
  refine c.nw EPl ⟨0, 0, 0⟩ rfl fun rp h1 c => ?_
  refine c.nw ESh (none, 0, 0) rfl fun rw_ h1 c => ?_
  refine c.sto 1 rfl (pQ (k % 9)) rfl rfl fun h1 c => ?_
  refine c.sto (n := 1) 2 rfl (a, l1, cp) rfl rfl fun h1 c => ?_
  rw [(c.va (i := 2) rfl).whole (n := 1) rfl, vb_some]
  refine cs.space0 (c.sl (i := 0) rfl).sl (by rw [List.length_replicate]; omega) rep_R64 fun s h2 c2 => ?_
  have c := c.frame0 c2
  have q := QS.init (n := k % 9) (k := 24 + 8 * (k % 9).toNat) hn (by omega)
  have c := c.nilSl EI1
  generalize e0 : spW (List.replicate (24 + 8 * (k % 9).toNat) 0) = σ0 at *
  have hl0 : σ0.pu.length = 0 := by rw [← e0]; rfl
  refine Lp2.by (fun (x : Nat × Spc × Value × List Int) v0 v1 h' => x.1 ≤ acts.length ∧ v0 = x.2.2.1 ∧ v1 = .int .i64 x.1 ∧ QS (k % 9) σ0 x.2.1 8 x.2.2.2 16 [] (40 * x.1) ∧
    Cx (fun _ => False) h h' [rSl EI1 (.slice a l1 cp) (List.replicate (24 + 8 * (k % 9).toNat) 0), rVar EPl rp (pQ (k % 9)), rVar ESh rw_ (a, l1, cp), rSpace s x.2.1, rSl EI1 x.2.2.1 x.2.2.2])
    (fun x => acts.length - x.1) (0, σ0, _, []) ⟨by omega, rfl, rfl, q, c⟩ ?_
  rintro ⟨i, σ, w, vs⟩ v0 v1 h3 ⟨hi, rfl, rfl, q, c⟩ again hagain
  dsimp only at *
  have hql := q.len
  refine vb hl.ln ?_
  simp only [go_sem]
  refine brd (fun h4 => ?_) fun h4 => ?_
  · have hi' : i < acts.length := by omega
    rw [plA (i := 1) c rfl, vb_some]
    refine (hl.gr c.gr).whole rfl (idx_get' hi') rfl ?_
    have next : ∀ (σ' : Spc) (w' : Value) (ws : List Int) (h5 : Hp), QS (k % 9) σ0 σ' 8 ws 16 [] (40 * i + 20) →
        Cx (fun _ => False) h h5 [rSl EI1 (.slice a l1 cp) (List.replicate (24 + 8 * (k % 9).toNat) 0), rVar EPl rp (pQ (k % 9)), rVar ESh rw_ (a, l1, cp), rSpace s σ', rSl EI1 w' ws] →
        Vb (lda 3 (at0 rp) h5) fun v44 => S.C I.f_simulcastlaw34_tells [s, v44, w'] h5 fun v46 h11 => Vb (uno .not v46) fun v47 => Br v47 (R (.bool false) h11) (again w' (.int .i64 (IntKind.i64.wrap ((i : Int) + 1))) h11) := by
      intro σ' w' ws h5 q c
      rw [plA (i := 1) c rfl, vb_some]
      obtain ⟨F, c1, hf, up⟩ := c.frameD (i := 3) rfl
      refine cs.tells hn q.fresh c1 (c.sl (i := 4) rfl).sl (frame_sl (j := 4) hf (by decide) rfl) fun σ2 h6 q2 c2 => ?_
      have c := up c2
      simp only [go_sem, Bool.not_true]
      rw [wrS (by omega)]
      exact hagain (i + 1, σ2, w', ws) _ _ _ ⟨by omega, rfl, rfl, (q.over q2).mono (by omega), c⟩ (by omega)
    obtain ⟨F, c1, hf, up⟩ := c.frameD (i := 3) rfl
    refine cs.done hn q.fresh (by unfold big; omega) (hok _ (List.getElem_mem hi')) c1 (c.sl (i := 4) rfl).sl (frame_sl (j := 4) hf (by decide) rfl) (fun σ' h5 q2 c2 => ?_) fun σ' w' ws h5 q2 c2 => ?_
    · have c := up c2
      simp only [go_sem, Bool.not_true]
      refine .here ?_
      exact next σ' v0 vs h5 (q.over q2) c
    · have c := up c2
      have c := c.sub (L' := [rSl EI1 (.slice a l1 cp) (List.replicate (24 + 8 * (k % 9).toNat) 0), rVar EPl rp (pQ (k % 9)), rVar ESh rw_ (a, l1, cp), rSpace s σ', rSl EI1 w' ws]) (by simp)
      simp only [go_sem, Bool.not_true]
      refine .here ?_
      exact next σ' w' ws h5 (q.over q2) c
  · refine .here ?_
    rw [plA (i := 1) c rfl, vb_some]
    obtain ⟨F, c1, hf, up⟩ := c.frameD (i := 3) rfl
    refine cs.tells hn q.fresh c1 (c.sl (i := 4) rfl).sl (frame_sl (j := 4) hf (by decide) rfl) fun σ2 h6 q2 c2 => ?_
    have c := up c2
    simp only [go_sem]
    exact cs.awake fun h' g => hR h' (Gr.trans c.gr g)
end Go.En
namespace Go.En
open Prog Spc

variable {S : Sys} {I : Ids} {h h0 h' : Hp} {F F0 : Fp} {R : Value → Hp → Prop} {s : Value} {σ : Spc} {L : List Res} {n : Int}

theorem L_QueueOrders {k : Int} {l : Value} {acts : List Act34} (cs : CsZ S I) (hk : 0 ≤ k ∧ k ≤ 255) (hl : Sl EAct h l acts) (hok : ∀ a ∈ acts, a.ok) (hR : ∀ h', Gr h h' → R (.bool true) h') : F_simulcastlaw34_QueueOrders S I (.int .u8 k) l h R := by
  unfold F_simulcastlaw34_QueueOrders
  refine vb hl.ln ?_
  simp only [go_sem]
  refine brd (fun _ => cs.awake hR) fun hlen => ?_
  have hn : 0 ≤ k % 9 ∧ k % 9 ≤ 8 := by omega
  refine cs.start hk fun a l1 cp h1 c0 => ?_
  have c := (Cx.start0 h).frame0 c0
  simp only [go_sem]
  refine c.nw EPl ⟨0, 0, 0⟩ rfl fun rp h1 c => ?_
  refine c.nw ESh (none, 0, 0) rfl fun rw_ h1 c => ?_
  refine c.sto 1 rfl (pQ (k % 9)) rfl rfl fun h1 c => ?_
  refine c.sto (n := 1) 2 rfl (a, l1, cp) rfl rfl fun h1 c => ?_
  rw [(c.va (i := 2) rfl).whole (n := 1) rfl, vb_some]
  refine cs.space0 (c.sl (i := 0) rfl).sl (by rw [List.length_replicate]; omega) rep_R64 fun s h2 c2 => ?_
  have c := c.frame0 c2
  have q := QS.init (n := k % 9) (k := 24 + 8 * (k % 9).toNat) hn (by omega)
  generalize e0 : spW (List.replicate (24 + 8 * (k % 9).toNat) 0) = σ0 at *
  have hl0 : σ0.pu.length = 0 := by rw [← e0]; rfl
  have c := (c.nilSl EI1).nilSl EI1
  refine Lp3.by (fun (x : Nat × Spc × (Value × List Int) × (Value × List Int) × List Int) v0 v1 v2 h' => x.1 ≤ acts.length ∧ v0 = x.2.2.1.1 ∧ v1 = x.2.2.2.1.1 ∧ v2 = .int .i64 x.1 ∧ QS (k % 9) σ0 x.2.1 8 x.2.2.2.2 16 [] (40 * x.1) ∧
    x.2.2.1.2 = x.2.2.2.1.2 ++ x.2.2.2.2 ∧ x.2.2.1.2.length ≤ x.1 ∧
    Cx (fun _ => False) h h' [rSl EI1 (.slice a l1 cp) (List.replicate (24 + 8 * (k % 9).toNat) 0), rVar EPl rp (pQ (k % 9)), rVar ESh rw_ (a, l1, cp), rSpace s x.2.1, rSl EI1 x.2.2.1.1 x.2.2.1.2, rSl EI1 x.2.2.2.1.1 x.2.2.2.1.2])
    (fun x => acts.length - x.1) (0, σ0, (_, []), (_, []), []) ⟨by omega, rfl, rfl, rfl, q, rfl, by simp, c⟩ ?_
  rintro ⟨i, σ, ⟨wp, put⟩, ⟨wg, got⟩, vs⟩ v0 v1 v2 h3 ⟨hi, e1, e2, rfl, q, hput, hpl, c⟩ again hagain
  dsimp only at *
  subst e1 e2
  have hql := q.len
  have hgl : got.length + vs.length = put.length := by rw [hput, List.length_append]
  refine vb hl.ln ?_
  simp only [go_sem]
  refine brd (fun h4 => ?_) fun h4 => ?_
  · have hi' : i < acts.length := by omega
    have hact := hok _ (List.getElem_mem hi')
    have hla := fun {h' : Hp} (g : Gr h h') => hl.gr g
    refine .here ?_
    refine (hla c.gr).fld rfl (idx_get' hi') rfl (j := 0) rfl ?_
    rw [bin_rem (by omega), vb_some, Int.tmod_eq_emod_of_nonneg hact.1.1]
    simp only [go_sem]
    refine brd (fun h5 => ?_) fun h5 => ?_
    · rw [plA (i := 1) c rfl, vb_some]
      refine (hla c.gr).fld rfl (idx_get' hi') rfl (j := 1) rfl ?_
      refine c.last (cs.qput ⟨by omega, by omega⟩ hact.2) 3 rfl (q.fresh.put (hh8 hn) (by unfold big; omega) hact.2) fun e σ' h6 c hq => ?_
      simp only [go_sem]
      rw [wrS (by omega)]
      by_cases hf : (vs.length + ([] : List Int).length : Int) < k % 9
      · rw [if_pos hf] at hq
        obtain ⟨rfl, hq⟩ := hq
        rw [decide_eq_true rfl, br_true]
        refine (hla c.gr).fld rfl (idx_get' hi') rfl (j := 1) rfl ?_
        refine c.app1 4 rfl acts[i].v rfl rfl rfl (by omega) (by omega) fun w h7 c => ?_
        exact hagain (i + 1, σ', (w, put ++ [acts[i].v]), (v1, got), vs ++ [acts[i].v]) _ _ _ _ ⟨by omega, rfl, rfl, rfl, (q.over hq).mono (by omega), by rw [hput, List.append_assoc], by simp only [List.length_append, List.length_singleton]; omega, c⟩ (by omega)
      · rw [if_neg hf] at hq
        obtain ⟨rfl, hq⟩ := hq
        rw [decide_eq_false (by omega), br_false]
        exact hagain (i + 1, σ', (v0, put), (v1, got), vs) _ _ _ _ ⟨by omega, rfl, rfl, rfl, (q.over hq).mono (by omega), hput, by dsimp only; omega, c⟩ (by omega)
    · rw [plA (i := 1) c rfl, vb_some]
      refine c.last (cs.qtake ⟨by omega, by omega⟩) 3 rfl (q.fresh.take (hh8 hn) (by unfold big; omega)) fun e σ' h6 c hq => ?_
      simp only [go_sem]
      rw [wrS (by omega)]
      cases vs with
      | nil =>
        obtain ⟨rfl, hq⟩ := hq
        rw [decide_eq_false (by simp), br_false]
        exact hagain (i + 1, σ', (v0, put), (v1, got), []) _ _ _ _ ⟨by omega, rfl, rfl, rfl, (q.over hq).mono (by omega), hput, by dsimp only; omega, c⟩ (by omega)
      | cons x r =>
        obtain ⟨rfl, hq⟩ := hq
        rw [decide_eq_true rfl, br_true]
        refine c.app1 5 rfl x rfl rfl rfl (by omega) (by omega) fun w h7 c => ?_
        exact hagain (i + 1, σ', (v0, put), (w, got ++ [x]), r) _ _ _ _ ⟨by omega, rfl, rfl, rfl, (q.over hq).mono (by omega), by rw [hput, List.append_assoc]; rfl, by dsimp only; omega, c⟩ (by omega)
  · refine Lp2.by (fun (x : Nat × Spc × (Value × List Int) × List Int) u0 u1 h' => u0 = x.2.2.1.1 ∧ u1 = .int .i64 x.1 ∧ QS (k % 9) σ0 x.2.1 8 x.2.2.2 16 [] (2400 + 40 * x.1) ∧
      put = x.2.2.1.2 ++ x.2.2.2 ∧ x.1 + x.2.2.2.length ≤ acts.length ∧
      Cx (fun _ => False) h h' [rSl EI1 (.slice a l1 cp) (List.replicate (24 + 8 * (k % 9).toNat) 0), rVar EPl rp (pQ (k % 9)), rVar ESh rw_ (a, l1, cp), rSpace s x.2.1, rSl EI1 v0 put, rSl EI1 x.2.2.1.1 x.2.2.1.2])
      (fun x => acts.length + 1 - x.1) (0, σ, (v1, got), vs) ⟨rfl, rfl, q.mono (by omega), hput, by dsimp only; omega, c⟩ ?_
    rintro ⟨j, σ, ⟨wg, got⟩, vs⟩ u0 u1 h5 ⟨e1, rfl, q, hput, hjl, c⟩ again hagain
    dsimp only at *
    subst e1
    have hql := q.len
    have hgl : got.length + vs.length = put.length := by rw [hput, List.length_append]
    refine vb hl.ln ?_
    simp only [go_sem]
    refine brT (by omega) ?_
    rw [plA (i := 1) c rfl, vb_some]
    refine c.last (cs.qtake ⟨by omega, by omega⟩) 3 rfl (q.fresh.take (hh8 hn) (by unfold big; omega)) fun e σ' h6 c hq => ?_
    simp only [go_sem]
    cases vs with
    | nil =>
      obtain ⟨rfl, hq⟩ := hq
      have q := q.over hq
      refine brT (by simp) (.here ?_)
      rw [List.append_nil] at hput
      subst hput
      simp only [go_sem, decide_true]
      refine cs.same (c.sl (i := 5) rfl).sl (c.sl (i := 4) rfl).sl (by omega) ?_
      rw [decide_eq_true rfl, br_true, plA (i := 1) c rfl, vb_some, pl2 (i := 1) c rfl, vb_some]
      refine c.last cs.left 3 rfl (q.fresh.left (hh8 hn)) fun e σ2 h7 c ⟨he, hq⟩ => ?_
      subst he
      have q := q.over hq
      refine ⟨pl2 (i := 1) c rfl, ?_⟩
      simp only [go_sem, List.length_nil, Int.natCast_zero, Int.sub_zero, decide_true]
      refine c.last (cs.qlen ⟨by omega, by omega⟩) 3 rfl (q.fresh.lenw (hh8 hn)) fun e σ2 h8 c ⟨he, hq⟩ => ?_
      subst he
      simp only [go_sem, List.length_nil, Int.natCast_zero, decide_true]
      exact cs.awake fun h' g => hR h' (Gr.trans c.gr g)
    | cons x r =>
      obtain ⟨rfl, hq⟩ := hq
      simp only [List.length_cons] at hjl hgl
      refine brF (by simp) ?_
      refine c.app1 5 rfl x rfl rfl rfl (by omega) (by omega) fun w h7 c => ?_
      rw [wrS (by omega)]
      exact hagain (j + 1, σ', (w, got ++ [x]), r) _ _ _ ⟨rfl, rfl, (q.over hq).mono (by omega), by rw [hput, List.append_assoc]; rfl, by dsimp only; omega, c⟩ (by omega)

theorem QS.back {r r' : Int} {σ1 : Spc} {vs vs' ws ws' : List Int} {c : Nat} (q0 : QS n σ1 σ1 r vs r' vs' 0) (q : QS n σ1 σ r ws r' ws' c) : QS n σ1 (σ.back σ1.pu.length) r vs r' vs' 0 := by
  obtain ⟨m, fr, out, ns, ns', S, h⟩ := q0
  obtain ⟨_, _, _, _, _, S', _⟩ := q
  exact ⟨m, fr, out, ns, ns', S'.back S.vw S.rg, h⟩

theorem L_QueueUndoes {k : Int} {l l' : Value} {acts more : List Act34} (cs : CsZ S I) (hk : 0 ≤ k ∧ k ≤ 255) (hl : Sl EAct h l acts) (hok : ∀ a ∈ acts, a.ok) (hl' : Sl EAct h l' more) (hok' : ∀ a ∈ more, a.ok) (hR : ∀ h', Gr h h' → R (.bool true) h') :
    F_simulcastlaw34_QueueUndoes S I (.int .u8 k) l l' h R := by
  unfold F_simulcastlaw34_QueueUndoes
  refine Jn1.at (fun v h' => h = h' ∧ ∃ b : Bool, v = .bool b ∧ (b = false → acts.length ≤ 40 ∧ more.length ≤ 40)) ?_ ?_
  · refine vb hl.ln ?_
    simp only [go_sem]
    refine brd (fun _ => ⟨trivial, true, rfl, fun e => by cases e⟩) fun h1 => ?_
    refine vb hl'.ln ?_
    simp only [go_sem]
    exact ⟨trivial, _, rfl, fun e => by simp only [decide_eq_false_iff_not] at e; omega⟩
  rintro v _ ⟨rfl, b, rfl, hb⟩
  cases b with
  | true => exact cs.awake hR
  | false =>
  obtain ⟨hlen, hlen'⟩ := hb rfl
  rw [br_false]
  have hn : 0 ≤ k % 9 ∧ k % 9 ≤ 8 := by omega
  refine cs.start hk fun a l1 cp h1 c0 => ?_
  have c := (Cx.start0 h).frame0 c0
  simp only [go_sem]
  refine c.nw EPl ⟨0, 0, 0⟩ rfl fun rp h1 c => ?_
  refine c.nw ESh (none, 0, 0) rfl fun rw_ h1 c => ?_
  refine c.sto 1 rfl (pQ (k % 9)) rfl rfl fun h1 c => ?_
  refine c.sto (n := 1) 2 rfl (a, l1, cp) rfl rfl fun h1 c => ?_
  rw [(c.va (i := 2) rfl).whole (n := 1) rfl, vb_some]
  refine cs.space0 (c.sl (i := 0) rfl).sl (by rw [List.length_replicate]; omega) rep_R64 fun s h2 c2 => ?_
  have c := c.frame0 c2
  have q := QS.init (n := k % 9) (k := 24 + 8 * (k % 9).toNat) hn (by omega)
  generalize e0 : spW (List.replicate (24 + 8 * (k % 9).toNat) 0) = σ0 at *
  have hl0 : σ0.pu.length = 0 := by rw [← e0]; rfl
  have c := c.nilSl EI1
  refine Lp2.by (fun (x : Nat × Spc × Value × List Int) v0 v1 h' => x.1 ≤ acts.length ∧ v0 = x.2.2.1 ∧ v1 = .int .i64 x.1 ∧ QS (k % 9) σ0 x.2.1 8 x.2.2.2 16 [] (40 * x.1) ∧
    Cx (fun _ => False) h h' [rSl EI1 (.slice a l1 cp) (List.replicate (24 + 8 * (k % 9).toNat) 0), rVar EPl rp (pQ (k % 9)), rVar ESh rw_ (a, l1, cp), rSpace s x.2.1, rSl EI1 x.2.2.1 x.2.2.2])
    (fun x => acts.length - x.1) (0, σ0, _, []) ⟨by omega, rfl, rfl, q, c⟩ ?_
  rintro ⟨i, σ, w, vs⟩ v0 v1 h3 ⟨hi, e1, rfl, q, c⟩ again hagain
  dsimp only at *
  subst e1
  have hql := q.len
  refine vb hl.ln ?_
  simp only [go_sem]
  refine brd (fun h4 => ?_) fun h4 => ?_
  · have hi' : i < acts.length := by omega
    rw [plA (i := 1) c rfl, vb_some]
    refine (hl.gr c.gr).whole rfl (idx_get' hi') rfl ?_
    obtain ⟨F, c1, hf, up⟩ := c.frameD (i := 3) rfl
    refine cs.done hn q.fresh (by unfold big; omega) (hok _ (List.getElem_mem hi')) c1 (c.sl (i := 4) rfl).sl (frame_sl (j := 4) hf (by decide) rfl) (fun σ' h5 q2 c2 => ?_) fun σ' w' ws h5 q2 c2 => ?_
    · have c := up c2
      simp only [go_sem]
      rw [wrS (by omega)]
      exact hagain (i + 1, σ', v0, vs) _ _ _ ⟨by omega, rfl, rfl, (q.over q2).mono (by omega), c⟩ (by omega)
    · have c := up c2
      have c := c.sub (L' := [rSl EI1 (.slice a l1 cp) (List.replicate (24 + 8 * (k % 9).toNat) 0), rVar EPl rp (pQ (k % 9)), rVar ESh rw_ (a, l1, cp), rSpace s σ', rSl EI1 w' ws]) (by simp)
      simp only [go_sem]
      rw [wrS (by omega)]
      exact hagain (i + 1, σ', w', ws) _ _ _ ⟨by omega, rfl, rfl, (q.over q2).mono (by omega), c⟩ (by omega)
  · refine c.last (cs.mark (s := s)) 3 rfl (Q := fun (z : Int) σ' => z = (σ.pu.length : Int) ∧ σ' = σ) ⟨rfl, rfl⟩ fun z σ' h5 c ⟨e1, e2⟩ => ?_
    subst e1 e2
    have q0 := q.fresh
    refine Lp2.by (fun (x : Nat × Spc × Value × List Int × List Res) u0 u1 h' => x.1 ≤ more.length ∧ u0 = x.2.2.1 ∧ u1 = .int .i64 x.1 ∧ QS (k % 9) σ' x.2.1 8 x.2.2.2.1 16 [] (40 * x.1) ∧
      (x.2.2.1 = v0 ∧ x.2.2.2.1 = vs ∧ x.2.2.2.2 = [] ∨ x.2.2.2.2 = [rSl EI1 x.2.2.1 x.2.2.2.1]) ∧
      Cx (fun _ => False) h h' ([rSl EI1 (.slice a l1 cp) (List.replicate (24 + 8 * (k % 9).toNat) 0), rVar EPl rp (pQ (k % 9)), rVar ESh rw_ (a, l1, cp), rSpace s x.2.1, rSl EI1 v0 vs] ++ x.2.2.2.2))
      (fun x => more.length - x.1) (0, σ', v0, vs, []) ⟨by omega, rfl, rfl, q0, .inl ⟨rfl, rfl, rfl⟩, c⟩ ?_
    rintro ⟨j, σ, w, ws, M⟩ u0 u1 h6 ⟨hj, e1, rfl, q, hM, c⟩ again hagain
    dsimp only at *
    subst e1
    have hql' := q.len
    refine vb hl'.ln ?_
    simp only [go_sem]
    refine brd (fun h7 => ?_) fun h7 => ?_
    · have hj' : j < more.length := by omega
      rw [plA (i := 1) c rfl, vb_some]
      refine (hl'.gr c.gr).whole rfl (idx_get' hj') rfl ?_
      obtain ⟨F, c1, hf, up⟩ := c.frameD (i := 3) rfl
      have hw : Sl EI1 h6 u0 ws ∧ ∀ r, blk u0 = some r → ¬ F r := by
        rcases hM with ⟨rfl, rfl, rfl⟩ | rfl
        · exact ⟨(c.sl (i := 4) rfl).sl, frame_sl (j := 4) hf (by decide) rfl⟩
        · exact ⟨(c.sl (i := 5) rfl).sl, frame_sl (j := 5) hf (by decide) rfl⟩
      refine cs.done hn q.fresh (by unfold big; omega) (hok' _ (List.getElem_mem hj')) c1 hw.1 hw.2 (fun σ2 h8 q2 c2 => ?_) fun σ2 w' ws' h8 q2 c2 => ?_
      · have c := up c2
        simp only [go_sem]
        rw [wrS (by omega)]
        refine hagain (j + 1, σ2, u0, ws, M) _ _ _ ⟨by omega, rfl, rfl, (q.over q2).mono (by omega), hM, ?_⟩ (by omega)
        simpa using c
      · have c := up c2
        have c := c.sub (L' := [rSl EI1 (.slice a l1 cp) (List.replicate (24 + 8 * (k % 9).toNat) 0), rVar EPl rp (pQ (k % 9)), rVar ESh rw_ (a, l1, cp), rSpace s σ2, rSl EI1 v0 vs] ++ [rSl EI1 w' ws']) (by
          rcases hM with ⟨rfl, rfl, rfl⟩ | rfl <;> simp)
        simp only [go_sem]
        rw [wrS (by omega)]
        exact hagain (j + 1, σ2, w', ws', [rSl EI1 w' ws']) _ _ _ ⟨by omega, rfl, rfl, (q.over q2).mono (by omega), .inr rfl, c⟩ (by omega)
    · have c := c.drop
      refine c.last (cs.back (s := s)) 3 rfl (Q := fun _ σ2 => σ2 = σ.back σ'.pu.length) rfl fun _ σ2 h8 c e => ?_
      subst e
      have q := QS.back q0 q
      refine .here ?_
      rw [plA (i := 1) c rfl, vb_some]
      obtain ⟨F, c1, hf, up⟩ := c.frameD (i := 3) rfl
      refine cs.tells hn q.fresh c1 (c.sl (i := 4) rfl).sl (frame_sl (j := 4) hf (by decide) rfl) fun σ2 h9 q2 c2 => ?_
      have c := up c2
      rw [br_true]
      exact cs.awake fun h' g => hR h' (Gr.trans c.gr g)
end Go.En
namespace Go.En
open Prog Spc

variable {S : Sys} {I : Ids} {h h0 h' : Hp} {F F0 : Fp} {R : Value → Hp → Prop} {s : Value} {σ : Spc} {L : List Res} {n : Int}

abbrev Sh := Option Addr × Nat × Nat
def ESh2 : Enc (Sh × Sh) := { n := 2, c := fun a => [.slice a.1.1 a.1.2.1 a.1.2.2, .slice a.2.1 a.2.2.1 a.2.2.2], len := fun _ => rfl, one := fun a v h => by simp only [List.mem_cons, List.not_mem_nil, or_false] at h; rcases h with rfl | rfl <;> rfl }
theorem ixa20 {r : Nat} {q : IntKind} : ixa 2 1 (at0 r) (.int q 0) = some (.pointer (some ⟨r, 0 + 0, none⟩)) := rfl
theorem ixa21 {r : Nat} {q : IntKind} : ixa 2 1 (at0 r) (.int q 1) = some (.pointer (some ⟨r, 0 + 1, none⟩)) := rfl
theorem Cx.stoAt {α : Type} {E : Enc α} {r : Nat} {x : α} (c : Cx F0 h0 h L) (i : Nat) (hi : L[i]? = some (rVar E r x)) (y : α) {j : Nat} {w : Value} (hw : w.oneCell' = true) (hj : j < E.n) (hy : E.c y = (E.c x).set j w) {k : Hp → Prop}
    (hk : ∀ h', Cx F0 h0 h' (L.set i (rVar E r y)) → k h') : Sb (En.sto 1 (.pointer (some ⟨r, 0 + j, none⟩)) w h) k := by
  have := c.stof i hi y hw hj hy hk
  rw [fa_add, vb_some] at this
  exact this
theorem sh0 {i r : Nat} {x : Sh × Sh} (c : Cx F0 h0 h L) (hi : L[i]? = some (rVar ESh2 r x)) : ldc (.pointer (some ⟨r, 0 + 0, none⟩)) h = some (.slice x.1.1 x.1.2.1 x.1.2.2) := (c.va hi).row.ldc (j := 0) rfl
theorem sh1 {i r : Nat} {x : Sh × Sh} (c : Cx F0 h0 h L) (hi : L[i]? = some (rVar ESh2 r x)) : ldc (.pointer (some ⟨r, 0 + 1, none⟩)) h = some (.slice x.2.1 x.2.2.1 x.2.2.2) := (c.va hi).row.ldc (j := 1) rfl
theorem Cx.sllen {α : Type} {E : Enc α} {i : Nat} {a : Option Addr} {l cp : Nat} {xs : List α} (c : Cx F0 h0 h L) (hi : L[i]? = some (rSl E (.slice a l cp) xs)) : l = xs.length := ow_len (c.sl hi)

theorem Cx.drop3 {B : Res} {M : List Res} (c : Cx F0 h0 h (L ++ (B :: M))) : Cx F0 h0 h (L ++ [B]) := by
  have : L ++ (B :: M) = (L ++ [B]) ++ M := by simp
  rw [this] at c
  exact c.drop
theorem L_QueueShares {k t : Int} {l : Value} {acts : List Act34} (cs : CsZ S I) (hk : 0 ≤ k ∧ k ≤ 255) (hl : Sl EAct h l acts) (hok : ∀ a ∈ acts, a.ok) (ht : 0 ≤ t ∧ t ≤ 255) (hR : ∀ h', Gr h h' → R (.bool true) h') : F_simulcastlaw34_QueueShares S I (.int .u8 k) l (.int .u8 t) h R := by
  unfold F_simulcastlaw34_QueueShares
  refine vb hl.ln ?_
  simp only [go_sem]
  refine brd (fun _ => cs.awake hR) fun hlen => ?_
  have hn : 0 ≤ k % 9 ∧ k % 9 ≤ 8 := by omega
  refine cs.start hk fun a l1 cp h1 c0 => ?_
  have c := (Cx.start0 h).frame0 c0
  simp only [go_sem]
  refine c.nw EPl ⟨0, 0, 0⟩ rfl fun rp h1 c => ?_
  refine c.nw ESh (none, 0, 0) rfl fun rw_ h1 c => ?_
  refine c.sto 1 rfl (pQ (k % 9)) rfl rfl fun h1 c => ?_
  refine c.sto (n := 1) 2 rfl (a, l1, cp) rfl rfl fun h1 c => ?_
  rw [(c.va (i := 2) rfl).whole (n := 1) rfl, vb_some]
  refine cs.space0 (c.sl (i := 0) rfl).sl (by rw [List.length_replicate]; omega) rep_R64 fun s h2 c2 => ?_
  have c := c.frame0 c2
  have q := QS.init (n := k % 9) (k := 24 + 8 * (k % 9).toNat) hn (by omega)
  generalize e0 : spW (List.replicate (24 + 8 * (k % 9).toNat) 0) = σ0 at *
  have hl0 : σ0.pu.length = 0 := by rw [← e0]; rfl
  refine c.nw ESh2 ((none, 0, 0), (none, 0, 0)) rfl fun rm h2 c => ?_
  have c := (c.nilSl EI1).nilSl EI1
  refine Lp1.by (fun (x : Nat × Spc × (Sh × Sh) × List Int × List Int) v0 h' => x.1 ≤ acts.length ∧ v0 = .int .i64 x.1 ∧ QS (k % 9) σ0 x.2.1 8 x.2.2.2.1 16 x.2.2.2.2 (40 * x.1) ∧
    Cx (fun _ => False) h h' [rSl EI1 (.slice a l1 cp) (List.replicate (24 + 8 * (k % 9).toNat) 0), rVar EPl rp (pQ (k % 9)), rVar ESh rw_ (a, l1, cp), rSpace s x.2.1, rVar ESh2 rm (x.2.2.1.1, x.2.2.1.2), rSl EI1 (.slice x.2.2.1.1.1 x.2.2.1.1.2.1 x.2.2.1.1.2.2) x.2.2.2.1, rSl EI1 (.slice x.2.2.1.2.1 x.2.2.1.2.2.1 x.2.2.1.2.2.2) x.2.2.2.2])
    (fun x => acts.length - x.1) (0, σ0, ((none, 0, 0), (none, 0, 0)), [], []) ⟨by omega, rfl, q, c⟩ ?_
  rintro ⟨i, σ, ⟨a0, a1⟩, v0, v1⟩ u0 h3 ⟨hi, rfl, q, c⟩ again hagain
  dsimp only at *
  have hql := q.len
  have hvl := q.vlen
  refine vb hl.ln ?_
  simp only [go_sem]
  refine brd (fun h4 => ?_) fun h4 => ?_
  · have hi' : i < acts.length := by omega
    have hact := hok _ (List.getElem_mem hi')
    have hla := fun {h' : Hp} (g : Gr h h') => hl.gr g
    rw [wr64 (n := t) (by omega), wr64 (n := (i : Int) + t) (by omega), bin_rem (by omega), vb_some, bin_rem (by omega), vb_some, Int.tmod_eq_emod_of_nonneg (a := (i : Int) + t) (by omega), Int.tmod_eq_emod_of_nonneg (a := ((i : Int) + t) % 3) (by omega)]
    simp only [go_sem]
    refine Jn0.at (fun h' => ∃ σ' b0 b1 w0 w1, QS (k % 9) σ0 σ' 8 w0 16 w1 (40 * i + 20) ∧ Cx (fun _ => False) h h' [rSl EI1 (.slice a l1 cp) (List.replicate (24 + 8 * (k % 9).toNat) 0), rVar EPl rp (pQ (k % 9)), rVar ESh rw_ (a, l1, cp), rSpace s σ', rVar ESh2 rm (b0, b1), rSl EI1 (.slice b0.1 b0.2.1 b0.2.2) w0, rSl EI1 (.slice b1.1 b1.2.1 b1.2.2) w1]) ?_ ?_
    · have hk01 : ((i : Int) + t) % 3 % 2 = 0 ∨ ((i : Int) + t) % 3 % 2 = 1 := by omega
      refine (hla c.gr).fld rfl (idx_get' hi') rfl (j := 0) rfl ?_
      rw [bin_rem (by omega), vb_some, Int.tmod_eq_emod_of_nonneg hact.1.1]
      simp only [go_sem]
      rcases hk01 with e | e
      · rw [e]
        simp only [Int.mul_zero, Int.add_zero, Int.mul_one]
        rw [wr64 (n := 0) (by omega), wr64 (n := 8 + 0) (by omega)]
        refine brd (fun h5 => ?_) fun h5 => ?_
        · rw [plA (i := 1) c rfl, vb_some]
          refine (hla c.gr).fld rfl (idx_get' hi') rfl (j := 1) rfl ?_
          refine c.last (cs.qput (root := 8) ⟨by omega, by omega⟩ hact.2) 3 rfl (q.fresh.put (hh8 hn) (by unfold big; omega) hact.2) fun e σ' h6 c hq => ?_
          simp only [go_sem, ixa20, ixa21, sh0 (i := 4) c rfl, sh1 (i := 4) c rfl]
          refine (hla c.gr).fld rfl (idx_get' hi') rfl (j := 1) rfl ?_
          have l0 := c.sllen (i := 5) rfl
          have l1' := c.sllen (i := 6) rfl
          rw [pl2 (i := 1) c rfl, vb_some]
          simp only [go_sem]
          rw [wr64 (n := k % 9 - a0.2.1) (by omega), wr64 (n := k % 9 - a0.2.1 - a1.2.1) (by omega)]
          refine cs.rput (c.sl (i := 5) rfl).sl (by omega) (fun hle => ?_) fun hlt w h7 c5 => ?_
          · rw [if_neg (by omega)] at hq
            obtain ⟨rfl, hq⟩ := hq
            simp only [go_sem, ne_eq, not_true_eq_false, decide_false, ixa20, ixa21]
            refine c.stoAt 4 rfl (a0, a1) (j := 0) rfl (by decide) rfl fun h7 c => ?_
            exact ⟨σ', a0, a1, v0, v1, (q.over hq).mono (by omega), c⟩
          · rw [if_pos (by omega)] at hq
            obtain ⟨rfl, hq⟩ := hq
            have c := (c.frame0 c5).repl (i := 5) rfl
            obtain ⟨b, bl, bc, rfl⟩ := ow_slice (c.sl (i := 5) rfl)
            simp only [go_sem, ne_eq, not_true_eq_false, decide_false, ixa20, ixa21]
            refine c.stoAt 4 rfl ((b, bl, bc), a1) (j := 0) rfl (by decide) rfl fun h8 c => ?_
            exact ⟨σ', ((b, bl, bc), a1).1, ((b, bl, bc), a1).2, v0 ++ [acts[i].v], v1, (q.over hq).mono (by omega), c⟩
        · rw [plA (i := 1) c rfl, vb_some]
          refine c.last (cs.qtake (root := 8) ⟨by omega, by omega⟩) 3 rfl (q.fresh.take (hh8 hn) (by unfold big; omega)) fun e σ' h6 c hq => ?_
          simp only [go_sem, ixa20, ixa21, sh0 (i := 4) c rfl, sh1 (i := 4) c rfl]
          refine cs.rtake (c.sl (i := 5) rfl).sl (by omega) (fun hnil => ?_) fun x r w h7 hcons c5 => ?_
          · subst hnil
            obtain ⟨rfl, hq⟩ := hq
            simp only [go_sem, ne_eq, not_true_eq_false, decide_false]
            refine .here ?_
            simp only [go_sem, ne_eq, not_true_eq_false, decide_false, ixa20, ixa21]
            refine c.stoAt 4 rfl (a0, a1) (j := 0) rfl (by decide) rfl fun h7 c => ?_
            exact ⟨σ', a0, a1, _, _, (q.over hq).mono (by omega), c⟩
          · subst hcons
            obtain ⟨rfl, hq⟩ := hq
            have c := (c.frame0 c5).repl (i := 5) rfl
            obtain ⟨b, bl, bc, rfl⟩ := ow_slice (c.sl (i := 5) rfl)
            simp only [go_sem, ne_eq, not_true_eq_false, decide_false]
            refine .here ?_
            simp only [go_sem, ne_eq, not_true_eq_false, decide_false, ixa20, ixa21]
            refine c.stoAt 4 rfl ((b, bl, bc), a1) (j := 0) rfl (by decide) rfl fun h8 c => ?_
            exact ⟨σ', ((b, bl, bc), a1).1, ((b, bl, bc), a1).2, r, v1, (q.over hq).mono (by omega), c⟩
      · rw [e]
        simp only [Int.mul_zero, Int.add_zero, Int.mul_one]
        rw [wr64 (n := 8) (by omega), wr64 (n := 8 + 8) (by omega)]
        refine brd (fun h5 => ?_) fun h5 => ?_
        · rw [plA (i := 1) c rfl, vb_some]
          refine (hla c.gr).fld rfl (idx_get' hi') rfl (j := 1) rfl ?_
          refine c.last (cs.qput (root := 16) ⟨by omega, by omega⟩ hact.2) 3 rfl (q.fresh.swap.put (hh8 hn).swap (by unfold big; omega) hact.2) fun e σ' h6 c hq => ?_
          simp only [go_sem, ixa20, ixa21, sh0 (i := 4) c rfl, sh1 (i := 4) c rfl]
          refine (hla c.gr).fld rfl (idx_get' hi') rfl (j := 1) rfl ?_
          have l0 := c.sllen (i := 5) rfl
          have l1' := c.sllen (i := 6) rfl
          rw [pl2 (i := 1) c rfl, vb_some]
          simp only [go_sem]
          rw [wr64 (n := k % 9 - a0.2.1) (by omega), wr64 (n := k % 9 - a0.2.1 - a1.2.1) (by omega)]
          refine cs.rput (c.sl (i := 6) rfl).sl (by omega) (fun hle => ?_) fun hlt w h7 c5 => ?_
          · rw [if_neg (by omega)] at hq
            obtain ⟨rfl, hq⟩ := hq
            simp only [go_sem, ne_eq, not_true_eq_false, decide_false, ixa20, ixa21]
            refine c.stoAt 4 rfl (a0, a1) (j := 1) rfl (by decide) rfl fun h7 c => ?_
            exact ⟨σ', a0, a1, v0, v1, (q.over hq.swap).mono (by omega), c⟩
          · rw [if_pos (by omega)] at hq
            obtain ⟨rfl, hq⟩ := hq
            have c := (c.frame0 c5).repl (i := 6) rfl
            obtain ⟨b, bl, bc, rfl⟩ := ow_slice (c.sl (i := 6) rfl)
            simp only [go_sem, ne_eq, not_true_eq_false, decide_false, ixa20, ixa21]
            refine c.stoAt 4 rfl (a0, (b, bl, bc)) (j := 1) rfl (by decide) rfl fun h8 c => ?_
            exact ⟨σ', (a0, (b, bl, bc)).1, (a0, (b, bl, bc)).2, v0, v1 ++ [acts[i].v], (q.over hq.swap).mono (by omega), c⟩
        · rw [plA (i := 1) c rfl, vb_some]
          refine c.last (cs.qtake (root := 16) ⟨by omega, by omega⟩) 3 rfl (q.fresh.swap.take (hh8 hn).swap (by unfold big; omega)) fun e σ' h6 c hq => ?_
          simp only [go_sem, ixa20, ixa21, sh0 (i := 4) c rfl, sh1 (i := 4) c rfl]
          refine cs.rtake (c.sl (i := 6) rfl).sl (by omega) (fun hnil => ?_) fun x r w h7 hcons c5 => ?_
          · subst hnil
            obtain ⟨rfl, hq⟩ := hq
            simp only [go_sem, ne_eq, not_true_eq_false, decide_false]
            refine .here ?_
            simp only [go_sem, ne_eq, not_true_eq_false, decide_false, ixa20, ixa21]
            refine c.stoAt 4 rfl (a0, a1) (j := 1) rfl (by decide) rfl fun h7 c => ?_
            exact ⟨σ', a0, a1, _, _, (q.over hq.swap).mono (by omega), c⟩
          · subst hcons
            obtain ⟨rfl, hq⟩ := hq
            have c := (c.frame0 c5).repl (i := 6) rfl
            obtain ⟨b, bl, bc, rfl⟩ := ow_slice (c.sl (i := 6) rfl)
            simp only [go_sem, ne_eq, not_true_eq_false, decide_false]
            refine .here ?_
            simp only [go_sem, ne_eq, not_true_eq_false, decide_false, ixa20, ixa21]
            refine c.stoAt 4 rfl (a0, (b, bl, bc)) (j := 1) rfl (by decide) rfl fun h8 c => ?_
            exact ⟨σ', (a0, (b, bl, bc)).1, (a0, (b, bl, bc)).2, v0, r, (q.over hq.swap).mono (by omega), c⟩
    · rintro h5 ⟨σ', b0, b1, w0, w1, q, c⟩
      have hvl := q.vlen
      refine Lp1.by (fun (x : Nat × Spc) u h' => x.1 ≤ 2 ∧ u = .int .i64 x.1 ∧ QS (k % 9) σ0 x.2 8 w0 16 w1 (40 * i + 20) ∧ Cx (fun _ => False) h h' [rSl EI1 (.slice a l1 cp) (List.replicate (24 + 8 * (k % 9).toNat) 0), rVar EPl rp (pQ (k % 9)), rVar ESh rw_ (a, l1, cp), rSpace s x.2, rVar ESh2 rm (b0, b1), rSl EI1 (.slice b0.1 b0.2.1 b0.2.2) w0, rSl EI1 (.slice b1.1 b1.2.1 b1.2.2) w1]) (fun x => 2 - x.1) (0, σ') ⟨by omega, rfl, q, c⟩ ?_
      rintro ⟨j, σ⟩ u h6 ⟨hj, rfl, q, c⟩ again2 hagain2
      dsimp only at *
      simp only [go_sem]
      refine brd (fun h7 => ?_) fun h7 => ?_
      · rw [plA (i := 1) c rfl, vb_some]
        have hj01 : j = 0 ∨ j = 1 := by omega
        rcases hj01 with rfl | rfl
        · rw [wr64 (n := 8 * ((0 : Nat) : Int)) (by omega), wr64 (n := 8 + 8 * ((0 : Nat) : Int)) (by omega)]
          obtain ⟨F1, c1, up⟩ := c.frame (i := 3) rfl
          refine cs.walk (root := 8) ⟨by omega, by omega⟩ c1 (q.fresh.walk (hh8 hn)) fun o σ1 v h8 M c2 ⟨ho, q1⟩ => ?_
          subst ho
          have c := (up c2).drop3 (M := M)
          simp only [go_sem, Option.isSome_some, if_true, ne_eq, not_true_eq_false, decide_false]
          refine .here ?_
          simp only [Int.natCast_zero, ixa20, vb_some, sh0 (i := 4) c rfl]
          refine cs.same (c.sl (i := 7) rfl).sl (c.sl (i := 5) rfl).sl (by simp only [Option.getD_some]; omega) ?_
          simp only [Option.getD_some, decide_true, Bool.not_true, go_sem]
          exact hagain2 (1, σ1) _ _ ⟨by omega, rfl, (q.over q1).mono (by omega), c.drop (L := [_, _, _, _, _, _, _]) (L' := [_])⟩ (by omega)
        · rw [wr64 (n := 8 * ((1 : Nat) : Int)) (by omega), wr64 (n := 8 + 8 * ((1 : Nat) : Int)) (by omega)]
          obtain ⟨F1, c1, up⟩ := c.frame (i := 3) rfl
          refine cs.walk (root := 16) ⟨by omega, by omega⟩ c1 (q.fresh.swap.walk (hh8 hn).swap) fun o σ1 v h8 M c2 ⟨ho, q1⟩ => ?_
          subst ho
          have c := (up c2).drop3 (M := M)
          simp only [go_sem, Option.isSome_some, if_true, ne_eq, not_true_eq_false, decide_false]
          refine .here ?_
          simp only [Int.natCast_one, ixa21, vb_some, sh1 (i := 4) c rfl]
          refine cs.same (c.sl (i := 7) rfl).sl (c.sl (i := 6) rfl).sl (by simp only [Option.getD_some]; omega) ?_
          simp only [Option.getD_some, decide_true, Bool.not_true, go_sem]
          exact hagain2 (2, σ1) _ _ ⟨by omega, rfl, (q.over q1.swap).mono (by omega), c.drop (L := [_, _, _, _, _, _, _]) (L' := [_])⟩ (by omega)
      · rw [wrS (by omega)]
        exact hagain (i + 1, σ, (b0, b1), w0, w1) _ _ ⟨by omega, rfl, q.mono (by omega), c⟩ (by omega)
  · refine .here ?_
    rw [plA (i := 1) c rfl, vb_some, pl2 (i := 1) c rfl, vb_some]
    have l0 := c.sllen (i := 5) rfl
    have l1' := c.sllen (i := 6) rfl
    simp only [ixa20, ixa21, vb_some, sh0 (i := 4) c rfl, sh1 (i := 4) c rfl, lnS_slice, go_sem]
    rw [wr64 (n := k % 9 - a0.2.1) (by omega), wr64 (n := k % 9 - a0.2.1 - a1.2.1) (by omega)]
    refine c.last cs.left 3 rfl (q.fresh.left (hh8 hn)) fun e σ' h6 c ⟨he, q1⟩ => ?_
    subst he
    refine ⟨sh1 (i := 4) c rfl, sh0 (i := 4) c rfl, pl2 (i := 1) c rfl, ?_⟩
    simp only [go_sem]
    rw [decide_eq_true (by omega), br_true]
    exact cs.awake fun h' g => hR h' (Gr.trans c.gr g)
end Go.En
