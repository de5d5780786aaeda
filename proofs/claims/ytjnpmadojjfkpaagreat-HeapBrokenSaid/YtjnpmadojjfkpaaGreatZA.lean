/-
  Chains of nodes from both ends; the deque's and the stack's programs, and what they come to.
  The deque and the stack in memory.
  Layer 38: arrays in heap order; moves up and down. No memory in sight.
  Layer 38: the heap's programs.
  Layer 38: rows and items in memory; moves up and down.
  Layer 38: the heap in memory; a push.
  Layer 38: a push, whole; a removal.
  Layer 38: a removal; the functions of the heap, over memory.
  Layer 38: the functions of the heap, over memory.
-/
import Derived.Test.YtjnpmadojjfkpaaGreatXD
import Derived.Test.YtjnpmadojjfkpaaGreatXE
import Derived.Sort.Statements
namespace Go.En
open Prog Spc

/-! ### Chains -/
theorem Lk.snoc {m m' : Int → Int} {o x : Int} : ∀ {l : List Int} {a : Int}, Lk m o a l → (∀ y ∈ l, m' (y + o) = if some y = l.getLast? then x else m (y + o)) → l.Nodup → m' (x + o) = 0 → (l = [] → a = x) → l ≠ [] → Lk m' o a (l ++ [x])
  | [], a, _, _, _, h0, ha, hne => absurd rfl hne
  | [y], a, h, hm, hn, h0, _, _ => by
    have := hm y (List.mem_singleton.2 rfl)
    rw [if_pos (by rfl)] at this
    exact ⟨h.1, by rw [this]; exact ⟨rfl, h0⟩⟩
  | y :: z :: l, a, h, hm, hn, h0, ha, _ => by
    have hn := List.nodup_cons.1 hn
    have e : (y :: z :: l).getLast? = (z :: l).getLast? := by simp [List.getLast?_cons_cons]
    have hy := hm y (List.mem_cons_self ..)
    have hne : ¬ some y = (y :: z :: l).getLast? := by
      rw [e]
      intro hc
      exact hn.1 (List.mem_of_getLast? hc.symm)
    rw [if_neg hne] at hy
    refine ⟨h.1, ?_⟩
    rw [hy]
    exact Lk.snoc (l := z :: l) h.2 (fun w hw => by rw [hm w (List.mem_cons_of_mem _ hw), e]) hn.2 h0 (fun e => by cases e) (by simp)
theorem Lk.unsnoc {m m' : Int → Int} {o x : Int} : ∀ {l : List Int} {a : Int}, Lk m o a (l ++ [x]) → (∀ y ∈ l, m' (y + o) = if some y = l.getLast? then 0 else m (y + o)) → (l ++ [x]).Nodup → l ≠ [] → Lk m' o a l
  | [], a, _, _, _, hne => absurd rfl hne
  | [y], a, h, hm, hn, _ => by
    have := hm y (List.mem_singleton.2 rfl)
    rw [if_pos (by rfl)] at this
    exact ⟨h.1, this⟩
  | y :: z :: l, a, h, hm, hn, _ => by
    have hn : y ∉ (z :: l) ++ [x] ∧ ((z :: l) ++ [x]).Nodup := List.nodup_cons.1 hn
    have e : (y :: z :: l).getLast? = (z :: l).getLast? := by simp [List.getLast?_cons_cons]
    have hy := hm y (List.mem_cons_self ..)
    have hne : ¬ some y = (y :: z :: l).getLast? := by
      rw [e]
      intro hc
      exact hn.1 (List.mem_append_left _ (List.mem_of_getLast? hc.symm))
    rw [if_neg hne] at hy
    refine ⟨h.1, ?_⟩
    rw [hy]
    exact Lk.unsnoc (l := z :: l) h.2 (fun w hw => by rw [hm w (List.mem_cons_of_mem _ hw), e]) hn.2 (by simp)
theorem Lk.head {m : Int → Int} {o a : Int} {l : List Int} (h : Lk m o a l) : a = l.head?.getD 0 := by
  cases l with
  | nil => exact h
  | cons x r => exact h.1

/-! ### The deque -/
def sd (r : Bool) : Int := if r then 1 else 0
theorem sd_in (r : Bool) : 0 ≤ sd r ∧ sd r ≤ 1 := by cases r <;> decide
theorem sd_ne (r : Bool) : sd r ≠ sd !r := by cases r <;> decide
def dMore (a n : Int) : Prog Unit := do
  let v ← gt a
  pt a (w64 (v + n))
def dUn (e m : Int) : Prog Unit := if e ≠ 0 then bk m else pure ()
def dPushT (root n : Int) (r : Bool) : Prog Int := do
  pt (root + sd r) n
  dMore (root + 2) 1
  dMore (root + 7) 1
  dUn 0 0
  pure 0
def dPush (p : Pl) (root : Int) (r : Bool) (v : Int) : Prog Int := do
  let m ← mk
  let t ← pTake p
  if t.2 ≠ 0 then do
    dUn t.2 m
    pure t.2
  else do
    let en ← gt (root + sd r)
    pt (t.1 + sd r) 0
    pt (t.1 + sd !r) en
    pt (t.1 + 2) v
    if en = 0 then do
      pt (root + sd !r) t.1
      dPushT root t.1 r
    else if (p.node en).isSome then do
      pt (en + sd r) t.1
      dPushT root t.1 r
    else do
      dUn 24 m
      pure 24
def dPopT (p : Pl) (root en nx m : Int) (r : Bool) : Prog (Int × Int) := do
  pt (root + sd r) nx
  dMore (root + 2) (-1)
  dMore (root + 7) (-1)
  let x ← gt (en + 2)
  let e ← pGive p en
  if e ≠ 0 then do
    dUn e m
    pure (0, e)
  else do
    dUn 0 m
    pure (x, 0)
def dPop (p : Pl) (root : Int) (r : Bool) : Prog (Int × Int) := do
  let m ← mk
  let en ← gt (root + sd r)
  if en = 0 then do
    dUn 8 m
    pure (0, 8)
  else if (p.node en).isSome then do
    let nx ← gt (en + sd !r)
    if nx = 0 then do
      pt (root + sd !r) 0
      dPopT p root en nx m r
    else if (p.node nx).isSome then do
      pt (nx + sd r) 0
      dPopT p root en nx m r
    else do
      dUn 24 m
      pure (0, 24)
  else do
    dUn 24 m
    pure (0, 24)
def dPeek (root : Int) (r : Bool) : Prog (Int × Int) := do
  let en ← gt (root + sd r)
  if en = 0 then pure (0, 8) else do
    let x ← gt (w64 (en + 2))
    pure (x, 0)
def dLoop (p : Pl) (r : Bool) : Nat → Int → List Int → Prog (Option (List Int))
  | 0, a, acc => pure (if a = 0 then some acc else none)
  | n + 1, a, acc => if a = 0 then pure (some acc) else if (p.node a).isSome then do
      let v ← gt (a + 2)
      let nx ← gt (a + sd !r)
      dLoop p r n nx (acc ++ [v])
    else pure none
def dWalk (p : Pl) (root : Int) (r : Bool) : Prog (Option (List Int)) := do
  let a ← gt (root + sd r)
  dLoop p r p.nodes.toNat a []

/-! ### The stack -/
def sMore (root n : Int) : Prog Unit := do
  dMore (root + 1) n
  dMore (root + 7) n
def sPush (p : Pl) (root v : Int) : Prog Int := do
  let m ← mk
  let t ← pTake p
  if t.2 ≠ 0 then do
    dUn t.2 m
    pure t.2
  else do
    let tp ← gt root
    pt t.1 tp
    pt (t.1 + 1) v
    pt root t.1
    sMore root 1
    dUn 0 m
    pure 0
def sPop (p : Pl) (root : Int) : Prog (Int × Int) := do
  let m ← mk
  let a ← gt root
  if a = 0 then do
    dUn 8 m
    pure (0, 8)
  else if (p.node a).isSome then do
    let nx ← gt a
    let v ← gt (a + 1)
    let e ← pGive p a
    if e ≠ 0 then do
      dUn e m
      pure (0, e)
    else do
      pt root nx
      sMore root (-1)
      dUn 0 m
      pure (v, 0)
  else do
    dUn 24 m
    pure (0, 24)
def sTop (root : Int) : Prog (Int × Int) := do
  let a ← gt root
  if a = 0 then pure (0, 8) else do
    let x ← gt (a + 1)
    pure (x, 0)
def sLoop (p : Pl) : Nat → Int → List Int → Prog (Option (List Int))
  | 0, a, acc => pure (if a = 0 then some acc else none)
  | n + 1, a, acc => if a = 0 then pure (some acc) else if (p.node a).isSome then do
      let v ← gt (a + 1)
      let nx ← gt a
      sLoop p n nx (acc ++ [v])
    else pure none
def sWalk (p : Pl) (root : Int) : Prog (Option (List Int)) := do
  let a ← gt root
  sLoop p p.nodes.toNat a []
end Go.En
namespace Go.En
open Prog Spc

/-- a root apart from the pool -/
structure RA (p : Pl) (root : Int) : Prop where
  a : p.root + 3 ≤ root
  b : root + 8 ≤ p.frm
abbrev RootD (D : Int → Prop) (root : Int) : Prop := ∀ i, 0 ≤ i → i ≤ 7 → D (root + i)
/-- nodes handed out and not free -/
abbrev Held (p : Pl) (fr : List Int) (out : Int) (l : List Int) : Prop := ∀ x ∈ l, (∃ i, 0 ≤ i ∧ i < out ∧ x = p.frm + 8 * i) ∧ x ∉ fr
theorem nd_rev {l : List Int} (h : l.Nodup) : l.reverse.Nodup := by
  unfold List.Nodup at h ⊢
  rw [List.pairwise_reverse]
  exact h.imp fun hab e => hab e.symm
/-- the deque from the end r on -/
structure DQ (m : Int → Int) (root : Int) (r : Bool) (l vs : List Int) : Prop where
  fwd : Lk m (sd !r) (m (root + sd r)) l
  bwd : Lk m (sd r) (m (root + sd !r)) l.reverse
  val : vs = l.map fun x => m (x + 2)
  n2 : m (root + 2) = l.length
  n7 : m (root + 7) = l.length
  nd : l.Nodup
theorem DQ.turn {m : Int → Int} {root : Int} {r : Bool} {l vs : List Int} (H : DQ m root r l vs) : DQ m root (!r) l.reverse vs.reverse := by
  refine ⟨by rw [Bool.not_not]; exact H.bwd, by rw [List.reverse_reverse, Bool.not_not]; exact H.fwd, ?_, by rw [List.length_reverse]; exact H.n2, by rw [List.length_reverse]; exact H.n7, nd_rev H.nd⟩
  rw [H.val, List.map_reverse]
theorem DQ.len {m : Int → Int} {root : Int} {r : Bool} {l vs : List Int} (H : DQ m root r l vs) : vs.length = l.length := by rw [H.val, List.length_map]
theorem DQ.ext {m m' : Int → Int} {root : Int} {r : Bool} {l vs : List Int} (H : DQ m root r l vs) (h1 : ∀ i, 0 ≤ i → i ≤ 7 → m' (root + i) = m (root + i)) (h2 : ∀ x ∈ l, ∀ i, 0 ≤ i → i ≤ 7 → m' (x + i) = m (x + i)) : DQ m' root r l vs := by
  have s1 := sd_in r; have s2 := sd_in (!r)
  refine ⟨?_, ?_, ?_, ?_, ?_, H.nd⟩
  · rw [h1 _ s1.1 (by omega)]; exact H.fwd.ext fun x hx => h2 x hx _ s2.1 (by omega)
  · rw [h1 _ s2.1 (by omega)]; exact H.bwd.ext fun x hx => h2 x (List.mem_reverse.1 hx) _ s1.1 (by omega)
  · rw [H.val]; exact List.map_congr_left fun x hx => (h2 x hx 2 (by omega) (by omega)).symm
  · rw [h1 2 (by omega) (by omega)]; exact H.n2
  · rw [h1 7 (by omega) (by omega)]; exact H.n7
theorem wp_ret' {α : Type} {p : Prog α} {σ : Spc} {Q : α → Spc → Prop} (h : wp (p >>= Prog.ret) σ Q) : wp p σ Q := by
  rw [wp_bind] at h; exact h

section
variable {D : Int → Prop} {σ0 σ σ' : Spc} {m : Int → Int} {c c' : Nat} {α β : Type} {Q : α → Spc → Prop} {p : Pl} {fr : List Int} {out root v : Int} {l vs : List Int} {r : Bool}
theorem wp_more {q : Unit → Prog α} (S : Sm D σ0 σ m c) {a n : Int} (ha : D a) (hl : σ0.pu.length + c ≤ big) (hk : ∀ σ', Sm D σ0 σ' (upd m a (w64 (m a + n))) (c + 1) → wp (q ()) σ' Q) : wp (dMore a n >>= q) σ Q := by
  unfold dMore
  rw [wp_bind]
  refine wp_get S ha fun σ1 S => ?_
  rw [← wp_bind]
  exact wp_put S ha (w64_in _) hl hk
/-- the cells that a change of a structure may turn -/
abbrev Same (p : Pl) (root : Int) (l : List Int) (m m' : Int → Int) : Prop := ∀ a, (∀ i, 0 ≤ i → i ≤ 2 → a ≠ p.root + i) → (∀ i, 0 ≤ i → i ≤ 7 → a ≠ root + i) → (∀ x ∈ l, ∀ i, 0 ≤ i → i ≤ 7 → a ≠ x + i) → m' a = m a

/-- what an allocation comes to -/
inductive Took (p : Pl) (fr : List Int) (out : Int) : Int → List Int → Int → Prop
  | free {n : Int} {fr' : List Int} : fr = n :: fr' → Took p fr out n fr' out
  | new : fr = [] → out < p.nodes → Took p fr out (p.frm + 8 * out) [] (out + 1)
theorem wp_took {q : Int × Int → Prog α} (S : Sm D σ0 σ m c) (P : PoolR m p fr out) (hD : PoolD D p) (hl : σ0.pu.length + c + 2 ≤ big)
    (h1 : ∀ n fr' out' σ' m', Took p fr out n fr' out' → (∃ i, 0 ≤ i ∧ i < out' ∧ n = p.frm + 8 * i) → n ∉ fr' → Sm D σ0 σ' m' (c + 2) → PoolR m' p fr' out' → (∀ a, a ≠ p.root → a ≠ p.root + 1 → a ≠ p.root + 2 → m' a = m a) → wp (q (n, 0)) σ' Q)
    (h2 : ∀ σ', fr = [] → out = p.nodes → Sm D σ0 σ' m c → wp (q (0, 9)) σ' Q) : wp (pTake p >>= q) σ Q := by
  refine wp_take S P hD hl (fun x fr' σ' m' e hx S' P' hm => ?_) (fun σ' m' e ho hx S' P' hm => ?_) h2
  · subst e
    exact h1 x fr' out σ' m' (.free rfl) (P.fN x (List.mem_cons_self ..)) (List.nodup_cons.1 P.nd).1 S' P' fun a a1 _ a3 => hm a a1 a3
  · exact h1 _ [] (out + 1) σ' m' (.new e ho) ⟨out, P.out0, by omega, rfl⟩ (by simp) S' P' fun a _ a2 _ => hm a a2

theorem Took.held {n : Int} {fr' : List Int} {out' : Int} (T : Took p fr out n fr' out') (P : PoolR m p fr out) (H : Held p fr out l) : n ∉ l ∧ Held p fr' out' l ∧ out ≤ out' ∧ (fr'.length : Int) - out' + 1 = fr.length - out := by
  cases T with
  | free e =>
    subst e
    refine ⟨fun hn => (H n hn).2 (List.mem_cons_self ..), fun x hx => ⟨(H x hx).1, fun h => (H x hx).2 (List.mem_cons_of_mem _ h)⟩, Int.le_refl _, ?_⟩
    simp only [List.length_cons]; omega
  | new e ho =>
    refine ⟨fun hn => ?_, fun x hx => ?_, by omega, ?_⟩
    · obtain ⟨⟨i, i0, i1, e2⟩, _⟩ := H _ hn
      omega
    · obtain ⟨⟨i, i0, i1, e2⟩, _⟩ := H x hx
      exact ⟨⟨i, i0, by omega, e2⟩, by simp⟩
    · rw [e]; simp only [List.length_nil]; omega

/-- undone: as before -/
theorem wp_undo {e : Int} {m1 : Int → Int} {q : Unit → Prog α} (S0 : Sm D σ σ m 0) (S : Sm D σ σ' m1 c) (he : e ≠ 0) (k : ∀ σ2, Sm D σ σ2 m 0 → wp (q ()) σ2 Q) : wp (dUn e σ.pu.length >>= q) σ' Q := by
  unfold dUn
  rw [if_pos he]
  exact wp_back S S0.vw S0.rg k
theorem wp_un0 {x : Int} {q : Unit → Prog α} (k : wp (q ()) σ Q) : wp (dUn 0 x >>= q) σ Q := by
  unfold dUn
  rw [if_neg (by simp)]
  exact k
theorem upd_if (m : Int → Int) (a v b : Int) : upd m a v b = if b = a then v else m b := rfl

theorem wp_dPush (S : Sm D σ σ m 0) (P : PoolR m p fr out) (hD : PoolD D p) (hRD : RootD D root) (hA : RA p root) (K : DQ m root r l vs) (H : Held p fr out l) (hv : R64 v) (hl : σ.pu.length + 12 ≤ big) :
    wp (dPush p root r v) σ fun e σ' => (∃ n fr' out' m', e = 0 ∧ Took p fr out n fr' out' ∧ Sm D σ σ' m' 12 ∧ PoolR m' p fr' out' ∧ DQ m' root r (n :: l) (v :: vs) ∧ Held p fr' out' (n :: l) ∧ Same p root (n :: l) m m') ∨
      (e = 9 ∧ fr = [] ∧ out = p.nodes ∧ Sm D σ σ' m 12) := by
  have g := P.good
  have g1 := g.f1; have g2 := g.f2; have g3 := g.n1; have g4 := g.r0
  obtain ⟨ra, rb⟩ := hA
  have s1 := sd_in r; have s2 := sd_in (!r); have s3 := sd_ne r
  unfold dPush
  refine wp_mark ?_
  refine wp_took S P hD (by omega) (fun n fr' out' σ1 m1 T hn hnf S1 P1 hm1 => ?_) fun σ1 e ho S1 => ?_
  rotate_left
  · rw [if_pos (by decide)]
    refine wp_undo S S1 (by decide) fun σ2 S2 => ?_
    exact .inr ⟨rfl, e, ho, S2.mono (by omega)⟩
  obtain ⟨hnl, H', ho', _⟩ := T.held P H
  have hp1 := P1.out1
  have hnn := hn
  obtain ⟨j, j0, j1, ej⟩ := hn
  have hnN : isN p n := ⟨j, j0, by omega, ej⟩
  rw [if_neg (by simp)]
  refine wp_get S1 (hRD _ s1.1 (by omega)) fun σ2 S2 => ?_
  have hen : m1 (root + sd r) = l.head?.getD 0 := by rw [hm1 _ (by omega) (by omega) (by omega)]; exact K.fwd.head
  have hD' : ∀ i, 0 ≤ i → i ≤ 7 → D (n + i) := hD.n n hnN
  refine wp_put S2 (hD' _ s1.1 (by omega)) ⟨by decide, by decide⟩ (by omega) fun σ3 S => ?_
  refine wp_put S (hD' _ s2.1 (by omega)) (S1.rg _) (by omega) fun σ4 S => ?_
  refine wp_put S (hD' 2 (by omega) (by omega)) hv (by omega) fun σ5 S => ?_
  -- the end of it
  have tail : ∀ (σ6 : Spc) (m6 : Int → Int) (c : Nat), c ≤ 8 → Sm D σ σ6 m6 c → (∀ a, (∀ i, 0 ≤ i → i ≤ 2 → a ≠ p.root + i) → a ≠ root + sd !r → a ≠ n + sd r → a ≠ n + sd !r → a ≠ n + 2 → (∀ x, l.head? = some x → a ≠ x + sd r) → m6 a = m a) →
      (∀ i, 0 ≤ i → i ≤ 2 → m6 (p.root + i) = m1 (p.root + i)) → m6 (n + sd r) = 0 → m6 (n + sd !r) = l.head?.getD 0 → m6 (n + 2) = v → (m6 (root + sd !r) = if l = [] then n else m (root + sd !r)) → (∀ x, l.head? = some x → m6 (x + sd r) = n) →
      wp (dPushT root n r) σ6 fun e σ' => (∃ n fr' out' m', e = 0 ∧ Took p fr out n fr' out' ∧ Sm D σ σ' m' 12 ∧ PoolR m' p fr' out' ∧ DQ m' root r (n :: l) (v :: vs) ∧ Held p fr' out' (n :: l) ∧ Same p root (n :: l) m m') ∨
        (e = 9 ∧ fr = [] ∧ out = p.nodes ∧ Sm D σ σ' m 12) := by
    intro σ6 m6 c hc S6 hm6 hp6 hn0 hn1 hn2 hr6 hx6
    unfold dPushT
    refine wp_put S6 (hRD _ s1.1 (by omega)) ⟨by omega, by omega⟩ (by omega) fun σ7 S => ?_
    refine wp_more S (hRD 2 (by omega) (by omega)) (by omega) fun σ8 S => ?_
    refine wp_more S (hRD 7 (by omega) (by omega)) (by omega) fun σ9 S => ?_
    refine wp_un0 ?_
    -- the nodes are apart
    have hidx : ∀ x ∈ l, ∃ i, 0 ≤ i ∧ i < out' ∧ i ≠ j ∧ x = p.frm + 8 * i := fun x hx => by
      obtain ⟨⟨i, i0, i1, e⟩, _⟩ := H' x hx
      exact ⟨i, i0, i1, fun h => hnl (by rw [ej, ← h, ← e]; exact hx), e⟩
    have hlen : (l.length : Int) ≤ 128 := by
      have := nodes_len (fun x hx => let ⟨i, a, b, _, d⟩ := hidx x hx; ⟨i, a, b, d⟩) K.nd P1.out0
      omega
    have e2 : m6 (root + 2) = l.length := by
      rw [hm6 _ (fun i h1 h2 => by omega) (by omega) (by omega) (by omega) (by omega) (fun x hx => by obtain ⟨i, _, _, _, e⟩ := hidx x (List.mem_of_head? hx); omega)]
      exact K.n2
    have e7 : m6 (root + 7) = l.length := by
      rw [hm6 _ (fun i h1 h2 => by omega) (by omega) (by omega) (by omega) (by omega) (fun x hx => by obtain ⟨i, _, _, _, e⟩ := hidx x (List.mem_of_head? hx); omega)]
      exact K.n7
    have e7' : upd (upd m6 (root + sd r) n) (root + 2) (w64 (upd m6 (root + sd r) n (root + 2) + 1)) (root + 7) = l.length := by
      rw [upd_ne _ _ (by omega), upd_ne _ _ (by omega)]; exact e7
    have e2' : upd m6 (root + sd r) n (root + 2) = l.length := by rw [upd_ne _ _ (by omega)]; exact e2
    rw [e7', e2', w64_R ⟨by omega, by omega⟩] at S
    -- what is where
    have at' : ∀ a, upd (upd (upd m6 (root + sd r) n) (root + 2) ((l.length : Int) + 1)) (root + 7) ((l.length : Int) + 1) a = if a = root + 7 then (l.length : Int) + 1 else if a = root + 2 then (l.length : Int) + 1 else if a = root + sd r then n else m6 a := fun a => rfl
    generalize upd (upd (upd m6 (root + sd r) n) (root + 2) ((l.length : Int) + 1)) (root + 7) ((l.length : Int) + 1) = m' at *
    have hf : ∀ a, (∀ i, 0 ≤ i → i ≤ 7 → a ≠ root + i) → m' a = m6 a := fun a ha => by
      rw [at', if_neg (ha 7 (by omega) (by omega)), if_neg (ha 2 (by omega) (by omega)), if_neg (ha _ s1.1 (by omega))]
    have hnode : ∀ x i, (∃ k, x = p.frm + 8 * k ∧ 0 ≤ k) → 0 ≤ i → i ≤ 7 → m' (x + i) = m6 (x + i) := fun x i ⟨k, e, k0⟩ i0 i1 => hf _ fun i' _ _ => by omega
    have hold : ∀ x ∈ l, ∀ i, 0 ≤ i → i ≤ 7 → (i = sd r → l.head? ≠ some x) → m' (x + i) = m (x + i) := fun x hx i i0 i1 hi => by
      obtain ⟨k, k0, k1, kj, e⟩ := hidx x hx
      rw [hnode x i ⟨k, e, k0⟩ i0 i1]
      refine hm6 _ (fun i' _ _ => by omega) (by omega) (by omega) (by omega) (by omega) fun y hy => ?_
      obtain ⟨k', k0', k1', kj', e'⟩ := hidx y (List.mem_of_head? hy)
      intro h
      have : k = k' := by omega
      subst this
      exact hi (by omega) (by rw [hy, e, e'])
    refine .inl ⟨n, fr', out', m', rfl, T, S.mono (by omega), ?_, ⟨?_, ?_, ?_, ?_, ?_, List.nodup_cons.2 ⟨hnl, K.nd⟩⟩, ?_, ?_⟩
    · refine P1.ext fun a ha => ?_
      have h6 : m' a = m6 a := hf a fun i i0 i1 => by
        rcases ha with h | h | h | h
        · omega
        · omega
        · omega
        · obtain ⟨k, k0, k1, e⟩ := P1.fN a h; omega
      rw [h6]
      rcases ha with h | h | h | h
      · have := hp6 0 (by omega) (by omega); rw [Int.add_zero] at this; rw [h]; exact this
      · rw [h]; exact hp6 1 (by omega) (by omega)
      · rw [h]; exact hp6 2 (by omega) (by omega)
      · obtain ⟨k, k0, k1, e⟩ := P1.fN a h
        have hkj : k ≠ j := fun hk => hnf (by rw [ej, ← hk, ← e]; exact h)
        rw [hm6 a (fun i _ _ => by omega) (by omega) (by omega) (by omega) (by omega) fun y hy => ?_, hm1 a (by omega) (by omega) (by omega)]
        obtain ⟨k', k0', k1', kj', e'⟩ := hidx y (List.mem_of_head? hy)
        intro h2
        have : k = k' := by omega
        exact (H' y (List.mem_of_head? hy)).2 (by rw [e', ← this, ← e]; exact h)
    · rw [at', if_neg (by omega), if_neg (by omega), if_pos rfl]
      refine ⟨rfl, ?_⟩
      rw [hnode n _ ⟨j, ej, j0⟩ s2.1 (by omega), hn1, ← K.fwd.head]
      exact K.fwd.ext fun x hx => hold x hx _ s2.1 (by omega) fun e => absurd e.symm s3
    · rw [List.reverse_cons]
      cases hll : l with
      | nil =>
        rw [at', if_neg (by omega), if_neg (by omega), if_neg (by omega), hr6, if_pos hll]
        exact ⟨rfl, by show m' (n + sd r) = 0; rw [hnode n _ ⟨j, ej, j0⟩ s1.1 (by omega)]; exact hn0⟩
      | cons y l2 =>
        rw [at', if_neg (by omega), if_neg (by omega), if_neg (by omega), hr6, if_neg (by rw [hll]; simp), ← hll]
        refine Lk.snoc K.bwd (fun x hx => ?_) (nd_rev K.nd) ?_ (fun e => ?_) (by rw [hll]; simp)
        · rw [List.getLast?_reverse]
          by_cases e : l.head? = some x
          · rw [if_pos e.symm]
            obtain ⟨k, k0, k1, kj, e'⟩ := hidx x (List.mem_reverse.1 hx)
            rw [hnode x _ ⟨k, e', k0⟩ s1.1 (by omega)]
            exact hx6 x e
          · rw [if_neg (fun h => e h.symm)]
            exact hold x (List.mem_reverse.1 hx) _ s1.1 (by omega) fun _ => e
        · rw [hnode n _ ⟨j, ej, j0⟩ s1.1 (by omega)]; exact hn0
        · rw [hll] at e; simp at e
    · rw [List.map_cons, hnode n 2 ⟨j, ej, j0⟩ (by omega) (by omega), hn2, K.val]
      congr 1
      exact List.map_congr_left fun x hx => (hold x hx 2 (by omega) (by omega) fun e => by omega).symm
    · rw [at', if_neg (by omega), if_pos rfl]; simp
    · rw [at', if_pos rfl]; simp
    · intro x hx
      rcases List.mem_cons.1 hx with rfl | hx
      · exact ⟨hnn, hnf⟩
      · exact H' x hx
    · intro a ha1 ha2 ha3
      rw [hf a ha2]
      refine hm6 a ha1 (ha2 _ s2.1 (by omega)) (ha3 n (List.mem_cons_self ..) _ s1.1 (by omega)) (ha3 n (List.mem_cons_self ..) _ s2.1 (by omega)) (ha3 n (List.mem_cons_self ..) 2 (by omega) (by omega)) fun x hx => ha3 x (List.mem_cons_of_mem _ (List.mem_of_head? hx)) _ s1.1 (by omega)
  rw [hen] at S ⊢
  have hx0 : ∀ x, l.head? = some x → ∃ i, 0 ≤ i ∧ i < out' ∧ i ≠ j ∧ x = p.frm + 8 * i := fun x hx => by
    obtain ⟨⟨i, i0, i1, e⟩, _⟩ := H' x (List.mem_of_head? hx)
    exact ⟨i, i0, i1, fun h => hnl (by rw [ej, ← h, ← e]; exact List.mem_of_head? hx), e⟩
  cases hll : l with
  | nil =>
    rw [show (([] : List Int).head?.getD 0) = 0 from rfl, if_pos rfl]
    rw [hll] at S
    refine wp_put S (hRD _ s2.1 (by omega)) ⟨by omega, by omega⟩ (by omega) fun σ6 S => ?_
    rw [hll] at tail
    refine tail σ6 _ _ (by omega) S (fun a a1 a2 a3 a4 a5 _ => ?_) (fun i i0 i1 => ?_) ?_ ?_ ?_ ?_ (fun x hx => by cases hx)
    · rw [upd_ne _ _ a2, upd_ne _ _ a5, upd_ne _ _ a4, upd_ne _ _ a3]
      have b0 := a1 0 (by omega) (by omega); have b1 := a1 1 (by omega) (by omega); have b2 := a1 2 (by omega) (by omega)
      exact hm1 a (by omega) b1 b2
    · rw [upd_ne _ _ (by omega), upd_ne _ _ (by omega), upd_ne _ _ (by omega), upd_ne _ _ (by omega)]
    · rw [upd_ne _ _ (by omega), upd_ne _ _ (by omega), upd_ne _ _ (by omega), upd_eq]
    · rw [upd_ne _ _ (by omega), upd_ne _ _ (by omega), upd_eq]
    · rw [upd_ne _ _ (by omega), upd_eq]
    · rw [upd_eq, if_pos rfl]
  | cons x l2 =>
    rw [hll] at S hx0 tail
    obtain ⟨i, i0, i1, hij, e⟩ := hx0 x rfl
    have hxN : isN p x := ⟨i, i0, by omega, e⟩
    rw [show ((x :: l2).head?.getD 0) = x from rfl, if_neg (by omega), if_pos (isN_node g hxN)]
    refine wp_put S (hD.n x hxN _ s1.1 (by omega)) ⟨by omega, by omega⟩ (by omega) fun σ6 S => ?_
    refine tail σ6 _ _ (by omega) S (fun a a1 a2 a3 a4 a5 a6 => ?_) (fun i i0 i1 => ?_) ?_ ?_ ?_ ?_ (fun y hy => ?_)
    · rw [upd_ne _ _ (a6 x rfl), upd_ne _ _ a5, upd_ne _ _ a4, upd_ne _ _ a3]
      have b0 := a1 0 (by omega) (by omega); have b1 := a1 1 (by omega) (by omega); have b2 := a1 2 (by omega) (by omega)
      exact hm1 a (by omega) b1 b2
    · rw [upd_ne _ _ (by omega), upd_ne _ _ (by omega), upd_ne _ _ (by omega), upd_ne _ _ (by omega)]
    · rw [upd_ne _ _ (by omega), upd_ne _ _ (by omega), upd_ne _ _ (by omega), upd_eq]
    · rw [upd_ne _ _ (by omega), upd_ne _ _ (by omega), upd_eq]
      try rfl
    · rw [upd_ne _ _ (by omega), upd_eq]
    · rw [upd_ne _ _ (by omega), upd_ne _ _ (by omega), upd_ne _ _ (by omega), upd_ne _ _ (by omega), if_neg (by simp)]
      exact hm1 _ (by omega) (by omega) (by omega)
    · have hy : x = y := by simpa using hy
      subst hy
      rw [upd_eq]

theorem wp_dPop (S : Sm D σ σ m 0) (P : PoolR m p fr out) (hD : PoolD D p) (hRD : RootD D root) (hA : RA p root) (K : DQ m root r l vs) (H : Held p fr out l) (hl : σ.pu.length + 20 ≤ big) :
    wp (dPop p root r) σ fun e σ' => (∃ n l' v vs' m', l = n :: l' ∧ vs = v :: vs' ∧ e = (v, 0) ∧ Sm D σ σ' m' 12 ∧ PoolR m' p (n :: fr) out ∧ DQ m' root r l' vs' ∧ Held p (n :: fr) out l' ∧ Same p root (n :: l') m m') ∨
      (e = (0, 8) ∧ l = [] ∧ vs = [] ∧ Sm D σ σ' m 12) := by
  have g := P.good
  have g1 := g.f1; have g2 := g.f2; have g3 := g.n1; have g4 := g.r0
  have hp1 := P.out1
  obtain ⟨ra, rb⟩ := hA
  have s1 := sd_in r; have s2 := sd_in (!r); have s3 := sd_ne r
  unfold dPop
  refine wp_mark ?_
  refine wp_get S (hRD _ s1.1 (by omega)) fun σ1 S1 => ?_
  cases l with
  | nil =>
    have e0 : m (root + sd r) = 0 := K.fwd
    rw [e0, if_pos rfl]
    refine wp_undo S S1 (by decide) fun σ2 S2 => ?_
    exact .inr ⟨rfl, rfl, by rw [K.val]; rfl, S2.mono (by omega)⟩
  | cons n l' =>
  have hne := K.fwd.1
  obtain ⟨hnl, hnd'⟩ := List.nodup_cons.1 K.nd
  obtain ⟨hnn, hnf⟩ := H n (List.mem_cons_self ..)
  have hnn' := hnn
  obtain ⟨j, j0, j1, ej⟩ := hnn
  have hnN : isN p n := ⟨j, j0, by omega, ej⟩
  have hidx : ∀ x ∈ l', ∃ i, 0 ≤ i ∧ i < out ∧ i ≠ j ∧ x = p.frm + 8 * i := fun x hx => by
    obtain ⟨⟨i, i0, i1, e⟩, _⟩ := H x (List.mem_cons_of_mem _ hx)
    exact ⟨i, i0, i1, fun h => hnl (by rw [ej, ← h, ← e]; exact hx), e⟩
  have hD' : ∀ i, 0 ≤ i → i ≤ 7 → D (n + i) := hD.n n hnN
  rw [hne, if_neg (by omega), if_pos (isN_node g hnN)]
  refine wp_get S1 (hD' _ s2.1 (by omega)) fun σ2 S2 => ?_
  have hnx : m (n + sd !r) = l'.head?.getD 0 := K.fwd.2.head
  have hlen : ((n :: l').length : Int) ≤ 128 := by
    have := nodes_len (fun x hx => (H x hx).1) K.nd P.out0
    omega
  -- the end of it
  have tail : ∀ (σ6 : Spc) (m6 : Int → Int) (c : Nat), c ≤ 2 → Sm D σ σ6 m6 c → (∀ a, a ≠ root + sd !r → (∀ x, l'.head? = some x → a ≠ x + sd r) → m6 a = m a) →
      (m6 (root + sd !r) = if l' = [] then 0 else m (root + sd !r)) → (∀ x, l'.head? = some x → m6 (x + sd r) = 0) →
      wp (dPopT p root n (l'.head?.getD 0) σ.pu.length r) σ6 fun e σ' => (∃ n0 l0 v vs' m', n :: l' = n0 :: l0 ∧ vs = v :: vs' ∧ e = (v, 0) ∧ Sm D σ σ' m' 12 ∧ PoolR m' p (n0 :: fr) out ∧ DQ m' root r l0 vs' ∧ Held p (n0 :: fr) out l0 ∧ Same p root (n0 :: l0) m m') ∨
        (e = (0, 8) ∧ n :: l' = [] ∧ vs = [] ∧ Sm D σ σ' m 12) := by
    intro σ6 m6 c hc S6 hm6 hr6 hx6
    unfold dPopT
    have hhd : R64 (l'.head?.getD 0) := by rw [← hnx]; exact S.rg _
    refine wp_put S6 (hRD _ s1.1 (by omega)) hhd (by omega) fun σ7 S => ?_
    refine wp_more S (hRD 2 (by omega) (by omega)) (by omega) fun σ8 S => ?_
    refine wp_more S (hRD 7 (by omega) (by omega)) (by omega) fun σ9 S => ?_
    refine wp_get S (hD' 2 (by omega) (by omega)) fun σ10 S => ?_
    have e2 : m6 (root + 2) = (n :: l').length := by
      rw [hm6 _ (by omega) (fun x hx => by obtain ⟨i, _, _, _, e⟩ := hidx x (List.mem_of_head? hx); omega)]
      exact K.n2
    have e7 : m6 (root + 7) = (n :: l').length := by
      rw [hm6 _ (by omega) (fun x hx => by obtain ⟨i, _, _, _, e⟩ := hidx x (List.mem_of_head? hx); omega)]
      exact K.n7
    have e7' : upd (upd m6 (root + sd r) (l'.head?.getD 0)) (root + 2) (w64 (upd m6 (root + sd r) (l'.head?.getD 0) (root + 2) + -1)) (root + 7) = (n :: l').length := by
      rw [upd_ne _ _ (by omega), upd_ne _ _ (by omega)]; exact e7
    have e2' : upd m6 (root + sd r) (l'.head?.getD 0) (root + 2) = (n :: l').length := by rw [upd_ne _ _ (by omega)]; exact e2
    have hlc : ((n :: l').length : Int) + -1 = l'.length := by simp only [List.length_cons]; omega
    rw [e7', e2', hlc, w64_R ⟨by omega, by simp only [List.length_cons] at hlen; omega⟩] at S ⊢
    have at' : ∀ a, upd (upd (upd m6 (root + sd r) (l'.head?.getD 0)) (root + 2) (l'.length : Int)) (root + 7) (l'.length : Int) a = if a = root + 7 then (l'.length : Int) else if a = root + 2 then (l'.length : Int) else if a = root + sd r then l'.head?.getD 0 else m6 a := fun a => rfl
    generalize upd (upd (upd m6 (root + sd r) (l'.head?.getD 0)) (root + 2) (l'.length : Int)) (root + 7) (l'.length : Int) = m7 at *
    have hf : ∀ a, (∀ i, 0 ≤ i → i ≤ 7 → a ≠ root + i) → m7 a = m6 a := fun a ha => by
      rw [at', if_neg (ha 7 (by omega) (by omega)), if_neg (ha 2 (by omega) (by omega)), if_neg (ha _ s1.1 (by omega))]
    have hnode : ∀ x i, (∃ k, x = p.frm + 8 * k ∧ 0 ≤ k) → 0 ≤ i → i ≤ 7 → m7 (x + i) = m6 (x + i) := fun x i ⟨k, e, k0⟩ i0 i1 => hf _ fun i' _ _ => by omega
    have hold : ∀ x, (∃ k, 0 ≤ k ∧ x = p.frm + 8 * k) → ∀ i, 0 ≤ i → i ≤ 7 → (i = sd r → l'.head? ≠ some x) → m7 (x + i) = m (x + i) := fun x ⟨k, k0, e⟩ i i0 i1 hi => by
      rw [hnode x i ⟨k, e, k0⟩ i0 i1]
      refine hm6 _ (by omega) fun y hy => ?_
      obtain ⟨k', k0', k1', kj', e'⟩ := hidx y (List.mem_of_head? hy)
      intro h
      have : k = k' := by omega
      subst this
      exact hi (by omega) (by rw [hy, e, e'])
    have hv : m7 (n + 2) = m (n + 2) := hold n ⟨j, j0, ej⟩ 2 (by omega) (by omega) fun e => by omega
    rw [hv]
    have P7 : PoolR m7 p fr out := P.ext fun a ha => by
      have h6 : m7 a = m6 a := hf a fun i i0 i1 => by
        rcases ha with h | h | h | h
        · omega
        · omega
        · omega
        · obtain ⟨k, k0, k1, e⟩ := P.fN a h; omega
      rw [h6]
      refine hm6 a ?_ fun y hy => ?_
      · rcases ha with h | h | h | h
        · omega
        · omega
        · omega
        · obtain ⟨k, k0, k1, e⟩ := P.fN a h; omega
      · obtain ⟨k', k0', k1', kj', e'⟩ := hidx y (List.mem_of_head? hy)
        rcases ha with h | h | h | h
        · omega
        · omega
        · omega
        · obtain ⟨k, k0, k1, e⟩ := P.fN a h
          intro h2
          have : k = k' := by omega
          exact (H y (List.mem_cons_of_mem _ (List.mem_of_head? hy))).2 (by rw [e', ← this, ← e]; exact h)
    refine wp_give S P7 hD (by omega) ej ⟨j0, j1⟩ hnf fun σ11 m' S P' hm' => ?_
    rw [if_neg (by simp)]
    refine wp_un0 ?_
    have hvs : vs = m (n + 2) :: l'.map fun x => m (x + 2) := K.val
    have hf' : ∀ a, a ≠ p.root → a ≠ p.root + 2 → a ≠ n → m' a = m7 a := hm'
    have hroot : ∀ i, 0 ≤ i → i ≤ 7 → m' (root + i) = m7 (root + i) := fun i i0 i1 => hf' _ (by omega) (by omega) (by omega)
    have hl' : ∀ x ∈ l', ∀ i, 0 ≤ i → i ≤ 7 → m' (x + i) = m7 (x + i) := fun x hx i i0 i1 => by
      obtain ⟨k, k0, k1, kj, e⟩ := hidx x hx
      exact hf' _ (by omega) (by omega) (by omega)
    refine .inl ⟨n, l', m (n + 2), l'.map fun x => m (x + 2), m', rfl, hvs, rfl, S.mono (by omega), P', ⟨?_, ?_, ?_, ?_, ?_, hnd'⟩, ?_, ?_⟩
    · rw [hroot _ s1.1 (by omega), at', if_neg (by omega), if_neg (by omega), if_pos rfl, ← hnx]
      refine K.fwd.2.ext fun x hx => ?_
      obtain ⟨k, k0, k1, kj, e⟩ := hidx x hx
      rw [hl' x hx _ s2.1 (by omega)]
      exact hold x ⟨k, k0, e⟩ _ s2.1 (by omega) fun e => absurd e.symm s3
    · rw [hroot _ s2.1 (by omega), at', if_neg (by omega), if_neg (by omega), if_neg (by omega), hr6]
      cases hll : l' with
      | nil => rw [if_pos rfl]; rfl
      | cons y l2 =>
        rw [if_neg (by simp), ← hll]
        have hb := K.bwd
        rw [List.reverse_cons] at hb
        refine Lk.unsnoc hb (fun x hx => ?_) (by rw [← List.reverse_cons]; exact nd_rev K.nd) (by rw [hll]; simp)
        have hx := List.mem_reverse.1 hx
        obtain ⟨k, k0, k1, kj, e⟩ := hidx x hx
        rw [hl' x hx _ s1.1 (by omega), List.getLast?_reverse]
        by_cases e' : l'.head? = some x
        · rw [if_pos e'.symm, hnode x _ ⟨k, e, k0⟩ s1.1 (by omega)]
          exact hx6 x e'
        · rw [if_neg (fun h => e' h.symm)]
          exact hold x ⟨k, k0, e⟩ _ s1.1 (by omega) fun _ => e'
    · exact List.map_congr_left fun x hx => by
        obtain ⟨k, k0, k1, kj, e⟩ := hidx x hx
        rw [hl' x hx 2 (by omega) (by omega)]
        exact (hold x ⟨k, k0, e⟩ 2 (by omega) (by omega) fun e => by omega).symm
    · rw [hroot 2 (by omega) (by omega), at', if_neg (by omega), if_pos rfl]
    · rw [hroot 7 (by omega) (by omega), at', if_pos rfl]
    · intro x hx
      obtain ⟨h1, h2⟩ := H x (List.mem_cons_of_mem _ hx)
      refine ⟨h1, fun hm => ?_⟩
      rcases List.mem_cons.1 hm with e | hm
      · exact hnl (e ▸ hx)
      · exact h2 hm
    · intro a ha1 ha2 ha3
      have b0 := ha1 0 (by omega) (by omega)
      have b3 := ha3 n (List.mem_cons_self ..) 0 (by omega) (by omega)
      rw [hf' a (by omega) (ha1 2 (by omega) (by omega)) (by omega), hf a ha2]
      exact hm6 a (ha2 _ s2.1 (by omega)) fun x hx => ha3 x (List.mem_cons_of_mem _ (List.mem_of_head? hx)) _ s1.1 (by omega)
  rw [hnx]
  cases hll : l' with
  | nil =>
    rw [show (([] : List Int).head?.getD 0) = 0 from rfl, if_pos rfl]
    refine wp_put S2 (hRD _ s2.1 (by omega)) ⟨by decide, by decide⟩ (by omega) fun σ6 S => ?_
    rw [hll] at tail
    refine tail σ6 _ _ (by omega) S (fun a a1 _ => upd_ne _ _ a1) ?_ (fun x hx => by cases hx)
    rw [upd_eq, if_pos rfl]
  | cons x l2 =>
    rw [hll] at hidx tail
    obtain ⟨i, i0, i1, hij, e⟩ := hidx x (List.mem_cons_self ..)
    have hxN : isN p x := ⟨i, i0, by omega, e⟩
    rw [show ((x :: l2).head?.getD 0) = x from rfl, if_neg (by omega), if_pos (isN_node g hxN)]
    refine wp_put S2 (hD.n x hxN _ s1.1 (by omega)) ⟨by decide, by decide⟩ (by omega) fun σ6 S => ?_
    refine tail σ6 _ _ (by omega) S (fun a a1 a2 => upd_ne _ _ (a2 x rfl)) ?_ (fun y hy => ?_)
    · rw [upd_ne _ _ (by omega), if_neg (by simp)]
    · have hy : x = y := by simpa using hy
      subst hy
      rw [upd_eq]
theorem wp_dPeek (S : Sm D σ σ m 0) (P : PoolR m p fr out) (hD : PoolD D p) (hRD : RootD D root) (K : DQ m root r l vs) (H : Held p fr out l) :
    wp (dPeek root r) σ fun e σ' => Sm D σ σ' m 0 ∧ ((∃ v vs', vs = v :: vs' ∧ e = (v, 0)) ∨ (vs = [] ∧ e = (0, 8))) := by
  have s1 := sd_in r
  have g := P.good
  have g1 := g.f1
  have hp1 := P.out1
  unfold dPeek
  refine wp_get S (hRD _ s1.1 (by omega)) fun σ1 S1 => ?_
  cases l with
  | nil =>
    have e0 : m (root + sd r) = 0 := K.fwd
    rw [e0, if_pos rfl]
    exact ⟨S1, .inr ⟨K.val, rfl⟩⟩
  | cons n l' =>
    obtain ⟨⟨j, j0, j1, ej⟩, _⟩ := H n (List.mem_cons_self ..)
    have hnN : isN p n := ⟨j, j0, by omega, ej⟩
    have g2 := g.f2; have g3 := g.n1
    rw [K.fwd.1, if_neg (by omega), w64_R ⟨by omega, by omega⟩]
    refine wp_get S1 (hD.n n hnN 2 (by omega) (by omega)) fun σ2 S2 => ?_
    exact ⟨S2, .inl ⟨_, _, K.val, rfl⟩⟩
theorem wp_dLoop (g : p.good) (hD : PoolD D p) : ∀ (l : List Int) (k : Nat) (a : Int) (acc : List Int) (σ' : Spc), Sm D σ σ' m c → Lk m (sd !r) a l → (∀ x ∈ l, isN p x) → l.length ≤ k →
    wp (dLoop p r k a acc) σ' fun o σ2 => o = some (acc ++ l.map fun x => m (x + 2)) ∧ Sm D σ σ2 m c
  | [], k, a, acc, σ', S, h, _, _ => by
    have e : a = 0 := h
    cases k with
    | zero => unfold dLoop; rw [if_pos e]; exact ⟨by simp, S⟩
    | succ k => unfold dLoop; rw [if_pos e]; exact ⟨by simp, S⟩
  | x :: l, k, a, acc, σ', S, h, hN, hl => by
    have s2 := sd_in (!r)
    obtain ⟨rfl, h⟩ := h
    have hx := hN a (List.mem_cons_self ..)
    have hp := isN_pos g hx
    cases k with
    | zero => simp at hl
    | succ k =>
      unfold dLoop
      rw [if_neg (by omega), if_pos (isN_node g hx)]
      refine wp_get S (hD.n a hx 2 (by omega) (by omega)) fun σ1 S => ?_
      refine wp_get S (hD.n a hx _ s2.1 (by omega)) fun σ2 S => ?_
      refine Prog.wp_mono (wp_dLoop g hD l k _ _ _ S h (fun y hy => hN y (List.mem_cons_of_mem _ hy)) (by simpa using hl)) fun o σ3 ⟨e, S⟩ => ⟨by rw [e, List.append_assoc]; rfl, S⟩
theorem wp_dWalk (S : Sm D σ σ m 0) (P : PoolR m p fr out) (hD : PoolD D p) (hRD : RootD D root) (K : DQ m root r l vs) (H : Held p fr out l) : wp (dWalk p root r) σ fun o σ' => o = some vs ∧ Sm D σ σ' m 0 := by
  have s1 := sd_in r
  have hp1 := P.out1
  unfold dWalk
  refine wp_get S (hRD _ s1.1 (by omega)) fun σ1 S1 => ?_
  have hlen := nodes_len (fun x hx => (H x hx).1) K.nd P.out0
  refine Prog.wp_mono (wp_dLoop P.good hD l _ _ [] _ S1 K.fwd (fun x hx => by obtain ⟨⟨i, i0, i1, e⟩, _⟩ := H x hx; exact ⟨i, i0, by omega, e⟩) (by omega)) fun o σ2 ⟨e, S⟩ => ⟨by rw [e, K.val]; rfl, S⟩
end
end Go.En
namespace Go.En
open Go.Sort

theorem swo_as {lt : Int → Int → Bool} (hS : SWO lt) {x y : Int} (h : lt x y = true) : lt y x = false := by
  cases hb : lt y x with
  | false => rfl
  | true => have := hS.trans x y x h hb; rw [hS.irrefl] at this; cases this
/-- places i and j exchanged -/
def sw (A : Int → Int) (i j : Int) : Int → Int := fun q => if q = i then A j else if q = j then A i else A q
theorem sw_l (A : Int → Int) (i j : Int) : sw A i j i = A j := by simp [sw]
theorem sw_r (A : Int → Int) (i j : Int) : sw A i j j = A i := by unfold sw; split <;> simp_all
theorem sw_o (A : Int → Int) {i j q : Int} (h1 : q ≠ i) (h2 : q ≠ j) : sw A i j q = A q := by simp [sw, h1, h2]
/-- x stands at one of the places 1 .. k -/
def Mem (k : Int) (A : Int → Int) (x : Int) : Prop := ∃ i, 1 ≤ i ∧ i ≤ k ∧ A i = x
theorem Mem.sw {k : Int} {A : Int → Int} {i j x : Int} (hi : 1 ≤ i ∧ i ≤ k) (hj : 1 ≤ j ∧ j ≤ k) : Mem k (sw A i j) x ↔ Mem k A x := by
  have one : ∀ B : Int → Int, Mem k (En.sw B i j) x → Mem k B x := fun B ⟨q, q1, q2, e⟩ => by
    by_cases h1 : q = i
    · subst h1; rw [sw_l] at e; exact ⟨j, hj.1, hj.2, e⟩
    · by_cases h2 : q = j
      · subst h2; rw [sw_r] at e; exact ⟨i, hi.1, hi.2, e⟩
      · rw [sw_o B h1 h2] at e; exact ⟨q, q1, q2, e⟩
  refine ⟨one A, fun ⟨q, q1, q2, e⟩ => ?_⟩
  by_cases h1 : q = i
  · subst h1; exact ⟨j, hj.1, hj.2, by rw [sw_r]; exact e⟩
  · by_cases h2 : q = j
    · subst h2; exact ⟨i, hi.1, hi.2, by rw [sw_l]; exact e⟩
    · exact ⟨q, q1, q2, by rw [sw_o A h1 h2]; exact e⟩
/-- no place is taken twice -/
def Inj (k : Int) (A : Int → Int) : Prop := ∀ i j, 1 ≤ i → i ≤ k → 1 ≤ j → j ≤ k → A i = A j → i = j
theorem Inj.sw {k : Int} {A : Int → Int} {i j : Int} (h : Inj k A) (hi : 1 ≤ i ∧ i ≤ k) (hj : 1 ≤ j ∧ j ≤ k) : Inj k (sw A i j) := by
  intro a b a1 a2 b1 b2 e
  have hA : ∀ q, 1 ≤ q → q ≤ k → ∃ r, 1 ≤ r ∧ r ≤ k ∧ En.sw A i j q = A r ∧ ((q = i ∧ r = j) ∨ (q = j ∧ r = i) ∨ (q ≠ i ∧ q ≠ j ∧ r = q)) := fun q q1 q2 => by
    by_cases h1 : q = i
    · subst h1; exact ⟨j, hj.1, hj.2, sw_l _ _ _, .inl ⟨rfl, rfl⟩⟩
    · by_cases h2 : q = j
      · subst h2; exact ⟨i, hi.1, hi.2, sw_r _ _ _, .inr (.inl ⟨rfl, rfl⟩)⟩
      · exact ⟨q, q1, q2, sw_o _ h1 h2, .inr (.inr ⟨h1, h2, rfl⟩)⟩
  obtain ⟨r, r1, r2, er, hr⟩ := hA a a1 a2
  obtain ⟨s, s1, s2, es, hs⟩ := hA b b1 b2
  rw [er, es] at e
  have := h r s r1 r2 s1 s2 e
  omega
section
variable {lt : Int → Int → Bool} {A : Int → Int} {k at' at0 kid : Int} {C : Prop}
/-- the heap's order -/
def HO (lt : Int → Int → Bool) (A : Int → Int) (k : Int) : Prop := ∀ i, 2 ≤ i → i ≤ k → lt (A i) (A (i / 2)) = false
theorem HO.top (hS : SWO lt) (H : HO lt A k) : ∀ (n : Nat) (i : Int), i.toNat ≤ n → 1 ≤ i → i ≤ k → lt (A i) (A 1) = false
  | 0, i, hn, h1, _ => by omega
  | n + 1, i, hn, h1, h2 => by
    by_cases e : i = 1
    · subst e; exact hS.irrefl _
    · exact hS.ntrans _ _ _ (H i (by omega) h2) (HO.top hS H n (i / 2) (by omega) (by omega) (by omega))
/-- on the way up: the item at at' may be less than what is above -/
structure RI (lt : Int → Int → Bool) (A : Int → Int) (k at' : Int) (C : Prop) : Prop where
  o : ∀ i, 2 ≤ i → i ≤ k → i ≠ at' → i / 2 ≠ at' → lt (A i) (A (i / 2)) = false
  g : 1 < at' → ∀ i, 2 ≤ i → i ≤ k → i / 2 = at' → lt (A i) (A (at' / 2)) = false
  c : C → ∀ i, 2 ≤ i → i ≤ k → i / 2 = at' → lt (A i) (A at') = false
theorem RI.step (hS : SWO lt) (H : RI lt A k at' C) (h1 : 1 < at') (hk : at' ≤ k) (hl : lt (A at') (A (at' / 2)) = true) : RI lt (sw A at' (at' / 2)) k (at' / 2) True := by
  have hne : at' / 2 ≠ at' := by omega
  have hir := swo_as hS hl
  refine ⟨fun i i2 ik n1 n2 => ?_, fun hu i i2 ik e => ?_, fun _ i i2 ik e => ?_⟩
  · by_cases e1 : i = at'
    · subst e1; exact absurd rfl n2
    · rw [sw_o _ e1 n1]
      by_cases e2 : i / 2 = at'
      · rw [e2, sw_l]; exact H.g h1 i i2 ik e2
      · rw [sw_o _ e2 n2]; exact H.o i i2 ik e1 e2
  · by_cases e1 : i = at'
    · subst e1
      rw [sw_l, sw_o _ (by omega) (by omega)]
      exact H.o _ (by omega) (by omega) (by omega) (by omega)
    · rw [sw_o _ e1 (by omega), sw_o _ (by omega) (by omega)]
      have h2 := H.o i i2 ik e1 (by omega)
      rw [e] at h2
      exact hS.ntrans _ _ _ h2 (H.o _ (by omega) (by omega) (by omega) (by omega))
  · rw [sw_r]
    by_cases e1 : i = at'
    · subst e1; rw [sw_l]; exact hir
    · rw [sw_o _ e1 (by omega)]
      have h2 := H.o i i2 ik e1 (by omega)
      rw [e] at h2
      exact hS.ntrans _ _ _ h2 hir
/-- on the way down: the items below at' may be less than the one there -/
structure DI (lt : Int → Int → Bool) (A : Int → Int) (k at' : Int) : Prop where
  o : ∀ i, 2 ≤ i → i ≤ k → i / 2 ≠ at' → lt (A i) (A (i / 2)) = false
  g : 1 < at' → ∀ i, 2 ≤ i → i ≤ k → i / 2 = at' → lt (A i) (A (at' / 2)) = false
theorem RI.fin (H : RI lt A k at' C) (h : at' = 1 ∨ lt (A at') (A (at' / 2)) = false) : DI lt A k at' ∧ (C → HO lt A k) := by
  have ho : ∀ i, 2 ≤ i → i ≤ k → i / 2 ≠ at' → lt (A i) (A (i / 2)) = false := fun i i2 ik n => by
    by_cases e : i = at'
    · subst e; exact h.resolve_left (by omega)
    · exact H.o i i2 ik e n
  refine ⟨⟨ho, H.g⟩, fun hc i i2 ik => ?_⟩
  by_cases e : i / 2 = at'
  · rw [e]; exact H.c hc i i2 ik e
  · exact ho i i2 ik e
theorem DI.step (hS : SWO lt) (H : DI lt A k at') (h1 : 1 ≤ at') (hk : kid / 2 = at' ∧ kid ≤ k) (hl : lt (A kid) (A at') = true) (hmin : ∀ i, 2 ≤ i → i ≤ k → i / 2 = at' → lt (A i) (A kid) = false) : DI lt (sw A at' kid) k kid := by
  have hir := swo_as hS hl
  refine ⟨fun i i2 ik n => ?_, fun hu i i2 ik e => ?_⟩
  · by_cases e1 : i = kid
    · subst e1; rw [sw_r, hk.1, sw_l]; exact hir
    · by_cases e2 : i = at'
      · subst e2
        rw [sw_l, sw_o _ (by omega) (by omega)]
        exact H.g (by omega) kid (by omega) hk.2 hk.1
      · rw [sw_o _ e2 e1]
        by_cases e3 : i / 2 = at'
        · rw [e3, sw_l]; exact hmin i i2 ik e3
        · rw [sw_o _ e3 n]; exact H.o i i2 ik e3
  · rw [sw_o _ (by omega) (by omega), hk.1, sw_l]
    have := H.o i i2 ik (by omega)
    rwa [e] at this
theorem DI.fin (H : DI lt A k at') (h : ∀ i, 2 ≤ i → i ≤ k → i / 2 = at' → lt (A i) (A at') = false) : HO lt A k := fun i i2 ik => by
  by_cases e : i / 2 = at'
  · rw [e]; exact h i i2 ik e
  · exact H.o i i2 ik e
end
/-! ### The order of keys -/
def klt (a b : Int × Int) : Bool := decide (a.1 < b.1 ∨ a.1 = b.1 ∧ a.2 < b.2)
theorem klt_iff {a b : Int × Int} : klt a b = true ↔ (a.1 < b.1 ∨ a.1 = b.1 ∧ a.2 < b.2) := by simp [klt]
theorem klt_f {a b : Int × Int} : klt a b = false ↔ ¬ (a.1 < b.1 ∨ a.1 = b.1 ∧ a.2 < b.2) := by simp [klt]
/-- the key of a node -/
def kyM (m : Int → Int) (x : Int) : Int × Int := (m x, m (x + 2))
abbrev nlt (m : Int → Int) (x y : Int) : Bool := klt (kyM m x) (kyM m y)
theorem nlt_swo (m : Int → Int) : SWO (nlt m) := by
  refine ⟨fun x => ?_, fun x y z h1 h2 => ?_, fun x y z h1 h2 => ?_⟩
  · rw [klt_f]; omega
  · rw [klt_iff] at *; omega
  · rw [klt_f] at *; omega
end Go.En
namespace Go.En
open Prog Spc

section
variable (p : Pl) (root : Int)
def hNode (b : Bool) (n : Int) : Int × Bool := if (p.node n).isSome then (n, b) else (0, true)
def hGet (a cell : Int) : Prog Int := if a = 0 then pure 0 else gt (a + cell)
def hPut (a cell v : Int) : Prog Unit := if a = 0 then pure () else pt (a + cell) v
def hRow (b : Bool) (i : Int) : Prog (Int × Bool) := gt (root + (3 + (i - 1) / 8)) >>= fun r => pure (hNode p b r)
def hItem (b : Bool) (i : Int) : Prog (Int × Bool) := hRow p root b i >>= fun r => if r.1 = 0 then pure (0, r.2) else hGet r.1 ((i - 1) % 8) >>= fun v => pure (hNode p r.2 v)
def hKey (x : Int) : Prog (Int × Int) := hGet x 0 >>= fun u => hGet x 2 >>= fun o => pure (u, o)
def hLay (b : Bool) (i x : Int) : Prog Bool := hRow p root b i >>= fun r => hPut r.1 ((i - 1) % 8) x >>= fun _ => hPut x 3 i >>= fun _ => pure r.2
def hRise (own : Int × Int) (x : Int) : Nat → Bool → Int → Prog (Int × Bool)
  | 0, b, i => hLay p root b i x >>= fun b => pure (i, b)
  | f + 1, b, i =>
    if 1 < i ∧ b = false then
      hItem p root b (i / 2) >>= fun u => hKey u.1 >>= fun ku =>
        if klt own ku = true then hLay p root u.2 i u.1 >>= fun b => hRise own x f b (i / 2)
        else hLay p root u.2 i x >>= fun b => pure (i, b)
    else hLay p root b i x >>= fun b => pure (i, b)
def hRiseS (b : Bool) (i x : Int) : Prog (Int × Bool) := hKey x >>= fun own => hRise p root own x i.toNat b i
/-- the lesser item below -/
def hKid (b : Bool) (i n : Int) : Prog (Int × Int × Bool) :=
  hItem p root b (2 * i) >>= fun u =>
    if 2 * i < n then hItem p root u.2 (2 * i + 1) >>= fun y => hKey y.1 >>= fun ky => hKey u.1 >>= fun kx => if klt ky kx = true then pure (2 * i + 1, y.1, y.2) else pure (2 * i, u.1, y.2)
    else pure (2 * i, u.1, u.2)
def hSink (own : Int × Int) (x n : Int) : Nat → Bool → Int → Prog Bool
  | 0, b, i => hLay p root b i x
  | f + 1, b, i =>
    if 2 * i ≤ n ∧ b = false then
      hKid p root b i n >>= fun k => hKey k.2.1 >>= fun kx =>
        if klt kx own = true then hLay p root k.2.2 i k.2.1 >>= fun b => hSink own x n f b k.1
        else hLay p root k.2.2 i x
    else hLay p root b i x
def hSinkS (b : Bool) (i x n : Int) : Prog Bool := hKey x >>= fun own => hSink p root own x n (n - i).toNat b i
def hTake : Prog (Int × Int) := pTake p >>= fun t => if t.2 = 0 then dMore (root + 7) 1 >>= fun _ => pure t else pure t
def hGive (a : Int) : Prog Int := pGive p a >>= fun e => if e = 0 then dMore (root + 7) (-1) >>= fun _ => pure e else pure e
/-- the end of an operation -/
def hEnd (m : Int) (e : Int) (b : Bool) : Prog Int :=
  let e' := if b = true ∧ e = 0 then 24 else e
  if e' ≠ 0 then bk m >>= fun _ => pure e' else pure e'
def hPushT (x n pr v : Int) : Prog (Int × Int × Bool) :=
  hPut x 0 pr >>= fun _ => hPut x 1 v >>= fun _ => gt (root + 1) >>= fun o => hPut x 2 o >>= fun _ =>
    dMore (root + 1) 1 >>= fun _ => dMore (root + 0) 1 >>= fun _ => hRiseS p root false (n + 1) x >>= fun r => pure (x, 0, r.2)
def hPushB (pr v : Int) : Prog (Int × Int × Bool) :=
  gt (root + 0) >>= fun n =>
    if n = 32 then pure (0, 9, false)
    else if ¬ (0 ≤ n ∧ n ≤ 32) then pure (0, 24, false)
    else gt (root + 1) >>= fun o => if 4611686018427387904 ≤ o then pure (0, 9, false)
      else hTake p root >>= fun t => if t.2 ≠ 0 then pure (0, t.2, false)
        else if n % 8 = 0 then hTake p root >>= fun r => if r.2 ≠ 0 then pure (0, r.2, false) else pt (root + (3 + n / 8)) r.1 >>= fun _ => hPushT p root t.1 n pr v
        else hPushT p root t.1 n pr v
def hPush (pr v : Int) : Prog (Int × Int) := mk >>= fun m => hPushB p root pr v >>= fun r => hEnd m r.2.1 r.2.2 >>= fun e => pure (if e ≠ 0 then 0 else r.1, e)
def hRemT (x pr v : Int) (b : Bool) : Prog (Int × Int × Int × Bool) :=
  hGive p root x >>= fun e => if e ≠ 0 then pure (0, 0, e, b) else if b = true then pure (0, 0, 24, b) else pure (pr, v, 0, b)
def hMove (b : Bool) (i x n : Int) : Prog Bool :=
  if i ≠ n then hRiseS p root b i x >>= fun r => if r.1 = i then hSinkS p root r.2 i x (n - 1) else pure r.2 else pure b
def hRem (b : Bool) (i n : Int) : Prog (Int × Int × Int × Bool) :=
  hItem p root b i >>= fun x => hItem p root x.2 n >>= fun y => hGet x.1 0 >>= fun pr => hGet x.1 1 >>= fun v => hRow p root y.2 n >>= fun r =>
    if r.2 = true then pure (0, 0, 24, r.2)
    else dMore (root + 0) (-1) >>= fun _ => hMove p root r.2 i y.1 n >>= fun b =>
      if (n - 1) % 8 = 0 then pt (root + (3 + (n - 1) / 8)) 0 >>= fun _ => hGive p root r.1 >>= fun e => if e ≠ 0 then pure (0, 0, e, b) else hRemT p root x.1 pr v b
      else hRemT p root x.1 pr v b
def hPopB : Prog (Int × Int × Int × Bool) :=
  gt (root + 0) >>= fun n => if n = 0 then pure (0, 0, 8, false) else if ¬ (0 ≤ n ∧ n ≤ 32) then pure (0, 0, 24, false) else hRem p root false 1 n
def hPop : Prog (Int × Int × Int) := mk >>= fun m => hPopB p root >>= fun r => hEnd m r.2.2.1 r.2.2.2 >>= fun e => pure (r.1, r.2.1, e)
def hMin : Prog (Int × Int × Int) :=
  gt (root + 0) >>= fun n => if n = 0 then pure (0, 0, 8) else if ¬ (0 ≤ n ∧ n ≤ 32) then pure (0, 0, 24)
    else hItem p root false 1 >>= fun x => hGet x.1 0 >>= fun pr => hGet x.1 1 >>= fun v => if x.2 = true then pure (0, 0, 24) else pure (pr, v, 0)
/-- node, place, number, error, bad -/
def hFind (h : Int) : Prog (Int × Int × Int × Int × Bool) :=
  gt (root + 0) >>= fun n => if ¬ (0 ≤ n ∧ n ≤ 32) then pure (0, 0, 0, 24, false)
    else if (p.node h).isSome = true then hGet h 3 >>= fun q => if q < 1 ∨ n < q then pure (0, 0, 0, 10, false)
      else hRow p root false q >>= fun r => if r.2 = true then pure (0, 0, 0, 24, r.2) else hGet r.1 ((q - 1) % 8) >>= fun v => if v ≠ h then pure (0, 0, 0, 10, r.2) else pure (h, q, n, 0, r.2)
    else pure (0, 0, 0, 10, false)
def hLowB (h pr : Int) : Prog (Int × Bool) :=
  hFind p root h >>= fun f => if f.2.2.2.1 ≠ 0 then pure (f.2.2.2.1, f.2.2.2.2) else hGet f.1 0 >>= fun u => if u < pr then pure (4, f.2.2.2.2)
    else hPut f.1 0 pr >>= fun _ => hRiseS p root f.2.2.2.2 f.2.1 f.1 >>= fun r => pure (0, r.2)
def hLow (h pr : Int) : Prog Int := mk >>= fun m => hLowB p root h pr >>= fun r => hEnd m r.1 r.2
def hDropB (h : Int) : Prog (Int × Int × Bool) :=
  hFind p root h >>= fun f => if f.2.2.2.1 ≠ 0 then pure (0, f.2.2.2.1, f.2.2.2.2) else hRem p root f.2.2.2.2 f.2.1 f.2.2.1 >>= fun r => pure (r.2.1, r.2.2.1, r.2.2.2)
def hDrop (h : Int) : Prog (Int × Int) := mk >>= fun m => hDropB p root h >>= fun r => hEnd m r.2.1 r.2.2 >>= fun e => pure (r.1, e)
/-- the items of a heap by place -/
def hAllL (n : Int) : Nat → Bool → Int → List Int → Prog (List Int × Bool)
  | 0, b, _, acc => pure (acc, b)
  | f + 1, b, i, acc => if i ≤ n ∧ b = false then hItem p root b i >>= fun x => hAllL n f x.2 (i + 1) (acc ++ [x.1]) else pure (acc, b)
end
end Go.En
namespace Go.En
open Prog Spc Go.Sort

theorem pb_assoc {α β γ : Type} : ∀ (x : Prog α) (f : α → Prog β) (g : β → Prog γ), (x >>= f) >>= g = x >>= fun a => f a >>= g
  | .ret a, f, g => rfl
  | .get a k, f, g => congrArg (Prog.get a) (funext fun v => pb_assoc (k v) f g)
  | .put a v k, f, g => congrArg (Prog.put a v) (pb_assoc k f g)
  | .mark k, f, g => congrArg Prog.mark (funext fun v => pb_assoc (k v) f g)
  | .back m k, f, g => congrArg (Prog.back m) (pb_assoc k f g)
theorem pb_pure {α β : Type} (a : α) (f : α → Prog β) : (pure a >>= f) = f a := rfl
/-- nodes of items and of rows, apart -/
structure HN (p : Pl) (k : Int) (rw A : Int → Int) : Prop where
  an : ∀ i, 1 ≤ i → i ≤ k → isN p (A i)
  rn : ∀ r, 0 ≤ r → 8 * r < k → isN p (rw r)
  ne : ∀ r i, 0 ≤ r → 8 * r < k → 1 ≤ i → i ≤ k → rw r ≠ A i
  ri : ∀ r s, 0 ≤ r → 8 * r < k → 0 ≤ s → 8 * s < k → rw r = rw s → r = s
  ai : Inj k A
theorem sw_mem {k : Int} {A : Int → Int} {i j q : Int} (hi : 1 ≤ i ∧ i ≤ k) (hj : 1 ≤ j ∧ j ≤ k) (hq : 1 ≤ q ∧ q ≤ k) : ∃ r, 1 ≤ r ∧ r ≤ k ∧ sw A i j q = A r :=
  let ⟨r, r1, r2, e⟩ := (Mem.sw (A := A) (x := sw A i j q) hi hj).1 ⟨q, hq.1, hq.2, rfl⟩
  ⟨r, r1, r2, e.symm⟩
theorem HN.sw {p : Pl} {k : Int} {rw A : Int → Int} {i j : Int} (N : HN p k rw A) (hi : 1 ≤ i ∧ i ≤ k) (hj : 1 ≤ j ∧ j ≤ k) : HN p k rw (sw A i j) := by
  refine ⟨fun q q1 q2 => ?_, N.rn, fun r q r0 r1 q1 q2 => ?_, N.ri, N.ai.sw hi hj⟩
  · obtain ⟨s, s1, s2, e⟩ := sw_mem (A := A) hi hj ⟨q1, q2⟩
    rw [e]; exact N.an s s1 s2
  · obtain ⟨s, s1, s2, e⟩ := sw_mem (A := A) hi hj ⟨q1, q2⟩
    rw [e]; exact N.ne r s r0 r1 s1 s2
/-- the array in memory, but for a hole -/
structure HA (m : Int → Int) (root k : Int) (rw A : Int → Int) (hole : Int) : Prop where
  row : ∀ r, 0 ≤ r → 8 * r < k → m (root + (3 + r)) = rw r
  cel : ∀ i, 1 ≤ i → i ≤ k → i ≠ hole → m (rw ((i - 1) / 8) + (i - 1) % 8) = A i
  pos : ∀ i, 1 ≤ i → i ≤ k → i ≠ hole → m (A i + 3) = i
/-- nothing but places and rows is turned -/
def HF (k : Int) (rw A : Int → Int) (m m' : Int → Int) : Prop := ∀ b, (∀ x, Mem k A x → b ≠ x + 3) → (∀ r c, 0 ≤ r → 8 * r < k → 0 ≤ c → c ≤ 7 → b ≠ rw r + c) → m' b = m b
theorem HF.refl {k : Int} {rw A : Int → Int} {m : Int → Int} : HF k rw A m m := fun _ _ _ => rfl
theorem HF.trans {k : Int} {rw A B : Int → Int} {m m1 m2 : Int → Int} (h : HF k rw A m m1) (h' : HF k rw B m1 m2) (e : ∀ x, Mem k B x → Mem k A x) : HF k rw A m m2 :=
  fun b b1 b2 => (h' b (fun x hx => b1 x (e x hx)) b2).trans (h b b1 b2)
/-- how deep a place lies -/
def lv (i : Int) : Nat := if i < 2 then 0 else if i < 4 then 1 else if i < 8 then 2 else if i < 16 then 3 else if i < 32 then 4 else 5
theorem lv_up {i : Int} (h : 2 ≤ i) (h' : i ≤ 32) : lv (i / 2) + 1 = lv i := by unfold lv; (repeat' split) <;> omega
theorem lv_dn {i j : Int} (h : 2 * i ≤ j) (h0 : 1 ≤ i) (h' : j ≤ 31) : lv i + 1 ≤ lv j := by unfold lv; (repeat' split) <;> omega
theorem lv_4 {i : Int} (h : i ≤ 31) : lv i ≤ 4 := by unfold lv; (repeat' split) <;> omega
theorem lv_5 {i : Int} : lv i ≤ 5 := by unfold lv; (repeat' split) <;> omega
section
variable {D : Int → Prop} {σ0 σ σ' : Spc} {m m' : Int → Int} {c c' : Nat} {α β : Type} {Q : α → Spc → Prop} {p : Pl} {root k i x hole : Int} {rw A : Int → Int} {b : Bool}
theorem hNode_ok (g : p.good) (h : isN p x) : hNode p b x = (x, b) := by unfold hNode; rw [if_pos (isN_node g h)]
theorem wp_hGet {q : Int → Prog α} (g : p.good) (S : Sm D σ0 σ m c) (hD : PoolD D p) (hx : isN p x) (hi : 0 ≤ i ∧ i ≤ 7) (k : ∀ σ', Sm D σ0 σ' m c → wp (q (m (x + i))) σ' Q) : wp (hGet x i >>= q) σ Q := by
  have := isN_pos g hx
  unfold hGet
  rw [if_neg (by omega)]
  exact wp_get S (hD.n x hx i hi.1 hi.2) k
theorem wp_hPut {q : Unit → Prog α} {v : Int} (g : p.good) (S : Sm D σ0 σ m c) (hD : PoolD D p) (hx : isN p x) (hi : 0 ≤ i ∧ i ≤ 7) (hv : R64 v) (hl : σ0.pu.length + c ≤ big) (k : ∀ σ', Sm D σ0 σ' (upd m (x + i) v) (c + 1) → wp (q ()) σ' Q) : wp (hPut x i v >>= q) σ Q := by
  have := isN_pos g hx
  unfold hPut
  rw [if_neg (by omega)]
  exact wp_put S (hD.n x hx i hi.1 hi.2) hv hl k
theorem wp_hRow {q : Int × Bool → Prog α} {r : Int} (g : p.good) (S : Sm D σ0 σ m c) (hRD : RootD D root) (hi : 1 ≤ i ∧ i ≤ 32) (hr : m (root + (3 + (i - 1) / 8)) = r) (hn : isN p r) (k : ∀ σ', Sm D σ0 σ' m c → wp (q (r, b)) σ' Q) : wp (hRow p root b i >>= q) σ Q := by
  unfold hRow
  show wp (gt (root + (3 + (i - 1) / 8)) >>= fun r => q (hNode p b r)) σ Q
  refine wp_get S (hRD _ (by omega) (by omega)) fun σ1 S1 => ?_
  rw [hr, hNode_ok g hn]
  exact k σ1 S1
theorem HA.rowi (H : HA m root k rw A hole) (h : 1 ≤ i ∧ i ≤ k) : m (root + (3 + (i - 1) / 8)) = rw ((i - 1) / 8) := H.row _ (by omega) (by omega)
theorem HN.rni (N : HN p k rw A) (h : 1 ≤ i ∧ i ≤ k) : isN p (rw ((i - 1) / 8)) := N.rn _ (by omega) (by omega)
theorem wp_hItem {q : Int × Bool → Prog α} (g : p.good) (S : Sm D σ0 σ m c) (hD : PoolD D p) (hRD : RootD D root) (N : HN p k rw A) (H : HA m root k rw A hole) (hk : k ≤ 32) (hi : 1 ≤ i ∧ i ≤ k) (hh : i ≠ hole) (kk : ∀ σ', Sm D σ0 σ' m c → wp (q (A i, b)) σ' Q) : wp (hItem p root b i >>= q) σ Q := by
  have hn := N.rni hi
  have := isN_pos g hn
  unfold hItem
  rw [wp_bind]
  refine wp_hRow g S hRD ⟨hi.1, by omega⟩ (H.rowi hi) hn fun σ1 S1 => ?_
  dsimp only
  rw [if_neg (by omega), ← wp_bind, pb_assoc]
  simp only [pb_pure]
  refine wp_hGet g S1 hD hn ⟨by omega, by omega⟩ fun σ2 S2 => ?_
  rw [H.cel i hi.1 hi.2 hh, hNode_ok g (N.an i hi.1 hi.2)]
  exact kk σ2 S2
theorem wp_hKey {q : Int × Int → Prog α} (g : p.good) (S : Sm D σ0 σ m c) (hD : PoolD D p) (hx : isN p x) (k : ∀ σ', Sm D σ0 σ' m c → wp (q (kyM m x)) σ' Q) : wp (hKey x >>= q) σ Q := by
  unfold hKey
  simp only [pb_assoc, pb_pure]
  refine wp_hGet g S hD hx ⟨by omega, by omega⟩ fun σ1 S1 => ?_
  refine wp_hGet g S1 hD hx ⟨by omega, by omega⟩ fun σ2 S2 => ?_
  rw [Int.add_zero]
  exact k σ2 S2
/-- places of rows are apart -/
theorem HN.cell_ne (N : HN p k rw A) {j : Int} (hi : 1 ≤ i ∧ i ≤ k) (hj : 1 ≤ j ∧ j ≤ k) (h : i ≠ j) : rw ((i - 1) / 8) + (i - 1) % 8 ≠ rw ((j - 1) / 8) + (j - 1) % 8 := by
  by_cases e : (i - 1) / 8 = (j - 1) / 8
  · rw [e]; omega
  · have hne : rw ((i - 1) / 8) ≠ rw ((j - 1) / 8) := fun e2 => e (N.ri _ _ (by omega) (by omega) (by omega) (by omega) e2)
    exact isN_ne (N.rni hi) (N.rni hj) hne ⟨by omega, by omega⟩ ⟨by omega, by omega⟩
theorem HN.cell_pos (N : HN p k rw A) {j o : Int} (hi : 1 ≤ i ∧ i ≤ k) (hj : 1 ≤ j ∧ j ≤ k) (ho : 0 ≤ o ∧ o ≤ 7) : rw ((i - 1) / 8) + (i - 1) % 8 ≠ A j + o :=
  isN_ne (N.rni hi) (N.an j hj.1 hj.2) (N.ne _ _ (by omega) (by omega) hj.1 hj.2) ⟨by omega, by omega⟩ ho
/-- an item of the place u is laid to the hole at i -/
theorem HA.lay {u : Int} (g : p.good) (hRA : RA p root) (N : HN p k rw A) (H : HA m root k rw A i) (hk : k ≤ 32) (hi : 1 ≤ i ∧ i ≤ k) (hu : 1 ≤ u ∧ u ≤ k) :
    HA (upd (upd m (rw ((i - 1) / 8) + (i - 1) % 8) (A u)) (A u + 3) i) root k rw (sw A i u) (if u = i then 0 else u) := by
  have hN := N.rni hi
  have hAu := N.an u hu.1 hu.2
  have p1 := isN_pos g hN
  have p2 := isN_pos g hAu
  have ra := hRA.b
  refine ⟨fun r r0 r1 => ?_, fun j j1 jk jh => ?_, fun j j1 jk jh => ?_⟩
  · rw [upd_ne _ _ (by omega), upd_ne _ _ (by omega)]; exact H.row r r0 r1
  · rw [upd_ne _ _ (N.cell_pos ⟨j1, jk⟩ hu ⟨by omega, by omega⟩)]
    by_cases e : j = i
    · subst e; rw [upd_eq, sw_l]
    · have ju : j ≠ u := fun e2 => by subst e2; rw [if_neg e] at jh; exact jh rfl
      rw [upd_ne _ _ (N.cell_ne ⟨j1, jk⟩ hi e), sw_o _ e ju]
      exact H.cel j j1 jk e
  · by_cases e : j = i
    · subst e; rw [sw_l, upd_eq]
    · have ju : j ≠ u := fun e2 => by subst e2; rw [if_neg e] at jh; exact jh rfl
      have hne : A j ≠ A u := fun e2 => ju (N.ai j u j1 jk hu.1 hu.2 e2)
      rw [sw_o _ e ju, upd_ne _ _ (by omega), upd_ne _ _ (N.cell_pos hi ⟨j1, jk⟩ ⟨by omega, by omega⟩).symm]
      exact H.pos j j1 jk e
theorem HF.lay {u : Int} (hi : 1 ≤ i ∧ i ≤ k) (hu : 1 ≤ u ∧ u ≤ k) : HF k rw A m (upd (upd m (rw ((i - 1) / 8) + (i - 1) % 8) (A u)) (A u + 3) i) := fun b b1 b2 => by
  rw [upd_ne _ _ (b1 _ ⟨u, hu.1, hu.2, rfl⟩), upd_ne _ _ (b2 _ _ (by omega) (by omega) (by omega) (by omega))]
theorem wp_hLay {q : Bool → Prog α} {u : Int} (g : p.good) (hRA : RA p root) (S : Sm D σ0 σ m c) (hD : PoolD D p) (hRD : RootD D root) (N : HN p k rw A) (H : HA m root k rw A i) (hk : k ≤ 32) (hi : 1 ≤ i ∧ i ≤ k) (hu : 1 ≤ u ∧ u ≤ k) (hl : σ0.pu.length + c + 2 ≤ big)
    (kk : ∀ σ' m', Sm D σ0 σ' m' (c + 2) → HA m' root k rw (sw A i u) (if u = i then 0 else u) → HF k rw A m m' → wp (q b) σ' Q) : wp (hLay p root b i (A u) >>= q) σ Q := by
  have hN := N.rni hi
  have hAu := N.an u hu.1 hu.2
  have p2 := isN_pos g hAu
  have g1 := g.f1; have g2 := g.f2; have g3 := g.n1
  unfold hLay
  simp only [pb_assoc, pb_pure]
  refine wp_hRow g S hRD ⟨hi.1, by omega⟩ (H.rowi hi) hN fun σ1 S1 => ?_
  refine wp_hPut g S1 hD hN ⟨by omega, by omega⟩ ⟨by omega, by omega⟩ (by omega) fun σ2 S2 => ?_
  refine wp_hPut g S2 hD hAu ⟨by omega, by omega⟩ ⟨by omega, by omega⟩ (by omega) fun σ3 S3 => ?_
  exact kk σ3 _ S3 (H.lay g hRA N hk hi hu) (HF.lay hi hu)
/-- keys are as they are told -/
abbrev KY (m : Int → Int) (ky : Int → Int × Int) (k : Int) (A : Int → Int) : Prop := ∀ y, Mem k A y → kyM m y = ky y
theorem HF.old (N : HN p k rw A) (h : HF k rw A m m') {y o : Int} (hy : Mem k A y) (o0 : 0 ≤ o) (o2 : o ≤ 2) : m' (y + o) = m (y + o) := by
  obtain ⟨i, i1, i2, rfl⟩ := hy
  have hn := N.an i i1 i2
  exact h _ (fun x ⟨j, j1, j2, e⟩ => by
    subst e
    by_cases e : A i = A j
    · rw [e]; omega
    · exact isN_ne hn (N.an j j1 j2) e ⟨o0, by omega⟩ ⟨by omega, by omega⟩) fun r c r0 r1 c0 c7 => isN_ne hn (N.rn r r0 r1) (N.ne r i r0 r1 i1 i2).symm ⟨o0, by omega⟩ ⟨c0, c7⟩
theorem KY.frame {ky : Int → Int × Int} (N : HN p k rw A) (K : KY m ky k A) (h : HF k rw A m m') : KY m' ky k A := fun y hy => by
  rw [← K y hy]
  have c0 := h.old N hy (o := 0) (by omega) (by omega)
  rw [Int.add_zero] at c0
  show (m' y, m' (y + 2)) = (m y, m (y + 2))
  rw [c0, h.old N hy (o := 2) (by omega) (by omega)]
theorem wp_hRise (g : p.good) (hRA : RA p root) (hD : PoolD D p) (hRD : RootD D root) (hk : k ≤ 32) {ky : Int → Int × Int} {q : Int × Bool → Prog α} (hS : SWO fun x y => klt (ky x) (ky y)) :
    ∀ (f : Nat) (i : Int) (A : Int → Int) (m : Int → Int) (c : Nat) (σ : Spc) (C : Prop), Sm D σ0 σ m c → HN p k rw A → HA m root k rw A i → KY m ky k A → RI (fun x y => klt (ky x) (ky y)) A k i C → 1 ≤ i → i ≤ k → i.toNat ≤ f → σ0.pu.length + c + 2 * f + 2 ≤ big →
    (∀ i' A' σ' m' (P : List Int), Sm D σ0 σ' m' (c + 2 * f + 2) → HN p k rw A' → HA m' root k rw A' 0 → HF k rw A m m' → KY m' ky k A' → A' i' = A i → 1 ≤ i' → i' ≤ i → (∀ y, Mem k A' y ↔ Mem k A y) → (i' = i → A' = A ∧ DI (fun x y => klt (ky x) (ky y)) A' k i') → (C ∨ i' ≠ i → HO (fun x y => klt (ky x) (ky y)) A' k) →
      (∀ j, j ∉ P → A' j = A j) → i ∈ P → P.length ≤ lv i + 1 → wp (q (i', false)) σ' Q) → wp (hRise p root (ky (A i)) (A i) f false i >>= q) σ Q
  | 0, i, A, m, c, σ, C, S, N, H, K, I, i1, ik, hf, hb, kk => by omega
  | f + 1, i, A, m, c, σ, C, S, N, H, K, I, i1, ik, hf, hb, kk => by
    -- the end
    have fin : ∀ σ, Sm D σ0 σ m c → (i = 1 ∨ klt (ky (A i)) (ky (A (i / 2))) = false) → wp (hLay p root false i (A i) >>= fun b => q (i, b)) σ Q := fun σ S he => by
      refine wp_hLay g hRA S hD hRD N H hk ⟨i1, ik⟩ ⟨i1, ik⟩ (by omega) fun σ1 m1 S1 H1 F1 => ?_
      have e : sw A i i = A := by funext q; unfold sw; split <;> simp_all
      rw [e, if_pos rfl] at H1
      obtain ⟨d, ho⟩ := I.fin he
      exact kk i A σ1 m1 [i] (S1.mono (by omega)) N H1 F1 (K.frame N F1) rfl i1 (Int.le_refl _) (fun _ => Iff.rfl) (fun _ => ⟨rfl, d⟩) (fun h => ho (h.resolve_right (by simp))) (fun _ _ => rfl) (List.mem_singleton.2 rfl) (by simp)
    unfold hRise
    by_cases h1 : 1 < i
    · rw [if_pos ⟨h1, rfl⟩, pb_assoc]
      refine wp_hItem g S hD hRD N H hk ⟨by omega, by omega⟩ (by omega) fun σ1 S1 => ?_
      have hu := N.an (i / 2) (by omega) (by omega)
      rw [pb_assoc]
      refine wp_hKey g S1 hD hu fun σ2 S2 => ?_
      dsimp only
      rw [K _ ⟨i / 2, by omega, by omega, rfl⟩]
      by_cases hl : klt (ky (A i)) (ky (A (i / 2))) = true
      · rw [if_pos hl, pb_assoc]
        refine wp_hLay g hRA S2 hD hRD N H hk ⟨i1, ik⟩ (u := i / 2) ⟨by omega, by omega⟩ (by omega) fun σ3 m3 S3 H3 F3 => ?_
        rw [if_neg (by omega)] at H3
        have hi2 : 1 ≤ i / 2 ∧ i / 2 ≤ k := ⟨by omega, by omega⟩
        have N3 := N.sw ⟨i1, ik⟩ hi2
        have K3 : KY m3 ky k (sw A i (i / 2)) := fun y hy => K.frame N F3 y ((Mem.sw ⟨i1, ik⟩ hi2).1 hy)
        have er : sw A i (i / 2) (i / 2) = A i := sw_r _ _ _
        have := wp_hRise g hRA hD hRD hk hS (q := q) f (i / 2) (sw A i (i / 2)) m3 (c + 2) σ3 True S3 N3 H3 K3 (I.step hS h1 ik hl) (by omega) (by omega) (by omega) (by omega)
          fun i' A' σ' m' P S' N' H' F' K' e' l1 l2 M' _ O' P' pi L' => ?_
        · rw [er] at this; exact this
        · refine kk i' A' σ' m' (i :: P) (S'.mono (by omega)) N' H' (F3.trans F' fun x hx => (Mem.sw ⟨i1, ik⟩ hi2).1 hx) K' (e'.trans er) l1 (by omega) (fun y => (M' y).trans (Mem.sw ⟨i1, ik⟩ hi2)) (fun e => by omega) (fun _ => O' (.inl trivial)) (fun j hj => ?_) (List.mem_cons_self ..) ?_
          · have h1 : j ≠ i := fun e => hj (e ▸ List.mem_cons_self ..)
            have h2 : j ∉ P := fun e => hj (List.mem_cons_of_mem _ e)
            rw [P' j h2, sw_o _ h1 fun e => h2 (e ▸ pi)]
          · have := lv_up (i := i) (by omega) (by omega)
            rw [List.length_cons]; omega
      · rw [if_neg hl, pb_assoc]
        exact fin σ2 S2 (.inr (by simpa using hl))
    · rw [if_neg (fun h => h1 h.1), pb_assoc]
      exact fin σ S (.inl (by omega))
/-- the lesser item below -/
theorem wp_hKid (g : p.good) (hD : PoolD D p) (hRD : RootD D root) (hk : k ≤ 32) {ky : Int → Int × Int} {q : Int × Int × Bool → Prog α} (hS : SWO fun x y => klt (ky x) (ky y)) (S : Sm D σ0 σ m c) (N : HN p k rw A) (H : HA m root k rw A i) (K : KY m ky k A) (i1 : 1 ≤ i) (i2 : 2 * i ≤ k)
    (kk : ∀ j σ', Sm D σ0 σ' m c → j / 2 = i → j ≤ k → (∀ y, 2 ≤ y → y ≤ k → y / 2 = i → klt (ky (A y)) (ky (A j)) = false) → wp (q (j, A j, false)) σ' Q) : wp (hKid p root false i k >>= q) σ Q := by
  unfold hKid
  rw [pb_assoc]
  refine wp_hItem g S hD hRD N H hk ⟨by omega, by omega⟩ (by omega) fun σ1 S1 => ?_
  dsimp only
  have hir := hS.irrefl
  by_cases h1 : 2 * i < k
  · rw [if_pos h1, pb_assoc]
    refine wp_hItem g S1 hD hRD N H hk ⟨by omega, by omega⟩ (by omega) fun σ2 S2 => ?_
    rw [pb_assoc]
    refine wp_hKey g S2 hD (N.an _ (by omega) (by omega)) fun σ3 S3 => ?_
    rw [pb_assoc]
    refine wp_hKey g S3 hD (N.an _ (by omega) (by omega)) fun σ4 S4 => ?_
    rw [K _ ⟨2 * i + 1, by omega, by omega, rfl⟩, K _ ⟨2 * i, by omega, by omega, rfl⟩]
    by_cases h2 : klt (ky (A (2 * i + 1))) (ky (A (2 * i))) = true
    · rw [if_pos h2]
      refine kk (2 * i + 1) σ4 S4 (by omega) (by omega) fun y y2 yk e => ?_
      by_cases e2 : y = 2 * i + 1
      · rw [e2]; exact hir _
      · rw [show y = 2 * i by omega]; exact swo_as hS h2
    · rw [if_neg h2]
      refine kk (2 * i) σ4 S4 (by omega) (by omega) fun y y2 yk e => ?_
      by_cases e2 : y = 2 * i
      · rw [e2]; exact hir _
      · rw [show y = 2 * i + 1 by omega]; simpa using h2
  · rw [if_neg h1]
    refine kk (2 * i) σ1 S1 (by omega) (by omega) fun y y2 yk e => ?_
    rw [show y = 2 * i by omega]; exact hir _
theorem wp_hSink (g : p.good) (hRA : RA p root) (hD : PoolD D p) (hRD : RootD D root) (hk : k ≤ 31) {ky : Int → Int × Int} {q : Bool → Prog α} (hS : SWO fun x y => klt (ky x) (ky y)) :
    ∀ (f : Nat) (i : Int) (A : Int → Int) (m : Int → Int) (c : Nat) (σ : Spc), Sm D σ0 σ m c → HN p k rw A → HA m root k rw A i → KY m ky k A → DI (fun x y => klt (ky x) (ky y)) A k i → 1 ≤ i → i ≤ k → (k - i).toNat ≤ f → σ0.pu.length + c + 2 * f + 2 ≤ big →
    (∀ A' σ' m' (P : List Int), Sm D σ0 σ' m' (c + 2 * f + 2) → HN p k rw A' → HA m' root k rw A' 0 → HF k rw A m m' → KY m' ky k A' → (∀ y, Mem k A' y ↔ Mem k A y) → HO (fun x y => klt (ky x) (ky y)) A' k →
      (∀ j, j ∉ P → A' j = A j) → i ∈ P → P.length + lv i ≤ 5 → wp (q false) σ' Q) → wp (hSink p root (ky (A i)) (A i) k f false i >>= q) σ Q := by
  intro f i A m c σ S N H K I i1 ik hf hb kk
  -- the end
  have fin : ∀ σ f, Sm D σ0 σ m c → (∀ A' σ' m' (P : List Int), Sm D σ0 σ' m' (c + 2 * f + 2) → HN p k rw A' → HA m' root k rw A' 0 → HF k rw A m m' → KY m' ky k A' → (∀ y, Mem k A' y ↔ Mem k A y) → HO (fun x y => klt (ky x) (ky y)) A' k →
      (∀ j, j ∉ P → A' j = A j) → i ∈ P → P.length + lv i ≤ 5 → wp (q false) σ' Q) → σ0.pu.length + c + 2 * f + 2 ≤ big → (∀ y, 2 ≤ y → y ≤ k → y / 2 = i → klt (ky (A y)) (ky (A i)) = false) → wp (hLay p root false i (A i) >>= q) σ Q := fun σ f S kk hb he => by
    refine wp_hLay g hRA S hD hRD N H (by omega) ⟨i1, ik⟩ ⟨i1, ik⟩ (by omega) fun σ1 m1 S1 H1 F1 => ?_
    have e : sw A i i = A := by funext q; unfold sw; split <;> simp_all
    rw [e, if_pos rfl] at H1
    have l4 := lv_4 (i := i) (by omega)
    exact kk A σ1 m1 [i] (S1.mono (by omega)) N H1 F1 (K.frame N F1) (fun _ => Iff.rfl) (I.fin he) (fun _ _ => rfl) (List.mem_singleton.2 rfl) (by rw [List.length_singleton]; omega)
  match f, hf, hb, kk with
  | 0, hf, hb, kk => unfold hSink; exact fin σ 0 S kk hb fun y y2 yk e => by omega
  | f + 1, hf, hb, kk =>
    unfold hSink
    by_cases h1 : 2 * i ≤ k
    · rw [if_pos ⟨h1, rfl⟩, pb_assoc]
      refine wp_hKid g hD hRD (by omega) hS S N H K i1 h1 fun j σ1 S1 ej jk hmin => ?_
      have hj : 1 ≤ j ∧ j ≤ k := ⟨by omega, jk⟩
      rw [pb_assoc]
      refine wp_hKey g S1 hD (N.an _ hj.1 hj.2) fun σ2 S2 => ?_
      dsimp only
      rw [K _ ⟨j, hj.1, hj.2, rfl⟩]
      by_cases hl : klt (ky (A j)) (ky (A i)) = true
      · rw [if_pos hl, pb_assoc]
        refine wp_hLay g hRA S2 hD hRD N H (by omega) ⟨i1, ik⟩ hj (by omega) fun σ3 m3 S3 H3 F3 => ?_
        rw [if_neg (by omega)] at H3
        have N3 := N.sw ⟨i1, ik⟩ hj
        have K3 : KY m3 ky k (sw A i j) := fun y hy => K.frame N F3 y ((Mem.sw ⟨i1, ik⟩ hj).1 hy)
        have er : sw A i j j = A i := sw_r _ _ _
        have := wp_hSink g hRA hD hRD hk hS (q := q) f j (sw A i j) m3 (c + 2) σ3 S3 N3 H3 K3 (I.step hS i1 ⟨ej, jk⟩ hl hmin) hj.1 jk (by omega) (by omega)
          fun A' σ' m' P S' N' H' F' K' M' O' P' pi L' => ?_
        · rw [er] at this; exact this
        · refine kk A' σ' m' (i :: P) (S'.mono (by omega)) N' H' (F3.trans F' fun x hx => (Mem.sw ⟨i1, ik⟩ hj).1 hx) K' (fun y => (M' y).trans (Mem.sw ⟨i1, ik⟩ hj)) O' (fun y hy => ?_) (List.mem_cons_self ..) ?_
          · have h1 : y ≠ i := fun e => hy (e ▸ List.mem_cons_self ..)
            have h2 : y ∉ P := fun e => hy (List.mem_cons_of_mem _ e)
            rw [P' y h2, sw_o _ h1 fun e => h2 (e ▸ pi)]
          · have := lv_dn (i := i) (j := j) (by omega) i1 (by omega)
            rw [List.length_cons]; omega
      · rw [if_neg hl]
        refine fin σ2 (f + 1) S2 kk hb fun y y2 yk e => ?_
        have h2 : klt (ky (A j)) (ky (A i)) = false := by simpa using hl
        exact hS.ntrans _ _ _ (hmin y y2 yk e) h2
    · rw [if_neg (fun h => h1 h.1)]
      exact fin σ (f + 1) S kk hb fun y y2 yk e => by omega
end
end Go.En
namespace Go.En
open Prog Spc Go.Sort

/-- a node handed out and not free -/
def Ot (p : Pl) (fr : List Int) (out x : Int) : Prop := (∃ i, 0 ≤ i ∧ i < out ∧ x = p.frm + 8 * i) ∧ x ∉ fr
/-- the nodes of a heap -/
def HOw (k : Int) (rw A : Int → Int) (x : Int) : Prop := Mem k A x ∨ ∃ r, 0 ≤ r ∧ 8 * r < k ∧ rw r = x
structure HP (p : Pl) (root : Int) (m : Int → Int) (k : Int) (rw A : Int → Int) (fr : List Int) (out : Int) : Prop where
  P : PoolR m p fr out
  N : HN p k rw A
  H : HA m root k rw A 0
  k0 : 0 ≤ k
  k32 : k ≤ 32
  sz : m (root + 0) = k
  hl : m (root + 7) = k + (k + 7) / 8
  z : ∀ r, 0 ≤ r → r < 4 → k ≤ 8 * r → m (root + (3 + r)) = 0
  ot : ∀ x, HOw k rw A x → Ot p fr out x
  o : HO (nlt m) A k
/-- nothing but the pool's and the heap's root and some nodes is turned -/
def Smf (p : Pl) (root : Int) (X : Int → Prop) (m m' : Int → Int) : Prop := ∀ b, (∀ i, 0 ≤ i → i ≤ 2 → b ≠ p.root + i) → (∀ i, 0 ≤ i → i ≤ 7 → b ≠ root + i) → (∀ x, X x → ∀ i, 0 ≤ i → i ≤ 7 → b ≠ x + i) → m' b = m b
section
variable {D : Int → Prop} {σ0 σ σ' : Spc} {m m' : Int → Int} {c c' : Nat} {α β : Type} {Q : α → Spc → Prop} {p : Pl} {root k i x hole : Int} {rw A : Int → Int} {b : Bool} {fr : List Int} {out : Int}
theorem HN.mem (N : HN p k rw A) {y : Int} (h : HOw k rw A y) : isN p y := by
  rcases h with ⟨i, i1, i2, rfl⟩ | ⟨r, r0, r1, rfl⟩
  · exact N.an i i1 i2
  · exact N.rn r r0 r1
theorem HA.ext (H : HA m root k rw A hole) (h1 : ∀ r, 0 ≤ r → 8 * r < k → m' (root + (3 + r)) = m (root + (3 + r))) (h2 : ∀ i, 1 ≤ i → i ≤ k → i ≠ hole → m' (rw ((i - 1) / 8) + (i - 1) % 8) = m (rw ((i - 1) / 8) + (i - 1) % 8)) (h3 : ∀ i, 1 ≤ i → i ≤ k → i ≠ hole → m' (A i + 3) = m (A i + 3)) : HA m' root k rw A hole :=
  ⟨fun r r0 r1 => (h1 r r0 r1).trans (H.row r r0 r1), fun i i1 i2 ih => (h2 i i1 i2 ih).trans (H.cel i i1 i2 ih), fun i i1 i2 ih => (h3 i i1 i2 ih).trans (H.pos i i1 i2 ih)⟩
theorem PoolR.upd {v a : Int} (P : PoolR m p fr out) (h0 : a ≠ p.root) (h1 : a ≠ p.root + 1) (h2 : a ≠ p.root + 2) (h : a ∉ fr) : PoolR (upd m a v) p fr out :=
  P.ext fun b hb => upd_ne _ _ fun e => by
    subst e
    rcases hb with h | h | h | h <;> contradiction
theorem PoolR.nofr (P : PoolR m p fr out) {a : Int} (h : ∀ x, En.isN p x → a ≠ x + 0) : a ∉ fr := fun ha => h a (P.isN ha) (Int.add_zero a).symm
theorem wp_hEnd0 {q : Int → Prog α} {mk' : Int} (k : wp (q 0) σ Q) : wp (hEnd mk' 0 false >>= q) σ Q := by
  unfold hEnd
  dsimp only
  rw [if_neg (by simp), if_neg (by simp)]
  exact k
theorem wp_hEndE {q : Int → Prog α} {e : Int} {m1 : Int → Int} (S0 : Sm D σ σ m 0) (S : Sm D σ σ' m1 c) (he : e ≠ 0) (k : ∀ σ2, Sm D σ σ2 m 0 → wp (q e) σ2 Q) : wp (hEnd σ.pu.length e b >>= q) σ' Q := by
  unfold hEnd
  have h1 : ¬ (b = true ∧ e = 0) := fun h => he h.2
  dsimp only
  rw [if_neg h1, if_pos he, pb_assoc]
  simp only [pb_pure]
  exact wp_back S S0.vw S0.rg k
theorem wp_hTake {q : Int × Int → Prog α} (hRA : RA p root) (S : Sm D σ0 σ m c) (P : PoolR m p fr out) (hD : PoolD D p) (hRD : RootD D root) (hl : σ0.pu.length + c + 3 ≤ big)
    (h1 : ∀ n fr' out' σ' m', Took p fr out n fr' out' → (∃ i, 0 ≤ i ∧ i < out' ∧ n = p.frm + 8 * i) → n ∉ fr' → Sm D σ0 σ' m' (c + 3) → PoolR m' p fr' out' → m' (root + 7) = w64 (m (root + 7) + 1) → (∀ a, a ≠ p.root → a ≠ p.root + 1 → a ≠ p.root + 2 → a ≠ root + 7 → m' a = m a) → wp (q (n, 0)) σ' Q)
    (h2 : ∀ σ', fr = [] → out = p.nodes → Sm D σ0 σ' m c → wp (q (0, 9)) σ' Q) : wp (hTake p root >>= q) σ Q := by
  have ra := hRA.a; have rb := hRA.b
  unfold hTake
  rw [pb_assoc]
  refine wp_took S P hD (by omega) (fun n fr' out' σ1 m1 T hn hnf S1 P1 hm => ?_) fun σ1 e1 e2 S1 => ?_
  · dsimp only
    rw [if_pos rfl, pb_assoc]
    refine wp_more S1 (hRD 7 (by omega) (by omega)) (by omega) fun σ2 S2 => ?_
    refine h1 n fr' out' σ2 _ T hn hnf S2 (P1.upd (by omega) (by omega) (by omega) (P1.nofr fun x hx => by have := isN_pos P.good hx; omega)) ?_ fun a a0 a1 a2 a7 => ?_
    · rw [upd_eq, hm _ (by omega) (by omega) (by omega)]
    · rw [upd_ne _ _ a7, hm a a0 a1 a2]
  · dsimp only
    rw [if_neg (by decide)]
    exact h2 σ1 e1 e2 S1
/-- one more item, laid behind the others and moved up -/
theorem wp_hPushT {q : Int × Int × Bool → Prog α} {pr v : Int} (g : p.good) (hRA : RA p root) (hD : PoolD D p) (hRD : RootD D root) (S : Sm D σ0 σ m c) (N : HN p (k + 1) rw A) (H : HA m root (k + 1) rw A (k + 1)) (ho : ∀ i, 2 ≤ i → i ≤ k → nlt m (A i) (A (i / 2)) = false) (k0 : 0 ≤ k) (k32 : k < 32)
    (sz : m (root + 0) = k) (po : m (root + 1) < 4611686018427387904) (hp : R64 pr) (hv : R64 v) (hl : σ0.pu.length + c + 80 ≤ big)
    (kk : ∀ A' σ' m' (P : List Int), Sm D σ0 σ' m' (c + 80) → HN p (k + 1) rw A' → HA m' root (k + 1) rw A' 0 → (∀ y, Mem (k + 1) A' y ↔ Mem (k + 1) A y) → HO (nlt m') A' (k + 1) → m' (A (k + 1) + 0) = pr → m' (A (k + 1) + 1) = v → m' (A (k + 1) + 2) = m (root + 1) → m' (root + 1) = m (root + 1) + 1 → m' (root + 0) = k + 1 →
      (∀ y, Mem k A y → ∀ o, 0 ≤ o → o ≤ 2 → m' (y + o) = m (y + o)) → (∀ b, b ≠ root + 0 → b ≠ root + 1 → (∀ y, HOw (k + 1) rw A y → ∀ i, 0 ≤ i → i ≤ 7 → b ≠ y + i) → m' b = m b) → P.length ≤ 6 → (∀ j, j ∉ P → A' j = A j) → k + 1 ∈ P → wp (q (A (k + 1), 0, false)) σ' Q) :
    wp (hPushT p root (A (k + 1)) k pr v >>= q) σ Q := by
  have ra := hRA.a; have rb := hRA.b
  have hx := N.an (k + 1) (by omega) (by omega)
  have px := isN_pos g hx
  have hpo := S.rg (root + 1)
  have hAx : ∀ j, 1 ≤ j → j ≤ k → A j ≠ A (k + 1) := fun j j1 jk e => by have := N.ai j (k + 1) j1 (by omega) (by omega) (by omega) e; omega
  unfold hPushT
  rw [pb_assoc]
  refine wp_hPut g S hD hx ⟨by omega, by omega⟩ hp (by omega) fun σ1 S1 => ?_
  rw [pb_assoc]
  refine wp_hPut g S1 hD hx ⟨by omega, by omega⟩ hv (by omega) fun σ2 S2 => ?_
  rw [pb_assoc]
  refine wp_get S2 (hRD 1 (by omega) (by omega)) fun σ3 S3 => ?_
  rw [pb_assoc]
  have e1 : upd (upd m (A (k + 1) + 0) pr) (A (k + 1) + 1) v (root + 1) = m (root + 1) := by rw [upd_ne _ _ (by omega), upd_ne _ _ (by omega)]
  rw [e1]
  refine wp_hPut g S3 hD hx ⟨by omega, by omega⟩ hpo (by omega) fun σ4 S4 => ?_
  rw [pb_assoc]
  refine wp_more S4 (hRD 1 (by omega) (by omega)) (by omega) fun σ5 S5 => ?_
  rw [upd_ne _ _ (show root + 1 ≠ A (k + 1) + 2 by omega), e1, w64_R ⟨by omega, by omega⟩] at S5
  rw [pb_assoc]
  refine wp_more S5 (hRD 0 (by omega) (by omega)) (by omega) fun σ6 S6 => ?_
  rw [upd_ne _ _ (show root + 0 ≠ root + 1 by omega), upd_ne _ _ (show root + 0 ≠ A (k + 1) + 2 by omega), upd_ne _ _ (show root + 0 ≠ A (k + 1) + 1 by omega), upd_ne _ _ (show root + 0 ≠ A (k + 1) + 0 by omega), sz, w64_R ⟨by omega, by omega⟩] at S6
  have hm : ∀ b, b ≠ A (k + 1) + 0 → b ≠ A (k + 1) + 1 → b ≠ A (k + 1) + 2 → b ≠ root + 1 → b ≠ root + 0 → upd (upd (upd (upd (upd m (A (k + 1) + 0) pr) (A (k + 1) + 1) v) (A (k + 1) + 2) (m (root + 1))) (root + 1) (m (root + 1) + 1)) (root + 0) (k + 1) b = m b := fun b b0 b1 b2 b3 b4 => by
    rw [upd_ne _ _ b4, upd_ne _ _ b3, upd_ne _ _ b2, upd_ne _ _ b1, upd_ne _ _ b0]
  have hx0 : upd (upd (upd (upd (upd m (A (k + 1) + 0) pr) (A (k + 1) + 1) v) (A (k + 1) + 2) (m (root + 1))) (root + 1) (m (root + 1) + 1)) (root + 0) (k + 1) (A (k + 1) + 0) = pr := by
    rw [upd_ne _ _ (by omega), upd_ne _ _ (by omega), upd_ne _ _ (by omega), upd_ne _ _ (by omega), upd_eq]
  have hx1 : upd (upd (upd (upd (upd m (A (k + 1) + 0) pr) (A (k + 1) + 1) v) (A (k + 1) + 2) (m (root + 1))) (root + 1) (m (root + 1) + 1)) (root + 0) (k + 1) (A (k + 1) + 1) = v := by
    rw [upd_ne _ _ (by omega), upd_ne _ _ (by omega), upd_ne _ _ (by omega), upd_eq]
  have hx2 : upd (upd (upd (upd (upd m (A (k + 1) + 0) pr) (A (k + 1) + 1) v) (A (k + 1) + 2) (m (root + 1))) (root + 1) (m (root + 1) + 1)) (root + 0) (k + 1) (A (k + 1) + 2) = m (root + 1) := by
    rw [upd_ne _ _ (by omega), upd_ne _ _ (by omega), upd_eq]
  have hr1 : upd (upd (upd (upd (upd m (A (k + 1) + 0) pr) (A (k + 1) + 1) v) (A (k + 1) + 2) (m (root + 1))) (root + 1) (m (root + 1) + 1)) (root + 0) (k + 1) (root + 1) = m (root + 1) + 1 := by
    rw [upd_ne _ _ (by omega), upd_eq]
  have hr0 : upd (upd (upd (upd (upd m (A (k + 1) + 0) pr) (A (k + 1) + 1) v) (A (k + 1) + 2) (m (root + 1))) (root + 1) (m (root + 1) + 1)) (root + 0) (k + 1) (root + 0) = k + 1 := upd_eq _ _ _
  generalize upd (upd (upd (upd (upd m (A (k + 1) + 0) pr) (A (k + 1) + 1) v) (A (k + 1) + 2) (m (root + 1))) (root + 1) (m (root + 1) + 1)) (root + 0) (k + 1) = m6 at *
  have off : ∀ j, 1 ≤ j → j ≤ k → ∀ o, 0 ≤ o → o ≤ 7 → m6 (A j + o) = m (A j + o) := fun j j1 jk o o0 o7 => by
    have hj := N.an j j1 (by omega)
    have hne := hAx j j1 jk
    have pj := isN_pos g hj
    exact hm _ (isN_ne hj hx hne ⟨o0, o7⟩ ⟨by omega, by omega⟩) (isN_ne hj hx hne ⟨o0, o7⟩ ⟨by omega, by omega⟩) (isN_ne hj hx hne ⟨o0, o7⟩ ⟨by omega, by omega⟩) (by omega) (by omega)
  have H6 : HA m6 root (k + 1) rw A (k + 1) := by
    refine H.ext (fun r r0 r1 => hm _ (by omega) (by omega) (by omega) (by omega) (by omega)) (fun i i1 ik ih => ?_) fun i i1 ik ih => off i i1 (by omega) 3 (by omega) (by omega)
    have hc : ∀ o, 0 ≤ o ∧ o ≤ 7 → rw ((i - 1) / 8) + (i - 1) % 8 ≠ A (k + 1) + o := fun o => N.cell_pos ⟨i1, ik⟩ ⟨by omega, by omega⟩
    have pr := isN_pos g (N.rni ⟨i1, ik⟩)
    exact hm _ (hc 0 (by omega)) (hc 1 (by omega)) (hc 2 (by omega)) (by omega) (by omega)
  have hky : ∀ j, 1 ≤ j → j ≤ k → kyM m6 (A j) = kyM m (A j) := fun j j1 jk => by
    have c0 := off j j1 jk 0 (by omega) (by omega)
    rw [Int.add_zero] at c0
    show (m6 (A j), m6 (A j + 2)) = (m (A j), m (A j + 2))
    rw [c0, off j j1 jk 2 (by omega) (by omega)]
  have hI : RI (fun x y => klt (kyM m6 x) (kyM m6 y)) A (k + 1) (k + 1) True := by
    refine ⟨fun i i2 ik n1 n2 => ?_, fun _ i i2 ik e => by omega, fun _ i i2 ik e => by omega⟩
    rw [hky i (by omega) (by omega), hky (i / 2) (by omega) (by omega)]
    exact ho i i2 (by omega)
  rw [pb_assoc]
  unfold hRiseS
  rw [pb_assoc]
  refine wp_hKey g S6 hD hx fun σ7 S7 => ?_
  refine wp_hRise g hRA hD hRD (by omega) (nlt_swo m6) (k + 1).toNat (k + 1) A m6 _ σ7 True S7 N H6 (fun _ _ => rfl) hI (by omega) (Int.le_refl _) (Nat.le_refl _) (by omega) fun i' A' σ' m' P S' N' H' F' K' e' l1 l2 M' _ O' P' pi L' => ?_
  have hold := fun y hy o o0 o2 => F'.old N (y := y) (o := o) hy o0 o2
  have hxm : Mem (k + 1) A (A (k + 1)) := ⟨k + 1, by omega, by omega, rfl⟩
  have l5 := lv_5 (i := k + 1)
  refine kk A' σ' m' P (S'.mono (by omega)) N' H' M' ?_ ?_ ?_ ?_ ?_ ?_ ?_ ?_ (by omega) P' pi
  · intro i i2 ik
    have := O' (.inl trivial) i i2 ik
    show klt (kyM m' _) (kyM m' _) = false
    rw [K' _ ⟨i, by omega, ik, rfl⟩, K' _ ⟨i / 2, by omega, by omega, rfl⟩]
    exact this
  · rw [hold _ hxm 0 (by omega) (by omega)]; exact hx0
  · rw [hold _ hxm 1 (by omega) (by omega)]; exact hx1
  · rw [hold _ hxm 2 (by omega) (by omega)]; exact hx2
  · rw [F' _ (fun y ⟨j, j1, jk, e⟩ => by have := isN_pos g (N.an j j1 jk); omega) fun r c r0 r1 c0 c7 => by have := isN_pos g (N.rn r r0 r1); omega]; exact hr1
  · rw [F' _ (fun y ⟨j, j1, jk, e⟩ => by have := isN_pos g (N.an j j1 jk); omega) fun r c r0 r1 c0 c7 => by have := isN_pos g (N.rn r r0 r1); omega]; exact hr0
  · rintro y ⟨j, j1, jk, rfl⟩ o o0 o2
    rw [hold _ ⟨j, j1, by omega, rfl⟩ o o0 o2]; exact off j j1 jk o o0 (by omega)
  · intro b b0 b1 hb
    rw [F' _ (fun y hy => hb y (.inl hy) 3 (by omega) (by omega)) fun r c r0 r1 c0 c7 => hb _ (.inr ⟨r, r0, r1, rfl⟩) c c0 c7]
    have hbx := hb _ (.inl hxm)
    exact hm b (hbx 0 (by omega) (by omega)) (hbx 1 (by omega) (by omega)) (hbx 2 (by omega) (by omega)) b1 b0
end
end Go.En
namespace Go.En
open Prog Spc Go.Sort

theorem hsz {p : Pl} {k : Int} (g : p.good) (h : isN p k) : R64 k := by have := isN_pos g h; exact ⟨by omega, by omega⟩
/-- how many rows more k items need -/
abbrev dR (k : Int) : Int := if k % 8 = 0 then 1 else 0
section
variable {D : Int → Prop} {σ0 σ σ' : Spc} {m m' : Int → Int} {c c' : Nat} {α β : Type} {Q : α → Spc → Prop} {p : Pl} {root k i x hole : Int} {rw A : Int → Int} {b : Bool} {fr : List Int} {out : Int}
/-- what a push comes to -/
structure PushD (p : Pl) (root : Int) (m m' : Int → Int) (k : Int) (rw A rw' A' : Int → Int) (fr fr' : List Int) (out out' x pr v : Int) : Prop where
  nw : ¬ Mem k A x
  mem : ∀ y, Mem (k + 1) A' y ↔ y = x ∨ Mem k A y
  x0 : m' (x + 0) = pr
  x1 : m' (x + 1) = v
  x2 : m' (x + 2) = m (root + 1)
  pu : m' (root + 1) = m (root + 1) + 1
  old : ∀ y, Mem k A y → ∀ o, 0 ≤ o → o ≤ 2 → m' (y + o) = m (y + o)
  sm : Smf p root (HOw (k + 1) rw' A') m m'
  keep : ∀ y, Ot p fr out y → ¬ HOw k rw A y → Ot p fr' out' y ∧ ¬ HOw (k + 1) rw' A' y
  cnt : (fr'.length : Int) - out' + (1 + dR k) = fr.length - out
  pos : ∃ P : List Int, P.length ≤ 6 ∧ k + 1 ∈ P ∧ ∀ j, j ∉ P → 1 ≤ j → j ≤ k → A' j = A j
theorem Took.ot {n : Int} {fr' : List Int} {out' y : Int} (T : Took p fr out n fr' out') (P : PoolR m p fr out) (H : Ot p fr out y) : n ≠ y ∧ Ot p fr' out' y := by
  obtain ⟨h1, h2, _⟩ := T.held (l := [y]) P fun x hx => by rw [List.mem_singleton] at hx; subst hx; exact H
  exact ⟨fun e => h1 (List.mem_singleton.2 e), h2 y (List.mem_singleton.2 rfl)⟩
theorem Took.len {n : Int} {fr' : List Int} {out' : Int} (T : Took p fr out n fr' out') (P : PoolR m p fr out) : (fr'.length : Int) - out' + 1 = fr.length - out := (T.held (l := []) P fun _ h => by cases h).2.2.2
theorem Ot.isN {y : Int} (P : PoolR m p fr out) (H : Ot p fr out y) : isN p y := let ⟨⟨i, i0, i1, e⟩, _⟩ := H; ⟨i, i0, by have := P.out1; omega, e⟩
set_option maxHeartbeats 1600000 in
theorem wp_hPush {pr v : Int} (hRA : RA p root) (hD : PoolD D p) (hRD : RootD D root) (S : Sm D σ σ m 0) (H : HP p root m k rw A fr out) (hpr : R64 pr) (hv : R64 v) (hl : σ.pu.length + 200 ≤ big) :
    wp (hPush p root pr v) σ fun e σ' => (∃ x rw' A' fr' out' m', e = (x, 0) ∧ k < 32 ∧ out' ≤ p.nodes ∧ Sm D σ σ' m' 200 ∧ HP p root m' (k + 1) rw' A' fr' out' ∧ PushD p root m m' k rw A rw' A' fr fr' out out' x pr v) ∨
      (e = (0, 9) ∧ Sm D σ σ' m 200 ∧ (k = 32 ∨ 4611686018427387904 ≤ m (root + 1) ∨ (fr.length : Int) - out + p.nodes < 1 + dR k)) := by
  have ra := hRA.a; have rb := hRA.b
  have g := H.P.good
  have k0 := H.k0; have k32 := H.k32
  unfold hPush
  refine wp_mark ?_
  -- an error
  have err : ∀ (e : Int) (b : Bool) (σ1 : Spc) (m1 : Int → Int) (c1 : Nat), Sm D σ σ1 m1 c1 → e = 9 → (k = 32 ∨ 4611686018427387904 ≤ m (root + 1) ∨ (fr.length : Int) - out + p.nodes < 1 + dR k) →
      wp (hEnd σ.pu.length e b >>= fun e => (pure (if e ≠ 0 then 0 else 0, e) : Prog (Int × Int))) σ1 fun e σ' => (∃ x rw' A' fr' out' m', e = (x, 0) ∧ k < 32 ∧ out' ≤ p.nodes ∧ Sm D σ σ' m' 200 ∧ HP p root m' (k + 1) rw' A' fr' out' ∧ PushD p root m m' k rw A rw' A' fr fr' out out' x pr v) ∨
      (e = (0, 9) ∧ Sm D σ σ' m 200 ∧ (k = 32 ∨ 4611686018427387904 ≤ m (root + 1) ∨ (fr.length : Int) - out + p.nodes < 1 + dR k)) := fun e b σ1 m1 c1 S1 he hw => by
    subst he
    refine wp_hEndE S S1 (by decide) fun σ2 S2 => ?_
    exact .inr ⟨rfl, S2.mono (by omega), hw⟩
  unfold hPushB
  rw [pb_assoc]
  refine wp_get S (hRD 0 (by omega) (by omega)) fun σ1 S1 => ?_
  rw [H.sz]
  by_cases hk : k = 32
  · rw [if_pos hk]
    exact err 9 false σ1 _ _ S1 rfl (.inl hk)
  rw [if_neg hk, if_neg (by omega), pb_assoc]
  refine wp_get S1 (hRD 1 (by omega) (by omega)) fun σ2 S2 => ?_
  by_cases hpo : 4611686018427387904 ≤ m (root + 1)
  · rw [if_pos hpo]
    exact err 9 false σ2 _ _ S2 rfl (.inr (.inl hpo))
  rw [if_neg hpo, pb_assoc]
  have hk1 : k < 32 := by omega
  have hl1 := H.hl
  -- the rest, behind the allocations
  have tail : ∀ (x : Int) (rw' : Int → Int) (fr' : List Int) (out' : Int) (σ1 : Spc) (m1 : Int → Int) (c1 : Nat), c1 ≤ 20 → Sm D σ σ1 m1 c1 → PoolR m1 p fr' out' → (∀ a, (∀ i, 0 ≤ i → i ≤ 2 → a ≠ p.root + i) → (∀ i, 0 ≤ i → i ≤ 7 → a ≠ root + i) → m1 a = m a) →
      (∀ r, 0 ≤ r → 8 * r < k + 1 → m1 (root + (3 + r)) = rw' r) → (∀ r, 0 ≤ r → r < 4 → k + 1 ≤ 8 * r → m1 (root + (3 + r)) = 0) → m1 (root + 0) = k → m1 (root + 1) = m (root + 1) → m1 (root + 7) = (k + 1) + (k + 1 + 7) / 8 → (∀ r, 0 ≤ r → 8 * r < k → rw' r = rw r) →
      Ot p fr' out' x → ¬ HOw k rw A x → (∀ r, 0 ≤ r → 8 * r < k + 1 → ¬ 8 * r < k → Ot p fr' out' (rw' r) ∧ ¬ HOw k rw A (rw' r) ∧ rw' r ≠ x) → (∀ y, Ot p fr out y → Ot p fr' out' y ∧ y ≠ x ∧ ∀ r, 0 ≤ r → 8 * r < k + 1 → ¬ 8 * r < k → rw' r ≠ y) → (fr'.length : Int) - out' + (1 + dR k) = fr.length - out →
      wp (hPushT p root x k pr v >>= fun r => hEnd σ.pu.length r.2.1 r.2.2 >>= fun e => (pure (if e ≠ 0 then 0 else r.1, e) : Prog (Int × Int))) σ1 fun e σ' => (∃ x rw' A' fr' out' m', e = (x, 0) ∧ k < 32 ∧ out' ≤ p.nodes ∧ Sm D σ σ' m' 200 ∧ HP p root m' (k + 1) rw' A' fr' out' ∧ PushD p root m m' k rw A rw' A' fr fr' out out' x pr v) ∨
      (e = (0, 9) ∧ Sm D σ σ' m 200 ∧ (k = 32 ∨ 4611686018427387904 ≤ m (root + 1) ∨ (fr.length : Int) - out + p.nodes < 1 + dR k)) := by
    intro x rw' fr' out' σ1 m1 c1 hc S1 P1 hm1 hrow hz hsz hpu hhl hrw hx hxn hrn hkeep hcnt
    obtain ⟨A1, hA1, hA2⟩ : ∃ A1 : Int → Int, A1 (k + 1) = x ∧ ∀ j, j ≠ k + 1 → A1 j = A j := ⟨fun q => if q = k + 1 then x else A q, by simp, fun j hj => by simp [hj]⟩
    have hrow' : ∀ r, 0 ≤ r → 8 * r < k + 1 → Ot p fr' out' (rw' r) := fun r r0 r1 => by
      by_cases h : 8 * r < k
      · rw [hrw r r0 h]; exact (hkeep _ (H.ot _ (.inr ⟨r, r0, h, rfl⟩))).1
      · exact (hrn r r0 r1 h).1
    have hAo : ∀ j, 1 ≤ j → j ≤ k → Ot p fr' out' (A j) := fun j j1 jk => (hkeep _ (H.ot _ (.inl ⟨j, j1, jk, rfl⟩))).1
    have N1 : HN p (k + 1) rw' A1 := by
      refine ⟨fun i i1 ik => ?_, fun r r0 r1 => (hrow' r r0 r1).isN P1, fun r i r0 r1 i1 ik => ?_, fun r s r0 r1 s0 s1 e => ?_, fun i j i1 ik j1 jk e => ?_⟩
      · by_cases e : i = k + 1
        · rw [e, hA1]; exact hx.isN P1
        · rw [hA2 i e]; exact H.N.an i i1 (by omega)
      · by_cases e : i = k + 1
        · rw [e, hA1]
          by_cases h : 8 * r < k
          · rw [hrw r r0 h]; exact fun e => hxn (.inr ⟨r, r0, h, e⟩)
          · exact (hrn r r0 r1 h).2.2
        · rw [hA2 i e]
          by_cases h : 8 * r < k
          · rw [hrw r r0 h]; exact H.N.ne r i r0 h i1 (by omega)
          · exact fun e2 => (hrn r r0 r1 h).2.1 (.inl ⟨i, i1, by omega, e2.symm⟩)
      · by_cases h : 8 * r < k <;> by_cases h' : 8 * s < k
        · rw [hrw r r0 h, hrw s s0 h'] at e; exact H.N.ri r s r0 h s0 h' e
        · exact absurd (.inr ⟨r, r0, h, by rw [← hrw r r0 h]; exact e⟩) (hrn s s0 s1 h').2.1
        · exact absurd (.inr ⟨s, s0, h', by rw [← hrw s s0 h']; exact e.symm⟩) (hrn r r0 r1 h).2.1
        · omega
      · by_cases h : i = k + 1 <;> by_cases h' : j = k + 1
        · omega
        · rw [h, hA1, hA2 j h'] at e; exact absurd (.inl ⟨j, j1, by omega, e.symm⟩) hxn
        · rw [h', hA1, hA2 i h] at e; exact absurd (.inl ⟨i, i1, by omega, e⟩) hxn
        · rw [hA2 i h, hA2 j h'] at e; exact H.N.ai i j i1 (by omega) j1 (by omega) e
    have hnode : ∀ y, isN p y → ∀ o, 0 ≤ o → o ≤ 7 → m1 (y + o) = m (y + o) := fun y hy o o0 o7 => by
      have := isN_pos g hy
      exact hm1 _ (fun i _ _ => by omega) fun i _ _ => by omega
    have H1 : HA m1 root (k + 1) rw' A1 (k + 1) := by
      refine ⟨hrow, fun i i1 ik ih => ?_, fun i i1 ik ih => ?_⟩
      · rw [hA2 i ih, hrw _ (by omega) (by omega), hnode _ (H.N.rni ⟨i1, by omega⟩) _ (by omega) (by omega)]
        exact H.H.cel i i1 (by omega) (by omega)
      · rw [hA2 i ih, hnode _ (H.N.an i i1 (by omega)) _ (by omega) (by omega)]
        exact H.H.pos i i1 (by omega) (by omega)
    have hky : ∀ j, 1 ≤ j → j ≤ k → kyM m1 (A1 j) = kyM m (A j) := fun j j1 jk => by
      have hj := H.N.an j j1 jk
      have c0 := hnode _ hj 0 (by omega) (by omega)
      rw [Int.add_zero] at c0
      rw [hA2 j (by omega)]
      show (m1 (A j), m1 (A j + 2)) = (m (A j), m (A j + 2))
      rw [c0, hnode _ hj 2 (by omega) (by omega)]
    have hlb : σ.pu.length + c1 + 80 ≤ big := by omega
    rw [← hA1]
    refine wp_hPushT g hRA hD hRD S1 N1 H1 (fun i i2 ik => ?_) k0 hk1 hsz (by rw [hpu]; omega) hpr hv hlb fun A' σ' m' P S' N' H' M' O' x0 x1 x2 pu' sz' old' fr' Pl P' pi => ?_
    · show klt (kyM m1 _) (kyM m1 _) = false
      rw [hky i (by omega) ik, hky (i / 2) (by omega) (by omega)]; exact H.o i i2 ik
    rw [hA1] at x0 x1 x2 ⊢
    refine wp_hEnd0 ?_
    have hmemA : ∀ y, Mem (k + 1) A1 y ↔ y = x ∨ Mem k A y := fun y => by
      constructor
      · rintro ⟨j, j1, jk, e⟩
        by_cases h : j = k + 1
        · rw [h, hA1] at e; exact .inl e.symm
        · rw [hA2 j h] at e; exact .inr ⟨j, j1, by omega, e⟩
      · rintro (rfl | ⟨j, j1, jk, e⟩)
        · exact ⟨k + 1, by omega, by omega, hA1⟩
        · exact ⟨j, j1, by omega, by rw [hA2 j (by omega)]; exact e⟩
    have hown : ∀ y, HOw (k + 1) rw' A1 y → Ot p _ out' y := fun y hy => by
      rcases hy with hy | ⟨r, r0, r1, rfl⟩
      · rcases (hmemA y).1 hy with rfl | ⟨j, j1, jk, rfl⟩
        · exact hx
        · exact hAo j j1 jk
      · exact hrow' r r0 r1
    have hown' : ∀ y, HOw (k + 1) rw' A' y → HOw (k + 1) rw' A1 y := fun y hy => hy.imp (M' y).1 id
    have hfar : ∀ b, (∀ i, 0 ≤ i → i ≤ 7 → b ≠ root + i ∨ 2 ≤ i) → (∀ y, isN p y → ∀ i, 0 ≤ i → i ≤ 7 → b ≠ y + i) → m' b = m1 b := fun b hb hn => fr' b (by have := hb 0 (by omega) (by omega); omega) (by have := hb 1 (by omega) (by omega); omega) fun y hy i i0 i7 => hn y ((hown y hy).isN P1) i i0 i7
    have hroot : ∀ o, 2 ≤ o → o ≤ 7 → m' (root + o) = m1 (root + o) := fun o o2 o7 => hfar _ (fun i i0 i7 => by omega) fun y hy i i0 i7 => by have := isN_pos g hy; omega
    have ho1 := P1.out1
    refine .inl ⟨x, rw', A', _, out', m', rfl, hk1, ho1, S'.mono (by omega), ⟨?_, N', H', by omega, by omega, sz', ?_, fun r r0 r4 rk => ?_, fun y hy => hown y (hown' y hy), O'⟩, ⟨fun h => hxn (.inl h), fun y => (M' y).trans (hmemA y), x0, x1, x2.trans hpu, by rw [pu', hpu], fun y ⟨j, j1, jk, e⟩ o o0 o2 => ?_, fun b b1 b2 b3 => ?_, fun y hy hn => ?_, hcnt, P, Pl, pi, fun j hj j1 jk => by rw [P' j hj, hA2 j (by omega)]⟩⟩
    · refine P1.ext fun a ha => fr' a ?_ ?_ fun y hy i i0 i7 => ?_
      · rcases ha with h | h | h | h
        · omega
        · omega
        · omega
        · have := isN_pos g (P1.isN h); omega
      · rcases ha with h | h | h | h
        · omega
        · omega
        · omega
        · have := isN_pos g (P1.isN h); omega
      · have hyo := hown y hy
        have hyN := isN_pos g (hyo.isN P1)
        rcases ha with h | h | h | h
        · omega
        · omega
        · omega
        · have hne : a ≠ y := fun e => hyo.2 (e ▸ h)
          have := isN_ne (P1.isN h) (hyo.isN P1) hne (o := 0) (o' := i) ⟨by omega, by omega⟩ ⟨i0, i7⟩
          omega
    · rw [hroot 7 (by omega) (by omega), hhl]
    · rw [hroot (3 + r) (by omega) (by omega)]; exact hz r r0 r4 rk
    · subst e
      rw [old' _ ⟨j, j1, jk, hA2 j (by omega)⟩ o o0 o2]
      exact hnode _ (H.N.an j j1 jk) o o0 (by omega)
    · rw [fr' b (b2 0 (by omega) (by omega)) (b2 1 (by omega) (by omega)) fun y hy i i0 i7 => b3 y (hy.imp (M' y).2 id) i i0 i7]
      exact hm1 b b1 b2
    · obtain ⟨h1, h2, h3⟩ := hkeep y hy
      refine ⟨h1, fun ho => ?_⟩
      rcases hown' y ho with h | ⟨r, r0, r1, e⟩
      · rcases (hmemA y).1 h with h | h
        · exact h2 h
        · exact hn (.inl h)
      · by_cases h : 8 * r < k
        · rw [hrw r r0 h] at e; exact hn (.inr ⟨r, r0, h, e⟩)
        · exact h3 r r0 r1 h e
  refine wp_hTake hRA S2 H.P hD hRD (by omega) (fun n fr1 out1 σ3 m3 T1 hn1 hnf1 S3 P3 h73 hm3 => ?_) fun σ3 e1 e2 S3 => ?_
  rotate_left
  · dsimp only
    rw [if_pos (by decide)]
    refine err 9 false σ3 _ _ S3 rfl (.inr (.inr ?_))
    rw [e1, List.length_nil]
    unfold dR; split <;> omega
  dsimp only
  rw [if_neg (by simp)]
  have T1o := fun y (hy : Ot p fr out y) => T1.ot H.P hy
  have hn1' : Ot p fr1 out1 n := ⟨hn1, hnf1⟩
  have hnN := hn1'.isN P3
  have h73 : m3 (root + 7) = k + (k + 7) / 8 + 1 := by rw [h73, hl1, w64_R ⟨by omega, by omega⟩]
  have hxn : ¬ HOw k rw A n := fun h => (T1o n (H.ot n h)).1 rfl
  have hm3' : ∀ a, (∀ i, 0 ≤ i → i ≤ 2 → a ≠ p.root + i) → a ≠ root + 7 → m3 a = m a := fun a h h7 => hm3 a (by have := h 0 (by omega) (by omega); omega) (h 1 (by omega) (by omega)) (h 2 (by omega) (by omega)) h7
  have l1 := T1.len H.P
  by_cases hd : k % 8 = 0
  · rw [if_pos hd, pb_assoc]
    refine wp_hTake hRA S3 P3 hD hRD (by omega) (fun w fr2 out2 σ4 m4 T2 hn2 hnf2 S4 P4 h74 hm4 => ?_) fun σ4 e1 e2 S4 => ?_
    rotate_left
    · dsimp only
      rw [if_pos (by decide)]
      refine err 9 false σ4 _ _ S4 rfl (.inr (.inr ?_))
      rw [e1, List.length_nil] at l1
      unfold dR; rw [if_pos hd]; omega
    dsimp only
    rw [if_neg (by simp), pb_assoc]
    have hw : Ot p fr2 out2 w := ⟨hn2, hnf2⟩
    have hwN := hw.isN P4
    have l2 := T2.len P3
    refine wp_put S4 (hRD _ (by omega) (by omega)) (hsz g hwN) (by omega) fun σ5 S5 => ?_
    have h74 : m4 (root + 7) = k + (k + 7) / 8 + 2 := by rw [h74, h73, w64_R ⟨by omega, by omega⟩]; omega
    have hm4' : ∀ a, (∀ i, 0 ≤ i → i ≤ 2 → a ≠ p.root + i) → a ≠ root + 7 → m4 a = m a := fun a h h7 => by
      rw [hm4 a (by have := h 0 (by omega) (by omega); omega) (h 1 (by omega) (by omega)) (h 2 (by omega) (by omega)) h7]; exact hm3' a h h7
    have er : ∀ i, 0 ≤ i → i ≤ 6 → m4 (root + i) = m (root + i) := fun i i0 i6 => hm4' _ (fun j _ _ => by omega) (by omega)
    have T2o := fun y (hy : Ot p fr1 out1 y) => T2.ot P3 hy
    refine tail n (fun r => if r = k / 8 then w else rw r) fr2 out2 σ5 _ _ (by omega) S5 (P4.upd (by omega) (by omega) (by omega) (P4.nofr fun x hx => by have := isN_pos g hx; omega)) (fun a h1 h2 => ?_) (fun r r0 r1 => ?_) (fun r r0 r4 rk => ?_) ?_ ?_ ?_ (fun r r0 r1 => ?_) (T2o n hn1').2 hxn (fun r r0 r1 h => ?_) (fun y hy => ?_) ?_
    · rw [upd_ne _ _ (h2 _ (by omega) (by omega))]; exact hm4' a h1 (h2 7 (by omega) (by omega))
    · by_cases e : r = k / 8
      · rw [e, upd_eq, if_pos rfl]
      · rw [upd_ne _ _ (by omega), if_neg e, er _ (by omega) (by omega)]; exact H.H.row r r0 (by omega)
    · rw [upd_ne _ _ (by omega), er _ (by omega) (by omega)]; exact H.z r r0 r4 (by omega)
    · rw [upd_ne _ _ (by omega), er _ (by omega) (by omega)]; exact H.sz
    · rw [upd_ne _ _ (by omega), er _ (by omega) (by omega)]
    · rw [upd_ne _ _ (by omega), h74]; omega
    · rw [if_neg (by omega)]
    · have e : r = k / 8 := by omega
      rw [if_pos e]
      exact ⟨hw, fun h => (T2o w (T1o w (H.ot w h)).2).1 rfl, (T2o n hn1').1⟩
    · have h1 := T1o y hy
      have h2 := T2o y h1.2
      refine ⟨h2.2, h1.1.symm, fun r r0 r1 h => ?_⟩
      have e : r = k / 8 := by omega
      rw [if_pos e]; exact h2.1
    · unfold dR; rw [if_pos hd]; omega
  · rw [if_neg hd]
    have er : ∀ i, 0 ≤ i → i ≤ 6 → m3 (root + i) = m (root + i) := fun i i0 i6 => hm3' _ (fun j _ _ => by omega) (by omega)
    refine tail n rw fr1 out1 σ3 m3 _ (by omega) S3 P3 (fun a h1 h2 => hm3' a h1 (h2 7 (by omega) (by omega))) (fun r r0 r1 => ?_) (fun r r0 r4 rk => ?_) ?_ (er 1 (by omega) (by omega)) ?_ (fun _ _ _ => rfl) hn1' hxn (fun r r0 r1 h => by omega) (fun y hy => ?_) ?_
    · rw [er _ (by omega) (by omega)]; exact H.H.row r r0 (by omega)
    · rw [er _ (by omega) (by omega)]; exact H.z r r0 r4 (by omega)
    · rw [er _ (by omega) (by omega)]; exact H.sz
    · rw [h73]; omega
    · have h1 := T1o y hy
      exact ⟨h1.2, h1.1.symm, fun r r0 r1 h => by omega⟩
    · unfold dR; rw [if_neg hd]; omega
end
end Go.En
namespace Go.En
open Prog Spc Go.Sort

section
variable {D : Int → Prop} {σ0 σ σ' : Spc} {m m' : Int → Int} {c c' : Nat} {α β : Type} {Q : α → Spc → Prop} {p : Pl} {root k i x hole : Int} {rw A : Int → Int} {b : Bool} {fr : List Int} {out : Int}
theorem HO.key {ky : Int → Int × Int} (O : HO (fun x y => klt (ky x) (ky y)) A k) (K : KY m ky k A) : HO (nlt m) A k := fun i i2 ik => by
  show klt (kyM m _) (kyM m _) = false
  rw [K _ ⟨i, by omega, ik, rfl⟩, K _ ⟨i / 2, by omega, by omega, rfl⟩]
  exact O i i2 ik
theorem HN.le {k' : Int} (N : HN p k rw A) (h : k' ≤ k) : HN p k' rw A := ⟨fun i i1 ik => N.an i i1 (by omega), fun r r0 r1 => N.rn r r0 (by omega), fun r i r0 r1 i1 ik => N.ne r i r0 (by omega) i1 (by omega), fun r s r0 r1 s0 s1 => N.ri r s r0 (by omega) s0 (by omega), fun i j i1 ik j1 jk => N.ai i j i1 (by omega) j1 (by omega)⟩
/-- the last item is moved to the place i -/
theorem wp_hMove {q : Bool → Prog α} (g : p.good) (hRA : RA p root) (hD : PoolD D p) (hRD : RootD D root) (S : Sm D σ0 σ m c) (N : HN p k rw A) (H : HA m root k rw A 0) (O : HO (nlt m) A k) (hk : k ≤ 32) (i1 : 1 ≤ i) (ik : i ≤ k) (hl : σ0.pu.length + c + 150 ≤ big)
    (kk : ∀ A' σ' m', Sm D σ0 σ' m' (c + 150) → HN p (k - 1) rw A' → HA m' root (k - 1) rw A' 0 → HF k rw A m m' → (∀ y, Mem (k - 1) A' y ↔ Mem k A y ∧ y ≠ A i) → HO (nlt m') A' (k - 1) → (i = 1 → ∃ P : List Int, P.length ≤ 5 ∧ 1 ∈ P ∧ ∀ j, j ∉ P → 1 ≤ j → j ≤ k - 1 → A' j = A j) → wp (q false) σ' Q) :
    wp (hMove p root false i (A k) k >>= q) σ Q := by
  unfold hMove
  by_cases e : i = k
  · subst e
    rw [if_neg (by simp)]
    refine kk A σ m (S.mono (by omega)) (N.le (by omega)) ⟨fun r r0 r1 => H.row r r0 (by omega), fun j j1 jk jh => H.cel j j1 (by omega) jh, fun j j1 jk jh => H.pos j j1 (by omega) jh⟩ .refl (fun y => ⟨fun ⟨j, j1, jk, e⟩ => ⟨⟨j, j1, by omega, e⟩, fun e2 => ?_⟩, fun ⟨⟨j, j1, jk, e⟩, hn⟩ => ⟨j, j1, ?_, e⟩⟩) (fun j j2 jk => O j j2 (by omega)) fun e => ⟨[1], by decide, List.mem_singleton.2 rfl, fun _ _ _ _ => rfl⟩
    · rw [e2] at e
      have := N.ai j i j1 (by omega) i1 ik e
      omega
    · have : j ≠ i := fun e2 => hn (by rw [← e, e2])
      omega
  rw [if_pos e, pb_assoc]
  obtain ⟨A1, hA1, hA2⟩ : ∃ A1 : Int → Int, A1 i = A k ∧ ∀ j, j ≠ i → A1 j = A j := ⟨fun q => if q = i then A k else A q, by simp, fun j hj => by simp [hj]⟩
  have hik : i < k := by omega
  have src : ∀ j, 1 ≤ j → j ≤ k - 1 → ∃ s, 1 ≤ s ∧ s ≤ k ∧ s ≠ i ∧ A1 j = A s ∧ (j = i → s = k) ∧ (j ≠ i → s = j) := fun j j1 jk => by
    by_cases h : j = i
    · exact ⟨k, by omega, by omega, by omega, by rw [h, hA1], fun _ => rfl, fun h' => absurd h h'⟩
    · exact ⟨j, j1, by omega, h, hA2 j h, fun h' => absurd h' h, fun _ => rfl⟩
  have N1 : HN p (k - 1) rw A1 := by
    refine ⟨fun j j1 jk => ?_, fun r r0 r1 => N.rn r r0 (by omega), fun r j r0 r1 j1 jk => ?_, fun r s r0 r1 s0 s1 => N.ri r s r0 (by omega) s0 (by omega), fun a b a1 ak b1 bk e => ?_⟩
    · obtain ⟨s, s1, sk, _, es, _⟩ := src j j1 jk
      rw [es]; exact N.an s s1 sk
    · obtain ⟨s, s1, sk, _, es, _⟩ := src j j1 jk
      rw [es]; exact N.ne r s r0 (by omega) s1 sk
    · obtain ⟨s, s1, sk, sn, es, s2, s3⟩ := src a a1 ak
      obtain ⟨t, t1, tk, tn, et, t2, t3⟩ := src b b1 bk
      rw [es, et] at e
      have := N.ai s t s1 sk t1 tk e
      by_cases ha : a = i <;> by_cases hb : b = i
      · omega
      · have := s2 ha; have := t3 hb; omega
      · have := s3 ha; have := t2 hb; omega
      · have := s3 ha; have := t3 hb; omega
  have H1 : HA m root (k - 1) rw A1 i := by
    refine ⟨fun r r0 r1 => H.row r r0 (by omega), fun j j1 jk jh => ?_, fun j j1 jk jh => ?_⟩
    · rw [hA2 j jh]; exact H.cel j j1 (by omega) (by omega)
    · rw [hA2 j jh]; exact H.pos j j1 (by omega) (by omega)
  have hm1 : ∀ y, Mem (k - 1) A1 y ↔ Mem k A y ∧ y ≠ A i := fun y => by
    constructor
    · rintro ⟨j, j1, jk, rfl⟩
      obtain ⟨s, s1, sk, sn, es, _⟩ := src j j1 jk
      exact ⟨⟨s, s1, sk, es.symm⟩, fun e2 => by rw [es] at e2; exact sn (N.ai s i s1 sk i1 ik e2)⟩
    · rintro ⟨⟨j, j1, jk, rfl⟩, hn⟩
      have hji : j ≠ i := fun e2 => hn (by rw [e2])
      by_cases h : j = k
      · exact ⟨i, i1, by omega, by rw [hA1, h]⟩
      · exact ⟨j, j1, by omega, hA2 j hji⟩
  have hI : RI (fun x y => klt (kyM m x) (kyM m y)) A1 (k - 1) i False := by
    refine ⟨fun j j2 jk n1 n2 => ?_, fun h1 j j2 jk e2 => ?_, fun h => h.elim⟩
    · rw [hA2 j n1, hA2 _ n2]; exact O j j2 (by omega)
    · rw [hA2 j (by omega), hA2 _ (by omega)]
      have h2 := O j j2 (by omega)
      rw [e2] at h2
      exact (nlt_swo m).ntrans _ _ _ h2 (O i (by omega) ik)
  have toF : ∀ {m2 m3 : Int → Int} {B : Int → Int}, (∀ y, Mem (k - 1) B y → Mem (k - 1) A1 y) → HF (k - 1) rw B m2 m3 → HF k rw A m2 m3 := fun hB h b b1 b2 => h b (fun y hy => b1 y ((hm1 y).1 (hB y hy)).1) fun r c r0 r1 => b2 r c r0 (by omega)
  have hy := N1.an i i1 (by omega)
  rw [← hA1]
  unfold hRiseS
  rw [pb_assoc]
  refine wp_hKey g S hD hy fun σ1 S1 => ?_
  refine wp_hRise g hRA hD hRD (by omega) (nlt_swo m) i.toNat i A1 m c σ1 False S1 N1 H1 (fun _ _ => rfl) hI i1 (by omega) (Nat.le_refl _) (by omega) fun i' A' σ' m' P S' N' H' F' K' e' l1 l2 M' D' O' P' pi L' => ?_
  dsimp only
  have F0 := toF (fun _ h => h) F'
  by_cases hi' : i' = i
  · rw [if_pos hi']
    obtain ⟨eA, d⟩ := D' hi'
    subst eA
    rw [hi'] at d
    unfold hSinkS
    rw [pb_assoc]
    refine wp_hKey g S' hD hy fun σ2 S2 => ?_
    rw [K' _ ⟨i, i1, by omega, rfl⟩]
    have H'' : HA m' root (k - 1) rw A' i := ⟨H'.row, fun j j1 jk _ => H'.cel j j1 jk (by omega), fun j j1 jk _ => H'.pos j j1 jk (by omega)⟩
    refine wp_hSink g hRA hD hRD (by omega) (nlt_swo m) (k - 1 - i).toNat i A' m' _ σ2 S2 N' H'' K' d i1 (by omega) (Nat.le_refl _) (by omega) fun A2 σ3 m3 P3 S3 N3 H3 F3 K3 M3 O3 P3' pi3 L3 => ?_
    refine kk A2 σ3 m3 (S3.mono (by omega)) N3 H3 (F0.trans (toF (fun _ h => h) F3) fun _ h => h) (fun y => (M3 y).trans (hm1 y)) (O3.key K3) fun e1 => ⟨P3, by omega, e1 ▸ pi3, fun j hj j1 jk => ?_⟩
    rw [P3' j hj, hA2 j fun e2 => hj (e2 ▸ pi3)]
  · rw [if_neg hi']
    refine kk A' σ' m' (S'.mono (by omega)) N' H' F0 (fun y => (M' y).trans (hm1 y)) ((O' (.inr hi')).key K') fun e1 => by omega
theorem wp_hGive {q : Int → Prog α} (hRA : RA p root) (S : Sm D σ0 σ m c) (P : PoolR m p fr out) (hD : PoolD D p) (hRD : RootD D root) (hl : σ0.pu.length + c + 4 ≤ big) (hx : Ot p fr out x)
    (h1 : ∀ σ' m', Sm D σ0 σ' m' (c + 4) → PoolR m' p (x :: fr) out → m' (root + 7) = w64 (m (root + 7) + -1) → (∀ a, a ≠ p.root → a ≠ p.root + 2 → a ≠ x → a ≠ root + 7 → m' a = m a) → wp (q 0) σ' Q) : wp (hGive p root x >>= q) σ Q := by
  have ra := hRA.a; have rb := hRA.b
  have g := P.good
  have hN := isN_pos g (hx.isN P)
  obtain ⟨⟨i, i0, i1, e⟩, hn⟩ := hx
  unfold hGive
  rw [pb_assoc]
  refine wp_give S P hD (by omega) e ⟨i0, i1⟩ hn fun σ1 m1 S1 P1 hm => ?_
  rw [if_pos rfl, pb_assoc]
  refine wp_more S1 (hRD 7 (by omega) (by omega)) (by omega) fun σ2 S2 => ?_
  refine h1 σ2 _ S2 (P1.upd (by omega) (by omega) (by omega) (P1.nofr fun x hx => by have := isN_pos g hx; omega)) ?_ fun a a0 a2 ax a7 => ?_
  · rw [upd_eq, hm _ (by omega) (by omega) (by omega)]
  · rw [upd_ne _ _ a7, hm a a0 a2 ax]
theorem dv8a {k : Int} (h : (k - 1) % 8 ≠ 0) : (k + 7) / 8 = (k - 1 + 7) / 8 := by omega
theorem dv8b {k : Int} (h : (k - 1) % 8 = 0) : (k + 7) / 8 = (k - 1 + 7) / 8 + 1 := by omega
/-- what a removal comes to -/
structure RemD (p : Pl) (root : Int) (m m' : Int → Int) (k i : Int) (rw A A' : Int → Int) (fr fr' : List Int) (out : Int) : Prop where
  mem : ∀ y, Mem (k - 1) A' y ↔ Mem k A y ∧ y ≠ A i
  old : ∀ y, Mem (k - 1) A' y → ∀ o, 0 ≤ o → o ≤ 2 → m' (y + o) = m (y + o)
  pu : m' (root + 1) = m (root + 1)
  sm : Smf p root (HOw k rw A) m m'
  keep : ∀ y, Ot p fr out y → ¬ HOw k rw A y → Ot p fr' out y ∧ ¬ HOw (k - 1) rw A' y
  cnt : (fr'.length : Int) = fr.length + (1 + dR (k - 1))
  pos : i = 1 → ∃ P : List Int, P.length ≤ 5 ∧ 1 ∈ P ∧ ∀ j, j ∉ P → 1 ≤ j → j ≤ k - 1 → A' j = A j
set_option maxHeartbeats 1600000 in
theorem wp_hRem {q : Int × Int × Int × Bool → Prog α} (hRA : RA p root) (hD : PoolD D p) (hRD : RootD D root) (S : Sm D σ0 σ m c) (H : HP p root m k rw A fr out) (i1 : 1 ≤ i) (ik : i ≤ k) (hl : σ0.pu.length + c + 180 ≤ big)
    (kk : ∀ A' fr' σ' m', Sm D σ0 σ' m' (c + 180) → HP p root m' (k - 1) rw A' fr' out → RemD p root m m' k i rw A A' fr fr' out → wp (q (m (A i + 0), m (A i + 1), 0, false)) σ' Q) :
    wp (hRem p root false i k >>= q) σ Q := by
  have ra := hRA.a; have rb := hRA.b
  have g := H.P.good
  have k0 := H.k0; have k32 := H.k32
  have N := H.N
  have hx := N.an i i1 ik
  have hr := N.rni (i := k) ⟨by omega, by omega⟩
  have px := isN_pos g hx
  have prw := isN_pos g hr
  unfold hRem
  rw [pb_assoc]
  refine wp_hItem g S hD hRD N H.H k32 ⟨i1, ik⟩ (by omega) fun σ1 S1 => ?_
  rw [pb_assoc]
  refine wp_hItem g S1 hD hRD N H.H k32 ⟨by omega, Int.le_refl _⟩ (by omega) fun σ2 S2 => ?_
  rw [pb_assoc]
  refine wp_hGet g S2 hD hx ⟨by omega, by omega⟩ fun σ3 S3 => ?_
  rw [pb_assoc]
  refine wp_hGet g S3 hD hx ⟨by omega, by omega⟩ fun σ4 S4 => ?_
  rw [pb_assoc]
  refine wp_hRow g S4 hRD ⟨by omega, k32⟩ (H.H.rowi ⟨by omega, Int.le_refl _⟩) hr fun σ5 S5 => ?_
  dsimp only
  rw [if_neg (by simp), pb_assoc]
  refine wp_more S5 (hRD 0 (by omega) (by omega)) (by omega) fun σ6 S6 => ?_
  rw [H.sz, show k + -1 = k - 1 by omega, w64_R ⟨by omega, by omega⟩] at S6
  have hu : ∀ y, isN p y → ∀ o, 0 ≤ o → o ≤ 7 → upd m (root + 0) (k - 1) (y + o) = m (y + o) := fun y hy o o0 o7 => by
    have := isN_pos g hy
    exact upd_ne _ _ (by omega)
  have hu2 : ∀ a, a ≠ root + 0 → upd m (root + 0) (k - 1) a = m a := fun a ha => upd_ne _ _ ha
  have hu3 : upd m (root + 0) (k - 1) (root + 0) = k - 1 := upd_eq _ _ _
  have P6 : PoolR (upd m (root + 0) (k - 1)) p fr out := H.P.upd (by omega) (by omega) (by omega) (H.P.nofr fun x hx => by have := isN_pos g hx; omega)
  generalize upd m (root + 0) (k - 1) = m6 at *
  have H6 : HA m6 root k rw A 0 := H.H.ext (fun r r0 r1 => hu2 _ (by omega)) (fun j j1 jk _ => hu _ (N.rni ⟨j1, jk⟩) _ (by omega) (by omega)) fun j j1 jk _ => hu _ (N.an j j1 jk) _ (by omega) (by omega)
  have O6 : HO (nlt m6) A k := HO.key H.o fun y ⟨j, j1, jk, e⟩ => by
    subst e
    have c0 := hu _ (N.an j j1 jk) 0 (by omega) (by omega)
    rw [Int.add_zero] at c0
    show (m6 (A j), m6 (A j + 2)) = (m (A j), m (A j + 2))
    rw [c0, hu _ (N.an j j1 jk) 2 (by omega) (by omega)]
  rw [pb_assoc]
  refine wp_hMove g hRA hD hRD S6 N H6 O6 k32 i1 ik (by omega) fun A' σ7 m7 S7 N7 H7 F7 M7 O7 pos7 => ?_
  have hot : ∀ y, HOw k rw A y → Ot p fr out y := H.ot
  -- what stood in nodes of others and in the roots
  have far7 : ∀ a, (∀ y, HOw k rw A y → ∀ i, 0 ≤ i → i ≤ 7 → a ≠ y + i) → m7 a = m6 a := fun a ha => F7 a (fun y hy => ha y (.inl hy) 3 (by omega) (by omega)) fun r c r0 r1 c0 c7 => ha _ (.inr ⟨r, r0, r1, rfl⟩) c c0 c7
  have root7 : ∀ o, 0 ≤ o → o ≤ 7 → m7 (root + o) = m6 (root + o) := fun o o0 o7 => far7 _ fun y hy i i0 i7 => by have := isN_pos g (N.mem hy); omega
  have pool7 : ∀ o, 0 ≤ o → o ≤ 2 → m7 (p.root + o) = m6 (p.root + o) := fun o o0 o7 => far7 _ fun y hy i i0 i7 => by have := isN_pos g (N.mem hy); omega
  have P7 : PoolR m7 p fr out := by
    refine P6.ext fun a ha => far7 a fun y hy i i0 i7 => ?_
    have hyo := hot y hy
    have hyN := isN_pos g (hyo.isN P6)
    rcases ha with h | h | h | h
    · omega
    · omega
    · omega
    · have hne : a ≠ y := fun e => hyo.2 (e ▸ h)
      have := isN_ne (P6.isN h) (hyo.isN P6) hne (o := 0) (o' := i) ⟨by omega, by omega⟩ ⟨i0, i7⟩
      omega
  have old7 : ∀ y, Mem k A y → ∀ o, 0 ≤ o → o ≤ 2 → m7 (y + o) = m (y + o) := fun y hy o o0 o2 => by
    rw [F7.old N hy o0 o2]; exact hu y (N.mem (.inl hy)) o o0 (by omega)
  have hxo := hot _ (.inl ⟨i, i1, ik, rfl⟩)
  have hro := hot _ (.inr ⟨(k - 1) / 8, by omega, by omega, rfl⟩)
  have hrx : rw ((k - 1) / 8) ≠ A i := N.ne _ _ (by omega) (by omega) i1 ik
  have hl7 : m7 (root + 7) = k + (k + 7) / 8 := by rw [root7 7 (by omega) (by omega), hu2 _ (by omega)]; exact H.hl
  have hsz7 : m7 (root + 0) = k - 1 := by rw [root7 0 (by omega) (by omega)]; exact hu3
  -- the end
  have tail : ∀ (fr1 : List Int) (σ8 : Spc) (m8 : Int → Int) (c8 : Nat), c8 ≤ c + 170 → Sm D σ0 σ8 m8 c8 → PoolR m8 p fr1 out → Ot p fr1 out (A i) → (∀ y, Ot p fr1 out y ↔ Ot p fr out y ∧ (dR (k - 1) = 1 → y ≠ rw ((k - 1) / 8))) → (fr1.length : Int) = fr.length + dR (k - 1) → m8 (root + 7) = k + (k + 7) / 8 - dR (k - 1) →
      (∀ a, a ≠ p.root → a ≠ p.root + 2 → (dR (k - 1) = 1 → a ≠ rw ((k - 1) / 8)) → a ≠ root + 7 → (dR (k - 1) = 1 → a ≠ root + (3 + (k - 1) / 8)) → m8 a = m7 a) → (dR (k - 1) = 1 → m8 (root + (3 + (k - 1) / 8)) = 0) →
      wp (hRemT p root (A i) (m (A i + 0)) (m (A i + 1)) false >>= q) σ8 Q := by
    intro fr1 σ8 m8 c8 hc8 S8 P8 hx8 hot8 hlen8 h78 hm8 hz8
    unfold hRemT
    rw [pb_assoc]
    refine wp_hGive hRA S8 P8 hD hRD (by omega) hx8 fun σ9 m9 S9 P9 h79 hm9 => ?_
    rw [if_neg (by simp), if_neg (by simp)]
    have dd : dR (k - 1) = 0 ∨ dR (k - 1) = 1 ∧ (k - 1) % 8 = 0 := by unfold dR; split <;> omega
    have dd2 : (k - 1) % 8 = 0 → dR (k - 1) = 1 := fun h => by unfold dR; rw [if_pos h]
    -- nodes that stay
    have stay : ∀ y, HOw (k - 1) rw A' y → HOw k rw A y ∧ y ≠ A i ∧ (dR (k - 1) = 1 → y ≠ rw ((k - 1) / 8)) := fun y hy => by
      rcases hy with hy | ⟨r, r0, r1, rfl⟩
      · obtain ⟨h1, h2⟩ := (M7 y).1 hy
        refine ⟨.inl h1, h2, fun _ e => ?_⟩
        obtain ⟨j, j1, jk, rfl⟩ := h1
        exact N.ne _ j (by omega) (by omega) j1 jk e.symm
      · exact ⟨.inr ⟨r, r0, by omega, rfl⟩, N.ne r i r0 (by omega) i1 ik, fun hd e => by have := N.ri r ((k - 1) / 8) r0 (by omega) (by omega) (by omega) e; omega⟩
    have m97 : ∀ y, HOw (k - 1) rw A' y → ∀ o, 0 ≤ o → o ≤ 7 → m9 (y + o) = m7 (y + o) := fun y hy o o0 o7 => by
      obtain ⟨h1, h2, h3⟩ := stay y hy
      have hyN := N.mem h1
      have py := isN_pos g hyN
      have n1 := isN_ne hyN hx h2 (o := o) (o' := 0) ⟨o0, o7⟩ ⟨by omega, by omega⟩
      have n2 : dR (k - 1) = 1 → y + o ≠ rw ((k - 1) / 8) := fun hd => by
        have := isN_ne hyN hr (h3 hd) (o := o) (o' := 0) ⟨o0, o7⟩ ⟨by omega, by omega⟩
        omega
      rw [hm9 _ (by omega) (by omega) (by omega) (by omega), hm8 _ (by omega) (by omega) n2 (by omega) fun _ => by omega]
    have r97 : ∀ o, 0 ≤ o → o ≤ 6 → (dR (k - 1) = 1 → o ≠ 3 + (k - 1) / 8) → m9 (root + o) = m7 (root + o) := fun o o0 o6 hn => by
      rw [hm9 _ (by omega) (by omega) (by omega) (by omega), hm8 _ (by omega) (by omega) (fun _ => by omega) (by omega) fun hd => by have := hn hd; omega]
    have ot9 : ∀ y, HOw (k - 1) rw A' y → Ot p (A i :: fr1) out y := fun y hy => by
      obtain ⟨h1, h2, h3⟩ := stay y hy
      obtain ⟨h4, h5⟩ := (hot8 y).2 ⟨hot y h1, h3⟩
      exact ⟨h4, fun hm => (List.mem_cons.1 hm).elim h2 h5⟩
    have H9 : HA m9 root (k - 1) rw A' 0 := H7.ext (fun r r0 r1 => r97 _ (by omega) (by omega) fun hd => by omega) (fun j j1 jk _ => m97 _ (.inr ⟨(j - 1) / 8, by omega, by omega, rfl⟩) _ (by omega) (by omega)) fun j j1 jk _ => m97 _ (.inl ⟨j, j1, jk, rfl⟩) _ (by omega) (by omega)
    refine kk A' (A i :: fr1) σ9 m9 (S9.mono (by omega)) ⟨P9, N7, H9, by omega, by omega, ?_, ?_, fun r r0 r4 rk => ?_, ot9, ?_⟩ ⟨M7, fun y hy o o0 o2 => ?_, ?_, fun a a1 a2 a3 => ?_, fun y hy hn => ⟨?_, fun h => hn (stay y h).1⟩, ?_, pos7⟩
    · rw [r97 0 (by omega) (by omega) fun _ => by omega]; exact hsz7
    · rw [h79, h78, w64_R ⟨by omega, by omega⟩]
      rcases dd with hd | ⟨hd, h0⟩
      · have h0 : (k - 1) % 8 ≠ 0 := fun h => by have := dd2 h; omega
        have e8 := dv8a h0
        rw [hd, e8]; omega
      · have e8 := dv8b h0
        rw [hd, e8]; omega
    · rcases dd with hd | ⟨hd, h0⟩
      · have : (k - 1) % 8 ≠ 0 := fun h => by have := dd2 h; omega
        rw [r97 _ (by omega) (by omega) fun h => by omega, root7 _ (by omega) (by omega), hu2 _ (by omega)]
        exact H.z r r0 r4 (by omega)
      · by_cases e : r = (k - 1) / 8
        · subst e
          rw [hm9 _ (by omega) (by omega) (by omega) (by omega)]
          exact hz8 hd
        · rw [r97 _ (by omega) (by omega) fun h => by omega, root7 _ (by omega) (by omega), hu2 _ (by omega)]
          exact H.z r r0 r4 (by omega)
    · exact HO.key O7 fun y hy => by
        have c0 := m97 y (.inl hy) 0 (by omega) (by omega)
        rw [Int.add_zero] at c0
        show (m9 y, m9 (y + 2)) = (m7 y, m7 (y + 2))
        rw [c0, m97 y (.inl hy) 2 (by omega) (by omega)]
    · rw [m97 y (.inl hy) o o0 (by omega)]; exact old7 y ((M7 y).1 hy).1 o o0 o2
    · rw [r97 1 (by omega) (by omega) fun _ => by omega, root7 1 (by omega) (by omega)]; exact hu2 _ (by omega)
    · have n0 := a1 0 (by omega) (by omega)
      have nx := a3 (A i) (.inl ⟨i, i1, ik, rfl⟩) 0 (by omega) (by omega)
      have nr := a3 (rw ((k - 1) / 8)) (.inr ⟨(k - 1) / 8, by omega, by omega, rfl⟩) 0 (by omega) (by omega)
      rw [hm9 a (by omega) (a1 2 (by omega) (by omega)) (by omega) (a2 7 (by omega) (by omega)), hm8 a (by omega) (a1 2 (by omega) (by omega)) (fun _ => by omega) (a2 7 (by omega) (by omega)) (fun _ => a2 _ (by omega) (by omega)), far7 a a3]
      exact hu2 a (a2 0 (by omega) (by omega))
    · obtain ⟨h4, h5⟩ := (hot8 y).2 ⟨hy, fun _ e => hn (.inr ⟨_, by omega, by omega, e.symm⟩)⟩
      exact ⟨h4, fun hm => (List.mem_cons.1 hm).elim (fun e => hn (.inl ⟨i, i1, ik, e.symm⟩)) h5⟩
    · rw [List.length_cons]; omega
  by_cases hd : (k - 1) % 8 = 0
  · have d1 : dR (k - 1) = 1 := by unfold dR; rw [if_pos hd]
    rw [if_pos hd, pb_assoc]
    refine wp_put S7 (hRD _ (by omega) (by omega)) ⟨by decide, by decide⟩ (by omega) fun σ8 S8 => ?_
    have P8 := P7.upd (a := root + (3 + (k - 1) / 8)) (v := 0) (by omega) (by omega) (by omega) (P7.nofr fun x hx => by have := isN_pos g hx; omega)
    have e7 : upd m7 (root + (3 + (k - 1) / 8)) 0 (root + 7) = m7 (root + 7) := upd_ne _ _ (by omega)
    rw [pb_assoc]
    refine wp_hGive hRA S8 P8 hD hRD (by omega) hro fun σ9 m9 S9 P9 h79 hm9 => ?_
    rw [if_neg (by simp)]
    refine tail (rw ((k - 1) / 8) :: fr) σ9 m9 _ (by omega) S9 P9 ⟨hxo.1, fun hm => ?_⟩ (fun y => ⟨fun h => ⟨⟨h.1, fun hm => h.2 (List.mem_cons_of_mem _ hm)⟩, fun _ e => h.2 (e ▸ List.mem_cons_self ..)⟩, fun h => ⟨h.1.1, fun hm => ?_⟩⟩) ?_ ?_ (fun a a0 a2 ar a7 a3 => ?_) fun _ => ?_
    · rcases List.mem_cons.1 hm with e | hm
      · exact hrx e.symm
      · exact hxo.2 hm
    · rcases List.mem_cons.1 hm with e | hm
      · exact h.2 d1 e
      · exact h.1.2 hm
    · rw [List.length_cons]; omega
    · rw [h79, e7, hl7, w64_R ⟨by omega, by omega⟩]; omega
    · rw [hm9 a a0 a2 (ar d1) a7, upd_ne _ _ (a3 d1)]
    · rw [hm9 _ (by omega) (by omega) (by omega) (by omega), upd_eq]
  · have d0 : dR (k - 1) = 0 := by unfold dR; rw [if_neg hd]
    rw [if_neg hd]
    exact tail fr σ7 m7 _ (by omega) S7 P7 hxo (fun y => ⟨fun h => ⟨h, fun h1 => by omega⟩, fun h => h.1⟩) (by omega) (by omega) (fun _ _ _ _ _ _ => rfl) fun h => by omega
end
end Go.En
namespace Go.En
open Prog Spc Go.Sort

/-- the items by place -/
def allA (A : Int → Int) (n : Nat) : List Int := (List.range n).map fun (j : Nat) => A ((j : Int) + 1)
section
variable {D : Int → Prop} {σ0 σ σ' : Spc} {m m' : Int → Int} {c c' : Nat} {α β : Type} {Q : α → Spc → Prop} {p : Pl} {root k i x hole : Int} {rw A : Int → Int} {b : Bool} {fr : List Int} {out : Int}
theorem HP.el {A' : Int → Int} {m' : Int → Int} (H : HP p root m k rw A fr out) (N' : HN p k rw A') (H' : HA m' root k rw A' 0) (M : ∀ y, Mem k A' y ↔ Mem k A y) (O' : HO (nlt m') A' k) (hm : ∀ a, (∀ y, HOw k rw A y → ∀ i, 0 ≤ i → i ≤ 7 → a ≠ y + i) → m' a = m a) (hRA : RA p root) : HP p root m' k rw A' fr out := by
  have g := H.P.good
  have ra := hRA.a; have rb := hRA.b
  have hr : ∀ o, 0 ≤ o → o ≤ 7 → m' (root + o) = m (root + o) := fun o o0 o7 => hm _ fun y hy i i0 i7 => by have := isN_pos g (H.N.mem hy); omega
  refine ⟨?_, N', H', H.k0, H.k32, by rw [hr 0 (by omega) (by omega)]; exact H.sz, by rw [hr 7 (by omega) (by omega)]; exact H.hl, fun r r0 r4 rk => by rw [hr _ (by omega) (by omega)]; exact H.z r r0 r4 rk, fun y hy => H.ot y (hy.imp (M y).1 id), O'⟩
  refine H.P.ext fun a ha => hm a fun y hy i i0 i7 => ?_
  have hyo := H.ot y hy
  have hyN := isN_pos g (hyo.isN H.P)
  rcases ha with h | h | h | h
  · omega
  · omega
  · omega
  · have hne : a ≠ y := fun e => hyo.2 (e ▸ h)
    have := isN_ne (H.P.isN h) (hyo.isN H.P) hne (o := 0) (o' := i) ⟨by omega, by omega⟩ ⟨i0, i7⟩
    omega
theorem wp_hPop (hRA : RA p root) (hD : PoolD D p) (hRD : RootD D root) (S : Sm D σ σ m 0) (H : HP p root m k rw A fr out) (hl : σ.pu.length + 200 ≤ big) :
    wp (hPop p root) σ fun e σ' => (∃ A' fr' m', e = (m (A 1 + 0), m (A 1 + 1), 0) ∧ 1 ≤ k ∧ Sm D σ σ' m' 200 ∧ HP p root m' (k - 1) rw A' fr' out ∧ RemD p root m m' k 1 rw A A' fr fr' out) ∨ (e = (0, 0, 8) ∧ k = 0 ∧ Sm D σ σ' m 200) := by
  have k0 := H.k0; have k32 := H.k32
  unfold hPop
  refine wp_mark ?_
  unfold hPopB
  rw [pb_assoc]
  refine wp_get S (hRD 0 (by omega) (by omega)) fun σ1 S1 => ?_
  rw [H.sz]
  by_cases hk : k = 0
  · rw [if_pos hk]
    refine wp_hEndE S S1 (by decide) fun σ2 S2 => ?_
    exact .inr ⟨rfl, hk, S2.mono (by omega)⟩
  rw [if_neg hk, if_neg (by omega)]
  refine wp_hRem hRA hD hRD S1 H (by omega) (by omega) (by omega) fun A' fr' σ2 m' S2 H2 R2 => ?_
  refine wp_hEnd0 ?_
  exact .inl ⟨A', fr', m', rfl, by omega, S2.mono (by omega), H2, R2⟩
theorem wp_hMin (hD : PoolD D p) (hRD : RootD D root) (S : Sm D σ σ m 0) (H : HP p root m k rw A fr out) :
    wp (hMin p root) σ fun e σ' => Sm D σ σ' m 0 ∧ e = if k = 0 then (0, 0, 8) else (m (A 1 + 0), m (A 1 + 1), 0) := by
  have k0 := H.k0; have k32 := H.k32
  have g := H.P.good
  unfold hMin
  refine wp_get S (hRD 0 (by omega) (by omega)) fun σ1 S1 => ?_
  rw [H.sz]
  by_cases hk : k = 0
  · rw [if_pos hk, if_pos hk]
    exact ⟨S1, rfl⟩
  rw [if_neg hk, if_neg (by omega), if_neg hk]
  refine wp_hItem g S1 hD hRD H.N H.H k32 ⟨by omega, by omega⟩ (by omega) fun σ2 S2 => ?_
  have hx := H.N.an 1 (by omega) (by omega)
  refine wp_hGet g S2 hD hx ⟨by omega, by omega⟩ fun σ3 S3 => ?_
  refine wp_hGet g S3 hD hx ⟨by omega, by omega⟩ fun σ4 S4 => ?_
  rw [if_neg (by simp)]
  exact ⟨S4, rfl⟩
theorem wp_hFind {q : Int × Int × Int × Int × Bool → Prog α} (hD : PoolD D p) (hRD : RootD D root) (S : Sm D σ0 σ m c) (H : HP p root m k rw A fr out)
    (h1 : ∀ i σ', 1 ≤ i → i ≤ k → A i = x → Sm D σ0 σ' m c → wp (q (x, i, k, 0, false)) σ' Q) (h2 : ∀ σ', ¬ Mem k A x → Sm D σ0 σ' m c → wp (q (0, 0, 0, 10, false)) σ' Q) : wp (hFind p root x >>= q) σ Q := by
  have k0 := H.k0; have k32 := H.k32
  have g := H.P.good
  unfold hFind
  rw [pb_assoc]
  refine wp_get S (hRD 0 (by omega) (by omega)) fun σ1 S1 => ?_
  rw [H.sz, if_neg (by omega)]
  by_cases hn : (p.node x).isSome = true
  · rw [if_pos hn, pb_assoc]
    have hx := node_isN hn
    refine wp_hGet g S1 hD hx ⟨by omega, by omega⟩ fun σ2 S2 => ?_
    have hpos : ∀ i, 1 ≤ i → i ≤ k → A i = x → m (x + 3) = i := fun i i1 ik e => by rw [← e]; exact H.H.pos i i1 ik (by omega)
    by_cases hr : m (x + 3) < 1 ∨ k < m (x + 3)
    · rw [if_pos hr]
      exact h2 σ2 (fun ⟨i, i1, ik, e⟩ => by have := hpos i i1 ik e; omega) S2
    · rw [if_neg hr, pb_assoc]
      have hq : 1 ≤ m (x + 3) ∧ m (x + 3) ≤ k := by omega
      generalize m (x + 3) = i at *
      refine wp_hRow g S2 hRD ⟨hq.1, by omega⟩ (H.H.rowi hq) (H.N.rni hq) fun σ3 S3 => ?_
      dsimp only
      rw [if_neg (by simp), pb_assoc]
      refine wp_hGet g S3 hD (H.N.rni hq) ⟨by omega, by omega⟩ fun σ4 S4 => ?_
      rw [H.H.cel i hq.1 hq.2 (by omega)]
      by_cases e : A i = x
      · rw [if_neg (by simpa using e)]
        exact h1 i σ4 hq.1 hq.2 e S4
      · rw [if_pos e]
        exact h2 σ4 (fun ⟨j, j1, jk, ej⟩ => by have := hpos j j1 jk ej; subst this; exact e ej) S4
  · rw [if_neg hn]
    exact h2 σ1 (fun ⟨i, i1, ik, e⟩ => hn (by rw [← e]; exact isN_node g (H.N.an i i1 ik))) S1
/-- what a lowering comes to -/
structure LowD (root : Int) (m m' : Int → Int) (k : Int) (rw A A' : Int → Int) (x pr : Int) : Prop where
  mem : ∀ y, Mem k A' y ↔ Mem k A y
  x0 : m' (x + 0) = pr
  old : ∀ y, Mem k A y → ∀ o, 0 ≤ o → o ≤ 2 → (y = x → 1 ≤ o) → m' (y + o) = m (y + o)
  pu : m' (root + 1) = m (root + 1)
  sm : ∀ a, (∀ y, HOw k rw A y → ∀ i, 0 ≤ i → i ≤ 7 → a ≠ y + i) → m' a = m a
theorem wp_hLow {pr : Int} (hRA : RA p root) (hD : PoolD D p) (hRD : RootD D root) (S : Sm D σ σ m 0) (H : HP p root m k rw A fr out) (hpr : R64 pr) (hl : σ.pu.length + 200 ≤ big) :
    wp (hLow p root x pr) σ fun e σ' => (∃ A' m', e = 0 ∧ Mem k A x ∧ pr ≤ m (x + 0) ∧ Sm D σ σ' m' 200 ∧ HP p root m' k rw A' fr out ∧ LowD root m m' k rw A A' x pr) ∨ (e = 4 ∧ Mem k A x ∧ m (x + 0) < pr ∧ Sm D σ σ' m 200) ∨ (e = 10 ∧ ¬ Mem k A x ∧ Sm D σ σ' m 200) := by
  have k0 := H.k0; have k32 := H.k32
  have g := H.P.good
  have ra := hRA.a; have rb := hRA.b
  unfold hLow
  refine wp_mark ?_
  unfold hLowB
  rw [pb_assoc]
  refine wp_hFind hD hRD S H (fun i σ1 i1 ik e S1 => ?_) fun σ1 hn S1 => ?_
  rotate_left
  · dsimp only
    rw [if_pos (by decide)]
    rw [pb_pure]
    dsimp only
    refine wp_ret' (wp_hEndE S S1 (by decide) fun σ2 S2 => ?_)
    exact .inr (.inr ⟨rfl, hn, S2.mono (by omega)⟩)
  subst e
  have hx := H.N.an i i1 ik
  have hxm : Mem k A (A i) := ⟨i, i1, ik, rfl⟩
  dsimp only
  rw [if_neg (by simp), pb_assoc]
  refine wp_hGet g S1 hD hx ⟨by omega, by omega⟩ fun σ2 S2 => ?_
  by_cases hlt : m (A i + 0) < pr
  · rw [if_pos hlt]
    rw [pb_pure]
    dsimp only
    refine wp_ret' (wp_hEndE S S2 (by decide) fun σ3 S3 => ?_)
    exact .inr (.inl ⟨rfl, hxm, hlt, S3.mono (by omega)⟩)
  rw [if_neg hlt, pb_assoc]
  refine wp_hPut g S2 hD hx ⟨by omega, by omega⟩ hpr (by omega) fun σ3 S3 => ?_
  have px := isN_pos g hx
  have hm : ∀ a, a ≠ A i + 0 → upd m (A i + 0) pr a = m a := fun a ha => upd_ne _ _ ha
  have hx0 : upd m (A i + 0) pr (A i + 0) = pr := upd_eq _ _ _
  generalize upd m (A i + 0) pr = m3 at *
  have H3 : HA m3 root k rw A i := by
    refine ⟨fun r r0 r1 => ?_, fun j j1 jk _ => ?_, fun j j1 jk jh => ?_⟩
    · rw [hm _ (by omega)]; exact H.H.row r r0 r1
    · rw [hm _ (H.N.cell_pos ⟨j1, jk⟩ ⟨i1, ik⟩ ⟨by omega, by omega⟩)]; exact H.H.cel j j1 jk (by omega)
    · rw [hm _ (isN_ne (H.N.an j j1 jk) hx (fun e => jh (H.N.ai j i j1 jk i1 ik e)) ⟨by omega, by omega⟩ ⟨by omega, by omega⟩)]; exact H.H.pos j j1 jk (by omega)
  have hold : ∀ j, 1 ≤ j → j ≤ k → ∀ o, 0 ≤ o → o ≤ 2 → (j = i → 1 ≤ o) → m3 (A j + o) = m (A j + o) := fun j j1 jk o o0 o2 h => by
    by_cases e : j = i
    · have := h e; subst e; exact hm _ (by omega)
    · exact hm _ (isN_ne (H.N.an j j1 jk) hx (fun e2 => e (H.N.ai j i j1 jk i1 ik e2)) ⟨by omega, by omega⟩ ⟨by omega, by omega⟩)
  have hky : ∀ j, 1 ≤ j → j ≤ k → j ≠ i → kyM m3 (A j) = kyM m (A j) := fun j j1 jk ji => by
    have c0 := hold j j1 jk 0 (by omega) (by omega) (fun e => absurd e ji)
    rw [Int.add_zero] at c0
    show (m3 (A j), m3 (A j + 2)) = (m (A j), m (A j + 2))
    rw [c0, hold j j1 jk 2 (by omega) (by omega) (fun e => absurd e ji)]
  have hkx : kyM m3 (A i) = (pr, m (A i + 2)) := by
    rw [Int.add_zero] at hx0
    show (m3 (A i), m3 (A i + 2)) = (pr, m (A i + 2))
    rw [hx0, hold i i1 ik 2 (by omega) (by omega) (fun _ => by omega)]
  have hI : RI (fun x y => klt (kyM m3 x) (kyM m3 y)) A k i True := by
    refine ⟨fun j j2 jk n1 n2 => ?_, fun h1 j j2 jk e2 => ?_, fun _ j j2 jk e2 => ?_⟩
    · rw [hky j (by omega) jk n1, hky _ (by omega) (by omega) n2]; exact H.o j j2 jk
    · rw [hky j (by omega) jk (by omega), hky (i / 2) (by omega) (by omega) (by omega)]
      have h2 := H.o j j2 jk
      rw [e2] at h2
      exact (nlt_swo m).ntrans _ _ _ h2 (H.o i (by omega) ik)
    · rw [hky j (by omega) jk (by omega), hkx]
      have h2 := H.o j j2 jk
      rw [e2] at h2
      have h2 : klt (m (A j), m (A j + 2)) (m (A i), m (A i + 2)) = false := h2
      rw [Int.add_zero] at hlt
      show klt (m (A j), m (A j + 2)) _ = false
      rw [klt_f] at h2 ⊢
      dsimp only at h2 ⊢
      omega
  rw [pb_assoc]
  unfold hRiseS
  rw [pb_assoc]
  refine wp_hKey g S3 hD hx fun σ4 S4 => ?_
  refine wp_hRise g hRA hD hRD k32 (nlt_swo m3) i.toNat i A m3 _ σ4 True S4 H.N H3 (fun _ _ => rfl) hI i1 ik (Nat.le_refl _) (by omega) fun i' A' σ5 m5 P S5 N5 H5 F5 K5 e5 l1 l2 M5 _ O5 _ _ _ => ?_
  rw [pb_pure]
  dsimp only
  refine wp_ret' (wp_hEnd0 ?_)
  have far : ∀ a, (∀ y, HOw k rw A y → ∀ i, 0 ≤ i → i ≤ 7 → a ≠ y + i) → m5 a = m a := fun a ha => by
    rw [F5 a (fun y hy => ha y (.inl hy) 3 (by omega) (by omega)) fun r c r0 r1 c0 c7 => ha _ (.inr ⟨r, r0, r1, rfl⟩) c c0 c7]
    exact hm a (ha _ (.inl hxm) 0 (by omega) (by omega))
  refine .inl ⟨A', m5, rfl, hxm, by omega, S5.mono (by omega), H.el N5 H5 M5 ((O5 (.inl trivial)).key K5) far hRA, M5, ?_, ?_, ?_, far⟩
  · rw [F5.old H.N hxm (by omega) (by omega)]; exact hx0
  · rintro y ⟨j, j1, jk, rfl⟩ o o0 o2 ho
    rw [F5.old H.N ⟨j, j1, jk, rfl⟩ o0 o2]
    exact hold j j1 jk o o0 o2 fun e => ho (by rw [e])
  · exact far _ fun y hy i i0 i7 => by have := isN_pos g (H.N.mem hy); omega
theorem wp_hDrop (hRA : RA p root) (hD : PoolD D p) (hRD : RootD D root) (S : Sm D σ σ m 0) (H : HP p root m k rw A fr out) (hl : σ.pu.length + 200 ≤ big) :
    wp (hDrop p root x) σ fun e σ' => (∃ i A' fr' m', e = (m (x + 1), 0) ∧ 1 ≤ i ∧ i ≤ k ∧ A i = x ∧ Sm D σ σ' m' 200 ∧ HP p root m' (k - 1) rw A' fr' out ∧ RemD p root m m' k i rw A A' fr fr' out) ∨ (e = (0, 10) ∧ ¬ Mem k A x ∧ Sm D σ σ' m 200) := by
  unfold hDrop
  refine wp_mark ?_
  unfold hDropB
  rw [pb_assoc]
  refine wp_hFind hD hRD S H (fun i σ1 i1 ik e S1 => ?_) fun σ1 hn S1 => ?_
  rotate_left
  · dsimp only
    rw [if_pos (by decide)]
    refine wp_hEndE S S1 (by decide) fun σ2 S2 => ?_
    exact .inr ⟨rfl, hn, S2.mono (by omega)⟩
  dsimp only
  rw [if_neg (by simp), pb_assoc]
  refine wp_hRem hRA hD hRD S1 H i1 ik (by omega) fun A' fr' σ2 m' S2 H2 R2 => ?_
  rw [pb_pure]
  dsimp only
  refine wp_hEnd0 ?_
  rw [e]
  exact .inl ⟨i, A', fr', m', rfl, i1, ik, e, S2.mono (by omega), H2, R2⟩
theorem allA_succ {n : Nat} : allA A (n + 1) = allA A n ++ [A ((n : Int) + 1)] := by unfold allA; rw [List.range_succ, List.map_append]; rfl
theorem wp_hAllL (hD : PoolD D p) (hRD : RootD D root) (H : HP p root m k rw A fr out) : ∀ (f : Nat) (n : Nat) (σ : Spc), Sm D σ0 σ m c → n + f = k.toNat → wp (hAllL p root k f false ((n : Int) + 1) (allA A n)) σ fun o σ' => o = (allA A k.toNat, false) ∧ Sm D σ0 σ' m c
  | 0, n, σ, S, e => by
    unfold hAllL
    have e : n = k.toNat := by omega
    rw [e]
    exact ⟨rfl, S⟩
  | f + 1, n, σ, S, e => by
    have k0 := H.k0
    unfold hAllL
    rw [if_pos ⟨by omega, rfl⟩]
    refine wp_hItem H.P.good S hD hRD H.N H.H H.k32 ⟨by omega, by omega⟩ (by omega) fun σ1 S1 => ?_
    dsimp only
    rw [← allA_succ]
    have := wp_hAllL hD hRD H f (n + 1) σ1 S1 (by omega)
    rwa [show (((n + 1 : Nat) : Int) + 1) = (n : Int) + 1 + 1 by omega] at this
end
end Go.En
