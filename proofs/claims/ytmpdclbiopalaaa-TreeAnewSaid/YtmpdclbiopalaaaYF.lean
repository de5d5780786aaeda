/-
  Chains of nodes from both ends; the deque's and the stack's programs, and what they come to.
  The deque and the stack in memory.
  Layer 37: search trees in memory; the programs of an operation.
  Layer 37: splitting and merging.
  Layer 37: merging; the links of a node.
  Layer 37: search paths; the tree around a place.
-/
import Derived.Test.YtmpdclbiopalaaaXD
import Derived.Test.YtmpdclbiopalaaaXE
namespace Go.En
open Prog Spc

/-! ### Chains -/
theorem Lk.snoc {m m' : Int → Int} {o x : Int} : ∀ {l : List Int} {a : Int}, Lk m o a l → (∀ y ∈ l, m' (y + o) = if some y = l.getLast? then x else m (y + o)) → l.Nodup → m' (x + o) = 0 → (l = [] → a = x) → l ≠ [] → Lk m' o a (l ++ [x])
  | [], a, _, _, _, h0, ha, hne => absurd rfl hne
  | [y], a, h, hm, hn, h0, _, _ => by
    have := hm y (List.mem_singleton.2 rfl)
    rw [if_pos (by rfl)] at this
    exact ⟨h.1, by rw [this]; exact ⟨rfl, h0⟩⟩
  | y :: z :: l, a, h, hm, hn, h0, ha, _ => by
    have hn := List.nodup_cons.1 hn
    have e : (y :: z :: l).getLast? = (z :: l).getLast? := by simp [List.getLast?_cons_cons]
    have hy := hm y (List.mem_cons_self ..)
    have hne : ¬ some y = (y :: z :: l).getLast? := by
      rw [e]
      intro hc
      exact hn.1 (List.mem_of_getLast? hc.symm)
    rw [if_neg hne] at hy
    refine ⟨h.1, ?_⟩
    rw [hy]
    exact Lk.snoc (l := z :: l) h.2 (fun w hw => by rw [hm w (List.mem_cons_of_mem _ hw), e]) hn.2 h0 (fun e => by cases e) (by simp)
theorem Lk.unsnoc {m m' : Int → Int} {o x : Int} : ∀ {l : List Int} {a : Int}, Lk m o a (l ++ [x]) → (∀ y ∈ l, m' (y + o) = if some y = l.getLast? then 0 else m (y + o)) → (l ++ [x]).Nodup → l ≠ [] → Lk m' o a l
  | [], a, _, _, _, hne => absurd rfl hne
  | [y], a, h, hm, hn, _ => by
    have := hm y (List.mem_singleton.2 rfl)
    rw [if_pos (by rfl)] at this
    exact ⟨h.1, this⟩
  | y :: z :: l, a, h, hm, hn, _ => by
    have hn : y ∉ (z :: l) ++ [x] ∧ ((z :: l) ++ [x]).Nodup := List.nodup_cons.1 hn
    have e : (y :: z :: l).getLast? = (z :: l).getLast? := by simp [List.getLast?_cons_cons]
    have hy := hm y (List.mem_cons_self ..)
    have hne : ¬ some y = (y :: z :: l).getLast? := by
      rw [e]
      intro hc
      exact hn.1 (List.mem_append_left _ (List.mem_of_getLast? hc.symm))
    rw [if_neg hne] at hy
    refine ⟨h.1, ?_⟩
    rw [hy]
    exact Lk.unsnoc (l := z :: l) h.2 (fun w hw => by rw [hm w (List.mem_cons_of_mem _ hw), e]) hn.2 (by simp)
theorem Lk.head {m : Int → Int} {o a : Int} {l : List Int} (h : Lk m o a l) : a = l.head?.getD 0 := by
  cases l with
  | nil => exact h
  | cons x r => exact h.1

/-! ### The deque -/
def sd (r : Bool) : Int := if r then 1 else 0
theorem sd_in (r : Bool) : 0 ≤ sd r ∧ sd r ≤ 1 := by cases r <;> decide
theorem sd_ne (r : Bool) : sd r ≠ sd !r := by cases r <;> decide
def dMore (a n : Int) : Prog Unit := do
  let v ← gt a
  pt a (w64 (v + n))
def dUn (e m : Int) : Prog Unit := if e ≠ 0 then bk m else pure ()
def dPushT (root n : Int) (r : Bool) : Prog Int := do
  pt (root + sd r) n
  dMore (root + 2) 1
  dMore (root + 7) 1
  dUn 0 0
  pure 0
def dPush (p : Pl) (root : Int) (r : Bool) (v : Int) : Prog Int := do
  let m ← mk
  let t ← pTake p
  if t.2 ≠ 0 then do
    dUn t.2 m
    pure t.2
  else do
    let en ← gt (root + sd r)
    pt (t.1 + sd r) 0
    pt (t.1 + sd !r) en
    pt (t.1 + 2) v
    if en = 0 then do
      pt (root + sd !r) t.1
      dPushT root t.1 r
    else if (p.node en).isSome then do
      pt (en + sd r) t.1
      dPushT root t.1 r
    else do
      dUn 24 m
      pure 24
def dPopT (p : Pl) (root en nx m : Int) (r : Bool) : Prog (Int × Int) := do
  pt (root + sd r) nx
  dMore (root + 2) (-1)
  dMore (root + 7) (-1)
  let x ← gt (en + 2)
  let e ← pGive p en
  if e ≠ 0 then do
    dUn e m
    pure (0, e)
  else do
    dUn 0 m
    pure (x, 0)
def dPop (p : Pl) (root : Int) (r : Bool) : Prog (Int × Int) := do
  let m ← mk
  let en ← gt (root + sd r)
  if en = 0 then do
    dUn 8 m
    pure (0, 8)
  else if (p.node en).isSome then do
    let nx ← gt (en + sd !r)
    if nx = 0 then do
      pt (root + sd !r) 0
      dPopT p root en nx m r
    else if (p.node nx).isSome then do
      pt (nx + sd r) 0
      dPopT p root en nx m r
    else do
      dUn 24 m
      pure (0, 24)
  else do
    dUn 24 m
    pure (0, 24)
def dPeek (root : Int) (r : Bool) : Prog (Int × Int) := do
  let en ← gt (root + sd r)
  if en = 0 then pure (0, 8) else do
    let x ← gt (w64 (en + 2))
    pure (x, 0)
def dLoop (p : Pl) (r : Bool) : Nat → Int → List Int → Prog (Option (List Int))
  | 0, a, acc => pure (if a = 0 then some acc else none)
  | n + 1, a, acc => if a = 0 then pure (some acc) else if (p.node a).isSome then do
      let v ← gt (a + 2)
      let nx ← gt (a + sd !r)
      dLoop p r n nx (acc ++ [v])
    else pure none
def dWalk (p : Pl) (root : Int) (r : Bool) : Prog (Option (List Int)) := do
  let a ← gt (root + sd r)
  dLoop p r p.nodes.toNat a []

/-! ### The stack -/
def sMore (root n : Int) : Prog Unit := do
  dMore (root + 1) n
  dMore (root + 7) n
def sPush (p : Pl) (root v : Int) : Prog Int := do
  let m ← mk
  let t ← pTake p
  if t.2 ≠ 0 then do
    dUn t.2 m
    pure t.2
  else do
    let tp ← gt root
    pt t.1 tp
    pt (t.1 + 1) v
    pt root t.1
    sMore root 1
    dUn 0 m
    pure 0
def sPop (p : Pl) (root : Int) : Prog (Int × Int) := do
  let m ← mk
  let a ← gt root
  if a = 0 then do
    dUn 8 m
    pure (0, 8)
  else if (p.node a).isSome then do
    let nx ← gt a
    let v ← gt (a + 1)
    let e ← pGive p a
    if e ≠ 0 then do
      dUn e m
      pure (0, e)
    else do
      pt root nx
      sMore root (-1)
      dUn 0 m
      pure (v, 0)
  else do
    dUn 24 m
    pure (0, 24)
def sTop (root : Int) : Prog (Int × Int) := do
  let a ← gt root
  if a = 0 then pure (0, 8) else do
    let x ← gt (a + 1)
    pure (x, 0)
def sLoop (p : Pl) : Nat → Int → List Int → Prog (Option (List Int))
  | 0, a, acc => pure (if a = 0 then some acc else none)
  | n + 1, a, acc => if a = 0 then pure (some acc) else if (p.node a).isSome then do
      let v ← gt (a + 1)
      let nx ← gt a
      sLoop p n nx (acc ++ [v])
    else pure none
def sWalk (p : Pl) (root : Int) : Prog (Option (List Int)) := do
  let a ← gt root
  sLoop p p.nodes.toNat a []
end Go.En
namespace Go.En
open Prog Spc

/-- a root apart from the pool -/
structure RA (p : Pl) (root : Int) : Prop where
  a : p.root + 3 ≤ root
  b : root + 8 ≤ p.frm
abbrev RootD (D : Int → Prop) (root : Int) : Prop := ∀ i, 0 ≤ i → i ≤ 7 → D (root + i)
/-- nodes handed out and not free -/
abbrev Held (p : Pl) (fr : List Int) (out : Int) (l : List Int) : Prop := ∀ x ∈ l, (∃ i, 0 ≤ i ∧ i < out ∧ x = p.frm + 8 * i) ∧ x ∉ fr
theorem nd_rev {l : List Int} (h : l.Nodup) : l.reverse.Nodup := by
  unfold List.Nodup at h ⊢
  rw [List.pairwise_reverse]
  exact h.imp fun hab e => hab e.symm
/-- the deque from the end r on -/
structure DQ (m : Int → Int) (root : Int) (r : Bool) (l vs : List Int) : Prop where
  fwd : Lk m (sd !r) (m (root + sd r)) l
  bwd : Lk m (sd r) (m (root + sd !r)) l.reverse
  val : vs = l.map fun x => m (x + 2)
  n2 : m (root + 2) = l.length
  n7 : m (root + 7) = l.length
  nd : l.Nodup
theorem DQ.turn {m : Int → Int} {root : Int} {r : Bool} {l vs : List Int} (H : DQ m root r l vs) : DQ m root (!r) l.reverse vs.reverse := by
  refine ⟨by rw [Bool.not_not]; exact H.bwd, by rw [List.reverse_reverse, Bool.not_not]; exact H.fwd, ?_, by rw [List.length_reverse]; exact H.n2, by rw [List.length_reverse]; exact H.n7, nd_rev H.nd⟩
  rw [H.val, List.map_reverse]
theorem DQ.len {m : Int → Int} {root : Int} {r : Bool} {l vs : List Int} (H : DQ m root r l vs) : vs.length = l.length := by rw [H.val, List.length_map]
theorem DQ.ext {m m' : Int → Int} {root : Int} {r : Bool} {l vs : List Int} (H : DQ m root r l vs) (h1 : ∀ i, 0 ≤ i → i ≤ 7 → m' (root + i) = m (root + i)) (h2 : ∀ x ∈ l, ∀ i, 0 ≤ i → i ≤ 7 → m' (x + i) = m (x + i)) : DQ m' root r l vs := by
  have s1 := sd_in r; have s2 := sd_in (!r)
  refine ⟨?_, ?_, ?_, ?_, ?_, H.nd⟩
  · rw [h1 _ s1.1 (by omega)]; exact H.fwd.ext fun x hx => h2 x hx _ s2.1 (by omega)
  · rw [h1 _ s2.1 (by omega)]; exact H.bwd.ext fun x hx => h2 x (List.mem_reverse.1 hx) _ s1.1 (by omega)
  · rw [H.val]; exact List.map_congr_left fun x hx => (h2 x hx 2 (by omega) (by omega)).symm
  · rw [h1 2 (by omega) (by omega)]; exact H.n2
  · rw [h1 7 (by omega) (by omega)]; exact H.n7
theorem wp_ret' {α : Type} {p : Prog α} {σ : Spc} {Q : α → Spc → Prop} (h : wp (p >>= Prog.ret) σ Q) : wp p σ Q := by
  rw [wp_bind] at h; exact h

section
variable {D : Int → Prop} {σ0 σ σ' : Spc} {m : Int → Int} {c c' : Nat} {α β : Type} {Q : α → Spc → Prop} {p : Pl} {fr : List Int} {out root v : Int} {l vs : List Int} {r : Bool}
theorem wp_more {q : Unit → Prog α} (S : Sm D σ0 σ m c) {a n : Int} (ha : D a) (hl : σ0.pu.length + c ≤ big) (hk : ∀ σ', Sm D σ0 σ' (upd m a (w64 (m a + n))) (c + 1) → wp (q ()) σ' Q) : wp (dMore a n >>= q) σ Q := by
  unfold dMore
  rw [wp_bind]
  refine wp_get S ha fun σ1 S => ?_
  rw [← wp_bind]
  exact wp_put S ha (w64_in _) hl hk
/-- the cells that a change of a structure may turn -/
abbrev Same (p : Pl) (root : Int) (l : List Int) (m m' : Int → Int) : Prop := ∀ a, (∀ i, 0 ≤ i → i ≤ 2 → a ≠ p.root + i) → (∀ i, 0 ≤ i → i ≤ 7 → a ≠ root + i) → (∀ x ∈ l, ∀ i, 0 ≤ i → i ≤ 7 → a ≠ x + i) → m' a = m a

/-- what an allocation comes to -/
inductive Took (p : Pl) (fr : List Int) (out : Int) : Int → List Int → Int → Prop
  | free {n : Int} {fr' : List Int} : fr = n :: fr' → Took p fr out n fr' out
  | new : fr = [] → out < p.nodes → Took p fr out (p.frm + 8 * out) [] (out + 1)
theorem wp_took {q : Int × Int → Prog α} (S : Sm D σ0 σ m c) (P : PoolR m p fr out) (hD : PoolD D p) (hl : σ0.pu.length + c + 2 ≤ big)
    (h1 : ∀ n fr' out' σ' m', Took p fr out n fr' out' → (∃ i, 0 ≤ i ∧ i < out' ∧ n = p.frm + 8 * i) → n ∉ fr' → Sm D σ0 σ' m' (c + 2) → PoolR m' p fr' out' → (∀ a, a ≠ p.root → a ≠ p.root + 1 → a ≠ p.root + 2 → m' a = m a) → wp (q (n, 0)) σ' Q)
    (h2 : ∀ σ', fr = [] → out = p.nodes → Sm D σ0 σ' m c → wp (q (0, 9)) σ' Q) : wp (pTake p >>= q) σ Q := by
  refine wp_take S P hD hl (fun x fr' σ' m' e hx S' P' hm => ?_) (fun σ' m' e ho hx S' P' hm => ?_) h2
  · subst e
    exact h1 x fr' out σ' m' (.free rfl) (P.fN x (List.mem_cons_self ..)) (List.nodup_cons.1 P.nd).1 S' P' fun a a1 _ a3 => hm a a1 a3
  · exact h1 _ [] (out + 1) σ' m' (.new e ho) ⟨out, P.out0, by omega, rfl⟩ (by simp) S' P' fun a _ a2 _ => hm a a2

theorem Took.held {n : Int} {fr' : List Int} {out' : Int} (T : Took p fr out n fr' out') (P : PoolR m p fr out) (H : Held p fr out l) : n ∉ l ∧ Held p fr' out' l ∧ out ≤ out' ∧ (fr'.length : Int) - out' + 1 = fr.length - out := by
  cases T with
  | free e =>
    subst e
    refine ⟨fun hn => (H n hn).2 (List.mem_cons_self ..), fun x hx => ⟨(H x hx).1, fun h => (H x hx).2 (List.mem_cons_of_mem _ h)⟩, Int.le_refl _, ?_⟩
    simp only [List.length_cons]; omega
  | new e ho =>
    refine ⟨fun hn => ?_, fun x hx => ?_, by omega, ?_⟩
    · obtain ⟨⟨i, i0, i1, e2⟩, _⟩ := H _ hn
      omega
    · obtain ⟨⟨i, i0, i1, e2⟩, _⟩ := H x hx
      exact ⟨⟨i, i0, by omega, e2⟩, by simp⟩
    · rw [e]; simp only [List.length_nil]; omega

/-- undone: as before -/
theorem wp_undo {e : Int} {m1 : Int → Int} {q : Unit → Prog α} (S0 : Sm D σ σ m 0) (S : Sm D σ σ' m1 c) (he : e ≠ 0) (k : ∀ σ2, Sm D σ σ2 m 0 → wp (q ()) σ2 Q) : wp (dUn e σ.pu.length >>= q) σ' Q := by
  unfold dUn
  rw [if_pos he]
  exact wp_back S S0.vw S0.rg k
theorem wp_un0 {x : Int} {q : Unit → Prog α} (k : wp (q ()) σ Q) : wp (dUn 0 x >>= q) σ Q := by
  unfold dUn
  rw [if_neg (by simp)]
  exact k
theorem upd_if (m : Int → Int) (a v b : Int) : upd m a v b = if b = a then v else m b := rfl

theorem wp_dPush (S : Sm D σ σ m 0) (P : PoolR m p fr out) (hD : PoolD D p) (hRD : RootD D root) (hA : RA p root) (K : DQ m root r l vs) (H : Held p fr out l) (hv : R64 v) (hl : σ.pu.length + 12 ≤ big) :
    wp (dPush p root r v) σ fun e σ' => (∃ n fr' out' m', e = 0 ∧ Took p fr out n fr' out' ∧ Sm D σ σ' m' 12 ∧ PoolR m' p fr' out' ∧ DQ m' root r (n :: l) (v :: vs) ∧ Held p fr' out' (n :: l) ∧ Same p root (n :: l) m m') ∨
      (e = 9 ∧ fr = [] ∧ out = p.nodes ∧ Sm D σ σ' m 12) := by
  have g := P.good
  have g1 := g.f1; have g2 := g.f2; have g3 := g.n1; have g4 := g.r0
  obtain ⟨ra, rb⟩ := hA
  have s1 := sd_in r; have s2 := sd_in (!r); have s3 := sd_ne r
  unfold dPush
  refine wp_mark ?_
  refine wp_took S P hD (by omega) (fun n fr' out' σ1 m1 T hn hnf S1 P1 hm1 => ?_) fun σ1 e ho S1 => ?_
  rotate_left
  · rw [if_pos (by decide)]
    refine wp_undo S S1 (by decide) fun σ2 S2 => ?_
    exact .inr ⟨rfl, e, ho, S2.mono (by omega)⟩
  obtain ⟨hnl, H', ho', _⟩ := T.held P H
  have hp1 := P1.out1
  have hnn := hn
  obtain ⟨j, j0, j1, ej⟩ := hn
  have hnN : isN p n := ⟨j, j0, by omega, ej⟩
  rw [if_neg (by simp)]
  refine wp_get S1 (hRD _ s1.1 (by omega)) fun σ2 S2 => ?_
  have hen : m1 (root + sd r) = l.head?.getD 0 := by rw [hm1 _ (by omega) (by omega) (by omega)]; exact K.fwd.head
  have hD' : ∀ i, 0 ≤ i → i ≤ 7 → D (n + i) := hD.n n hnN
  refine wp_put S2 (hD' _ s1.1 (by omega)) ⟨by decide, by decide⟩ (by omega) fun σ3 S => ?_
  refine wp_put S (hD' _ s2.1 (by omega)) (S1.rg _) (by omega) fun σ4 S => ?_
  refine wp_put S (hD' 2 (by omega) (by omega)) hv (by omega) fun σ5 S => ?_
  -- the end of it
  have tail : ∀ (σ6 : Spc) (m6 : Int → Int) (c : Nat), c ≤ 8 → Sm D σ σ6 m6 c → (∀ a, (∀ i, 0 ≤ i → i ≤ 2 → a ≠ p.root + i) → a ≠ root + sd !r → a ≠ n + sd r → a ≠ n + sd !r → a ≠ n + 2 → (∀ x, l.head? = some x → a ≠ x + sd r) → m6 a = m a) →
      (∀ i, 0 ≤ i → i ≤ 2 → m6 (p.root + i) = m1 (p.root + i)) → m6 (n + sd r) = 0 → m6 (n + sd !r) = l.head?.getD 0 → m6 (n + 2) = v → (m6 (root + sd !r) = if l = [] then n else m (root + sd !r)) → (∀ x, l.head? = some x → m6 (x + sd r) = n) →
      wp (dPushT root n r) σ6 fun e σ' => (∃ n fr' out' m', e = 0 ∧ Took p fr out n fr' out' ∧ Sm D σ σ' m' 12 ∧ PoolR m' p fr' out' ∧ DQ m' root r (n :: l) (v :: vs) ∧ Held p fr' out' (n :: l) ∧ Same p root (n :: l) m m') ∨
        (e = 9 ∧ fr = [] ∧ out = p.nodes ∧ Sm D σ σ' m 12) := by
    intro σ6 m6 c hc S6 hm6 hp6 hn0 hn1 hn2 hr6 hx6
    unfold dPushT
    refine wp_put S6 (hRD _ s1.1 (by omega)) ⟨by omega, by omega⟩ (by omega) fun σ7 S => ?_
    refine wp_more S (hRD 2 (by omega) (by omega)) (by omega) fun σ8 S => ?_
    refine wp_more S (hRD 7 (by omega) (by omega)) (by omega) fun σ9 S => ?_
    refine wp_un0 ?_
    -- the nodes are apart
    have hidx : ∀ x ∈ l, ∃ i, 0 ≤ i ∧ i < out' ∧ i ≠ j ∧ x = p.frm + 8 * i := fun x hx => by
      obtain ⟨⟨i, i0, i1, e⟩, _⟩ := H' x hx
      exact ⟨i, i0, i1, fun h => hnl (by rw [ej, ← h, ← e]; exact hx), e⟩
    have hlen : (l.length : Int) ≤ 128 := by
      have := nodes_len (fun x hx => let ⟨i, a, b, _, d⟩ := hidx x hx; ⟨i, a, b, d⟩) K.nd P1.out0
      omega
    have e2 : m6 (root + 2) = l.length := by
      rw [hm6 _ (fun i h1 h2 => by omega) (by omega) (by omega) (by omega) (by omega) (fun x hx => by obtain ⟨i, _, _, _, e⟩ := hidx x (List.mem_of_head? hx); omega)]
      exact K.n2
    have e7 : m6 (root + 7) = l.length := by
      rw [hm6 _ (fun i h1 h2 => by omega) (by omega) (by omega) (by omega) (by omega) (fun x hx => by obtain ⟨i, _, _, _, e⟩ := hidx x (List.mem_of_head? hx); omega)]
      exact K.n7
    have e7' : upd (upd m6 (root + sd r) n) (root + 2) (w64 (upd m6 (root + sd r) n (root + 2) + 1)) (root + 7) = l.length := by
      rw [upd_ne _ _ (by omega), upd_ne _ _ (by omega)]; exact e7
    have e2' : upd m6 (root + sd r) n (root + 2) = l.length := by rw [upd_ne _ _ (by omega)]; exact e2
    rw [e7', e2', w64_R ⟨by omega, by omega⟩] at S
    -- what is where
    have at' : ∀ a, upd (upd (upd m6 (root + sd r) n) (root + 2) ((l.length : Int) + 1)) (root + 7) ((l.length : Int) + 1) a = if a = root + 7 then (l.length : Int) + 1 else if a = root + 2 then (l.length : Int) + 1 else if a = root + sd r then n else m6 a := fun a => rfl
    generalize upd (upd (upd m6 (root + sd r) n) (root + 2) ((l.length : Int) + 1)) (root + 7) ((l.length : Int) + 1) = m' at *
    have hf : ∀ a, (∀ i, 0 ≤ i → i ≤ 7 → a ≠ root + i) → m' a = m6 a := fun a ha => by
      rw [at', if_neg (ha 7 (by omega) (by omega)), if_neg (ha 2 (by omega) (by omega)), if_neg (ha _ s1.1 (by omega))]
    have hnode : ∀ x i, (∃ k, x = p.frm + 8 * k ∧ 0 ≤ k) → 0 ≤ i → i ≤ 7 → m' (x + i) = m6 (x + i) := fun x i ⟨k, e, k0⟩ i0 i1 => hf _ fun i' _ _ => by omega
    have hold : ∀ x ∈ l, ∀ i, 0 ≤ i → i ≤ 7 → (i = sd r → l.head? ≠ some x) → m' (x + i) = m (x + i) := fun x hx i i0 i1 hi => by
      obtain ⟨k, k0, k1, kj, e⟩ := hidx x hx
      rw [hnode x i ⟨k, e, k0⟩ i0 i1]
      refine hm6 _ (fun i' _ _ => by omega) (by omega) (by omega) (by omega) (by omega) fun y hy => ?_
      obtain ⟨k', k0', k1', kj', e'⟩ := hidx y (List.mem_of_head? hy)
      intro h
      have : k = k' := by omega
      subst this
      exact hi (by omega) (by rw [hy, e, e'])
    refine .inl ⟨n, fr', out', m', rfl, T, S.mono (by omega), ?_, ⟨?_, ?_, ?_, ?_, ?_, List.nodup_cons.2 ⟨hnl, K.nd⟩⟩, ?_, ?_⟩
    · refine P1.ext fun a ha => ?_
      have h6 : m' a = m6 a := hf a fun i i0 i1 => by
        rcases ha with h | h | h | h
        · omega
        · omega
        · omega
        · obtain ⟨k, k0, k1, e⟩ := P1.fN a h; omega
      rw [h6]
      rcases ha with h | h | h | h
      · have := hp6 0 (by omega) (by omega); rw [Int.add_zero] at this; rw [h]; exact this
      · rw [h]; exact hp6 1 (by omega) (by omega)
      · rw [h]; exact hp6 2 (by omega) (by omega)
      · obtain ⟨k, k0, k1, e⟩ := P1.fN a h
        have hkj : k ≠ j := fun hk => hnf (by rw [ej, ← hk, ← e]; exact h)
        rw [hm6 a (fun i _ _ => by omega) (by omega) (by omega) (by omega) (by omega) fun y hy => ?_, hm1 a (by omega) (by omega) (by omega)]
        obtain ⟨k', k0', k1', kj', e'⟩ := hidx y (List.mem_of_head? hy)
        intro h2
        have : k = k' := by omega
        exact (H' y (List.mem_of_head? hy)).2 (by rw [e', ← this, ← e]; exact h)
    · rw [at', if_neg (by omega), if_neg (by omega), if_pos rfl]
      refine ⟨rfl, ?_⟩
      rw [hnode n _ ⟨j, ej, j0⟩ s2.1 (by omega), hn1, ← K.fwd.head]
      exact K.fwd.ext fun x hx => hold x hx _ s2.1 (by omega) fun e => absurd e.symm s3
    · rw [List.reverse_cons]
      cases hll : l with
      | nil =>
        rw [at', if_neg (by omega), if_neg (by omega), if_neg (by omega), hr6, if_pos hll]
        exact ⟨rfl, by show m' (n + sd r) = 0; rw [hnode n _ ⟨j, ej, j0⟩ s1.1 (by omega)]; exact hn0⟩
      | cons y l2 =>
        rw [at', if_neg (by omega), if_neg (by omega), if_neg (by omega), hr6, if_neg (by rw [hll]; simp), ← hll]
        refine Lk.snoc K.bwd (fun x hx => ?_) (nd_rev K.nd) ?_ (fun e => ?_) (by rw [hll]; simp)
        · rw [List.getLast?_reverse]
          by_cases e : l.head? = some x
          · rw [if_pos e.symm]
            obtain ⟨k, k0, k1, kj, e'⟩ := hidx x (List.mem_reverse.1 hx)
            rw [hnode x _ ⟨k, e', k0⟩ s1.1 (by omega)]
            exact hx6 x e
          · rw [if_neg (fun h => e h.symm)]
            exact hold x (List.mem_reverse.1 hx) _ s1.1 (by omega) fun _ => e
        · rw [hnode n _ ⟨j, ej, j0⟩ s1.1 (by omega)]; exact hn0
        · rw [hll] at e; simp at e
    · rw [List.map_cons, hnode n 2 ⟨j, ej, j0⟩ (by omega) (by omega), hn2, K.val]
      congr 1
      exact List.map_congr_left fun x hx => (hold x hx 2 (by omega) (by omega) fun e => by omega).symm
    · rw [at', if_neg (by omega), if_pos rfl]; simp
    · rw [at', if_pos rfl]; simp
    · intro x hx
      rcases List.mem_cons.1 hx with rfl | hx
      · exact ⟨hnn, hnf⟩
      · exact H' x hx
    · intro a ha1 ha2 ha3
      rw [hf a ha2]
      refine hm6 a ha1 (ha2 _ s2.1 (by omega)) (ha3 n (List.mem_cons_self ..) _ s1.1 (by omega)) (ha3 n (List.mem_cons_self ..) _ s2.1 (by omega)) (ha3 n (List.mem_cons_self ..) 2 (by omega) (by omega)) fun x hx => ha3 x (List.mem_cons_of_mem _ (List.mem_of_head? hx)) _ s1.1 (by omega)
  rw [hen] at S ⊢
  have hx0 : ∀ x, l.head? = some x → ∃ i, 0 ≤ i ∧ i < out' ∧ i ≠ j ∧ x = p.frm + 8 * i := fun x hx => by
    obtain ⟨⟨i, i0, i1, e⟩, _⟩ := H' x (List.mem_of_head? hx)
    exact ⟨i, i0, i1, fun h => hnl (by rw [ej, ← h, ← e]; exact List.mem_of_head? hx), e⟩
  cases hll : l with
  | nil =>
    rw [show (([] : List Int).head?.getD 0) = 0 from rfl, if_pos rfl]
    rw [hll] at S
    refine wp_put S (hRD _ s2.1 (by omega)) ⟨by omega, by omega⟩ (by omega) fun σ6 S => ?_
    rw [hll] at tail
    refine tail σ6 _ _ (by omega) S (fun a a1 a2 a3 a4 a5 _ => ?_) (fun i i0 i1 => ?_) ?_ ?_ ?_ ?_ (fun x hx => by cases hx)
    · rw [upd_ne _ _ a2, upd_ne _ _ a5, upd_ne _ _ a4, upd_ne _ _ a3]
      have b0 := a1 0 (by omega) (by omega); have b1 := a1 1 (by omega) (by omega); have b2 := a1 2 (by omega) (by omega)
      exact hm1 a (by omega) b1 b2
    · rw [upd_ne _ _ (by omega), upd_ne _ _ (by omega), upd_ne _ _ (by omega), upd_ne _ _ (by omega)]
    · rw [upd_ne _ _ (by omega), upd_ne _ _ (by omega), upd_ne _ _ (by omega), upd_eq]
    · rw [upd_ne _ _ (by omega), upd_ne _ _ (by omega), upd_eq]
    · rw [upd_ne _ _ (by omega), upd_eq]
    · rw [upd_eq, if_pos rfl]
  | cons x l2 =>
    rw [hll] at S hx0 tail
    obtain ⟨i, i0, i1, hij, e⟩ := hx0 x rfl
    have hxN : isN p x := ⟨i, i0, by omega, e⟩
    rw [show ((x :: l2).head?.getD 0) = x from rfl, if_neg (by omega), if_pos (isN_node g hxN)]
    refine wp_put S (hD.n x hxN _ s1.1 (by omega)) ⟨by omega, by omega⟩ (by omega) fun σ6 S => ?_
    refine tail σ6 _ _ (by omega) S (fun a a1 a2 a3 a4 a5 a6 => ?_) (fun i i0 i1 => ?_) ?_ ?_ ?_ ?_ (fun y hy => ?_)
    · rw [upd_ne _ _ (a6 x rfl), upd_ne _ _ a5, upd_ne _ _ a4, upd_ne _ _ a3]
      have b0 := a1 0 (by omega) (by omega); have b1 := a1 1 (by omega) (by omega); have b2 := a1 2 (by omega) (by omega)
      exact hm1 a (by omega) b1 b2
    · rw [upd_ne _ _ (by omega), upd_ne _ _ (by omega), upd_ne _ _ (by omega), upd_ne _ _ (by omega)]
    · rw [upd_ne _ _ (by omega), upd_ne _ _ (by omega), upd_ne _ _ (by omega), upd_eq]
    · rw [upd_ne _ _ (by omega), upd_ne _ _ (by omega), upd_eq]
      try rfl
    · rw [upd_ne _ _ (by omega), upd_eq]
    · rw [upd_ne _ _ (by omega), upd_ne _ _ (by omega), upd_ne _ _ (by omega), upd_ne _ _ (by omega), if_neg (by simp)]
      exact hm1 _ (by omega) (by omega) (by omega)
    · have hy : x = y := by simpa using hy
      subst hy
      rw [upd_eq]

theorem wp_dPop (S : Sm D σ σ m 0) (P : PoolR m p fr out) (hD : PoolD D p) (hRD : RootD D root) (hA : RA p root) (K : DQ m root r l vs) (H : Held p fr out l) (hl : σ.pu.length + 20 ≤ big) :
    wp (dPop p root r) σ fun e σ' => (∃ n l' v vs' m', l = n :: l' ∧ vs = v :: vs' ∧ e = (v, 0) ∧ Sm D σ σ' m' 12 ∧ PoolR m' p (n :: fr) out ∧ DQ m' root r l' vs' ∧ Held p (n :: fr) out l' ∧ Same p root (n :: l') m m') ∨
      (e = (0, 8) ∧ l = [] ∧ vs = [] ∧ Sm D σ σ' m 12) := by
  have g := P.good
  have g1 := g.f1; have g2 := g.f2; have g3 := g.n1; have g4 := g.r0
  have hp1 := P.out1
  obtain ⟨ra, rb⟩ := hA
  have s1 := sd_in r; have s2 := sd_in (!r); have s3 := sd_ne r
  unfold dPop
  refine wp_mark ?_
  refine wp_get S (hRD _ s1.1 (by omega)) fun σ1 S1 => ?_
  cases l with
  | nil =>
    have e0 : m (root + sd r) = 0 := K.fwd
    rw [e0, if_pos rfl]
    refine wp_undo S S1 (by decide) fun σ2 S2 => ?_
    exact .inr ⟨rfl, rfl, by rw [K.val]; rfl, S2.mono (by omega)⟩
  | cons n l' =>
  have hne := K.fwd.1
  obtain ⟨hnl, hnd'⟩ := List.nodup_cons.1 K.nd
  obtain ⟨hnn, hnf⟩ := H n (List.mem_cons_self ..)
  have hnn' := hnn
  obtain ⟨j, j0, j1, ej⟩ := hnn
  have hnN : isN p n := ⟨j, j0, by omega, ej⟩
  have hidx : ∀ x ∈ l', ∃ i, 0 ≤ i ∧ i < out ∧ i ≠ j ∧ x = p.frm + 8 * i := fun x hx => by
    obtain ⟨⟨i, i0, i1, e⟩, _⟩ := H x (List.mem_cons_of_mem _ hx)
    exact ⟨i, i0, i1, fun h => hnl (by rw [ej, ← h, ← e]; exact hx), e⟩
  have hD' : ∀ i, 0 ≤ i → i ≤ 7 → D (n + i) := hD.n n hnN
  rw [hne, if_neg (by omega), if_pos (isN_node g hnN)]
  refine wp_get S1 (hD' _ s2.1 (by omega)) fun σ2 S2 => ?_
  have hnx : m (n + sd !r) = l'.head?.getD 0 := K.fwd.2.head
  have hlen : ((n :: l').length : Int) ≤ 128 := by
    have := nodes_len (fun x hx => (H x hx).1) K.nd P.out0
    omega
  -- the end of it
  have tail : ∀ (σ6 : Spc) (m6 : Int → Int) (c : Nat), c ≤ 2 → Sm D σ σ6 m6 c → (∀ a, a ≠ root + sd !r → (∀ x, l'.head? = some x → a ≠ x + sd r) → m6 a = m a) →
      (m6 (root + sd !r) = if l' = [] then 0 else m (root + sd !r)) → (∀ x, l'.head? = some x → m6 (x + sd r) = 0) →
      wp (dPopT p root n (l'.head?.getD 0) σ.pu.length r) σ6 fun e σ' => (∃ n0 l0 v vs' m', n :: l' = n0 :: l0 ∧ vs = v :: vs' ∧ e = (v, 0) ∧ Sm D σ σ' m' 12 ∧ PoolR m' p (n0 :: fr) out ∧ DQ m' root r l0 vs' ∧ Held p (n0 :: fr) out l0 ∧ Same p root (n0 :: l0) m m') ∨
        (e = (0, 8) ∧ n :: l' = [] ∧ vs = [] ∧ Sm D σ σ' m 12) := by
    intro σ6 m6 c hc S6 hm6 hr6 hx6
    unfold dPopT
    have hhd : R64 (l'.head?.getD 0) := by rw [← hnx]; exact S.rg _
    refine wp_put S6 (hRD _ s1.1 (by omega)) hhd (by omega) fun σ7 S => ?_
    refine wp_more S (hRD 2 (by omega) (by omega)) (by omega) fun σ8 S => ?_
    refine wp_more S (hRD 7 (by omega) (by omega)) (by omega) fun σ9 S => ?_
    refine wp_get S (hD' 2 (by omega) (by omega)) fun σ10 S => ?_
    have e2 : m6 (root + 2) = (n :: l').length := by
      rw [hm6 _ (by omega) (fun x hx => by obtain ⟨i, _, _, _, e⟩ := hidx x (List.mem_of_head? hx); omega)]
      exact K.n2
    have e7 : m6 (root + 7) = (n :: l').length := by
      rw [hm6 _ (by omega) (fun x hx => by obtain ⟨i, _, _, _, e⟩ := hidx x (List.mem_of_head? hx); omega)]
      exact K.n7
    have e7' : upd (upd m6 (root + sd r) (l'.head?.getD 0)) (root + 2) (w64 (upd m6 (root + sd r) (l'.head?.getD 0) (root + 2) + -1)) (root + 7) = (n :: l').length := by
      rw [upd_ne _ _ (by omega), upd_ne _ _ (by omega)]; exact e7
    have e2' : upd m6 (root + sd r) (l'.head?.getD 0) (root + 2) = (n :: l').length := by rw [upd_ne _ _ (by omega)]; exact e2
    have hlc : ((n :: l').length : Int) + -1 = l'.length := by simp only [List.length_cons]; omega
    rw [e7', e2', hlc, w64_R ⟨by omega, by simp only [List.length_cons] at hlen; omega⟩] at S ⊢
    have at' : ∀ a, upd (upd (upd m6 (root + sd r) (l'.head?.getD 0)) (root + 2) (l'.length : Int)) (root + 7) (l'.length : Int) a = if a = root + 7 then (l'.length : Int) else if a = root + 2 then (l'.length : Int) else if a = root + sd r then l'.head?.getD 0 else m6 a := fun a => rfl
    generalize upd (upd (upd m6 (root + sd r) (l'.head?.getD 0)) (root + 2) (l'.length : Int)) (root + 7) (l'.length : Int) = m7 at *
    have hf : ∀ a, (∀ i, 0 ≤ i → i ≤ 7 → a ≠ root + i) → m7 a = m6 a := fun a ha => by
      rw [at', if_neg (ha 7 (by omega) (by omega)), if_neg (ha 2 (by omega) (by omega)), if_neg (ha _ s1.1 (by omega))]
    have hnode : ∀ x i, (∃ k, x = p.frm + 8 * k ∧ 0 ≤ k) → 0 ≤ i → i ≤ 7 → m7 (x + i) = m6 (x + i) := fun x i ⟨k, e, k0⟩ i0 i1 => hf _ fun i' _ _ => by omega
    have hold : ∀ x, (∃ k, 0 ≤ k ∧ x = p.frm + 8 * k) → ∀ i, 0 ≤ i → i ≤ 7 → (i = sd r → l'.head? ≠ some x) → m7 (x + i) = m (x + i) := fun x ⟨k, k0, e⟩ i i0 i1 hi => by
      rw [hnode x i ⟨k, e, k0⟩ i0 i1]
      refine hm6 _ (by omega) fun y hy => ?_
      obtain ⟨k', k0', k1', kj', e'⟩ := hidx y (List.mem_of_head? hy)
      intro h
      have : k = k' := by omega
      subst this
      exact hi (by omega) (by rw [hy, e, e'])
    have hv : m7 (n + 2) = m (n + 2) := hold n ⟨j, j0, ej⟩ 2 (by omega) (by omega) fun e => by omega
    rw [hv]
    have P7 : PoolR m7 p fr out := P.ext fun a ha => by
      have h6 : m7 a = m6 a := hf a fun i i0 i1 => by
        rcases ha with h | h | h | h
        · omega
        · omega
        · omega
        · obtain ⟨k, k0, k1, e⟩ := P.fN a h; omega
      rw [h6]
      refine hm6 a ?_ fun y hy => ?_
      · rcases ha with h | h | h | h
        · omega
        · omega
        · omega
        · obtain ⟨k, k0, k1, e⟩ := P.fN a h; omega
      · obtain ⟨k', k0', k1', kj', e'⟩ := hidx y (List.mem_of_head? hy)
        rcases ha with h | h | h | h
        · omega
        · omega
        · omega
        · obtain ⟨k, k0, k1, e⟩ := P.fN a h
          intro h2
          have : k = k' := by omega
          exact (H y (List.mem_cons_of_mem _ (List.mem_of_head? hy))).2 (by rw [e', ← this, ← e]; exact h)
    refine wp_give S P7 hD (by omega) ej ⟨j0, j1⟩ hnf fun σ11 m' S P' hm' => ?_
    rw [if_neg (by simp)]
    refine wp_un0 ?_
    have hvs : vs = m (n + 2) :: l'.map fun x => m (x + 2) := K.val
    have hf' : ∀ a, a ≠ p.root → a ≠ p.root + 2 → a ≠ n → m' a = m7 a := hm'
    have hroot : ∀ i, 0 ≤ i → i ≤ 7 → m' (root + i) = m7 (root + i) := fun i i0 i1 => hf' _ (by omega) (by omega) (by omega)
    have hl' : ∀ x ∈ l', ∀ i, 0 ≤ i → i ≤ 7 → m' (x + i) = m7 (x + i) := fun x hx i i0 i1 => by
      obtain ⟨k, k0, k1, kj, e⟩ := hidx x hx
      exact hf' _ (by omega) (by omega) (by omega)
    refine .inl ⟨n, l', m (n + 2), l'.map fun x => m (x + 2), m', rfl, hvs, rfl, S.mono (by omega), P', ⟨?_, ?_, ?_, ?_, ?_, hnd'⟩, ?_, ?_⟩
    · rw [hroot _ s1.1 (by omega), at', if_neg (by omega), if_neg (by omega), if_pos rfl, ← hnx]
      refine K.fwd.2.ext fun x hx => ?_
      obtain ⟨k, k0, k1, kj, e⟩ := hidx x hx
      rw [hl' x hx _ s2.1 (by omega)]
      exact hold x ⟨k, k0, e⟩ _ s2.1 (by omega) fun e => absurd e.symm s3
    · rw [hroot _ s2.1 (by omega), at', if_neg (by omega), if_neg (by omega), if_neg (by omega), hr6]
      cases hll : l' with
      | nil => rw [if_pos rfl]; rfl
      | cons y l2 =>
        rw [if_neg (by simp), ← hll]
        have hb := K.bwd
        rw [List.reverse_cons] at hb
        refine Lk.unsnoc hb (fun x hx => ?_) (by rw [← List.reverse_cons]; exact nd_rev K.nd) (by rw [hll]; simp)
        have hx := List.mem_reverse.1 hx
        obtain ⟨k, k0, k1, kj, e⟩ := hidx x hx
        rw [hl' x hx _ s1.1 (by omega), List.getLast?_reverse]
        by_cases e' : l'.head? = some x
        · rw [if_pos e'.symm, hnode x _ ⟨k, e, k0⟩ s1.1 (by omega)]
          exact hx6 x e'
        · rw [if_neg (fun h => e' h.symm)]
          exact hold x ⟨k, k0, e⟩ _ s1.1 (by omega) fun _ => e'
    · exact List.map_congr_left fun x hx => by
        obtain ⟨k, k0, k1, kj, e⟩ := hidx x hx
        rw [hl' x hx 2 (by omega) (by omega)]
        exact (hold x ⟨k, k0, e⟩ 2 (by omega) (by omega) fun e => by omega).symm
    · rw [hroot 2 (by omega) (by omega), at', if_neg (by omega), if_pos rfl]
    · rw [hroot 7 (by omega) (by omega), at', if_pos rfl]
    · intro x hx
      obtain ⟨h1, h2⟩ := H x (List.mem_cons_of_mem _ hx)
      refine ⟨h1, fun hm => ?_⟩
      rcases List.mem_cons.1 hm with e | hm
      · exact hnl (e ▸ hx)
      · exact h2 hm
    · intro a ha1 ha2 ha3
      have b0 := ha1 0 (by omega) (by omega)
      have b3 := ha3 n (List.mem_cons_self ..) 0 (by omega) (by omega)
      rw [hf' a (by omega) (ha1 2 (by omega) (by omega)) (by omega), hf a ha2]
      exact hm6 a (ha2 _ s2.1 (by omega)) fun x hx => ha3 x (List.mem_cons_of_mem _ (List.mem_of_head? hx)) _ s1.1 (by omega)
  rw [hnx]
  cases hll : l' with
  | nil =>
    rw [show (([] : List Int).head?.getD 0) = 0 from rfl, if_pos rfl]
    refine wp_put S2 (hRD _ s2.1 (by omega)) ⟨by decide, by decide⟩ (by omega) fun σ6 S => ?_
    rw [hll] at tail
    refine tail σ6 _ _ (by omega) S (fun a a1 _ => upd_ne _ _ a1) ?_ (fun x hx => by cases hx)
    rw [upd_eq, if_pos rfl]
  | cons x l2 =>
    rw [hll] at hidx tail
    obtain ⟨i, i0, i1, hij, e⟩ := hidx x (List.mem_cons_self ..)
    have hxN : isN p x := ⟨i, i0, by omega, e⟩
    rw [show ((x :: l2).head?.getD 0) = x from rfl, if_neg (by omega), if_pos (isN_node g hxN)]
    refine wp_put S2 (hD.n x hxN _ s1.1 (by omega)) ⟨by decide, by decide⟩ (by omega) fun σ6 S => ?_
    refine tail σ6 _ _ (by omega) S (fun a a1 a2 => upd_ne _ _ (a2 x rfl)) ?_ (fun y hy => ?_)
    · rw [upd_ne _ _ (by omega), if_neg (by simp)]
    · have hy : x = y := by simpa using hy
      subst hy
      rw [upd_eq]
theorem wp_dPeek (S : Sm D σ σ m 0) (P : PoolR m p fr out) (hD : PoolD D p) (hRD : RootD D root) (K : DQ m root r l vs) (H : Held p fr out l) :
    wp (dPeek root r) σ fun e σ' => Sm D σ σ' m 0 ∧ ((∃ v vs', vs = v :: vs' ∧ e = (v, 0)) ∨ (vs = [] ∧ e = (0, 8))) := by
  have s1 := sd_in r
  have g := P.good
  have g1 := g.f1
  have hp1 := P.out1
  unfold dPeek
  refine wp_get S (hRD _ s1.1 (by omega)) fun σ1 S1 => ?_
  cases l with
  | nil =>
    have e0 : m (root + sd r) = 0 := K.fwd
    rw [e0, if_pos rfl]
    exact ⟨S1, .inr ⟨K.val, rfl⟩⟩
  | cons n l' =>
    obtain ⟨⟨j, j0, j1, ej⟩, _⟩ := H n (List.mem_cons_self ..)
    have hnN : isN p n := ⟨j, j0, by omega, ej⟩
    have g2 := g.f2; have g3 := g.n1
    rw [K.fwd.1, if_neg (by omega), w64_R ⟨by omega, by omega⟩]
    refine wp_get S1 (hD.n n hnN 2 (by omega) (by omega)) fun σ2 S2 => ?_
    exact ⟨S2, .inl ⟨_, _, K.val, rfl⟩⟩
theorem wp_dLoop (g : p.good) (hD : PoolD D p) : ∀ (l : List Int) (k : Nat) (a : Int) (acc : List Int) (σ' : Spc), Sm D σ σ' m c → Lk m (sd !r) a l → (∀ x ∈ l, isN p x) → l.length ≤ k →
    wp (dLoop p r k a acc) σ' fun o σ2 => o = some (acc ++ l.map fun x => m (x + 2)) ∧ Sm D σ σ2 m c
  | [], k, a, acc, σ', S, h, _, _ => by
    have e : a = 0 := h
    cases k with
    | zero => unfold dLoop; rw [if_pos e]; exact ⟨by simp, S⟩
    | succ k => unfold dLoop; rw [if_pos e]; exact ⟨by simp, S⟩
  | x :: l, k, a, acc, σ', S, h, hN, hl => by
    have s2 := sd_in (!r)
    obtain ⟨rfl, h⟩ := h
    have hx := hN a (List.mem_cons_self ..)
    have hp := isN_pos g hx
    cases k with
    | zero => simp at hl
    | succ k =>
      unfold dLoop
      rw [if_neg (by omega), if_pos (isN_node g hx)]
      refine wp_get S (hD.n a hx 2 (by omega) (by omega)) fun σ1 S => ?_
      refine wp_get S (hD.n a hx _ s2.1 (by omega)) fun σ2 S => ?_
      refine Prog.wp_mono (wp_dLoop g hD l k _ _ _ S h (fun y hy => hN y (List.mem_cons_of_mem _ hy)) (by simpa using hl)) fun o σ3 ⟨e, S⟩ => ⟨by rw [e, List.append_assoc]; rfl, S⟩
theorem wp_dWalk (S : Sm D σ σ m 0) (P : PoolR m p fr out) (hD : PoolD D p) (hRD : RootD D root) (K : DQ m root r l vs) (H : Held p fr out l) : wp (dWalk p root r) σ fun o σ' => o = some vs ∧ Sm D σ σ' m 0 := by
  have s1 := sd_in r
  have hp1 := P.out1
  unfold dWalk
  refine wp_get S (hRD _ s1.1 (by omega)) fun σ1 S1 => ?_
  have hlen := nodes_len (fun x hx => (H x hx).1) K.nd P.out0
  refine Prog.wp_mono (wp_dLoop P.good hD l _ _ [] _ S1 K.fwd (fun x hx => by obtain ⟨⟨i, i0, i1, e⟩, _⟩ := H x hx; exact ⟨i, i0, by omega, e⟩) (by omega)) fun o σ2 ⟨e, S⟩ => ⟨by rw [e, K.val]; rfl, S⟩
end
end Go.En
namespace Go.En
open Prog Spc

/-! ### The state of one operation -/
inductive Wk where
  | ok (n : Fin 1000001)
  | no (l : Int)
def Wk.lose : Wk → Wk
  | .ok n => .no n.val
  | .no l => .no l
def Wk.lost : Wk → Bool
  | .ok _ => false
  | .no _ => true
def tIs (p : Pl) (w : Wk) (a : Int) : Bool × Wk :=
  match w with
  | .no l => (false, .no l)
  | .ok n => if a = 0 then (false, .ok n) else if (p.node a).isSome = true ∧ 1 ≤ n.val then (true, .ok ⟨n.val - 1, by have := n.isLt; omega⟩) else (false, .no ((n.val : Int) - 1))
def rkB (x : BitVec 64) : BitVec 64 :=
  let y := (x ^^^ (x >>> 33)) * 18397679294719823053#64
  y ^^^ (y >>> 33)
/-- the rank of a key -/
def rk (k : Int) : Int := (rkB (BitVec.ofInt 64 k)).toNat
/-- the cell of the child that leads to a key -/
def kidc (k key : Int) : Int := if k < key then 2 else 3

/-! ### Programs -/
section
variable (p : Pl)
def tOf (w : Wk) (a cell : Int) : Prog (Int × Wk) := if (tIs p w a).1 = true then gt (a + cell) >>= fun v => pure (v, (tIs p w a).2) else pure (0, (tIs p w a).2)
def tRefT (w : Wk) (a l r : Int) : Prog Wk :=
  gt (a + 1) >>= fun v => tOf p w l 5 >>= fun s1 => tOf p s1.2 r 5 >>= fun s2 => pt (a + 5) (w64 (w64 (v + s1.1) + s2.1)) >>= fun _ => pure s2.2
def tRef (w : Wk) (a : Int) : Prog Wk :=
  gt (a + 2) >>= fun l => gt (a + 3) >>= fun r => tOf p w l 4 >>= fun c1 => tOf p c1.2 r 4 >>= fun c2 => pt (a + 4) (w64 (w64 (1 + c1.1) + c2.1)) >>= fun _ => tRefT p c2.2 a l r
def tSpl (k : Int) : Nat → Wk → Int → Prog ((Int × Int) × Wk)
  | 0, w, _ => pure ((0, 0), w)
  | n + 1, w, a =>
    if (tIs p w a).1 = true then gt a >>= fun x =>
      if x < k then gt (a + 3) >>= fun r => tSpl k n (tIs p w a).2 r >>= fun s => pt (a + 3) s.1.1 >>= fun _ => tRef p s.2 a >>= fun w => pure ((a, s.1.2), w)
      else gt (a + 2) >>= fun l => tSpl k n (tIs p w a).2 l >>= fun s => pt (a + 2) s.1.2 >>= fun _ => tRef p s.2 a >>= fun w => pure ((s.1.1, a), w)
    else pure ((0, 0), (tIs p w a).2)
def tMrg : Nat → Wk → Int → Int → Prog (Int × Wk)
  | 0, w, _, b => pure (b, w)
  | n + 1, w, a, b =>
    if (tIs p w a).1 = true then
      let w := (tIs p w a).2
      if (tIs p w b).1 = true then
        let w := (tIs p w b).2
        gt a >>= fun x => gt b >>= fun y =>
          if rk y < rk x then gt (a + 3) >>= fun r => tMrg n w r b >>= fun s => pt (a + 3) s.1 >>= fun _ => tRef p s.2 a >>= fun w => pure (a, w)
          else gt (b + 2) >>= fun l => tMrg n w a l >>= fun s => pt (b + 2) s.1 >>= fun _ => tRef p s.2 b >>= fun w => pure (b, w)
      else pure (a, (tIs p w b).2)
    else pure (b, (tIs p w a).2)
/-- the search path -/
def tPathL (k : Int) : Nat → Wk → Int → List (Int × Int) → Prog (List (Int × Int) × Wk)
  | 0, w, a, acc => pure (acc, if (tIs p w a).1 = true then (tIs p w a).2.lose else (tIs p w a).2)
  | n + 1, w, a, acc => if (tIs p w a).1 = true then gt a >>= fun x => if x = k then pure (acc ++ [(a, x)], (tIs p w a).2) else gt (a + kidc k x) >>= fun b => tPathL k n (tIs p w a).2 b (acc ++ [(a, x)]) else pure (acc, (tIs p w a).2)
def tPath (root k : Int) (w : Wk) : Prog (List (Int × Int) × Wk) := gt root >>= fun a => tPathL p k p.nodes.toNat w a []
end
/-- counts and sums along a path -/
def tAdd (n v : Int) : List (Int × Int) → Prog Unit
  | [] => pure ()
  | x :: l => (if n ≠ 0 then gt (x.1 + 4) >>= fun c => pt (x.1 + 4) (w64 (c + n)) else pure ()) >>= fun _ => (if v ≠ 0 then gt (x.1 + 5) >>= fun c => pt (x.1 + 5) (w64 (c + v)) else pure ()) >>= fun _ => tAdd n v l
def tHang (root k a : Int) (l : List (Int × Int)) : Prog Unit :=
  match l.getLast? with
  | none => pt root a
  | some x => pt (x.1 + kidc k x.2) a

/-! ### Trees -/
inductive Tr where
  | nil
  | nd (a : Int) (l : Tr) (k v : Int) (r : Tr)
namespace Tr
def at' : Tr → Int
  | .nil => 0
  | .nd a _ _ _ _ => a
def ks : Tr → List (Int × Int)
  | .nil => []
  | .nd _ l k v r => l.ks ++ (k, v) :: r.ks
def ns : Tr → List Int
  | .nil => []
  | .nd a l _ _ r => l.ns ++ a :: r.ns
def sz : Tr → Nat
  | .nil => 0
  | .nd _ l _ _ r => l.sz + r.sz + 1
def sm : Tr → Int
  | .nil => 0
  | .nd _ l _ v r => l.sm + v + r.sm
end Tr
/-- a node's cells -/
structure Nc (m : Int → Int) (a k v l r : Int) (sz : Nat) (sm : Int) : Prop where
  k : m a = k
  v : m (a + 1) = v
  l : m (a + 2) = l
  r : m (a + 3) = r
  c : m (a + 4) = sz
  s : m (a + 5) = w64 sm
def TR (m : Int → Int) : Tr → Prop
  | .nil => True
  | .nd a l k v r => Nc m a k v l.at' r.at' (l.sz + r.sz + 1) (l.sm + v + r.sm) ∧ TR m l ∧ TR m r
section
variable {m m' : Int → Int} {a k v l r : Int} {sz : Nat} {sm : Int} {t : Tr}
theorem Nc.ext (H : Nc m a k v l r sz sm) (h : ∀ i, 0 ≤ i → i ≤ 5 → m' (a + i) = m (a + i)) : Nc m' a k v l r sz sm := by
  have h0 := h 0 (by omega) (by omega)
  rw [Int.add_zero] at h0
  exact ⟨by rw [h0]; exact H.k, by rw [h 1 (by omega) (by omega)]; exact H.v, by rw [h 2 (by omega) (by omega)]; exact H.l, by rw [h 3 (by omega) (by omega)]; exact H.r, by rw [h 4 (by omega) (by omega)]; exact H.c, by rw [h 5 (by omega) (by omega)]; exact H.s⟩
theorem TR.ext : ∀ {t : Tr}, TR m t → (∀ x ∈ t.ns, ∀ i, 0 ≤ i → i ≤ 5 → m' (x + i) = m (x + i)) → TR m' t
  | .nil, _, _ => trivial
  | .nd a l k v r, ⟨h1, h2, h3⟩, h => ⟨h1.ext (h a (by simp [Tr.ns])), h2.ext fun x hx => h x (by simp [Tr.ns, hx]), h3.ext fun x hx => h x (by simp [Tr.ns, hx])⟩
theorem Tr.sz_ns : ∀ {t : Tr}, t.ns.length = t.sz
  | .nil => rfl
  | .nd a l k v r => by
    have h1 := Tr.sz_ns (t := l); have h2 := Tr.sz_ns (t := r)
    simp only [Tr.ns, Tr.sz, List.length_append, List.length_cons]
    omega
theorem Tr.sz_ks : ∀ {t : Tr}, t.ks.length = t.sz
  | .nil => rfl
  | .nd a l k v r => by
    have h1 := Tr.sz_ks (t := l); have h2 := Tr.sz_ks (t := r)
    simp only [Tr.ks, Tr.sz, List.length_append, List.length_cons]
    omega
end
theorem w64_3 (v a b : Int) : w64 (w64 (v + w64 a) + w64 b) = w64 (a + v + b) := by
  unfold w64
  simp only [IntKind.wrap_i64]
  omega
theorem w64_0 : w64 0 = 0 := by decide
section
variable {D : Int → Prop} {σ0 σ σ' : Spc} {m m' : Int → Int} {c c' : Nat} {α β : Type} {Q : α → Spc → Prop} {p : Pl} {n : Fin 1000001} {a : Int}
theorem tIs_0 : tIs p (.ok n) 0 = (false, .ok n) := by simp [tIs]
/-- one step of the bound -/
def dn (n : Fin 1000001) : Fin 1000001 := ⟨n.val - 1, by have := n.isLt; omega⟩
theorem dn_val (n : Fin 1000001) : (dn n).val = n.val - 1 := rfl
theorem tIs_nd (g : p.good) (h : isN p a) (hn : 1 ≤ n.val) : tIs p (.ok n) a = (true, .ok (dn n)) := by
  have := isN_pos g h
  unfold tIs
  dsimp only
  rw [if_neg (by omega), if_pos ⟨isN_node g h, hn⟩]; rfl
theorem wp_of {q : Int × Wk → Prog α} {cell x : Int} (S : Sm D σ0 σ m c) (g : p.good) (hD : PoolD D p) (t : Tr) (ht : ∀ x ∈ t.ns, isN p x) (hc : 0 ≤ cell ∧ cell ≤ 7) (hn : 1 ≤ n.val) (h0 : t = .nil → x = 0) (h1 : t ≠ .nil → m (t.at' + cell) = x)
    (h : ∀ n' σ', n.val ≤ n'.val + 1 → Sm D σ0 σ' m c → wp (q (x, .ok n')) σ' Q) : wp (tOf p (.ok n) t.at' cell >>= q) σ Q := by
  unfold tOf
  cases t with
  | nil =>
    have hx := h0 rfl
    rw [show Tr.nil.at' = 0 from rfl, tIs_0, if_neg (by simp)]
    rw [hx] at h
    exact h n σ (by omega) S
  | nd a l k v r =>
    have hN := ht a (by simp [Tr.ns])
    rw [show (Tr.nd a l k v r).at' = a from rfl, tIs_nd g hN hn, if_pos rfl, wp_bind]
    refine wp_get S (hD.n a hN cell hc.1 hc.2) fun σ1 S1 => ?_
    have := h1 (by simp)
    rw [show (Tr.nd a l k v r).at' = a from rfl] at this
    rw [this]
    exact h _ σ1 (by rw [dn_val]; omega) S1
theorem TR.c4 {t : Tr} (H : TR m t) (h : t ≠ .nil) : m (t.at' + 4) = t.sz := by
  cases t with
  | nil => exact absurd rfl h
  | nd a l k v r => exact H.1.c
theorem TR.c5 {t : Tr} (H : TR m t) (h : t ≠ .nil) : m (t.at' + 5) = w64 t.sm := by
  cases t with
  | nil => exact absurd rfl h
  | nd a l k v r => exact H.1.s
/-- a node's count and sum anew -/
theorem wp_ref {q : Wk → Prog α} {l r : Tr} {v : Int} (S : Sm D σ0 σ m c) (g : p.good) (hD : PoolD D p) (ha : isN p a) (hl : ∀ x ∈ l.ns, isN p x) (hr : ∀ x ∈ r.ns, isN p x) (hal : a ∉ l.ns) (har : a ∉ r.ns) (h1 : m (a + 1) = v) (h2 : m (a + 2) = l.at') (h3 : m (a + 3) = r.at') (Hl : TR m l) (Hr : TR m r)
    (hs : l.sz + r.sz ≤ 1000000) (hn : 4 ≤ n.val) (hb : σ0.pu.length + c + 2 ≤ big)
    (h : ∀ n' σ', n.val ≤ n'.val + 4 → Sm D σ0 σ' (upd (upd m (a + 4) (l.sz + r.sz + 1 : Nat)) (a + 5) (w64 (l.sm + v + r.sm))) (c + 2) → wp (q (.ok n')) σ' Q) : wp (tRef p (.ok n) a >>= q) σ Q := by
  have hD' := fun i (hi : 0 ≤ i ∧ i ≤ 7) => hD.n a ha i hi.1 hi.2
  unfold tRef
  rw [wp_bind]
  refine wp_get S (hD' 2 (by omega)) fun σ1 S => ?_
  refine wp_get S (hD' 3 (by omega)) fun σ1 S => ?_
  rw [h2, h3]
  refine wp_of (x := l.sz) S g hD l hl (by omega) (by omega) (fun e => by rw [e]; rfl) (fun e => Hl.c4 e) fun n1 σ1 e1 S => ?_
  refine wp_of (x := r.sz) S g hD r hr (by omega) (by omega) (fun e => by rw [e]; rfl) (fun e => Hr.c4 e) fun n2 σ1 e2 S => ?_
  have ew : w64 (w64 (1 + (l.sz : Int)) + r.sz) = ((l.sz + r.sz + 1 : Nat) : Int) := by
    rw [w64_R (z := 1 + (l.sz : Int)) ⟨by omega, by omega⟩, w64_R ⟨by omega, by omega⟩]; omega
  rw [ew]
  refine wp_put S (hD' 4 (by omega)) ⟨by omega, by omega⟩ (by omega) fun σ1 S => ?_
  unfold tRefT
  refine wp_get S (hD' 1 (by omega)) fun σ1 S => ?_
  rw [upd_ne _ _ (by omega), h1]
  have hne : ∀ {t : Tr} {i : Int}, (∀ x ∈ t.ns, isN p x) → a ∉ t.ns → 0 ≤ i ∧ i ≤ 7 → t ≠ .nil → t.at' + i ≠ a + 4 := fun {t i} hN hno hi hnn => by
    cases t with
    | nil => exact absurd rfl hnn
    | nd b l' k' v' r' =>
      have hb : b ∈ (Tr.nd b l' k' v' r').ns := by simp [Tr.ns]
      exact isN_ne (hN b hb) ha (fun e => hno (e ▸ hb)) hi ⟨by decide, by decide⟩
  refine wp_of (n := n2) (x := w64 l.sm) (cell := 5) S g hD l hl ⟨by decide, by decide⟩ (by omega) (fun e => by rw [e]; exact w64_0) (fun e => by rw [upd_ne _ _ (hne hl hal ⟨by decide, by decide⟩ e)]; exact Hl.c5 e) fun n3 σ1 e3 S => ?_
  refine wp_of (n := n3) (x := w64 r.sm) (cell := 5) S g hD r hr ⟨by decide, by decide⟩ (by omega) (fun e => by rw [e]; exact w64_0) (fun e => by rw [upd_ne _ _ (hne hr har ⟨by decide, by decide⟩ e)]; exact Hr.c5 e) fun n4 σ1 e4 S => ?_
  rw [w64_3]
  refine wp_put S (hD' 5 (by omega)) (w64_in _) (by omega) fun σ1 S => ?_
  exact h n4 σ1 (by omega) S
end
end Go.En
namespace Go.En
open Prog Spc

def spl (k : Int) : Tr → Tr × Tr
  | .nil => (.nil, .nil)
  | .nd a l x v r => if x < k then (.nd a l x v (spl k r).1, (spl k r).2) else ((spl k l).1, .nd a (spl k l).2 x v r)
def mrgF (f : Int → Int) : Tr → Tr → Tr
  | .nil, b => b
  | .nd a l x v r, .nil => .nd a l x v r
  | .nd a l x v r, .nd b l' y w r' => if f y < f x then .nd a l x v (mrgF f r (.nd b l' y w r')) else .nd b (mrgF f (.nd a l x v r) l') y w r'
termination_by a b => a.sz + b.sz
decreasing_by all_goals simp only [Tr.sz]; omega
theorem spl_ns {k : Int} : ∀ {t : Tr}, (spl k t).1.ns ++ (spl k t).2.ns = t.ns
  | .nil => rfl
  | .nd a l x v r => by
    have h1 := spl_ns (k := k) (t := l); have h2 := spl_ns (k := k) (t := r)
    unfold spl
    split <;> simp only [Tr.ns]
    · rw [List.append_assoc, List.cons_append, h2]
    · rw [← List.append_assoc, h1]
theorem spl_ks {k : Int} : ∀ {t : Tr}, (spl k t).1.ks ++ (spl k t).2.ks = t.ks
  | .nil => rfl
  | .nd a l x v r => by
    have h1 := spl_ks (k := k) (t := l); have h2 := spl_ks (k := k) (t := r)
    unfold spl
    split <;> simp only [Tr.ks]
    · rw [List.append_assoc, List.cons_append, h2]
    · rw [← List.append_assoc, h1]
theorem spl_sz {k : Int} : ∀ {t : Tr}, (spl k t).1.sz + (spl k t).2.sz = t.sz
  | .nil => rfl
  | .nd a l x v r => by
    have h1 := spl_sz (k := k) (t := l); have h2 := spl_sz (k := k) (t := r)
    unfold spl
    split <;> simp only [Tr.sz] <;> omega
theorem spl_sm {k : Int} : ∀ {t : Tr}, (spl k t).1.sm + (spl k t).2.sm = t.sm
  | .nil => rfl
  | .nd a l x v r => by
    have h1 := spl_sm (k := k) (t := l); have h2 := spl_sm (k := k) (t := r)
    unfold spl
    split <;> simp only [Tr.sm] <;> omega
theorem mrg_nil {f : Int → Int} {a : Tr} : mrgF f a .nil = a := by cases a <;> (rw [mrgF])
theorem mrg_ns (f : Int → Int) : ∀ (a b : Tr), (mrgF f a b).ns = a.ns ++ b.ns
  | .nil, b => by rw [mrgF]; rfl
  | .nd a l x v r, .nil => by rw [mrgF]; simp [Tr.ns]
  | .nd a l x v r, .nd b l' y w r' => by
    have h1 := mrg_ns f r (.nd b l' y w r'); have h2 := mrg_ns f (.nd a l x v r) l'
    rw [mrgF]
    split
    · simp only [Tr.ns, h1, List.append_assoc, List.cons_append]
    · simp only [Tr.ns, h2, List.append_assoc, List.cons_append]
termination_by a b => a.sz + b.sz
decreasing_by all_goals simp only [Tr.sz]; omega
theorem mrg_ks (f : Int → Int) : ∀ (a b : Tr), (mrgF f a b).ks = a.ks ++ b.ks
  | .nil, b => by rw [mrgF]; rfl
  | .nd a l x v r, .nil => by rw [mrgF]; simp [Tr.ks]
  | .nd a l x v r, .nd b l' y w r' => by
    have h1 := mrg_ks f r (.nd b l' y w r'); have h2 := mrg_ks f (.nd a l x v r) l'
    rw [mrgF]
    split
    · simp only [Tr.ks, h1, List.append_assoc, List.cons_append]
    · simp only [Tr.ks, h2, List.append_assoc, List.cons_append]
termination_by a b => a.sz + b.sz
decreasing_by all_goals simp only [Tr.sz]; omega
theorem mrg_sz {f : Int → Int} {a b : Tr} : (mrgF f a b).sz = a.sz + b.sz := by
  rw [← Tr.sz_ns, mrg_ns, List.length_append, Tr.sz_ns, Tr.sz_ns]
theorem mrg_sm (f : Int → Int) : ∀ (a b : Tr), (mrgF f a b).sm = a.sm + b.sm
  | .nil, b => by rw [mrgF]; simp [Tr.sm]
  | .nd a l x v r, .nil => by rw [mrgF]; simp [Tr.sm]
  | .nd a l x v r, .nd b l' y w r' => by
    have h1 := mrg_sm f r (.nd b l' y w r'); have h2 := mrg_sm f (.nd a l x v r) l'
    rw [mrgF]
    split
    · simp only [Tr.sm] at *; omega
    · simp only [Tr.sm] at *; omega
termination_by a b => a.sz + b.sz
decreasing_by all_goals simp only [Tr.sz]; omega
/-- merging by the ranks of the keys -/
abbrev mrg (a b : Tr) : Tr := mrgF rk a b
theorem spl_sub1 {k : Int} {t : Tr} {x : Int} (h : x ∈ (spl k t).1.ns) : x ∈ t.ns := by rw [← spl_ns (k := k)]; exact List.mem_append_left _ h
theorem spl_sub2 {k : Int} {t : Tr} {x : Int} (h : x ∈ (spl k t).2.ns) : x ∈ t.ns := by rw [← spl_ns (k := k)]; exact List.mem_append_right _ h
/-- what a node and the rest of a tree have to do with each other -/
theorem nd_parts {a k v : Int} {l r : Tr} (h : (Tr.nd a l k v r).ns.Nodup) : l.ns.Nodup ∧ r.ns.Nodup ∧ a ∉ l.ns ∧ a ∉ r.ns ∧ ∀ x ∈ l.ns, x ∉ r.ns := by
  have h : (l.ns ++ a :: r.ns).Nodup := h
  obtain ⟨h1, h2, h3⟩ := List.nodup_append.1 h
  obtain ⟨h4, h5⟩ := List.nodup_cons.1 h2
  exact ⟨h1, h5, fun ha => h3 a ha a (List.mem_cons_self ..) rfl, h4, fun x hx hr => h3 x hx x (List.mem_cons_of_mem _ hr) rfl⟩
theorem in_l {a k v x : Int} {l r : Tr} (h : x ∈ l.ns) : x ∈ (Tr.nd a l k v r).ns := List.mem_append_left _ h
theorem in_r {a k v x : Int} {l r : Tr} (h : x ∈ r.ns) : x ∈ (Tr.nd a l k v r).ns := List.mem_append_right _ (List.mem_cons_of_mem _ h)
theorem in_a {a k v : Int} {l r : Tr} : a ∈ (Tr.nd a l k v r).ns := List.mem_append_right _ (List.mem_cons_self ..)
section
variable {D : Int → Prop} {σ0 σ' : Spc} {m' : Int → Int} {c' : Nat} {p : Pl} {k : Int}
/-- nothing but the links, counts and sums of nodes is turned -/
abbrev Frm (t : List Int) (m m' : Int → Int) : Prop := ∀ b, (∀ x ∈ t, ∀ i, 2 ≤ i → i ≤ 5 → b ≠ x + i) → m' b = m b
theorem TR.frm {m : Int → Int} {t : Tr} {l : List Int} (H : TR m t) (ht : ∀ x ∈ t.ns, isN p x) (hl : ∀ x ∈ l, isN p x) (hd : ∀ x ∈ t.ns, x ∉ l) (h : Frm l m m') : TR m' t :=
  H.ext fun x hx i h0 h5 => h _ fun y hy j j2 j5 => isN_ne (ht x hx) (hl y hy) (fun e => hd x hx (e ▸ hy)) ⟨h0, by omega⟩ ⟨by omega, by omega⟩
theorem Nc.frm {m : Int → Int} {a k v l r : Int} {sz : Nat} {sm : Int} {ls : List Int} (H : Nc m a k v l r sz sm) (ha : isN p a) (hl : ∀ x ∈ ls, isN p x) (hd : a ∉ ls) (h : Frm ls m m') : Nc m' a k v l r sz sm :=
  H.ext fun i h0 h5 => h _ fun y hy j j2 j5 => isN_ne ha (hl y hy) (fun e => hd (e ▸ hy)) ⟨h0, by omega⟩ ⟨by omega, by omega⟩
theorem wp_spl (g : p.good) (hD : PoolD D p) : ∀ (t : Tr) (fuel : Nat) {α : Type} {Q : α → Spc → Prop} {q : (Int × Int) × Wk → Prog α} {n : Fin 1000001} {σ : Spc} {m : Int → Int} {c : Nat},
    Sm D σ0 σ m c → TR m t → (∀ x ∈ t.ns, isN p x) → t.ns.Nodup → 5 * t.sz ≤ n.val → t.sz < fuel → σ0.pu.length + c + 3 * t.sz ≤ big →
    (∀ n' σ' m', n.val ≤ n'.val + 5 * t.sz → Sm D σ0 σ' m' (c + 3 * t.sz) → TR m' (spl k t).1 → TR m' (spl k t).2 → Frm t.ns m m' → wp (q (((spl k t).1.at', (spl k t).2.at'), .ok n')) σ' Q) →
    wp (tSpl p k fuel (.ok n) t.at' >>= q) σ Q
  | _, 0, α, Q, q, n, σ, m, c, S, H, hN, hd, hn, hf, hb, h => absurd hf (Nat.not_lt_zero _)
  | .nil, fuel + 1, α, Q, q, n, σ, m, c, S, H, hN, hd, hn, hf, hb, h => by
    unfold tSpl
    rw [show Tr.nil.at' = 0 from rfl, tIs_0, if_neg (by simp)]
    exact h n σ m (by omega) (S.mono (by omega)) trivial trivial fun _ _ => rfl
  | .nd a l x v r, fuel + 1, α, Q, q, n, σ, m, c, S, H, hN, hd, hn, hf, hb, h => by
    obtain ⟨hdl, hdr, hal, har, hlr⟩ := nd_parts hd
    obtain ⟨Ha, Hl, Hr⟩ := H
    have ha := hN a in_a
    have hNl : ∀ y ∈ l.ns, isN p y := fun y hy => hN y (in_l hy)
    have hNr : ∀ y ∈ r.ns, isN p y := fun y hy => hN y (in_r hy)
    have hsz : (Tr.nd a l x v r).sz = l.sz + r.sz + 1 := rfl
    have hD' := fun i (hi : 0 ≤ i ∧ i ≤ 7) => hD.n a ha i hi.1 hi.2
    have hD0 := hD' 0 (by omega)
    rw [Int.add_zero] at hD0
    have hn1 := n.isLt
    rw [hsz] at hn hf hb h
    unfold tSpl
    rw [show (Tr.nd a l x v r).at' = a from rfl, tIs_nd g ha (by omega), if_pos rfl, wp_bind]
    refine wp_get S hD0 fun σ1 S => ?_
    rw [Ha.k]
    have e1 := spl_sz (k := k) (t := l); have e2 := spl_sz (k := k) (t := r)
    have s1 := spl_sm (k := k) (t := l); have s2 := spl_sm (k := k) (t := r)
    by_cases hx : x < k
    · have es : spl k (.nd a l x v r) = (.nd a l x v (spl k r).1, (spl k r).2) := by rw [spl, if_pos hx]
      rw [es] at h
      rw [if_pos hx]
      refine wp_get S (hD' 3 (by omega)) fun σ1 S => ?_
      rw [Ha.r]
      refine wp_spl g hD r fuel S Hr hNr hdr (by rw [dn_val]; omega) (by omega) (by omega) fun n1 σ2 m2 hn2 S2 T1 T2 hfr => ?_
      rw [dn_val] at hn2
      have Ha2 := Ha.frm ha hNr har hfr
      have Hl2 := Hl.frm hNl hNr hlr hfr
      have hN1 : ∀ y ∈ (spl k r).1.ns, isN p y := fun y hy => hNr y (spl_sub1 hy)
      have hR1 : R64 (spl k r).1.at' := by
        cases hc : (spl k r).1 with
        | nil => exact ⟨by decide, by decide⟩
        | nd b l' y w r' => have := isN_pos g (hN1 b (by rw [hc]; exact in_a)); exact ⟨by show _ ≤ b; omega, by show b ≤ _; omega⟩
      refine wp_put S2 (hD' 3 (by omega)) hR1 (by omega) fun σ3 S3 => ?_
      have hu : ∀ (u : Tr), (∀ y ∈ u.ns, isN p y) → a ∉ u.ns → TR m2 u → TR (upd m2 (a + 3) (spl k r).1.at') u := fun u hu hau Hu => Hu.ext fun y hy i h0 h5 => upd_ne _ _ (isN_ne (hu y hy) ha (fun e => hau (e ▸ hy)) ⟨h0, by omega⟩ ⟨by decide, by decide⟩)
      have ha1 : a ∉ (spl k r).1.ns := fun h => har (spl_sub1 h)
      have ha2 : a ∉ (spl k r).2.ns := fun h => har (spl_sub2 h)
      have hN2 : ∀ y ∈ (spl k r).2.ns, isN p y := fun y hy => hNr y (spl_sub2 hy)
      refine wp_ref (l := l) (r := (spl k r).1) (v := v) S3 g hD ha hNl hN1 hal ha1 (by rw [upd_ne _ _ (by omega)]; exact Ha2.v) (by rw [upd_ne _ _ (by omega)]; exact Ha2.l) (upd_eq _ _ _) (hu _ hNl hal Hl2) (hu _ hN1 ha1 T1) (by omega) (by omega) (by omega) fun n4 σ4 hn4 S4 => ?_
      have hv : ∀ (u : Tr), (∀ y ∈ u.ns, isN p y) → a ∉ u.ns → TR m2 u → TR (upd (upd (upd m2 (a + 3) (spl k r).1.at') (a + 4) (l.sz + (spl k r).1.sz + 1 : Nat)) (a + 5) (w64 (l.sm + v + (spl k r).1.sm))) u := fun u hu' hau Hu => by
        refine (hu u hu' hau Hu).ext fun y hy i h0 h5 => ?_
        have hne : y ≠ a := fun e => hau (e ▸ hy)
        rw [upd_ne _ _ (isN_ne (hu' y hy) ha hne ⟨h0, by omega⟩ ⟨by decide, by decide⟩), upd_ne _ _ (isN_ne (hu' y hy) ha hne ⟨h0, by omega⟩ ⟨by decide, by decide⟩)]
      refine h n4 σ4 _ (by omega) (S4.mono (by omega)) ⟨?_, hv _ hNl hal Hl2, hv _ hN1 ha1 T1⟩ (hv _ hN2 ha2 T2) fun b hb => ?_
      · refine ⟨?_, ?_, ?_, ?_, ?_, upd_eq _ _ _⟩
        · rw [upd_ne _ _ (by omega), upd_ne _ _ (by omega), upd_ne _ _ (by omega)]; exact Ha2.k
        · rw [upd_ne _ _ (by omega), upd_ne _ _ (by omega), upd_ne _ _ (by omega)]; exact Ha2.v
        · rw [upd_ne _ _ (by omega), upd_ne _ _ (by omega), upd_ne _ _ (by omega)]; exact Ha2.l
        · rw [upd_ne _ _ (by omega), upd_ne _ _ (by omega), upd_eq]
        · rw [upd_ne _ _ (by omega), upd_eq]
      · have h3 := hb a in_a 3 (by omega) (by omega); have h4 := hb a in_a 4 (by omega) (by omega); have h5 := hb a in_a 5 (by omega) (by omega)
        rw [upd_ne _ _ h5, upd_ne _ _ h4, upd_ne _ _ h3]
        exact hfr b fun y hy => hb y (in_r hy)
    · have es : spl k (.nd a l x v r) = ((spl k l).1, .nd a (spl k l).2 x v r) := by rw [spl, if_neg hx]
      rw [es] at h
      rw [if_neg hx]
      refine wp_get S (hD' 2 (by omega)) fun σ1 S => ?_
      rw [Ha.l]
      refine wp_spl g hD l fuel S Hl hNl hdl (by rw [dn_val]; omega) (by omega) (by omega) fun n1 σ2 m2 hn2 S2 T1 T2 hfr => ?_
      rw [dn_val] at hn2
      have hrl : ∀ x ∈ r.ns, x ∉ l.ns := fun x hx hl => hlr x hl hx
      have Ha2 := Ha.frm ha hNl hal hfr
      have Hr2 := Hr.frm hNr hNl hrl hfr
      have hN1 : ∀ y ∈ (spl k l).1.ns, isN p y := fun y hy => hNl y (spl_sub1 hy)
      have hN2 : ∀ y ∈ (spl k l).2.ns, isN p y := fun y hy => hNl y (spl_sub2 hy)
      have hR1 : R64 (spl k l).2.at' := by
        cases hc : (spl k l).2 with
        | nil => exact ⟨by decide, by decide⟩
        | nd b l' y w r' => have := isN_pos g (hN2 b (by rw [hc]; exact in_a)); exact ⟨by show _ ≤ b; omega, by show b ≤ _; omega⟩
      refine wp_put S2 (hD' 2 (by omega)) hR1 (by omega) fun σ3 S3 => ?_
      have hu : ∀ (u : Tr), (∀ y ∈ u.ns, isN p y) → a ∉ u.ns → TR m2 u → TR (upd m2 (a + 2) (spl k l).2.at') u := fun u hu hau Hu => Hu.ext fun y hy i h0 h5 => upd_ne _ _ (isN_ne (hu y hy) ha (fun e => hau (e ▸ hy)) ⟨h0, by omega⟩ ⟨by decide, by decide⟩)
      have ha1 : a ∉ (spl k l).1.ns := fun h => hal (spl_sub1 h)
      have ha2 : a ∉ (spl k l).2.ns := fun h => hal (spl_sub2 h)
      refine wp_ref (l := (spl k l).2) (r := r) (v := v) S3 g hD ha hN2 hNr ha2 har (by rw [upd_ne _ _ (by omega)]; exact Ha2.v) (upd_eq _ _ _) (by rw [upd_ne _ _ (by omega)]; exact Ha2.r) (hu _ hN2 ha2 T2) (hu _ hNr har Hr2) (by omega) (by omega) (by omega) fun n4 σ4 hn4 S4 => ?_
      have hv : ∀ (u : Tr), (∀ y ∈ u.ns, isN p y) → a ∉ u.ns → TR m2 u → TR (upd (upd (upd m2 (a + 2) (spl k l).2.at') (a + 4) ((spl k l).2.sz + r.sz + 1 : Nat)) (a + 5) (w64 ((spl k l).2.sm + v + r.sm))) u := fun u hu' hau Hu => by
        refine (hu u hu' hau Hu).ext fun y hy i h0 h5 => ?_
        have hne : y ≠ a := fun e => hau (e ▸ hy)
        rw [upd_ne _ _ (isN_ne (hu' y hy) ha hne ⟨h0, by omega⟩ ⟨by decide, by decide⟩), upd_ne _ _ (isN_ne (hu' y hy) ha hne ⟨h0, by omega⟩ ⟨by decide, by decide⟩)]
      refine h n4 σ4 _ (by omega) (S4.mono (by omega)) (hv _ hN1 ha1 T1) ⟨?_, hv _ hN2 ha2 T2, hv _ hNr har Hr2⟩ fun b hb => ?_
      · refine ⟨?_, ?_, ?_, ?_, ?_, upd_eq _ _ _⟩
        · rw [upd_ne _ _ (by omega), upd_ne _ _ (by omega), upd_ne _ _ (by omega)]; exact Ha2.k
        · rw [upd_ne _ _ (by omega), upd_ne _ _ (by omega), upd_ne _ _ (by omega)]; exact Ha2.v
        · rw [upd_ne _ _ (by omega), upd_ne _ _ (by omega), upd_eq]
        · rw [upd_ne _ _ (by omega), upd_ne _ _ (by omega), upd_ne _ _ (by omega)]; exact Ha2.r
        · rw [upd_ne _ _ (by omega), upd_eq]
      · have h2 := hb a in_a 2 (by omega) (by omega); have h4 := hb a in_a 4 (by omega) (by omega); have h5 := hb a in_a 5 (by omega) (by omega)
        rw [upd_ne _ _ h5, upd_ne _ _ h4, upd_ne _ _ h2]
        exact hfr b fun y hy => hb y (in_l hy)
end
end Go.En
namespace Go.En
open Prog Spc

section
variable {D : Int → Prop} {σ0 σ' : Spc} {m' : Int → Int} {c' : Nat} {p : Pl} {k : Int}
theorem at_R (g : p.good) {t : Tr} (h : ∀ x ∈ t.ns, isN p x) : R64 t.at' := by
  cases t with
  | nil => exact ⟨by decide, by decide⟩
  | nd b l' y w r' => have := isN_pos g (h b in_a); exact ⟨by show _ ≤ b; omega, by show b ≤ _; omega⟩
theorem Frm.mono {l l' : List Int} {m m' : Int → Int} (h : Frm l m m') (s : ∀ x ∈ l, x ∈ l') : Frm l' m m' := fun b hb => h b fun x hx => hb x (s x hx)
theorem Frm.trans {l : List Int} {m m1 m2 : Int → Int} (h1 : Frm l m m1) (h2 : Frm l m1 m2) : Frm l m m2 := fun b hb => (h2 b hb).trans (h1 b hb)
section
variable {α : Type} {Q : α → Spc → Prop} {q : Wk → Prog α} {n : Fin 1000001} {σ : Spc} {m : Int → Int} {c : Nat} {a x v z sm : Int} {sz : Nat} {l r : Tr}
theorem wp_setR (g : p.good) (hD : PoolD D p) (S : Sm D σ0 σ m c) (ha : isN p a) (Ha : Nc m a x v l.at' z sz sm) (Hl : TR m l) (Hr : TR m r) (hNl : ∀ y ∈ l.ns, isN p y) (hNr : ∀ y ∈ r.ns, isN p y) (hal : a ∉ l.ns) (har : a ∉ r.ns) (hs : l.sz + r.sz ≤ 1000000) (hn : 4 ≤ n.val) (hb : σ0.pu.length + c + 3 ≤ big)
    (h : ∀ n' σ' m', n.val ≤ n'.val + 4 → Sm D σ0 σ' m' (c + 3) → TR m' (.nd a l x v r) → Frm [a] m m' → wp (q (.ok n')) σ' Q) : wp (pt (a + 3) r.at' >>= fun _ => tRef p (.ok n) a >>= q) σ Q := by
  have hD' := fun i (hi : 0 ≤ i ∧ i ≤ 7) => hD.n a ha i hi.1 hi.2
  refine wp_put S (hD' 3 (by omega)) (at_R g hNr) (by omega) fun σ3 S3 => ?_
  have hu : ∀ (u : Tr), (∀ y ∈ u.ns, isN p y) → a ∉ u.ns → TR m u → TR (upd m (a + 3) r.at') u := fun u hu hau Hu => Hu.ext fun y hy i h0 h5 => upd_ne _ _ (isN_ne (hu y hy) ha (fun e => hau (e ▸ hy)) ⟨h0, by omega⟩ ⟨by decide, by decide⟩)
  refine wp_ref (l := l) (r := r) (v := v) S3 g hD ha hNl hNr hal har (by rw [upd_ne _ _ (by omega)]; exact Ha.v) (by rw [upd_ne _ _ (by omega)]; exact Ha.l) (upd_eq _ _ _) (hu _ hNl hal Hl) (hu _ hNr har Hr) (by omega) (by omega) (by omega) fun n4 σ4 hn4 S4 => ?_
  have hv : ∀ (u : Tr), (∀ y ∈ u.ns, isN p y) → a ∉ u.ns → TR m u → TR (upd (upd (upd m (a + 3) r.at') (a + 4) (l.sz + r.sz + 1 : Nat)) (a + 5) (w64 (l.sm + v + r.sm))) u := fun u hu' hau Hu => by
    refine (hu u hu' hau Hu).ext fun y hy i h0 h5 => ?_
    have hne : y ≠ a := fun e => hau (e ▸ hy)
    rw [upd_ne _ _ (isN_ne (hu' y hy) ha hne ⟨h0, by omega⟩ ⟨by decide, by decide⟩), upd_ne _ _ (isN_ne (hu' y hy) ha hne ⟨h0, by omega⟩ ⟨by decide, by decide⟩)]
  refine h n4 σ4 _ (by omega) (S4.mono (by omega)) ⟨?_, hv _ hNl hal Hl, hv _ hNr har Hr⟩ fun b hb => ?_
  · refine ⟨?_, ?_, ?_, ?_, ?_, upd_eq _ _ _⟩
    · rw [upd_ne _ _ (by omega), upd_ne _ _ (by omega), upd_ne _ _ (by omega)]; exact Ha.k
    · rw [upd_ne _ _ (by omega), upd_ne _ _ (by omega), upd_ne _ _ (by omega)]; exact Ha.v
    · rw [upd_ne _ _ (by omega), upd_ne _ _ (by omega), upd_ne _ _ (by omega)]; exact Ha.l
    · rw [upd_ne _ _ (by omega), upd_ne _ _ (by omega), upd_eq]
    · rw [upd_ne _ _ (by omega), upd_eq]
  · have h3 := hb a (by simp) 3 (by omega) (by omega); have h4 := hb a (by simp) 4 (by omega) (by omega); have h5 := hb a (by simp) 5 (by omega) (by omega)
    rw [upd_ne _ _ h5, upd_ne _ _ h4, upd_ne _ _ h3]
theorem wp_setL (g : p.good) (hD : PoolD D p) (S : Sm D σ0 σ m c) (ha : isN p a) (Ha : Nc m a x v z r.at' sz sm) (Hl : TR m l) (Hr : TR m r) (hNl : ∀ y ∈ l.ns, isN p y) (hNr : ∀ y ∈ r.ns, isN p y) (hal : a ∉ l.ns) (har : a ∉ r.ns) (hs : l.sz + r.sz ≤ 1000000) (hn : 4 ≤ n.val) (hb : σ0.pu.length + c + 3 ≤ big)
    (h : ∀ n' σ' m', n.val ≤ n'.val + 4 → Sm D σ0 σ' m' (c + 3) → TR m' (.nd a l x v r) → Frm [a] m m' → wp (q (.ok n')) σ' Q) : wp (pt (a + 2) l.at' >>= fun _ => tRef p (.ok n) a >>= q) σ Q := by
  have hD' := fun i (hi : 0 ≤ i ∧ i ≤ 7) => hD.n a ha i hi.1 hi.2
  refine wp_put S (hD' 2 (by omega)) (at_R g hNl) (by omega) fun σ3 S3 => ?_
  have hu : ∀ (u : Tr), (∀ y ∈ u.ns, isN p y) → a ∉ u.ns → TR m u → TR (upd m (a + 2) l.at') u := fun u hu hau Hu => Hu.ext fun y hy i h0 h5 => upd_ne _ _ (isN_ne (hu y hy) ha (fun e => hau (e ▸ hy)) ⟨h0, by omega⟩ ⟨by decide, by decide⟩)
  refine wp_ref (l := l) (r := r) (v := v) S3 g hD ha hNl hNr hal har (by rw [upd_ne _ _ (by omega)]; exact Ha.v) (upd_eq _ _ _) (by rw [upd_ne _ _ (by omega)]; exact Ha.r) (hu _ hNl hal Hl) (hu _ hNr har Hr) (by omega) (by omega) (by omega) fun n4 σ4 hn4 S4 => ?_
  have hv : ∀ (u : Tr), (∀ y ∈ u.ns, isN p y) → a ∉ u.ns → TR m u → TR (upd (upd (upd m (a + 2) l.at') (a + 4) (l.sz + r.sz + 1 : Nat)) (a + 5) (w64 (l.sm + v + r.sm))) u := fun u hu' hau Hu => by
    refine (hu u hu' hau Hu).ext fun y hy i h0 h5 => ?_
    have hne : y ≠ a := fun e => hau (e ▸ hy)
    rw [upd_ne _ _ (isN_ne (hu' y hy) ha hne ⟨h0, by omega⟩ ⟨by decide, by decide⟩), upd_ne _ _ (isN_ne (hu' y hy) ha hne ⟨h0, by omega⟩ ⟨by decide, by decide⟩)]
  refine h n4 σ4 _ (by omega) (S4.mono (by omega)) ⟨?_, hv _ hNl hal Hl, hv _ hNr har Hr⟩ fun b hb => ?_
  · refine ⟨?_, ?_, ?_, ?_, ?_, upd_eq _ _ _⟩
    · rw [upd_ne _ _ (by omega), upd_ne _ _ (by omega), upd_ne _ _ (by omega)]; exact Ha.k
    · rw [upd_ne _ _ (by omega), upd_ne _ _ (by omega), upd_ne _ _ (by omega)]; exact Ha.v
    · rw [upd_ne _ _ (by omega), upd_ne _ _ (by omega), upd_eq]
    · rw [upd_ne _ _ (by omega), upd_ne _ _ (by omega), upd_ne _ _ (by omega)]; exact Ha.r
    · rw [upd_ne _ _ (by omega), upd_eq]
  · have h3 := hb a (by simp) 2 (by omega) (by omega); have h4 := hb a (by simp) 4 (by omega) (by omega); have h5 := hb a (by simp) 5 (by omega) (by omega)
    rw [upd_ne _ _ h5, upd_ne _ _ h4, upd_ne _ _ h3]
end
theorem wp_mrg (g : p.good) (hD : PoolD D p) : ∀ (fuel : Nat) (ta tb : Tr) {α : Type} {Q : α → Spc → Prop} {q : Int × Wk → Prog α} {n : Fin 1000001} {σ : Spc} {m : Int → Int} {c : Nat},
    Sm D σ0 σ m c → TR m ta → TR m tb → (∀ x ∈ ta.ns ++ tb.ns, isN p x) → (ta.ns ++ tb.ns).Nodup → 6 * (ta.sz + tb.sz) ≤ n.val → ta.sz + tb.sz < fuel → σ0.pu.length + c + 3 * (ta.sz + tb.sz) ≤ big →
    (∀ n' σ' m', n.val ≤ n'.val + 6 * (ta.sz + tb.sz) → Sm D σ0 σ' m' (c + 3 * (ta.sz + tb.sz)) → TR m' (mrg ta tb) → Frm (ta.ns ++ tb.ns) m m' → wp (q ((mrg ta tb).at', .ok n')) σ' Q) →
    wp (tMrg p fuel (.ok n) ta.at' tb.at' >>= q) σ Q
  | 0, _, _, α, Q, q, n, σ, m, c, S, Ha, Hb, hN, hd, hn, hf, hb, h => absurd hf (Nat.not_lt_zero _)
  | fuel + 1, .nil, tb, α, Q, q, n, σ, m, c, S, Ha, Hb, hN, hd, hn, hf, hb, h => by
    unfold tMrg
    have e : mrg .nil tb = tb := by show mrgF rk .nil tb = tb; rw [mrgF]
    rw [show Tr.nil.at' = 0 from rfl, tIs_0, if_neg (by simp)]
    rw [e] at h
    exact h n σ m (by omega) (S.mono (by omega)) Hb fun _ _ => rfl
  | fuel + 1, .nd a l x v r, .nil, α, Q, q, n, σ, m, c, S, Ha, Hb, hN, hd, hn, hf, hb, h => by
    have ha := hN a (List.mem_append_left _ in_a)
    have hn1 := n.isLt
    have hsz : (Tr.nd a l x v r).sz = l.sz + r.sz + 1 := rfl
    unfold tMrg
    rw [show Tr.nil.at' = 0 from rfl, show (Tr.nd a l x v r).at' = a from rfl, tIs_nd g ha (by omega), if_pos rfl]
    dsimp only
    rw [tIs_0, if_neg (by simp)]
    have e : mrg (.nd a l x v r) .nil = .nd a l x v r := mrg_nil
    rw [e] at h
    exact h (dn n) σ m (by rw [dn_val]; omega) (S.mono (by omega)) Ha fun _ _ => rfl
  | fuel + 1, .nd a l x v r, .nd b l' y w r', α, Q, q, n, σ, m, c, S, Ha, Hb, hN, hd, hn, hf, hb, h => by
    have ha := hN a (List.mem_append_left _ in_a)
    have hbN := hN b (List.mem_append_right _ in_a)
    obtain ⟨hdA, hdB, hdAB⟩ := List.nodup_append.1 hd
    obtain ⟨hdl, hdr, hal, har, hlr⟩ := nd_parts hdA
    obtain ⟨hdl', hdr', hbl, hbr, hlr'⟩ := nd_parts hdB
    have HA := Ha
    have HB := Hb
    obtain ⟨Ha, Hl, Hr⟩ := Ha
    obtain ⟨Hb, Hl', Hr'⟩ := Hb
    have hn1 := n.isLt
    have hsz : (Tr.nd a l x v r).sz = l.sz + r.sz + 1 := rfl
    have hsz' : (Tr.nd b l' y w r').sz = l'.sz + r'.sz + 1 := rfl
    have hDa := fun i (hi : 0 ≤ i ∧ i ≤ 7) => hD.n a ha i hi.1 hi.2
    have hDb := fun i (hi : 0 ≤ i ∧ i ≤ 7) => hD.n b hbN i hi.1 hi.2
    have hDa0 := hDa 0 (by omega)
    have hDb0 := hDb 0 (by omega)
    rw [Int.add_zero] at hDa0 hDb0
    unfold tMrg
    rw [show (Tr.nd a l x v r).at' = a from rfl, show (Tr.nd b l' y w r').at' = b from rfl, tIs_nd g ha (by omega), if_pos rfl]
    dsimp only
    rw [tIs_nd g hbN (by rw [dn_val]; omega), if_pos rfl]
    dsimp only
    rw [wp_bind]
    refine wp_get S hDa0 fun σ1 S => ?_
    refine wp_get S hDb0 fun σ1 S => ?_
    rw [Ha.k, Hb.k]
    by_cases hr : rk y < rk x
    · have e : mrg (.nd a l x v r) (.nd b l' y w r') = .nd a l x v (mrg r (.nd b l' y w r')) := by show mrgF rk _ _ = _; rw [mrgF, if_pos hr]
      rw [e] at h
      rw [if_pos hr]
      refine wp_get S (hDa 3 (by omega)) fun σ1 S => ?_
      rw [Ha.r]
      have hsub : ∀ z ∈ r.ns ++ (Tr.nd b l' y w r').ns, z ∈ (Tr.nd a l x v r).ns ++ (Tr.nd b l' y w r').ns := fun z hz => by
        rcases List.mem_append.1 hz with h | h
        · exact List.mem_append_left _ (in_r h)
        · exact List.mem_append_right _ h
      have hano : a ∉ r.ns ++ (Tr.nd b l' y w r').ns := fun hz => by
        rcases List.mem_append.1 hz with h | h
        · exact har h
        · exact hdAB a in_a a h rfl
      have hlno : ∀ z ∈ l.ns, z ∉ r.ns ++ (Tr.nd b l' y w r').ns := fun z hz hz2 => by
        rcases List.mem_append.1 hz2 with h | h
        · exact hlr z hz h
        · exact hdAB z (in_l hz) z h rfl
      refine wp_mrg g hD fuel r (.nd b l' y w r') S Hr HB (fun z hz => hN z (hsub z hz)) (List.nodup_append.2 ⟨hdr, hdB, fun z hz z' hz' => hdAB z (in_r hz) z' hz'⟩) (by rw [dn_val, dn_val]; omega) (by omega) (by omega) fun n1 σ2 m2 hn2 S2 T hfr => ?_
      rw [dn_val, dn_val] at hn2
      have hNl : ∀ z ∈ l.ns, isN p z := fun z hz => hN z (List.mem_append_left _ (in_l hz))
      have hNs : ∀ z ∈ r.ns ++ (Tr.nd b l' y w r').ns, isN p z := fun z hz => hN z (hsub z hz)
      have ens := mrg_ns rk r (.nd b l' y w r')
      have esz := mrg_sz (f := rk) (a := r) (b := .nd b l' y w r')
      refine wp_setR (l := l) (r := mrg r (.nd b l' y w r')) g hD S2 ha (Ha.frm ha hNs hano hfr) (Hl.frm hNl hNs hlno hfr) T hNl (by rw [ens]; exact hNs) hal (by rw [ens]; exact hano) (by rw [esz]; omega) (by omega) (by omega) fun n' σ' m' hn' S' T' hfr' => ?_
      refine h n' σ' m' (by omega) (S'.mono (by omega)) T' ?_
      exact (hfr.mono hsub).trans (hfr'.mono fun z hz => by rw [List.mem_singleton] at hz; subst hz; exact List.mem_append_left _ in_a)
    · have e : mrg (.nd a l x v r) (.nd b l' y w r') = .nd b (mrg (.nd a l x v r) l') y w r' := by show mrgF rk _ _ = _; rw [mrgF, if_neg hr]
      rw [e] at h
      rw [if_neg hr]
      refine wp_get S (hDb 2 (by omega)) fun σ1 S => ?_
      rw [Hb.l]
      have hsub : ∀ z ∈ (Tr.nd a l x v r).ns ++ l'.ns, z ∈ (Tr.nd a l x v r).ns ++ (Tr.nd b l' y w r').ns := fun z hz => by
        rcases List.mem_append.1 hz with h | h
        · exact List.mem_append_left _ h
        · exact List.mem_append_right _ (in_l h)
      have hbno : b ∉ (Tr.nd a l x v r).ns ++ l'.ns := fun hz => by
        rcases List.mem_append.1 hz with h | h
        · exact hdAB b h b in_a rfl
        · exact hbl h
      have hrno : ∀ z ∈ r'.ns, z ∉ (Tr.nd a l x v r).ns ++ l'.ns := fun z hz hz2 => by
        rcases List.mem_append.1 hz2 with h | h
        · exact hdAB z h z (in_r hz) rfl
        · exact hlr' z h hz
      refine wp_mrg g hD fuel (.nd a l x v r) l' S HA Hl' (fun z hz => hN z (hsub z hz)) (List.nodup_append.2 ⟨hdA, hdl', fun z hz z' hz' => hdAB z hz z' (in_l hz')⟩) (by rw [dn_val, dn_val]; omega) (by omega) (by omega) fun n1 σ2 m2 hn2 S2 T hfr => ?_
      rw [dn_val, dn_val] at hn2
      have hNr : ∀ z ∈ r'.ns, isN p z := fun z hz => hN z (List.mem_append_right _ (in_r hz))
      have hNs : ∀ z ∈ (Tr.nd a l x v r).ns ++ l'.ns, isN p z := fun z hz => hN z (hsub z hz)
      have ens := mrg_ns rk (.nd a l x v r) l'
      have esz := mrg_sz (f := rk) (a := .nd a l x v r) (b := l')
      refine wp_setL (l := mrg (.nd a l x v r) l') (r := r') g hD S2 hbN (Hb.frm hbN hNs hbno hfr) T (Hr'.frm hNr hNs hrno hfr) (by rw [ens]; exact hNs) hNr (by rw [ens]; exact hbno) hbr (by rw [esz]; omega) (by omega) (by omega) fun n' σ' m' hn' S' T' hfr' => ?_
      refine h n' σ' m' (by omega) (S'.mono (by omega)) T' ?_
      exact (hfr.mono hsub).trans (hfr'.mono fun z hz => by rw [List.mem_singleton] at hz; subst hz; exact List.mem_append_right _ in_a)
end
end Go.En
namespace Go.En
open Prog Spc

/-- a node on a path: the other child, and whether the path goes left -/
structure Fr where
  a : Int
  x : Int
  w : Int
  o : Tr
  d : Bool
def Fr.node (f : Fr) (s : Tr) : Tr := if f.d then .nd f.a s f.x f.w f.o else .nd f.a f.o f.x f.w s
def plug : List Fr → Tr → Tr
  | [], s => s
  | f :: fs, s => f.node (plug fs s)
def frs (k : Int) : Tr → List Fr × Tr
  | .nil => ([], .nil)
  | .nd a l x v r => if x = k then ([], .nd a l x v r) else if k < x then (⟨a, x, v, r, true⟩ :: (frs k l).1, (frs k l).2) else (⟨a, x, v, l, false⟩ :: (frs k r).1, (frs k r).2)
def pt2 (fs : List Fr) : List (Int × Int) := fs.map fun f => (f.a, f.x)
def stp (k : Int) : Tr → List (Int × Int)
  | .nil => []
  | .nd a l x _ r => (a, x) :: if x = k then [] else if k < x then stp k l else stp k r
def FN (fs : List Fr) : List Int := fs.flatMap fun f => f.a :: f.o.ns
def szF (hs : Nat) : List Fr → Nat
  | [] => hs
  | f :: fs => f.o.sz + szF hs fs + 1
def smF (hv : Int) : List Fr → Int
  | [] => hv
  | f :: fs => f.o.sm + f.w + smF hv fs
def adF (hole : Int) : List Fr → Int
  | [] => hole
  | f :: _ => f.a
/-- the memory of a path with a place left open: what hangs there, its size and its sum -/
def FR (m : Int → Int) (hole : Int) (hs : Nat) (hv : Int) : List Fr → Prop
  | [] => True
  | f :: fs => (if f.d then Nc m f.a f.x f.w (adF hole fs) f.o.at' (f.o.sz + szF hs fs + 1) (f.o.sm + f.w + smF hv fs) else Nc m f.a f.x f.w f.o.at' (adF hole fs) (f.o.sz + szF hs fs + 1) (f.o.sm + f.w + smF hv fs)) ∧ TR m f.o ∧ FR m hole hs hv fs
section
variable {fs : List Fr} {s : Tr} {m m' : Int → Int} {hole hv k : Int} {hs : Nat}
theorem plug_sz : ∀ {fs : List Fr}, (plug fs s).sz = szF s.sz fs
  | [] => rfl
  | f :: fs => by
    have := plug_sz (fs := fs)
    show (f.node (plug fs s)).sz = _
    unfold Fr.node szF
    split <;> simp only [Tr.sz] <;> omega
theorem plug_sm : ∀ {fs : List Fr}, (plug fs s).sm = smF s.sm fs
  | [] => rfl
  | f :: fs => by
    have := plug_sm (fs := fs)
    show (f.node (plug fs s)).sm = _
    unfold Fr.node smF
    split <;> simp only [Tr.sm] <;> omega
theorem plug_at : (plug fs s).at' = adF s.at' fs := by
  cases fs with
  | nil => rfl
  | cons f fs =>
    show (f.node _).at' = f.a
    unfold Fr.node
    split <;> rfl
theorem plug_TR : ∀ {fs : List Fr}, TR m (plug fs s) ↔ FR m s.at' s.sz s.sm fs ∧ TR m s
  | [] => ⟨fun h => ⟨trivial, h⟩, fun h => h.2⟩
  | f :: fs => by
    have ih := plug_TR (fs := fs)
    show TR m (f.node _) ↔ _
    unfold Fr.node FR
    have e1 := plug_sz (s := s) (fs := fs); have e2 := plug_sm (s := s) (fs := fs); have e3 := plug_at (s := s) (fs := fs)
    cases f.d with
    | true =>
      rw [if_pos rfl, if_pos rfl]
      show (Nc m f.a f.x f.w (plug fs s).at' f.o.at' ((plug fs s).sz + f.o.sz + 1) ((plug fs s).sm + f.w + f.o.sm) ∧ TR m (plug fs s) ∧ TR m f.o) ↔ _
      rw [e1, e2, e3, ih, show szF s.sz fs + f.o.sz + 1 = f.o.sz + szF s.sz fs + 1 by omega, show smF s.sm fs + f.w + f.o.sm = f.o.sm + f.w + smF s.sm fs by omega]
      exact ⟨fun ⟨h1, ⟨h2, h3⟩, h4⟩ => ⟨⟨h1, h4, h2⟩, h3⟩, fun ⟨⟨h1, h4, h2⟩, h3⟩ => ⟨h1, ⟨h2, h3⟩, h4⟩⟩
    | false =>
      rw [if_neg (by simp), if_neg (by simp)]
      show (Nc m f.a f.x f.w f.o.at' (plug fs s).at' (f.o.sz + (plug fs s).sz + 1) (f.o.sm + f.w + (plug fs s).sm) ∧ TR m f.o ∧ TR m (plug fs s)) ↔ _
      rw [e1, e2, e3, ih]
      exact ⟨fun ⟨h1, h4, ⟨h2, h3⟩⟩ => ⟨⟨h1, h4, h2⟩, h3⟩, fun ⟨⟨h1, h4, h2⟩, h3⟩ => ⟨h1, h4, ⟨h2, h3⟩⟩⟩
theorem plug_ns : ∀ {fs : List Fr}, (plug fs s).ns.Perm (FN fs ++ s.ns)
  | [] => .refl _
  | f :: fs => by
    have ih := plug_ns (fs := fs)
    show (f.node _).ns.Perm _
    unfold Fr.node
    have e : FN (f :: fs) ++ s.ns = f.a :: (f.o.ns ++ (FN fs ++ s.ns)) := by simp [FN, List.append_assoc]
    rw [e]
    split
    · show ((plug fs s).ns ++ f.a :: f.o.ns).Perm _
      refine List.perm_middle.trans (.cons _ ?_)
      exact List.perm_append_comm.trans (.append_left _ ih)
    · show (f.o.ns ++ f.a :: (plug fs s).ns).Perm _
      exact List.perm_middle.trans (.cons _ (.append_left _ ih))
theorem plug_app : ∀ {fs : List Fr} {gs : List Fr}, plug (fs ++ gs) s = plug fs (plug gs s)
  | [], _ => rfl
  | f :: fs, gs => by show f.node (plug (fs ++ gs) s) = f.node (plug fs (plug gs s)); rw [plug_app (fs := fs)]
theorem frs_plug : ∀ {t : Tr}, plug (frs k t).1 (frs k t).2 = t
  | .nil => rfl
  | .nd a l x v r => by
    have h1 := frs_plug (t := l); have h2 := frs_plug (t := r)
    unfold frs
    split
    · rfl
    · split
      · show Fr.node _ _ = _
        rw [h1]; rfl
      · show Fr.node _ _ = _
        rw [h2]; rfl
theorem frs_dir : ∀ {t : Tr}, ∀ f ∈ (frs k t).1, f.d = decide (k < f.x) ∧ f.x ≠ k
  | .nil, f, hf => by cases hf
  | .nd a l x v r, f, hf => by
    unfold frs at hf
    split at hf
    · cases hf
    · rename_i hx
      split at hf
      · rename_i hlt
        rcases List.mem_cons.1 hf with rfl | hf
        · exact ⟨by rw [decide_eq_true hlt], hx⟩
        · exact frs_dir f hf
      · rename_i hlt
        rcases List.mem_cons.1 hf with rfl | hf
        · exact ⟨by rw [decide_eq_false hlt], hx⟩
        · exact frs_dir f hf
/-- the place at the end of a path is empty, or holds the key -/
theorem frs_end : ∀ {t : Tr}, (frs k t).2 = .nil ∨ ∃ a l v r, (frs k t).2 = .nd a l k v r
  | .nil => .inl rfl
  | .nd a l x v r => by
    unfold frs
    split
    · rename_i e; subst e; exact .inr ⟨a, l, v, r, rfl⟩
    · split
      · exact frs_end
      · exact frs_end
theorem stp_frs : ∀ {t : Tr}, stp k t = pt2 (frs k t).1 ++ match (frs k t).2 with | .nil => [] | .nd a _ x _ _ => [(a, x)]
  | .nil => rfl
  | .nd a l x v r => by
    have h1 := stp_frs (t := l); have h2 := stp_frs (t := r)
    unfold stp frs
    by_cases e : x = k
    · rw [if_pos e, if_pos e]; rfl
    · rw [if_neg e, if_neg e]
      by_cases e2 : k < x
      · rw [if_pos e2, if_pos e2, h1]; rfl
      · rw [if_neg e2, if_neg e2, h2]; rfl
theorem stp_len : ∀ {t : Tr}, (stp k t).length ≤ t.sz
  | .nil => Nat.le_refl _
  | .nd a l x v r => by
    have h1 := stp_len (t := l); have h2 := stp_len (t := r)
    unfold stp Tr.sz
    split
    · simp
    · split <;> simp only [List.length_cons] <;> omega
theorem stp_ns : ∀ {t : Tr}, ∀ y ∈ stp k t, y.1 ∈ t.ns
  | .nil, y, hy => by cases hy
  | .nd a l x v r, y, hy => by
    unfold stp at hy
    rcases List.mem_cons.1 hy with rfl | hy
    · exact in_a
    · split at hy
      · cases hy
      · split at hy
        · exact in_l (stp_ns y hy)
        · exact in_r (stp_ns y hy)
end
section
variable {D : Int → Prop} {σ0 σ' : Spc} {m m' : Int → Int} {c c' : Nat} {p : Pl} {k : Int} {fs : List Fr}
theorem wp_pathL (g : p.good) (hD : PoolD D p) : ∀ (t : Tr) (f : Nat) {α : Type} {Q : α → Spc → Prop} {q : List (Int × Int) × Wk → Prog α} {n : Fin 1000001} {σ : Spc} (acc : List (Int × Int)),
    Sm D σ0 σ m c → TR m t → (∀ x ∈ t.ns, isN p x) → t.sz ≤ n.val → t.sz ≤ f →
    (∀ n' σ', n.val ≤ n'.val + t.sz → Sm D σ0 σ' m c → wp (q (acc ++ stp k t, .ok n')) σ' Q) → wp (tPathL p k f (.ok n) t.at' acc >>= q) σ Q
  | .nil, f, α, Q, q, n, σ, acc, S, H, hN, hn, hf, h => by
    have := h n σ (by omega) S
    rw [show stp k .nil = [] from rfl, List.append_nil] at this
    cases f <;> (unfold tPathL; rw [show Tr.nil.at' = 0 from rfl, tIs_0, if_neg (by simp)]; exact this)
  | .nd a l x v r, 0, α, Q, q, n, σ, acc, S, H, hN, hn, hf, h => by
    have : (Tr.nd a l x v r).sz = l.sz + r.sz + 1 := rfl
    omega
  | .nd a l x v r, f + 1, α, Q, q, n, σ, acc, S, H, hN, hn, hf, h => by
    obtain ⟨Ha, Hl, Hr⟩ := H
    have ha := hN a in_a
    have hsz : (Tr.nd a l x v r).sz = l.sz + r.sz + 1 := rfl
    have hDa := fun i (hi : 0 ≤ i ∧ i ≤ 7) => hD.n a ha i hi.1 hi.2
    have hDa0 := hDa 0 (by omega)
    rw [Int.add_zero] at hDa0
    rw [hsz] at hn hf h
    unfold tPathL
    rw [show (Tr.nd a l x v r).at' = a from rfl, tIs_nd g ha (by omega), if_pos rfl, wp_bind]
    refine wp_get S hDa0 fun σ1 S => ?_
    rw [Ha.k]
    by_cases e : x = k
    · rw [if_pos e]
      have := h (dn n) σ1 (by rw [dn_val]; omega) S
      unfold stp at this
      rw [if_pos e] at this
      exact this
    · rw [if_neg e]
      by_cases e2 : k < x
      · have ek : kidc k x = 2 := if_pos e2
        rw [ek]
        refine wp_get S (hDa 2 (by omega)) fun σ1 S => ?_
        rw [Ha.l]
        refine wp_ret' (wp_pathL g hD l f (acc ++ [(a, x)]) S Hl (fun y hy => hN y (in_l hy)) (by rw [dn_val]; omega) (by omega) fun n' σ2 hn' S2 => ?_)
        rw [dn_val] at hn'
        have := h n' σ2 (by omega) S2
        unfold stp at this
        rw [if_neg e, if_pos e2] at this
        rw [List.append_assoc]
        exact this
      · have ek : kidc k x = 3 := if_neg e2
        rw [ek]
        refine wp_get S (hDa 3 (by omega)) fun σ1 S => ?_
        rw [Ha.r]
        refine wp_ret' (wp_pathL g hD r f (acc ++ [(a, x)]) S Hr (fun y hy => hN y (in_r hy)) (by rw [dn_val]; omega) (by omega) fun n' σ2 hn' S2 => ?_)
        rw [dn_val] at hn'
        have := h n' σ2 (by omega) S2
        unfold stp at this
        rw [if_neg e, if_neg e2] at this
        rw [List.append_assoc]
        exact this
/-- only counts and sums of the nodes on the path -/
abbrev Fr45 (l : List (Int × Int)) (m m' : Int → Int) : Prop := ∀ b, (∀ x ∈ l, b ≠ x.1 + 4 ∧ b ≠ x.1 + 5) → m' b = m b
theorem FR.ext {hole hv : Int} {hs : Nat} : ∀ {fs : List Fr}, FR m hole hs hv fs → (∀ x ∈ FN fs, ∀ i, 0 ≤ i → i ≤ 5 → m' (x + i) = m (x + i)) → FR m' hole hs hv fs
  | [], _, _ => trivial
  | f :: fs, ⟨h1, h2, h3⟩, h => by
    have hf : ∀ i, 0 ≤ i → i ≤ 5 → m' (f.a + i) = m (f.a + i) := h f.a (by simp [FN])
    refine ⟨?_, h2.ext fun x hx => h x (by simp [FN, hx]), h3.ext fun x hx => h x (by
      simp only [FN, List.flatMap_cons, List.mem_append]
      exact .inr hx)⟩
    cases hd : f.d with
    | true => rw [hd, if_pos rfl] at h1; rw [if_pos rfl]; exact h1.ext hf
    | false => rw [hd, if_neg (by simp)] at h1; rw [if_neg (by simp)]; exact h1.ext hf
theorem w64_ad (a d : Int) : w64 (w64 a + w64 d) = w64 (a + d) := by
  unfold w64
  simp only [IntKind.wrap_i64]
  omega
theorem w64_z {a d : Int} (h : w64 d = 0) : w64 (a + d) = w64 a := by
  unfold w64 at *
  simp only [IntKind.wrap_i64] at *
  omega
theorem Nc.cs {a k v l r : Int} {sz sz' : Nat} {sm sm' : Int} (H : Nc m a k v l r sz sm) (h : ∀ i, 0 ≤ i → i ≤ 3 → m' (a + i) = m (a + i)) (h4 : m' (a + 4) = sz') (h5 : m' (a + 5) = w64 sm') : Nc m' a k v l r sz' sm' := by
  have h0 := h 0 (by omega) (by omega)
  rw [Int.add_zero] at h0
  exact ⟨by rw [h0]; exact H.k, by rw [h 1 (by omega) (by omega)]; exact H.v, by rw [h 2 (by omega) (by omega)]; exact H.l, by rw [h 3 (by omega) (by omega)]; exact H.r, h4, h5⟩
theorem FN_cons {f : Fr} {fs : List Fr} : FN (f :: fs) = f.a :: (f.o.ns ++ FN fs) := by simp [FN]
theorem wp_tAdd (g : p.good) (hD : PoolD D p) {nn vv d : Int} (hv : vv = w64 d) (hn1 : -1 ≤ nn ∧ nn ≤ 1) {hole hv0 : Int} {hs hs' : Nat} (hh : (hs' : Int) = hs + nn) : ∀ (fs : List Fr) {α : Type} {Q : α → Spc → Prop} {q : Unit → Prog α} {σ : Spc} {m : Int → Int} {c : Nat},
    Sm D σ0 σ m c → FR m hole hs hv0 fs → (∀ x ∈ FN fs, isN p x) → (FN fs).Nodup → szF hs fs ≤ 1000000 → σ0.pu.length + c + 2 * fs.length ≤ big →
    (∀ σ' m', Sm D σ0 σ' m' (c + 2 * fs.length) → FR m' hole hs' (hv0 + d) fs → Fr45 (pt2 fs) m m' → wp (q ()) σ' Q) → wp (tAdd nn vv (pt2 fs) >>= q) σ Q
  | [], α, Q, q, σ, m, c, S, H, hN, hd, hsz, hb, h => h σ m (S.mono (by simp)) trivial fun _ _ => rfl
  | f :: fs, α, Q, q, σ, m, c, S, H, hN, hd, hsz, hb, h => by
    obtain ⟨Hf, Ho, Hs⟩ := H
    have ha := hN f.a (by rw [FN_cons]; exact List.mem_cons_self ..)
    have hDa := fun i (hi : 0 ≤ i ∧ i ≤ 7) => hD.n f.a ha i hi.1 hi.2
    rw [FN_cons, List.nodup_cons] at hd
    obtain ⟨hda, hd⟩ := hd
    rw [List.mem_append, not_or] at hda
    obtain ⟨hdo, hds, hdd⟩ := List.nodup_append.1 hd
    have hsz' : f.o.sz + szF hs fs + 1 ≤ 1000000 := hsz
    simp only [List.length_cons] at hb h
    have hc4 : m (f.a + 4) = ((f.o.sz + szF hs fs + 1 : Nat) : Int) := by
      cases hd : f.d with
      | true => rw [hd, if_pos rfl] at Hf; exact Hf.c
      | false => rw [hd, if_neg (by simp)] at Hf; exact Hf.c
    have hc5 : m (f.a + 5) = w64 (f.o.sm + f.w + smF hv0 fs) := by
      cases hd : f.d with
      | true => rw [hd, if_pos rfl] at Hf; exact Hf.s
      | false => rw [hd, if_neg (by simp)] at Hf; exact Hf.s
    have hszF : ∀ gs : List Fr, (szF hs' gs : Int) = szF hs gs + nn := fun gs => by
      induction gs with
      | nil => exact hh
      | cons g gs ih => show ((g.o.sz + szF hs' gs + 1 : Nat) : Int) = ((g.o.sz + szF hs gs + 1 : Nat) : Int) + nn; omega
    have hsmF : ∀ gs : List Fr, smF (hv0 + d) gs = smF hv0 gs + d := fun gs => by
      induction gs with
      | nil => rfl
      | cons g gs ih => show g.o.sm + g.w + smF (hv0 + d) gs = g.o.sm + g.w + smF hv0 gs + d; omega
    have e4 := hszF fs
    have e5 := hsmF fs
    -- what this node's cells become
    have key : ∀ σ2 m2, Sm D σ0 σ2 m2 (c + 2) → (∀ b, b ≠ f.a + 4 → b ≠ f.a + 5 → m2 b = m b) → m2 (f.a + 4) = ((f.o.sz + szF hs' fs + 1 : Nat) : Int) → m2 (f.a + 5) = w64 (f.o.sm + f.w + smF (hv0 + d) fs) → wp (tAdd nn vv (pt2 fs) >>= q) σ2 Q := fun σ2 m2 S2 hm h4 h5 => by
      have ho : TR m2 f.o := Ho.ext fun x hx i h0 h5 => by
        have hxN := hN x (by rw [FN_cons]; exact List.mem_cons_of_mem _ (List.mem_append_left _ hx))
        have hne : x ≠ f.a := fun e => hda.1 (e ▸ hx)
        exact hm _ (isN_ne hxN ha hne ⟨h0, by omega⟩ ⟨by decide, by decide⟩) (isN_ne hxN ha hne ⟨h0, by omega⟩ ⟨by decide, by decide⟩)
      have hs2 : FR m2 hole hs hv0 fs := Hs.ext fun x hx i h0 h5 => by
        have hxN := hN x (by rw [FN_cons]; exact List.mem_cons_of_mem _ (List.mem_append_right _ hx))
        have hne : x ≠ f.a := fun e => hda.2 (e ▸ hx)
        exact hm _ (isN_ne hxN ha hne ⟨h0, by omega⟩ ⟨by decide, by decide⟩) (isN_ne hxN ha hne ⟨h0, by omega⟩ ⟨by decide, by decide⟩)
      refine wp_tAdd g hD hv hn1 hh fs S2 hs2 (fun x hx => hN x (by rw [FN_cons]; exact List.mem_cons_of_mem _ (List.mem_append_right _ hx))) hds (by omega) (by omega) fun σ3 m3 S3 R3 hfr => ?_
      have hsub : ∀ y ∈ pt2 fs, y.1 ∈ FN fs := fun y hy => by
        obtain ⟨f', hf', rfl⟩ := List.mem_map.1 hy
        exact List.mem_flatMap.2 ⟨f', hf', List.mem_cons_self ..⟩
      have hoff : ∀ (x i : Int), isN p x → x ∉ FN fs → 0 ≤ i → i ≤ 5 → m3 (x + i) = m2 (x + i) := fun x i hx hno h0 h5 => hfr _ fun y hy => by
        have hyN := hN y.1 (by rw [FN_cons]; exact List.mem_cons_of_mem _ (List.mem_append_right _ (hsub y hy)))
        have hne : x ≠ y.1 := fun e => hno (e ▸ hsub y hy)
        exact ⟨isN_ne hx hyN hne ⟨h0, by omega⟩ ⟨by decide, by decide⟩, isN_ne hx hyN hne ⟨h0, by omega⟩ ⟨by decide, by decide⟩⟩
      refine h σ3 m3 (S3.mono (by omega)) ⟨?_, ho.ext fun x hx i h0 h5 => hoff x i (hN x (by rw [FN_cons]; exact List.mem_cons_of_mem _ (List.mem_append_left _ hx))) (fun hx2 => hdd x hx x hx2 rfl) h0 h5, R3⟩ fun b hb => ?_
      · have h03 : ∀ i, 0 ≤ i → i ≤ 3 → m3 (f.a + i) = m (f.a + i) := fun i h0 h3 => by
          rw [hoff f.a i ha hda.2 h0 (by omega)]
          exact hm _ (by omega) (by omega)
        have h4' : m3 (f.a + 4) = ((f.o.sz + szF hs' fs + 1 : Nat) : Int) := by rw [hoff f.a 4 ha hda.2 (by decide) (by decide)]; exact h4
        have h5' : m3 (f.a + 5) = w64 (f.o.sm + f.w + smF (hv0 + d) fs) := by rw [hoff f.a 5 ha hda.2 (by decide) (by decide)]; exact h5
        cases hd : f.d with
        | true => rw [hd, if_pos rfl] at Hf; rw [if_pos rfl]; exact Hf.cs h03 h4' h5'
        | false => rw [hd, if_neg (by simp)] at Hf; rw [if_neg (by simp)]; exact Hf.cs h03 h4' h5'
      · have hb0 := hb (f.a, f.x) (List.mem_cons_self ..)
        rw [hfr b fun y hy => hb y (List.mem_cons_of_mem _ hy)]
        exact hm b hb0.1 hb0.2
    have hcnt : nn ≠ 0 → w64 (m (f.a + 4) + nn) = ((f.o.sz + szF hs' fs + 1 : Nat) : Int) := fun _ => by rw [hc4, w64_R ⟨by omega, by omega⟩]; omega
    have hsum : ∀ x, x = m (f.a + 5) → w64 (x + vv) = w64 (f.o.sm + f.w + smF (hv0 + d) fs) := fun x hx => by
      rw [hx, hc5, hv, w64_ad, e5]
      congr 1; omega
    have part2 : ∀ σ2 m2 c2, Sm D σ0 σ2 m2 c2 → c2 ≤ c + 1 → (∀ b, b ≠ f.a + 4 → m2 b = m b) → m2 (f.a + 4) = ((f.o.sz + szF hs' fs + 1 : Nat) : Int) →
        wp (((if vv ≠ 0 then gt (f.a + 5) >>= fun c => pt (f.a + 5) (w64 (c + vv)) else pure ()) >>= fun _ => tAdd nn vv (pt2 fs)) >>= q) σ2 Q := fun σ2 m2 c2 S2 hc2 hm h4 => by
      have hm5 : m2 (f.a + 5) = m (f.a + 5) := hm _ (by omega)
      by_cases hvz : vv = 0
      · rw [if_neg (by simp [hvz])]
        show wp (tAdd nn vv (pt2 fs) >>= q) σ2 Q
        refine key σ2 m2 (S2.mono (by omega)) (fun b hb _ => hm b hb) h4 ?_
        rw [hm5, hc5, e5]
        rw [show f.o.sm + f.w + (smF hv0 fs + d) = f.o.sm + f.w + smF hv0 fs + d by omega]
        exact (w64_z (by rw [← hv]; exact hvz)).symm
      · rw [if_pos hvz]
        show wp (gt (f.a + 5) >>= fun c => pt (f.a + 5) (w64 (c + vv)) >>= fun _ => tAdd nn vv (pt2 fs) >>= q) σ2 Q
        refine wp_get S2 (hDa 5 (by omega)) fun σ3 S3 => ?_
        refine wp_put S3 (hDa 5 (by omega)) (w64_in _) (by omega) fun σ4 S4 => ?_
        refine key σ4 _ (S4.mono (by omega)) (fun b hb hb5 => by rw [upd_ne _ _ hb5]; exact hm b hb) (by rw [upd_ne _ _ (by omega)]; exact h4) (by rw [upd_eq]; exact hsum _ hm5)
    have e0 : tAdd nn vv (pt2 (f :: fs)) = ((if nn ≠ 0 then gt (f.a + 4) >>= fun c => pt (f.a + 4) (w64 (c + nn)) else pure ()) >>= fun _ => (if vv ≠ 0 then gt (f.a + 5) >>= fun c => pt (f.a + 5) (w64 (c + vv)) else pure ()) >>= fun _ => tAdd nn vv (pt2 fs)) := rfl
    rw [e0]
    by_cases hnz : nn = 0
    · rw [if_neg (by simp [hnz])]
      show wp (((if vv ≠ 0 then gt (f.a + 5) >>= fun c => pt (f.a + 5) (w64 (c + vv)) else pure ()) >>= fun _ => tAdd nn vv (pt2 fs)) >>= q) σ Q
      refine part2 σ m c S (by omega) (fun _ _ => rfl) ?_
      rw [hc4]; omega
    · rw [if_pos hnz]
      show wp (gt (f.a + 4) >>= fun c => pt (f.a + 4) (w64 (c + nn)) >>= fun _ => ((if vv ≠ 0 then gt (f.a + 5) >>= fun c => pt (f.a + 5) (w64 (c + vv)) else pure ()) >>= fun _ => tAdd nn vv (pt2 fs)) >>= q) σ Q
      refine wp_get S (hDa 4 (by omega)) fun σ3 S3 => ?_
      refine wp_put S3 (hDa 4 (by omega)) (w64_in _) (by omega) fun σ4 S4 => ?_
      exact part2 σ4 _ _ S4 (by omega) (fun b hb => upd_ne _ _ hb) (by rw [upd_eq]; exact hcnt hnz)
end
end Go.En
