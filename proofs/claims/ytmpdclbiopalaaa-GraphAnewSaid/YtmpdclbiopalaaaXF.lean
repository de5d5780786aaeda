/-
  Chains of nodes from both ends; the deque's and the stack's programs, and what they come to.
  The deque and the stack in memory.
  Doubly linked lists in memory; the graph's programs.
  The graph in memory: links.
  The graph in memory: what it holds; a vertex is added.
  The graph in memory: edges are found, added and cut.
-/
import Derived.Test.YtmpdclbiopalaaaXD
import Derived.Test.YtmpdclbiopalaaaXE
namespace Go.En
open Prog Spc

/-! ### Chains -/
theorem Lk.snoc {m m' : Int → Int} {o x : Int} : ∀ {l : List Int} {a : Int}, Lk m o a l → (∀ y ∈ l, m' (y + o) = if some y = l.getLast? then x else m (y + o)) → l.Nodup → m' (x + o) = 0 → (l = [] → a = x) → l ≠ [] → Lk m' o a (l ++ [x])
  | [], a, _, _, _, h0, ha, hne => absurd rfl hne
  | [y], a, h, hm, hn, h0, _, _ => by
    have := hm y (List.mem_singleton.2 rfl)
    rw [if_pos (by rfl)] at this
    exact ⟨h.1, by rw [this]; exact ⟨rfl, h0⟩⟩
  | y :: z :: l, a, h, hm, hn, h0, ha, _ => by
    have hn := List.nodup_cons.1 hn
    have e : (y :: z :: l).getLast? = (z :: l).getLast? := by simp [List.getLast?_cons_cons]
    have hy := hm y (List.mem_cons_self ..)
    have hne : ¬ some y = (y :: z :: l).getLast? := by
      rw [e]
      intro hc
      exact hn.1 (List.mem_of_getLast? hc.symm)
    rw [if_neg hne] at hy
    refine ⟨h.1, ?_⟩
    rw [hy]
    exact Lk.snoc (l := z :: l) h.2 (fun w hw => by rw [hm w (List.mem_cons_of_mem _ hw), e]) hn.2 h0 (fun e => by cases e) (by simp)
theorem Lk.unsnoc {m m' : Int → Int} {o x : Int} : ∀ {l : List Int} {a : Int}, Lk m o a (l ++ [x]) → (∀ y ∈ l, m' (y + o) = if some y = l.getLast? then 0 else m (y + o)) → (l ++ [x]).Nodup → l ≠ [] → Lk m' o a l
  | [], a, _, _, _, hne => absurd rfl hne
  | [y], a, h, hm, hn, _ => by
    have := hm y (List.mem_singleton.2 rfl)
    rw [if_pos (by rfl)] at this
    exact ⟨h.1, this⟩
  | y :: z :: l, a, h, hm, hn, _ => by
    have hn : y ∉ (z :: l) ++ [x] ∧ ((z :: l) ++ [x]).Nodup := List.nodup_cons.1 hn
    have e : (y :: z :: l).getLast? = (z :: l).getLast? := by simp [List.getLast?_cons_cons]
    have hy := hm y (List.mem_cons_self ..)
    have hne : ¬ some y = (y :: z :: l).getLast? := by
      rw [e]
      intro hc
      exact hn.1 (List.mem_append_left _ (List.mem_of_getLast? hc.symm))
    rw [if_neg hne] at hy
    refine ⟨h.1, ?_⟩
    rw [hy]
    exact Lk.unsnoc (l := z :: l) h.2 (fun w hw => by rw [hm w (List.mem_cons_of_mem _ hw), e]) hn.2 (by simp)
theorem Lk.head {m : Int → Int} {o a : Int} {l : List Int} (h : Lk m o a l) : a = l.head?.getD 0 := by
  cases l with
  | nil => exact h
  | cons x r => exact h.1

/-! ### The deque -/
def sd (r : Bool) : Int := if r then 1 else 0
theorem sd_in (r : Bool) : 0 ≤ sd r ∧ sd r ≤ 1 := by cases r <;> decide
theorem sd_ne (r : Bool) : sd r ≠ sd !r := by cases r <;> decide
def dMore (a n : Int) : Prog Unit := do
  let v ← gt a
  pt a (w64 (v + n))
def dUn (e m : Int) : Prog Unit := if e ≠ 0 then bk m else pure ()
def dPushT (root n : Int) (r : Bool) : Prog Int := do
  pt (root + sd r) n
  dMore (root + 2) 1
  dMore (root + 7) 1
  dUn 0 0
  pure 0
def dPush (p : Pl) (root : Int) (r : Bool) (v : Int) : Prog Int := do
  let m ← mk
  let t ← pTake p
  if t.2 ≠ 0 then do
    dUn t.2 m
    pure t.2
  else do
    let en ← gt (root + sd r)
    pt (t.1 + sd r) 0
    pt (t.1 + sd !r) en
    pt (t.1 + 2) v
    if en = 0 then do
      pt (root + sd !r) t.1
      dPushT root t.1 r
    else if (p.node en).isSome then do
      pt (en + sd r) t.1
      dPushT root t.1 r
    else do
      dUn 24 m
      pure 24
def dPopT (p : Pl) (root en nx m : Int) (r : Bool) : Prog (Int × Int) := do
  pt (root + sd r) nx
  dMore (root + 2) (-1)
  dMore (root + 7) (-1)
  let x ← gt (en + 2)
  let e ← pGive p en
  if e ≠ 0 then do
    dUn e m
    pure (0, e)
  else do
    dUn 0 m
    pure (x, 0)
def dPop (p : Pl) (root : Int) (r : Bool) : Prog (Int × Int) := do
  let m ← mk
  let en ← gt (root + sd r)
  if en = 0 then do
    dUn 8 m
    pure (0, 8)
  else if (p.node en).isSome then do
    let nx ← gt (en + sd !r)
    if nx = 0 then do
      pt (root + sd !r) 0
      dPopT p root en nx m r
    else if (p.node nx).isSome then do
      pt (nx + sd r) 0
      dPopT p root en nx m r
    else do
      dUn 24 m
      pure (0, 24)
  else do
    dUn 24 m
    pure (0, 24)
def dPeek (root : Int) (r : Bool) : Prog (Int × Int) := do
  let en ← gt (root + sd r)
  if en = 0 then pure (0, 8) else do
    let x ← gt (w64 (en + 2))
    pure (x, 0)
def dLoop (p : Pl) (r : Bool) : Nat → Int → List Int → Prog (Option (List Int))
  | 0, a, acc => pure (if a = 0 then some acc else none)
  | n + 1, a, acc => if a = 0 then pure (some acc) else if (p.node a).isSome then do
      let v ← gt (a + 2)
      let nx ← gt (a + sd !r)
      dLoop p r n nx (acc ++ [v])
    else pure none
def dWalk (p : Pl) (root : Int) (r : Bool) : Prog (Option (List Int)) := do
  let a ← gt (root + sd r)
  dLoop p r p.nodes.toNat a []

/-! ### The stack -/
def sMore (root n : Int) : Prog Unit := do
  dMore (root + 1) n
  dMore (root + 7) n
def sPush (p : Pl) (root v : Int) : Prog Int := do
  let m ← mk
  let t ← pTake p
  if t.2 ≠ 0 then do
    dUn t.2 m
    pure t.2
  else do
    let tp ← gt root
    pt t.1 tp
    pt (t.1 + 1) v
    pt root t.1
    sMore root 1
    dUn 0 m
    pure 0
def sPop (p : Pl) (root : Int) : Prog (Int × Int) := do
  let m ← mk
  let a ← gt root
  if a = 0 then do
    dUn 8 m
    pure (0, 8)
  else if (p.node a).isSome then do
    let nx ← gt a
    let v ← gt (a + 1)
    let e ← pGive p a
    if e ≠ 0 then do
      dUn e m
      pure (0, e)
    else do
      pt root nx
      sMore root (-1)
      dUn 0 m
      pure (v, 0)
  else do
    dUn 24 m
    pure (0, 24)
def sTop (root : Int) : Prog (Int × Int) := do
  let a ← gt root
  if a = 0 then pure (0, 8) else do
    let x ← gt (a + 1)
    pure (x, 0)
def sLoop (p : Pl) : Nat → Int → List Int → Prog (Option (List Int))
  | 0, a, acc => pure (if a = 0 then some acc else none)
  | n + 1, a, acc => if a = 0 then pure (some acc) else if (p.node a).isSome then do
      let v ← gt (a + 1)
      let nx ← gt a
      sLoop p n nx (acc ++ [v])
    else pure none
def sWalk (p : Pl) (root : Int) : Prog (Option (List Int)) := do
  let a ← gt root
  sLoop p p.nodes.toNat a []
end Go.En
namespace Go.En
open Prog Spc

/-- a root apart from the pool -/
structure RA (p : Pl) (root : Int) : Prop where
  a : p.root + 3 ≤ root
  b : root + 8 ≤ p.frm
abbrev RootD (D : Int → Prop) (root : Int) : Prop := ∀ i, 0 ≤ i → i ≤ 7 → D (root + i)
/-- nodes handed out and not free -/
abbrev Held (p : Pl) (fr : List Int) (out : Int) (l : List Int) : Prop := ∀ x ∈ l, (∃ i, 0 ≤ i ∧ i < out ∧ x = p.frm + 8 * i) ∧ x ∉ fr
theorem nd_rev {l : List Int} (h : l.Nodup) : l.reverse.Nodup := by
  unfold List.Nodup at h ⊢
  rw [List.pairwise_reverse]
  exact h.imp fun hab e => hab e.symm
/-- the deque from the end r on -/
structure DQ (m : Int → Int) (root : Int) (r : Bool) (l vs : List Int) : Prop where
  fwd : Lk m (sd !r) (m (root + sd r)) l
  bwd : Lk m (sd r) (m (root + sd !r)) l.reverse
  val : vs = l.map fun x => m (x + 2)
  n2 : m (root + 2) = l.length
  n7 : m (root + 7) = l.length
  nd : l.Nodup
theorem DQ.turn {m : Int → Int} {root : Int} {r : Bool} {l vs : List Int} (H : DQ m root r l vs) : DQ m root (!r) l.reverse vs.reverse := by
  refine ⟨by rw [Bool.not_not]; exact H.bwd, by rw [List.reverse_reverse, Bool.not_not]; exact H.fwd, ?_, by rw [List.length_reverse]; exact H.n2, by rw [List.length_reverse]; exact H.n7, nd_rev H.nd⟩
  rw [H.val, List.map_reverse]
theorem DQ.len {m : Int → Int} {root : Int} {r : Bool} {l vs : List Int} (H : DQ m root r l vs) : vs.length = l.length := by rw [H.val, List.length_map]
theorem DQ.ext {m m' : Int → Int} {root : Int} {r : Bool} {l vs : List Int} (H : DQ m root r l vs) (h1 : ∀ i, 0 ≤ i → i ≤ 7 → m' (root + i) = m (root + i)) (h2 : ∀ x ∈ l, ∀ i, 0 ≤ i → i ≤ 7 → m' (x + i) = m (x + i)) : DQ m' root r l vs := by
  have s1 := sd_in r; have s2 := sd_in (!r)
  refine ⟨?_, ?_, ?_, ?_, ?_, H.nd⟩
  · rw [h1 _ s1.1 (by omega)]; exact H.fwd.ext fun x hx => h2 x hx _ s2.1 (by omega)
  · rw [h1 _ s2.1 (by omega)]; exact H.bwd.ext fun x hx => h2 x (List.mem_reverse.1 hx) _ s1.1 (by omega)
  · rw [H.val]; exact List.map_congr_left fun x hx => (h2 x hx 2 (by omega) (by omega)).symm
  · rw [h1 2 (by omega) (by omega)]; exact H.n2
  · rw [h1 7 (by omega) (by omega)]; exact H.n7
theorem wp_ret' {α : Type} {p : Prog α} {σ : Spc} {Q : α → Spc → Prop} (h : wp (p >>= Prog.ret) σ Q) : wp p σ Q := by
  rw [wp_bind] at h; exact h

section
variable {D : Int → Prop} {σ0 σ σ' : Spc} {m : Int → Int} {c c' : Nat} {α β : Type} {Q : α → Spc → Prop} {p : Pl} {fr : List Int} {out root v : Int} {l vs : List Int} {r : Bool}
theorem wp_more {q : Unit → Prog α} (S : Sm D σ0 σ m c) {a n : Int} (ha : D a) (hl : σ0.pu.length + c ≤ big) (hk : ∀ σ', Sm D σ0 σ' (upd m a (w64 (m a + n))) (c + 1) → wp (q ()) σ' Q) : wp (dMore a n >>= q) σ Q := by
  unfold dMore
  rw [wp_bind]
  refine wp_get S ha fun σ1 S => ?_
  rw [← wp_bind]
  exact wp_put S ha (w64_in _) hl hk
/-- the cells that a change of a structure may turn -/
abbrev Same (p : Pl) (root : Int) (l : List Int) (m m' : Int → Int) : Prop := ∀ a, (∀ i, 0 ≤ i → i ≤ 2 → a ≠ p.root + i) → (∀ i, 0 ≤ i → i ≤ 7 → a ≠ root + i) → (∀ x ∈ l, ∀ i, 0 ≤ i → i ≤ 7 → a ≠ x + i) → m' a = m a

/-- what an allocation comes to -/
inductive Took (p : Pl) (fr : List Int) (out : Int) : Int → List Int → Int → Prop
  | free {n : Int} {fr' : List Int} : fr = n :: fr' → Took p fr out n fr' out
  | new : fr = [] → out < p.nodes → Took p fr out (p.frm + 8 * out) [] (out + 1)
theorem wp_took {q : Int × Int → Prog α} (S : Sm D σ0 σ m c) (P : PoolR m p fr out) (hD : PoolD D p) (hl : σ0.pu.length + c + 2 ≤ big)
    (h1 : ∀ n fr' out' σ' m', Took p fr out n fr' out' → (∃ i, 0 ≤ i ∧ i < out' ∧ n = p.frm + 8 * i) → n ∉ fr' → Sm D σ0 σ' m' (c + 2) → PoolR m' p fr' out' → (∀ a, a ≠ p.root → a ≠ p.root + 1 → a ≠ p.root + 2 → m' a = m a) → wp (q (n, 0)) σ' Q)
    (h2 : ∀ σ', fr = [] → out = p.nodes → Sm D σ0 σ' m c → wp (q (0, 9)) σ' Q) : wp (pTake p >>= q) σ Q := by
  refine wp_take S P hD hl (fun x fr' σ' m' e hx S' P' hm => ?_) (fun σ' m' e ho hx S' P' hm => ?_) h2
  · subst e
    exact h1 x fr' out σ' m' (.free rfl) (P.fN x (List.mem_cons_self ..)) (List.nodup_cons.1 P.nd).1 S' P' fun a a1 _ a3 => hm a a1 a3
  · exact h1 _ [] (out + 1) σ' m' (.new e ho) ⟨out, P.out0, by omega, rfl⟩ (by simp) S' P' fun a _ a2 _ => hm a a2

theorem Took.held {n : Int} {fr' : List Int} {out' : Int} (T : Took p fr out n fr' out') (P : PoolR m p fr out) (H : Held p fr out l) : n ∉ l ∧ Held p fr' out' l ∧ out ≤ out' ∧ (fr'.length : Int) - out' + 1 = fr.length - out := by
  cases T with
  | free e =>
    subst e
    refine ⟨fun hn => (H n hn).2 (List.mem_cons_self ..), fun x hx => ⟨(H x hx).1, fun h => (H x hx).2 (List.mem_cons_of_mem _ h)⟩, Int.le_refl _, ?_⟩
    simp only [List.length_cons]; omega
  | new e ho =>
    refine ⟨fun hn => ?_, fun x hx => ?_, by omega, ?_⟩
    · obtain ⟨⟨i, i0, i1, e2⟩, _⟩ := H _ hn
      omega
    · obtain ⟨⟨i, i0, i1, e2⟩, _⟩ := H x hx
      exact ⟨⟨i, i0, by omega, e2⟩, by simp⟩
    · rw [e]; simp only [List.length_nil]; omega

/-- undone: as before -/
theorem wp_undo {e : Int} {m1 : Int → Int} {q : Unit → Prog α} (S0 : Sm D σ σ m 0) (S : Sm D σ σ' m1 c) (he : e ≠ 0) (k : ∀ σ2, Sm D σ σ2 m 0 → wp (q ()) σ2 Q) : wp (dUn e σ.pu.length >>= q) σ' Q := by
  unfold dUn
  rw [if_pos he]
  exact wp_back S S0.vw S0.rg k
theorem wp_un0 {x : Int} {q : Unit → Prog α} (k : wp (q ()) σ Q) : wp (dUn 0 x >>= q) σ Q := by
  unfold dUn
  rw [if_neg (by simp)]
  exact k
theorem upd_if (m : Int → Int) (a v b : Int) : upd m a v b = if b = a then v else m b := rfl

theorem wp_dPush (S : Sm D σ σ m 0) (P : PoolR m p fr out) (hD : PoolD D p) (hRD : RootD D root) (hA : RA p root) (K : DQ m root r l vs) (H : Held p fr out l) (hv : R64 v) (hl : σ.pu.length + 12 ≤ big) :
    wp (dPush p root r v) σ fun e σ' => (∃ n fr' out' m', e = 0 ∧ Took p fr out n fr' out' ∧ Sm D σ σ' m' 12 ∧ PoolR m' p fr' out' ∧ DQ m' root r (n :: l) (v :: vs) ∧ Held p fr' out' (n :: l) ∧ Same p root (n :: l) m m') ∨
      (e = 9 ∧ fr = [] ∧ out = p.nodes ∧ Sm D σ σ' m 12) := by
  have g := P.good
  have g1 := g.f1; have g2 := g.f2; have g3 := g.n1; have g4 := g.r0
  obtain ⟨ra, rb⟩ := hA
  have s1 := sd_in r; have s2 := sd_in (!r); have s3 := sd_ne r
  unfold dPush
  refine wp_mark ?_
  refine wp_took S P hD (by omega) (fun n fr' out' σ1 m1 T hn hnf S1 P1 hm1 => ?_) fun σ1 e ho S1 => ?_
  rotate_left
  · rw [if_pos (by decide)]
    refine wp_undo S S1 (by decide) fun σ2 S2 => ?_
    exact .inr ⟨rfl, e, ho, S2.mono (by omega)⟩
  obtain ⟨hnl, H', ho', _⟩ := T.held P H
  have hp1 := P1.out1
  have hnn := hn
  obtain ⟨j, j0, j1, ej⟩ := hn
  have hnN : isN p n := ⟨j, j0, by omega, ej⟩
  rw [if_neg (by simp)]
  refine wp_get S1 (hRD _ s1.1 (by omega)) fun σ2 S2 => ?_
  have hen : m1 (root + sd r) = l.head?.getD 0 := by rw [hm1 _ (by omega) (by omega) (by omega)]; exact K.fwd.head
  have hD' : ∀ i, 0 ≤ i → i ≤ 7 → D (n + i) := hD.n n hnN
  refine wp_put S2 (hD' _ s1.1 (by omega)) ⟨by decide, by decide⟩ (by omega) fun σ3 S => ?_
  refine wp_put S (hD' _ s2.1 (by omega)) (S1.rg _) (by omega) fun σ4 S => ?_
  refine wp_put S (hD' 2 (by omega) (by omega)) hv (by omega) fun σ5 S => ?_
  -- the end of it
  have tail : ∀ (σ6 : Spc) (m6 : Int → Int) (c : Nat), c ≤ 8 → Sm D σ σ6 m6 c → (∀ a, (∀ i, 0 ≤ i → i ≤ 2 → a ≠ p.root + i) → a ≠ root + sd !r → a ≠ n + sd r → a ≠ n + sd !r → a ≠ n + 2 → (∀ x, l.head? = some x → a ≠ x + sd r) → m6 a = m a) →
      (∀ i, 0 ≤ i → i ≤ 2 → m6 (p.root + i) = m1 (p.root + i)) → m6 (n + sd r) = 0 → m6 (n + sd !r) = l.head?.getD 0 → m6 (n + 2) = v → (m6 (root + sd !r) = if l = [] then n else m (root + sd !r)) → (∀ x, l.head? = some x → m6 (x + sd r) = n) →
      wp (dPushT root n r) σ6 fun e σ' => (∃ n fr' out' m', e = 0 ∧ Took p fr out n fr' out' ∧ Sm D σ σ' m' 12 ∧ PoolR m' p fr' out' ∧ DQ m' root r (n :: l) (v :: vs) ∧ Held p fr' out' (n :: l) ∧ Same p root (n :: l) m m') ∨
        (e = 9 ∧ fr = [] ∧ out = p.nodes ∧ Sm D σ σ' m 12) := by
    intro σ6 m6 c hc S6 hm6 hp6 hn0 hn1 hn2 hr6 hx6
    unfold dPushT
    refine wp_put S6 (hRD _ s1.1 (by omega)) ⟨by omega, by omega⟩ (by omega) fun σ7 S => ?_
    refine wp_more S (hRD 2 (by omega) (by omega)) (by omega) fun σ8 S => ?_
    refine wp_more S (hRD 7 (by omega) (by omega)) (by omega) fun σ9 S => ?_
    refine wp_un0 ?_
    -- the nodes are apart
    have hidx : ∀ x ∈ l, ∃ i, 0 ≤ i ∧ i < out' ∧ i ≠ j ∧ x = p.frm + 8 * i := fun x hx => by
      obtain ⟨⟨i, i0, i1, e⟩, _⟩ := H' x hx
      exact ⟨i, i0, i1, fun h => hnl (by rw [ej, ← h, ← e]; exact hx), e⟩
    have hlen : (l.length : Int) ≤ 128 := by
      have := nodes_len (fun x hx => let ⟨i, a, b, _, d⟩ := hidx x hx; ⟨i, a, b, d⟩) K.nd P1.out0
      omega
    have e2 : m6 (root + 2) = l.length := by
      rw [hm6 _ (fun i h1 h2 => by omega) (by omega) (by omega) (by omega) (by omega) (fun x hx => by obtain ⟨i, _, _, _, e⟩ := hidx x (List.mem_of_head? hx); omega)]
      exact K.n2
    have e7 : m6 (root + 7) = l.length := by
      rw [hm6 _ (fun i h1 h2 => by omega) (by omega) (by omega) (by omega) (by omega) (fun x hx => by obtain ⟨i, _, _, _, e⟩ := hidx x (List.mem_of_head? hx); omega)]
      exact K.n7
    have e7' : upd (upd m6 (root + sd r) n) (root + 2) (w64 (upd m6 (root + sd r) n (root + 2) + 1)) (root + 7) = l.length := by
      rw [upd_ne _ _ (by omega), upd_ne _ _ (by omega)]; exact e7
    have e2' : upd m6 (root + sd r) n (root + 2) = l.length := by rw [upd_ne _ _ (by omega)]; exact e2
    rw [e7', e2', w64_R ⟨by omega, by omega⟩] at S
    -- what is where
    have at' : ∀ a, upd (upd (upd m6 (root + sd r) n) (root + 2) ((l.length : Int) + 1)) (root + 7) ((l.length : Int) + 1) a = if a = root + 7 then (l.length : Int) + 1 else if a = root + 2 then (l.length : Int) + 1 else if a = root + sd r then n else m6 a := fun a => rfl
    generalize upd (upd (upd m6 (root + sd r) n) (root + 2) ((l.length : Int) + 1)) (root + 7) ((l.length : Int) + 1) = m' at *
    have hf : ∀ a, (∀ i, 0 ≤ i → i ≤ 7 → a ≠ root + i) → m' a = m6 a := fun a ha => by
      rw [at', if_neg (ha 7 (by omega) (by omega)), if_neg (ha 2 (by omega) (by omega)), if_neg (ha _ s1.1 (by omega))]
    have hnode : ∀ x i, (∃ k, x = p.frm + 8 * k ∧ 0 ≤ k) → 0 ≤ i → i ≤ 7 → m' (x + i) = m6 (x + i) := fun x i ⟨k, e, k0⟩ i0 i1 => hf _ fun i' _ _ => by omega
    have hold : ∀ x ∈ l, ∀ i, 0 ≤ i → i ≤ 7 → (i = sd r → l.head? ≠ some x) → m' (x + i) = m (x + i) := fun x hx i i0 i1 hi => by
      obtain ⟨k, k0, k1, kj, e⟩ := hidx x hx
      rw [hnode x i ⟨k, e, k0⟩ i0 i1]
      refine hm6 _ (fun i' _ _ => by omega) (by omega) (by omega) (by omega) (by omega) fun y hy => ?_
      obtain ⟨k', k0', k1', kj', e'⟩ := hidx y (List.mem_of_head? hy)
      intro h
      have : k = k' := by omega
      subst this
      exact hi (by omega) (by rw [hy, e, e'])
    refine .inl ⟨n, fr', out', m', rfl, T, S.mono (by omega), ?_, ⟨?_, ?_, ?_, ?_, ?_, List.nodup_cons.2 ⟨hnl, K.nd⟩⟩, ?_, ?_⟩
    · refine P1.ext fun a ha => ?_
      have h6 : m' a = m6 a := hf a fun i i0 i1 => by
        rcases ha with h | h | h | h
        · omega
        · omega
        · omega
        · obtain ⟨k, k0, k1, e⟩ := P1.fN a h; omega
      rw [h6]
      rcases ha with h | h | h | h
      · have := hp6 0 (by omega) (by omega); rw [Int.add_zero] at this; rw [h]; exact this
      · rw [h]; exact hp6 1 (by omega) (by omega)
      · rw [h]; exact hp6 2 (by omega) (by omega)
      · obtain ⟨k, k0, k1, e⟩ := P1.fN a h
        have hkj : k ≠ j := fun hk => hnf (by rw [ej, ← hk, ← e]; exact h)
        rw [hm6 a (fun i _ _ => by omega) (by omega) (by omega) (by omega) (by omega) fun y hy => ?_, hm1 a (by omega) (by omega) (by omega)]
        obtain ⟨k', k0', k1', kj', e'⟩ := hidx y (List.mem_of_head? hy)
        intro h2
        have : k = k' := by omega
        exact (H' y (List.mem_of_head? hy)).2 (by rw [e', ← this, ← e]; exact h)
    · rw [at', if_neg (by omega), if_neg (by omega), if_pos rfl]
      refine ⟨rfl, ?_⟩
      rw [hnode n _ ⟨j, ej, j0⟩ s2.1 (by omega), hn1, ← K.fwd.head]
      exact K.fwd.ext fun x hx => hold x hx _ s2.1 (by omega) fun e => absurd e.symm s3
    · rw [List.reverse_cons]
      cases hll : l with
      | nil =>
        rw [at', if_neg (by omega), if_neg (by omega), if_neg (by omega), hr6, if_pos hll]
        exact ⟨rfl, by show m' (n + sd r) = 0; rw [hnode n _ ⟨j, ej, j0⟩ s1.1 (by omega)]; exact hn0⟩
      | cons y l2 =>
        rw [at', if_neg (by omega), if_neg (by omega), if_neg (by omega), hr6, if_neg (by rw [hll]; simp), ← hll]
        refine Lk.snoc K.bwd (fun x hx => ?_) (nd_rev K.nd) ?_ (fun e => ?_) (by rw [hll]; simp)
        · rw [List.getLast?_reverse]
          by_cases e : l.head? = some x
          · rw [if_pos e.symm]
            obtain ⟨k, k0, k1, kj, e'⟩ := hidx x (List.mem_reverse.1 hx)
            rw [hnode x _ ⟨k, e', k0⟩ s1.1 (by omega)]
            exact hx6 x e
          · rw [if_neg (fun h => e h.symm)]
            exact hold x (List.mem_reverse.1 hx) _ s1.1 (by omega) fun _ => e
        · rw [hnode n _ ⟨j, ej, j0⟩ s1.1 (by omega)]; exact hn0
        · rw [hll] at e; simp at e
    · rw [List.map_cons, hnode n 2 ⟨j, ej, j0⟩ (by omega) (by omega), hn2, K.val]
      congr 1
      exact List.map_congr_left fun x hx => (hold x hx 2 (by omega) (by omega) fun e => by omega).symm
    · rw [at', if_neg (by omega), if_pos rfl]; simp
    · rw [at', if_pos rfl]; simp
    · intro x hx
      rcases List.mem_cons.1 hx with rfl | hx
      · exact ⟨hnn, hnf⟩
      · exact H' x hx
    · intro a ha1 ha2 ha3
      rw [hf a ha2]
      refine hm6 a ha1 (ha2 _ s2.1 (by omega)) (ha3 n (List.mem_cons_self ..) _ s1.1 (by omega)) (ha3 n (List.mem_cons_self ..) _ s2.1 (by omega)) (ha3 n (List.mem_cons_self ..) 2 (by omega) (by omega)) fun x hx => ha3 x (List.mem_cons_of_mem _ (List.mem_of_head? hx)) _ s1.1 (by omega)
  rw [hen] at S ⊢
  have hx0 : ∀ x, l.head? = some x → ∃ i, 0 ≤ i ∧ i < out' ∧ i ≠ j ∧ x = p.frm + 8 * i := fun x hx => by
    obtain ⟨⟨i, i0, i1, e⟩, _⟩ := H' x (List.mem_of_head? hx)
    exact ⟨i, i0, i1, fun h => hnl (by rw [ej, ← h, ← e]; exact List.mem_of_head? hx), e⟩
  cases hll : l with
  | nil =>
    rw [show (([] : List Int).head?.getD 0) = 0 from rfl, if_pos rfl]
    rw [hll] at S
    refine wp_put S (hRD _ s2.1 (by omega)) ⟨by omega, by omega⟩ (by omega) fun σ6 S => ?_
    rw [hll] at tail
    refine tail σ6 _ _ (by omega) S (fun a a1 a2 a3 a4 a5 _ => ?_) (fun i i0 i1 => ?_) ?_ ?_ ?_ ?_ (fun x hx => by cases hx)
    · rw [upd_ne _ _ a2, upd_ne _ _ a5, upd_ne _ _ a4, upd_ne _ _ a3]
      have b0 := a1 0 (by omega) (by omega); have b1 := a1 1 (by omega) (by omega); have b2 := a1 2 (by omega) (by omega)
      exact hm1 a (by omega) b1 b2
    · rw [upd_ne _ _ (by omega), upd_ne _ _ (by omega), upd_ne _ _ (by omega), upd_ne _ _ (by omega)]
    · rw [upd_ne _ _ (by omega), upd_ne _ _ (by omega), upd_ne _ _ (by omega), upd_eq]
    · rw [upd_ne _ _ (by omega), upd_ne _ _ (by omega), upd_eq]
    · rw [upd_ne _ _ (by omega), upd_eq]
    · rw [upd_eq, if_pos rfl]
  | cons x l2 =>
    rw [hll] at S hx0 tail
    obtain ⟨i, i0, i1, hij, e⟩ := hx0 x rfl
    have hxN : isN p x := ⟨i, i0, by omega, e⟩
    rw [show ((x :: l2).head?.getD 0) = x from rfl, if_neg (by omega), if_pos (isN_node g hxN)]
    refine wp_put S (hD.n x hxN _ s1.1 (by omega)) ⟨by omega, by omega⟩ (by omega) fun σ6 S => ?_
    refine tail σ6 _ _ (by omega) S (fun a a1 a2 a3 a4 a5 a6 => ?_) (fun i i0 i1 => ?_) ?_ ?_ ?_ ?_ (fun y hy => ?_)
    · rw [upd_ne _ _ (a6 x rfl), upd_ne _ _ a5, upd_ne _ _ a4, upd_ne _ _ a3]
      have b0 := a1 0 (by omega) (by omega); have b1 := a1 1 (by omega) (by omega); have b2 := a1 2 (by omega) (by omega)
      exact hm1 a (by omega) b1 b2
    · rw [upd_ne _ _ (by omega), upd_ne _ _ (by omega), upd_ne _ _ (by omega), upd_ne _ _ (by omega)]
    · rw [upd_ne _ _ (by omega), upd_ne _ _ (by omega), upd_ne _ _ (by omega), upd_eq]
    · rw [upd_ne _ _ (by omega), upd_ne _ _ (by omega), upd_eq]
      try rfl
    · rw [upd_ne _ _ (by omega), upd_eq]
    · rw [upd_ne _ _ (by omega), upd_ne _ _ (by omega), upd_ne _ _ (by omega), upd_ne _ _ (by omega), if_neg (by simp)]
      exact hm1 _ (by omega) (by omega) (by omega)
    · have hy : x = y := by simpa using hy
      subst hy
      rw [upd_eq]

theorem wp_dPop (S : Sm D σ σ m 0) (P : PoolR m p fr out) (hD : PoolD D p) (hRD : RootD D root) (hA : RA p root) (K : DQ m root r l vs) (H : Held p fr out l) (hl : σ.pu.length + 20 ≤ big) :
    wp (dPop p root r) σ fun e σ' => (∃ n l' v vs' m', l = n :: l' ∧ vs = v :: vs' ∧ e = (v, 0) ∧ Sm D σ σ' m' 12 ∧ PoolR m' p (n :: fr) out ∧ DQ m' root r l' vs' ∧ Held p (n :: fr) out l' ∧ Same p root (n :: l') m m') ∨
      (e = (0, 8) ∧ l = [] ∧ vs = [] ∧ Sm D σ σ' m 12) := by
  have g := P.good
  have g1 := g.f1; have g2 := g.f2; have g3 := g.n1; have g4 := g.r0
  have hp1 := P.out1
  obtain ⟨ra, rb⟩ := hA
  have s1 := sd_in r; have s2 := sd_in (!r); have s3 := sd_ne r
  unfold dPop
  refine wp_mark ?_
  refine wp_get S (hRD _ s1.1 (by omega)) fun σ1 S1 => ?_
  cases l with
  | nil =>
    have e0 : m (root + sd r) = 0 := K.fwd
    rw [e0, if_pos rfl]
    refine wp_undo S S1 (by decide) fun σ2 S2 => ?_
    exact .inr ⟨rfl, rfl, by rw [K.val]; rfl, S2.mono (by omega)⟩
  | cons n l' =>
  have hne := K.fwd.1
  obtain ⟨hnl, hnd'⟩ := List.nodup_cons.1 K.nd
  obtain ⟨hnn, hnf⟩ := H n (List.mem_cons_self ..)
  have hnn' := hnn
  obtain ⟨j, j0, j1, ej⟩ := hnn
  have hnN : isN p n := ⟨j, j0, by omega, ej⟩
  have hidx : ∀ x ∈ l', ∃ i, 0 ≤ i ∧ i < out ∧ i ≠ j ∧ x = p.frm + 8 * i := fun x hx => by
    obtain ⟨⟨i, i0, i1, e⟩, _⟩ := H x (List.mem_cons_of_mem _ hx)
    exact ⟨i, i0, i1, fun h => hnl (by rw [ej, ← h, ← e]; exact hx), e⟩
  have hD' : ∀ i, 0 ≤ i → i ≤ 7 → D (n + i) := hD.n n hnN
  rw [hne, if_neg (by omega), if_pos (isN_node g hnN)]
  refine wp_get S1 (hD' _ s2.1 (by omega)) fun σ2 S2 => ?_
  have hnx : m (n + sd !r) = l'.head?.getD 0 := K.fwd.2.head
  have hlen : ((n :: l').length : Int) ≤ 128 := by
    have := nodes_len (fun x hx => (H x hx).1) K.nd P.out0
    omega
  -- the end of it
  have tail : ∀ (σ6 : Spc) (m6 : Int → Int) (c : Nat), c ≤ 2 → Sm D σ σ6 m6 c → (∀ a, a ≠ root + sd !r → (∀ x, l'.head? = some x → a ≠ x + sd r) → m6 a = m a) →
      (m6 (root + sd !r) = if l' = [] then 0 else m (root + sd !r)) → (∀ x, l'.head? = some x → m6 (x + sd r) = 0) →
      wp (dPopT p root n (l'.head?.getD 0) σ.pu.length r) σ6 fun e σ' => (∃ n0 l0 v vs' m', n :: l' = n0 :: l0 ∧ vs = v :: vs' ∧ e = (v, 0) ∧ Sm D σ σ' m' 12 ∧ PoolR m' p (n0 :: fr) out ∧ DQ m' root r l0 vs' ∧ Held p (n0 :: fr) out l0 ∧ Same p root (n0 :: l0) m m') ∨
        (e = (0, 8) ∧ n :: l' = [] ∧ vs = [] ∧ Sm D σ σ' m 12) := by
    intro σ6 m6 c hc S6 hm6 hr6 hx6
    unfold dPopT
    have hhd : R64 (l'.head?.getD 0) := by rw [← hnx]; exact S.rg _
    refine wp_put S6 (hRD _ s1.1 (by omega)) hhd (by omega) fun σ7 S => ?_
    refine wp_more S (hRD 2 (by omega) (by omega)) (by omega) fun σ8 S => ?_
    refine wp_more S (hRD 7 (by omega) (by omega)) (by omega) fun σ9 S => ?_
    refine wp_get S (hD' 2 (by omega) (by omega)) fun σ10 S => ?_
    have e2 : m6 (root + 2) = (n :: l').length := by
      rw [hm6 _ (by omega) (fun x hx => by obtain ⟨i, _, _, _, e⟩ := hidx x (List.mem_of_head? hx); omega)]
      exact K.n2
    have e7 : m6 (root + 7) = (n :: l').length := by
      rw [hm6 _ (by omega) (fun x hx => by obtain ⟨i, _, _, _, e⟩ := hidx x (List.mem_of_head? hx); omega)]
      exact K.n7
    have e7' : upd (upd m6 (root + sd r) (l'.head?.getD 0)) (root + 2) (w64 (upd m6 (root + sd r) (l'.head?.getD 0) (root + 2) + -1)) (root + 7) = (n :: l').length := by
      rw [upd_ne _ _ (by omega), upd_ne _ _ (by omega)]; exact e7
    have e2' : upd m6 (root + sd r) (l'.head?.getD 0) (root + 2) = (n :: l').length := by rw [upd_ne _ _ (by omega)]; exact e2
    have hlc : ((n :: l').length : Int) + -1 = l'.length := by simp only [List.length_cons]; omega
    rw [e7', e2', hlc, w64_R ⟨by omega, by simp only [List.length_cons] at hlen; omega⟩] at S ⊢
    have at' : ∀ a, upd (upd (upd m6 (root + sd r) (l'.head?.getD 0)) (root + 2) (l'.length : Int)) (root + 7) (l'.length : Int) a = if a = root + 7 then (l'.length : Int) else if a = root + 2 then (l'.length : Int) else if a = root + sd r then l'.head?.getD 0 else m6 a := fun a => rfl
    generalize upd (upd (upd m6 (root + sd r) (l'.head?.getD 0)) (root + 2) (l'.length : Int)) (root + 7) (l'.length : Int) = m7 at *
    have hf : ∀ a, (∀ i, 0 ≤ i → i ≤ 7 → a ≠ root + i) → m7 a = m6 a := fun a ha => by
      rw [at', if_neg (ha 7 (by omega) (by omega)), if_neg (ha 2 (by omega) (by omega)), if_neg (ha _ s1.1 (by omega))]
    have hnode : ∀ x i, (∃ k, x = p.frm + 8 * k ∧ 0 ≤ k) → 0 ≤ i → i ≤ 7 → m7 (x + i) = m6 (x + i) := fun x i ⟨k, e, k0⟩ i0 i1 => hf _ fun i' _ _ => by omega
    have hold : ∀ x, (∃ k, 0 ≤ k ∧ x = p.frm + 8 * k) → ∀ i, 0 ≤ i → i ≤ 7 → (i = sd r → l'.head? ≠ some x) → m7 (x + i) = m (x + i) := fun x ⟨k, k0, e⟩ i i0 i1 hi => by
      rw [hnode x i ⟨k, e, k0⟩ i0 i1]
      refine hm6 _ (by omega) fun y hy => ?_
      obtain ⟨k', k0', k1', kj', e'⟩ := hidx y (List.mem_of_head? hy)
      intro h
      have : k = k' := by omega
      subst this
      exact hi (by omega) (by rw [hy, e, e'])
    have hv : m7 (n + 2) = m (n + 2) := hold n ⟨j, j0, ej⟩ 2 (by omega) (by omega) fun e => by omega
    rw [hv]
    have P7 : PoolR m7 p fr out := P.ext fun a ha => by
      have h6 : m7 a = m6 a := hf a fun i i0 i1 => by
        rcases ha with h | h | h | h
        · omega
        · omega
        · omega
        · obtain ⟨k, k0, k1, e⟩ := P.fN a h; omega
      rw [h6]
      refine hm6 a ?_ fun y hy => ?_
      · rcases ha with h | h | h | h
        · omega
        · omega
        · omega
        · obtain ⟨k, k0, k1, e⟩ := P.fN a h; omega
      · obtain ⟨k', k0', k1', kj', e'⟩ := hidx y (List.mem_of_head? hy)
        rcases ha with h | h | h | h
        · omega
        · omega
        · omega
        · obtain ⟨k, k0, k1, e⟩ := P.fN a h
          intro h2
          have : k = k' := by omega
          exact (H y (List.mem_cons_of_mem _ (List.mem_of_head? hy))).2 (by rw [e', ← this, ← e]; exact h)
    refine wp_give S P7 hD (by omega) ej ⟨j0, j1⟩ hnf fun σ11 m' S P' hm' => ?_
    rw [if_neg (by simp)]
    refine wp_un0 ?_
    have hvs : vs = m (n + 2) :: l'.map fun x => m (x + 2) := K.val
    have hf' : ∀ a, a ≠ p.root → a ≠ p.root + 2 → a ≠ n → m' a = m7 a := hm'
    have hroot : ∀ i, 0 ≤ i → i ≤ 7 → m' (root + i) = m7 (root + i) := fun i i0 i1 => hf' _ (by omega) (by omega) (by omega)
    have hl' : ∀ x ∈ l', ∀ i, 0 ≤ i → i ≤ 7 → m' (x + i) = m7 (x + i) := fun x hx i i0 i1 => by
      obtain ⟨k, k0, k1, kj, e⟩ := hidx x hx
      exact hf' _ (by omega) (by omega) (by omega)
    refine .inl ⟨n, l', m (n + 2), l'.map fun x => m (x + 2), m', rfl, hvs, rfl, S.mono (by omega), P', ⟨?_, ?_, ?_, ?_, ?_, hnd'⟩, ?_, ?_⟩
    · rw [hroot _ s1.1 (by omega), at', if_neg (by omega), if_neg (by omega), if_pos rfl, ← hnx]
      refine K.fwd.2.ext fun x hx => ?_
      obtain ⟨k, k0, k1, kj, e⟩ := hidx x hx
      rw [hl' x hx _ s2.1 (by omega)]
      exact hold x ⟨k, k0, e⟩ _ s2.1 (by omega) fun e => absurd e.symm s3
    · rw [hroot _ s2.1 (by omega), at', if_neg (by omega), if_neg (by omega), if_neg (by omega), hr6]
      cases hll : l' with
      | nil => rw [if_pos rfl]; rfl
      | cons y l2 =>
        rw [if_neg (by simp), ← hll]
        have hb := K.bwd
        rw [List.reverse_cons] at hb
        refine Lk.unsnoc hb (fun x hx => ?_) (by rw [← List.reverse_cons]; exact nd_rev K.nd) (by rw [hll]; simp)
        have hx := List.mem_reverse.1 hx
        obtain ⟨k, k0, k1, kj, e⟩ := hidx x hx
        rw [hl' x hx _ s1.1 (by omega), List.getLast?_reverse]
        by_cases e' : l'.head? = some x
        · rw [if_pos e'.symm, hnode x _ ⟨k, e, k0⟩ s1.1 (by omega)]
          exact hx6 x e'
        · rw [if_neg (fun h => e' h.symm)]
          exact hold x ⟨k, k0, e⟩ _ s1.1 (by omega) fun _ => e'
    · exact List.map_congr_left fun x hx => by
        obtain ⟨k, k0, k1, kj, e⟩ := hidx x hx
        rw [hl' x hx 2 (by omega) (by omega)]
        exact (hold x ⟨k, k0, e⟩ 2 (by omega) (by omega) fun e => by omega).symm
    · rw [hroot 2 (by omega) (by omega), at', if_neg (by omega), if_pos rfl]
    · rw [hroot 7 (by omega) (by omega), at', if_pos rfl]
    · intro x hx
      obtain ⟨h1, h2⟩ := H x (List.mem_cons_of_mem _ hx)
      refine ⟨h1, fun hm => ?_⟩
      rcases List.mem_cons.1 hm with e | hm
      · exact hnl (e ▸ hx)
      · exact h2 hm
    · intro a ha1 ha2 ha3
      have b0 := ha1 0 (by omega) (by omega)
      have b3 := ha3 n (List.mem_cons_self ..) 0 (by omega) (by omega)
      rw [hf' a (by omega) (ha1 2 (by omega) (by omega)) (by omega), hf a ha2]
      exact hm6 a (ha2 _ s2.1 (by omega)) fun x hx => ha3 x (List.mem_cons_of_mem _ (List.mem_of_head? hx)) _ s1.1 (by omega)
  rw [hnx]
  cases hll : l' with
  | nil =>
    rw [show (([] : List Int).head?.getD 0) = 0 from rfl, if_pos rfl]
    refine wp_put S2 (hRD _ s2.1 (by omega)) ⟨by decide, by decide⟩ (by omega) fun σ6 S => ?_
    rw [hll] at tail
    refine tail σ6 _ _ (by omega) S (fun a a1 _ => upd_ne _ _ a1) ?_ (fun x hx => by cases hx)
    rw [upd_eq, if_pos rfl]
  | cons x l2 =>
    rw [hll] at hidx tail
    obtain ⟨i, i0, i1, hij, e⟩ := hidx x (List.mem_cons_self ..)
    have hxN : isN p x := ⟨i, i0, by omega, e⟩
    rw [show ((x :: l2).head?.getD 0) = x from rfl, if_neg (by omega), if_pos (isN_node g hxN)]
    refine wp_put S2 (hD.n x hxN _ s1.1 (by omega)) ⟨by decide, by decide⟩ (by omega) fun σ6 S => ?_
    refine tail σ6 _ _ (by omega) S (fun a a1 a2 => upd_ne _ _ (a2 x rfl)) ?_ (fun y hy => ?_)
    · rw [upd_ne _ _ (by omega), if_neg (by simp)]
    · have hy : x = y := by simpa using hy
      subst hy
      rw [upd_eq]
theorem wp_dPeek (S : Sm D σ σ m 0) (P : PoolR m p fr out) (hD : PoolD D p) (hRD : RootD D root) (K : DQ m root r l vs) (H : Held p fr out l) :
    wp (dPeek root r) σ fun e σ' => Sm D σ σ' m 0 ∧ ((∃ v vs', vs = v :: vs' ∧ e = (v, 0)) ∨ (vs = [] ∧ e = (0, 8))) := by
  have s1 := sd_in r
  have g := P.good
  have g1 := g.f1
  have hp1 := P.out1
  unfold dPeek
  refine wp_get S (hRD _ s1.1 (by omega)) fun σ1 S1 => ?_
  cases l with
  | nil =>
    have e0 : m (root + sd r) = 0 := K.fwd
    rw [e0, if_pos rfl]
    exact ⟨S1, .inr ⟨K.val, rfl⟩⟩
  | cons n l' =>
    obtain ⟨⟨j, j0, j1, ej⟩, _⟩ := H n (List.mem_cons_self ..)
    have hnN : isN p n := ⟨j, j0, by omega, ej⟩
    have g2 := g.f2; have g3 := g.n1
    rw [K.fwd.1, if_neg (by omega), w64_R ⟨by omega, by omega⟩]
    refine wp_get S1 (hD.n n hnN 2 (by omega) (by omega)) fun σ2 S2 => ?_
    exact ⟨S2, .inl ⟨_, _, K.val, rfl⟩⟩
theorem wp_dLoop (g : p.good) (hD : PoolD D p) : ∀ (l : List Int) (k : Nat) (a : Int) (acc : List Int) (σ' : Spc), Sm D σ σ' m c → Lk m (sd !r) a l → (∀ x ∈ l, isN p x) → l.length ≤ k →
    wp (dLoop p r k a acc) σ' fun o σ2 => o = some (acc ++ l.map fun x => m (x + 2)) ∧ Sm D σ σ2 m c
  | [], k, a, acc, σ', S, h, _, _ => by
    have e : a = 0 := h
    cases k with
    | zero => unfold dLoop; rw [if_pos e]; exact ⟨by simp, S⟩
    | succ k => unfold dLoop; rw [if_pos e]; exact ⟨by simp, S⟩
  | x :: l, k, a, acc, σ', S, h, hN, hl => by
    have s2 := sd_in (!r)
    obtain ⟨rfl, h⟩ := h
    have hx := hN a (List.mem_cons_self ..)
    have hp := isN_pos g hx
    cases k with
    | zero => simp at hl
    | succ k =>
      unfold dLoop
      rw [if_neg (by omega), if_pos (isN_node g hx)]
      refine wp_get S (hD.n a hx 2 (by omega) (by omega)) fun σ1 S => ?_
      refine wp_get S (hD.n a hx _ s2.1 (by omega)) fun σ2 S => ?_
      refine Prog.wp_mono (wp_dLoop g hD l k _ _ _ S h (fun y hy => hN y (List.mem_cons_of_mem _ hy)) (by simpa using hl)) fun o σ3 ⟨e, S⟩ => ⟨by rw [e, List.append_assoc]; rfl, S⟩
theorem wp_dWalk (S : Sm D σ σ m 0) (P : PoolR m p fr out) (hD : PoolD D p) (hRD : RootD D root) (K : DQ m root r l vs) (H : Held p fr out l) : wp (dWalk p root r) σ fun o σ' => o = some vs ∧ Sm D σ σ' m 0 := by
  have s1 := sd_in r
  have hp1 := P.out1
  unfold dWalk
  refine wp_get S (hRD _ s1.1 (by omega)) fun σ1 S1 => ?_
  have hlen := nodes_len (fun x hx => (H x hx).1) K.nd P.out0
  refine Prog.wp_mono (wp_dLoop P.good hD l _ _ [] _ S1 K.fwd (fun x hx => by obtain ⟨⟨i, i0, i1, e⟩, _⟩ := H x hx; exact ⟨i, i0, by omega, e⟩) (by omega)) fun o σ2 ⟨e, S⟩ => ⟨by rw [e, K.val]; rfl, S⟩
end
end Go.En
namespace Go.En
open Prog Spc

/-! ### Chains with links back -/
def DLf (m : Int → Int) (nx pv : Int) : Int → Int → List Int → Prop
  | _, a, [] => a = 0
  | pr, a, x :: r => a = x ∧ m (x + pv) = pr ∧ DLf m nx pv x (m (x + nx)) r
abbrev DL (m : Int → Int) (hd nx pv : Int) (l : List Int) : Prop := DLf m nx pv 0 (m hd) l
section
variable {m m' : Int → Int} {nx pv pr pr' a hd n : Int}
theorem DLf.ext : ∀ {l : List Int} {pr a : Int}, DLf m nx pv pr a l → (∀ x ∈ l, m' (x + nx) = m (x + nx) ∧ m' (x + pv) = m (x + pv)) → DLf m' nx pv pr a l
  | [], _, _, h, _ => h
  | x :: r, pr, a, h, e => by
    obtain ⟨h1, h2, h3⟩ := h
    have ex := e x (List.mem_cons_self ..)
    exact ⟨h1, by rw [ex.2]; exact h2, by rw [ex.1]; exact h3.ext fun y hy => e y (List.mem_cons_of_mem _ hy)⟩
theorem DL.ext {l : List Int} (h : DL m hd nx pv l) (e0 : m' hd = m hd) (e : ∀ x ∈ l, m' (x + nx) = m (x + nx) ∧ m' (x + pv) = m (x + pv)) : DL m' hd nx pv l := by
  show DLf m' nx pv 0 (m' hd) l
  rw [e0]; exact DLf.ext h e
theorem DLf.head {l : List Int} (h : DLf m nx pv pr a l) : a = l.head?.getD 0 := by
  cases l with
  | nil => exact h
  | cons x r => exact h.1
/-- another node ahead -/
theorem DLf.re {l : List Int} (h : DLf m nx pv pr a l) (hn : l.Nodup) (e1 : ∀ x ∈ l, m' (x + nx) = m (x + nx)) (e2 : ∀ x ∈ l, m' (x + pv) = if l.head? = some x then pr' else m (x + pv)) : DLf m' nx pv pr' a l := by
  cases l with
  | nil => exact h
  | cons x r =>
    obtain ⟨h1, h2, h3⟩ := h
    refine ⟨h1, by rw [e2 x (List.mem_cons_self ..), if_pos (by rfl : (x :: r).head? = some x)], ?_⟩
    rw [e1 x (List.mem_cons_self ..)]
    refine h3.ext fun y hy => ⟨e1 y (List.mem_cons_of_mem _ hy), ?_⟩
    have hne : x ≠ y := fun e => (List.nodup_cons.1 hn).1 (e ▸ hy)
    rw [e2 y (List.mem_cons_of_mem _ hy), if_neg (by simpa using hne)]
theorem DLf.at' : ∀ {l1 l2 : List Int} {pr a : Int}, DLf m nx pv pr a (l1 ++ n :: l2) → m (n + pv) = l1.getLast?.getD pr ∧ m (n + nx) = l2.head?.getD 0
  | [], l2, pr, a, h => ⟨h.2.1, h.2.2.head⟩
  | x :: l1, l2, pr, a, h => by
    have := h.2.2.at'
    refine ⟨?_, this.2⟩
    rw [this.1]
    cases l1 with
    | nil => rfl
    | cons y t => simp [List.getLast?_cons]
theorem DLf.cut : ∀ {l1 l2 : List Int} {pr a : Int}, DLf m nx pv pr a (l1 ++ n :: l2) → (l1 ++ n :: l2).Nodup →
    (∀ x ∈ l1 ++ l2, m' (x + nx) = if l1.getLast? = some x then m (n + nx) else m (x + nx)) → (∀ x ∈ l1 ++ l2, m' (x + pv) = if l2.head? = some x then l1.getLast?.getD pr else m (x + pv)) →
    DLf m' nx pv pr (if l1 = [] then m (n + nx) else a) (l1 ++ l2)
  | [], l2, pr, a, h, hn, e1, e2 => by
    rw [if_pos rfl, List.nil_append]
    obtain ⟨h1, h2, h3⟩ := h
    rw [List.nil_append, List.nodup_cons] at hn
    refine h3.re hn.2 (fun x hx => ?_) fun x hx => ?_
    · rw [e1 x (by simpa using hx), if_neg (by simp)]
    · rw [e2 x (by simpa using hx)]; rfl
  | x :: l1, l2, pr, a, h, hn, e1, e2 => by
    rw [if_neg (by simp), List.cons_append]
    obtain ⟨h1, h2, h3⟩ := h
    rw [List.cons_append, List.nodup_cons] at hn
    have hxl : x ∉ l1 ++ l2 := fun hx => hn.1 (by
      rcases List.mem_append.1 hx with h | h
      · exact List.mem_append_left _ h
      · exact List.mem_append_right _ (List.mem_cons_of_mem _ h))
    have ih := DLf.cut h3 hn.2 (fun y hy => ?_) fun y hy => ?_
    · refine ⟨h1, ?_, ?_⟩
      · rw [e2 x (by simp), if_neg (fun hh => hxl (List.mem_append_right _ (List.mem_of_head? hh)))]
        exact h2
      · rw [e1 x (by simp)]
        cases l1 with
        | nil => rw [if_pos rfl] at ih; rw [if_pos (by rfl : [x].getLast? = some x)]; exact ih
        | cons y t =>
          rw [if_neg (by simp)] at ih
          rw [if_neg (fun hh => hxl (List.mem_append_left _ (List.mem_of_getLast? (by rw [List.getLast?_cons_cons] at hh; exact hh))))]
          exact ih
    · have hxy : x ≠ y := fun e => hxl (e ▸ hy)
      rw [e1 y (by rw [List.cons_append]; exact List.mem_cons_of_mem _ hy)]
      cases l1 with
      | nil => rw [if_neg (by simpa using hxy), if_neg (by simp)]
      | cons z t => rw [List.getLast?_cons_cons]
    · rw [e2 y (by rw [List.cons_append]; exact List.mem_cons_of_mem _ hy)]
      cases l1 with
      | nil => rfl
      | cons z t => simp [List.getLast?_cons]
end

/-! ### The programs -/
def gMk (root : Int) : Int := -1 - 2 * root
def gEk (root : Int) : Int := -2 - 2 * root
def gIs (p : Pl) (k n : Int) : Prog Bool := if (p.node n).isSome then do
    let v ← gt n
    pure (decide (v = k))
  else pure false
def gLnk (p : Pl) (hd nx pv n : Int) : Prog Int := do
  let was ← gt hd
  pt (n + nx) was
  pt (n + pv) 0
  pt hd n
  if was = 0 then pure 0 else if (p.node was).isSome then do
    pt (was + pv) n
    pure 0
  else pure 24
def gUnlT (p : Pl) (pv a b : Int) : Prog Int := if b = 0 then pure 0 else if (p.node b).isSome then do
    pt (b + pv) a
    pure 0
  else pure 24
def gUnl (p : Pl) (hd nx pv n : Int) : Prog Int := do
  let a ← gt (n + pv)
  let b ← gt (n + nx)
  if a = 0 then do
    pt hd b
    gUnlT p pv a b
  else if (p.node a).isSome then do
    pt (a + nx) b
    gUnlT p pv a b
  else pure 24
def gAdd (p : Pl) (root name : Int) : Prog (Int × Int) := do
  let m ← mk
  let t ← pTake p
  if t.2 ≠ 0 then do
    dUn t.2 m
    pure (0, t.2)
  else do
    pt t.1 (gMk root)
    pt (t.1 + 1) name
    pt (t.1 + 4) 0
    pt (t.1 + 5) 0
    pt (t.1 + 6) 0
    pt (t.1 + 7) 0
    let e ← gLnk p root 2 3 t.1
    if e ≠ 0 then do
      dUn e m
      pure (0, e)
    else do
      dMore (root + 1) 1
      dMore (root + 7) 1
      dUn 0 m
      pure (t.1, 0)
def gFindL (p : Pl) (b : Int) : Nat → Int → Prog (Int × Int)
  | 0, n => pure (0, if n = 0 then 0 else 24)
  | k + 1, n => if n = 0 then pure (0, 0) else if (p.node n).isSome then do
      let t ← gt (n + 2)
      if t = b then pure (n, 0) else do
        let n' ← gt (n + 4)
        gFindL p b k n'
    else pure (0, 24)
def gFind (p : Pl) (a b : Int) : Prog (Int × Int) := do
  let n ← gt (a + 4)
  gFindL p b p.nodes.toNat n
def gLinkU (root a b n m : Int) : Prog (Int × Int) := do
  dMore (a + 6) 1
  dMore (b + 7) 1
  dMore (root + 2) 1
  dMore (root + 7) 1
  dUn 0 m
  pure (n, 0)
def gLinkT (p : Pl) (root a b w n m : Int) : Prog (Int × Int) := do
  pt n (gEk root)
  pt (n + 1) a
  pt (n + 2) b
  pt (n + 3) w
  let e ← gLnk p (a + 4) 4 5 n
  if e ≠ 0 then do
    dUn e m
    pure (0, e)
  else do
    let e ← gLnk p (b + 5) 6 7 n
    if e ≠ 0 then do
      dUn e m
      pure (0, e)
    else gLinkU root a b n m
def gLinkS (p : Pl) (root a b w m : Int) : Prog (Int × Int) := do
  let f ← gFind p a b
  if f.1 ≠ 0 then do
    dUn 11 m
    pure (0, 11)
  else do
    let t ← pTake p
    if t.2 ≠ 0 then do
      dUn t.2 m
      pure (0, t.2)
    else if f.2 ≠ 0 then do
      dUn f.2 m
      pure (0, f.2)
    else gLinkT p root a b w t.1 m
def gLink (p : Pl) (root a b w : Int) : Prog (Int × Int) := do
  let m ← mk
  let va ← gIs p (gMk root) a
  if va = true then do
    let vb ← gIs p (gMk root) b
    if vb = true then gLinkS p root a b w m
    else do
      dUn 10 m
      pure (0, 10)
  else do
    dUn 10 m
    pure (0, 10)
def gCutU (p : Pl) (root a b n : Int) : Prog Int := do
  dMore (a + 6) (-1)
  dMore (b + 7) (-1)
  dMore (root + 2) (-1)
  dMore (root + 7) (-1)
  pGive p n
def gCutI (p : Pl) (root n : Int) : Prog Int := do
  let a ← gt (n + 1)
  let b ← gt (n + 2)
  if (p.node a).isSome ∧ (p.node b).isSome then do
    let e ← gUnl p (a + 4) 4 5 n
    if e ≠ 0 then pure e else do
      let e ← gUnl p (b + 5) 6 7 n
      if e ≠ 0 then pure e else gCutU p root a b n
  else pure 24
def gCut (p : Pl) (root n : Int) : Prog Int := do
  let m ← mk
  let ok ← gIs p (gEk root) n
  if ok = true then do
    let e ← gCutI p root n
    dUn e m
    pure e
  else do
    dUn 10 m
    pure 10
def gEmp (p : Pl) (root hd : Int) : Nat → Prog Int
  | 0 => do
    let n ← gt hd
    pure (if n = 0 then 0 else 24)
  | k + 1 => do
    let n ← gt hd
    if n = 0 then pure 0 else if (p.node n).isSome then do
      let e ← gCutI p root n
      if e ≠ 0 then pure e else gEmp p root hd k
    else pure 24
def gDropU (p : Pl) (root n v m : Int) : Prog (Int × Int) := do
  let e ← gUnl p root 2 3 n
  if e ≠ 0 then do
    dUn e m
    pure (0, e)
  else do
    dMore (root + 1) (-1)
    dMore (root + 7) (-1)
    let e ← pGive p n
    if e ≠ 0 then do
      dUn e m
      pure (0, e)
    else do
      dUn 0 m
      pure (v, 0)
def gDropT (p : Pl) (root n m : Int) : Prog (Int × Int) := do
  let v ← gt (n + 1)
  let e ← gEmp p root (n + 4) (p.nodes.toNat + 1)
  if e ≠ 0 then do
    dUn e m
    pure (0, e)
  else do
    let e ← gEmp p root (n + 5) (p.nodes.toNat + 1)
    if e ≠ 0 then do
      dUn e m
      pure (0, e)
    else gDropU p root n v m
def gDrop (p : Pl) (root n : Int) : Prog (Int × Int) := do
  let m ← mk
  let ok ← gIs p (gMk root) n
  if ok = true then gDropT p root n m
  else do
    dUn 10 m
    pure (0, 10)
def gWeiT (p : Pl) (a b : Int) : Prog (Int × Bool) := do
  let f ← gFind p a b
  if f.1 = 0 ∨ f.2 ≠ 0 then pure (0, false) else do
    let w ← gt (f.1 + 3)
    pure (w, true)
def gWei (p : Pl) (root a b : Int) : Prog (Int × Bool) := do
  let va ← gIs p (gMk root) a
  if va = true then do
    let vb ← gIs p (gMk root) b
    if vb = true then gWeiT p a b else pure (0, false)
  else pure (0, false)
def gEdgL (p : Pl) (nx whom : Int) : Nat → Int → List (Int × Int) → Prog (Option (List (Int × Int)))
  | 0, n, acc => pure (if n = 0 then some acc else none)
  | k + 1, n, acc => if n = 0 then pure (some acc) else if (p.node n).isSome then do
      let t ← gt (n + whom)
      let w ← gt (n + 3)
      let n' ← gt (n + nx)
      gEdgL p nx whom k n' (acc ++ [(t, w)])
    else pure none
def gEdg (p : Pl) (root n hd nx whom : Int) : Prog (Option (List (Int × Int)) × Int) := do
  let ok ← gIs p (gMk root) n
  if ok = true then do
    let x ← gt hd
    let o ← gEdgL p nx whom p.nodes.toNat x []
    pure (o, if o.isSome then 0 else 24)
  else pure (none, 10)
def gLab (p : Pl) (root n : Int) : Prog (Int × Int) := do
  let ok ← gIs p (gMk root) n
  if ok = true then do
    let v ← gt (n + 1)
    pure (v, 0)
  else pure (0, 10)
def gVerL (p : Pl) : Nat → Int → List Int → Prog (Option (List Int))
  | 0, n, acc => pure (if n = 0 then some acc else none)
  | k + 1, n, acc => if n = 0 then pure (some acc) else if (p.node n).isSome then do
      let n' ← gt (n + 2)
      gVerL p k n' (acc ++ [n])
    else pure none
def gVer (p : Pl) (root : Int) : Prog (Option (List Int)) := do
  let n ← gt root
  gVerL p p.nodes.toNat n []
end Go.En
namespace Go.En
open Prog Spc

section
variable {D : Int → Prop} {σ0 σ σ' : Spc} {m m' : Int → Int} {c c' : Nat} {α β : Type} {Q : α → Spc → Prop} {p : Pl} {fr : List Int} {out root v n hd nx pv k : Int} {l l1 l2 : List Int}
theorem wp_is {q : Bool → Prog α} (S : Sm D σ0 σ m c) (hD : PoolD D p) (h : ∀ σ', Sm D σ0 σ' m c → wp (q (decide ((p.node n).isSome = true ∧ m n = k))) σ' Q) : wp (gIs p k n >>= q) σ Q := by
  unfold gIs
  split
  · rename_i hn
    rw [wp_bind]
    have := hD.n n (node_isN hn) 0 (by omega) (by omega)
    rw [Int.add_zero] at this
    refine wp_get S this fun σ1 S => ?_
    have := h σ1 S
    rw [show decide ((p.node n).isSome = true ∧ m n = k) = decide (m n = k) by simp [hn]] at this
    exact this
  · rename_i hn
    have := h σ S
    rw [show decide ((p.node n).isSome = true ∧ m n = k) = false by simp [hn]] at this
    exact this
/-- where a list of links lies -/
structure LA (p : Pl) (hd nx pv : Int) (l : List Int) : Prop where
  n0 : 0 ≤ nx ∧ nx ≤ 7
  p0 : 0 ≤ pv ∧ pv ≤ 7
  ne : nx ≠ pv
  nd : ∀ x ∈ l, isN p x
  hd : ∀ x ∈ l, hd ≠ x + nx ∧ hd ≠ x + pv
theorem adr (hx : isN p n) (hy : isN p v) {i j : Int} (hi : 0 ≤ i ∧ i ≤ 7) (hj : 0 ≤ j ∧ j ≤ 7) (e : n + i = v + j) : n = v ∧ i = j := by
  obtain ⟨a, _, _, rfl⟩ := hx
  obtain ⟨b, _, _, rfl⟩ := hy
  omega
theorem LA.sub (H : LA p hd nx pv l) {l' : List Int} (h : ∀ x ∈ l', x ∈ l) : LA p hd nx pv l' := ⟨H.n0, H.p0, H.ne, fun x hx => H.nd x (h x hx), fun x hx => H.hd x (h x hx)⟩
theorem isN_R (g : p.good) (h : isN p n) : R64 n := by have := isN_pos g h; exact ⟨by omega, by omega⟩
/-- a node is linked at the head -/
theorem wp_lnk {q : Int → Prog α} (S : Sm D σ0 σ m c) (g : p.good) (hD : PoolD D p) (hh : D hd) (L : DL m hd nx pv l) (A : LA p hd nx pv (n :: l)) (hn : (n :: l).Nodup) (hl : σ0.pu.length + c + 4 ≤ big)
    (h : ∀ σ' m', Sm D σ0 σ' m' (c + 4) → DL m' hd nx pv (n :: l) → (∀ a, a ≠ hd → (∀ x ∈ n :: l, a ≠ x + nx ∧ a ≠ x + pv) → m' a = m a) → wp (q 0) σ' Q) : wp (gLnk p hd nx pv n >>= q) σ Q := by
  have n0 := A.n0; have p0 := A.p0; have ne := A.ne
  have hN := A.nd n (List.mem_cons_self ..)
  have hnh := A.hd n (List.mem_cons_self ..)
  have hnl := List.nodup_cons.1 hn
  unfold gLnk
  rw [wp_bind]
  refine wp_get S hh fun σ1 S1 => ?_
  refine wp_put S1 (hD.n n hN nx n0.1 n0.2) (S1.rg _) (by omega) fun σ2 S => ?_
  refine wp_put S (hD.n n hN pv p0.1 p0.2) ⟨by decide, by decide⟩ (by omega) fun σ3 S => ?_
  refine wp_put S hh (isN_R g hN) (by omega) fun σ4 S => ?_
  have hwas : m hd = l.head?.getD 0 := L.head
  cases l with
  | nil =>
    have hwas : m hd = 0 := hwas
    rw [if_pos hwas]
    refine h σ4 _ (S.mono (by omega)) ?_ fun a a1 a2 => ?_
    · show DLf _ nx pv 0 _ [n]
      rw [upd_eq]
      refine ⟨rfl, by rw [upd_ne _ _ (fun e => hnh.2 e.symm), upd_eq], ?_⟩
      rw [upd_ne _ _ (fun e => hnh.1 e.symm), upd_ne _ _ (by omega), upd_eq]
      exact hwas
    · have := a2 n (List.mem_cons_self ..)
      rw [upd_ne _ _ a1, upd_ne _ _ this.2, upd_ne _ _ this.1]
  | cons y t =>
    have hwas : m hd = y := hwas
    have hyl : y ∈ y :: t := List.mem_cons_self ..
    have hyN := A.nd y (List.mem_cons_of_mem _ hyl)
    have hyp := isN_pos g hyN
    rw [hwas] at S ⊢
    rw [if_neg (by omega), if_pos (isN_node g hyN)]
    refine wp_put S (hD.n y hyN pv p0.1 p0.2) (isN_R g hN) (by omega) fun σ5 S => ?_
    have hne : ∀ x ∈ y :: t, x ≠ n := fun x hx e => hnl.1 (e ▸ hx)
    refine h σ5 _ S ?_ fun a a1 a2 => ?_
    · have hdh := A.hd y (List.mem_cons_of_mem _ hyl)
      have e0 : ∀ a, upd (upd (upd (upd m (n + nx) y) (n + pv) 0) hd n) (y + pv) n a = if a = y + pv then n else if a = hd then n else if a = n + pv then 0 else if a = n + nx then y else m a := fun a => rfl
      show DLf _ nx pv 0 _ (n :: y :: t)
      rw [e0 hd, if_neg hdh.2, if_pos rfl]
      refine ⟨rfl, ?_, ?_⟩
      · rw [e0, if_neg (fun e => hne y hyl (adr hN hyN p0 p0 e).1.symm), if_neg (fun e => hnh.2 e.symm), if_pos rfl]
      · rw [e0, if_neg (fun e => ne (adr hN hyN n0 p0 e).2), if_neg (fun e => hnh.1 e.symm), if_neg (by omega), if_pos rfl]
        have L' : DLf m nx pv 0 y (y :: t) := by have L : DLf m nx pv 0 (m hd) (y :: t) := L; rw [hwas] at L; exact L
        refine DLf.re L' hnl.2 (fun x hx => ?_) fun x hx => ?_
        · have hxN := A.nd x (List.mem_cons_of_mem _ hx)
          rw [e0, if_neg (fun e => ne (adr hxN hyN n0 p0 e).2), if_neg (fun e => (A.hd x (List.mem_cons_of_mem _ hx)).1 e.symm), if_neg (fun e => hne x hx (adr hxN hN n0 p0 e).1), if_neg (fun e => hne x hx (adr hxN hN n0 n0 e).1)]
        · have hxN := A.nd x (List.mem_cons_of_mem _ hx)
          rw [e0]
          by_cases hxy : y = x
          · subst hxy; rw [if_pos rfl, if_pos (by rfl)]
          · rw [if_neg (fun e => hxy (adr hxN hyN p0 p0 e).1.symm), if_neg (fun e => (A.hd x (List.mem_cons_of_mem _ hx)).2 e.symm), if_neg (fun e => hne x hx (adr hxN hN p0 p0 e).1), if_neg (fun e => hne x hx (adr hxN hN p0 n0 e).1), if_neg (by simpa using hxy)]
    · have b1 := a2 n (List.mem_cons_self ..)
      have b2 := a2 y (List.mem_cons_of_mem _ hyl)
      rw [upd_ne _ _ b2.2, upd_ne _ _ a1, upd_ne _ _ b1.2, upd_ne _ _ b1.1]
/-- a node is unlinked -/
theorem wp_unl {q : Int → Prog α} (S : Sm D σ0 σ m c) (g : p.good) (hD : PoolD D p) (hh : D hd) (L : DL m hd nx pv (l1 ++ n :: l2)) (A : LA p hd nx pv (l1 ++ n :: l2)) (hn : (l1 ++ n :: l2).Nodup) (hl : σ0.pu.length + c + 2 ≤ big)
    (h : ∀ σ' m', Sm D σ0 σ' m' (c + 2) → DL m' hd nx pv (l1 ++ l2) → (∀ a, a ≠ hd → (∀ x ∈ l1 ++ l2, a ≠ x + nx ∧ a ≠ x + pv) → m' a = m a) → wp (q 0) σ' Q) : wp (gUnl p hd nx pv n >>= q) σ Q := by
  have n0 := A.n0; have p0 := A.p0; have ne := A.ne
  have hmem : ∀ x ∈ l1 ++ l2, x ∈ l1 ++ n :: l2 := fun x hx => by
    rcases List.mem_append.1 hx with h | h
    · exact List.mem_append_left _ h
    · exact List.mem_append_right _ (List.mem_cons_of_mem _ h)
  have hN := A.nd n (List.mem_append_right _ (List.mem_cons_self ..))
  have hnd : (l1 ++ l2).Nodup := by
    refine hn.sublist ?_
    exact List.Sublist.append_left (List.sublist_cons_self n l2) l1
  unfold gUnl
  rw [wp_bind]
  refine wp_get S (hD.n n hN pv p0.1 p0.2) fun σ1 S => ?_
  refine wp_get S (hD.n n hN nx n0.1 n0.2) fun σ2 S => ?_
  have hat := DLf.at' L
  have hcut := fun m' => DLf.cut (m' := m') L hn
  generalize ha : m (n + pv) = a at *
  generalize hb : m (n + nx) = b at *
  -- the second half
  have key : ∀ (σ3 : Spc) (m3 : Int → Int), Sm D σ0 σ3 m3 (c + 1) → m3 hd = (if l1 = [] then b else m hd) → (∀ x ∈ l1 ++ l2, m3 (x + nx) = if l1.getLast? = some x then b else m (x + nx)) → (∀ x ∈ l1 ++ l2, m3 (x + pv) = m (x + pv)) →
      (∀ a, a ≠ hd → (∀ x ∈ l1 ++ l2, a ≠ x + nx ∧ a ≠ x + pv) → m3 a = m a) → wp (gUnlT p pv a b >>= q) σ3 Q := by
    intro σ3 m3 S e0 e1 e2 e3
    have hR : R64 a := by have := S.rg; rw [hat.1]; cases hl1 : l1.getLast? with
      | none => exact ⟨by decide, by decide⟩
      | some x => exact isN_R g (A.nd x (List.mem_append_left _ (List.mem_of_getLast? hl1)))
    unfold gUnlT
    cases l2 with
    | nil =>
      have hb0 : b = 0 := hat.2
      rw [if_pos hb0]
      refine h σ3 m3 (S.mono (by omega)) ?_ e3
      show DLf _ nx pv 0 _ _
      have := hcut m3 e1 fun x hx => by rw [e2 x hx, if_neg (by simp)]
      rw [e0]
      exact this
    | cons y t =>
      have hby : b = y := hat.2
      have hym : y ∈ l1 ++ y :: t := List.mem_append_right _ (List.mem_cons_self ..)
      have hyN := A.nd y (hmem y hym)
      have hyp := isN_pos g hyN
      have hyh := A.hd y (hmem y hym)
      rw [hby, if_neg (by omega), if_pos (isN_node g hyN), wp_bind]
      refine wp_put S (hD.n y hyN pv p0.1 p0.2) hR (by omega) fun σ4 S => ?_
      refine h σ4 _ S ?_ fun b b1 b2 => ?_
      · show DLf _ nx pv 0 _ _
        have := hcut (upd m3 (y + pv) a) (fun x hx => ?_) fun x hx => ?_
        · rw [upd_ne _ _ hyh.2, e0]
          exact this
        · have hxN := A.nd x (hmem x hx)
          rw [upd_ne _ _ (fun e => ne (adr hxN hyN n0 p0 e).2)]
          exact e1 x hx
        · have hxN := A.nd x (hmem x hx)
          by_cases hxy : y = x
          · subst hxy
            rw [upd_eq, if_pos (by rfl)]
            exact hat.1
          · rw [upd_ne _ _ (fun e => hxy (adr hxN hyN p0 p0 e).1.symm), if_neg (by simpa using hxy)]
            exact e2 x hx
      · rw [upd_ne _ _ (b2 y hym).2]
        exact e3 b b1 b2
  have hRb : R64 b := by rw [hat.2]; cases hl2 : l2.head? with
    | none => exact ⟨by decide, by decide⟩
    | some x => exact isN_R g (A.nd x (List.mem_append_right _ (List.mem_cons_of_mem _ (List.mem_of_head? hl2))))
  cases hl1 : l1.getLast? with
  | none =>
    have hnil : l1 = [] := List.getLast?_eq_none_iff.1 hl1
    have ha0 : a = 0 := by rw [hat.1, hl1]; rfl
    rw [if_pos ha0, wp_bind]
    refine wp_put S hh hRb (by omega) fun σ3 S => ?_
    show wp (gUnlT p pv a b) σ3 fun a σ' => wp (q a) σ' Q
    rw [← wp_bind]
    refine key σ3 _ S (by rw [upd_eq, if_pos hnil]) (fun x hx => ?_) (fun x hx => ?_) fun b b1 b2 => upd_ne _ _ b1
    · rw [upd_ne _ _ (fun e => (A.hd x (hmem x hx)).1 e.symm), hl1, if_neg (by simp)]
    · rw [upd_ne _ _ (fun e => (A.hd x (hmem x hx)).2 e.symm)]
  | some z =>
    have hzm : z ∈ l1 := List.mem_of_getLast? hl1
    have hzN := A.nd z (List.mem_append_left _ hzm)
    have hzp := isN_pos g hzN
    have hzh := A.hd z (List.mem_append_left _ hzm)
    have haz : a = z := by rw [hat.1, hl1]; rfl
    have hne : l1 ≠ [] := fun e => by rw [e] at hzm; cases hzm
    rw [if_neg (by omega), if_pos (by rw [haz]; exact isN_node g hzN), wp_bind, haz]
    refine wp_put S (hD.n z hzN nx n0.1 n0.2) hRb (by omega) fun σ3 S => ?_
    rw [haz] at key
    show wp (gUnlT p pv z b) σ3 fun a σ' => wp (q a) σ' Q
    rw [← wp_bind]
    refine key σ3 _ S (by rw [upd_ne _ _ hzh.1, if_neg hne]) (fun x hx => ?_) (fun x hx => ?_) fun b b1 b2 => upd_ne _ _ (b2 z (List.mem_append_left _ hzm)).1
    · have hxN := A.nd x (hmem x hx)
      rw [hl1]
      by_cases hzx : z = x
      · subst hzx; rw [upd_eq, if_pos rfl]
      · rw [upd_ne _ _ (fun e => hzx (adr hxN hzN n0 n0 e).1.symm), if_neg (by simpa using hzx)]
    · have hxN := A.nd x (hmem x hx)
      rw [upd_ne _ _ (fun e => ne (adr hxN hzN p0 n0 e).2.symm)]
end
end Go.En
namespace Go.En
open Prog Spc

structure Ed where
  id : Int
  f : Int
  t : Int
  w : Int
abbrev vI (V : List (Int × Int)) : List Int := V.map (·.1)
abbrev eI (E : List Ed) : List Int := E.map (·.id)
def oL (E : List Ed) (v : Int) : List Int := (E.filter fun e => decide (e.f = v)).map (·.id)
def iL (E : List Ed) (v : Int) : List Int := (E.filter fun e => decide (e.t = v)).map (·.id)
theorem nodup_inj : ∀ {E : List Ed} {x y : Ed}, (eI E).Nodup → x ∈ E → y ∈ E → x.id = y.id → x = y
  | [], _, _, _, h, _, _ => by cases h
  | z :: E, x, y, hn, hx, hy, e => by
    have hn : (z.id :: eI E).Nodup := hn
    rw [List.nodup_cons] at hn
    rcases List.mem_cons.1 hx with h1 | h1
    · rcases List.mem_cons.1 hy with h2 | h2
      · rw [h1, h2]
      · exact absurd (show z.id ∈ eI E from List.mem_map.2 ⟨y, h2, by rw [← e, h1]⟩) hn.1
    · rcases List.mem_cons.1 hy with h2 | h2
      · exact absurd (show z.id ∈ eI E from List.mem_map.2 ⟨x, h1, by rw [e, h2]⟩) hn.1
      · exact nodup_inj hn.2 h1 h2 e
/-- where a graph lies -/
structure GS (D : Int → Prop) (p : Pl) (root : Int) : Prop where
  dp : PoolD D p
  R : RootD D root
  A : RA p root
structure GRep (p : Pl) (root : Int) (m : Int → Int) (V : List (Int × Int)) (E : List Ed) (fr : List Int) (out : Int) : Prop where
  P : PoolR m p fr out
  nd : (vI V ++ eI E).Nodup
  hl : Held p fr out (vI V ++ eI E)
  cov : ∀ i, 0 ≤ i → i < out → p.frm + 8 * i ∈ vI V ++ eI E ∨ p.frm + 8 * i ∈ fr
  new : ∀ i, out ≤ i → i < p.nodes → m (p.frm + 8 * i) = 0
  cnt : (V.length : Int) + E.length + fr.length = out
  fv : ∀ e ∈ E, e.f ∈ vI V ∧ e.t ∈ vI V
  vs : DL m root 2 3 (vI V)
  vm : ∀ v ∈ V, m v.1 = gMk root ∧ m (v.1 + 1) = v.2
  vo : ∀ v ∈ vI V, DL m (v + 4) 4 5 (oL E v)
  vi : ∀ v ∈ vI V, DL m (v + 5) 6 7 (iL E v)
  ec : ∀ e ∈ E, m e.id = gEk root ∧ m (e.id + 1) = e.f ∧ m (e.id + 2) = e.t ∧ m (e.id + 3) = e.w
  n1 : m (root + 1) = V.length
  n2 : m (root + 2) = E.length
  n7 : m (root + 7) = (V.length : Int) + E.length
section
variable {D : Int → Prop} {σ0 σ σ' : Spc} {m m' : Int → Int} {c c' : Nat} {α β : Type} {Q : α → Spc → Prop} {p : Pl} {fr : List Int} {out root v n hd nx pv k a b : Int} {V : List (Int × Int)} {E : List Ed}
theorem oL_mem {x : Int} : x ∈ oL E v ↔ ∃ e ∈ E, e.f = v ∧ e.id = x := by unfold oL; simp [and_assoc]
theorem iL_mem {x : Int} : x ∈ iL E v ↔ ∃ e ∈ E, e.t = v ∧ e.id = x := by unfold iL; simp [and_assoc]
theorem oL_sub : (oL E v).Sublist (eI E) := (List.filter_sublist (l := E)).map _
theorem iL_sub : (iL E v).Sublist (eI E) := (List.filter_sublist (l := E)).map _
theorem GRep.isN (X : GRep p root m V E fr out) {x : Int} (h : x ∈ vI V ++ eI E) : En.isN p x := by
  obtain ⟨⟨i, i0, i1, e⟩, _⟩ := X.hl x h
  have := X.P.out1
  exact ⟨i, i0, by omega, e⟩
theorem GRep.vN (X : GRep p root m V E fr out) {x : Int} (h : x ∈ vI V) : En.isN p x := X.isN (List.mem_append_left _ h)
theorem GRep.eN (X : GRep p root m V E fr out) {x : Int} (h : x ∈ eI E) : En.isN p x := X.isN (List.mem_append_right _ h)
theorem GRep.ndV (X : GRep p root m V E fr out) : (vI V).Nodup := (List.nodup_append.1 X.nd).1
theorem GRep.ndE (X : GRep p root m V E fr out) : (eI E).Nodup := (List.nodup_append.1 X.nd).2.1
theorem GRep.apart (X : GRep p root m V E fr out) {x y : Int} (hx : x ∈ vI V) (hy : y ∈ eI E) : x ≠ y := (List.nodup_append.1 X.nd).2.2 x hx y hy
theorem GRep.lenB (X : GRep p root m V E fr out) : (V.length : Int) + E.length ≤ p.nodes := by have := X.cnt; have := X.P.out1; omega
theorem mk_R (G : GS D p root) (g : p.good) : R64 (gMk root) ∧ R64 (gEk root) := by
  have := G.A.a; have := G.A.b; have := g.r0; have := g.f2; have := g.n0
  unfold gMk gEk
  exact ⟨⟨by omega, by omega⟩, ⟨by omega, by omega⟩⟩
/-- a mark tells what a node is -/
theorem GRep.mark (X : GRep p root m V E fr out) (G : GS D p root) (h : (p.node n).isSome = true) : n ∈ vI V ∨ n ∈ eI E ∨ 0 ≤ m n := by
  obtain ⟨i, i0, i1, rfl⟩ := node_isN h
  by_cases ho : i < out
  · rcases X.cov i i0 ho with h | h
    · rcases List.mem_append.1 h with h | h
      · exact .inl h
      · exact .inr (.inl h)
    · -- a free node
      refine .inr (.inr ?_)
      have key : ∀ (l : List Int) (a : Int), Lk m 0 a l → (∀ y ∈ l, En.isN p y) → ∀ x ∈ l, 0 ≤ m x := by
        intro l
        induction l with
        | nil => intro a _ _ x hx; cases hx
        | cons y t ih =>
          intro a hlk hN x hx
          obtain ⟨_, h2⟩ := hlk
          rcases List.mem_cons.1 hx with rfl | hx
          · have h3 := h2.head
            rw [Int.add_zero] at h3
            rw [h3]
            cases ht : t with
            | nil => exact Int.le_refl 0
            | cons z u =>
              have := isN_pos X.P.good (hN z (by rw [ht]; simp))
              show (0 : Int) ≤ z
              omega
          · exact ih _ h2 (fun y hy => hN y (List.mem_cons_of_mem _ hy)) x hx
      exact key fr _ X.P.link (fun y hy => X.P.isN hy) _ h
  · exact .inr (.inr (by rw [X.new i (by omega) i1]; exact Int.le_refl 0))
theorem GRep.isV (X : GRep p root m V E fr out) (G : GS D p root) : ((p.node n).isSome = true ∧ m n = gMk root) ↔ n ∈ vI V := by
  have := G.A.a; have := X.P.good.r0
  constructor
  · rintro ⟨h1, h2⟩
    rcases X.mark G h1 with h | h | h
    · exact h
    · obtain ⟨e, he, rfl⟩ := List.mem_map.1 h
      have := (X.ec e he).1
      rw [h2] at this
      unfold gMk gEk at this
      omega
    · rw [h2] at h
      unfold gMk at h
      omega
  · intro h
    obtain ⟨v, hv, rfl⟩ := List.mem_map.1 h
    exact ⟨isN_node X.P.good (X.vN h), (X.vm v hv).1⟩
theorem GRep.isE (X : GRep p root m V E fr out) (G : GS D p root) : ((p.node n).isSome = true ∧ m n = gEk root) ↔ n ∈ eI E := by
  have := G.A.a; have := X.P.good.r0
  constructor
  · rintro ⟨h1, h2⟩
    rcases X.mark G h1 with h | h | h
    · obtain ⟨v, hv, rfl⟩ := List.mem_map.1 h
      have := (X.vm v hv).1
      rw [h2] at this
      unfold gMk gEk at this
      omega
    · exact h
    · rw [h2] at h
      unfold gEk at h
      omega
  · intro h
    obtain ⟨e, he, rfl⟩ := List.mem_map.1 h
    exact ⟨isN_node X.P.good (X.eN h), (X.ec e he).1⟩

theorem wp_gAdd (G : GS D p root) (S : Sm D σ σ m 0) (X : GRep p root m V E fr out) (hv : R64 v) (hl : σ.pu.length + 40 ≤ big) :
    wp (gAdd p root v) σ fun e σ' => (∃ n m' fr' out', e = (n, 0) ∧ (V.length : Int) + E.length < p.nodes ∧ Sm D σ σ' m' 20 ∧ GRep p root m' ((n, v) :: V) E fr' out') ∨ (e = (0, 9) ∧ p.nodes ≤ (V.length : Int) + E.length ∧ Sm D σ σ' m 20) := by
  have g := X.P.good
  have g1 := g.f1; have g2 := g.f2; have g3 := g.n1; have g4 := g.r0
  obtain ⟨ra, rb⟩ := G.A
  have hmk := mk_R G g
  unfold gAdd
  refine wp_mark ?_
  refine wp_took S X.P G.dp (by omega) (fun n fr' out' σ1 m1 T hn hnf S1 P1 hm1 => ?_) fun σ1 e ho S1 => ?_
  rotate_left
  · rw [if_pos (by decide)]
    refine wp_undo S S1 (by decide) fun σ2 S2 => ?_
    refine .inr ⟨rfl, ?_, S2.mono (by omega)⟩
    have := X.cnt
    rw [e] at this
    simp only [List.length_nil] at this
    omega
  obtain ⟨hnl, H', ho', hcn⟩ := T.held X.P X.hl
  have hp1 := P1.out1
  obtain ⟨j, j0, j1, ej⟩ := id hn
  have hnN : En.isN p n := ⟨j, j0, by omega, ej⟩
  have hD' := G.dp.n n hnN
  have hD0 := hD' 0 (by omega) (by omega)
  rw [Int.add_zero] at hD0
  rw [if_neg (by simp)]
  refine wp_put S1 hD0 hmk.1 (by omega) fun σ2 S => ?_
  refine wp_put S (hD' 1 (by omega) (by omega)) hv (by omega) fun σ2 S => ?_
  refine wp_put S (hD' 4 (by omega) (by omega)) ⟨by decide, by decide⟩ (by omega) fun σ2 S => ?_
  refine wp_put S (hD' 5 (by omega) (by omega)) ⟨by decide, by decide⟩ (by omega) fun σ2 S => ?_
  refine wp_put S (hD' 6 (by omega) (by omega)) ⟨by decide, by decide⟩ (by omega) fun σ2 S => ?_
  refine wp_put S (hD' 7 (by omega) (by omega)) ⟨by decide, by decide⟩ (by omega) fun σ2 S => ?_
  have at2 : ∀ a, upd (upd (upd (upd (upd (upd m1 n (gMk root)) (n + 1) v) (n + 4) 0) (n + 5) 0) (n + 6) 0) (n + 7) 0 a = if a = n + 7 then 0 else if a = n + 6 then 0 else if a = n + 5 then 0 else if a = n + 4 then 0 else if a = n + 1 then v else if a = n then gMk root else m1 a := fun a => rfl
  generalize upd (upd (upd (upd (upd (upd m1 n (gMk root)) (n + 1) v) (n + 4) 0) (n + 5) 0) (n + 6) 0) (n + 7) 0 = m2 at *
  have hf2 : ∀ a, (∀ i, 0 ≤ i → i ≤ 7 → a ≠ n + i) → m2 a = m1 a := fun a ha => by
    have h0 := ha 0 (by omega) (by omega)
    rw [at2, if_neg (ha 7 (by omega) (by omega)), if_neg (ha 6 (by omega) (by omega)), if_neg (ha 5 (by omega) (by omega)), if_neg (ha 4 (by omega) (by omega)), if_neg (ha 1 (by omega) (by omega)), if_neg (by omega)]
  have hidx : ∀ x ∈ vI V ++ eI E, ∃ i, 0 ≤ i ∧ i < p.nodes ∧ i ≠ j ∧ x = p.frm + 8 * i := fun x hx => by
    obtain ⟨i, i0, i1, e⟩ := X.isN hx
    exact ⟨i, i0, i1, fun h => hnl (by rw [ej, ← h, ← e]; exact hx), e⟩
  have hm2 : ∀ x ∈ vI V ++ eI E, ∀ i, 0 ≤ i → i ≤ 7 → m2 (x + i) = m (x + i) := fun x hx i i0 i1 => by
    obtain ⟨k, k0, k1, kj, e⟩ := hidx x hx
    rw [hf2 _ (fun i' _ _ => by omega), hm1 _ (by omega) (by omega) (by omega)]
  have hr2 : ∀ i, 0 ≤ i → i ≤ 7 → m2 (root + i) = m (root + i) := fun i i0 i1 => by
    rw [hf2 _ (fun i' _ _ => by omega), hm1 _ (by omega) (by omega) (by omega)]
  have L2 : DL m2 root 2 3 (vI V) := X.vs.ext (by have := hr2 0 (by omega) (by omega); rwa [Int.add_zero] at this) fun x hx => ⟨hm2 x (List.mem_append_left _ hx) 2 (by omega) (by omega), hm2 x (List.mem_append_left _ hx) 3 (by omega) (by omega)⟩
  have hR0 := G.R 0 (by omega) (by omega)
  rw [Int.add_zero] at hR0
  have A2 : LA p root 2 3 (n :: vI V) := by
    refine ⟨by omega, by omega, by omega, fun x hx => ?_, fun x hx => ?_⟩
    · rcases List.mem_cons.1 hx with rfl | hx
      · exact hnN
      · exact X.vN hx
    · rcases List.mem_cons.1 hx with rfl | hx
      · omega
      · obtain ⟨k, k0, k1, kj, e⟩ := hidx x (List.mem_append_left _ hx); omega
  have hnV : n ∉ vI V := fun h => hnl (List.mem_append_left _ h)
  have hnE : n ∉ eI E := fun h => hnl (List.mem_append_right _ h)
  refine wp_lnk S g G.dp hR0 L2 A2 (List.nodup_cons.2 ⟨hnV, X.ndV⟩) (by omega) fun σ3 m3 S L3 hf3 => ?_
  rw [if_neg (by simp)]
  refine wp_more S (G.R 1 (by omega) (by omega)) (by omega) fun σ4 S => ?_
  refine wp_more S (G.R 7 (by omega) (by omega)) (by omega) fun σ5 S => ?_
  refine wp_un0 ?_
  have hVl := X.lenB
  have hf3r : ∀ i, 1 ≤ i → i ≤ 7 → m3 (root + i) = m (root + i) := fun i i0 i1 => by
    rw [hf3 _ (by omega) fun x hx => ?_, hr2 i (by omega) i1]
    rcases List.mem_cons.1 hx with rfl | hx
    · omega
    · obtain ⟨k, k0, k1, kj, e⟩ := hidx x (List.mem_append_left _ hx); omega
  have e1 : w64 (m3 (root + 1) + 1) = (V.length : Int) + 1 := by rw [hf3r 1 (by omega) (by omega), X.n1, w64_R ⟨by omega, by omega⟩]
  have e7 : w64 (upd m3 (root + 1) (w64 (m3 (root + 1) + 1)) (root + 7) + 1) = (V.length : Int) + E.length + 1 := by
    rw [upd_ne _ _ (by omega), hf3r 7 (by omega) (by omega), X.n7, w64_R ⟨by omega, by omega⟩]
  rw [e7, e1] at S
  have at5 : ∀ a, upd (upd m3 (root + 1) ((V.length : Int) + 1)) (root + 7) ((V.length : Int) + E.length + 1) a = if a = root + 7 then (V.length : Int) + E.length + 1 else if a = root + 1 then (V.length : Int) + 1 else m3 a := fun a => rfl
  generalize upd (upd m3 (root + 1) ((V.length : Int) + 1)) (root + 7) ((V.length : Int) + E.length + 1) = m5 at *
  have hf5 : ∀ a, (∀ i, 0 ≤ i → i ≤ 7 → a ≠ root + i) → m5 a = m3 a := fun a ha => by rw [at5, if_neg (ha 7 (by omega) (by omega)), if_neg (ha 1 (by omega) (by omega))]
  -- all in all
  have hfr : ∀ a, (∀ i, 0 ≤ i → i ≤ 7 → a ≠ root + i) → (∀ i, 0 ≤ i → i ≤ 7 → a ≠ n + i) → (∀ x ∈ vI V, a ≠ x + 2 ∧ a ≠ x + 3) → m5 a = m1 a := fun a a1 a2 a3 => by
    have := a1 0 (by omega) (by omega)
    rw [hf5 a a1, hf3 a (by omega) fun x hx => ?_, hf2 a a2]
    rcases List.mem_cons.1 hx with rfl | hx
    · exact ⟨a2 2 (by omega) (by omega), a2 3 (by omega) (by omega)⟩
    · exact a3 x hx
  have hxo : ∀ x ∈ vI V ++ eI E, ∀ i, 0 ≤ i → i ≤ 7 → (x ∈ vI V → i ≠ 2 ∧ i ≠ 3) → m5 (x + i) = m (x + i) := fun x hx i i0 i1 hi => by
    obtain ⟨k, k0, k1, kj, e⟩ := hidx x hx
    rw [hfr _ (fun i' _ _ => by omega) (fun i' _ _ => by omega) (fun y hy => ?_), hm1 _ (by omega) (by omega) (by omega)]
    obtain ⟨k', k0', k1', kj', e'⟩ := hidx y (List.mem_append_left _ hy)
    by_cases hxy : x = y
    · have := hi (hxy ▸ hy); omega
    · omega
  have hn5 : ∀ i, 0 ≤ i → i ≤ 7 → i ≠ 2 → i ≠ 3 → m5 (n + i) = m2 (n + i) := fun i i0 i1 i2 i3 => by
    rw [hf5 _ (fun i' _ _ => by omega), hf3 _ (by omega) fun x hx => ?_]
    rcases List.mem_cons.1 hx with rfl | hx
    · omega
    · obtain ⟨k, k0, k1, kj, e⟩ := hidx x (List.mem_append_left _ hx); omega
  have hcell : ∀ a, a ∈ vI ((n, v) :: V) ++ eI E ↔ a = n ∨ a ∈ vI V ++ eI E := fun a => by simp
  have hroot0 : m5 root = m3 root := by rw [at5, if_neg (by omega), if_neg (by omega)]
  refine .inl ⟨n, m5, fr', out', rfl, ?_, S.mono (by omega), ⟨?_, ?_, ?_, ?_, ?_, ?_, ?_, ?_, ?_, ?_, ?_, ?_, ?_, ?_, ?_⟩⟩
  · have := X.cnt
    cases T with
    | free e => rw [e] at this; simp only [List.length_cons] at this; have := X.P.out1; omega
    | new e ho => rw [e] at this; simp only [List.length_nil] at this; omega
  · refine P1.ext fun a ha => ?_
    refine hfr a (fun i i0 i1 => ?_) (fun i i0 i1 => ?_) fun x hx => ?_
    · rcases ha with h | h | h | h
      · omega
      · omega
      · omega
      · obtain ⟨k, k0, k1, e⟩ := P1.fN a h; omega
    · rcases ha with h | h | h | h
      · omega
      · omega
      · omega
      · obtain ⟨k, k0, k1, e⟩ := P1.fN a h
        have hkj : k ≠ j := fun hk => hnf (by rw [ej, ← hk, ← e]; exact h)
        omega
    · obtain ⟨k', k0', k1', kj', e'⟩ := hidx x (List.mem_append_left _ hx)
      rcases ha with h | h | h | h
      · omega
      · omega
      · omega
      · obtain ⟨k, k0, k1, e⟩ := P1.fN a h; omega
  · show (n :: (vI V ++ eI E)).Nodup
    exact List.nodup_cons.2 ⟨hnl, X.nd⟩
  · intro x hx
    rcases (hcell x).1 hx with rfl | hx
    · exact ⟨hn, hnf⟩
    · exact H' x hx
  · intro i i0 i1
    cases T with
    | free e =>
      rcases X.cov i i0 i1 with h | h
      · exact .inl ((hcell _).2 (.inr h))
      · rw [e] at h
        rcases List.mem_cons.1 h with h | h
        · exact .inl ((hcell _).2 (.inl h))
        · exact .inr h
    | new e ho =>
      by_cases hi : i = out
      · subst hi; exact .inl ((hcell _).2 (.inl rfl))
      · rcases X.cov i i0 (by omega) with h | h
        · exact .inl ((hcell _).2 (.inr h))
        · rw [e] at h; cases h
  · intro i i0 i1
    rw [hfr _ (fun i' _ _ => by omega) (fun i' _ _ => by omega) (fun y hy => ?_), hm1 _ (by omega) (by omega) (by omega)]
    · exact X.new i (by omega) i1
    · obtain ⟨k', k0', k1', kj', e'⟩ := hidx y (List.mem_append_left _ hy); omega
  · have := X.cnt
    simp only [List.length_cons]
    omega
  · intro e he
    have := X.fv e he
    exact ⟨List.mem_cons_of_mem _ this.1, List.mem_cons_of_mem _ this.2⟩
  · refine L3.ext hroot0 fun x hx => ?_
    have hh : ∃ i, 0 ≤ i ∧ x = p.frm + 8 * i := by
      rcases List.mem_cons.1 hx with rfl | hx
      · exact ⟨j, j0, ej⟩
      · obtain ⟨k, k0, k1, kj, e⟩ := hidx x (List.mem_append_left _ hx); exact ⟨k, k0, e⟩
    obtain ⟨i, i0, e⟩ := hh
    exact ⟨hf5 _ fun i' _ _ => by omega, hf5 _ fun i' _ _ => by omega⟩
  · intro x hx
    rcases List.mem_cons.1 hx with rfl | hx
    · have h0 := hn5 0 (by omega) (by omega) (by omega) (by omega)
      rw [Int.add_zero] at h0
      refine ⟨?_, ?_⟩
      · show m5 n = _
        rw [h0, at2, if_neg (by omega), if_neg (by omega), if_neg (by omega), if_neg (by omega), if_neg (by omega), if_pos rfl]
      · show m5 (n + 1) = _
        rw [hn5 1 (by omega) (by omega) (by omega) (by omega), at2, if_neg (by omega), if_neg (by omega), if_neg (by omega), if_neg (by omega), if_pos rfl]
    · have hm := List.mem_append_left (eI E) (List.mem_map_of_mem (f := (·.1)) hx)
      have h0 := hxo x.1 hm 0 (by omega) (by omega) (fun _ => by omega)
      rw [Int.add_zero] at h0
      exact ⟨by rw [h0]; exact (X.vm x hx).1, by rw [hxo x.1 hm 1 (by omega) (by omega) (fun _ => by omega)]; exact (X.vm x hx).2⟩
  · intro x hx
    rcases List.mem_cons.1 hx with h | hx
    · have h : x = n := h
      rw [h]
      have e0 : oL E n = [] := by
        refine List.eq_nil_iff_forall_not_mem.2 fun y hy => ?_
        obtain ⟨e, he, h1, _⟩ := oL_mem.1 hy
        exact hnV (h1 ▸ (X.fv e he).1)
      show DLf _ _ _ _ _ (oL E n)
      rw [e0]
      show m5 (n + 4) = 0
      rw [hn5 4 (by omega) (by omega) (by omega) (by omega), at2, if_neg (by omega), if_neg (by omega), if_neg (by omega), if_pos rfl]
    · refine (X.vo x hx).ext (hxo x (List.mem_append_left _ hx) 4 (by omega) (by omega) (fun _ => by omega)) fun y hy => ?_
      have hyE : y ∈ eI E := oL_sub.subset hy
      have hyV : y ∉ vI V := fun h => X.apart h hyE rfl
      exact ⟨hxo y (List.mem_append_right _ hyE) 4 (by omega) (by omega) fun h => absurd h hyV, hxo y (List.mem_append_right _ hyE) 5 (by omega) (by omega) fun h => absurd h hyV⟩
  · intro x hx
    rcases List.mem_cons.1 hx with h | hx
    · have h : x = n := h
      rw [h]
      have e0 : iL E n = [] := by
        refine List.eq_nil_iff_forall_not_mem.2 fun y hy => ?_
        obtain ⟨e, he, h1, _⟩ := iL_mem.1 hy
        exact hnV (h1 ▸ (X.fv e he).2)
      show DLf _ _ _ _ _ (iL E n)
      rw [e0]
      show m5 (n + 5) = 0
      rw [hn5 5 (by omega) (by omega) (by omega) (by omega), at2, if_neg (by omega), if_neg (by omega), if_pos rfl]
    · refine (X.vi x hx).ext (hxo x (List.mem_append_left _ hx) 5 (by omega) (by omega) (fun _ => by omega)) fun y hy => ?_
      have hyE : y ∈ eI E := iL_sub.subset hy
      have hyV : y ∉ vI V := fun h => X.apart h hyE rfl
      exact ⟨hxo y (List.mem_append_right _ hyE) 6 (by omega) (by omega) fun h => absurd h hyV, hxo y (List.mem_append_right _ hyE) 7 (by omega) (by omega) fun h => absurd h hyV⟩
  · intro e he
    have hm := List.mem_append_right (vI V) (List.mem_map_of_mem (f := (·.id)) he)
    have hyV : e.id ∉ vI V := fun h => X.apart h (List.mem_map_of_mem (f := (·.id)) he) rfl
    obtain ⟨h1, h2, h3, h4⟩ := X.ec e he
    have h0 := hxo e.id hm 0 (by omega) (by omega) fun h => absurd h hyV
    rw [Int.add_zero] at h0
    exact ⟨h0.trans h1, (hxo _ hm 1 (by omega) (by omega) fun h => absurd h hyV).trans h2, (hxo _ hm 2 (by omega) (by omega) fun h => absurd h hyV).trans h3, (hxo _ hm 3 (by omega) (by omega) fun h => absurd h hyV).trans h4⟩
  · rw [at5, if_neg (by omega), if_pos rfl]; simp
  · rw [at5, if_neg (by omega), if_neg (by omega), hf3r 2 (by omega) (by omega)]; exact X.n2
  · rw [at5, if_pos rfl]; simp only [List.length_cons]; omega
end
end Go.En
namespace Go.En
open Prog Spc

section
variable {D : Int → Prop} {σ0 σ σ' : Spc} {m m' : Int → Int} {c c' : Nat} {α β : Type} {Q : α → Spc → Prop} {p : Pl} {fr : List Int} {out root v w n hd nx pv k a b : Int} {V : List (Int × Int)} {E : List Ed}
def fE (E : List Ed) (a b : Int) : Option Ed := E.find? fun e => decide (e.f = a) && decide (e.t = b)
theorem wp_findL (g : p.good) (hD : PoolD D p) : ∀ (es : List Ed) (k : Nat) (pr n : Int) (σ' : Spc), Sm D σ0 σ' m c → DLf m 4 5 pr n (es.map (·.id)) → (∀ e ∈ es, En.isN p e.id ∧ m (e.id + 2) = e.t) → es.length ≤ k →
    wp (gFindL p b k n) σ' fun r σ2 => r = (((es.find? fun e => decide (e.t = b)).map (·.id)).getD 0, 0) ∧ Sm D σ0 σ2 m c
  | [], k, pr, n, σ', S, h, _, _ => by
    have e : n = 0 := h
    cases k with
    | zero => unfold gFindL; rw [if_pos e]; exact ⟨rfl, S⟩
    | succ k => unfold gFindL; rw [if_pos e]; exact ⟨rfl, S⟩
  | x :: es, k, pr, n, σ', S, h, hN, hl => by
    obtain ⟨rfl, _, h⟩ := h
    obtain ⟨hx, hm⟩ := hN x (List.mem_cons_self ..)
    have hp := isN_pos g hx
    cases k with
    | zero => simp at hl
    | succ k =>
      unfold gFindL
      rw [if_neg (show ¬ x.id = 0 by omega), if_pos (isN_node g hx)]
      refine wp_get S (hD.n _ hx 2 (by omega) (by omega)) fun σ1 S => ?_
      rw [hm]
      by_cases ht : x.t = b
      · rw [if_pos ht]
        refine ⟨?_, S⟩
        rw [List.find?_cons_of_pos (by simpa using ht)]; rfl
      · rw [if_neg ht]
        refine wp_get S (hD.n _ hx 4 (by omega) (by omega)) fun σ2 S => ?_
        rw [List.find?_cons_of_neg (by simpa using ht)]
        exact wp_findL g hD es k _ _ _ S h (fun y hy => hN y (List.mem_cons_of_mem _ hy)) (by simpa using hl)
theorem oL_len : (oL E v).length ≤ E.length := by have := oL_sub (E := E) (v := v) |>.length_le; simpa using this
theorem iL_len : (iL E v).length ≤ E.length := by have := iL_sub (E := E) (v := v) |>.length_le; simpa using this
theorem wp_find {q : Int × Int → Prog α} (G : GS D p root) (S : Sm D σ0 σ m c) (X : GRep p root m V E fr out) (ha : a ∈ vI V) (h : ∀ σ', Sm D σ0 σ' m c → wp (q (((fE E a b).map (·.id)).getD 0, 0)) σ' Q) : wp (gFind p a b >>= q) σ Q := by
  have g := X.P.good
  have haN := X.vN ha
  unfold gFind
  rw [wp_bind]
  refine wp_get S (G.dp.n a haN 4 (by omega) (by omega)) fun σ1 S => ?_
  have hlen := X.lenB
  have := oL_len (E := E) (v := a)
  refine Prog.wp_mono (wp_findL g G.dp (E.filter fun e => decide (e.f = a)) _ 0 _ _ S (X.vo a ha) (fun e he => ?_) (by unfold oL at this; rw [List.length_map] at this; omega)) fun r σ2 ⟨e, S⟩ => ?_
  · have he := (List.mem_filter.1 he).1
    exact ⟨X.eN (List.mem_map_of_mem (f := (·.id)) he), (X.ec e he).2.2.1⟩
  · subst e
    have := h σ2 S
    unfold fE at this
    rw [List.find?_filter, show (fun e : Ed => decide (decide (e.f = a) = true ∧ decide (e.t = b) = true)) = fun e => decide (e.f = a) && decide (e.t = b) from funext fun e => by simp]
    exact this

theorem wp_gLink (G : GS D p root) (S : Sm D σ σ m 0) (X : GRep p root m V E fr out) (hw : R64 w) (hl : σ.pu.length + 40 ≤ big) :
    wp (gLink p root a b w) σ fun e σ' => (¬ (a ∈ vI V ∧ b ∈ vI V) ∧ e = (0, 10) ∧ Sm D σ σ' m 20) ∨ ((a ∈ vI V ∧ b ∈ vI V) ∧ ((fE E a b).isSome = true ∧ e = (0, 11) ∧ Sm D σ σ' m 20 ∨
      fE E a b = none ∧ (p.nodes ≤ (V.length : Int) + E.length ∧ e = (0, 9) ∧ Sm D σ σ' m 20 ∨
      (V.length : Int) + E.length < p.nodes ∧ ∃ n m' fr' out', e = (n, 0) ∧ Sm D σ σ' m' 20 ∧ GRep p root m' V (⟨n, a, b, w⟩ :: E) fr' out'))) := by
  have g := X.P.good
  have g1 := g.f1; have g2 := g.f2; have g3 := g.n1; have g4 := g.r0
  obtain ⟨ra, rb⟩ := G.A
  have hmk := mk_R G g
  unfold gLink
  refine wp_mark ?_
  refine wp_is S G.dp fun σ1 S1 => ?_
  by_cases ha : a ∈ vI V
  rotate_left
  · rw [decide_eq_false (fun h => ha ((X.isV G).1 h)), if_neg (by simp)]
    refine wp_undo S S1 (by decide) fun σ2 S2 => ?_
    exact .inl ⟨fun h => ha h.1, rfl, S2.mono (by omega)⟩
  rw [decide_eq_true ((X.isV G).2 ha), if_pos rfl]
  refine wp_is S1 G.dp fun σ1 S1 => ?_
  by_cases hb : b ∈ vI V
  rotate_left
  · rw [decide_eq_false (fun h => hb ((X.isV G).1 h)), if_neg (by simp)]
    refine wp_undo S S1 (by decide) fun σ2 S2 => ?_
    exact .inl ⟨fun h => hb h.2, rfl, S2.mono (by omega)⟩
  rw [decide_eq_true ((X.isV G).2 hb), if_pos rfl]
  unfold gLinkS
  refine wp_find G S1 X ha fun σ1 S1 => ?_
  cases hf : fE E a b with
  | some e =>
    have heE : e ∈ E := List.mem_of_find?_eq_some hf
    have := isN_pos g (X.eN (List.mem_map_of_mem (f := (·.id)) heE))
    rw [show ((some e).map (·.id)).getD 0 = e.id from rfl, if_pos (by show e.id ≠ 0; omega)]
    refine wp_undo S S1 (by decide) fun σ2 S2 => ?_
    exact .inr ⟨⟨ha, hb⟩, .inl ⟨rfl, rfl, S2.mono (by omega)⟩⟩
  | none =>
  rw [show ((none : Option Ed).map (·.id)).getD 0 = 0 from rfl, if_neg (by simp)]
  refine wp_took S1 X.P G.dp (by omega) (fun n fr' out' σ1 m1 T hn hnf S1 P1 hm1 => ?_) fun σ1 e ho S1 => ?_
  rotate_left
  · rw [if_pos (by decide)]
    refine wp_undo S S1 (by decide) fun σ2 S2 => ?_
    refine .inr ⟨⟨ha, hb⟩, .inr ⟨rfl, .inl ⟨?_, rfl, S2.mono (by omega)⟩⟩⟩
    have := X.cnt
    rw [e] at this
    simp only [List.length_nil] at this
    omega
  obtain ⟨hnl, H', ho', hcn⟩ := T.held X.P X.hl
  have hp1 := P1.out1
  obtain ⟨j, j0, j1, ej⟩ := id hn
  have hnN : En.isN p n := ⟨j, j0, by omega, ej⟩
  have hD' := G.dp.n n hnN
  have hD0 := hD' 0 (by omega) (by omega)
  rw [Int.add_zero] at hD0
  rw [if_neg (by simp), if_neg (by simp)]
  unfold gLinkT
  have haN := X.vN ha
  have hbN := X.vN hb
  refine wp_put S1 hD0 hmk.2 (by omega) fun σ2 S => ?_
  refine wp_put S (hD' 1 (by omega) (by omega)) (isN_R g haN) (by omega) fun σ2 S => ?_
  refine wp_put S (hD' 2 (by omega) (by omega)) (isN_R g hbN) (by omega) fun σ2 S => ?_
  refine wp_put S (hD' 3 (by omega) (by omega)) hw (by omega) fun σ2 S => ?_
  have at2 : ∀ x, upd (upd (upd (upd m1 n (gEk root)) (n + 1) a) (n + 2) b) (n + 3) w x = if x = n + 3 then w else if x = n + 2 then b else if x = n + 1 then a else if x = n then gEk root else m1 x := fun x => rfl
  generalize upd (upd (upd (upd m1 n (gEk root)) (n + 1) a) (n + 2) b) (n + 3) w = m2 at *
  have hf2 : ∀ x, (∀ i, 0 ≤ i → i ≤ 7 → x ≠ n + i) → m2 x = m1 x := fun x hx => by
    have h0 := hx 0 (by omega) (by omega)
    rw [at2, if_neg (hx 3 (by omega) (by omega)), if_neg (hx 2 (by omega) (by omega)), if_neg (hx 1 (by omega) (by omega)), if_neg (by omega)]
  have hidx : ∀ x ∈ vI V ++ eI E, ∃ i, 0 ≤ i ∧ i < p.nodes ∧ i ≠ j ∧ x = p.frm + 8 * i := fun x hx => by
    obtain ⟨i, i0, i1, e⟩ := X.isN hx
    exact ⟨i, i0, i1, fun h => hnl (by rw [ej, ← h, ← e]; exact hx), e⟩
  have hoE : ∀ x ∈ oL E a, x ∈ eI E := fun x hx => oL_sub.subset hx
  have hiE : ∀ x ∈ iL E b, x ∈ eI E := fun x hx => iL_sub.subset hx
  obtain ⟨ja, ja0, ja1, jaj, eja⟩ := hidx a (List.mem_append_left _ ha)
  obtain ⟨jb, jb0, jb1, jbj, ejb⟩ := hidx b (List.mem_append_left _ hb)
  have hm2 : ∀ x ∈ vI V ++ eI E, ∀ i, 0 ≤ i → i ≤ 7 → m2 (x + i) = m (x + i) := fun x hx i i0 i1 => by
    obtain ⟨k, k0, k1, kj, e⟩ := hidx x hx
    rw [hf2 _ (fun i' _ _ => by omega), hm1 _ (by omega) (by omega) (by omega)]
  have hr2 : ∀ i, 0 ≤ i → i ≤ 7 → m2 (root + i) = m (root + i) := fun i i0 i1 => by
    rw [hf2 _ (fun i' _ _ => by omega), hm1 _ (by omega) (by omega) (by omega)]
  have hnV : n ∉ vI V := fun h => hnl (List.mem_append_left _ h)
  have hnE : n ∉ eI E := fun h => hnl (List.mem_append_right _ h)
  have L2 : DL m2 (a + 4) 4 5 (oL E a) := (X.vo a ha).ext (hm2 a (List.mem_append_left _ ha) 4 (by omega) (by omega)) fun x hx => ⟨hm2 x (List.mem_append_right _ (hoE x hx)) 4 (by omega) (by omega), hm2 x (List.mem_append_right _ (hoE x hx)) 5 (by omega) (by omega)⟩
  have A2 : LA p (a + 4) 4 5 (n :: oL E a) := by
    refine ⟨by omega, by omega, by omega, fun x hx => ?_, fun x hx => ?_⟩
    · rcases List.mem_cons.1 hx with rfl | hx
      · exact hnN
      · exact X.eN (hoE x hx)
    · rcases List.mem_cons.1 hx with rfl | hx
      · omega
      · obtain ⟨k, k0, k1, kj, e⟩ := hidx x (List.mem_append_right _ (hoE x hx))
        have := X.apart ha (hoE x hx)
        omega
  refine wp_lnk S g G.dp (G.dp.n a haN 4 (by omega) (by omega)) L2 A2 (List.nodup_cons.2 ⟨fun h => hnE (hoE n h), X.ndE.sublist oL_sub⟩) (by omega) fun σ3 m3 S L3 hf3 => ?_
  rw [if_neg (by simp)]
  have hm3 : ∀ x ∈ vI V ++ eI E, ∀ i, 0 ≤ i → i ≤ 7 → (x = a → i ≠ 4) → (x ∈ oL E a → i ≠ 4 ∧ i ≠ 5) → m3 (x + i) = m (x + i) := fun x hx i i0 i1 h1 h2 => by
    obtain ⟨k, k0, k1, kj, e⟩ := hidx x hx
    rw [hf3 _ (fun h => ?_) (fun y hy => ?_), hm2 x hx i i0 i1]
    · have : x = a := by omega
      have := h1 this; omega
    · rcases List.mem_cons.1 hy with rfl | hy
      · omega
      · obtain ⟨k', k0', k1', kj', e'⟩ := hidx y (List.mem_append_right _ (hoE y hy))
        by_cases hxy : x = y
        · have := h2 (hxy ▸ hy); omega
        · omega
  have hr3 : ∀ i, 0 ≤ i → i ≤ 7 → m3 (root + i) = m (root + i) := fun i i0 i1 => by
    rw [hf3 _ (by omega) (fun y hy => ?_), hr2 i i0 i1]
    rcases List.mem_cons.1 hy with rfl | hy
    · omega
    · obtain ⟨k', k0', k1', kj', e'⟩ := hidx y (List.mem_append_right _ (hoE y hy)); omega
  have L3i : DL m3 (b + 5) 6 7 (iL E b) := (X.vi b hb).ext (hm3 b (List.mem_append_left _ hb) 5 (by omega) (by omega) (fun _ => by omega) fun h => absurd rfl (X.apart hb (hoE b h))) fun x hx => by
    have hxa : x ≠ a := fun h => X.apart ha (hiE x hx) h.symm
    exact ⟨hm3 x (List.mem_append_right _ (hiE x hx)) 6 (by omega) (by omega) (fun h => absurd h hxa) fun _ => by omega, hm3 x (List.mem_append_right _ (hiE x hx)) 7 (by omega) (by omega) (fun h => absurd h hxa) fun _ => by omega⟩
  have A3 : LA p (b + 5) 6 7 (n :: iL E b) := by
    refine ⟨by omega, by omega, by omega, fun x hx => ?_, fun x hx => ?_⟩
    · rcases List.mem_cons.1 hx with rfl | hx
      · exact hnN
      · exact X.eN (hiE x hx)
    · rcases List.mem_cons.1 hx with rfl | hx
      · omega
      · obtain ⟨k, k0, k1, kj, e⟩ := hidx x (List.mem_append_right _ (hiE x hx))
        have := X.apart hb (hiE x hx)
        omega
  refine wp_lnk S g G.dp (G.dp.n b hbN 5 (by omega) (by omega)) L3i A3 (List.nodup_cons.2 ⟨fun h => hnE (hiE n h), X.ndE.sublist iL_sub⟩) (by omega) fun σ4 m4 S L4 hf4 => ?_
  rw [if_neg (by simp)]
  unfold gLinkU
  refine wp_more S (G.dp.n a haN 6 (by omega) (by omega)) (by omega) fun σ5 S => ?_
  generalize w64 (m4 (a + 6) + 1) = x1 at S
  refine wp_more S (G.dp.n b hbN 7 (by omega) (by omega)) (by omega) fun σ5 S => ?_
  generalize w64 (upd m4 (a + 6) x1 (b + 7) + 1) = x2 at S
  refine wp_more S (G.R 2 (by omega) (by omega)) (by omega) fun σ5 S => ?_
  refine wp_more S (G.R 7 (by omega) (by omega)) (by omega) fun σ5 S => ?_
  refine wp_un0 ?_
  have hVl := X.lenB
  have hr4 : ∀ i, 0 ≤ i → i ≤ 7 → m4 (root + i) = m (root + i) := fun i i0 i1 => by
    rw [hf4 _ (by omega) (fun y hy => ?_), hr3 i i0 i1]
    rcases List.mem_cons.1 hy with rfl | hy
    · omega
    · obtain ⟨k', k0', k1', kj', e'⟩ := hidx y (List.mem_append_right _ (hiE y hy)); omega
  have e2 : w64 (upd (upd m4 (a + 6) x1) (b + 7) x2 (root + 2) + 1) = (E.length : Int) + 1 := by
    rw [upd_ne _ _ (by omega), upd_ne _ _ (by omega), hr4 2 (by omega) (by omega), X.n2, w64_R ⟨by omega, by omega⟩]
  rw [e2] at S
  have e7 : w64 (upd (upd (upd m4 (a + 6) x1) (b + 7) x2) (root + 2) ((E.length : Int) + 1) (root + 7) + 1) = (V.length : Int) + E.length + 1 := by
    rw [upd_ne _ _ (by omega), upd_ne _ _ (by omega), upd_ne _ _ (by omega), hr4 7 (by omega) (by omega), X.n7, w64_R ⟨by omega, by omega⟩]
  rw [e7] at S
  have at5 : ∀ x, upd (upd (upd (upd m4 (a + 6) x1) (b + 7) x2) (root + 2) ((E.length : Int) + 1)) (root + 7) ((V.length : Int) + E.length + 1) x = if x = root + 7 then (V.length : Int) + E.length + 1 else if x = root + 2 then (E.length : Int) + 1 else if x = b + 7 then x2 else if x = a + 6 then x1 else m4 x := fun x => rfl
  generalize upd (upd (upd (upd m4 (a + 6) x1) (b + 7) x2) (root + 2) ((E.length : Int) + 1)) (root + 7) ((V.length : Int) + E.length + 1) = m5 at *
  -- cells of nodes: the mores
  have hf5 : ∀ x, (∀ i, 0 ≤ i → i ≤ 7 → x ≠ root + i) → x ≠ a + 6 → x ≠ b + 7 → m5 x = m4 x := fun x h1 h2 h3 => by
    rw [at5, if_neg (h1 7 (by omega) (by omega)), if_neg (h1 2 (by omega) (by omega)), if_neg h3, if_neg h2]
  have hxo : ∀ x ∈ vI V ++ eI E, ∀ i, 0 ≤ i → i ≤ 7 → (x ∈ vI V → i ≠ 6 ∧ i ≠ 7 ∧ (x = a → i ≠ 4) ∧ (x = b → i ≠ 5)) → (x ∈ oL E a → i ≠ 4 ∧ i ≠ 5) → (x ∈ iL E b → i ≠ 6 ∧ i ≠ 7) → m5 (x + i) = m (x + i) := fun x hx i i0 i1 h1 h2 h3 => by
    obtain ⟨k, k0, k1, kj, e⟩ := hidx x hx
    rw [hf5 _ (fun i' _ _ => by omega) (fun h => ?_) (fun h => ?_), hf4 _ (fun h => ?_) (fun y hy => ?_), hm3 x hx i i0 i1 (fun h => ?_) h2]
    · subst h; exact (h1 ha).2.2.1 rfl
    · have hxb : x = b := by omega
      subst hxb; have := (h1 hb).2.2.2 rfl; omega
    · rcases List.mem_cons.1 hy with rfl | hy
      · omega
      · obtain ⟨k', k0', k1', kj', e'⟩ := hidx y (List.mem_append_right _ (hiE y hy))
        by_cases hxy : x = y
        · have := h3 (hxy ▸ hy); omega
        · omega
    · have hxa : x = a := by omega
      subst hxa; have := (h1 ha).1; omega
    · have hxb : x = b := by omega
      subst hxb; have := (h1 hb).2.1; omega
  have hn5 : ∀ i, 0 ≤ i → i ≤ 3 → m5 (n + i) = m2 (n + i) := fun i i0 i1 => by
    rw [hf5 _ (fun i' _ _ => by omega) (by omega) (by omega), hf4 _ (by omega) (fun y hy => ?_), hf3 _ (by omega) (fun y hy => ?_)]
    · rcases List.mem_cons.1 hy with rfl | hy
      · omega
      · obtain ⟨k', k0', k1', kj', e'⟩ := hidx y (List.mem_append_right _ (hoE y hy)); omega
    · rcases List.mem_cons.1 hy with rfl | hy
      · omega
      · obtain ⟨k', k0', k1', kj', e'⟩ := hidx y (List.mem_append_right _ (hiE y hy)); omega
  have hoff : ∀ x, (∀ i, 0 ≤ i → i ≤ 7 → x ≠ root + i) → (∀ i k, 0 ≤ i → i ≤ 7 → 0 ≤ k → k < out' → p.frm + 8 * k ∉ fr' → x ≠ p.frm + 8 * k + i) → m5 x = m1 x := fun x h1 h2 => by
    have hnd : ∀ y ∈ n :: (vI V ++ eI E), ∀ i, 0 ≤ i → i ≤ 7 → x ≠ y + i := fun y hy i i0 i1 => by
      rcases List.mem_cons.1 hy with rfl | hy
      · rw [ej]; exact h2 i j i0 i1 j0 j1 (by rw [← ej]; exact hnf)
      · obtain ⟨⟨k, k0, k1, e⟩, hnf⟩ := H' y hy
        rw [e] at hnf ⊢
        exact h2 i k i0 i1 k0 k1 hnf
    have hA := hnd a (List.mem_cons_of_mem _ (List.mem_append_left _ ha))
    have hB := hnd b (List.mem_cons_of_mem _ (List.mem_append_left _ hb))
    rw [hf5 x h1 (hA 6 (by omega) (by omega)) (hB 7 (by omega) (by omega)), hf4 x (hB 5 (by omega) (by omega)) (fun y hy => ?_), hf3 x (hA 4 (by omega) (by omega)) (fun y hy => ?_), hf2 x (hnd n (List.mem_cons_self ..))]
    · have hy' : y ∈ n :: (vI V ++ eI E) := by
        rcases List.mem_cons.1 hy with rfl | hy
        · exact List.mem_cons_self ..
        · exact List.mem_cons_of_mem _ (List.mem_append_right _ (hoE y hy))
      exact ⟨hnd y hy' 4 (by omega) (by omega), hnd y hy' 5 (by omega) (by omega)⟩
    · have hy' : y ∈ n :: (vI V ++ eI E) := by
        rcases List.mem_cons.1 hy with rfl | hy
        · exact List.mem_cons_self ..
        · exact List.mem_cons_of_mem _ (List.mem_append_right _ (hiE y hy))
      exact ⟨hnd y hy' 6 (by omega) (by omega), hnd y hy' 7 (by omega) (by omega)⟩
  have hcell : ∀ x, x ∈ vI V ++ eI (⟨n, a, b, w⟩ :: E) ↔ x = n ∨ x ∈ vI V ++ eI E := fun x => by
    simp only [List.mem_append, List.map_cons, List.mem_cons]
    constructor
    · rintro (h | h | h)
      · exact .inr (.inl h)
      · exact .inl h
      · exact .inr (.inr h)
    · rintro (h | h | h)
      · exact .inr (.inl h)
      · exact .inl h
      · exact .inr (.inr h)
  refine .inr ⟨⟨ha, hb⟩, .inr ⟨rfl, .inr ⟨?_, n, m5, fr', out', rfl, S.mono (by omega), ⟨?_, ?_, ?_, ?_, ?_, ?_, ?_, ?_, ?_, ?_, ?_, ?_, ?_, ?_, ?_⟩⟩⟩⟩
  · have := X.cnt
    cases T with
    | free e => rw [e] at this; simp only [List.length_cons] at this; have := X.P.out1; omega
    | new e ho => rw [e] at this; simp only [List.length_nil] at this; omega
  · refine P1.ext fun x hx => ?_
    refine hoff x (fun i i0 i1 => ?_) fun i k i0 i1 k0 k1 hk => ?_
    · rcases hx with h | h | h | h
      · omega
      · omega
      · omega
      · obtain ⟨k, k0, k1, e⟩ := P1.fN x h; omega
    · rcases hx with h | h | h | h
      · omega
      · omega
      · omega
      · obtain ⟨k', k0', k1', e⟩ := P1.fN x h
        intro h2
        have : k = k' := by omega
        exact hk (by rw [this, ← e]; exact h)
  · have h1 := X.nd
    rw [List.nodup_append] at h1
    show (vI V ++ n :: eI E).Nodup
    rw [List.nodup_append]
    refine ⟨h1.1, List.nodup_cons.2 ⟨hnE, h1.2.1⟩, fun x hx y hy => ?_⟩
    rcases List.mem_cons.1 hy with rfl | hy
    · exact fun e => hnV (e ▸ hx)
    · exact h1.2.2 x hx y hy
  · intro x hx
    rcases (hcell x).1 hx with rfl | hx
    · exact ⟨hn, hnf⟩
    · exact H' x hx
  · intro i i0 i1
    cases T with
    | free e =>
      rcases X.cov i i0 i1 with h | h
      · exact .inl ((hcell _).2 (.inr h))
      · rw [e] at h
        rcases List.mem_cons.1 h with h | h
        · exact .inl ((hcell _).2 (.inl h))
        · exact .inr h
    | new e ho =>
      by_cases hi : i = out
      · subst hi; exact .inl ((hcell _).2 (.inl rfl))
      · rcases X.cov i i0 (by omega) with h | h
        · exact .inl ((hcell _).2 (.inr h))
        · rw [e] at h; cases h
  · intro i i0 i1
    rw [hoff _ (fun i' _ _ => by omega) (fun i' k i0' i1' k0 k1 _ => by omega), hm1 _ (by omega) (by omega) (by omega)]
    exact X.new i (by omega) i1
  · have := X.cnt
    simp only [List.length_cons]
    omega
  · intro e he
    rcases List.mem_cons.1 he with rfl | he
    · exact ⟨ha, hb⟩
    · exact X.fv e he
  · have hVe : ∀ x ∈ vI V, x ∉ oL E a ∧ x ∉ iL E b := fun x hx => ⟨fun h => X.apart hx (hoE x h) rfl, fun h => X.apart hx (hiE x h) rfl⟩
    have h0 : m5 root = m root := by
      have := hr4 0 (by omega) (by omega)
      rw [Int.add_zero] at this
      rw [at5, if_neg (by omega), if_neg (by omega), if_neg (by omega), if_neg (by omega)]
      exact this
    exact X.vs.ext h0 fun x hx => ⟨hxo x (List.mem_append_left _ hx) 2 (by omega) (by omega) (fun _ => by omega) (fun h => absurd h (hVe x hx).1) fun h => absurd h (hVe x hx).2,
      hxo x (List.mem_append_left _ hx) 3 (by omega) (by omega) (fun _ => by omega) (fun h => absurd h (hVe x hx).1) fun h => absurd h (hVe x hx).2⟩
  · intro x hx
    have hxV := List.mem_map_of_mem (f := (·.1)) hx
    have hm := List.mem_append_left (eI E) hxV
    have h0 := hxo x.1 hm 0 (by omega) (by omega) (fun _ => by omega) (fun h => absurd rfl (X.apart hxV (hoE _ h))) fun h => absurd rfl (X.apart hxV (hiE _ h))
    rw [Int.add_zero] at h0
    exact ⟨h0.trans (X.vm x hx).1, (hxo x.1 hm 1 (by omega) (by omega) (fun _ => by omega) (fun h => absurd rfl (X.apart hxV (hoE _ h))) fun h => absurd rfl (X.apart hxV (hiE _ h))).trans (X.vm x hx).2⟩
  · intro x hx
    by_cases hxa : x = a
    · have e0 : oL (⟨n, a, b, w⟩ :: E) x = n :: oL E a := by unfold oL; rw [List.filter_cons_of_pos (by simp [hxa]), hxa]; rfl
      rw [e0, hxa]
      have hk : ∀ y ∈ n :: oL E a, ∃ k, 0 ≤ k ∧ y = p.frm + 8 * k ∧ k ≠ ja ∧ k ≠ jb := fun y hy => by
        rcases List.mem_cons.1 hy with rfl | hy
        · exact ⟨j, j0, ej, fun h => jaj h.symm, fun h => jbj h.symm⟩
        · obtain ⟨k', k0', k1', kj', e'⟩ := hidx y (List.mem_append_right _ (hoE y hy))
          have h1 := X.apart ha (hoE y hy); have h2 := X.apart hb (hoE y hy)
          exact ⟨k', k0', e', by omega, by omega⟩
      have hk4 : ∀ y ∈ n :: oL E a, ∀ z ∈ n :: iL E b, ∀ i, i = 4 ∨ i = 5 → y + i ≠ z + 6 ∧ y + i ≠ z + 7 := fun y hy z hz i hi => by
        obtain ⟨k, k0, e, _, _⟩ := hk y hy
        have : ∃ k', z = p.frm + 8 * k' := by
          rcases List.mem_cons.1 hz with rfl | hz
          · exact ⟨j, ej⟩
          · obtain ⟨k', k0', k1', kj', e'⟩ := hidx z (List.mem_append_right _ (hiE z hz)); exact ⟨k', e'⟩
        obtain ⟨k', e'⟩ := this
        omega
      refine L3.ext ?_ fun y hy => ?_
      · rw [hf5 _ (fun i' _ _ => by omega) (by omega) (by omega), hf4 _ (by omega) fun z hz => ?_]
        have : ∃ k', z = p.frm + 8 * k' := by
          rcases List.mem_cons.1 hz with rfl | hz
          · exact ⟨j, ej⟩
          · obtain ⟨k', k0', k1', kj', e'⟩ := hidx z (List.mem_append_right _ (hiE z hz)); exact ⟨k', e'⟩
        obtain ⟨k', e'⟩ := this
        omega
      · obtain ⟨k, k0, e, ka, kb⟩ := hk y hy
        exact ⟨by rw [hf5 _ (fun i' _ _ => by omega) (by omega) (by omega), hf4 _ (by omega) fun z hz => hk4 y hy z hz 4 (.inl rfl)], by rw [hf5 _ (fun i' _ _ => by omega) (by omega) (by omega), hf4 _ (by omega) fun z hz => hk4 y hy z hz 5 (.inr rfl)]⟩
    · have e0 : oL (⟨n, a, b, w⟩ :: E) x = oL E x := by unfold oL; rw [List.filter_cons_of_neg (by simp; exact fun h => hxa h.symm)]
      rw [e0]
      refine (X.vo x hx).ext (hxo x (List.mem_append_left _ hx) 4 (by omega) (by omega) (fun _ => ⟨by omega, by omega, fun h => absurd h hxa, fun _ => by omega⟩) (fun h => absurd rfl (X.apart hx (hoE _ h))) fun h => absurd rfl (X.apart hx (hiE _ h))) fun y hy => ?_
      have hyE : y ∈ eI E := oL_sub.subset hy
      have hyV : y ∉ vI V := fun h => X.apart h hyE rfl
      have hyo : y ∉ oL E a := fun h => by
        obtain ⟨e1, h1, h2, h3⟩ := oL_mem.1 hy
        obtain ⟨e2, h4, h5, h6⟩ := oL_mem.1 h
        have : e1 = e2 := nodup_inj X.ndE h1 h4 (h3.trans h6.symm)
        subst this
        exact hxa (h2.symm.trans h5)
      exact ⟨hxo y (List.mem_append_right _ hyE) 4 (by omega) (by omega) (fun h => absurd h hyV) (fun h => absurd h hyo) fun _ => by omega, hxo y (List.mem_append_right _ hyE) 5 (by omega) (by omega) (fun h => absurd h hyV) (fun h => absurd h hyo) fun _ => by omega⟩
  · intro x hx
    by_cases hxb : x = b
    · have e0 : iL (⟨n, a, b, w⟩ :: E) x = n :: iL E b := by unfold iL; rw [List.filter_cons_of_pos (by simp [hxb]), hxb]; rfl
      rw [e0, hxb]
      refine L4.ext ?_ fun y hy => ?_
      · rw [hf5 _ (fun i' _ _ => by omega) (by omega) (by omega)]
      · have : ∃ k, 0 ≤ k ∧ y = p.frm + 8 * k ∧ k ≠ ja ∧ k ≠ jb := by
          rcases List.mem_cons.1 hy with rfl | hy
          · exact ⟨j, j0, ej, fun h => jaj h.symm, fun h => jbj h.symm⟩
          · obtain ⟨k', k0', k1', kj', e'⟩ := hidx y (List.mem_append_right _ (hiE y hy))
            have h1 := X.apart ha (hiE y hy); have h2 := X.apart hb (hiE y hy)
            exact ⟨k', k0', e', by omega, by omega⟩
        obtain ⟨k, k0, e, ka, kb⟩ := this
        exact ⟨hf5 _ (fun i' _ _ => by omega) (by omega) (by omega), hf5 _ (fun i' _ _ => by omega) (by omega) (by omega)⟩
    · have e0 : iL (⟨n, a, b, w⟩ :: E) x = iL E x := by unfold iL; rw [List.filter_cons_of_neg (by simp; exact fun h => hxb h.symm)]
      rw [e0]
      refine (X.vi x hx).ext (hxo x (List.mem_append_left _ hx) 5 (by omega) (by omega) (fun _ => ⟨by omega, by omega, fun _ => by omega, fun h => absurd h hxb⟩) (fun h => absurd rfl (X.apart hx (hoE _ h))) fun h => absurd rfl (X.apart hx (hiE _ h))) fun y hy => ?_
      have hyE : y ∈ eI E := iL_sub.subset hy
      have hyV : y ∉ vI V := fun h => X.apart h hyE rfl
      have hyo : y ∉ iL E b := fun h => by
        obtain ⟨e1, h1, h2, h3⟩ := iL_mem.1 hy
        obtain ⟨e2, h4, h5, h6⟩ := iL_mem.1 h
        have : e1 = e2 := nodup_inj X.ndE h1 h4 (h3.trans h6.symm)
        subst this
        exact hxb (h2.symm.trans h5)
      exact ⟨hxo y (List.mem_append_right _ hyE) 6 (by omega) (by omega) (fun h => absurd h hyV) (fun _ => by omega) fun h => absurd h hyo, hxo y (List.mem_append_right _ hyE) 7 (by omega) (by omega) (fun h => absurd h hyV) (fun _ => by omega) fun h => absurd h hyo⟩
  · intro e he
    rcases List.mem_cons.1 he with rfl | he
    · have h0 := hn5 0 (by omega) (by omega)
      rw [Int.add_zero] at h0
      refine ⟨?_, ?_, ?_, ?_⟩
      · show m5 n = _
        rw [h0, at2, if_neg (by omega), if_neg (by omega), if_neg (by omega), if_pos rfl]
      · show m5 (n + 1) = _
        rw [hn5 1 (by omega) (by omega), at2, if_neg (by omega), if_neg (by omega), if_pos rfl]
      · show m5 (n + 2) = _
        rw [hn5 2 (by omega) (by omega), at2, if_neg (by omega), if_pos rfl]
      · show m5 (n + 3) = _
        rw [hn5 3 (by omega) (by omega), at2, if_pos rfl]
    · have hm := List.mem_append_right (vI V) (List.mem_map_of_mem (f := (·.id)) he)
      have hyV : e.id ∉ vI V := fun h => X.apart h (List.mem_map_of_mem (f := (·.id)) he) rfl
      obtain ⟨h1, h2, h3, h4⟩ := X.ec e he
      have hh : ∀ i, 0 ≤ i → i ≤ 3 → m5 (e.id + i) = m (e.id + i) := fun i i0 i1 => hxo e.id hm i i0 (by omega) (fun h => absurd h hyV) (fun _ => by omega) fun _ => by omega
      have h0 := hh 0 (by omega) (by omega)
      rw [Int.add_zero] at h0
      exact ⟨h0.trans h1, (hh 1 (by omega) (by omega)).trans h2, (hh 2 (by omega) (by omega)).trans h3, (hh 3 (by omega) (by omega)).trans h4⟩
  · rw [at5, if_neg (by omega), if_neg (by omega), if_neg (by omega), if_neg (by omega), hr4 1 (by omega) (by omega)]; exact X.n1
  · rw [at5, if_neg (by omega), if_pos rfl]; simp
  · rw [at5, if_pos rfl]; simp only [List.length_cons]; omega
end
end Go.En
