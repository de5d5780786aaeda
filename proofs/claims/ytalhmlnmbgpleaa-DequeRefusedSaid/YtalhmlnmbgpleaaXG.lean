/-
  Chains of nodes from both ends; the deque's and the stack's programs, and what they come to.
  The deque and the stack in memory.
  Layer 35: the deque's functions.
  Layer 35: the reference; actions; the model's words.
-/
import Derived.Test.YtalhmlnmbgpleaaXD
import Derived.Test.YtalhmlnmbgpleaaXE
import Derived.Test.YtalhmlnmbgpleaaXF
namespace Go.En
open Prog Spc

/-! ### Chains -/
theorem Lk.snoc {m m' : Int → Int} {o x : Int} : ∀ {l : List Int} {a : Int}, Lk m o a l → (∀ y ∈ l, m' (y + o) = if some y = l.getLast? then x else m (y + o)) → l.Nodup → m' (x + o) = 0 → (l = [] → a = x) → l ≠ [] → Lk m' o a (l ++ [x])
  | [], a, _, _, _, h0, ha, hne => absurd rfl hne
  | [y], a, h, hm, hn, h0, _, _ => by
    have := hm y (List.mem_singleton.2 rfl)
    rw [if_pos (by rfl)] at this
    exact ⟨h.1, by rw [this]; exact ⟨rfl, h0⟩⟩
  | y :: z :: l, a, h, hm, hn, h0, ha, _ => by
    have hn := List.nodup_cons.1 hn
    have e : (y :: z :: l).getLast? = (z :: l).getLast? := by simp [List.getLast?_cons_cons]
    have hy := hm y (List.mem_cons_self ..)
    have hne : ¬ some y = (y :: z :: l).getLast? := by
      rw [e]
      intro hc
      exact hn.1 (List.mem_of_getLast? hc.symm)
    rw [if_neg hne] at hy
    refine ⟨h.1, ?_⟩
    rw [hy]
    exact Lk.snoc (l := z :: l) h.2 (fun w hw => by rw [hm w (List.mem_cons_of_mem _ hw), e]) hn.2 h0 (fun e => by cases e) (by simp)
theorem Lk.unsnoc {m m' : Int → Int} {o x : Int} : ∀ {l : List Int} {a : Int}, Lk m o a (l ++ [x]) → (∀ y ∈ l, m' (y + o) = if some y = l.getLast? then 0 else m (y + o)) → (l ++ [x]).Nodup → l ≠ [] → Lk m' o a l
  | [], a, _, _, _, hne => absurd rfl hne
  | [y], a, h, hm, hn, _ => by
    have := hm y (List.mem_singleton.2 rfl)
    rw [if_pos (by rfl)] at this
    exact ⟨h.1, this⟩
  | y :: z :: l, a, h, hm, hn, _ => by
    have hn : y ∉ (z :: l) ++ [x] ∧ ((z :: l) ++ [x]).Nodup := List.nodup_cons.1 hn
    have e : (y :: z :: l).getLast? = (z :: l).getLast? := by simp [List.getLast?_cons_cons]
    have hy := hm y (List.mem_cons_self ..)
    have hne : ¬ some y = (y :: z :: l).getLast? := by
      rw [e]
      intro hc
      exact hn.1 (List.mem_append_left _ (List.mem_of_getLast? hc.symm))
    rw [if_neg hne] at hy
    refine ⟨h.1, ?_⟩
    rw [hy]
    exact Lk.unsnoc (l := z :: l) h.2 (fun w hw => by rw [hm w (List.mem_cons_of_mem _ hw), e]) hn.2 (by simp)
theorem Lk.head {m : Int → Int} {o a : Int} {l : List Int} (h : Lk m o a l) : a = l.head?.getD 0 := by
  cases l with
  | nil => exact h
  | cons x r => exact h.1

/-! ### The deque -/
def sd (r : Bool) : Int := if r then 1 else 0
theorem sd_in (r : Bool) : 0 ≤ sd r ∧ sd r ≤ 1 := by cases r <;> decide
theorem sd_ne (r : Bool) : sd r ≠ sd !r := by cases r <;> decide
def dMore (a n : Int) : Prog Unit := do
  let v ← gt a
  pt a (w64 (v + n))
def dUn (e m : Int) : Prog Unit := if e ≠ 0 then bk m else pure ()
def dPushT (root n : Int) (r : Bool) : Prog Int := do
  pt (root + sd r) n
  dMore (root + 2) 1
  dMore (root + 7) 1
  dUn 0 0
  pure 0
def dPush (p : Pl) (root : Int) (r : Bool) (v : Int) : Prog Int := do
  let m ← mk
  let t ← pTake p
  if t.2 ≠ 0 then do
    dUn t.2 m
    pure t.2
  else do
    let en ← gt (root + sd r)
    pt (t.1 + sd r) 0
    pt (t.1 + sd !r) en
    pt (t.1 + 2) v
    if en = 0 then do
      pt (root + sd !r) t.1
      dPushT root t.1 r
    else if (p.node en).isSome then do
      pt (en + sd r) t.1
      dPushT root t.1 r
    else do
      dUn 24 m
      pure 24
def dPopT (p : Pl) (root en nx m : Int) (r : Bool) : Prog (Int × Int) := do
  pt (root + sd r) nx
  dMore (root + 2) (-1)
  dMore (root + 7) (-1)
  let x ← gt (en + 2)
  let e ← pGive p en
  if e ≠ 0 then do
    dUn e m
    pure (0, e)
  else do
    dUn 0 m
    pure (x, 0)
def dPop (p : Pl) (root : Int) (r : Bool) : Prog (Int × Int) := do
  let m ← mk
  let en ← gt (root + sd r)
  if en = 0 then do
    dUn 8 m
    pure (0, 8)
  else if (p.node en).isSome then do
    let nx ← gt (en + sd !r)
    if nx = 0 then do
      pt (root + sd !r) 0
      dPopT p root en nx m r
    else if (p.node nx).isSome then do
      pt (nx + sd r) 0
      dPopT p root en nx m r
    else do
      dUn 24 m
      pure (0, 24)
  else do
    dUn 24 m
    pure (0, 24)
def dPeek (root : Int) (r : Bool) : Prog (Int × Int) := do
  let en ← gt (root + sd r)
  if en = 0 then pure (0, 8) else do
    let x ← gt (w64 (en + 2))
    pure (x, 0)
def dLoop (p : Pl) (r : Bool) : Nat → Int → List Int → Prog (Option (List Int))
  | 0, a, acc => pure (if a = 0 then some acc else none)
  | n + 1, a, acc => if a = 0 then pure (some acc) else if (p.node a).isSome then do
      let v ← gt (a + 2)
      let nx ← gt (a + sd !r)
      dLoop p r n nx (acc ++ [v])
    else pure none
def dWalk (p : Pl) (root : Int) (r : Bool) : Prog (Option (List Int)) := do
  let a ← gt (root + sd r)
  dLoop p r p.nodes.toNat a []

/-! ### The stack -/
def sMore (root n : Int) : Prog Unit := do
  dMore (root + 1) n
  dMore (root + 7) n
def sPush (p : Pl) (root v : Int) : Prog Int := do
  let m ← mk
  let t ← pTake p
  if t.2 ≠ 0 then do
    dUn t.2 m
    pure t.2
  else do
    let tp ← gt root
    pt t.1 tp
    pt (t.1 + 1) v
    pt root t.1
    sMore root 1
    dUn 0 m
    pure 0
def sPop (p : Pl) (root : Int) : Prog (Int × Int) := do
  let m ← mk
  let a ← gt root
  if a = 0 then do
    dUn 8 m
    pure (0, 8)
  else if (p.node a).isSome then do
    let nx ← gt a
    let v ← gt (a + 1)
    let e ← pGive p a
    if e ≠ 0 then do
      dUn e m
      pure (0, e)
    else do
      pt root nx
      sMore root (-1)
      dUn 0 m
      pure (v, 0)
  else do
    dUn 24 m
    pure (0, 24)
def sTop (root : Int) : Prog (Int × Int) := do
  let a ← gt root
  if a = 0 then pure (0, 8) else do
    let x ← gt (a + 1)
    pure (x, 0)
def sLoop (p : Pl) : Nat → Int → List Int → Prog (Option (List Int))
  | 0, a, acc => pure (if a = 0 then some acc else none)
  | n + 1, a, acc => if a = 0 then pure (some acc) else if (p.node a).isSome then do
      let v ← gt (a + 1)
      let nx ← gt a
      sLoop p n nx (acc ++ [v])
    else pure none
def sWalk (p : Pl) (root : Int) : Prog (Option (List Int)) := do
  let a ← gt root
  sLoop p p.nodes.toNat a []
end Go.En
namespace Go.En
open Prog Spc

/-- a root apart from the pool -/
structure RA (p : Pl) (root : Int) : Prop where
  a : p.root + 3 ≤ root
  b : root + 8 ≤ p.frm
abbrev RootD (D : Int → Prop) (root : Int) : Prop := ∀ i, 0 ≤ i → i ≤ 7 → D (root + i)
/-- nodes handed out and not free -/
abbrev Held (p : Pl) (fr : List Int) (out : Int) (l : List Int) : Prop := ∀ x ∈ l, (∃ i, 0 ≤ i ∧ i < out ∧ x = p.frm + 8 * i) ∧ x ∉ fr
theorem nd_rev {l : List Int} (h : l.Nodup) : l.reverse.Nodup := by
  unfold List.Nodup at h ⊢
  rw [List.pairwise_reverse]
  exact h.imp fun hab e => hab e.symm
/-- the deque from the end r on -/
structure DQ (m : Int → Int) (root : Int) (r : Bool) (l vs : List Int) : Prop where
  fwd : Lk m (sd !r) (m (root + sd r)) l
  bwd : Lk m (sd r) (m (root + sd !r)) l.reverse
  val : vs = l.map fun x => m (x + 2)
  n2 : m (root + 2) = l.length
  n7 : m (root + 7) = l.length
  nd : l.Nodup
theorem DQ.turn {m : Int → Int} {root : Int} {r : Bool} {l vs : List Int} (H : DQ m root r l vs) : DQ m root (!r) l.reverse vs.reverse := by
  refine ⟨by rw [Bool.not_not]; exact H.bwd, by rw [List.reverse_reverse, Bool.not_not]; exact H.fwd, ?_, by rw [List.length_reverse]; exact H.n2, by rw [List.length_reverse]; exact H.n7, nd_rev H.nd⟩
  rw [H.val, List.map_reverse]
theorem DQ.len {m : Int → Int} {root : Int} {r : Bool} {l vs : List Int} (H : DQ m root r l vs) : vs.length = l.length := by rw [H.val, List.length_map]
theorem DQ.ext {m m' : Int → Int} {root : Int} {r : Bool} {l vs : List Int} (H : DQ m root r l vs) (h1 : ∀ i, 0 ≤ i → i ≤ 7 → m' (root + i) = m (root + i)) (h2 : ∀ x ∈ l, ∀ i, 0 ≤ i → i ≤ 7 → m' (x + i) = m (x + i)) : DQ m' root r l vs := by
  have s1 := sd_in r; have s2 := sd_in (!r)
  refine ⟨?_, ?_, ?_, ?_, ?_, H.nd⟩
  · rw [h1 _ s1.1 (by omega)]; exact H.fwd.ext fun x hx => h2 x hx _ s2.1 (by omega)
  · rw [h1 _ s2.1 (by omega)]; exact H.bwd.ext fun x hx => h2 x (List.mem_reverse.1 hx) _ s1.1 (by omega)
  · rw [H.val]; exact List.map_congr_left fun x hx => (h2 x hx 2 (by omega) (by omega)).symm
  · rw [h1 2 (by omega) (by omega)]; exact H.n2
  · rw [h1 7 (by omega) (by omega)]; exact H.n7
theorem wp_ret' {α : Type} {p : Prog α} {σ : Spc} {Q : α → Spc → Prop} (h : wp (p >>= Prog.ret) σ Q) : wp p σ Q := by
  rw [wp_bind] at h; exact h

section
variable {D : Int → Prop} {σ0 σ σ' : Spc} {m : Int → Int} {c c' : Nat} {α β : Type} {Q : α → Spc → Prop} {p : Pl} {fr : List Int} {out root v : Int} {l vs : List Int} {r : Bool}
theorem wp_more {q : Unit → Prog α} (S : Sm D σ0 σ m c) {a n : Int} (ha : D a) (hl : σ0.pu.length + c ≤ big) (hk : ∀ σ', Sm D σ0 σ' (upd m a (w64 (m a + n))) (c + 1) → wp (q ()) σ' Q) : wp (dMore a n >>= q) σ Q := by
  unfold dMore
  rw [wp_bind]
  refine wp_get S ha fun σ1 S => ?_
  rw [← wp_bind]
  exact wp_put S ha (w64_in _) hl hk
/-- the cells that a change of a structure may turn -/
abbrev Same (p : Pl) (root : Int) (l : List Int) (m m' : Int → Int) : Prop := ∀ a, (∀ i, 0 ≤ i → i ≤ 2 → a ≠ p.root + i) → (∀ i, 0 ≤ i → i ≤ 7 → a ≠ root + i) → (∀ x ∈ l, ∀ i, 0 ≤ i → i ≤ 7 → a ≠ x + i) → m' a = m a

/-- what an allocation comes to -/
inductive Took (p : Pl) (fr : List Int) (out : Int) : Int → List Int → Int → Prop
  | free {n : Int} {fr' : List Int} : fr = n :: fr' → Took p fr out n fr' out
  | new : fr = [] → out < p.nodes → Took p fr out (p.frm + 8 * out) [] (out + 1)
theorem wp_took {q : Int × Int → Prog α} (S : Sm D σ0 σ m c) (P : PoolR m p fr out) (hD : PoolD D p) (hl : σ0.pu.length + c + 2 ≤ big)
    (h1 : ∀ n fr' out' σ' m', Took p fr out n fr' out' → (∃ i, 0 ≤ i ∧ i < out' ∧ n = p.frm + 8 * i) → n ∉ fr' → Sm D σ0 σ' m' (c + 2) → PoolR m' p fr' out' → (∀ a, a ≠ p.root → a ≠ p.root + 1 → a ≠ p.root + 2 → m' a = m a) → wp (q (n, 0)) σ' Q)
    (h2 : ∀ σ', fr = [] → out = p.nodes → Sm D σ0 σ' m c → wp (q (0, 9)) σ' Q) : wp (pTake p >>= q) σ Q := by
  refine wp_take S P hD hl (fun x fr' σ' m' e hx S' P' hm => ?_) (fun σ' m' e ho hx S' P' hm => ?_) h2
  · subst e
    exact h1 x fr' out σ' m' (.free rfl) (P.fN x (List.mem_cons_self ..)) (List.nodup_cons.1 P.nd).1 S' P' fun a a1 _ a3 => hm a a1 a3
  · exact h1 _ [] (out + 1) σ' m' (.new e ho) ⟨out, P.out0, by omega, rfl⟩ (by simp) S' P' fun a _ a2 _ => hm a a2

theorem Took.held {n : Int} {fr' : List Int} {out' : Int} (T : Took p fr out n fr' out') (P : PoolR m p fr out) (H : Held p fr out l) : n ∉ l ∧ Held p fr' out' l ∧ out ≤ out' ∧ (fr'.length : Int) - out' + 1 = fr.length - out := by
  cases T with
  | free e =>
    subst e
    refine ⟨fun hn => (H n hn).2 (List.mem_cons_self ..), fun x hx => ⟨(H x hx).1, fun h => (H x hx).2 (List.mem_cons_of_mem _ h)⟩, Int.le_refl _, ?_⟩
    simp only [List.length_cons]; omega
  | new e ho =>
    refine ⟨fun hn => ?_, fun x hx => ?_, by omega, ?_⟩
    · obtain ⟨⟨i, i0, i1, e2⟩, _⟩ := H _ hn
      omega
    · obtain ⟨⟨i, i0, i1, e2⟩, _⟩ := H x hx
      exact ⟨⟨i, i0, by omega, e2⟩, by simp⟩
    · rw [e]; simp only [List.length_nil]; omega

/-- undone: as before -/
theorem wp_undo {e : Int} {m1 : Int → Int} {q : Unit → Prog α} (S0 : Sm D σ σ m 0) (S : Sm D σ σ' m1 c) (he : e ≠ 0) (k : ∀ σ2, Sm D σ σ2 m 0 → wp (q ()) σ2 Q) : wp (dUn e σ.pu.length >>= q) σ' Q := by
  unfold dUn
  rw [if_pos he]
  exact wp_back S S0.vw S0.rg k
theorem wp_un0 {x : Int} {q : Unit → Prog α} (k : wp (q ()) σ Q) : wp (dUn 0 x >>= q) σ Q := by
  unfold dUn
  rw [if_neg (by simp)]
  exact k
theorem upd_if (m : Int → Int) (a v b : Int) : upd m a v b = if b = a then v else m b := rfl

theorem wp_dPush (S : Sm D σ σ m 0) (P : PoolR m p fr out) (hD : PoolD D p) (hRD : RootD D root) (hA : RA p root) (K : DQ m root r l vs) (H : Held p fr out l) (hv : R64 v) (hl : σ.pu.length + 12 ≤ big) :
    wp (dPush p root r v) σ fun e σ' => (∃ n fr' out' m', e = 0 ∧ Took p fr out n fr' out' ∧ Sm D σ σ' m' 12 ∧ PoolR m' p fr' out' ∧ DQ m' root r (n :: l) (v :: vs) ∧ Held p fr' out' (n :: l) ∧ Same p root (n :: l) m m') ∨
      (e = 9 ∧ fr = [] ∧ out = p.nodes ∧ Sm D σ σ' m 12) := by
  have g := P.good
  have g1 := g.f1; have g2 := g.f2; have g3 := g.n1; have g4 := g.r0
  obtain ⟨ra, rb⟩ := hA
  have s1 := sd_in r; have s2 := sd_in (!r); have s3 := sd_ne r
  unfold dPush
  refine wp_mark ?_
  refine wp_took S P hD (by omega) (fun n fr' out' σ1 m1 T hn hnf S1 P1 hm1 => ?_) fun σ1 e ho S1 => ?_
  rotate_left
  · rw [if_pos (by decide)]
    refine wp_undo S S1 (by decide) fun σ2 S2 => ?_
    exact .inr ⟨rfl, e, ho, S2.mono (by omega)⟩
  obtain ⟨hnl, H', ho', _⟩ := T.held P H
  have hp1 := P1.out1
  have hnn := hn
  obtain ⟨j, j0, j1, ej⟩ := hn
  have hnN : isN p n := ⟨j, j0, by omega, ej⟩
  rw [if_neg (by simp)]
  refine wp_get S1 (hRD _ s1.1 (by omega)) fun σ2 S2 => ?_
  have hen : m1 (root + sd r) = l.head?.getD 0 := by rw [hm1 _ (by omega) (by omega) (by omega)]; exact K.fwd.head
  have hD' : ∀ i, 0 ≤ i → i ≤ 7 → D (n + i) := hD.n n hnN
  refine wp_put S2 (hD' _ s1.1 (by omega)) ⟨by decide, by decide⟩ (by omega) fun σ3 S => ?_
  refine wp_put S (hD' _ s2.1 (by omega)) (S1.rg _) (by omega) fun σ4 S => ?_
  refine wp_put S (hD' 2 (by omega) (by omega)) hv (by omega) fun σ5 S => ?_
  -- the end of it
  have tail : ∀ (σ6 : Spc) (m6 : Int → Int) (c : Nat), c ≤ 8 → Sm D σ σ6 m6 c → (∀ a, (∀ i, 0 ≤ i → i ≤ 2 → a ≠ p.root + i) → a ≠ root + sd !r → a ≠ n + sd r → a ≠ n + sd !r → a ≠ n + 2 → (∀ x, l.head? = some x → a ≠ x + sd r) → m6 a = m a) →
      (∀ i, 0 ≤ i → i ≤ 2 → m6 (p.root + i) = m1 (p.root + i)) → m6 (n + sd r) = 0 → m6 (n + sd !r) = l.head?.getD 0 → m6 (n + 2) = v → (m6 (root + sd !r) = if l = [] then n else m (root + sd !r)) → (∀ x, l.head? = some x → m6 (x + sd r) = n) →
      wp (dPushT root n r) σ6 fun e σ' => (∃ n fr' out' m', e = 0 ∧ Took p fr out n fr' out' ∧ Sm D σ σ' m' 12 ∧ PoolR m' p fr' out' ∧ DQ m' root r (n :: l) (v :: vs) ∧ Held p fr' out' (n :: l) ∧ Same p root (n :: l) m m') ∨
        (e = 9 ∧ fr = [] ∧ out = p.nodes ∧ Sm D σ σ' m 12) := by
    intro σ6 m6 c hc S6 hm6 hp6 hn0 hn1 hn2 hr6 hx6
    unfold dPushT
    refine wp_put S6 (hRD _ s1.1 (by omega)) ⟨by omega, by omega⟩ (by omega) fun σ7 S => ?_
    refine wp_more S (hRD 2 (by omega) (by omega)) (by omega) fun σ8 S => ?_
    refine wp_more S (hRD 7 (by omega) (by omega)) (by omega) fun σ9 S => ?_
    refine wp_un0 ?_
    -- the nodes are apart
    have hidx : ∀ x ∈ l, ∃ i, 0 ≤ i ∧ i < out' ∧ i ≠ j ∧ x = p.frm + 8 * i := fun x hx => by
      obtain ⟨⟨i, i0, i1, e⟩, _⟩ := H' x hx
      exact ⟨i, i0, i1, fun h => hnl (by rw [ej, ← h, ← e]; exact hx), e⟩
    have hlen : (l.length : Int) ≤ 128 := by
      have := nodes_len (fun x hx => let ⟨i, a, b, _, d⟩ := hidx x hx; ⟨i, a, b, d⟩) K.nd P1.out0
      omega
    have e2 : m6 (root + 2) = l.length := by
      rw [hm6 _ (fun i h1 h2 => by omega) (by omega) (by omega) (by omega) (by omega) (fun x hx => by obtain ⟨i, _, _, _, e⟩ := hidx x (List.mem_of_head? hx); omega)]
      exact K.n2
    have e7 : m6 (root + 7) = l.length := by
      rw [hm6 _ (fun i h1 h2 => by omega) (by omega) (by omega) (by omega) (by omega) (fun x hx => by obtain ⟨i, _, _, _, e⟩ := hidx x (List.mem_of_head? hx); omega)]
      exact K.n7
    have e7' : upd (upd m6 (root + sd r) n) (root + 2) (w64 (upd m6 (root + sd r) n (root + 2) + 1)) (root + 7) = l.length := by
      rw [upd_ne _ _ (by omega), upd_ne _ _ (by omega)]; exact e7
    have e2' : upd m6 (root + sd r) n (root + 2) = l.length := by rw [upd_ne _ _ (by omega)]; exact e2
    rw [e7', e2', w64_R ⟨by omega, by omega⟩] at S
    -- what is where
    have at' : ∀ a, upd (upd (upd m6 (root + sd r) n) (root + 2) ((l.length : Int) + 1)) (root + 7) ((l.length : Int) + 1) a = if a = root + 7 then (l.length : Int) + 1 else if a = root + 2 then (l.length : Int) + 1 else if a = root + sd r then n else m6 a := fun a => rfl
    generalize upd (upd (upd m6 (root + sd r) n) (root + 2) ((l.length : Int) + 1)) (root + 7) ((l.length : Int) + 1) = m' at *
    have hf : ∀ a, (∀ i, 0 ≤ i → i ≤ 7 → a ≠ root + i) → m' a = m6 a := fun a ha => by
      rw [at', if_neg (ha 7 (by omega) (by omega)), if_neg (ha 2 (by omega) (by omega)), if_neg (ha _ s1.1 (by omega))]
    have hnode : ∀ x i, (∃ k, x = p.frm + 8 * k ∧ 0 ≤ k) → 0 ≤ i → i ≤ 7 → m' (x + i) = m6 (x + i) := fun x i ⟨k, e, k0⟩ i0 i1 => hf _ fun i' _ _ => by omega
    have hold : ∀ x ∈ l, ∀ i, 0 ≤ i → i ≤ 7 → (i = sd r → l.head? ≠ some x) → m' (x + i) = m (x + i) := fun x hx i i0 i1 hi => by
      obtain ⟨k, k0, k1, kj, e⟩ := hidx x hx
      rw [hnode x i ⟨k, e, k0⟩ i0 i1]
      refine hm6 _ (fun i' _ _ => by omega) (by omega) (by omega) (by omega) (by omega) fun y hy => ?_
      obtain ⟨k', k0', k1', kj', e'⟩ := hidx y (List.mem_of_head? hy)
      intro h
      have : k = k' := by omega
      subst this
      exact hi (by omega) (by rw [hy, e, e'])
    refine .inl ⟨n, fr', out', m', rfl, T, S.mono (by omega), ?_, ⟨?_, ?_, ?_, ?_, ?_, List.nodup_cons.2 ⟨hnl, K.nd⟩⟩, ?_, ?_⟩
    · refine P1.ext fun a ha => ?_
      have h6 : m' a = m6 a := hf a fun i i0 i1 => by
        rcases ha with h | h | h | h
        · omega
        · omega
        · omega
        · obtain ⟨k, k0, k1, e⟩ := P1.fN a h; omega
      rw [h6]
      rcases ha with h | h | h | h
      · have := hp6 0 (by omega) (by omega); rw [Int.add_zero] at this; rw [h]; exact this
      · rw [h]; exact hp6 1 (by omega) (by omega)
      · rw [h]; exact hp6 2 (by omega) (by omega)
      · obtain ⟨k, k0, k1, e⟩ := P1.fN a h
        have hkj : k ≠ j := fun hk => hnf (by rw [ej, ← hk, ← e]; exact h)
        rw [hm6 a (fun i _ _ => by omega) (by omega) (by omega) (by omega) (by omega) fun y hy => ?_, hm1 a (by omega) (by omega) (by omega)]
        obtain ⟨k', k0', k1', kj', e'⟩ := hidx y (List.mem_of_head? hy)
        intro h2
        have : k = k' := by omega
        exact (H' y (List.mem_of_head? hy)).2 (by rw [e', ← this, ← e]; exact h)
    · rw [at', if_neg (by omega), if_neg (by omega), if_pos rfl]
      refine ⟨rfl, ?_⟩
      rw [hnode n _ ⟨j, ej, j0⟩ s2.1 (by omega), hn1, ← K.fwd.head]
      exact K.fwd.ext fun x hx => hold x hx _ s2.1 (by omega) fun e => absurd e.symm s3
    · rw [List.reverse_cons]
      cases hll : l with
      | nil =>
        rw [at', if_neg (by omega), if_neg (by omega), if_neg (by omega), hr6, if_pos hll]
        exact ⟨rfl, by show m' (n + sd r) = 0; rw [hnode n _ ⟨j, ej, j0⟩ s1.1 (by omega)]; exact hn0⟩
      | cons y l2 =>
        rw [at', if_neg (by omega), if_neg (by omega), if_neg (by omega), hr6, if_neg (by rw [hll]; simp), ← hll]
        refine Lk.snoc K.bwd (fun x hx => ?_) (nd_rev K.nd) ?_ (fun e => ?_) (by rw [hll]; simp)
        · rw [List.getLast?_reverse]
          by_cases e : l.head? = some x
          · rw [if_pos e.symm]
            obtain ⟨k, k0, k1, kj, e'⟩ := hidx x (List.mem_reverse.1 hx)
            rw [hnode x _ ⟨k, e', k0⟩ s1.1 (by omega)]
            exact hx6 x e
          · rw [if_neg (fun h => e h.symm)]
            exact hold x (List.mem_reverse.1 hx) _ s1.1 (by omega) fun _ => e
        · rw [hnode n _ ⟨j, ej, j0⟩ s1.1 (by omega)]; exact hn0
        · rw [hll] at e; simp at e
    · rw [List.map_cons, hnode n 2 ⟨j, ej, j0⟩ (by omega) (by omega), hn2, K.val]
      congr 1
      exact List.map_congr_left fun x hx => (hold x hx 2 (by omega) (by omega) fun e => by omega).symm
    · rw [at', if_neg (by omega), if_pos rfl]; simp
    · rw [at', if_pos rfl]; simp
    · intro x hx
      rcases List.mem_cons.1 hx with rfl | hx
      · exact ⟨hnn, hnf⟩
      · exact H' x hx
    · intro a ha1 ha2 ha3
      rw [hf a ha2]
      refine hm6 a ha1 (ha2 _ s2.1 (by omega)) (ha3 n (List.mem_cons_self ..) _ s1.1 (by omega)) (ha3 n (List.mem_cons_self ..) _ s2.1 (by omega)) (ha3 n (List.mem_cons_self ..) 2 (by omega) (by omega)) fun x hx => ha3 x (List.mem_cons_of_mem _ (List.mem_of_head? hx)) _ s1.1 (by omega)
  rw [hen] at S ⊢
  have hx0 : ∀ x, l.head? = some x → ∃ i, 0 ≤ i ∧ i < out' ∧ i ≠ j ∧ x = p.frm + 8 * i := fun x hx => by
    obtain ⟨⟨i, i0, i1, e⟩, _⟩ := H' x (List.mem_of_head? hx)
    exact ⟨i, i0, i1, fun h => hnl (by rw [ej, ← h, ← e]; exact List.mem_of_head? hx), e⟩
  cases hll : l with
  | nil =>
    rw [show (([] : List Int).head?.getD 0) = 0 from rfl, if_pos rfl]
    rw [hll] at S
    refine wp_put S (hRD _ s2.1 (by omega)) ⟨by omega, by omega⟩ (by omega) fun σ6 S => ?_
    rw [hll] at tail
    refine tail σ6 _ _ (by omega) S (fun a a1 a2 a3 a4 a5 _ => ?_) (fun i i0 i1 => ?_) ?_ ?_ ?_ ?_ (fun x hx => by cases hx)
    · rw [upd_ne _ _ a2, upd_ne _ _ a5, upd_ne _ _ a4, upd_ne _ _ a3]
      have b0 := a1 0 (by omega) (by omega); have b1 := a1 1 (by omega) (by omega); have b2 := a1 2 (by omega) (by omega)
      exact hm1 a (by omega) b1 b2
    · rw [upd_ne _ _ (by omega), upd_ne _ _ (by omega), upd_ne _ _ (by omega), upd_ne _ _ (by omega)]
    · rw [upd_ne _ _ (by omega), upd_ne _ _ (by omega), upd_ne _ _ (by omega), upd_eq]
    · rw [upd_ne _ _ (by omega), upd_ne _ _ (by omega), upd_eq]
    · rw [upd_ne _ _ (by omega), upd_eq]
    · rw [upd_eq, if_pos rfl]
  | cons x l2 =>
    rw [hll] at S hx0 tail
    obtain ⟨i, i0, i1, hij, e⟩ := hx0 x rfl
    have hxN : isN p x := ⟨i, i0, by omega, e⟩
    rw [show ((x :: l2).head?.getD 0) = x from rfl, if_neg (by omega), if_pos (isN_node g hxN)]
    refine wp_put S (hD.n x hxN _ s1.1 (by omega)) ⟨by omega, by omega⟩ (by omega) fun σ6 S => ?_
    refine tail σ6 _ _ (by omega) S (fun a a1 a2 a3 a4 a5 a6 => ?_) (fun i i0 i1 => ?_) ?_ ?_ ?_ ?_ (fun y hy => ?_)
    · rw [upd_ne _ _ (a6 x rfl), upd_ne _ _ a5, upd_ne _ _ a4, upd_ne _ _ a3]
      have b0 := a1 0 (by omega) (by omega); have b1 := a1 1 (by omega) (by omega); have b2 := a1 2 (by omega) (by omega)
      exact hm1 a (by omega) b1 b2
    · rw [upd_ne _ _ (by omega), upd_ne _ _ (by omega), upd_ne _ _ (by omega), upd_ne _ _ (by omega)]
    · rw [upd_ne _ _ (by omega), upd_ne _ _ (by omega), upd_ne _ _ (by omega), upd_eq]
    · rw [upd_ne _ _ (by omega), upd_ne _ _ (by omega), upd_eq]
      try rfl
    · rw [upd_ne _ _ (by omega), upd_eq]
    · rw [upd_ne _ _ (by omega), upd_ne _ _ (by omega), upd_ne _ _ (by omega), upd_ne _ _ (by omega), if_neg (by simp)]
      exact hm1 _ (by omega) (by omega) (by omega)
    · have hy : x = y := by simpa using hy
      subst hy
      rw [upd_eq]

theorem wp_dPop (S : Sm D σ σ m 0) (P : PoolR m p fr out) (hD : PoolD D p) (hRD : RootD D root) (hA : RA p root) (K : DQ m root r l vs) (H : Held p fr out l) (hl : σ.pu.length + 20 ≤ big) :
    wp (dPop p root r) σ fun e σ' => (∃ n l' v vs' m', l = n :: l' ∧ vs = v :: vs' ∧ e = (v, 0) ∧ Sm D σ σ' m' 12 ∧ PoolR m' p (n :: fr) out ∧ DQ m' root r l' vs' ∧ Held p (n :: fr) out l' ∧ Same p root (n :: l') m m') ∨
      (e = (0, 8) ∧ l = [] ∧ vs = [] ∧ Sm D σ σ' m 12) := by
  have g := P.good
  have g1 := g.f1; have g2 := g.f2; have g3 := g.n1; have g4 := g.r0
  have hp1 := P.out1
  obtain ⟨ra, rb⟩ := hA
  have s1 := sd_in r; have s2 := sd_in (!r); have s3 := sd_ne r
  unfold dPop
  refine wp_mark ?_
  refine wp_get S (hRD _ s1.1 (by omega)) fun σ1 S1 => ?_
  cases l with
  | nil =>
    have e0 : m (root + sd r) = 0 := K.fwd
    rw [e0, if_pos rfl]
    refine wp_undo S S1 (by decide) fun σ2 S2 => ?_
    exact .inr ⟨rfl, rfl, by rw [K.val]; rfl, S2.mono (by omega)⟩
  | cons n l' =>
  have hne := K.fwd.1
  obtain ⟨hnl, hnd'⟩ := List.nodup_cons.1 K.nd
  obtain ⟨hnn, hnf⟩ := H n (List.mem_cons_self ..)
  have hnn' := hnn
  obtain ⟨j, j0, j1, ej⟩ := hnn
  have hnN : isN p n := ⟨j, j0, by omega, ej⟩
  have hidx : ∀ x ∈ l', ∃ i, 0 ≤ i ∧ i < out ∧ i ≠ j ∧ x = p.frm + 8 * i := fun x hx => by
    obtain ⟨⟨i, i0, i1, e⟩, _⟩ := H x (List.mem_cons_of_mem _ hx)
    exact ⟨i, i0, i1, fun h => hnl (by rw [ej, ← h, ← e]; exact hx), e⟩
  have hD' : ∀ i, 0 ≤ i → i ≤ 7 → D (n + i) := hD.n n hnN
  rw [hne, if_neg (by omega), if_pos (isN_node g hnN)]
  refine wp_get S1 (hD' _ s2.1 (by omega)) fun σ2 S2 => ?_
  have hnx : m (n + sd !r) = l'.head?.getD 0 := K.fwd.2.head
  have hlen : ((n :: l').length : Int) ≤ 128 := by
    have := nodes_len (fun x hx => (H x hx).1) K.nd P.out0
    omega
  -- the end of it
  have tail : ∀ (σ6 : Spc) (m6 : Int → Int) (c : Nat), c ≤ 2 → Sm D σ σ6 m6 c → (∀ a, a ≠ root + sd !r → (∀ x, l'.head? = some x → a ≠ x + sd r) → m6 a = m a) →
      (m6 (root + sd !r) = if l' = [] then 0 else m (root + sd !r)) → (∀ x, l'.head? = some x → m6 (x + sd r) = 0) →
      wp (dPopT p root n (l'.head?.getD 0) σ.pu.length r) σ6 fun e σ' => (∃ n0 l0 v vs' m', n :: l' = n0 :: l0 ∧ vs = v :: vs' ∧ e = (v, 0) ∧ Sm D σ σ' m' 12 ∧ PoolR m' p (n0 :: fr) out ∧ DQ m' root r l0 vs' ∧ Held p (n0 :: fr) out l0 ∧ Same p root (n0 :: l0) m m') ∨
        (e = (0, 8) ∧ n :: l' = [] ∧ vs = [] ∧ Sm D σ σ' m 12) := by
    intro σ6 m6 c hc S6 hm6 hr6 hx6
    unfold dPopT
    have hhd : R64 (l'.head?.getD 0) := by rw [← hnx]; exact S.rg _
    refine wp_put S6 (hRD _ s1.1 (by omega)) hhd (by omega) fun σ7 S => ?_
    refine wp_more S (hRD 2 (by omega) (by omega)) (by omega) fun σ8 S => ?_
    refine wp_more S (hRD 7 (by omega) (by omega)) (by omega) fun σ9 S => ?_
    refine wp_get S (hD' 2 (by omega) (by omega)) fun σ10 S => ?_
    have e2 : m6 (root + 2) = (n :: l').length := by
      rw [hm6 _ (by omega) (fun x hx => by obtain ⟨i, _, _, _, e⟩ := hidx x (List.mem_of_head? hx); omega)]
      exact K.n2
    have e7 : m6 (root + 7) = (n :: l').length := by
      rw [hm6 _ (by omega) (fun x hx => by obtain ⟨i, _, _, _, e⟩ := hidx x (List.mem_of_head? hx); omega)]
      exact K.n7
    have e7' : upd (upd m6 (root + sd r) (l'.head?.getD 0)) (root + 2) (w64 (upd m6 (root + sd r) (l'.head?.getD 0) (root + 2) + -1)) (root + 7) = (n :: l').length := by
      rw [upd_ne _ _ (by omega), upd_ne _ _ (by omega)]; exact e7
    have e2' : upd m6 (root + sd r) (l'.head?.getD 0) (root + 2) = (n :: l').length := by rw [upd_ne _ _ (by omega)]; exact e2
    have hlc : ((n :: l').length : Int) + -1 = l'.length := by simp only [List.length_cons]; omega
    rw [e7', e2', hlc, w64_R ⟨by omega, by simp only [List.length_cons] at hlen; omega⟩] at S ⊢
    have at' : ∀ a, upd (upd (upd m6 (root + sd r) (l'.head?.getD 0)) (root + 2) (l'.length : Int)) (root + 7) (l'.length : Int) a = if a = root + 7 then (l'.length : Int) else if a = root + 2 then (l'.length : Int) else if a = root + sd r then l'.head?.getD 0 else m6 a := fun a => rfl
    generalize upd (upd (upd m6 (root + sd r) (l'.head?.getD 0)) (root + 2) (l'.length : Int)) (root + 7) (l'.length : Int) = m7 at *
    have hf : ∀ a, (∀ i, 0 ≤ i → i ≤ 7 → a ≠ root + i) → m7 a = m6 a := fun a ha => by
      rw [at', if_neg (ha 7 (by omega) (by omega)), if_neg (ha 2 (by omega) (by omega)), if_neg (ha _ s1.1 (by omega))]
    have hnode : ∀ x i, (∃ k, x = p.frm + 8 * k ∧ 0 ≤ k) → 0 ≤ i → i ≤ 7 → m7 (x + i) = m6 (x + i) := fun x i ⟨k, e, k0⟩ i0 i1 => hf _ fun i' _ _ => by omega
    have hold : ∀ x, (∃ k, 0 ≤ k ∧ x = p.frm + 8 * k) → ∀ i, 0 ≤ i → i ≤ 7 → (i = sd r → l'.head? ≠ some x) → m7 (x + i) = m (x + i) := fun x ⟨k, k0, e⟩ i i0 i1 hi => by
      rw [hnode x i ⟨k, e, k0⟩ i0 i1]
      refine hm6 _ (by omega) fun y hy => ?_
      obtain ⟨k', k0', k1', kj', e'⟩ := hidx y (List.mem_of_head? hy)
      intro h
      have : k = k' := by omega
      subst this
      exact hi (by omega) (by rw [hy, e, e'])
    have hv : m7 (n + 2) = m (n + 2) := hold n ⟨j, j0, ej⟩ 2 (by omega) (by omega) fun e => by omega
    rw [hv]
    have P7 : PoolR m7 p fr out := P.ext fun a ha => by
      have h6 : m7 a = m6 a := hf a fun i i0 i1 => by
        rcases ha with h | h | h | h
        · omega
        · omega
        · omega
        · obtain ⟨k, k0, k1, e⟩ := P.fN a h; omega
      rw [h6]
      refine hm6 a ?_ fun y hy => ?_
      · rcases ha with h | h | h | h
        · omega
        · omega
        · omega
        · obtain ⟨k, k0, k1, e⟩ := P.fN a h; omega
      · obtain ⟨k', k0', k1', kj', e'⟩ := hidx y (List.mem_of_head? hy)
        rcases ha with h | h | h | h
        · omega
        · omega
        · omega
        · obtain ⟨k, k0, k1, e⟩ := P.fN a h
          intro h2
          have : k = k' := by omega
          exact (H y (List.mem_cons_of_mem _ (List.mem_of_head? hy))).2 (by rw [e', ← this, ← e]; exact h)
    refine wp_give S P7 hD (by omega) ej ⟨j0, j1⟩ hnf fun σ11 m' S P' hm' => ?_
    rw [if_neg (by simp)]
    refine wp_un0 ?_
    have hvs : vs = m (n + 2) :: l'.map fun x => m (x + 2) := K.val
    have hf' : ∀ a, a ≠ p.root → a ≠ p.root + 2 → a ≠ n → m' a = m7 a := hm'
    have hroot : ∀ i, 0 ≤ i → i ≤ 7 → m' (root + i) = m7 (root + i) := fun i i0 i1 => hf' _ (by omega) (by omega) (by omega)
    have hl' : ∀ x ∈ l', ∀ i, 0 ≤ i → i ≤ 7 → m' (x + i) = m7 (x + i) := fun x hx i i0 i1 => by
      obtain ⟨k, k0, k1, kj, e⟩ := hidx x hx
      exact hf' _ (by omega) (by omega) (by omega)
    refine .inl ⟨n, l', m (n + 2), l'.map fun x => m (x + 2), m', rfl, hvs, rfl, S.mono (by omega), P', ⟨?_, ?_, ?_, ?_, ?_, hnd'⟩, ?_, ?_⟩
    · rw [hroot _ s1.1 (by omega), at', if_neg (by omega), if_neg (by omega), if_pos rfl, ← hnx]
      refine K.fwd.2.ext fun x hx => ?_
      obtain ⟨k, k0, k1, kj, e⟩ := hidx x hx
      rw [hl' x hx _ s2.1 (by omega)]
      exact hold x ⟨k, k0, e⟩ _ s2.1 (by omega) fun e => absurd e.symm s3
    · rw [hroot _ s2.1 (by omega), at', if_neg (by omega), if_neg (by omega), if_neg (by omega), hr6]
      cases hll : l' with
      | nil => rw [if_pos rfl]; rfl
      | cons y l2 =>
        rw [if_neg (by simp), ← hll]
        have hb := K.bwd
        rw [List.reverse_cons] at hb
        refine Lk.unsnoc hb (fun x hx => ?_) (by rw [← List.reverse_cons]; exact nd_rev K.nd) (by rw [hll]; simp)
        have hx := List.mem_reverse.1 hx
        obtain ⟨k, k0, k1, kj, e⟩ := hidx x hx
        rw [hl' x hx _ s1.1 (by omega), List.getLast?_reverse]
        by_cases e' : l'.head? = some x
        · rw [if_pos e'.symm, hnode x _ ⟨k, e, k0⟩ s1.1 (by omega)]
          exact hx6 x e'
        · rw [if_neg (fun h => e' h.symm)]
          exact hold x ⟨k, k0, e⟩ _ s1.1 (by omega) fun _ => e'
    · exact List.map_congr_left fun x hx => by
        obtain ⟨k, k0, k1, kj, e⟩ := hidx x hx
        rw [hl' x hx 2 (by omega) (by omega)]
        exact (hold x ⟨k, k0, e⟩ 2 (by omega) (by omega) fun e => by omega).symm
    · rw [hroot 2 (by omega) (by omega), at', if_neg (by omega), if_pos rfl]
    · rw [hroot 7 (by omega) (by omega), at', if_pos rfl]
    · intro x hx
      obtain ⟨h1, h2⟩ := H x (List.mem_cons_of_mem _ hx)
      refine ⟨h1, fun hm => ?_⟩
      rcases List.mem_cons.1 hm with e | hm
      · exact hnl (e ▸ hx)
      · exact h2 hm
    · intro a ha1 ha2 ha3
      have b0 := ha1 0 (by omega) (by omega)
      have b3 := ha3 n (List.mem_cons_self ..) 0 (by omega) (by omega)
      rw [hf' a (by omega) (ha1 2 (by omega) (by omega)) (by omega), hf a ha2]
      exact hm6 a (ha2 _ s2.1 (by omega)) fun x hx => ha3 x (List.mem_cons_of_mem _ (List.mem_of_head? hx)) _ s1.1 (by omega)
  rw [hnx]
  cases hll : l' with
  | nil =>
    rw [show (([] : List Int).head?.getD 0) = 0 from rfl, if_pos rfl]
    refine wp_put S2 (hRD _ s2.1 (by omega)) ⟨by decide, by decide⟩ (by omega) fun σ6 S => ?_
    rw [hll] at tail
    refine tail σ6 _ _ (by omega) S (fun a a1 _ => upd_ne _ _ a1) ?_ (fun x hx => by cases hx)
    rw [upd_eq, if_pos rfl]
  | cons x l2 =>
    rw [hll] at hidx tail
    obtain ⟨i, i0, i1, hij, e⟩ := hidx x (List.mem_cons_self ..)
    have hxN : isN p x := ⟨i, i0, by omega, e⟩
    rw [show ((x :: l2).head?.getD 0) = x from rfl, if_neg (by omega), if_pos (isN_node g hxN)]
    refine wp_put S2 (hD.n x hxN _ s1.1 (by omega)) ⟨by decide, by decide⟩ (by omega) fun σ6 S => ?_
    refine tail σ6 _ _ (by omega) S (fun a a1 a2 => upd_ne _ _ (a2 x rfl)) ?_ (fun y hy => ?_)
    · rw [upd_ne _ _ (by omega), if_neg (by simp)]
    · have hy : x = y := by simpa using hy
      subst hy
      rw [upd_eq]
theorem wp_dPeek (S : Sm D σ σ m 0) (P : PoolR m p fr out) (hD : PoolD D p) (hRD : RootD D root) (K : DQ m root r l vs) (H : Held p fr out l) :
    wp (dPeek root r) σ fun e σ' => Sm D σ σ' m 0 ∧ ((∃ v vs', vs = v :: vs' ∧ e = (v, 0)) ∨ (vs = [] ∧ e = (0, 8))) := by
  have s1 := sd_in r
  have g := P.good
  have g1 := g.f1
  have hp1 := P.out1
  unfold dPeek
  refine wp_get S (hRD _ s1.1 (by omega)) fun σ1 S1 => ?_
  cases l with
  | nil =>
    have e0 : m (root + sd r) = 0 := K.fwd
    rw [e0, if_pos rfl]
    exact ⟨S1, .inr ⟨K.val, rfl⟩⟩
  | cons n l' =>
    obtain ⟨⟨j, j0, j1, ej⟩, _⟩ := H n (List.mem_cons_self ..)
    have hnN : isN p n := ⟨j, j0, by omega, ej⟩
    have g2 := g.f2; have g3 := g.n1
    rw [K.fwd.1, if_neg (by omega), w64_R ⟨by omega, by omega⟩]
    refine wp_get S1 (hD.n n hnN 2 (by omega) (by omega)) fun σ2 S2 => ?_
    exact ⟨S2, .inl ⟨_, _, K.val, rfl⟩⟩
theorem wp_dLoop (g : p.good) (hD : PoolD D p) : ∀ (l : List Int) (k : Nat) (a : Int) (acc : List Int) (σ' : Spc), Sm D σ σ' m c → Lk m (sd !r) a l → (∀ x ∈ l, isN p x) → l.length ≤ k →
    wp (dLoop p r k a acc) σ' fun o σ2 => o = some (acc ++ l.map fun x => m (x + 2)) ∧ Sm D σ σ2 m c
  | [], k, a, acc, σ', S, h, _, _ => by
    have e : a = 0 := h
    cases k with
    | zero => unfold dLoop; rw [if_pos e]; exact ⟨by simp, S⟩
    | succ k => unfold dLoop; rw [if_pos e]; exact ⟨by simp, S⟩
  | x :: l, k, a, acc, σ', S, h, hN, hl => by
    have s2 := sd_in (!r)
    obtain ⟨rfl, h⟩ := h
    have hx := hN a (List.mem_cons_self ..)
    have hp := isN_pos g hx
    cases k with
    | zero => simp at hl
    | succ k =>
      unfold dLoop
      rw [if_neg (by omega), if_pos (isN_node g hx)]
      refine wp_get S (hD.n a hx 2 (by omega) (by omega)) fun σ1 S => ?_
      refine wp_get S (hD.n a hx _ s2.1 (by omega)) fun σ2 S => ?_
      refine Prog.wp_mono (wp_dLoop g hD l k _ _ _ S h (fun y hy => hN y (List.mem_cons_of_mem _ hy)) (by simpa using hl)) fun o σ3 ⟨e, S⟩ => ⟨by rw [e, List.append_assoc]; rfl, S⟩
theorem wp_dWalk (S : Sm D σ σ m 0) (P : PoolR m p fr out) (hD : PoolD D p) (hRD : RootD D root) (K : DQ m root r l vs) (H : Held p fr out l) : wp (dWalk p root r) σ fun o σ' => o = some vs ∧ Sm D σ σ' m 0 := by
  have s1 := sd_in r
  have hp1 := P.out1
  unfold dWalk
  refine wp_get S (hRD _ s1.1 (by omega)) fun σ1 S1 => ?_
  have hlen := nodes_len (fun x hx => (H x hx).1) K.nd P.out0
  refine Prog.wp_mono (wp_dLoop P.good hD l _ _ [] _ S1 K.fwd (fun x hx => by obtain ⟨⟨i, i0, i1, e⟩, _⟩ := H x hx; exact ⟨i, i0, by omega, e⟩) (by omega)) fun o σ2 ⟨e, S⟩ => ⟨by rw [e, K.val]; rfl, S⟩
end
end Go.En
namespace Go.En
open Prog Spc Go.Sort

variable {S : Sys} {I : Ids} {h h0 h' : Hp} {F F0 : Fp} {R : Value → Hp → Prop} {L : List Res} {s : Value} {σ τ : Spc}

theorem K_side {r : Bool} : ∀ h R, Cx (fun _ => False) h h [] → (∀ h' M, Cx (fun _ => False) h h' M → R (.int .i64 (sd r)) h') → F_deque_side S I (.bool r) h R := by
  intro h R c hR
  unfold F_deque_side
  cases r with
  | true => rw [br_true]; exact hR _ _ c
  | false => rw [br_false]; exact hR _ _ c
theorem K_dIs {p : Pl} {a : Int} (ha : R64 a) (cs : CsT S I) : ∀ h R, Cx (fun _ => False) h h [] → (∀ h' M, Cx (fun _ => False) h h' M → R (.bool (p.node a).isSome) h') → F_deque_is S I (vP p) (.int .i64 a) h R := by
  intro h R c hR
  unfold F_deque_is
  refine c.nw EPl p rfl fun r h1 c => ?_
  rw [plA (i := 0) c rfl, vb_some]
  refine c.pur (cs.node ha) fun h2 c => ?_
  unfold vN
  exact ext0t (ext1t (hR _ _ c))
theorem K_dMore {a n : Int} (cs : CsT S I) : ∀ h0 F σ R Q, Cx F h0 h0 [rSpace s σ] → wp (dMore a n) σ Q → (∀ a σ' h' M, Cx F h0 h' (rSpace s σ' :: M) → Q a σ' → R (uU a) h') → F_deque_more S I s (.int .i64 a) (.int .i64 n) h0 R := by
  intro h0 F σ R Q c hp hR
  unfold F_deque_more
  unfold dMore at hp
  refine c.does cs.get 0 rfl hp fun v σ h1 c hp => ?_
  unfold uI
  rw [bin_addw, vb_some]
  refine c.last cs.put 0 rfl hp fun _ σ h2 c hq => ?_
  exact hR _ _ _ [] c hq
theorem K_dUndo (cs : CsT S I) {r : Nat} {e m : Int} {R : Hp → Prop} (a : (rSpace s σ).P h F) (hv : Va EI1 h r e) (hR : ∀ h' F', (rSpace s (if e ≠ 0 then σ.back m else σ)).P h' F' → Mv F h F' h' → R h') :
    F_deque_undo S I s (.int .i64 m) (at0 r) h fun _ h => R h := by
  unfold F_deque_undo
  refine nckb ?_
  rw [hv.one rfl]
  simp only [go_sem]
  refine brd (fun h1 => ?_) fun h1 => ?_
  · rw [if_pos h1] at hR
    have c := Cx.start a
    exact c.last cs.back 0 rfl (Q := fun _ σ' => σ' = σ.back m) rfl fun _ σ' h' c e => let ⟨F', a', m⟩ := c.fin; hR _ _ (e ▸ a') m
  · rw [if_neg h1] at hR
    exact hR _ _ a (.refl _ _)
structure CsD1 (S : Sys) (I : Ids) : Prop extends CsT S I where
  side : ∀ {r : Bool}, Pur S I.f_deque_side [.bool r] (.int .i64 (sd r))
  dis : ∀ {p : Pl} {a : Int}, R64 a → Pur S I.f_deque_is [vP p, .int .i64 a] (.bool (p.node a).isSome)
  dmore : ∀ {a n : Int} {s}, Does S I.f_deque_more [s, .int .i64 a, .int .i64 n] s (dMore a n) uU
  dundo : ∀ {s h F σ r} {e m : Int} {R : Hp → Prop}, (rSpace s σ).P h F → Va EI1 h r e → (∀ h' F', (rSpace s (if e ≠ 0 then σ.back m else σ)).P h' F' → Mv F h F' h' → R h') → S.D I.f_deque_undo [s, .int .i64 m, at0 r] h R
theorem Cx.dundo {β : Type} {r : Nat} {e m : Int} {R : Hp → Prop} {q : Unit → Prog β} {Q : β → Spc → Prop} (cs : CsD1 S I) (c : Cx F0 h0 h L) (i : Nat) (hi : L[i]? = some (rSpace s σ)) (j : Nat) (hj : L[j]? = some (rVar EI1 r e))
    (hp : wp (dUn e m >>= q) σ Q) (k : ∀ σ' h', Cx F0 h0 h' (L.set i (rSpace s σ')) → wp (q ()) σ' Q → R h') : S.D I.f_deque_undo [s, .int .i64 m, at0 r] h R := by
  obtain ⟨F, a, up⟩ := c.upd hi
  refine cs.dundo a (c.va hj) fun h' F' a' mv => k _ _ (up a' mv) ?_
  rw [Prog.wp_bind] at hp
  unfold dUn at hp
  split at hp
  · rename_i he; rw [if_pos he]; exact hp
  · rename_i he; rw [if_neg he]; exact hp
theorem dUn0 (m m' : Int) : dUn 0 m = dUn 0 m' := rfl
theorem addI {a b : Int} (h : R64 (a + b)) : bin .add (.int .i64 a) (.int .i64 b) = some (.int .i64 (a + b)) := by rw [bin_add, wr64 h]
theorem uno_nb (r : Bool) : uno .not (.bool r) = some (.bool !r) := rfl

theorem K_dPush {p : Pl} {root v : Int} {r : Bool} (cs : CsD1 S I) (hr : 0 ≤ root ∧ root ≤ 1000000) (hv : R64 v) :
    ∀ h0 F σ R Q, Cx F h0 h0 [rSpace s σ] → wp (dPush p root r v) σ Q → (∀ a σ' h' M, Cx F h0 h' (rSpace s σ' :: M) → Q a σ' → R (uI a) h') → F_deque_Push S I s (vP p) (.int .i64 root) (.bool r) (.int .i64 v) h0 R := by
  intro h0 F σ R Q c hp hR
  have s1 := sd_in r; have s2 := sd_in (!r)
  unfold F_deque_Push
  unfold dPush at hp
  refine c.nw EPl p rfl fun rp h1 c => ?_
  refine c.nw EI1 0 rfl fun re h1 c => ?_
  refine c.doesE cs.mark Ens.mk 0 rfl hp fun m σ h1 hm c hp => ?_
  rw [plA (i := 1) c rfl, vb_some]
  refine c.doesE cs.take (Ens.take p) 0 rfl hp fun t σ h1 hE c hp => ?_
  unfold uE
  refine ext0t (ext1t ?_)
  refine c.sto1 2 rfl t.2 rfl rfl fun h1 c => ?_
  rw [(c.va (i := 2) rfl).one rfl, vb_some, bin_neq, vb_some]
  refine brd (fun h3 => ?_) fun h3 => ?_
  · rw [if_pos h3] at hp
    rw [vb_some]
    refine c.sto1 2 rfl t.2 rfl rfl fun h4 c => ?_
    refine c.dundo cs 0 rfl 2 rfl hp fun σ h5 c hp => ?_
    rw [(c.va (i := 2) rfl).one rfl, vb_some]
    exact hR _ _ _ _ c hp
  · rw [if_neg h3] at hp
    have hnode : (p.node t.1).isSome = true := by
      rcases hE with h | h
      · exact h.2
      · rcases h.2 with h | h | h <;> omega
    obtain ⟨nn, hnn⟩ := Option.isSome_iff_exists.1 hnode
    have hlt := node_lt hnn
    refine c.pur cs.side fun h4 c => ?_
    rw [uno_nb, vb_some]
    refine c.pur cs.side fun h5 c => ?_
    refine vb (addI ⟨by omega, by omega⟩) ?_
    refine c.doesE cs.get (Ens.gt _) 0 rfl hp fun en σ h1 hen c hp => ?_
    unfold uI
    refine vb (addI ⟨by omega, by omega⟩) ?_
    refine c.does cs.put 0 rfl hp fun _ σ h1 c hp => ?_
    refine vb (addI ⟨by omega, by omega⟩) ?_
    refine c.does cs.put 0 rfl hp fun _ σ h1 c hp => ?_
    refine vb (addI ⟨by omega, by omega⟩) ?_
    refine c.does cs.put 0 rfl hp fun _ σ h1 c hp => ?_
    refine Jn0.at (fun h => ∃ (σ : Spc) (e : Int), Cx F h0 h [rSpace s σ, rVar EPl rp p, rVar EI1 re e] ∧ wp (dPushT root t.1 r) σ Q) ?_ ?_
    · rw [bin_eql, vb_some]
      refine brd (fun h4 => ?_) fun h4 => ?_
      · rw [if_pos h4] at hp
        refine vb (addI ⟨by omega, by omega⟩) ?_
        refine c.does cs.put 0 rfl hp fun _ σ h1 c hp => ?_
        exact ⟨σ, _, c, hp⟩
      · rw [if_neg h4] at hp
        rw [plA (i := 1) c rfl, vb_some]
        refine c.pur (cs.dis hen) fun h1 c => ?_
        rw [uno_nb, vb_some]
        cases hn : p.node en with
        | none =>
          rw [hn] at hp
          rw [if_neg (by simp)] at hp
          rw [Option.isSome_none, Bool.not_false, br_true]
          refine c.sto1 2 rfl 24 rfl rfl fun h1 c => ?_
          refine c.dundo cs 0 rfl 2 rfl hp fun σ h5 c hp => ?_
          rw [(c.va (i := 2) rfl).one rfl, vb_some]
          exact hR _ _ _ _ c hp
        | some n =>
          have := node_lt hn
          rw [hn] at hp
          rw [if_pos (by rfl)] at hp
          rw [Option.isSome_some, Bool.not_true, br_false]
          refine vb (addI ⟨by omega, by omega⟩) ?_
          refine c.does cs.put 0 rfl hp fun _ σ h1 c hp => ?_
          exact ⟨σ, _, c, hp⟩
    · rintro h1 ⟨σ, e, c, hp⟩
      unfold dPushT at hp
      refine vb (addI ⟨by omega, by omega⟩) ?_
      refine c.does cs.put 0 rfl hp fun _ σ h1 c hp => ?_
      refine vb (addI ⟨by omega, by omega⟩) ?_
      refine c.does cs.dmore 0 rfl hp fun _ σ h1 c hp => ?_
      refine vb (addI ⟨by omega, by omega⟩) ?_
      refine c.does cs.dmore 0 rfl hp fun _ σ h1 c hp => ?_
      refine c.sto1 2 rfl 0 rfl rfl fun h1 c => ?_
      rw [dUn0 0 m] at hp
      refine c.dundo cs 0 rfl 2 rfl hp fun σ h5 c hp => ?_
      rw [(c.va (i := 2) rfl).one rfl, vb_some]
      exact hR _ _ _ _ c hp

theorem ens_give (p : Pl) (a : Int) : Ens (pGive p a) fun e => (e = 0 ∧ (p.node a).isSome = true) ∨ (e = 1 ∧ (p.node a).isSome = false) := by
  unfold pGive
  refine .ite (fun h => .then fun _ => .then fun _ => .then fun _ => .then fun _ => .pure (.inl ⟨rfl, h⟩)) fun h => .pure (.inr ⟨rfl, by simpa using h⟩)
theorem K_dPop {p : Pl} {root : Int} {r : Bool} (cs : CsD1 S I) (hr : 0 ≤ root ∧ root ≤ 1000000) :
    ∀ h0 F σ R Q, Cx F h0 h0 [rSpace s σ] → wp (dPop p root r) σ Q → (∀ a σ' h' M, Cx F h0 h' (rSpace s σ' :: M) → Q a σ' → R (uE a) h') → F_deque_Pop S I s (vP p) (.int .i64 root) (.bool r) h0 R := by
  intro h0 F σ R Q c hp hR
  have s1 := sd_in r; have s2 := sd_in (!r)
  unfold F_deque_Pop
  unfold dPop at hp
  refine c.nw EPl p rfl fun rp h1 c => ?_
  refine c.nw EI1 0 rfl fun re h1 c => ?_
  refine c.doesE cs.mark Ens.mk 0 rfl hp fun m σ h1 hm c hp => ?_
  refine c.pur cs.side fun h4 c => ?_
  rw [uno_nb, vb_some]
  refine c.pur cs.side fun h5 c => ?_
  refine vb (addI ⟨by omega, by omega⟩) ?_
  refine c.doesE cs.get (Ens.gt _) 0 rfl hp fun en σ h1 hen c hp => ?_
  unfold uI
  rw [bin_eql, vb_some]
  refine brd (fun h6 => ?_) fun h6 => ?_
  · rw [if_pos h6] at hp
    refine c.sto1 2 rfl 8 rfl rfl fun h1 c => ?_
    refine c.dundo cs 0 rfl 2 rfl hp fun σ h5 c hp => ?_
    rw [(c.va (i := 2) rfl).one rfl, vb_some]
    exact hR _ _ _ _ c hp
  rw [if_neg h6] at hp
  rw [plA (i := 1) c rfl, vb_some]
  refine c.pur (cs.dis hen) fun h1 c => ?_
  rw [uno_nb, vb_some]
  cases hn : p.node en with
  | none =>
    rw [hn, if_neg (by simp)] at hp
    rw [Option.isSome_none, Bool.not_false, br_true]
    refine c.sto1 2 rfl 24 rfl rfl fun h1 c => ?_
    refine c.dundo cs 0 rfl 2 rfl hp fun σ h5 c hp => ?_
    rw [(c.va (i := 2) rfl).one rfl, vb_some]
    exact hR _ _ _ _ c hp
  | some n =>
    have hlt := node_lt hn
    rw [hn, if_pos (by rfl)] at hp
    rw [Option.isSome_some, Bool.not_true, br_false]
    refine vb (addI ⟨by omega, by omega⟩) ?_
    refine c.doesE cs.get (Ens.gt _) 0 rfl hp fun nx σ h1 hnx c hp => ?_
    unfold uI
    refine Jn0.at (fun h => ∃ (σ : Spc) (e : Int), Cx F h0 h [rSpace s σ, rVar EPl rp p, rVar EI1 re e] ∧ wp (dPopT p root en nx m r) σ Q) ?_ ?_
    · rw [bin_eql, vb_some]
      refine brd (fun h7 => ?_) fun h7 => ?_
      · rw [if_pos h7] at hp
        refine vb (addI ⟨by omega, by omega⟩) ?_
        refine c.does cs.put 0 rfl hp fun _ σ h1 c hp => ?_
        exact ⟨σ, _, c, hp⟩
      · rw [if_neg h7] at hp
        rw [plA (i := 1) c rfl, vb_some]
        refine c.pur (cs.dis hnx) fun h1 c => ?_
        rw [uno_nb, vb_some]
        cases hn2 : p.node nx with
        | none =>
          rw [hn2, if_neg (by simp)] at hp
          rw [Option.isSome_none, Bool.not_false, br_true]
          refine c.sto1 2 rfl 24 rfl rfl fun h1 c => ?_
          refine c.dundo cs 0 rfl 2 rfl hp fun σ h5 c hp => ?_
          rw [(c.va (i := 2) rfl).one rfl, vb_some]
          exact hR _ _ _ _ c hp
        | some n2 =>
          have hlt2 := node_lt hn2
          rw [hn2, if_pos (by rfl)] at hp
          rw [Option.isSome_some, Bool.not_true, br_false]
          refine vb (addI ⟨by omega, by omega⟩) ?_
          refine c.does cs.put 0 rfl hp fun _ σ h1 c hp => ?_
          exact ⟨σ, _, c, hp⟩
    · rintro h1 ⟨σ, e, c, hp⟩
      unfold dPopT at hp
      refine vb (addI ⟨by omega, by omega⟩) ?_
      refine c.does cs.put 0 rfl hp fun _ σ h1 c hp => ?_
      refine vb (addI ⟨by omega, by omega⟩) ?_
      refine c.does cs.dmore 0 rfl hp fun _ σ h1 c hp => ?_
      refine vb (addI ⟨by omega, by omega⟩) ?_
      refine c.does cs.dmore 0 rfl hp fun _ σ h1 c hp => ?_
      refine vb (addI ⟨by omega, by omega⟩) ?_
      refine c.does cs.get 0 rfl hp fun x σ h1 c hp => ?_
      unfold uI
      rw [plA (i := 1) c rfl, vb_some]
      refine c.does (cs.give hen) 0 rfl hp fun e2 σ h1 c hp => ?_
      unfold uI
      rw [bin_neq, vb_some]
      refine brd (fun h8 => ?_) fun h8 => ?_
      · rw [if_pos h8] at hp
        refine c.sto1 2 rfl e2 rfl rfl fun h1 c => ?_
        refine c.dundo cs 0 rfl 2 rfl hp fun σ h5 c hp => ?_
        rw [(c.va (i := 2) rfl).one rfl, vb_some]
        exact hR _ _ _ _ c hp
      · rw [if_neg h8] at hp
        refine c.sto1 2 rfl 0 rfl rfl fun h1 c => ?_
        refine c.dundo cs 0 rfl 2 rfl hp fun σ h5 c hp => ?_
        rw [(c.va (i := 2) rfl).one rfl, vb_some]
        exact hR _ _ _ _ c hp
theorem K_dPeek {root : Int} {r : Bool} (cs : CsD1 S I) (hr : 0 ≤ root ∧ root ≤ 1000000) :
    ∀ h0 F σ R Q, Cx F h0 h0 [rSpace s σ] → wp (dPeek root r) σ Q → (∀ a σ' h' M, Cx F h0 h' (rSpace s σ' :: M) → Q a σ' → R (uE a) h') → F_deque_Peek S I s (.int .i64 root) (.bool r) h0 R := by
  intro h0 F σ R Q c hp hR
  have s1 := sd_in r
  unfold F_deque_Peek
  unfold dPeek at hp
  refine c.pur cs.side fun h4 c => ?_
  refine vb (addI ⟨by omega, by omega⟩) ?_
  refine c.does cs.get 0 rfl hp fun en σ h1 c hp => ?_
  unfold uI
  rw [bin_eql, vb_some]
  refine brd (fun h6 => ?_) fun h6 => ?_
  · rw [if_pos h6] at hp
    exact hR _ _ _ [] c hp
  · rw [if_neg h6] at hp
    rw [bin_addw, vb_some]
    refine c.does cs.get 0 rfl hp fun x σ h1 c hp => ?_
    exact hR _ _ _ [] c hp
theorem K_dLen {root : Int} (cs : CsD1 S I) (hr : 0 ≤ root ∧ root ≤ 1000000) :
    ∀ h0 F σ R Q, Cx F h0 h0 [rSpace s σ] → wp (gt (root + 2)) σ Q → (∀ a σ' h' M, Cx F h0 h' (rSpace s σ' :: M) → Q a σ' → R (uI a) h') → F_deque_Len S I s (.int .i64 root) h0 R := by
  intro h0 F σ R Q c hp hR
  unfold F_deque_Len
  refine vb (addI ⟨by omega, by omega⟩) ?_
  refine c.last cs.get 0 rfl hp fun x σ h1 c hq => ?_
  exact hR _ _ _ [] c hq
/-- a walk -/
theorem K_dWalk {p : Pl} {root : Int} {r : Bool} (cs : CsD1 S I) (hr : 0 ≤ root ∧ root ≤ 1000000) (hp0 : 0 ≤ p.nodes ∧ p.nodes ≤ 1000) :
    ∀ h0 F σ (R : Value → Hp → Prop) (Q : Option (List Int) → Spc → Prop), Cx F h0 h0 [rSpace s σ] → wp (dWalk p root r) σ Q →
      (∀ (o : Option (List Int)) σ' v h' M, Cx F h0 h' (rSpace s σ' :: rSl EI1 v (o.getD []) :: M) → Q o σ' → R (.tuple #[v, .int .i64 (if o.isSome then 0 else 24)]) h') → F_deque_Walk S I s (vP p) (.int .i64 root) (.bool r) h0 R := by
  intro h0 F σ R Q c hp hR
  have s1 := sd_in r; have s2 := sd_in (!r)
  unfold F_deque_Walk
  unfold dWalk at hp
  refine c.nw EPl p rfl fun rp h1 c => ?_
  refine c.pur cs.side fun h4 c => ?_
  refine vb (addI ⟨by omega, by omega⟩) ?_
  refine c.doesE cs.get (Ens.gt _) 0 rfl hp fun a σ h1 ha c hp => ?_
  unfold uI
  have c := c.nil EI1
  refine Lp2.by (fun (q : Nat × Int × List Int × Spc) u v h' => v = .int .i64 q.2.1 ∧ R64 q.2.1 ∧ q.2.2.1.length + q.1 = p.nodes.toNat ∧ wp (dLoop p r q.1 q.2.1 q.2.2.1) q.2.2.2 Q ∧ Cx F h0 h' [rSpace s q.2.2.2, rVar EPl rp p, rSl EI1 u q.2.2.1]) (fun q => q.1) (p.nodes.toNat, a, [], σ)
    ⟨rfl, ha, by simp, hp, c⟩ ?_
  clear c hp ha
  rintro ⟨n, a, acc, σ⟩ u v h5 ⟨rfl, ha, hl, hp, c⟩ again hagain
  dsimp only at *
  rw [bin_neq, vb_some]
  refine brd (fun h6 => ?_) fun h6 => ?_
  · refine Jn1.at (fun v h' => (∃ bb : Bool, v = .bool bb ∧ (bb = true → Q none σ) ∧ (bb = false → ∃ n' k, n = n' + 1 ∧ p.node a = some k)) ∧ Cx F h0 h' [rSpace s σ, rVar EPl rp p, rSl EI1 u acc]) ?_ ?_
    · rw [plA (i := 1) c rfl, vb_some]
      refine c.pur (cs.dis ha) fun h7 c => ?_
      rw [uno_nb, vb_some]
      cases hk : p.node a with
      | none =>
        rw [Option.isSome_none, Bool.not_false, br_true]
        refine ⟨⟨true, rfl, fun _ => ?_, (fun e => by cases e)⟩, c⟩
        cases n with
        | zero => unfold dLoop at hp; rw [if_neg h6] at hp; exact hp
        | succ n => unfold dLoop at hp; rw [if_neg h6, hk, if_neg (by simp)] at hp; exact hp
      | some k =>
        rw [Option.isSome_some, Bool.not_true, br_false, (c.sl (i := 2) rfl).sl.ln, vb_some]
        refine (c.va (i := 1) rfl).fld (j := 2) rfl ?_
        rw [show bin .geq (.int .i64 (acc.length : Int)) (.int .i64 p.nodes) = some (.bool (decide (p.nodes ≤ acc.length))) from bin_geq, vb_some]
        refine ⟨⟨_, rfl, fun e => ?_, fun e => ?_⟩, c⟩
        · have e := of_decide_eq_true e
          have : n = 0 := by omega
          subst this
          unfold dLoop at hp; rw [if_neg h6] at hp; exact hp
        · have e := of_decide_eq_false e
          exact ⟨n - 1, k, by omega, rfl⟩
    clear c
    rintro v h7 ⟨⟨bb, rfl, hb1, hb2⟩, c⟩
    cases bb with
    | true =>
      rw [br_true]
      exact hR none σ (.slice none 0 0) _ _ (((c.nil EI1).pick [0, 3])) (hb1 rfl)
    | false =>
      rw [br_false]
      obtain ⟨n', k, rfl, hk⟩ := hb2 rfl
      have hlt := node_lt hk
      unfold dLoop at hp
      rw [if_neg h6, hk, if_pos (by rfl)] at hp
      refine vb (addI ⟨by omega, by omega⟩) ?_
      refine c.does cs.get 0 rfl hp fun x σ h8 c hp => ?_
      unfold uI
      refine c.app1 2 rfl x rfl rfl rfl (by omega) (by omega) fun v' h9 c => ?_
      rw [uno_nb, vb_some]
      refine c.pur cs.side fun h10 c => ?_
      refine vb (addI ⟨by omega, by omega⟩) ?_
      refine c.doesE cs.get (Ens.gt _) 0 rfl hp fun nx σ h11 hnx c hp => ?_
      unfold uI
      refine hagain (n', nx, acc ++ [x], σ) _ _ _ ⟨rfl, hnx, by dsimp only; rw [List.length_append, List.length_singleton]; omega, hp, c⟩ (by dsimp only; omega)
  · have e : a = 0 := Decidable.not_not.1 h6
    have hq : Q (some acc) σ := by cases n <;> (unfold dLoop at hp; rw [if_pos e] at hp; exact hp)
    exact hR (some acc) σ u _ _ (c.pick [0, 2, 1]) hq
structure CsD2 (S : Sys) (I : Ids) : Prop extends CsD1 S I where
  dpush : ∀ {p : Pl} {root v : Int} {r : Bool} {s}, 0 ≤ root ∧ root ≤ 1000000 → R64 v → Does S I.f_deque_Push [s, vP p, .int .i64 root, .bool r, .int .i64 v] s (dPush p root r v) uI
  dpop : ∀ {p : Pl} {root : Int} {r : Bool} {s}, 0 ≤ root ∧ root ≤ 1000000 → Does S I.f_deque_Pop [s, vP p, .int .i64 root, .bool r] s (dPop p root r) uE
  dpeek : ∀ {root : Int} {r : Bool} {s}, 0 ≤ root ∧ root ≤ 1000000 → Does S I.f_deque_Peek [s, .int .i64 root, .bool r] s (dPeek root r) uE
  dlen : ∀ {root : Int} {s}, 0 ≤ root ∧ root ≤ 1000000 → Does S I.f_deque_Len [s, .int .i64 root] s (gt (root + 2)) uI
  dwalk : ∀ {p : Pl} {root : Int} {r : Bool} {s h0 F σ} {R : Value → Hp → Prop} {Q : Option (List Int) → Spc → Prop}, 0 ≤ root ∧ root ≤ 1000000 → 0 ≤ p.nodes ∧ p.nodes ≤ 1000 → Cx F h0 h0 [rSpace s σ] → wp (dWalk p root r) σ Q →
      (∀ (o : Option (List Int)) σ' v h' M, Cx F h0 h' (rSpace s σ' :: rSl EI1 v (o.getD []) :: M) → Q o σ' → R (.tuple #[v, .int .i64 (if o.isSome then 0 else 24)]) h') → S.C I.f_deque_Walk [s, vP p, .int .i64 root, .bool r] h0 R
end Go.En
namespace Go.En
open Prog Spc Go.Sort

variable {S : Sys} {I : Ids} {h h0 h' : Hp} {F F0 : Fp} {R : Value → Hp → Prop} {L : List Res} {s : Value} {σ τ : Spc}

/-! ### Lists seen from an end -/
def ori {α : Type} (r : Bool) (xs : List α) : List α := if r then xs.reverse else xs
theorem ori_ori {α : Type} (r : Bool) (xs : List α) : ori r (ori r xs) = xs := by cases r <;> simp [ori]
theorem ori_len {α : Type} (r : Bool) (xs : List α) : (ori r xs).length = xs.length := by cases r <;> simp [ori]
theorem ori_nil {α : Type} (r : Bool) : ori r ([] : List α) = [] := by cases r <;> rfl
theorem ori_mem {α : Type} {r : Bool} {xs : List α} {x : α} : x ∈ ori r xs ↔ x ∈ xs := by cases r <;> simp [ori]
theorem DQ.ori {m : Int → Int} {root : Int} {l vs : List Int} {r : Bool} (H : DQ m root false l vs) : DQ m root r (En.ori r l) (En.ori r vs) := by
  cases r with
  | false => exact H
  | true => exact H.turn
theorem DQ.iro {m : Int → Int} {root : Int} {l vs : List Int} {r : Bool} (H : DQ m root r l vs) : DQ m root false (En.ori r l) (En.ori r vs) := by
  cases r with
  | false => exact H
  | true => exact H.turn
def rPush (r : Bool) (v : Int) (l : List Int) : List Int := ori r (v :: ori r l)
def rPeek (r : Bool) (l : List Int) : Int := (ori r l).headD 0
def rPop (r : Bool) (l : List Int) : List Int := ori r (ori r l).tail

theorem K_refPush35 {l : Value} {xs : List Int} {r : Bool} {v : Int} (hs : Sl EI1 h l xs) (hN : xs.length ≤ 1000000) (hR : ∀ u h', Cx (fun _ => False) h h' [rSl EI1 u (rPush r v xs)] → R u h') : F_simulcastref35_Push S I l (.bool r) (.int .i64 v) h R := by
  unfold F_simulcastref35_Push
  have c := Cx.start0 h
  refine Jn1.at (fun u h' => Cx (fun _ => False) h h' [rSl EI1 u (if r then [] else [v])]) ?_ ?_
  · rw [uno_nb, vb_some]
    cases r with
    | false =>
      rw [Bool.not_false, br_true]
      have c := c.nil EI1
      exact c.app1 0 rfl v rfl rfl rfl (by simp) (by simp) fun u h1 c => c
    | true =>
      rw [Bool.not_true, br_false]
      exact c.nil EI1
  clear c
  intro u h1 c
  refine c.ap 0 rfl (hs.gr c.gr) rfl rfl (by split <;> simp only [List.length_nil, List.length_singleton] <;> omega) (by split <;> simp only [List.length_nil, List.length_singleton] <;> omega) fun u h2 c => ?_
  refine .here ?_
  cases r with
  | false =>
    rw [br_false]
    exact hR u _ c
  | true =>
    rw [br_true]
    have c : Cx (fun _ => False) h h2 [rSl EI1 u xs] := c
    refine c.app1 0 rfl v rfl rfl rfl (by omega) (by omega) fun u h3 c => ?_
    have e : rPush true v xs = xs ++ [v] := by simp [rPush, ori]
    exact hR u _ (by rw [e]; exact c)
theorem K_refPeek35 {l : Value} {xs : List Int} {r : Bool} (hs : Sl EI1 h l xs) (hN : xs.length ≤ 1000000) (h0 : xs ≠ []) (hR : R (.int .i64 (rPeek r xs)) h) : F_simulcastref35_Peek S I l (.bool r) h R := by
  have hl : xs.length ≠ 0 := fun e => h0 (List.eq_nil_of_length_eq_zero e)
  unfold F_simulcastref35_Peek
  cases r with
  | true =>
    rw [br_true, hs.ln, vb_some, bin_sub, vb_some, wr64 (by omega)]
    refine hs.one rfl (i := xs.length - 1) (List.getElem?_eq_getElem (by omega)) (by omega) rfl ?_
    have e : rPeek true xs = xs[xs.length - 1]'(by omega) := by
      unfold rPeek ori
      rw [if_pos rfl, List.headD_eq_head?_getD, List.head?_reverse, List.getLast?_eq_getElem?, List.getElem?_eq_getElem (by omega)]
      rfl
    rw [← e]; exact hR
  | false =>
    rw [br_false]
    refine hs.one rfl (i := 0) (List.getElem?_eq_getElem (by omega)) rfl rfl ?_
    have e : rPeek false xs = xs[0]'(by omega) := by
      cases xs with
      | nil => exact absurd rfl h0
      | cons x r => rfl
    rw [← e]; exact hR
theorem K_refPop35 {l : Value} {xs : List Int} {r : Bool} (hs : Sl EI1 h l xs) (hN : xs.length ≤ 1000000) (hR : ∀ u h', Cx (fun _ => False) h h' [rSl EI1 u (rPop r xs)] → R u h') : F_simulcastref35_Pop S I l (.bool r) h R := by
  unfold F_simulcastref35_Pop
  have c := (Cx.start0 h).nil EI1
  let sk : Nat → Bool := fun i => if r then decide (i = xs.length - 1) else decide (i = 0)
  let part : Nat → List Int := fun i => if r then xs.take (min i (xs.length - 1)) else (xs.take i).tail
  refine Lp2.by (fun (i : Nat) u v h' => v = .int .i64 i ∧ i ≤ xs.length ∧ Cx (fun _ => False) h h' [rSl EI1 u (part i)]) (fun i => xs.length - i) 0 ⟨rfl, Nat.zero_le _, by
    have e : part 0 = [] := by show (if r then _ else _) = _; cases r <;> simp
    rw [e]; exact c⟩ ?_
  clear c
  rintro i u v h1 ⟨rfl, hi, c⟩ again hagain
  have hpl : (part i).length ≤ xs.length := by
    show (if r then xs.take _ else _).length ≤ _
    cases r
    · rw [if_neg (by simp), List.length_tail, List.length_take]; omega
    · rw [if_pos rfl, List.length_take]; omega
  rw [hs.ln, vb_some, bin_lss, vb_some]
  refine brd (fun h2 => ?_) fun h2 => ?_
  · have hx : xs[i]? = some xs[i] := List.getElem?_eq_getElem (by omega)
    refine Jn1.at (fun u h' => Cx (fun _ => False) h h' [rSl EI1 u (part (i + 1))]) ?_ ?_
    · refine Jn1.at (fun v h' => v = .bool (sk i) ∧ h' = h1) ?_ ?_
      · cases r with
        | true =>
          rw [br_true, vb_some, bin_sub, vb_some, wr64 (by omega), bin_eql, vb_some]
          refine brd (fun h3 => ⟨?_, rfl⟩) fun h3 => ?_
          · show _ = Value.bool (decide _)
            rw [decide_eq_true (by omega)]
          · rw [uno_nb, vb_some, Bool.not_true, br_false]
            refine ⟨?_, rfl⟩
            show _ = Value.bool (decide _)
            rw [decide_eq_false (by omega)]
        | false =>
          rw [br_false, uno_nb, vb_some, Bool.not_false, br_true, bin_eql, vb_some]
          refine ⟨?_, rfl⟩
          show Value.bool (decide _) = Value.bool (decide _)
          congr 1
          exact decide_eq_decide.2 (by omega)
      rintro v h3 ⟨rfl, rfl⟩
      cases hsk : sk i with
      | true =>
        rw [br_true]
        have e : part (i + 1) = part i := by
          show (if r then _ else _) = (if r then _ else _)
          have hsk : (if r then decide (i = xs.length - 1) else decide (i = 0)) = true := hsk
          cases r with
          | true =>
            rw [if_pos rfl] at hsk
            have := of_decide_eq_true hsk
            rw [if_pos rfl, if_pos rfl, show min (i + 1) (xs.length - 1) = min i (xs.length - 1) by omega]
          | false =>
            rw [if_neg (by simp)] at hsk
            have := of_decide_eq_true hsk
            subst this
            rw [if_neg (by simp), if_neg (by simp)]
            cases xs <;> simp
        rw [e]; exact c
      | false =>
        rw [br_false]
        refine hs.gr c.gr |>.one rfl hx rfl rfl ?_
        refine c.app1 0 rfl xs[i] rfl rfl rfl (by omega) (by omega) fun v' h4 c => ?_
        have e : part (i + 1) = part i ++ [xs[i]] := by
          show (if r then _ else _) = (if r then _ else _) ++ _
          have hsk : (if r then decide (i = xs.length - 1) else decide (i = 0)) = false := hsk
          cases r with
          | true =>
            rw [if_pos rfl] at hsk
            have := of_decide_eq_false hsk
            rw [if_pos rfl, if_pos rfl, show min (i + 1) (xs.length - 1) = i + 1 by omega, show min i (xs.length - 1) = i by omega, List.take_add_one, hx]; rfl
          | false =>
            rw [if_neg (by simp)] at hsk
            have := of_decide_eq_false hsk
            rw [if_neg (by simp), if_neg (by simp), List.take_add_one, hx]
            have hne : xs.take i ≠ [] := fun e => by have := congrArg List.length e; rw [List.length_take] at this; simp only [List.length_nil] at this; omega
            exact List.tail_append_of_ne_nil hne
        rw [e]; exact c
    · intro u h3 c
      rw [bin_add, vb_some, wrS (by omega)]
      exact hagain (i + 1) _ _ _ ⟨rfl, by omega, c⟩ (by omega)
  · have ei : i = xs.length := by omega
    subst ei
    have e : part xs.length = rPop r xs := by
      show (if r then _ else _) = _
      unfold rPop ori
      cases r with
      | true =>
        simp only [if_true]
        rw [show min xs.length (xs.length - 1) = xs.length - 1 by omega, List.tail_reverse, List.reverse_reverse, List.dropLast_eq_take]
      | false => simp
    exact hR u _ (by rw [← e]; exact c)
theorem K_refWalk35 {l : Value} {xs : List Int} {r : Bool} (hs : Sl EI1 h l xs) (hN : xs.length ≤ 1000000) (hR : ∀ u h', Cx (fun _ => False) h h' [rSl EI1 u (ori r xs)] → R u h') : F_simulcastref35_Walk S I l (.bool r) h R := by
  unfold F_simulcastref35_Walk
  have c := (Cx.start0 h).nil EI1
  refine Lp2.by (fun (i : Nat) u v h' => v = .int .i64 i ∧ i ≤ xs.length ∧ Cx (fun _ => False) h h' [rSl EI1 u ((ori r xs).take i)]) (fun i => xs.length - i) 0 ⟨rfl, Nat.zero_le _, by simpa using c⟩ ?_
  clear c
  rintro i u v h1 ⟨rfl, hi, c⟩ again hagain
  have hol := ori_len r xs
  rw [hs.ln, vb_some, bin_lss, vb_some]
  refine brd (fun h2 => ?_) fun h2 => ?_
  · have hx : (ori r xs)[i]? = some (ori r xs)[i] := List.getElem?_eq_getElem (by omega)
    refine Jn1.at (fun u h' => Cx (fun _ => False) h h' [rSl EI1 u ((ori r xs).take (i + 1))]) ?_ ?_
    · rw [List.take_add_one, hx]
      cases r with
      | true =>
        rw [br_true, vb_some, bin_sub, vb_some, wr64 (by omega), bin_sub, vb_some, wr64 (by omega)]
        have hx' : xs[xs.length - 1 - i]? = some (ori true xs)[i] := by
          rw [← hx]
          show _ = xs.reverse[i]?
          rw [List.getElem?_reverse (by omega)]
        refine (hs.gr c.gr).one rfl hx' (by omega) rfl ?_
        exact c.app1 0 rfl _ rfl rfl rfl (by rw [List.length_take]; omega) (by rw [List.length_take]; omega) fun v' h3 c => c
      | false =>
        rw [br_false]
        have hx' : xs[i]? = some (ori false xs)[i] := hx
        refine (hs.gr c.gr).one rfl hx' rfl rfl ?_
        exact c.app1 0 rfl _ rfl rfl rfl (by rw [List.length_take]; omega) (by rw [List.length_take]; omega) fun v' h3 c => c
    · intro u h3 c
      rw [bin_add, vb_some, wrS (by omega)]
      exact hagain (i + 1) _ _ _ ⟨rfl, by omega, c⟩ (by omega)
  · have ei : i = xs.length := by omega
    subst ei
    rw [List.take_of_length_le (by omega)] at c
    exact hR u _ c
theorem K_Equal64 {a b : Value} {xs : List Int} (hN : xs.length ≤ 1000000) (ha : Sl EI1 h a xs) (hb : Sl EI1 h b xs) (hR : R (.bool true) h) : F_slices_Equal_int64_int64 S I a b h R := by
  unfold F_slices_Equal_int64_int64
  rw [ha.ln, vb_some, hb.ln, vb_some, bin_neq, vb_some]
  refine brd (fun h1 => absurd rfl h1) fun _ => ?_
  rw [vb_some]
  refine Lp1.by (fun (i : Nat) u h' => u = .int .i64 i ∧ i ≤ xs.length ∧ h' = h) (fun i => xs.length - i) 0 ⟨rfl, Nat.zero_le _, rfl⟩ ?_
  rintro i u h1 ⟨rfl, hi, rfl⟩ again hagain
  rw [bin_lss, vb_some]
  refine brd (fun h2 => ?_) fun h2 => hR
  have hx : xs[i]? = some xs[i] := List.getElem?_eq_getElem (by omega)
  refine ha.one rfl hx rfl rfl (hb.one rfl hx rfl rfl ?_)
  rw [bin_neq, vb_some]
  refine brd (fun h1 => absurd rfl h1) fun _ => ?_
  rw [bin_add, vb_some, wrS (by omega)]
  exact hagain (i + 1) _ _ ⟨rfl, by omega, rfl⟩ (by omega)

/-! ### Actions -/
structure A5 where
  d : Int
  r : Bool
  v : Int
def EA5 : Enc A5 := { n := 3, c := fun x => [.int .u8 x.d, .bool x.r, .int .i64 x.v], len := fun _ => rfl, one := fun a v h => by simp only [List.mem_cons, List.not_mem_nil, or_false] at h; rcases h with rfl | rfl | rfl <;> rfl }
def mA (x : A5) : Value := .agg #[.int .u8 x.d, .bool x.r, .int .i64 x.v]
structure A5.ok (x : A5) : Prop where
  d : 0 ≤ x.d ∧ x.d ≤ 255
  v : R64 x.v
def dAct (p : Pl) (x : A5) : Prog (Int × Int) :=
  if x.d % 4 = 2 then dPop p 8 x.r else if x.d % 4 = 3 then dPeek 8 x.r else do
    let e ← dPush p 8 x.r x.v
    pure (0, e)
/-- what an action comes to: the values, the result, the error -/
def dRes (n : Int) (vs : List Int) (x : A5) : List Int × Int × Int :=
  if x.d % 4 < 2 then (if n ≤ vs.length then (vs, 0, 9) else (rPush x.r x.v vs, 0, 0))
  else if vs.length = 0 then (vs, 0, 8) else if x.d % 4 = 2 then (rPop x.r vs, rPeek x.r vs, 0) else (vs, rPeek x.r vs, 0)
theorem K_dActDo {x : A5} {p : Pl} (cs : CsD2 S I) (hx : x.ok) : ∀ h0 F σ R Q, Cx F h0 h0 [rSpace s σ] → wp (dAct p x) σ Q → (∀ a σ' h' M, Cx F h0 h' (rSpace s σ' :: M) → Q a σ' → R (uE a) h') → F_simulcastlaw35_Act_do S I (mA x) s (vP p) h0 R := by
  intro h0 F σ R Q c hp hR
  have hd := hx.d
  unfold F_simulcastlaw35_Act_do
  unfold dAct at hp
  refine c.nw EA5 x rfl fun r1 h1 c => ?_
  refine c.nw EPl p rfl fun r2 h2 c => ?_
  refine (c.va (i := 1) rfl).fld (j := 0) rfl ?_
  rw [show bin .rem (.int .u8 x.d) (.int .u8 4) = some (.int .u8 (x.d % 4)) by rw [bin_rem (by omega), Int.tmod_eq_emod_of_nonneg hd.1], vb_some, bin_eql, vb_some]
  refine brd (fun h3 => ?_) fun h3 => ?_
  · rw [if_pos h3] at hp
    rw [plA (i := 2) c rfl, vb_some]
    refine (c.va (i := 1) rfl).fld (j := 1) rfl ?_
    refine c.last (cs.dpop ⟨by decide, by decide⟩) 0 rfl hp fun e σ h4 c hq => ?_
    unfold uE
    refine ext0t (ext1t ?_)
    exact hR e _ _ _ c hq
  rw [if_neg h3] at hp
  rw [bin_eql, vb_some]
  refine brd (fun h4 => ?_) fun h4 => ?_
  · rw [if_pos h4] at hp
    refine (c.va (i := 1) rfl).fld (j := 1) rfl ?_
    refine c.last (cs.dpeek ⟨by decide, by decide⟩) 0 rfl hp fun e σ h4 c hq => ?_
    unfold uE
    refine ext0t (ext1t ?_)
    exact hR e _ _ _ c hq
  · rw [if_neg h4] at hp
    rw [plA (i := 2) c rfl, vb_some]
    refine (c.va (i := 1) rfl).fld (j := 1) rfl ?_
    refine (c.va (i := 1) rfl).fld (j := 2) rfl ?_
    refine c.does (cs.dpush ⟨by decide, by decide⟩ hx.v) 0 rfl hp fun e σ h5 c hq => ?_
    exact hR (0, e) _ _ _ c hq
theorem ori_cons {α : Type} {r : Bool} {xs : List α} {x : α} {t : List α} (h : ori r xs = x :: t) : xs = ori r (x :: t) := by rw [← h, ori_ori]
theorem rPeek_cons {r : Bool} {xs : List Int} {x : Int} {t : List Int} (h : ori r xs = x :: t) : rPeek r xs = x := by unfold rPeek; rw [h]; rfl
theorem rPop_cons {r : Bool} {xs : List Int} {x : Int} {t : List Int} (h : ori r xs = x :: t) : rPop r xs = ori r t := by unfold rPop; rw [h]; rfl

theorem K_dActRef {x : A5} {l : Value} {xs : List Int} {n : Int} (push : ∀ {l : Value} {xs : List Int} {r : Bool} {v : Int} {h R}, Sl EI1 h l xs → xs.length ≤ 1000000 → (∀ u h', Cx (fun _ => False) h h' [rSl EI1 u (rPush r v xs)] → R u h') → S.C I.f_simulcastref35_Push [l, .bool r, .int .i64 v] h R)
    (peek : ∀ {l : Value} {xs : List Int} {r : Bool} {h R}, Sl EI1 h l xs → xs.length ≤ 1000000 → xs ≠ [] → R (.int .i64 (rPeek r xs)) h → S.C I.f_simulcastref35_Peek [l, .bool r] h R)
    (pop : ∀ {l : Value} {xs : List Int} {r : Bool} {h R}, Sl EI1 h l xs → xs.length ≤ 1000000 → (∀ u h', Cx (fun _ => False) h h' [rSl EI1 u (rPop r xs)] → R u h') → S.C I.f_simulcastref35_Pop [l, .bool r] h R)
    (hx : x.ok) (hs : Sl EI1 h l xs) (hN : xs.length ≤ 1000000) (hR1 : (dRes n xs x).1 = xs → ∀ h', Gr h h' → R (.tuple #[l, .int .i64 (dRes n xs x).2.1, .int .i64 (dRes n xs x).2.2]) h')
    (hR2 : ∀ u h', Cx (fun _ => False) h h' [rSl EI1 u (dRes n xs x).1] → R (.tuple #[u, .int .i64 (dRes n xs x).2.1, .int .i64 (dRes n xs x).2.2]) h') : F_simulcastlaw35_Act_ref S I (mA x) l (.int .i64 n) h R := by
  have hd := hx.d
  unfold F_simulcastlaw35_Act_ref
  refine (Cx.start0 h).nw EA5 x rfl fun r1 h1 c => ?_
  have rem4 : bin .rem (.int .u8 x.d) (.int .u8 4) = some (.int .u8 (x.d % 4)) := by rw [bin_rem (by omega), Int.tmod_eq_emod_of_nonneg hd.1]
  unfold dRes at hR1 hR2
  refine Jn1.at (fun v h' => h' = h1 ∧ ∃ bb : Bool, v = .bool bb ∧ (bb = true ↔ x.d % 4 < 2 ∧ n ≤ xs.length)) ?_ ?_
  · refine (c.va (i := 0) rfl).fld (j := 0) rfl ?_
    rw [rem4, vb_some, bin_lss, vb_some]
    refine brd (fun h2 => ?_) fun h2 => ⟨rfl, false, rfl, (fun e => by cases e), fun e => absurd e.1 h2⟩
    rw [hs.ln, vb_some, bin_geq, vb_some]
    exact ⟨rfl, _, rfl, by rw [decide_eq_true_eq]; exact ⟨fun h => ⟨h2, h⟩, fun h => h.2⟩⟩
  rintro v h2 ⟨rfl, bb, rfl, hb⟩
  cases bb with
  | true =>
    rw [br_true]
    obtain ⟨h3, h4⟩ := hb.1 rfl
    rw [if_pos h3, if_pos h4] at hR1
    exact hR1 rfl _ c.gr
  | false =>
    rw [br_false]
    refine (c.va (i := 0) rfl).fld (j := 0) rfl ?_
    rw [rem4, vb_some, bin_lss, vb_some]
    refine brd (fun h3 => ?_) fun h3 => ?_
    · have h4 : ¬ n ≤ xs.length := fun h4 => by have := hb.2 ⟨h3, h4⟩; cases this
      rw [if_pos h3, if_neg h4] at hR2
      refine (c.va (i := 0) rfl).fld (j := 1) rfl ?_
      refine (c.va (i := 0) rfl).fld (j := 2) rfl ?_
      refine push (hs.gr c.gr) hN fun u h5 c2 => ?_
      exact hR2 u _ ((c.frame0 c2).pick [1])
    rw [if_neg h3] at hR1 hR2
    rw [hs.ln, vb_some, bin_eql, vb_some]
    refine brd (fun h4 => ?_) fun h4 => ?_
    · rw [if_pos (by omega)] at hR1
      exact hR1 rfl _ c.gr
    rw [if_neg (by omega)] at hR1 hR2
    have hne : xs ≠ [] := fun e => h4 (by rw [e]; rfl)
    refine (c.va (i := 0) rfl).fld (j := 0) rfl ?_
    rw [rem4, vb_some, bin_eql, vb_some]
    refine brd (fun h5 => ?_) fun h5 => ?_
    · rw [if_pos h5] at hR2
      refine (c.va (i := 0) rfl).fld (j := 1) rfl ?_
      rw [show fa 1 (at0 r1) = some (.pointer (some ⟨r1, 0 + 1, none⟩)) from fa_add _ _ _, vb_some, show ldc (.pointer (some ⟨r1, 0 + 1, none⟩)) h2 = some (.bool x.r) from (c.va (i := 0) rfl).row.ldc (j := 1) rfl, vb_some]
      refine pop (hs.gr c.gr) hN fun u h6 c2 => ?_
      have c := c.frame0 c2
      refine ⟨(c.va (i := 0) rfl).row.ldc (j := 1) rfl, ?_⟩
      refine peek (hs.gr c.gr) hN hne ?_
      exact hR2 u _ (c.pick [1])
    · rw [if_neg h5] at hR1
      refine (c.va (i := 0) rfl).fld (j := 1) rfl ?_
      refine peek (hs.gr c.gr) hN hne ?_
      exact hR1 rfl _ c.gr

/-! ### In memory -/
abbrev p35 (n : Int) : Pl := ⟨0, 16, n⟩
abbrev D35 (n : Int) : Int → Prop := fun a => 0 ≤ a ∧ a < 16 + 8 * n
/-- one deque: every node held or free -/
def DSt (p : Pl) (root : Int) (m : Int → Int) (vs : List Int) : Prop := ∃ l fr out, PoolR m p fr out ∧ DQ m root false l vs ∧ Held p fr out l ∧ (l.length : Int) + fr.length = out
theorem p35_good {n : Int} (h : 0 ≤ n ∧ n ≤ 100) : (p35 n).good := ⟨by show (0 : Int) ≤ 0; decide, by show (1 : Int) ≤ 16; decide, h.1, by show n ≤ 128; omega, by show (0 : Int) ≤ 4093; decide, by show 16 + 8 * n ≤ 4096; omega, .inr (.inl (by show (0 : Int) + 3 ≤ 16; decide))⟩
theorem p35_D {n : Int} (h : 0 ≤ n ∧ n ≤ 100) : PoolD (D35 n) (p35 n) ∧ RootD (D35 n) 8 ∧ RA (p35 n) 8 := by
  refine ⟨⟨fun i h0 h1 => ⟨by show 0 ≤ 0 + i; omega, by show 0 + i < _; omega⟩, fun x hx i h0 h1 => ?_⟩, fun i h0 h1 => ⟨by omega, by omega⟩, ⟨by show (0 : Int) + 3 ≤ 8; decide, by show (8 : Int) + 8 ≤ 16; decide⟩⟩
  obtain ⟨j, j0, j1, rfl⟩ := hx
  have j1 : j < n := j1
  exact ⟨by show 0 ≤ 16 + 8 * j + i; omega, by show 16 + 8 * j + i < _; omega⟩
section
variable {D : Int → Prop} {m : Int → Int} {p : Pl} {root : Int} {vs : List Int} {r : Bool} {v : Int}
theorem Held.ori {fr : List Int} {out : Int} {l : List Int} (H : Held p fr out l) : Held p fr out (En.ori r l) := fun x hx => H x (ori_mem.1 hx)
theorem wp_push1 (S : Sm D σ σ m 0) (X : DSt p root m vs) (hD : PoolD D p) (hRD : RootD D root) (hA : RA p root) (hv : R64 v) (hl : σ.pu.length + 20 ≤ big) :
    wp (dPush p root r v) σ fun e σ' => (e = 0 ∧ (vs.length : Int) < p.nodes ∧ ∃ m', Sm D σ σ' m' 12 ∧ DSt p root m' (rPush r v vs)) ∨ (e = 9 ∧ p.nodes ≤ vs.length ∧ Sm D σ σ' m 12) := by
  obtain ⟨l, fr, out, P, K, H, hc⟩ := X
  have hvl := K.len
  have hp1 := P.out1
  refine Prog.wp_mono (wp_dPush S P hD hRD hA (K.ori (r := r)) H.ori hv (by omega)) fun e σ' hq => ?_
  rcases hq with ⟨n, fr', out', m', rfl, T, S', P', K', H', _⟩ | ⟨rfl, e1, e2, S'⟩
  · left
    have hc' : ((n :: En.ori r l).length : Int) + fr'.length = out' := by
      simp only [List.length_cons, ori_len]
      cases T with
      | free e => subst e; simp only [List.length_cons] at hc; omega
      | new e ho => subst e; simp only [List.length_nil] at hc ⊢; omega
    refine ⟨rfl, ?_, m', S', En.ori r (n :: En.ori r l), fr', out', P', K'.iro, H'.ori, by rw [ori_len]; exact hc'⟩
    have := P'.out1
    simp only [List.length_cons, ori_len] at hc'
    omega
  · right
    subst e1
    simp only [List.length_nil] at hc
    exact ⟨rfl, by omega, S'⟩
theorem wp_pop1 (S : Sm D σ σ m 0) (X : DSt p root m vs) (hD : PoolD D p) (hRD : RootD D root) (hA : RA p root) (hl : σ.pu.length + 20 ≤ big) :
    wp (dPop p root r) σ fun e σ' => (vs.length ≠ 0 ∧ e = (rPeek r vs, 0) ∧ ∃ m', Sm D σ σ' m' 12 ∧ DSt p root m' (rPop r vs)) ∨ (e = (0, 8) ∧ vs = [] ∧ Sm D σ σ' m 12) := by
  obtain ⟨l, fr, out, P, K, H, hc⟩ := X
  have hvl := K.len
  refine Prog.wp_mono (wp_dPop S P hD hRD hA (K.ori (r := r)) H.ori hl) fun e σ' hq => ?_
  rcases hq with ⟨n, l', v, vs', m', e1, e2, rfl, S', P', K', H', _⟩ | ⟨rfl, e1, e2, S'⟩
  · left
    have h1 := ori_len r l
    rw [e1] at h1
    simp only [List.length_cons] at h1
    refine ⟨by omega, by rw [rPeek_cons e2], m', S', En.ori r l', n :: fr, out, P', by rw [rPop_cons e2]; exact K'.iro, H'.ori, ?_⟩
    rw [ori_len]; simp only [List.length_cons]; omega
  · right
    have h1 := ori_len r vs
    rw [e2] at h1
    exact ⟨rfl, List.eq_nil_of_length_eq_zero h1.symm, S'⟩
theorem wp_peek1 (S : Sm D σ σ m 0) (X : DSt p root m vs) (hD : PoolD D p) (hRD : RootD D root) : wp (dPeek root r) σ fun e σ' => Sm D σ σ' m 0 ∧ ((vs.length ≠ 0 ∧ e = (rPeek r vs, 0)) ∨ (vs = [] ∧ e = (0, 8))) := by
  obtain ⟨l, fr, out, P, K, H, hc⟩ := X
  refine Prog.wp_mono (wp_dPeek S P hD hRD (K.ori (r := r)) H.ori) fun e σ' ⟨S', hq⟩ => ⟨S', ?_⟩
  have h1 := ori_len r vs
  rcases hq with ⟨v, vs', e2, rfl⟩ | ⟨e2, rfl⟩
  · left
    rw [e2] at h1
    simp only [List.length_cons] at h1
    exact ⟨by omega, by rw [rPeek_cons e2]⟩
  · right
    rw [e2] at h1
    exact ⟨List.eq_nil_of_length_eq_zero h1.symm, rfl⟩
theorem wp_walk1 (S : Sm D σ σ m 0) (X : DSt p root m vs) (hD : PoolD D p) (hRD : RootD D root) : wp (dWalk p root r) σ fun o σ' => o = some (ori r vs) ∧ Sm D σ σ' m 0 := by
  obtain ⟨l, fr, out, P, K, H, hc⟩ := X
  exact wp_dWalk S P hD hRD (K.ori (r := r)) H.ori
end
theorem wp_dAct {n : Int} {m : Int → Int} {vs : List Int} {x : A5} (S : Sm (D35 n) σ σ m 0) (X : DSt (p35 n) 8 m vs) (hn : 0 ≤ n ∧ n ≤ 100) (hx : x.ok) (hl : σ.pu.length + 20 ≤ big) :
    wp (dAct (p35 n) x) σ fun a σ' => a = (dRes n vs x).2 ∧ ∃ m', Sm (D35 n) σ σ' m' 12 ∧ DSt (p35 n) 8 m' (dRes n vs x).1 := by
  obtain ⟨hD, hRD, hA⟩ := p35_D hn
  have hd := hx.d
  have hlt : x.d % 4 < 4 := by omega
  have h0 : 0 ≤ x.d % 4 := by omega
  unfold dAct dRes
  by_cases h2 : x.d % 4 = 2
  · rw [if_pos h2, if_neg (by omega)]
    refine Prog.wp_mono (wp_pop1 (r := x.r) S X hD hRD hA hl) fun e σ' hq => ?_
    rcases hq with ⟨hne, rfl, m', S', X'⟩ | ⟨rfl, rfl, S'⟩
    · rw [if_neg hne, if_pos h2]
      exact ⟨rfl, m', S', X'⟩
    · rw [if_pos (by rfl : ([] : List Int).length = 0)]
      exact ⟨rfl, m, S', X⟩
  rw [if_neg h2]
  by_cases h3 : x.d % 4 = 3
  · rw [if_pos h3, if_neg (by omega)]
    refine Prog.wp_mono (wp_peek1 (r := x.r) S X hD hRD) fun e σ' ⟨S', hq⟩ => ?_
    rcases hq with ⟨hne, rfl⟩ | ⟨rfl, rfl⟩
    · rw [if_neg hne, if_neg h2]
      exact ⟨rfl, m, S'.mono (by omega), X⟩
    · rw [if_pos (by rfl : ([] : List Int).length = 0)]
      exact ⟨rfl, m, S'.mono (by omega), X⟩
  rw [if_neg h3, if_pos (by omega), wp_bind]
  refine Prog.wp_mono (wp_push1 (r := x.r) S X hD hRD hA hx.v hl) fun e σ' hq => ?_
  rcases hq with ⟨rfl, hlt, m', S', X'⟩ | ⟨rfl, hge, S'⟩
  · have hlt : (vs.length : Int) < n := hlt
    rw [if_neg (by omega)]
    exact ⟨rfl, m', S', X'⟩
  · have hge : n ≤ vs.length := hge
    rw [if_pos hge]
    exact ⟨rfl, m, S', X⟩
end Go.En
