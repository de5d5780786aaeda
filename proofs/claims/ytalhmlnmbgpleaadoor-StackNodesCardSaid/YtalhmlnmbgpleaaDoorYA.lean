/-
  Chains of nodes from both ends; the deque's and the stack's programs, and what they come to.
  The deque and the stack in memory.
  The stack in memory.
  Layer 33: two stacks that share a pool.
  Layer 33: the words that an operation reads; arbitrary words.
-/
import Derived.Test.YtalhmlnmbgpleaaDoorXD
import Derived.Test.YtalhmlnmbgpleaaDoorXE
namespace Go.En
open Prog Spc

/-! ### Chains -/
theorem Lk.snoc {m m' : Int → Int} {o x : Int} : ∀ {l : List Int} {a : Int}, Lk m o a l → (∀ y ∈ l, m' (y + o) = if some y = l.getLast? then x else m (y + o)) → l.Nodup → m' (x + o) = 0 → (l = [] → a = x) → l ≠ [] → Lk m' o a (l ++ [x])
  | [], a, _, _, _, h0, ha, hne => absurd rfl hne
  | [y], a, h, hm, hn, h0, _, _ => by
    have := hm y (List.mem_singleton.2 rfl)
    rw [if_pos (by rfl)] at this
    exact ⟨h.1, by rw [this]; exact ⟨rfl, h0⟩⟩
  | y :: z :: l, a, h, hm, hn, h0, ha, _ => by
    have hn := List.nodup_cons.1 hn
    have e : (y :: z :: l).getLast? = (z :: l).getLast? := by simp [List.getLast?_cons_cons]
    have hy := hm y (List.mem_cons_self ..)
    have hne : ¬ some y = (y :: z :: l).getLast? := by
      rw [e]
      intro hc
      exact hn.1 (List.mem_of_getLast? hc.symm)
    rw [if_neg hne] at hy
    refine ⟨h.1, ?_⟩
    rw [hy]
    exact Lk.snoc (l := z :: l) h.2 (fun w hw => by rw [hm w (List.mem_cons_of_mem _ hw), e]) hn.2 h0 (fun e => by cases e) (by simp)
theorem Lk.unsnoc {m m' : Int → Int} {o x : Int} : ∀ {l : List Int} {a : Int}, Lk m o a (l ++ [x]) → (∀ y ∈ l, m' (y + o) = if some y = l.getLast? then 0 else m (y + o)) → (l ++ [x]).Nodup → l ≠ [] → Lk m' o a l
  | [], a, _, _, _, hne => absurd rfl hne
  | [y], a, h, hm, hn, _ => by
    have := hm y (List.mem_singleton.2 rfl)
    rw [if_pos (by rfl)] at this
    exact ⟨h.1, this⟩
  | y :: z :: l, a, h, hm, hn, _ => by
    have hn : y ∉ (z :: l) ++ [x] ∧ ((z :: l) ++ [x]).Nodup := List.nodup_cons.1 hn
    have e : (y :: z :: l).getLast? = (z :: l).getLast? := by simp [List.getLast?_cons_cons]
    have hy := hm y (List.mem_cons_self ..)
    have hne : ¬ some y = (y :: z :: l).getLast? := by
      rw [e]
      intro hc
      exact hn.1 (List.mem_append_left _ (List.mem_of_getLast? hc.symm))
    rw [if_neg hne] at hy
    refine ⟨h.1, ?_⟩
    rw [hy]
    exact Lk.unsnoc (l := z :: l) h.2 (fun w hw => by rw [hm w (List.mem_cons_of_mem _ hw), e]) hn.2 (by simp)
theorem Lk.head {m : Int → Int} {o a : Int} {l : List Int} (h : Lk m o a l) : a = l.head?.getD 0 := by
  cases l with
  | nil => exact h
  | cons x r => exact h.1

/-! ### The deque -/
def sd (r : Bool) : Int := if r then 1 else 0
theorem sd_in (r : Bool) : 0 ≤ sd r ∧ sd r ≤ 1 := by cases r <;> decide
theorem sd_ne (r : Bool) : sd r ≠ sd !r := by cases r <;> decide
def dMore (a n : Int) : Prog Unit := do
  let v ← gt a
  pt a (w64 (v + n))
def dUn (e m : Int) : Prog Unit := if e ≠ 0 then bk m else pure ()
def dPushT (root n : Int) (r : Bool) : Prog Int := do
  pt (root + sd r) n
  dMore (root + 2) 1
  dMore (root + 7) 1
  dUn 0 0
  pure 0
def dPush (p : Pl) (root : Int) (r : Bool) (v : Int) : Prog Int := do
  let m ← mk
  let t ← pTake p
  if t.2 ≠ 0 then do
    dUn t.2 m
    pure t.2
  else do
    let en ← gt (root + sd r)
    pt (t.1 + sd r) 0
    pt (t.1 + sd !r) en
    pt (t.1 + 2) v
    if en = 0 then do
      pt (root + sd !r) t.1
      dPushT root t.1 r
    else if (p.node en).isSome then do
      pt (en + sd r) t.1
      dPushT root t.1 r
    else do
      dUn 24 m
      pure 24
def dPopT (p : Pl) (root en nx m : Int) (r : Bool) : Prog (Int × Int) := do
  pt (root + sd r) nx
  dMore (root + 2) (-1)
  dMore (root + 7) (-1)
  let x ← gt (en + 2)
  let e ← pGive p en
  if e ≠ 0 then do
    dUn e m
    pure (0, e)
  else do
    dUn 0 m
    pure (x, 0)
def dPop (p : Pl) (root : Int) (r : Bool) : Prog (Int × Int) := do
  let m ← mk
  let en ← gt (root + sd r)
  if en = 0 then do
    dUn 8 m
    pure (0, 8)
  else if (p.node en).isSome then do
    let nx ← gt (en + sd !r)
    if nx = 0 then do
      pt (root + sd !r) 0
      dPopT p root en nx m r
    else if (p.node nx).isSome then do
      pt (nx + sd r) 0
      dPopT p root en nx m r
    else do
      dUn 24 m
      pure (0, 24)
  else do
    dUn 24 m
    pure (0, 24)
def dPeek (root : Int) (r : Bool) : Prog (Int × Int) := do
  let en ← gt (root + sd r)
  if en = 0 then pure (0, 8) else do
    let x ← gt (w64 (en + 2))
    pure (x, 0)
def dLoop (p : Pl) (r : Bool) : Nat → Int → List Int → Prog (Option (List Int))
  | 0, a, acc => pure (if a = 0 then some acc else none)
  | n + 1, a, acc => if a = 0 then pure (some acc) else if (p.node a).isSome then do
      let v ← gt (a + 2)
      let nx ← gt (a + sd !r)
      dLoop p r n nx (acc ++ [v])
    else pure none
def dWalk (p : Pl) (root : Int) (r : Bool) : Prog (Option (List Int)) := do
  let a ← gt (root + sd r)
  dLoop p r p.nodes.toNat a []

/-! ### The stack -/
def sMore (root n : Int) : Prog Unit := do
  dMore (root + 1) n
  dMore (root + 7) n
def sPush (p : Pl) (root v : Int) : Prog Int := do
  let m ← mk
  let t ← pTake p
  if t.2 ≠ 0 then do
    dUn t.2 m
    pure t.2
  else do
    let tp ← gt root
    pt t.1 tp
    pt (t.1 + 1) v
    pt root t.1
    sMore root 1
    dUn 0 m
    pure 0
def sPop (p : Pl) (root : Int) : Prog (Int × Int) := do
  let m ← mk
  let a ← gt root
  if a = 0 then do
    dUn 8 m
    pure (0, 8)
  else if (p.node a).isSome then do
    let nx ← gt a
    let v ← gt (a + 1)
    let e ← pGive p a
    if e ≠ 0 then do
      dUn e m
      pure (0, e)
    else do
      pt root nx
      sMore root (-1)
      dUn 0 m
      pure (v, 0)
  else do
    dUn 24 m
    pure (0, 24)
def sTop (root : Int) : Prog (Int × Int) := do
  let a ← gt root
  if a = 0 then pure (0, 8) else do
    let x ← gt (a + 1)
    pure (x, 0)
def sLoop (p : Pl) : Nat → Int → List Int → Prog (Option (List Int))
  | 0, a, acc => pure (if a = 0 then some acc else none)
  | n + 1, a, acc => if a = 0 then pure (some acc) else if (p.node a).isSome then do
      let v ← gt (a + 1)
      let nx ← gt a
      sLoop p n nx (acc ++ [v])
    else pure none
def sWalk (p : Pl) (root : Int) : Prog (Option (List Int)) := do
  let a ← gt root
  sLoop p p.nodes.toNat a []
end Go.En
namespace Go.En
open Prog Spc

/-- a root apart from the pool -/
structure RA (p : Pl) (root : Int) : Prop where
  a : p.root + 3 ≤ root
  b : root + 8 ≤ p.frm
abbrev RootD (D : Int → Prop) (root : Int) : Prop := ∀ i, 0 ≤ i → i ≤ 7 → D (root + i)
/-- nodes handed out and not free -/
abbrev Held (p : Pl) (fr : List Int) (out : Int) (l : List Int) : Prop := ∀ x ∈ l, (∃ i, 0 ≤ i ∧ i < out ∧ x = p.frm + 8 * i) ∧ x ∉ fr
theorem nd_rev {l : List Int} (h : l.Nodup) : l.reverse.Nodup := by
  unfold List.Nodup at h ⊢
  rw [List.pairwise_reverse]
  exact h.imp fun hab e => hab e.symm
/-- the deque from the end r on -/
structure DQ (m : Int → Int) (root : Int) (r : Bool) (l vs : List Int) : Prop where
  fwd : Lk m (sd !r) (m (root + sd r)) l
  bwd : Lk m (sd r) (m (root + sd !r)) l.reverse
  val : vs = l.map fun x => m (x + 2)
  n2 : m (root + 2) = l.length
  n7 : m (root + 7) = l.length
  nd : l.Nodup
theorem DQ.turn {m : Int → Int} {root : Int} {r : Bool} {l vs : List Int} (H : DQ m root r l vs) : DQ m root (!r) l.reverse vs.reverse := by
  refine ⟨by rw [Bool.not_not]; exact H.bwd, by rw [List.reverse_reverse, Bool.not_not]; exact H.fwd, ?_, by rw [List.length_reverse]; exact H.n2, by rw [List.length_reverse]; exact H.n7, nd_rev H.nd⟩
  rw [H.val, List.map_reverse]
theorem DQ.len {m : Int → Int} {root : Int} {r : Bool} {l vs : List Int} (H : DQ m root r l vs) : vs.length = l.length := by rw [H.val, List.length_map]
theorem DQ.ext {m m' : Int → Int} {root : Int} {r : Bool} {l vs : List Int} (H : DQ m root r l vs) (h1 : ∀ i, 0 ≤ i → i ≤ 7 → m' (root + i) = m (root + i)) (h2 : ∀ x ∈ l, ∀ i, 0 ≤ i → i ≤ 7 → m' (x + i) = m (x + i)) : DQ m' root r l vs := by
  have s1 := sd_in r; have s2 := sd_in (!r)
  refine ⟨?_, ?_, ?_, ?_, ?_, H.nd⟩
  · rw [h1 _ s1.1 (by omega)]; exact H.fwd.ext fun x hx => h2 x hx _ s2.1 (by omega)
  · rw [h1 _ s2.1 (by omega)]; exact H.bwd.ext fun x hx => h2 x (List.mem_reverse.1 hx) _ s1.1 (by omega)
  · rw [H.val]; exact List.map_congr_left fun x hx => (h2 x hx 2 (by omega) (by omega)).symm
  · rw [h1 2 (by omega) (by omega)]; exact H.n2
  · rw [h1 7 (by omega) (by omega)]; exact H.n7
theorem wp_ret' {α : Type} {p : Prog α} {σ : Spc} {Q : α → Spc → Prop} (h : wp (p >>= Prog.ret) σ Q) : wp p σ Q := by
  rw [wp_bind] at h; exact h

section
variable {D : Int → Prop} {σ0 σ σ' : Spc} {m : Int → Int} {c c' : Nat} {α β : Type} {Q : α → Spc → Prop} {p : Pl} {fr : List Int} {out root v : Int} {l vs : List Int} {r : Bool}
theorem wp_more {q : Unit → Prog α} (S : Sm D σ0 σ m c) {a n : Int} (ha : D a) (hl : σ0.pu.length + c ≤ big) (hk : ∀ σ', Sm D σ0 σ' (upd m a (w64 (m a + n))) (c + 1) → wp (q ()) σ' Q) : wp (dMore a n >>= q) σ Q := by
  unfold dMore
  rw [wp_bind]
  refine wp_get S ha fun σ1 S => ?_
  rw [← wp_bind]
  exact wp_put S ha (w64_in _) hl hk
/-- the cells that a change of a structure may turn -/
abbrev Same (p : Pl) (root : Int) (l : List Int) (m m' : Int → Int) : Prop := ∀ a, (∀ i, 0 ≤ i → i ≤ 2 → a ≠ p.root + i) → (∀ i, 0 ≤ i → i ≤ 7 → a ≠ root + i) → (∀ x ∈ l, ∀ i, 0 ≤ i → i ≤ 7 → a ≠ x + i) → m' a = m a

/-- what an allocation comes to -/
inductive Took (p : Pl) (fr : List Int) (out : Int) : Int → List Int → Int → Prop
  | free {n : Int} {fr' : List Int} : fr = n :: fr' → Took p fr out n fr' out
  | new : fr = [] → out < p.nodes → Took p fr out (p.frm + 8 * out) [] (out + 1)
theorem wp_took {q : Int × Int → Prog α} (S : Sm D σ0 σ m c) (P : PoolR m p fr out) (hD : PoolD D p) (hl : σ0.pu.length + c + 2 ≤ big)
    (h1 : ∀ n fr' out' σ' m', Took p fr out n fr' out' → (∃ i, 0 ≤ i ∧ i < out' ∧ n = p.frm + 8 * i) → n ∉ fr' → Sm D σ0 σ' m' (c + 2) → PoolR m' p fr' out' → (∀ a, a ≠ p.root → a ≠ p.root + 1 → a ≠ p.root + 2 → m' a = m a) → wp (q (n, 0)) σ' Q)
    (h2 : ∀ σ', fr = [] → out = p.nodes → Sm D σ0 σ' m c → wp (q (0, 9)) σ' Q) : wp (pTake p >>= q) σ Q := by
  refine wp_take S P hD hl (fun x fr' σ' m' e hx S' P' hm => ?_) (fun σ' m' e ho hx S' P' hm => ?_) h2
  · subst e
    exact h1 x fr' out σ' m' (.free rfl) (P.fN x (List.mem_cons_self ..)) (List.nodup_cons.1 P.nd).1 S' P' fun a a1 _ a3 => hm a a1 a3
  · exact h1 _ [] (out + 1) σ' m' (.new e ho) ⟨out, P.out0, by omega, rfl⟩ (by simp) S' P' fun a _ a2 _ => hm a a2

theorem Took.held {n : Int} {fr' : List Int} {out' : Int} (T : Took p fr out n fr' out') (P : PoolR m p fr out) (H : Held p fr out l) : n ∉ l ∧ Held p fr' out' l ∧ out ≤ out' ∧ (fr'.length : Int) - out' + 1 = fr.length - out := by
  cases T with
  | free e =>
    subst e
    refine ⟨fun hn => (H n hn).2 (List.mem_cons_self ..), fun x hx => ⟨(H x hx).1, fun h => (H x hx).2 (List.mem_cons_of_mem _ h)⟩, Int.le_refl _, ?_⟩
    simp only [List.length_cons]; omega
  | new e ho =>
    refine ⟨fun hn => ?_, fun x hx => ?_, by omega, ?_⟩
    · obtain ⟨⟨i, i0, i1, e2⟩, _⟩ := H _ hn
      omega
    · obtain ⟨⟨i, i0, i1, e2⟩, _⟩ := H x hx
      exact ⟨⟨i, i0, by omega, e2⟩, by simp⟩
    · rw [e]; simp only [List.length_nil]; omega

/-- undone: as before -/
theorem wp_undo {e : Int} {m1 : Int → Int} {q : Unit → Prog α} (S0 : Sm D σ σ m 0) (S : Sm D σ σ' m1 c) (he : e ≠ 0) (k : ∀ σ2, Sm D σ σ2 m 0 → wp (q ()) σ2 Q) : wp (dUn e σ.pu.length >>= q) σ' Q := by
  unfold dUn
  rw [if_pos he]
  exact wp_back S S0.vw S0.rg k
theorem wp_un0 {x : Int} {q : Unit → Prog α} (k : wp (q ()) σ Q) : wp (dUn 0 x >>= q) σ Q := by
  unfold dUn
  rw [if_neg (by simp)]
  exact k
theorem upd_if (m : Int → Int) (a v b : Int) : upd m a v b = if b = a then v else m b := rfl

theorem wp_dPush (S : Sm D σ σ m 0) (P : PoolR m p fr out) (hD : PoolD D p) (hRD : RootD D root) (hA : RA p root) (K : DQ m root r l vs) (H : Held p fr out l) (hv : R64 v) (hl : σ.pu.length + 12 ≤ big) :
    wp (dPush p root r v) σ fun e σ' => (∃ n fr' out' m', e = 0 ∧ Took p fr out n fr' out' ∧ Sm D σ σ' m' 12 ∧ PoolR m' p fr' out' ∧ DQ m' root r (n :: l) (v :: vs) ∧ Held p fr' out' (n :: l) ∧ Same p root (n :: l) m m') ∨
      (e = 9 ∧ fr = [] ∧ out = p.nodes ∧ Sm D σ σ' m 12) := by
  have g := P.good
  have g1 := g.f1; have g2 := g.f2; have g3 := g.n1; have g4 := g.r0
  obtain ⟨ra, rb⟩ := hA
  have s1 := sd_in r; have s2 := sd_in (!r); have s3 := sd_ne r
  unfold dPush
  refine wp_mark ?_
  refine wp_took S P hD (by omega) (fun n fr' out' σ1 m1 T hn hnf S1 P1 hm1 => ?_) fun σ1 e ho S1 => ?_
  rotate_left
  · rw [if_pos (by decide)]
    refine wp_undo S S1 (by decide) fun σ2 S2 => ?_
    exact .inr ⟨rfl, e, ho, S2.mono (by omega)⟩
  obtain ⟨hnl, H', ho', _⟩ := T.held P H
  have hp1 := P1.out1
  have hnn := hn
  obtain ⟨j, j0, j1, ej⟩ := hn
  have hnN : isN p n := ⟨j, j0, by omega, ej⟩
  rw [if_neg (by simp)]
  refine wp_get S1 (hRD _ s1.1 (by omega)) fun σ2 S2 => ?_
  have hen : m1 (root + sd r) = l.head?.getD 0 := by rw [hm1 _ (by omega) (by omega) (by omega)]; exact K.fwd.head
  have hD' : ∀ i, 0 ≤ i → i ≤ 7 → D (n + i) := hD.n n hnN
  refine wp_put S2 (hD' _ s1.1 (by omega)) ⟨by decide, by decide⟩ (by omega) fun σ3 S => ?_
  refine wp_put S (hD' _ s2.1 (by omega)) (S1.rg _) (by omega) fun σ4 S => ?_
  refine wp_put S (hD' 2 (by omega) (by omega)) hv (by omega) fun σ5 S => ?_
  -- the end of it
  have tail : ∀ (σ6 : Spc) (m6 : Int → Int) (c : Nat), c ≤ 8 → Sm D σ σ6 m6 c → (∀ a, (∀ i, 0 ≤ i → i ≤ 2 → a ≠ p.root + i) → a ≠ root + sd !r → a ≠ n + sd r → a ≠ n + sd !r → a ≠ n + 2 → (∀ x, l.head? = some x → a ≠ x + sd r) → m6 a = m a) →
      (∀ i, 0 ≤ i → i ≤ 2 → m6 (p.root + i) = m1 (p.root + i)) → m6 (n + sd r) = 0 → m6 (n + sd !r) = l.head?.getD 0 → m6 (n + 2) = v → (m6 (root + sd !r) = if l = [] then n else m (root + sd !r)) → (∀ x, l.head? = some x → m6 (x + sd r) = n) →
      wp (dPushT root n r) σ6 fun e σ' => (∃ n fr' out' m', e = 0 ∧ Took p fr out n fr' out' ∧ Sm D σ σ' m' 12 ∧ PoolR m' p fr' out' ∧ DQ m' root r (n :: l) (v :: vs) ∧ Held p fr' out' (n :: l) ∧ Same p root (n :: l) m m') ∨
        (e = 9 ∧ fr = [] ∧ out = p.nodes ∧ Sm D σ σ' m 12) := by
    intro σ6 m6 c hc S6 hm6 hp6 hn0 hn1 hn2 hr6 hx6
    unfold dPushT
    refine wp_put S6 (hRD _ s1.1 (by omega)) ⟨by omega, by omega⟩ (by omega) fun σ7 S => ?_
    refine wp_more S (hRD 2 (by omega) (by omega)) (by omega) fun σ8 S => ?_
    refine wp_more S (hRD 7 (by omega) (by omega)) (by omega) fun σ9 S => ?_
    refine wp_un0 ?_
    -- the nodes are apart
    have hidx : ∀ x ∈ l, ∃ i, 0 ≤ i ∧ i < out' ∧ i ≠ j ∧ x = p.frm + 8 * i := fun x hx => by
      obtain ⟨⟨i, i0, i1, e⟩, _⟩ := H' x hx
      exact ⟨i, i0, i1, fun h => hnl (by rw [ej, ← h, ← e]; exact hx), e⟩
    have hlen : (l.length : Int) ≤ 128 := by
      have := nodes_len (fun x hx => let ⟨i, a, b, _, d⟩ := hidx x hx; ⟨i, a, b, d⟩) K.nd P1.out0
      omega
    have e2 : m6 (root + 2) = l.length := by
      rw [hm6 _ (fun i h1 h2 => by omega) (by omega) (by omega) (by omega) (by omega) (fun x hx => by obtain ⟨i, _, _, _, e⟩ := hidx x (List.mem_of_head? hx); omega)]
      exact K.n2
    have e7 : m6 (root + 7) = l.length := by
      rw [hm6 _ (fun i h1 h2 => by omega) (by omega) (by omega) (by omega) (by omega) (fun x hx => by obtain ⟨i, _, _, _, e⟩ := hidx x (List.mem_of_head? hx); omega)]
      exact K.n7
    have e7' : upd (upd m6 (root + sd r) n) (root + 2) (w64 (upd m6 (root + sd r) n (root + 2) + 1)) (root + 7) = l.length := by
      rw [upd_ne _ _ (by omega), upd_ne _ _ (by omega)]; exact e7
    have e2' : upd m6 (root + sd r) n (root + 2) = l.length := by rw [upd_ne _ _ (by omega)]; exact e2
    rw [e7', e2', w64_R ⟨by omega, by omega⟩] at S
    -- what is where
    have at' : ∀ a, upd (upd (upd m6 (root + sd r) n) (root + 2) ((l.length : Int) + 1)) (root + 7) ((l.length : Int) + 1) a = if a = root + 7 then (l.length : Int) + 1 else if a = root + 2 then (l.length : Int) + 1 else if a = root + sd r then n else m6 a := fun a => rfl
    generalize upd (upd (upd m6 (root + sd r) n) (root + 2) ((l.length : Int) + 1)) (root + 7) ((l.length : Int) + 1) = m' at *
    have hf : ∀ a, (∀ i, 0 ≤ i → i ≤ 7 → a ≠ root + i) → m' a = m6 a := fun a ha => by
      rw [at', if_neg (ha 7 (by omega) (by omega)), if_neg (ha 2 (by omega) (by omega)), if_neg (ha _ s1.1 (by omega))]
    have hnode : ∀ x i, (∃ k, x = p.frm + 8 * k ∧ 0 ≤ k) → 0 ≤ i → i ≤ 7 → m' (x + i) = m6 (x + i) := fun x i ⟨k, e, k0⟩ i0 i1 => hf _ fun i' _ _ => by omega
    have hold : ∀ x ∈ l, ∀ i, 0 ≤ i → i ≤ 7 → (i = sd r → l.head? ≠ some x) → m' (x + i) = m (x + i) := fun x hx i i0 i1 hi => by
      obtain ⟨k, k0, k1, kj, e⟩ := hidx x hx
      rw [hnode x i ⟨k, e, k0⟩ i0 i1]
      refine hm6 _ (fun i' _ _ => by omega) (by omega) (by omega) (by omega) (by omega) fun y hy => ?_
      obtain ⟨k', k0', k1', kj', e'⟩ := hidx y (List.mem_of_head? hy)
      intro h
      have : k = k' := by omega
      subst this
      exact hi (by omega) (by rw [hy, e, e'])
    refine .inl ⟨n, fr', out', m', rfl, T, S.mono (by omega), ?_, ⟨?_, ?_, ?_, ?_, ?_, List.nodup_cons.2 ⟨hnl, K.nd⟩⟩, ?_, ?_⟩
    · refine P1.ext fun a ha => ?_
      have h6 : m' a = m6 a := hf a fun i i0 i1 => by
        rcases ha with h | h | h | h
        · omega
        · omega
        · omega
        · obtain ⟨k, k0, k1, e⟩ := P1.fN a h; omega
      rw [h6]
      rcases ha with h | h | h | h
      · have := hp6 0 (by omega) (by omega); rw [Int.add_zero] at this; rw [h]; exact this
      · rw [h]; exact hp6 1 (by omega) (by omega)
      · rw [h]; exact hp6 2 (by omega) (by omega)
      · obtain ⟨k, k0, k1, e⟩ := P1.fN a h
        have hkj : k ≠ j := fun hk => hnf (by rw [ej, ← hk, ← e]; exact h)
        rw [hm6 a (fun i _ _ => by omega) (by omega) (by omega) (by omega) (by omega) fun y hy => ?_, hm1 a (by omega) (by omega) (by omega)]
        obtain ⟨k', k0', k1', kj', e'⟩ := hidx y (List.mem_of_head? hy)
        intro h2
        have : k = k' := by omega
        exact (H' y (List.mem_of_head? hy)).2 (by rw [e', ← this, ← e]; exact h)
    · rw [at', if_neg (by omega), if_neg (by omega), if_pos rfl]
      refine ⟨rfl, ?_⟩
      rw [hnode n _ ⟨j, ej, j0⟩ s2.1 (by omega), hn1, ← K.fwd.head]
      exact K.fwd.ext fun x hx => hold x hx _ s2.1 (by omega) fun e => absurd e.symm s3
    · rw [List.reverse_cons]
      cases hll : l with
      | nil =>
        rw [at', if_neg (by omega), if_neg (by omega), if_neg (by omega), hr6, if_pos hll]
        exact ⟨rfl, by show m' (n + sd r) = 0; rw [hnode n _ ⟨j, ej, j0⟩ s1.1 (by omega)]; exact hn0⟩
      | cons y l2 =>
        rw [at', if_neg (by omega), if_neg (by omega), if_neg (by omega), hr6, if_neg (by rw [hll]; simp), ← hll]
        refine Lk.snoc K.bwd (fun x hx => ?_) (nd_rev K.nd) ?_ (fun e => ?_) (by rw [hll]; simp)
        · rw [List.getLast?_reverse]
          by_cases e : l.head? = some x
          · rw [if_pos e.symm]
            obtain ⟨k, k0, k1, kj, e'⟩ := hidx x (List.mem_reverse.1 hx)
            rw [hnode x _ ⟨k, e', k0⟩ s1.1 (by omega)]
            exact hx6 x e
          · rw [if_neg (fun h => e h.symm)]
            exact hold x (List.mem_reverse.1 hx) _ s1.1 (by omega) fun _ => e
        · rw [hnode n _ ⟨j, ej, j0⟩ s1.1 (by omega)]; exact hn0
        · rw [hll] at e; simp at e
    · rw [List.map_cons, hnode n 2 ⟨j, ej, j0⟩ (by omega) (by omega), hn2, K.val]
      congr 1
      exact List.map_congr_left fun x hx => (hold x hx 2 (by omega) (by omega) fun e => by omega).symm
    · rw [at', if_neg (by omega), if_pos rfl]; simp
    · rw [at', if_pos rfl]; simp
    · intro x hx
      rcases List.mem_cons.1 hx with rfl | hx
      · exact ⟨hnn, hnf⟩
      · exact H' x hx
    · intro a ha1 ha2 ha3
      rw [hf a ha2]
      refine hm6 a ha1 (ha2 _ s2.1 (by omega)) (ha3 n (List.mem_cons_self ..) _ s1.1 (by omega)) (ha3 n (List.mem_cons_self ..) _ s2.1 (by omega)) (ha3 n (List.mem_cons_self ..) 2 (by omega) (by omega)) fun x hx => ha3 x (List.mem_cons_of_mem _ (List.mem_of_head? hx)) _ s1.1 (by omega)
  rw [hen] at S ⊢
  have hx0 : ∀ x, l.head? = some x → ∃ i, 0 ≤ i ∧ i < out' ∧ i ≠ j ∧ x = p.frm + 8 * i := fun x hx => by
    obtain ⟨⟨i, i0, i1, e⟩, _⟩ := H' x (List.mem_of_head? hx)
    exact ⟨i, i0, i1, fun h => hnl (by rw [ej, ← h, ← e]; exact List.mem_of_head? hx), e⟩
  cases hll : l with
  | nil =>
    rw [show (([] : List Int).head?.getD 0) = 0 from rfl, if_pos rfl]
    rw [hll] at S
    refine wp_put S (hRD _ s2.1 (by omega)) ⟨by omega, by omega⟩ (by omega) fun σ6 S => ?_
    rw [hll] at tail
    refine tail σ6 _ _ (by omega) S (fun a a1 a2 a3 a4 a5 _ => ?_) (fun i i0 i1 => ?_) ?_ ?_ ?_ ?_ (fun x hx => by cases hx)
    · rw [upd_ne _ _ a2, upd_ne _ _ a5, upd_ne _ _ a4, upd_ne _ _ a3]
      have b0 := a1 0 (by omega) (by omega); have b1 := a1 1 (by omega) (by omega); have b2 := a1 2 (by omega) (by omega)
      exact hm1 a (by omega) b1 b2
    · rw [upd_ne _ _ (by omega), upd_ne _ _ (by omega), upd_ne _ _ (by omega), upd_ne _ _ (by omega)]
    · rw [upd_ne _ _ (by omega), upd_ne _ _ (by omega), upd_ne _ _ (by omega), upd_eq]
    · rw [upd_ne _ _ (by omega), upd_ne _ _ (by omega), upd_eq]
    · rw [upd_ne _ _ (by omega), upd_eq]
    · rw [upd_eq, if_pos rfl]
  | cons x l2 =>
    rw [hll] at S hx0 tail
    obtain ⟨i, i0, i1, hij, e⟩ := hx0 x rfl
    have hxN : isN p x := ⟨i, i0, by omega, e⟩
    rw [show ((x :: l2).head?.getD 0) = x from rfl, if_neg (by omega), if_pos (isN_node g hxN)]
    refine wp_put S (hD.n x hxN _ s1.1 (by omega)) ⟨by omega, by omega⟩ (by omega) fun σ6 S => ?_
    refine tail σ6 _ _ (by omega) S (fun a a1 a2 a3 a4 a5 a6 => ?_) (fun i i0 i1 => ?_) ?_ ?_ ?_ ?_ (fun y hy => ?_)
    · rw [upd_ne _ _ (a6 x rfl), upd_ne _ _ a5, upd_ne _ _ a4, upd_ne _ _ a3]
      have b0 := a1 0 (by omega) (by omega); have b1 := a1 1 (by omega) (by omega); have b2 := a1 2 (by omega) (by omega)
      exact hm1 a (by omega) b1 b2
    · rw [upd_ne _ _ (by omega), upd_ne _ _ (by omega), upd_ne _ _ (by omega), upd_ne _ _ (by omega)]
    · rw [upd_ne _ _ (by omega), upd_ne _ _ (by omega), upd_ne _ _ (by omega), upd_eq]
    · rw [upd_ne _ _ (by omega), upd_ne _ _ (by omega), upd_eq]
      try rfl
    · rw [upd_ne _ _ (by omega), upd_eq]
    · rw [upd_ne _ _ (by omega), upd_ne _ _ (by omega), upd_ne _ _ (by omega), upd_ne _ _ (by omega), if_neg (by simp)]
      exact hm1 _ (by omega) (by omega) (by omega)
    · have hy : x = y := by simpa using hy
      subst hy
      rw [upd_eq]

theorem wp_dPop (S : Sm D σ σ m 0) (P : PoolR m p fr out) (hD : PoolD D p) (hRD : RootD D root) (hA : RA p root) (K : DQ m root r l vs) (H : Held p fr out l) (hl : σ.pu.length + 20 ≤ big) :
    wp (dPop p root r) σ fun e σ' => (∃ n l' v vs' m', l = n :: l' ∧ vs = v :: vs' ∧ e = (v, 0) ∧ Sm D σ σ' m' 12 ∧ PoolR m' p (n :: fr) out ∧ DQ m' root r l' vs' ∧ Held p (n :: fr) out l' ∧ Same p root (n :: l') m m') ∨
      (e = (0, 8) ∧ l = [] ∧ vs = [] ∧ Sm D σ σ' m 12) := by
  have g := P.good
  have g1 := g.f1; have g2 := g.f2; have g3 := g.n1; have g4 := g.r0
  have hp1 := P.out1
  obtain ⟨ra, rb⟩ := hA
  have s1 := sd_in r; have s2 := sd_in (!r); have s3 := sd_ne r
  unfold dPop
  refine wp_mark ?_
  refine wp_get S (hRD _ s1.1 (by omega)) fun σ1 S1 => ?_
  cases l with
  | nil =>
    have e0 : m (root + sd r) = 0 := K.fwd
    rw [e0, if_pos rfl]
    refine wp_undo S S1 (by decide) fun σ2 S2 => ?_
    exact .inr ⟨rfl, rfl, by rw [K.val]; rfl, S2.mono (by omega)⟩
  | cons n l' =>
  have hne := K.fwd.1
  obtain ⟨hnl, hnd'⟩ := List.nodup_cons.1 K.nd
  obtain ⟨hnn, hnf⟩ := H n (List.mem_cons_self ..)
  have hnn' := hnn
  obtain ⟨j, j0, j1, ej⟩ := hnn
  have hnN : isN p n := ⟨j, j0, by omega, ej⟩
  have hidx : ∀ x ∈ l', ∃ i, 0 ≤ i ∧ i < out ∧ i ≠ j ∧ x = p.frm + 8 * i := fun x hx => by
    obtain ⟨⟨i, i0, i1, e⟩, _⟩ := H x (List.mem_cons_of_mem _ hx)
    exact ⟨i, i0, i1, fun h => hnl (by rw [ej, ← h, ← e]; exact hx), e⟩
  have hD' : ∀ i, 0 ≤ i → i ≤ 7 → D (n + i) := hD.n n hnN
  rw [hne, if_neg (by omega), if_pos (isN_node g hnN)]
  refine wp_get S1 (hD' _ s2.1 (by omega)) fun σ2 S2 => ?_
  have hnx : m (n + sd !r) = l'.head?.getD 0 := K.fwd.2.head
  have hlen : ((n :: l').length : Int) ≤ 128 := by
    have := nodes_len (fun x hx => (H x hx).1) K.nd P.out0
    omega
  -- the end of it
  have tail : ∀ (σ6 : Spc) (m6 : Int → Int) (c : Nat), c ≤ 2 → Sm D σ σ6 m6 c → (∀ a, a ≠ root + sd !r → (∀ x, l'.head? = some x → a ≠ x + sd r) → m6 a = m a) →
      (m6 (root + sd !r) = if l' = [] then 0 else m (root + sd !r)) → (∀ x, l'.head? = some x → m6 (x + sd r) = 0) →
      wp (dPopT p root n (l'.head?.getD 0) σ.pu.length r) σ6 fun e σ' => (∃ n0 l0 v vs' m', n :: l' = n0 :: l0 ∧ vs = v :: vs' ∧ e = (v, 0) ∧ Sm D σ σ' m' 12 ∧ PoolR m' p (n0 :: fr) out ∧ DQ m' root r l0 vs' ∧ Held p (n0 :: fr) out l0 ∧ Same p root (n0 :: l0) m m') ∨
        (e = (0, 8) ∧ n :: l' = [] ∧ vs = [] ∧ Sm D σ σ' m 12) := by
    intro σ6 m6 c hc S6 hm6 hr6 hx6
    unfold dPopT
    have hhd : R64 (l'.head?.getD 0) := by rw [← hnx]; exact S.rg _
    refine wp_put S6 (hRD _ s1.1 (by omega)) hhd (by omega) fun σ7 S => ?_
    refine wp_more S (hRD 2 (by omega) (by omega)) (by omega) fun σ8 S => ?_
    refine wp_more S (hRD 7 (by omega) (by omega)) (by omega) fun σ9 S => ?_
    refine wp_get S (hD' 2 (by omega) (by omega)) fun σ10 S => ?_
    have e2 : m6 (root + 2) = (n :: l').length := by
      rw [hm6 _ (by omega) (fun x hx => by obtain ⟨i, _, _, _, e⟩ := hidx x (List.mem_of_head? hx); omega)]
      exact K.n2
    have e7 : m6 (root + 7) = (n :: l').length := by
      rw [hm6 _ (by omega) (fun x hx => by obtain ⟨i, _, _, _, e⟩ := hidx x (List.mem_of_head? hx); omega)]
      exact K.n7
    have e7' : upd (upd m6 (root + sd r) (l'.head?.getD 0)) (root + 2) (w64 (upd m6 (root + sd r) (l'.head?.getD 0) (root + 2) + -1)) (root + 7) = (n :: l').length := by
      rw [upd_ne _ _ (by omega), upd_ne _ _ (by omega)]; exact e7
    have e2' : upd m6 (root + sd r) (l'.head?.getD 0) (root + 2) = (n :: l').length := by rw [upd_ne _ _ (by omega)]; exact e2
    have hlc : ((n :: l').length : Int) + -1 = l'.length := by simp only [List.length_cons]; omega
    rw [e7', e2', hlc, w64_R ⟨by omega, by simp only [List.length_cons] at hlen; omega⟩] at S ⊢
    have at' : ∀ a, upd (upd (upd m6 (root + sd r) (l'.head?.getD 0)) (root + 2) (l'.length : Int)) (root + 7) (l'.length : Int) a = if a = root + 7 then (l'.length : Int) else if a = root + 2 then (l'.length : Int) else if a = root + sd r then l'.head?.getD 0 else m6 a := fun a => rfl
    generalize upd (upd (upd m6 (root + sd r) (l'.head?.getD 0)) (root + 2) (l'.length : Int)) (root + 7) (l'.length : Int) = m7 at *
    have hf : ∀ a, (∀ i, 0 ≤ i → i ≤ 7 → a ≠ root + i) → m7 a = m6 a := fun a ha => by
      rw [at', if_neg (ha 7 (by omega) (by omega)), if_neg (ha 2 (by omega) (by omega)), if_neg (ha _ s1.1 (by omega))]
    have hnode : ∀ x i, (∃ k, x = p.frm + 8 * k ∧ 0 ≤ k) → 0 ≤ i → i ≤ 7 → m7 (x + i) = m6 (x + i) := fun x i ⟨k, e, k0⟩ i0 i1 => hf _ fun i' _ _ => by omega
    have hold : ∀ x, (∃ k, 0 ≤ k ∧ x = p.frm + 8 * k) → ∀ i, 0 ≤ i → i ≤ 7 → (i = sd r → l'.head? ≠ some x) → m7 (x + i) = m (x + i) := fun x ⟨k, k0, e⟩ i i0 i1 hi => by
      rw [hnode x i ⟨k, e, k0⟩ i0 i1]
      refine hm6 _ (by omega) fun y hy => ?_
      obtain ⟨k', k0', k1', kj', e'⟩ := hidx y (List.mem_of_head? hy)
      intro h
      have : k = k' := by omega
      subst this
      exact hi (by omega) (by rw [hy, e, e'])
    have hv : m7 (n + 2) = m (n + 2) := hold n ⟨j, j0, ej⟩ 2 (by omega) (by omega) fun e => by omega
    rw [hv]
    have P7 : PoolR m7 p fr out := P.ext fun a ha => by
      have h6 : m7 a = m6 a := hf a fun i i0 i1 => by
        rcases ha with h | h | h | h
        · omega
        · omega
        · omega
        · obtain ⟨k, k0, k1, e⟩ := P.fN a h; omega
      rw [h6]
      refine hm6 a ?_ fun y hy => ?_
      · rcases ha with h | h | h | h
        · omega
        · omega
        · omega
        · obtain ⟨k, k0, k1, e⟩ := P.fN a h; omega
      · obtain ⟨k', k0', k1', kj', e'⟩ := hidx y (List.mem_of_head? hy)
        rcases ha with h | h | h | h
        · omega
        · omega
        · omega
        · obtain ⟨k, k0, k1, e⟩ := P.fN a h
          intro h2
          have : k = k' := by omega
          exact (H y (List.mem_cons_of_mem _ (List.mem_of_head? hy))).2 (by rw [e', ← this, ← e]; exact h)
    refine wp_give S P7 hD (by omega) ej ⟨j0, j1⟩ hnf fun σ11 m' S P' hm' => ?_
    rw [if_neg (by simp)]
    refine wp_un0 ?_
    have hvs : vs = m (n + 2) :: l'.map fun x => m (x + 2) := K.val
    have hf' : ∀ a, a ≠ p.root → a ≠ p.root + 2 → a ≠ n → m' a = m7 a := hm'
    have hroot : ∀ i, 0 ≤ i → i ≤ 7 → m' (root + i) = m7 (root + i) := fun i i0 i1 => hf' _ (by omega) (by omega) (by omega)
    have hl' : ∀ x ∈ l', ∀ i, 0 ≤ i → i ≤ 7 → m' (x + i) = m7 (x + i) := fun x hx i i0 i1 => by
      obtain ⟨k, k0, k1, kj, e⟩ := hidx x hx
      exact hf' _ (by omega) (by omega) (by omega)
    refine .inl ⟨n, l', m (n + 2), l'.map fun x => m (x + 2), m', rfl, hvs, rfl, S.mono (by omega), P', ⟨?_, ?_, ?_, ?_, ?_, hnd'⟩, ?_, ?_⟩
    · rw [hroot _ s1.1 (by omega), at', if_neg (by omega), if_neg (by omega), if_pos rfl, ← hnx]
      refine K.fwd.2.ext fun x hx => ?_
      obtain ⟨k, k0, k1, kj, e⟩ := hidx x hx
      rw [hl' x hx _ s2.1 (by omega)]
      exact hold x ⟨k, k0, e⟩ _ s2.1 (by omega) fun e => absurd e.symm s3
    · rw [hroot _ s2.1 (by omega), at', if_neg (by omega), if_neg (by omega), if_neg (by omega), hr6]
      cases hll : l' with
      | nil => rw [if_pos rfl]; rfl
      | cons y l2 =>
        rw [if_neg (by simp), ← hll]
        have hb := K.bwd
        rw [List.reverse_cons] at hb
        refine Lk.unsnoc hb (fun x hx => ?_) (by rw [← List.reverse_cons]; exact nd_rev K.nd) (by rw [hll]; simp)
        have hx := List.mem_reverse.1 hx
        obtain ⟨k, k0, k1, kj, e⟩ := hidx x hx
        rw [hl' x hx _ s1.1 (by omega), List.getLast?_reverse]
        by_cases e' : l'.head? = some x
        · rw [if_pos e'.symm, hnode x _ ⟨k, e, k0⟩ s1.1 (by omega)]
          exact hx6 x e'
        · rw [if_neg (fun h => e' h.symm)]
          exact hold x ⟨k, k0, e⟩ _ s1.1 (by omega) fun _ => e'
    · exact List.map_congr_left fun x hx => by
        obtain ⟨k, k0, k1, kj, e⟩ := hidx x hx
        rw [hl' x hx 2 (by omega) (by omega)]
        exact (hold x ⟨k, k0, e⟩ 2 (by omega) (by omega) fun e => by omega).symm
    · rw [hroot 2 (by omega) (by omega), at', if_neg (by omega), if_pos rfl]
    · rw [hroot 7 (by omega) (by omega), at', if_pos rfl]
    · intro x hx
      obtain ⟨h1, h2⟩ := H x (List.mem_cons_of_mem _ hx)
      refine ⟨h1, fun hm => ?_⟩
      rcases List.mem_cons.1 hm with e | hm
      · exact hnl (e ▸ hx)
      · exact h2 hm
    · intro a ha1 ha2 ha3
      have b0 := ha1 0 (by omega) (by omega)
      have b3 := ha3 n (List.mem_cons_self ..) 0 (by omega) (by omega)
      rw [hf' a (by omega) (ha1 2 (by omega) (by omega)) (by omega), hf a ha2]
      exact hm6 a (ha2 _ s2.1 (by omega)) fun x hx => ha3 x (List.mem_cons_of_mem _ (List.mem_of_head? hx)) _ s1.1 (by omega)
  rw [hnx]
  cases hll : l' with
  | nil =>
    rw [show (([] : List Int).head?.getD 0) = 0 from rfl, if_pos rfl]
    refine wp_put S2 (hRD _ s2.1 (by omega)) ⟨by decide, by decide⟩ (by omega) fun σ6 S => ?_
    rw [hll] at tail
    refine tail σ6 _ _ (by omega) S (fun a a1 _ => upd_ne _ _ a1) ?_ (fun x hx => by cases hx)
    rw [upd_eq, if_pos rfl]
  | cons x l2 =>
    rw [hll] at hidx tail
    obtain ⟨i, i0, i1, hij, e⟩ := hidx x (List.mem_cons_self ..)
    have hxN : isN p x := ⟨i, i0, by omega, e⟩
    rw [show ((x :: l2).head?.getD 0) = x from rfl, if_neg (by omega), if_pos (isN_node g hxN)]
    refine wp_put S2 (hD.n x hxN _ s1.1 (by omega)) ⟨by decide, by decide⟩ (by omega) fun σ6 S => ?_
    refine tail σ6 _ _ (by omega) S (fun a a1 a2 => upd_ne _ _ (a2 x rfl)) ?_ (fun y hy => ?_)
    · rw [upd_ne _ _ (by omega), if_neg (by simp)]
    · have hy : x = y := by simpa using hy
      subst hy
      rw [upd_eq]
theorem wp_dPeek (S : Sm D σ σ m 0) (P : PoolR m p fr out) (hD : PoolD D p) (hRD : RootD D root) (K : DQ m root r l vs) (H : Held p fr out l) :
    wp (dPeek root r) σ fun e σ' => Sm D σ σ' m 0 ∧ ((∃ v vs', vs = v :: vs' ∧ e = (v, 0)) ∨ (vs = [] ∧ e = (0, 8))) := by
  have s1 := sd_in r
  have g := P.good
  have g1 := g.f1
  have hp1 := P.out1
  unfold dPeek
  refine wp_get S (hRD _ s1.1 (by omega)) fun σ1 S1 => ?_
  cases l with
  | nil =>
    have e0 : m (root + sd r) = 0 := K.fwd
    rw [e0, if_pos rfl]
    exact ⟨S1, .inr ⟨K.val, rfl⟩⟩
  | cons n l' =>
    obtain ⟨⟨j, j0, j1, ej⟩, _⟩ := H n (List.mem_cons_self ..)
    have hnN : isN p n := ⟨j, j0, by omega, ej⟩
    have g2 := g.f2; have g3 := g.n1
    rw [K.fwd.1, if_neg (by omega), w64_R ⟨by omega, by omega⟩]
    refine wp_get S1 (hD.n n hnN 2 (by omega) (by omega)) fun σ2 S2 => ?_
    exact ⟨S2, .inl ⟨_, _, K.val, rfl⟩⟩
theorem wp_dLoop (g : p.good) (hD : PoolD D p) : ∀ (l : List Int) (k : Nat) (a : Int) (acc : List Int) (σ' : Spc), Sm D σ σ' m c → Lk m (sd !r) a l → (∀ x ∈ l, isN p x) → l.length ≤ k →
    wp (dLoop p r k a acc) σ' fun o σ2 => o = some (acc ++ l.map fun x => m (x + 2)) ∧ Sm D σ σ2 m c
  | [], k, a, acc, σ', S, h, _, _ => by
    have e : a = 0 := h
    cases k with
    | zero => unfold dLoop; rw [if_pos e]; exact ⟨by simp, S⟩
    | succ k => unfold dLoop; rw [if_pos e]; exact ⟨by simp, S⟩
  | x :: l, k, a, acc, σ', S, h, hN, hl => by
    have s2 := sd_in (!r)
    obtain ⟨rfl, h⟩ := h
    have hx := hN a (List.mem_cons_self ..)
    have hp := isN_pos g hx
    cases k with
    | zero => simp at hl
    | succ k =>
      unfold dLoop
      rw [if_neg (by omega), if_pos (isN_node g hx)]
      refine wp_get S (hD.n a hx 2 (by omega) (by omega)) fun σ1 S => ?_
      refine wp_get S (hD.n a hx _ s2.1 (by omega)) fun σ2 S => ?_
      refine Prog.wp_mono (wp_dLoop g hD l k _ _ _ S h (fun y hy => hN y (List.mem_cons_of_mem _ hy)) (by simpa using hl)) fun o σ3 ⟨e, S⟩ => ⟨by rw [e, List.append_assoc]; rfl, S⟩
theorem wp_dWalk (S : Sm D σ σ m 0) (P : PoolR m p fr out) (hD : PoolD D p) (hRD : RootD D root) (K : DQ m root r l vs) (H : Held p fr out l) : wp (dWalk p root r) σ fun o σ' => o = some vs ∧ Sm D σ σ' m 0 := by
  have s1 := sd_in r
  have hp1 := P.out1
  unfold dWalk
  refine wp_get S (hRD _ s1.1 (by omega)) fun σ1 S1 => ?_
  have hlen := nodes_len (fun x hx => (H x hx).1) K.nd P.out0
  refine Prog.wp_mono (wp_dLoop P.good hD l _ _ [] _ S1 K.fwd (fun x hx => by obtain ⟨⟨i, i0, i1, e⟩, _⟩ := H x hx; exact ⟨i, i0, by omega, e⟩) (by omega)) fun o σ2 ⟨e, S⟩ => ⟨by rw [e, K.val]; rfl, S⟩
end
end Go.En
namespace Go.En
open Prog Spc

/-- the stack from the top down -/
structure SK (m : Int → Int) (root : Int) (l vs : List Int) : Prop where
  lk : Lk m 0 (m root) l
  val : vs = l.map fun x => m (x + 1)
  n1 : m (root + 1) = l.length
  n7 : m (root + 7) = l.length
  nd : l.Nodup
theorem SK.len {m : Int → Int} {root : Int} {l vs : List Int} (H : SK m root l vs) : vs.length = l.length := by rw [H.val, List.length_map]
theorem SK.ext {m m' : Int → Int} {root : Int} {l vs : List Int} (H : SK m root l vs) (h1 : ∀ i, 0 ≤ i → i ≤ 7 → m' (root + i) = m (root + i)) (h2 : ∀ x ∈ l, ∀ i, 0 ≤ i → i ≤ 7 → m' (x + i) = m (x + i)) : SK m' root l vs := by
  have h0 := h1 0 (by omega) (by omega)
  rw [Int.add_zero] at h0
  refine ⟨?_, ?_, ?_, ?_, H.nd⟩
  · rw [h0]; exact H.lk.ext fun x hx => h2 x hx 0 (by omega) (by omega)
  · rw [H.val]; exact List.map_congr_left fun x hx => (h2 x hx 1 (by omega) (by omega)).symm
  · rw [h1 1 (by omega) (by omega)]; exact H.n1
  · rw [h1 7 (by omega) (by omega)]; exact H.n7
/-- the answer of Top and of Pop -/
def topV : List Int → Int × Int
  | [] => (0, 8)
  | v :: _ => (v, 0)
section
variable {D : Int → Prop} {σ0 σ σ' : Spc} {m : Int → Int} {c c' : Nat} {α β : Type} {Q : α → Spc → Prop} {p : Pl} {fr : List Int} {out root v : Int} {l vs : List Int}
theorem wp_sMore {q : Unit → Prog α} {n : Int} (S : Sm D σ0 σ m c) (hRD : RootD D root) (hl : σ0.pu.length + c + 2 ≤ big)
    (hk : ∀ σ', Sm D σ0 σ' (upd (upd m (root + 1) (w64 (m (root + 1) + n))) (root + 7) (w64 (m (root + 7) + n))) (c + 2) → wp (q ()) σ' Q) : wp (sMore root n >>= q) σ Q := by
  unfold sMore
  show wp (dMore (root + 1) n >>= fun _ => dMore (root + 7) n >>= q) σ Q
  refine wp_more S (hRD 1 (by omega) (by omega)) (by omega) fun σ1 S => ?_
  refine wp_more S (hRD 7 (by omega) (by omega)) (by omega) fun σ2 S => ?_
  rw [upd_ne _ _ (show root + 7 ≠ root + 1 by omega)] at S
  exact hk _ S
theorem wp_sPush (S : Sm D σ σ m 0) (P : PoolR m p fr out) (hD : PoolD D p) (hRD : RootD D root) (hA : RA p root) (K : SK m root l vs) (H : Held p fr out l) (hv : R64 v) (hl : σ.pu.length + 12 ≤ big) :
    wp (sPush p root v) σ fun e σ' => (∃ n fr' out' m', e = 0 ∧ Took p fr out n fr' out' ∧ Sm D σ σ' m' 12 ∧ PoolR m' p fr' out' ∧ SK m' root (n :: l) (v :: vs) ∧ Held p fr' out' (n :: l) ∧ Same p root (n :: l) m m') ∨
      (e = 9 ∧ fr = [] ∧ out = p.nodes ∧ Sm D σ σ' m 12) := by
  have g := P.good
  have g1 := g.f1; have g2 := g.f2; have g3 := g.n1; have g4 := g.r0
  obtain ⟨ra, rb⟩ := hA
  have r0 := hRD 0 (by omega) (by omega)
  rw [Int.add_zero] at r0
  unfold sPush
  refine wp_mark ?_
  refine wp_took S P hD (by omega) (fun n fr' out' σ1 m1 T hn hnf S1 P1 hm1 => ?_) fun σ1 e ho S1 => ?_
  rotate_left
  · rw [if_pos (by decide)]
    refine wp_undo S S1 (by decide) fun σ2 S2 => ?_
    exact .inr ⟨rfl, e, ho, S2.mono (by omega)⟩
  obtain ⟨hnl, H', ho', _⟩ := T.held P H
  have hp1 := P1.out1
  have hnn := hn
  obtain ⟨j, j0, j1, ej⟩ := hn
  have hnN : isN p n := ⟨j, j0, by omega, ej⟩
  have hidx : ∀ x ∈ l, ∃ i, 0 ≤ i ∧ i < out' ∧ i ≠ j ∧ x = p.frm + 8 * i := fun x hx => by
    obtain ⟨⟨i, i0, i1, e⟩, _⟩ := H' x hx
    exact ⟨i, i0, i1, fun h => hnl (by rw [ej, ← h, ← e]; exact hx), e⟩
  have hlen : (l.length : Int) ≤ 128 := by
    have := nodes_len (fun x hx => let ⟨i, a, b, _, d⟩ := hidx x hx; ⟨i, a, b, d⟩) K.nd P1.out0
    omega
  have hD' : ∀ i, 0 ≤ i → i ≤ 7 → D (n + i) := hD.n n hnN
  have hD0 := hD' 0 (by omega) (by omega)
  rw [Int.add_zero] at hD0
  rw [if_neg (by simp)]
  have hnR : R64 n := ⟨by omega, by omega⟩
  refine wp_get S1 r0 fun σ2 S2 => ?_
  refine wp_put S2 hD0 (S1.rg _) (by omega) fun σ3 S => ?_
  refine wp_put S (hD' 1 (by omega) (by omega)) hv (by omega) fun σ4 S => ?_
  refine wp_put S r0 hnR (by omega) fun σ5 S => ?_
  refine wp_sMore S hRD (by omega) fun σ6 S => ?_
  refine wp_un0 ?_
  have em : ∀ a, (∀ i, 0 ≤ i → i ≤ 2 → a ≠ p.root + i) → m1 a = m a := fun a h => hm1 a (by have := h 0; omega) (by have := h 1; omega) (by have := h 2; omega)
  have er : m1 root = m root := em _ fun i _ _ => by omega
  have e1 : m1 (root + 1) = m (root + 1) := em _ fun i _ _ => by omega
  have e7 : m1 (root + 7) = m (root + 7) := em _ fun i _ _ => by omega
  have e1' : (upd (upd (upd m1 n (m1 root)) (n + 1) v) root n) (root + 1) = l.length := by
    rw [upd_ne _ _ (by omega), upd_ne _ _ (by omega), upd_ne _ _ (by omega), e1]; exact K.n1
  have e7' : (upd (upd (upd m1 n (m1 root)) (n + 1) v) root n) (root + 7) = l.length := by
    rw [upd_ne _ _ (by omega), upd_ne _ _ (by omega), upd_ne _ _ (by omega), e7]; exact K.n7
  rw [e1', e7', w64_R ⟨by omega, by omega⟩] at S
  have hsame : ∀ a, a ≠ n → a ≠ n + 1 → a ≠ root → a ≠ root + 1 → a ≠ root + 7 → upd (upd (upd (upd (upd m1 n (m1 root)) (n + 1) v) root n) (root + 1) (l.length + 1)) (root + 7) (l.length + 1) a = m1 a := fun a h1 h2 h3 h4 h5 => by
    rw [upd_ne _ _ h5, upd_ne _ _ h4, upd_ne _ _ h3, upd_ne _ _ h2, upd_ne _ _ h1]
  have hroot : upd (upd (upd (upd (upd m1 n (m1 root)) (n + 1) v) root n) (root + 1) (l.length + 1)) (root + 7) (l.length + 1) root = n := by
    rw [upd_ne _ _ (by omega), upd_ne _ _ (by omega), upd_eq]
  have hn0 : upd (upd (upd (upd (upd m1 n (m1 root)) (n + 1) v) root n) (root + 1) (l.length + 1)) (root + 7) (l.length + 1) n = m root := by
    rw [upd_ne _ _ (by omega), upd_ne _ _ (by omega), upd_ne _ _ (by omega), upd_ne _ _ (by omega), upd_eq, er]
  have hn1 : upd (upd (upd (upd (upd m1 n (m1 root)) (n + 1) v) root n) (root + 1) (l.length + 1)) (root + 7) (l.length + 1) (n + 1) = v := by
    rw [upd_ne _ _ (by omega), upd_ne _ _ (by omega), upd_ne _ _ (by omega), upd_eq]
  have hr1 : upd (upd (upd (upd (upd m1 n (m1 root)) (n + 1) v) root n) (root + 1) (l.length + 1)) (root + 7) (l.length + 1) (root + 1) = l.length + 1 := by
    rw [upd_ne _ _ (by omega), upd_eq]
  have hr7 : upd (upd (upd (upd (upd m1 n (m1 root)) (n + 1) v) root n) (root + 1) (l.length + 1)) (root + 7) (l.length + 1) (root + 7) = l.length + 1 := upd_eq _ _ _
  refine .inl ⟨n, fr', out', _, rfl, T, S.mono (by omega), P1.ext fun a ha => ?_, ?_, fun x hx => ?_, fun a h1 h2 h3 => ?_⟩
  · refine hsame a ?_ ?_ ?_ ?_ ?_
    all_goals
      rcases ha with rfl | rfl | rfl | ha
      · omega
      · omega
      · omega
      · have hne : a ≠ n := fun e => hnf (e ▸ ha)
        obtain ⟨i, i0, i1, e⟩ := P1.fN a ha
        omega
  · generalize upd (upd (upd (upd (upd m1 n (m1 root)) (n + 1) v) root n) (root + 1) (l.length + 1)) (root + 7) (l.length + 1) = m' at *
    have hx : ∀ x ∈ l, ∀ i, 0 ≤ i → i ≤ 7 → m' (x + i) = m (x + i) := fun x hx i i0 i7 => by
      obtain ⟨k, k0, k1, kj, e⟩ := hidx x hx
      rw [hsame _ (by omega) (by omega) (by omega) (by omega) (by omega), em _ fun i _ _ => by omega]
    refine ⟨⟨hroot, ?_⟩, ?_, by rw [hr1]; simp, by rw [hr7]; simp, List.nodup_cons.2 ⟨hnl, K.nd⟩⟩
    · rw [Int.add_zero, hn0]
      exact K.lk.ext fun x h => hx x h 0 (by omega) (by omega)
    · rw [List.map_cons, hn1, K.val]
      congr 1
      exact List.map_congr_left fun x h => (hx x h 1 (by omega) (by omega)).symm
  · rcases List.mem_cons.1 hx with rfl | hx
    · exact ⟨hnn, hnf⟩
    · exact H' x hx
  · have n0 := h3 n (List.mem_cons_self ..)
    rw [hsame a (by have := n0 0; omega) (n0 1 (by omega) (by omega)) (by have := h2 0; omega) (h2 1 (by omega) (by omega)) (h2 7 (by omega) (by omega)), em a h1]
theorem wp_sPop (S : Sm D σ σ m 0) (P : PoolR m p fr out) (hD : PoolD D p) (hRD : RootD D root) (hA : RA p root) (K : SK m root l vs) (H : Held p fr out l) (hl : σ.pu.length + 12 ≤ big) :
    wp (sPop p root) σ fun e σ' => (∃ n l' v vs' m', l = n :: l' ∧ vs = v :: vs' ∧ e = (v, 0) ∧ Sm D σ σ' m' 12 ∧ PoolR m' p (n :: fr) out ∧ SK m' root l' vs' ∧ Held p (n :: fr) out l' ∧ Same p root (n :: l') m m') ∨
      (e = (0, 8) ∧ l = [] ∧ vs = [] ∧ Sm D σ σ' m 12) := by
  have g := P.good
  have g1 := g.f1; have g2 := g.f2; have g3 := g.n1; have g4 := g.r0
  have hp1 := P.out1
  obtain ⟨ra, rb⟩ := hA
  have r0 := hRD 0 (by omega) (by omega)
  rw [Int.add_zero] at r0
  unfold sPop
  refine wp_mark ?_
  refine wp_get S r0 fun σ1 S1 => ?_
  cases l with
  | nil =>
    have e0 : m root = 0 := K.lk
    rw [e0, if_pos rfl]
    refine wp_undo S S1 (by decide) fun σ2 S2 => ?_
    exact .inr ⟨rfl, rfl, by rw [K.val]; rfl, S2.mono (by omega)⟩
  | cons n l' =>
  obtain ⟨hne, hlk⟩ := K.lk
  rw [Int.add_zero] at hlk
  obtain ⟨hnl, hnd'⟩ := List.nodup_cons.1 K.nd
  obtain ⟨hnn, hnf⟩ := H n (List.mem_cons_self ..)
  have hnn' := hnn
  obtain ⟨j, j0, j1, ej⟩ := hnn
  have hnN : isN p n := ⟨j, j0, by omega, ej⟩
  have hidx : ∀ x ∈ l', ∃ i, 0 ≤ i ∧ i < out ∧ i ≠ j ∧ x = p.frm + 8 * i := fun x hx => by
    obtain ⟨⟨i, i0, i1, e⟩, _⟩ := H x (List.mem_cons_of_mem _ hx)
    exact ⟨i, i0, i1, fun h => hnl (by rw [ej, ← h, ← e]; exact hx), e⟩
  have hlen : ((n :: l').length : Int) ≤ 128 := by
    have := nodes_len (fun x hx => (H x hx).1) K.nd P.out0
    omega
  rw [List.length_cons] at hlen
  have hD' : ∀ i, 0 ≤ i → i ≤ 7 → D (n + i) := hD.n n hnN
  have hD0 := hD' 0 (by omega) (by omega)
  rw [Int.add_zero] at hD0
  rw [hne, if_neg (by omega), if_pos (isN_node g hnN)]
  refine wp_get S1 hD0 fun σ2 S2 => ?_
  refine wp_get S2 (hD' 1 (by omega) (by omega)) fun σ3 S3 => ?_
  refine wp_give S3 P hD (by omega) ej ⟨j0, j1⟩ hnf fun σ4 m4 S4 P4 hm4 => ?_
  rw [if_neg (by simp)]
  refine wp_put S4 r0 (S.rg _) (by omega) fun σ5 S => ?_
  refine wp_sMore S hRD (by omega) fun σ6 S => ?_
  refine wp_un0 ?_
  have em : ∀ a, (∀ i, 0 ≤ i → i ≤ 2 → a ≠ p.root + i) → a ≠ n → m4 a = m a := fun a h h' => hm4 a (by have := h 0; omega) (by have := h 2; omega) h'
  have e1' : upd m4 root (m n) (root + 1) = l'.length + 1 := by
    rw [upd_ne _ _ (by omega), em _ (fun i _ _ => by omega) (by omega), K.n1]; simp
  have e7' : upd m4 root (m n) (root + 7) = l'.length + 1 := by
    rw [upd_ne _ _ (by omega), em _ (fun i _ _ => by omega) (by omega), K.n7]; simp
  rw [e1', e7', show ((l'.length : Int) + 1 + -1) = l'.length by omega, w64_R ⟨by omega, by omega⟩] at S
  have hsame : ∀ a, a ≠ root → a ≠ root + 1 → a ≠ root + 7 → upd (upd (upd m4 root (m n)) (root + 1) l'.length) (root + 7) l'.length a = m4 a := fun a h3 h4 h5 => by
    rw [upd_ne _ _ h5, upd_ne _ _ h4, upd_ne _ _ h3]
  have hroot : upd (upd (upd m4 root (m n)) (root + 1) l'.length) (root + 7) l'.length root = m n := by
    rw [upd_ne _ _ (by omega), upd_ne _ _ (by omega), upd_eq]
  have hr1 : upd (upd (upd m4 root (m n)) (root + 1) l'.length) (root + 7) l'.length (root + 1) = l'.length := by
    rw [upd_ne _ _ (by omega), upd_eq]
  have hr7 : upd (upd (upd m4 root (m n)) (root + 1) l'.length) (root + 7) l'.length (root + 7) = l'.length := upd_eq _ _ _
  refine .inl ⟨n, l', m (n + 1), l'.map (fun x => m (x + 1)), _, rfl, K.val, rfl, S.mono (by omega), P4.ext fun a ha => ?_, ?_, fun x hx => ?_, fun a h1 h2 h3 => ?_⟩
  · refine hsame a ?_ ?_ ?_
    all_goals
      rcases ha with rfl | rfl | rfl | ha
      · omega
      · omega
      · omega
      · obtain ⟨i, i0, i1, e⟩ := P4.fN a ha
        omega
  · generalize upd (upd (upd m4 root (m n)) (root + 1) l'.length) (root + 7) l'.length = m' at *
    have hx : ∀ x ∈ l', ∀ i, 0 ≤ i → i ≤ 7 → m' (x + i) = m (x + i) := fun x hx i i0 i7 => by
      obtain ⟨k, k0, k1, kj, e⟩ := hidx x hx
      rw [hsame _ (by omega) (by omega) (by omega), em _ (fun i _ _ => by omega) (by omega)]
    refine ⟨?_, ?_, hr1, hr7, hnd'⟩
    · rw [hroot]
      exact hlk.ext fun x h => hx x h 0 (by omega) (by omega)
    · exact List.map_congr_left fun x h => (hx x h 1 (by omega) (by omega)).symm
  · obtain ⟨h1, h2⟩ := H x (List.mem_cons_of_mem _ hx)
    refine ⟨h1, fun h => ?_⟩
    rcases List.mem_cons.1 h with rfl | h
    · exact hnl hx
    · exact h2 h
  · have n0 := h3 n (List.mem_cons_self ..)
    rw [hsame a (by have := h2 0; omega) (h2 1 (by omega) (by omega)) (h2 7 (by omega) (by omega)), em a h1 (by have := n0 0; omega)]
theorem wp_sTop (S : Sm D σ σ m 0) (P : PoolR m p fr out) (hD : PoolD D p) (hRD : RootD D root) (K : SK m root l vs) (H : Held p fr out l) :
    wp (sTop root) σ fun e σ' => Sm D σ σ' m 0 ∧ e = topV vs := by
  have g := P.good
  have g1 := g.f1
  have hp1 := P.out1
  have r0 := hRD 0 (by omega) (by omega)
  rw [Int.add_zero] at r0
  unfold sTop
  refine wp_get S r0 fun σ1 S1 => ?_
  cases l with
  | nil =>
    have e0 : m root = 0 := K.lk
    rw [e0, if_pos rfl]
    refine ⟨S1, ?_⟩
    rw [K.val]; rfl
  | cons n l' =>
    obtain ⟨⟨j, j0, j1, ej⟩, _⟩ := H n (List.mem_cons_self ..)
    have hnN : isN p n := ⟨j, j0, by omega, ej⟩
    rw [K.lk.1, if_neg (by omega)]
    refine wp_get S1 (hD.n n hnN 1 (by omega) (by omega)) fun σ2 S2 => ?_
    refine ⟨S2, ?_⟩
    rw [K.val]; rfl
theorem wp_sLoop (g : p.good) (hD : PoolD D p) : ∀ (l : List Int) (k : Nat) (a : Int) (acc : List Int) (σ' : Spc), Sm D σ σ' m c → Lk m 0 a l → (∀ x ∈ l, isN p x) → l.length ≤ k →
    wp (sLoop p k a acc) σ' fun o σ2 => o = some (acc ++ l.map fun x => m (x + 1)) ∧ Sm D σ σ2 m c
  | [], k, a, acc, σ', S, h, _, _ => by
    have e : a = 0 := h
    cases k with
    | zero => unfold sLoop; rw [if_pos e]; exact ⟨by simp, S⟩
    | succ k => unfold sLoop; rw [if_pos e]; exact ⟨by simp, S⟩
  | x :: l, k, a, acc, σ', S, h, hN, hl => by
    obtain ⟨rfl, h⟩ := h
    rw [Int.add_zero] at h
    have hx := hN a (List.mem_cons_self ..)
    have hp := isN_pos g hx
    have hD0 := hD.n a hx 0 (by omega) (by omega)
    rw [Int.add_zero] at hD0
    cases k with
    | zero => simp at hl
    | succ k =>
      unfold sLoop
      rw [if_neg (by omega), if_pos (isN_node g hx)]
      refine wp_get S (hD.n a hx 1 (by omega) (by omega)) fun σ1 S => ?_
      refine wp_get S hD0 fun σ2 S => ?_
      refine Prog.wp_mono (wp_sLoop g hD l k _ _ _ S h (fun y hy => hN y (List.mem_cons_of_mem _ hy)) (by simpa using hl)) fun o σ3 ⟨e, S⟩ => ⟨by rw [e, List.append_assoc]; rfl, S⟩
theorem wp_sWalk (S : Sm D σ σ m 0) (P : PoolR m p fr out) (hD : PoolD D p) (hRD : RootD D root) (K : SK m root l vs) (H : Held p fr out l) : wp (sWalk p root) σ fun o σ' => o = some vs ∧ Sm D σ σ' m 0 := by
  have hp1 := P.out1
  have r0 := hRD 0 (by omega) (by omega)
  rw [Int.add_zero] at r0
  unfold sWalk
  refine wp_get S r0 fun σ1 S1 => ?_
  have hlen := nodes_len (fun x hx => (H x hx).1) K.nd P.out0
  refine Prog.wp_mono (wp_sLoop P.good hD l _ _ [] _ S1 K.lk (fun x hx => by obtain ⟨⟨i, i0, i1, e⟩, _⟩ := H x hx; exact ⟨i, i0, by omega, e⟩) (by omega)) fun o σ2 ⟨e, S⟩ => ⟨by rw [e, K.val]; rfl, S⟩
end
end Go.En
namespace Go.En
open Prog Spc

abbrev p33 (n : Int) : Pl := ⟨1, 64, n⟩
abbrev D33 : Int → Prop := fun a => 0 ≤ a ∧ a < 192
structure R33 (n r r' : Int) : Prop where
  n : 0 ≤ n ∧ n ≤ 16
  r : r = 8 ∧ r' = 16 ∨ r = 16 ∧ r' = 8
theorem R33.swap {n r r' : Int} (h : R33 n r r') : R33 n r' r := ⟨h.n, h.r.symm.imp And.symm And.symm⟩
theorem p33_good {n : Int} (h : 0 ≤ n ∧ n ≤ 16) : (p33 n).good := ⟨by show (0 : Int) ≤ 1; decide, by show (1 : Int) ≤ 64; decide, h.1, by show n ≤ 128; omega, by show (1 : Int) ≤ 4093; decide, by show 64 + 8 * n ≤ 4096; omega, .inr (.inl (by show (1 : Int) + 3 ≤ 64; decide))⟩
theorem p33_D {n : Int} (h : 0 ≤ n ∧ n ≤ 16) : PoolD D33 (p33 n) := by
  refine ⟨fun i h0 h1 => ⟨by show 0 ≤ 1 + i; omega, by show 1 + i < _; omega⟩, fun x hx i h0 h1 => ?_⟩
  obtain ⟨j, j0, j1, rfl⟩ := hx
  have j1 : j < n := j1
  exact ⟨by show 0 ≤ 64 + 8 * j + i; omega, by show 64 + 8 * j + i < _; omega⟩
section
variable {n r r' v : Int} {σ0 σ σ' : Spc} {vs vs' : List Int} {m m' : Int → Int} {c : Nat}
theorem R33.D (h : R33 n r r') : RootD D33 r := fun i h0 h1 => by rcases h.r with ⟨rfl, _⟩ | ⟨rfl, _⟩ <;> exact ⟨by omega, by omega⟩
theorem R33.A (h : R33 n r r') : RA (p33 n) r := by rcases h.r with ⟨rfl, _⟩ | ⟨rfl, _⟩ <;> exact ⟨by show (1 : Int) + 3 ≤ _; decide, by show _ ≤ (64 : Int); decide⟩
/-- two stacks in a memory -/
structure TwoL (n r r' : Int) (m : Int → Int) (vs vs' l l' fr : List Int) (out : Int) : Prop where
  P : PoolR m (p33 n) fr out
  a : SK m r l vs
  b : SK m r' l' vs'
  ha : Held (p33 n) fr out (l ++ l')
  nd : (l ++ l').Nodup
  cnt : (l.length : Int) + l'.length + fr.length = out
def Two (n r r' : Int) (m : Int → Int) (vs vs' : List Int) : Prop := ∃ l l' fr out, TwoL n r r' m vs vs' l l' fr out
theorem TwoL.swap {l l' fr : List Int} {out : Int} (H : TwoL n r r' m vs vs' l l' fr out) : TwoL n r' r m vs' vs l' l fr out :=
  ⟨H.P, H.b, H.a, fun x hx => H.ha x (by rw [List.mem_append] at hx ⊢; exact hx.symm), (List.Perm.nodup_iff List.perm_append_comm).1 H.nd, by have := H.cnt; omega⟩
theorem Two.swap (H : Two n r r' m vs vs') : Two n r' r m vs' vs := let ⟨l, l', fr, out, h⟩ := H; ⟨l', l, fr, out, h.swap⟩
theorem Two.len (H : Two n r r' m vs vs') : (vs.length : Int) + vs'.length ≤ n := by
  obtain ⟨l, l', fr, out, h⟩ := H
  have := h.cnt; have h2 : out ≤ n := h.P.out1; have := h.a.len; have := h.b.len
  omega
/-- what is left -/
theorem Two.full (H : Two n r r' m vs vs') : ∃ fr out, PoolR m (p33 n) fr out ∧ (vs.length : Int) + vs'.length + fr.length = out := by
  obtain ⟨l, l', fr, out, h⟩ := H
  exact ⟨fr, out, h.P, by have := h.cnt; have := h.a.len; have := h.b.len; omega⟩
/-- the other stack is as it was -/
theorem other_ext {l l' : List Int} {fr : List Int} {out : Int} (hr : R33 n r r') (hl : ∀ x ∈ l, ∃ i, 0 ≤ i ∧ x = 64 + 8 * i) (K : SK m r' l' vs') (H : Held (p33 n) fr out l') (hd : ∀ x ∈ l, x ∉ l') (hs : Same (p33 n) r l m m') : SK m' r' l' vs' := by
  have hrr := hr.r
  refine K.ext (fun i i0 i7 => hs _ (fun j _ _ => ?_) (fun j _ _ => ?_) fun x hx j j0 j7 => ?_) fun x hx i i0 i7 => hs _ (fun j _ _ => ?_) (fun j _ _ => ?_) fun y hy j j0 j7 => ?_
  · show _ ≠ 1 + j; omega
  · omega
  · obtain ⟨k, k0, e⟩ := hl x hx; omega
  · obtain ⟨⟨k, k0, k1, e⟩, _⟩ := H x hx
    have e : x = 64 + 8 * k := e
    show _ ≠ 1 + j; omega
  · obtain ⟨⟨k, k0, k1, e⟩, _⟩ := H x hx
    have e : x = 64 + 8 * k := e
    omega
  · obtain ⟨⟨k, k0, k1, e⟩, _⟩ := H x hx
    have e : x = 64 + 8 * k := e
    obtain ⟨k2, k20, e2⟩ := hl y hy
    have : y ≠ x := fun h => hd y hy (h ▸ hx)
    omega
theorem Two.push (hr : R33 n r r') (H : Two n r r' m vs vs') (S : Sm D33 σ σ m 0) (hv : R64 v) (hl : σ.pu.length + 12 ≤ big) :
    wp (sPush (p33 n) r v) σ fun e σ' => ∃ m', Sm D33 σ σ' m' 12 ∧ ((e = 0 ∧ (vs.length : Int) + vs'.length < n ∧ Two n r r' m' (v :: vs) vs') ∨ (e = 9 ∧ n ≤ (vs.length : Int) + vs'.length ∧ m' = m)) := by
  obtain ⟨l, l', fr, out, h⟩ := H
  have e1 := h.a.len; have e2 := h.b.len; have hc := h.cnt
  have hl1 : Held (p33 n) fr out l := fun x hx => h.ha x (List.mem_append_left _ hx)
  have hl2 : Held (p33 n) fr out l' := fun x hx => h.ha x (List.mem_append_right _ hx)
  refine Prog.wp_mono (wp_sPush S h.P (p33_D hr.n) hr.D hr.A h.a hl1 hv hl) fun e σ' hq => ?_
  rcases hq with ⟨x, fr', out', m', rfl, T, S', P', K', H', hs⟩ | ⟨rfl, rfl, ho, S'⟩
  · obtain ⟨hxn, Hh, ho', hcl⟩ := T.held h.P h.ha
    have hxn2 : x ∉ l ++ l' := hxn
    refine ⟨m', S', .inl ⟨rfl, ?_, x :: l, l', fr', out', P', K', ?_, ?_, ?_, ?_⟩⟩
    · have h3 : out' ≤ n := P'.out1
      have h4 := P'.len
      omega
    · refine other_ext hr (l := x :: l) (fun y hy => ?_) h.b hl2 (fun y hy hy' => ?_) hs
      · obtain ⟨⟨i, i0, _, e⟩, _⟩ := H' y hy
        exact ⟨i, i0, e⟩
      · rcases List.mem_cons.1 hy with rfl | hy
        · exact hxn2 (List.mem_append_right _ hy')
        · exact (List.nodup_append.1 h.nd).2.2 y hy y hy' rfl
    · intro y hy
      rcases List.mem_append.1 hy with hy | hy
      · exact H' y hy
      · exact Hh y (List.mem_append_right _ hy)
    · exact List.nodup_cons.2 ⟨hxn2, h.nd⟩
    · rw [List.length_cons]; omega
  · refine ⟨m, S', .inr ⟨rfl, ?_, rfl⟩⟩
    have ho : out = n := ho
    simp only [List.length_nil] at hc
    omega
theorem Two.pop (hr : R33 n r r') (H : Two n r r' m vs vs') (S : Sm D33 σ σ m 0) (hl : σ.pu.length + 12 ≤ big) :
    wp (sPop (p33 n) r) σ fun e σ' => ∃ m', Sm D33 σ σ' m' 12 ∧ e = topV vs ∧ Two n r r' m' vs.tail vs' := by
  obtain ⟨l, l', fr, out, h⟩ := H
  have hc := h.cnt
  have hl1 : Held (p33 n) fr out l := fun x hx => h.ha x (List.mem_append_left _ hx)
  have hl2 : Held (p33 n) fr out l' := fun x hx => h.ha x (List.mem_append_right _ hx)
  refine Prog.wp_mono (wp_sPop S h.P (p33_D hr.n) hr.D hr.A h.a hl1 hl) fun e σ' hq => ?_
  rcases hq with ⟨x, l1, v, ws, m', rfl, rfl, rfl, S', P', K', H', hs⟩ | ⟨rfl, rfl, rfl, S'⟩
  · obtain ⟨hxn, hnd⟩ := List.nodup_cons.1 (show (x :: (l1 ++ l')).Nodup from h.nd)
    refine ⟨m', S', rfl, l1, l', x :: fr, out, P', K', ?_, ?_, hnd, by rw [List.length_cons] at hc ⊢; omega⟩
    · refine other_ext hr (l := x :: l1) (fun y hy => ?_) h.b hl2 (fun y hy hy' => ?_) hs
      · obtain ⟨⟨i, i0, _, e⟩, _⟩ := hl1 y hy
        exact ⟨i, i0, e⟩
      · exact (List.nodup_append.1 h.nd).2.2 y hy y hy' rfl
    · intro y hy
      rcases List.mem_append.1 hy with hy | hy
      · exact H' y hy
      · obtain ⟨h1, h2⟩ := hl2 y hy
        refine ⟨h1, fun h => ?_⟩
        rcases List.mem_cons.1 h with rfl | h
        · exact hxn (List.mem_append_right _ hy)
        · exact h2 h
  · exact ⟨m, S', rfl, [], l', fr, out, h⟩
theorem Two.top (hr : R33 n r r') (H : Two n r r' m vs vs') (S : Sm D33 σ σ m 0) : wp (sTop r) σ fun e σ' => Sm D33 σ σ' m 0 ∧ e = topV vs := by
  obtain ⟨l, l', fr, out, h⟩ := H
  exact wp_sTop S h.P (p33_D hr.n) hr.D h.a fun x hx => h.ha x (List.mem_append_left _ hx)
theorem Two.walk (hr : R33 n r r') (H : Two n r r' m vs vs') (S : Sm D33 σ σ m 0) : wp (sWalk (p33 n) r) σ fun e σ' => e = some vs ∧ Sm D33 σ σ' m 0 := by
  obtain ⟨l, l', fr, out, h⟩ := H
  exact wp_sWalk S h.P (p33_D hr.n) hr.D h.a fun x hx => h.ha x (List.mem_append_left _ hx)
theorem Two.start (hr : R33 n r r') (hz : ∀ a, m a = 0) : Two n r r' m [] [] :=
  ⟨[], [], [], 0, ⟨p33_good hr.n, hz _, hz _, hz _, Int.le_refl 0, hr.n.1, (fun x hx => by cases hx), List.nodup_nil⟩, ⟨hz _, rfl, hz _, hz _, List.nodup_nil⟩, ⟨hz _, rfl, hz _, hz _, List.nodup_nil⟩, (fun x hx => by cases hx), List.nodup_nil, rfl⟩
end
end Go.En
namespace Go.En
open Prog Spc

/-- what is read lies in a list -/
structure RS (L : List Int) (σ : Spc) : Prop where
  nd : σ.rd.Nodup
  sub : ∀ b ∈ σ.rd, b ∈ L
section
variable {D : Int → Prop} {σ0 σ σ' : Spc} {m : Int → Int} {c : Nat} {α : Type} {Q : α → Spc → Prop} {p : Pl} {fr : List Int} {out root v a x : Int} {l vs L : List Int}
theorem RS.rds (H : RS L σ) (ha : a ∈ L) : RS L (σ.rds a) := ⟨nd_rds H.nd, fun b hb => by
  rcases mem_rds.1 hb with rfl | h
  · exact ha
  · exact H.sub b h⟩
theorem RS.len (H : RS L σ) : σ.rd.length ≤ L.length := nodup_sub H.nd H.sub
theorem wp_getB {q : Int → Prog α} (S : Sm D σ0 σ m c) (H : RS L σ) (hD : D a) (ha : a ∈ L) (hk : ∀ σ', Sm D σ0 σ' m c → RS L σ' → wp (q (m a)) σ' Q) : wp (gt a >>= q) σ Q := by
  rw [wp_bind, wp_gt, S.get hD]
  exact hk _ (S.rds a) (H.rds ha)
theorem wp_putB {q : Unit → Prog α} (S : Sm D σ0 σ m c) (H : RS L σ) (hD : D a) (ha : a ∈ L) (hv : R64 v) (hl : σ0.pu.length + c ≤ big) (hk : ∀ σ', Sm D σ0 σ' (upd m a v) (c + 1) → RS L σ' → wp (q ()) σ' Q) : wp (pt a v >>= q) σ Q := by
  rw [wp_bind, wp_pt]
  refine ⟨hv, Nat.le_trans S.len hl, hk _ (S.put hD hv) ?_⟩
  have e : (σ.put a v).rd = (σ.rds a).rd := by
    unfold Spc.put
    rw [S.en, S.dom a hD]; rfl
  have h := H.rds ha
  exact ⟨by rw [e]; exact h.nd, fun b hb => h.sub b (by rw [← e]; exact hb)⟩
theorem wp_moreB {q : Unit → Prog α} {n : Int} (S : Sm D σ0 σ m c) (H : RS L σ) (hD : D a) (ha : a ∈ L) (hl : σ0.pu.length + c ≤ big) (hk : ∀ σ', Sm D σ0 σ' (upd m a (w64 (m a + n))) (c + 1) → RS L σ' → wp (q ()) σ' Q) : wp (dMore a n >>= q) σ Q := by
  unfold dMore
  rw [wp_bind]
  refine wp_getB S H hD ha fun σ1 S H => ?_
  rw [← wp_bind]
  exact wp_putB S H hD ha (w64_in _) hl hk
theorem wp_sMoreB {q : Unit → Prog α} {n : Int} (S : Sm D σ0 σ m c) (H : RS L σ) (hRD : RootD D root) (h1 : root + 1 ∈ L) (h7 : root + 7 ∈ L) (hl : σ0.pu.length + c + 2 ≤ big) (hk : ∀ σ', RS L σ' → wp (q ()) σ' Q) : wp (sMore root n >>= q) σ Q := by
  unfold sMore
  show wp (dMore (root + 1) n >>= fun _ => dMore (root + 7) n >>= q) σ Q
  refine wp_moreB S H (hRD 1 (by omega) (by omega)) h1 (by omega) fun σ1 S H => ?_
  exact wp_moreB S H (hRD 7 (by omega) (by omega)) h7 (by omega) fun σ2 _ H => hk _ H
theorem wp_unB {q : Unit → Prog α} {e : Int} (S0 : Sm D σ0 σ0 m 0) {m1 : Int → Int} (S : Sm D σ0 σ m1 c) (H : RS L σ) (he : e ≠ 0) (hk : ∀ σ', RS L σ' → wp (q ()) σ' Q) : wp (dUn e σ0.pu.length >>= q) σ Q := by
  unfold dUn
  rw [if_pos he, wp_bind, wp_bk]
  have e : (σ.back σ0.pu.length).rd = σ.rd := back_rd
  exact hk _ ⟨by rw [e]; exact H.nd, fun b hb => H.sub b (by rw [← e]; exact hb)⟩
/-- the eight words -/
abbrev L8 (p : Pl) (root x : Int) : List Int := [p.root, p.root + 1, p.root + 2, x, x + 1, root, root + 1, root + 7]
theorem rs_push (S : Sm D σ σ m 0) (P : PoolR m p fr out) (hD : PoolD D p) (hRD : RootD D root) (hv : R64 v) (hl : σ.pu.length + 12 ≤ big) (hr : σ.rd = []) : ∃ x, wp (sPush p root v) σ fun _ σ' => RS (L8 p root x) σ' := by
  have g := P.good
  have g1 := g.f1; have g2 := g.f2; have g3 := g.n1; have g4 := g.r0
  have r0 := hRD 0 (by omega) (by omega)
  rw [Int.add_zero] at r0
  have d0 := hD.r 0 (by omega) (by omega)
  rw [Int.add_zero] at d0
  have H0 : ∀ L, RS L σ := fun L => ⟨by rw [hr]; exact List.nodup_nil, fun b hb => by rw [hr] at hb; cases hb⟩
  -- behind the allocation
  have tail : ∀ (x : Int) (σ1 : Spc) (m1 : Int → Int), isN p x → Sm D σ σ1 m1 2 → RS (L8 p root x) σ1 → wp (gt root >>= fun tp => pt x tp >>= fun _ => pt (x + 1) v >>= fun _ => pt root x >>= fun _ => sMore root 1 >>= fun _ => dUn 0 σ.pu.length >>= fun _ => (pure 0 : Prog Int)) σ1 fun _ σ' => RS (L8 p root x) σ' := by
    intro x σ1 m1 hx S1 H
    have hxp := isN_pos g hx
    have dx := hD.n x hx 0 (by omega) (by omega)
    rw [Int.add_zero] at dx
    refine wp_getB S1 H r0 (by simp) fun σ2 S2 H => ?_
    refine wp_putB S2 H dx (by simp) (S1.rg _) (by omega) fun σ3 S H => ?_
    refine wp_putB S H (hD.n x hx 1 (by omega) (by omega)) (by simp) hv (by omega) fun σ4 S H => ?_
    refine wp_putB S H r0 (by simp) ⟨by omega, by omega⟩ (by omega) fun σ5 S H => ?_
    refine wp_sMoreB S H hRD (by simp) (by simp) (by omega) fun σ6 H => ?_
    exact wp_un0 H
  cases fr with
  | nil =>
    have e0 : m p.root = 0 := P.link
    refine ⟨p.frm + 8 * out, ?_⟩
    unfold sPush
    refine wp_mark ?_
    unfold pTake
    rw [if_pos g, wp_bind]
    refine wp_getB (L := L8 p root (p.frm + 8 * out)) S (H0 _) d0 (by simp) fun σ1 S1 H => ?_
    rw [e0, if_neg (by simp)]
    refine wp_getB S1 H (hD.r 1 (by omega) (by omega)) (by simp) fun σ1 S1 H => ?_
    rw [P.outE]
    have h0 := P.out0; have h1 := P.out1
    by_cases hf : out < p.nodes
    · rw [if_neg (by omega)]
      refine wp_putB S1 H (hD.r 1 (by omega) (by omega)) (by simp) ⟨by omega, by omega⟩ (by omega) fun σ1 S1 H => ?_
      show wp (ite _ _ _) σ1 _
      rw [if_neg (by simp)]
      exact tail _ _ _ ⟨out, h0, hf, rfl⟩ (S1.mono (by omega)) H
    · rw [if_pos (.inr (by omega))]
      show wp (ite _ _ _) σ1 _
      rw [if_pos (by decide)]
      exact wp_unB S S1 H (by decide) fun σ2 H => H
  | cons x fr' =>
    obtain ⟨e, hlk⟩ := P.link
    have hx : isN p x := P.isN (List.mem_cons_self ..)
    have hxp := isN_pos g hx
    have dx := hD.n x hx 0 (by omega) (by omega)
    rw [Int.add_zero] at dx
    refine ⟨x, ?_⟩
    unfold sPush
    refine wp_mark ?_
    unfold pTake
    rw [if_pos g, wp_bind]
    refine wp_getB (L := L8 p root x) S (H0 _) d0 (by simp) fun σ1 S1 H => ?_
    rw [e, if_pos (by omega), if_pos (isN_node g hx)]
    refine wp_getB S1 H dx (by simp) fun σ1 S1 H => ?_
    refine wp_putB S1 H d0 (by simp) (S1.rg _) (by omega) fun σ1 S1 H => ?_
    unfold pAdd
    rw [wp_bind]
    refine wp_getB S1 H (hD.r 2 (by omega) (by omega)) (by simp) fun σ1 S1 H => ?_
    refine ⟨w64_in _, Nat.le_trans S1.len (by omega), ?_⟩
    have e2 : ∀ w, (σ1.put (p.root + 2) w).rd = (σ1.rds (p.root + 2)).rd := fun w => by
      unfold Spc.put
      rw [S1.en, S1.dom _ (hD.r 2 (by omega) (by omega))]; rfl
    have h2 := H.rds (a := p.root + 2) (by simp)
    show wp (ite _ _ _) _ _
    rw [if_neg (by simp)]
    exact tail x _ _ hx (S1.put (hD.r 2 (by omega) (by omega)) (w64_in _)) ⟨by rw [e2]; exact h2.nd, fun b hb => h2.sub b (by rw [← e2]; exact hb)⟩
theorem rs_pop (S : Sm D σ σ m 0) (P : PoolR m p fr out) (hD : PoolD D p) (hRD : RootD D root) (K : SK m root l vs) (H : Held p fr out l) (hl : σ.pu.length + 12 ≤ big) (hr : σ.rd = []) : ∃ x, wp (sPop p root) σ fun _ σ' => RS (L8 p root x) σ' := by
  have g := P.good
  have g1 := g.f1; have g2 := g.f2; have g3 := g.n1; have g4 := g.r0
  have r0 := hRD 0 (by omega) (by omega)
  rw [Int.add_zero] at r0
  have d0 := hD.r 0 (by omega) (by omega)
  rw [Int.add_zero] at d0
  have hp1 := P.out1
  have H0 : ∀ L, RS L σ := fun L => ⟨by rw [hr]; exact List.nodup_nil, fun b hb => by rw [hr] at hb; cases hb⟩
  cases l with
  | nil =>
    have e0 : m root = 0 := K.lk
    refine ⟨0, ?_⟩
    unfold sPop
    refine wp_mark ?_
    refine wp_getB (L := L8 p root 0) S (H0 _) r0 (by simp) fun σ1 S1 H => ?_
    rw [e0, if_pos rfl]
    exact wp_unB S S1 H (by decide) fun σ2 H => H
  | cons x l' =>
    obtain ⟨⟨j, j0, j1, ej⟩, hnf⟩ := H x (List.mem_cons_self ..)
    have hx : isN p x := ⟨j, j0, by omega, ej⟩
    have dx := hD.n x hx 0 (by omega) (by omega)
    rw [Int.add_zero] at dx
    refine ⟨x, ?_⟩
    unfold sPop
    refine wp_mark ?_
    refine wp_getB (L := L8 p root x) S (H0 _) r0 (by simp) fun σ1 S1 H => ?_
    rw [K.lk.1, if_neg (by omega), if_pos (isN_node g hx)]
    refine wp_getB S1 H dx (by simp) fun σ1 S1 H => ?_
    refine wp_getB S1 H (hD.n x hx 1 (by omega) (by omega)) (by simp) fun σ1 S1 H => ?_
    unfold pGive
    rw [if_pos (isN_node g hx), wp_bind]
    refine wp_getB S1 H d0 (by simp) fun σ1 S1 H => ?_
    refine wp_putB S1 H dx (by simp) (S1.rg _) (by omega) fun σ1 S1 H => ?_
    refine wp_putB S1 H d0 (by simp) ⟨by omega, by omega⟩ (by omega) fun σ1 S1 H => ?_
    unfold pAdd
    rw [wp_bind]
    refine wp_getB S1 H (hD.r 2 (by omega) (by omega)) (by simp) fun σ1 S1 H => ?_
    refine ⟨w64_in _, Nat.le_trans S1.len (by omega), ?_⟩
    have e2 : ∀ w, (σ1.put (p.root + 2) w).rd = (σ1.rds (p.root + 2)).rd := fun w => by
      unfold Spc.put
      rw [S1.en, S1.dom _ (hD.r 2 (by omega) (by omega))]; rfl
    have h2 := H.rds (a := p.root + 2) (by simp)
    show wp (ite _ _ _) _ _
    rw [if_neg (by simp)]
    refine wp_putB (S1.put (hD.r 2 (by omega) (by omega)) (w64_in _)) ⟨by rw [e2]; exact h2.nd, fun b hb => h2.sub b (by rw [← e2]; exact hb)⟩ r0 (by simp) (S.rg _) (by omega) fun σ2 S2 H => ?_
    refine wp_sMoreB S2 H hRD (by simp) (by simp) (by omega) fun σ3 H => ?_
    exact wp_un0 H
/-! ### Arbitrary words -/
theorem wd_sMore {A : Int → Prop} {q : Unit → Prog α} {n : Int} (H : Wld A σ0 σ c) (hRD : RootD A root) (hl : σ0.pu.length + c + 2 ≤ big) (hk : ∀ σ', Wld A σ0 σ' (c + 2) → wp (q ()) σ' Q) : wp (sMore root n >>= q) σ Q := by
  unfold sMore dMore
  show wp (gt (root + 1) >>= fun v => pt (root + 1) (w64 (v + n)) >>= fun _ => gt (root + 7) >>= fun v => pt (root + 7) (w64 (v + n)) >>= q) σ Q
  refine wd_get H (hRD 1 (by omega) (by omega)) fun v σ1 _ _ H => ?_
  refine wd_put H (hRD 1 (by omega) (by omega)) (w64_in _) (by omega) fun σ2 H => ?_
  refine wd_get H (hRD 7 (by omega) (by omega)) fun v σ1 _ _ H => ?_
  exact wd_put H (hRD 7 (by omega) (by omega)) (w64_in _) (by omega) fun σ2 H => hk _ H
theorem wd_unS {A : Int → Prop} {q : Unit → Prog α} {e : Int} (H : Wld A σ0 σ c) (he : e ≠ 0) (hk : ∀ σ', Wld A σ0 σ' c → (σ'.en = false → σ'.pu = σ0.pu) → wp (q ()) σ' Q) : wp (dUn e σ0.pu.length >>= q) σ Q := by
  unfold dUn
  rw [if_pos he]
  exact wd_back H hk
theorem PoolD.toS {A : Int → Prop} (h : PoolD A p) : PoolA A p := ⟨h.r, fun a ha => by have := h.n a (node_isN ha) 0 (by omega) (by omega); rwa [Int.add_zero] at this⟩
theorem node_RS {x : Int} (h : (p.node x).isSome = true) : R64 x := by
  obtain ⟨n, hn⟩ := Option.isSome_iff_exists.1 h
  have := node_lt hn
  exact ⟨by omega, by omega⟩
theorem wd_sPush {A : Int → Prop} (hw : σ.wf) (hD : PoolD A p) (hRD : RootD A root) (hv : R64 v) (hl : σ.pu.length + 12 ≤ big) : wp (sPush p root v) σ fun e σ' => Wld A σ σ' 12 ∧ (e ≠ 0 → σ'.en = false → σ'.pu = σ.pu) := by
  have r0 := hRD 0 (by omega) (by omega)
  rw [Int.add_zero] at r0
  unfold sPush
  refine wd_mark ?_
  refine wd_take (Wld.start (A := A) hw) hD.toS (by omega) (fun x σ1 hx H => ?_) fun e σ1 he H hpu => ?_
  · have hN := node_isN hx
    have x0 := hD.n x hN 0 (by omega) (by omega)
    rw [Int.add_zero] at x0
    rw [if_neg (by simp)]
    refine wd_get H r0 fun tp σ2 htp _ H => ?_
    refine wd_put H x0 htp (by omega) fun σ2 H => ?_
    refine wd_put H (hD.n x hN 1 (by omega) (by omega)) hv (by omega) fun σ2 H => ?_
    refine wd_put H r0 (node_RS hx) (by omega) fun σ2 H => ?_
    refine wd_sMore H hRD (by omega) fun σ3 H => ?_
    exact ⟨H.mono (by omega), fun h => absurd rfl h⟩
  · have hne : e ≠ 0 := by
      rcases he with ⟨rfl, _⟩ | ⟨_, rfl | rfl⟩ <;> decide
    rw [if_pos hne]
    exact wd_unS H hne fun σ7 H hu => ⟨H.mono (by omega), fun _ => hu⟩
theorem wd_sPop {A : Int → Prop} (hw : σ.wf) (hD : PoolD A p) (hRD : RootD A root) (hl : σ.pu.length + 12 ≤ big) : wp (sPop p root) σ fun e σ' => Wld A σ σ' 12 ∧ (e.2 ≠ 0 → σ'.en = false → σ'.pu = σ.pu) := by
  have r0 := hRD 0 (by omega) (by omega)
  rw [Int.add_zero] at r0
  unfold sPop
  refine wd_mark ?_
  refine wd_get (Wld.start (A := A) hw) r0 fun a σ1 ha _ H => ?_
  split
  · exact wd_unS H (by decide) fun σ7 H hu => ⟨H.mono (by omega), fun _ => hu⟩
  · split
    · rename_i hn
      have hN := node_isN hn
      have x0 := hD.n a hN 0 (by omega) (by omega)
      rw [Int.add_zero] at x0
      refine wd_get H x0 fun nx σ2 hnx _ H => ?_
      refine wd_get H (hD.n a hN 1 (by omega) (by omega)) fun v σ2 _ _ H => ?_
      refine wd_give H hD.toS (by omega) ha (fun σ3 _ H => ?_) fun h => ?_
      · rw [if_neg (by simp)]
        refine wd_put H r0 hnx (by omega) fun σ4 H => ?_
        refine wd_sMore H hRD (by omega) fun σ5 H => ?_
        exact ⟨H.mono (by omega), fun h => absurd rfl h⟩
      · rw [hn] at h; cases h
    · exact wd_unS H (by decide) fun σ7 H hu => ⟨H.mono (by omega), fun _ => hu⟩
/-- what a walk over arbitrary words finds -/
def lstM (p : Pl) (m : Int → Int) : Nat → Int → List Int → Option (List Int)
  | 0, a, acc => if a = 0 then some acc else none
  | k + 1, a, acc => if a = 0 then some acc else if (p.node a).isSome then lstM p m k (m a) (acc ++ [m (a + 1)]) else none
theorem wp_sLoopM (hD : PoolD D p) : ∀ (k : Nat) (a : Int) (acc : List Int) (σ : Spc), Sm D σ0 σ m c → wp (sLoop p k a acc) σ fun o σ' => o = lstM p m k a acc ∧ Sm D σ0 σ' m c
  | 0, a, acc, σ, S => by unfold sLoop lstM; exact ⟨rfl, S⟩
  | k + 1, a, acc, σ, S => by
    unfold sLoop lstM
    by_cases e : a = 0
    · rw [if_pos e, if_pos e]; exact ⟨rfl, S⟩
    · rw [if_neg e, if_neg e]
      by_cases hn : (p.node a).isSome = true
      · rw [if_pos hn, if_pos hn]
        have hN := node_isN hn
        have x0 := hD.n a hN 0 (by omega) (by omega)
        rw [Int.add_zero] at x0
        refine wp_get S (hD.n a hN 1 (by omega) (by omega)) fun σ1 S => ?_
        refine wp_get S x0 fun σ2 S => ?_
        exact wp_sLoopM hD k _ _ _ S
      · rw [if_neg hn, if_neg hn]; exact ⟨rfl, S⟩
theorem wp_sWalkM (S : Sm D σ0 σ m c) (hD : PoolD D p) (hr : D root) : wp (sWalk p root) σ fun o σ' => o = lstM p m p.nodes.toNat (m root) [] ∧ Sm D σ0 σ' m c := by
  unfold sWalk
  exact wp_get S hr fun σ1 S => wp_sLoopM hD _ _ _ _ S
end
end Go.En
