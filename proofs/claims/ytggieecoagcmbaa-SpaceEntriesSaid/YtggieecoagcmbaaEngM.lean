/-
  The engine, part M: the user's rules: values, slices, what a step leaves alone.
-/
import Derived.Test.YtggieecoagcmbaaEngL
namespace Go.En

/-! ### Steps -/
theorem vb {o : Option Value} {k : Value → Prop} {v : Value} (h : o = some v) (hk : k v) : Vb o k := ⟨v, h, hk⟩
theorem eb {o : Option (Value × Hp)} {k : Value → Hp → Prop} {v : Value} {h' : Hp} (h : o = some (v, h')) (hk : k v h') : Eb o k := ⟨v, h', h, hk⟩
theorem sb {o : Option Hp} {k : Hp → Prop} {h' : Hp} (h : o = some h') (hk : k h') : Sb o k := ⟨h', h, hk⟩
@[go_sem] theorem vb_some (v : Value) (k : Value → Prop) : Vb (some v) k = k v := by simp [Vb]
@[go_sem] theorem eb_some (v : Value) (h : Hp) (k : Value → Hp → Prop) : Eb (some (v, h)) k = k v h :=
  propext ⟨fun ⟨_, _, e, hk⟩ => by cases e; exact hk, fun hk => ⟨_, _, rfl, hk⟩⟩
@[go_sem] theorem sb_some (h : Hp) (k : Hp → Prop) : Sb (some h) k = k h := by simp [Sb]
@[go_sem] theorem br_true (A B : Prop) : Br (.bool true) A B = A := rfl
@[go_sem] theorem br_false (A B : Prop) : Br (.bool false) A B = B := rfl
theorem br {b : Bool} {A B : Prop} (h1 : b = true → A) (h2 : b = false → B) : Br (.bool b) A B := by cases b; exact h2 rfl; exact h1 rfl
theorem brd {p : Prop} [Decidable p] {A B : Prop} (h1 : p → A) (h2 : ¬p → B) : Br (.bool (decide p)) A B := br (fun h => h1 (by simpa using h)) (fun h => h2 (by simpa using h))
theorem brT {p : Prop} [Decidable p] {A B : Prop} (h : p) (h1 : A) : Br (.bool (decide p)) A B := br (fun _ => h1) (fun e => by simp [h] at e)
theorem brF {p : Prop} [Decidable p] {A B : Prop} (h : ¬p) (h1 : B) : Br (.bool (decide p)) A B := br (fun e => by simp [h] at e) (fun _ => h1)

section
variable {k : IntKind} {a b : Int}
@[go_sem] theorem bin_add : bin .add (.int k a) (.int k b) = some (.int k (k.wrap (a + b))) := by simp [bin]
@[go_sem] theorem bin_sub : bin .sub (.int k a) (.int k b) = some (.int k (k.wrap (a - b))) := by simp [bin]
@[go_sem] theorem bin_mul : bin .mul (.int k a) (.int k b) = some (.int k (k.wrap (a * b))) := by simp [bin]
@[go_sem] theorem bin_eql : bin .eql (.int k a) (.int k b) = some (.bool (decide (a = b))) := by simp [bin, Bool.beq_eq_decide_eq]
@[go_sem] theorem bin_neq : bin .neq (.int k a) (.int k b) = some (.bool (decide (a ≠ b))) := by simp [bin, bne, Bool.beq_eq_decide_eq]
@[go_sem] theorem bin_lss : bin .lss (.int k a) (.int k b) = some (.bool (decide (a < b))) := by simp [bin]
@[go_sem] theorem bin_leq : bin .leq (.int k a) (.int k b) = some (.bool (decide (a ≤ b))) := by simp [bin]
@[go_sem] theorem bin_gtr : bin .gtr (.int k a) (.int k b) = some (.bool (decide (b < a))) := by simp [bin]
@[go_sem] theorem bin_geq : bin .geq (.int k a) (.int k b) = some (.bool (decide (b ≤ a))) := by simp [bin]
theorem bin_rem (hb : b ≠ 0) : bin .rem (.int k a) (.int k b) = some (.int k (a.tmod b)) := by simp [bin, hb]
theorem bin_quo (hb : b ≠ 0) : bin .quo (.int k a) (.int k b) = some (.int k (k.wrap (a.tdiv b))) := by simp [bin, hb]
@[go_sem] theorem uno_not (x : Bool) : uno .not (.bool x) = some (.bool (!x)) := rfl
@[go_sem] theorem uno_neg : uno .neg (.int k a) = some (.int k (k.wrap (0 - a))) := rfl
@[go_sem] theorem cvi_int {k' : IntKind} : cvi k' (.int k a) = some (.int k' (k'.wrap a)) := rfl
@[go_sem] theorem lnS_slice (x : Option Addr) (n c : Nat) : lnS (.slice x n c) = some (.int .i64 n) := rfl
@[go_sem] theorem ext0 (x : Value) (r : List Value) : ext 0 (.tuple ⟨x :: r⟩) = some x := rfl
@[go_sem] theorem ext1 (x y : Value) (r : List Value) : ext 1 (.tuple ⟨x :: y :: r⟩) = some y := rfl
@[go_sem] theorem ext2 (x y z : Value) (r : List Value) : ext 2 (.tuple ⟨x :: y :: z :: r⟩) = some z := rfl
@[go_sem] theorem ext0' (x : Value) (r : List Value) : ext 0 (.tuple (x :: r).toArray) = some x := rfl
@[go_sem] theorem ext1' (x y : Value) (r : List Value) : ext 1 (.tuple (x :: y :: r).toArray) = some y := rfl
@[go_sem] theorem ext2' (x y z : Value) (r : List Value) : ext 2 (.tuple (x :: y :: z :: r).toArray) = some z := rfl
@[go_sem] theorem pos_some (x : Bool) : pos? (some x) = some (.bool x) := rfl
@[go_sem] theorem neg_some (x : Bool) : neg? (some x) = some (.bool !x) := rfl
@[go_sem] theorem eqB_bool (x y : Bool) : eqB (.bool x) (.bool y) = some (x == y) := rfl
end

theorem wr64 {n : Int} (h : -9223372036854775808 ≤ n ∧ n ≤ 9223372036854775807) : IntKind.i64.wrap n = n := by
  rw [IntKind.wrap_i64]; omega
theorem wrS {n : Nat} (h : n < 9223372036854775807) : IntKind.i64.wrap ((n : Int) + 1) = ((n + 1 : Nat) : Int) := by
  rw [wr64 (by omega)]; rfl
theorem inc {n : Nat} (h : n < 9223372036854775807) : bin .add (.int .i64 n) (.int .i64 1) = some (.int .i64 (n + 1 : Nat)) := by rw [bin_add, wrS h]

/-! ### The heap by block and offset -/
def cl (h : Hp) (r o : Nat) : Option Value :=
  match h[r]? with
  | some (.cells c _ _) => c[o]?
  | _ => none
def fz (h : Hp) (r o : Nat) : Bool :=
  match h[r]? with
  | some (.cells _ _ (lo, hi)) => lo ≤ o && o < hi
  | _ => false
theorem cellAt_cl (h : Hp) (r o : Nat) : cellAt h ⟨r, o, none⟩ = cl h r o := by unfold cellAt cl; split <;> simp_all
theorem frozenAt_fz (h : Hp) (r o : Nat) : frozenAt h ⟨r, o, none⟩ = fz h r o := rfl
theorem addN (r o i : Nat) : (⟨r, o, none⟩ : Addr).add i = ⟨r, o + i, none⟩ := by
  unfold Addr.add; split
  · simp_all
  · rfl
@[go_sem] theorem fa_add (r o j : Nat) : fa j (.pointer (some ⟨r, o, none⟩)) = some (.pointer (some ⟨r, o + j, none⟩)) := by simp [fa, addN]
theorem ldc_cl (h : Hp) (r o : Nat) : ldc (.pointer (some ⟨r, o, none⟩)) h = cl h r o := by simp [ldc, cellAt_cl]
theorem cl_lt {h : Hp} {r o : Nat} {v : Value} (e : cl h r o = some v) : r < h.size := by
  unfold cl at e
  split at e <;> try contradiction
  rename_i hh
  exact (Array.getElem?_eq_some_iff.mp hh).1

/-- a step changes the heap at most at the blocks D, and adds -/
structure Ch (D : Nat → Prop) (h h' : Hp) : Prop where
  size : h.size ≤ h'.size
  same : ∀ r, r < h.size → ¬ D r → h'[r]? = h[r]?
/-- a step only adds -/
abbrev Gr (h h' : Hp) : Prop := Ch (fun _ => False) h h'
theorem Ch.refl (D : Nat → Prop) (h : Hp) : Ch D h h := ⟨Nat.le_refl _, fun _ _ _ => rfl⟩
theorem Ch.trans {D D' E : Nat → Prop} {a b c : Hp} (h : Ch D a b) (k : Ch D' b c) (h1 : ∀ r, r < a.size → D r → E r) (h2 : ∀ r, r < a.size → D' r → E r) : Ch E a c :=
  ⟨Nat.le_trans h.size k.size, fun r hr hn => (k.same r (Nat.lt_of_lt_of_le hr h.size) fun e => hn (h2 r hr e)).trans (h.same r hr fun e => hn (h1 r hr e))⟩
theorem Ch.mono {D D' : Nat → Prop} {a b : Hp} (h : Ch D a b) (hd : ∀ r, r < a.size → D r → D' r) : Ch D' a b := ⟨h.size, fun r hr hn => h.same r hr fun e => hn (hd r hr e)⟩
theorem Gr.trans {a b c : Hp} (h : Gr a b) (k : Gr b c) : Gr a c := Ch.trans h k (fun _ _ e => e) (fun _ _ e => e)
/-- a step that turns blocks that are younger than a -/
theorem Gr.young {D : Nat → Prop} {a b c : Hp} (h : Gr a b) (k : Ch D b c) (hd : ∀ r, D r → a.size ≤ r) : Gr a c :=
  Ch.trans h k (fun _ _ e => e) (fun r hr e => absurd (hd r e) (by omega))
theorem Ch.push (h : Hp) (o : Obj) : Gr h (h.push o) := ⟨by simp, fun r hr _ => by rw [Array.getElem?_push]; rw [if_neg (by omega)]⟩
theorem Ch.cl {D : Nat → Prop} {h h' : Hp} (c : Ch D h h') {r o : Nat} {v : Value} (hd : ¬ D r) (e : En.cl h r o = some v) : En.cl h' r o = some v := by
  have hr := cl_lt e
  unfold En.cl at e ⊢
  rw [c.same r hr hd]
  exact e
theorem Ch.fz {D : Nat → Prop} {h h' : Hp} (c : Ch D h h') {r o : Nat} (hr : r < h.size) (hd : ¬ D r) : En.fz h' r o = En.fz h r o := by
  unfold En.fz
  rw [c.same r hr hd]

/-! ### Stores -/
theorem cl_setAt (h : Hp) (r o r' o' : Nat) (v u : Value) (hu : cl h r o = some u) : cl (setAt h ⟨r, o, none⟩ v) r' o' = if r' = r ∧ o' = o then some v else cl h r' o' := by
  have hr := cl_lt hu
  unfold cl at hu
  unfold cl setAt
  rw [Array.getElem?_modify]
  by_cases e : r = r'
  · subst e
    simp only [if_true, true_and]
    cases hh : h[r]? with
    | none => rw [hh] at hu; contradiction
    | some ob =>
      rw [hh] at hu
      cases ob <;> simp only at hu <;> try contradiction
      rename_i c el fr
      simp only [Option.map_some, Option.isSome_none, Bool.false_eq_true, if_false]
      have hlt := (Array.getElem?_eq_some_iff.mp hu).1
      rw [Array.getElem?_setIfInBounds]
      by_cases e2 : o = o'
      · subst e2; simp [hlt]
      · rw [if_neg e2, if_neg (fun h => e2 h.symm)]
  · rw [if_neg e, if_neg (fun h => e h.1.symm)]
theorem fz_setAt (h : Hp) (a : Addr) (r' o' : Nat) (v : Value) : fz (setAt h a v) r' o' = fz h r' o' := by
  unfold fz setAt
  rw [Array.getElem?_modify]
  by_cases e : a.block = r'
  · rw [if_pos e]
    cases hh : h[r']? with
    | none => rfl
    | some ob => cases ob <;> rfl
  · rw [if_neg e]
theorem setAt_size (h : Hp) (a : Addr) (v : Value) : (setAt h a v).size = h.size := by simp [setAt]
theorem setAt_ch (h : Hp) (r o : Nat) (v : Value) : Ch (fun x => x = r) h (setAt h ⟨r, o, none⟩ v) :=
  ⟨by simp [setAt], fun x _ hn => by unfold setAt; rw [Array.getElem?_modify, if_neg (fun e => hn e.symm)]⟩

/-- what a row of stores leaves behind -/
structure Up (h h' : Hp) (r o : Nat) (vs : List Value) : Prop where
  size : h'.size = h.size
  ch : Ch (fun x => x = r) h h'
  fz : ∀ r' o', fz h' r' o' = fz h r' o'
  put : ∀ j v, vs[j]? = some v → cl h' r (o + j) = some v
  keep : ∀ o', (∀ j, j < vs.length → o' ≠ o + j) → cl h' r o' = cl h r o'
theorem Up.some {h h' : Hp} {r o : Nat} {vs : List Value} (u : Up h h' r o vs) {o' : Nat} (e : (cl h r o').isSome = true) : (cl h' r o').isSome = true := by
  by_cases k : ∃ j, j < vs.length ∧ o' = o + j
  · obtain ⟨j, hj, rfl⟩ := k
    rw [u.put j vs[j] (by simp [hj])]; rfl
  · rw [u.keep o' (fun j hj e => k ⟨j, hj, e⟩)]; exact e

theorem stores_ok {r o : Nat} : ∀ (vs : List Value) (i : Nat) (h : Hp), (∀ v, v ∈ vs → v.oneCell' = true) → (∀ j, j < vs.length → (cl h r (o + i + j)).isSome = true ∧ fz h r (o + i + j) = false) →
    ∃ h', stores h ⟨r, o, none⟩ i vs = some h' ∧ Up h h' r (o + i) vs
  | [], i, h, _, _ => ⟨h, rfl, rfl, .refl _ _, fun _ _ => rfl, fun j v e => by simp at e, fun _ _ => rfl⟩
  | v :: vs, i, h, h1, h2 => by
    have h20 := h2 0 (by simp)
    rw [Nat.add_zero] at h20
    obtain ⟨u, hu⟩ := Option.isSome_iff_exists.mp h20.1
    have hc : ∀ r' o', cl (setAt h ⟨r, o + i, none⟩ v) r' o' = if r' = r ∧ o' = o + i then some v else cl h r' o' := fun r' o' => cl_setAt h r (o + i) r' o' v u hu
    obtain ⟨h', e, up⟩ := stores_ok vs (i + 1) (setAt h ⟨r, o + i, none⟩ v) (fun x hx => h1 x (List.mem_cons_of_mem _ hx)) (fun j hj => by
      have := h2 (j + 1) (by simpa using hj)
      have e : o + (i + 1) + j = o + i + (j + 1) := by omega
      rw [e, fz_setAt, hc, if_neg (by omega)]
      exact this)
    refine ⟨h', ?_, ?_⟩
    · simp only [stores, addN, h1 v (by simp), cellAt_cl, hu, frozenAt_fz, h20.2]
      exact e
    · refine ⟨up.size.trans (setAt_size _ _ _), Ch.trans (setAt_ch h r (o + i) v) up.ch (fun _ _ e => e) (fun _ _ e => e), fun r' o' => (up.fz r' o').trans (fz_setAt _ _ _ _ _), fun j w hj => ?_, fun o' ho => ?_⟩
      · cases j with
        | zero =>
          simp only [List.getElem?_cons_zero, Option.some.injEq] at hj
          subst hj
          rw [Nat.add_zero, up.keep (o + i) (fun j _ => by omega), hc, if_pos ⟨rfl, rfl⟩]
        | succ j =>
          have e : o + i + (j + 1) = o + (i + 1) + j := by omega
          rw [e]
          exact up.put j w (by simpa using hj)
      · rw [up.keep o' (fun j hj => by have := ho (j + 1) (by simpa using hj); omega), hc, if_neg (fun e => ho 0 (by simp) (by omega))]

theorem rowFrom_ok {h : Hp} {r o : Nat} : ∀ (vs : List Value) (i : Nat), (∀ j v, vs[j]? = some v → cl h r (o + i + j) = some v) → rowFrom h ⟨r, o, none⟩ i vs.length = some vs
  | [], _, _ => rfl
  | v :: vs, i, hc => by
    have h0 := hc 0 v rfl
    rw [Nat.add_zero] at h0
    have ih := rowFrom_ok (h := h) (r := r) (o := o) vs (i + 1) (fun j w hj => by
      have := hc (j + 1) w (by simpa using hj)
      have e : o + (i + 1) + j = o + i + (j + 1) := by omega
      rw [e]; exact this)
    simp only [List.length_cons, rowFrom, addN, cellAt_cl, h0, ih, Option.bind_some]

/-! ### Rows of cells as data -/
structure Enc (α : Type) where
  n : Nat
  c : α → List Value
  len : ∀ a, (c a).length = n
  one : ∀ a v, v ∈ c a → v.oneCell' = true

/-- the cells of one datum at a place -/
def Row {α : Type} (E : Enc α) (h : Hp) (r o : Nat) (x : α) : Prop := ∀ j v, (E.c x)[j]? = some v → cl h r (o + j) = some v
theorem Row.ch {α : Type} {E : Enc α} {D : Nat → Prop} {h h' : Hp} {r o : Nat} {x : α} (e : Row E h r o x) (c : Ch D h h') (hd : ¬ D r) : Row E h' r o x := fun j v hv => c.cl hd (e j v hv)
theorem Row.lda {α : Type} {E : Enc α} {h : Hp} {r o : Nat} {x : α} (e : Row E h r o x) {n : Nat} (hn : n = E.n) : lda n (.pointer (some ⟨r, o, none⟩)) h = some (.agg (E.c x).toArray) := by
  unfold En.lda
  have := rowFrom_ok (h := h) (r := r) (o := o) (E.c x) 0 (fun j v hv => e j v hv)
  rw [E.len] at this
  simp only [hn, this, Option.bind_some]
theorem Row.ldc {α : Type} {E : Enc α} {h : Hp} {r o j : Nat} {x : α} (e : Row E h r o x) {v : Value} (hv : (E.c x)[j]? = some v) : ldc (.pointer (some ⟨r, o + j, none⟩)) h = some v := by
  rw [ldc_cl]; exact e j v hv
theorem Row.ldc0 {α : Type} {E : Enc α} {h : Hp} {r o : Nat} {x : α} (e : Row E h r o x) {v : Value} (hv : (E.c x)[0]? = some v) : En.ldc (.pointer (some ⟨r, o, none⟩)) h = some v := e.ldc (j := 0) hv

/-- a slice that can be read -/
def Sl {α : Type} (E : Enc α) (h : Hp) (v : Value) (xs : List α) : Prop :=
  ∃ a cap, v = .slice a xs.length cap ∧ xs.length ≤ cap ∧ (a = none → cap = 0) ∧ ∀ i x, xs[i]? = some x → ∃ r o, a = some ⟨r, o, none⟩ ∧ Row E h r (o + i * E.n) x
def blk : Value → Option Nat
  | .slice (some a) _ _ => some a.block
  | _ => none
/-- a slice of one's own: its cells can be written -/
def Ow {α : Type} (E : Enc α) (h : Hp) (v : Value) (xs : List α) : Prop :=
  (v = .slice none 0 0 ∧ xs = []) ∨ ∃ r o cap, v = .slice (some ⟨r, o, none⟩) xs.length cap ∧ xs.length ≤ cap ∧ r < h.size ∧ (∀ i x, xs[i]? = some x → Row E h r (o + i * E.n) x) ∧
    ∀ j, j < cap * E.n → (cl h r (o + j)).isSome = true ∧ fz h r (o + j) = false

section
variable {α : Type} {E : Enc α} {h h' : Hp} {v : Value} {xs : List α} {D : Nat → Prop}
theorem Ow.sl (H : Ow E h v xs) : Sl E h v xs := by
  rcases H with ⟨rfl, rfl⟩ | ⟨r, o, cap, rfl, hl, _, hr, _⟩
  · exact ⟨none, 0, rfl, by simp, fun _ => rfl, fun i x hx => by simp at hx⟩
  · exact ⟨_, cap, rfl, hl, fun e => by simp at e, fun i x hx => ⟨r, o, rfl, hr i x hx⟩⟩
theorem Sl.ch (H : Sl E h v xs) (c : Ch D h h') (hd : ∀ r, blk v = some r → ¬ D r) : Sl E h' v xs := by
  obtain ⟨a, cap, rfl, h1, h2, h3⟩ := H
  refine ⟨a, cap, rfl, h1, h2, fun i x hx => ?_⟩
  obtain ⟨r, o, rfl, hr⟩ := h3 i x hx
  exact ⟨r, o, rfl, hr.ch c (hd r rfl)⟩
theorem Sl.gr (H : Sl E h v xs) (c : Gr h h') : Sl E h' v xs := H.ch c fun _ _ e => e
theorem Ow.ch (H : Ow E h v xs) (c : Ch D h h') (hd : ∀ r, blk v = some r → ¬ D r) : Ow E h' v xs := by
  rcases H with ⟨rfl, rfl⟩ | ⟨r, o, cap, rfl, hl, hb, hr, hw⟩
  · exact .inl ⟨rfl, rfl⟩
  · refine .inr ⟨r, o, cap, rfl, hl, Nat.lt_of_lt_of_le hb c.size, fun i x hx => (hr i x hx).ch c (hd r rfl), fun j hj => ?_⟩
    obtain ⟨a, b⟩ := hw j hj
    obtain ⟨u, hu⟩ := Option.isSome_iff_exists.mp a
    exact ⟨by rw [c.cl (hd r rfl) hu]; rfl, by rw [c.fz hb (hd r rfl)]; exact b⟩
theorem Ow.gr (H : Ow E h v xs) (c : Gr h h') : Ow E h' v xs := H.ch c fun _ _ e => e
theorem Ow.nil : Ow E h (.slice none 0 0) [] := .inl ⟨rfl, rfl⟩
theorem Sl.nil : Sl E h (.slice none 0 0) [] := Ow.nil.sl
theorem Sl.ln (H : Sl E h v xs) : lnS v = some (.int .i64 xs.length) := by obtain ⟨a, cap, rfl, _⟩ := H; rfl
theorem Ow.lt (H : Ow E h v xs) {r : Nat} (hr : blk v = some r) : r < h.size := by
  rcases H with ⟨rfl, rfl⟩ | ⟨r', o, cap, rfl, hl, hb, _⟩
  · simp [blk] at hr
  · simp only [blk, Option.some.injEq] at hr; omega

/-- the place of an element -/
theorem Sl.ix (H : Sl E h v xs) {i : Nat} {x : α} (hx : xs[i]? = some x) {n : Nat} (hn : n = E.n) {k : IntKind} {z : Int} (hz : z = i) :
    ∃ r o, ixs n v (.int k z) = some (.pointer (some ⟨r, o, none⟩)) ∧ Row E h r o x ∧ blk v = some r := by
  obtain ⟨a, cap, rfl, h1, h2, h3⟩ := H
  obtain ⟨r, o, rfl, hr⟩ := h3 i x hx
  have hlt := (List.getElem?_eq_some_iff.mp hx).1
  subst hz hn
  exact ⟨r, o + i * E.n, by simp [ixs, hlt, addN], hr, rfl⟩
theorem Sl.whole (H : Sl E h v xs) {n : Nat} (hn : n = E.n) {k : Value → Prop} {i : Nat} {x : α} (hx : xs[i]? = some x) {q : IntKind} {z : Int} (hz : z = i) (hk : k (.agg (E.c x).toArray)) :
    Vb (ixs n v (.int q z)) fun p => Vb (lda n p h) k := by
  obtain ⟨r, o, e, hr, _⟩ := H.ix hx hn hz (k := q)
  exact vb e (vb (hr.lda hn) hk)
theorem Sl.one (H : Sl E h v xs) {n : Nat} (hn : n = E.n) {k : Value → Prop} {i : Nat} {x : α} (hx : xs[i]? = some x) {q : IntKind} {z : Int} (hz : z = i) {u : Value} (hu : (E.c x)[0]? = some u) (hk : k u) :
    Vb (ixs n v (.int q z)) fun p => Vb (ldc p h) k := by
  obtain ⟨r, o, e, hr, _⟩ := H.ix hx hn hz (k := q)
  exact vb e (vb (hr.ldc0 hu) hk)
theorem Sl.fld (H : Sl E h v xs) {n : Nat} (hn : n = E.n) {k : Value → Prop} {i : Nat} {x : α} (hx : xs[i]? = some x) {q : IntKind} {z : Int} (hz : z = i) {j : Nat} {u : Value} (hu : (E.c x)[j]? = some u) (hk : k u) :
    Vb (ixs n v (.int q z)) fun p => Vb (fa j p) fun p => Vb (ldc p h) k := by
  obtain ⟨r, o, e, hr, _⟩ := H.ix hx hn hz (k := q)
  exact vb e (vb (fa_add _ _ _) (vb (hr.ldc hu) hk))

/-- all cells of a slice -/
theorem flat_at (E : Enc α) : ∀ (xs : List α) (j : Nat) (u : Value), (xs.flatMap E.c)[j]? = some u → ∃ i x j', xs[i]? = some x ∧ (E.c x)[j']? = some u ∧ j = i * E.n + j'
  | [], j, u, h => by simp at h
  | x :: xs, j, u, h => by
    rw [List.flatMap_cons] at h
    by_cases hj : j < (E.c x).length
    · rw [List.getElem?_append_left hj] at h
      exact ⟨0, x, j, rfl, h, by simp⟩
    · rw [List.getElem?_append_right (by omega), E.len] at h
      obtain ⟨i, y, j', h1, h2, h3⟩ := flat_at E xs _ u h
      rw [E.len] at hj
      exact ⟨i + 1, y, j', by simpa using h1, h2, by rw [Nat.succ_mul]; omega⟩
theorem flat_len (E : Enc α) : ∀ xs : List α, (xs.flatMap E.c).length = xs.length * E.n
  | [] => by simp
  | x :: xs => by rw [List.flatMap_cons, List.length_append, flat_len E xs, E.len, List.length_cons, Nat.succ_mul]; omega
theorem Sl.row (H : Sl E h v xs) {n : Nat} (hn : n = xs.length * E.n) : rowOf v n h = some (xs.flatMap E.c) := by
  obtain ⟨a, cap, rfl, h1, h2, h3⟩ := H
  subst hn
  cases xs with
  | nil =>
    cases a with
    | none => rfl
    | some a => simp [rowOf, rowFrom]
  | cons x0 xs0 =>
    obtain ⟨r, o, rfl, _⟩ := h3 0 x0 rfl
    unfold rowOf
    rw [← flat_len]
    refine rowFrom_ok _ _ fun j u hj => ?_
    obtain ⟨i, x, j', e1, e2, rfl⟩ := flat_at E _ j u hj
    obtain ⟨r', o', e, hr⟩ := h3 i x e1
    simp only [Option.some.injEq, Addr.mk.injEq, and_true] at e
    obtain ⟨rfl, rfl⟩ := e
    have := hr j' u e2
    rw [Nat.add_zero, ← Nat.add_assoc]
    exact this
end

/-! ### Append -/
theorem zeroCells_size (z : Array Value) (n : Nat) : (Builtin.zeroCells z n).size = n * z.size := by simp [Builtin.zeroCells]

theorem ap {α : Type} {E : Enc α} {e : TypeId} {zero : Array Value} {n bytes : Nat} {s x : Value} {h : Hp} {xs ys : List α} {k : Value → Hp → Prop}
    (hs : Ow E h s xs) (hx : Sl E h x ys) (hn : n = E.n) (hz : zero.size = E.n) (hb : (xs.length + ys.length) * bytes ≤ 140737488355328) (hl : xs.length + ys.length ≤ 9223372036854775807)
    (hk : ∀ v h', Ow E h' v (xs ++ ys) → Ch (fun r => blk s = some r) h h' → (blk v = blk s ∨ blk v = some h.size) → k v h') : Ap e zero n bytes s x h k := by
  obtain ⟨xa, xc, ex, hxc, hxn, hxr⟩ := id hx
  have hxrow := hx.row rfl
  subst hn
  have hsl := hs.sl
  have hsrow := hsl.row rfl
  have grow : ∀ (sn : Option Addr) (sc : Nat), s = .slice sn xs.length sc → ∀ cap, xs.length + ys.length ≤ cap → k (.slice (some ⟨h.size, 0, none⟩) (xs.length + ys.length) cap) (h.push (.cells ((xs.flatMap E.c).toArray ++ (ys.flatMap E.c).toArray ++ Builtin.zeroCells zero (cap - (xs.length + ys.length))) e)) := by
    intro sn sc hsn cap hcap
    refine hk _ _ (.inr ⟨h.size, 0, cap, by simp, by simpa using hcap, by simp, fun i y hy => ?_, fun j hj => ?_⟩) ((Ch.push h _).mono fun _ _ e => e.elim) (.inr rfl)
    · intro j u hu
      have hfl : ((xs ++ ys).flatMap E.c)[i * E.n + j]? = some u := by
        clear hk hx hxrow hsrow hsl hs hb hl hcap hsn hxr
        generalize xs ++ ys = zs at hy
        induction zs generalizing i with
        | nil => simp at hy
        | cons z zs ih =>
          rw [List.flatMap_cons]
          cases i with
          | zero =>
            simp only [List.getElem?_cons_zero, Option.some.injEq] at hy
            subst hy
            rw [Nat.zero_mul, Nat.zero_add, List.getElem?_append_left (List.getElem?_eq_some_iff.mp hu).1]
            exact hu
          | succ i =>
            have := ih i (by simpa using hy)
            rw [List.getElem?_append_right (by rw [E.len, Nat.succ_mul]; omega), E.len]
            have e2 : (i + 1) * E.n + j - E.n = i * E.n + j := by rw [Nat.succ_mul]; omega
            rw [e2]; exact this
      have hlt := (List.getElem?_eq_some_iff.mp hfl).1
      unfold cl
      simp only [Array.getElem?_push_size, Nat.zero_add]
      rw [Array.getElem?_append_left (by rw [List.flatMap_append, List.length_append] at hlt; simpa using hlt)]
      rw [List.flatMap_append] at hfl
      simpa using hfl
    · unfold cl fz
      simp only [Array.getElem?_push_size, Nat.zero_add]
      refine ⟨?_, by simp⟩
      have : j < ((xs.flatMap E.c).toArray ++ (ys.flatMap E.c).toArray ++ Builtin.zeroCells zero (cap - (xs.length + ys.length))).size := by
        have h1 := flat_len E xs
        have h2 := flat_len E ys
        simp only [Array.size_append, List.size_toArray, zeroCells_size, hz, h1, h2]
        have : cap = xs.length + ys.length + (cap - (xs.length + ys.length)) := by omega
        rw [this, Nat.add_mul, Nat.add_mul] at hj
        exact hj
      rw [Array.getElem?_eq_getElem this]; rfl
  rcases hs with ⟨rfl, rfl⟩ | ⟨r, o, cap, rfl, hcap, hr, hrow, hw⟩
  · refine ⟨none, 0, 0, xa, ys.length, xc, _, rfl, ex, hxrow, fun hle => ?_, fun _ => ⟨by simpa using hb, by simpa using hl, _, hsrow, fun cap hc _ => by simpa using grow none 0 rfl cap (by simpa using hc)⟩⟩
    have : ys = [] := List.length_eq_zero_iff.mp (by omega)
    subst this
    simp only [List.length_nil, Nat.add_zero]
    exact hk _ _ (.inl ⟨rfl, rfl⟩) (.refl _ _) (.inl rfl)
  · refine ⟨_, xs.length, cap, xa, ys.length, xc, _, rfl, ex, hxrow, fun hle => ?_, fun _ => ⟨hb, hl, _, hsrow, fun cap' hc _ => grow _ _ rfl cap' hc⟩⟩
    have ea : (⟨r, o, none⟩ : Addr).add (xs.length * E.n) = ⟨r, o + xs.length * E.n, none⟩ := addN _ _ _
    show ∃ h', stores h ((⟨r, o, none⟩ : Addr).add (xs.length * E.n)) 0 (ys.flatMap E.c) = some h' ∧ _
    rw [ea]
    obtain ⟨h', e1, up⟩ := stores_ok (r := r) (o := o + xs.length * E.n) (ys.flatMap E.c) 0 h (fun u hu => by
        obtain ⟨y, _, hy⟩ := List.mem_flatMap.mp hu
        exact E.one y u hy) (fun j hj => by
        rw [flat_len] at hj
        have := hw (xs.length * E.n + j) (by
          have : (xs.length + ys.length) * E.n ≤ cap * E.n := Nat.mul_le_mul_right _ hle
          rw [Nat.add_mul] at this; omega)
        rw [Nat.add_zero, Nat.add_assoc]; exact this)
    refine ⟨h', e1, hk _ _ (.inr ⟨r, o, cap, by simp, by simpa using hle, by rw [up.size]; exact hr, fun i y hy j u hu => ?_, fun j hj => ?_⟩) (up.ch.mono fun x _ e => by subst e; rfl) (.inl rfl)⟩
    · have hj : j < E.n := by have := (List.getElem?_eq_some_iff.mp hu).1; rwa [E.len] at this
      by_cases hi : i < xs.length
      · rw [List.getElem?_append_left hi] at hy
        rw [up.keep _ (fun j' _ => by
          have : (i + 1) * E.n ≤ xs.length * E.n := Nat.mul_le_mul_right _ hi
          rw [Nat.succ_mul] at this; omega)]
        exact hrow i y hy j u hu
      · rw [List.getElem?_append_right (by omega)] at hy
        have hfl : (ys.flatMap E.c)[(i - xs.length) * E.n + j]? = some u := by
          generalize i - xs.length = q at hy
          clear hk hx hxrow hsrow hsl hb hl hcap hrow hw grow up e1 hle hxr hxc ex
          induction ys generalizing q with
          | nil => simp at hy
          | cons z zs ih =>
            rw [List.flatMap_cons]
            cases q with
            | zero =>
              simp only [List.getElem?_cons_zero, Option.some.injEq] at hy
              subst hy
              rw [Nat.zero_mul, Nat.zero_add, List.getElem?_append_left (by rw [E.len]; exact hj)]
              exact hu
            | succ q =>
              have := ih q (by simpa using hy)
              rw [List.getElem?_append_right (by rw [E.len, Nat.succ_mul]; omega), E.len]
              have e2 : (q + 1) * E.n + j - E.n = q * E.n + j := by rw [Nat.succ_mul]; omega
              rw [e2]; exact this
        have := up.put _ _ hfl
        have hh : o + i * E.n + j = o + xs.length * E.n + 0 + ((i - xs.length) * E.n + j) := by
          obtain ⟨q, rfl⟩ : ∃ q, i = xs.length + q := ⟨i - xs.length, by omega⟩
          rw [Nat.add_sub_cancel_left, Nat.add_mul]; omega
        rw [hh]; exact this
    · exact ⟨up.some (hw j hj).1, by rw [up.fz]; exact (hw j hj).2⟩

end Go.En
