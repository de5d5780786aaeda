/-
  The engine, part M: the user's rules: values, slices, what a step leaves alone.
  The engine, part N: the user's rules: new slices, stores, parts of slices, maps with whole-number keys.
  The engine, part O: the user's rules: accumulators, local variables, map entries.
  The engine, part P: from a contract to a row of the form 'for every input true, and the arguments read as before'.
  The engine, part Q: the user's rules: the range over a map.
  The engine, part R: structs and arrays among the arguments; arrays in variables.
-/
import Derived.Test.YtcepckpfhbcobaaGreatDoorXB
import Derived.ProofKit
import Derived.SizedLaws
import Derived.Deep.Slices
import Derived.Deep.Fields
import Derived.OpenShut
namespace Go.En

/-! ### Steps -/
theorem vb {o : Option Value} {k : Value → Prop} {v : Value} (h : o = some v) (hk : k v) : Vb o k := ⟨v, h, hk⟩
theorem eb {o : Option (Value × Hp)} {k : Value → Hp → Prop} {v : Value} {h' : Hp} (h : o = some (v, h')) (hk : k v h') : Eb o k := ⟨v, h', h, hk⟩
theorem sb {o : Option Hp} {k : Hp → Prop} {h' : Hp} (h : o = some h') (hk : k h') : Sb o k := ⟨h', h, hk⟩
@[go_sem] theorem vb_some (v : Value) (k : Value → Prop) : Vb (some v) k = k v := by simp [Vb]
@[go_sem] theorem eb_some (v : Value) (h : Hp) (k : Value → Hp → Prop) : Eb (some (v, h)) k = k v h :=
  propext ⟨fun ⟨_, _, e, hk⟩ => by cases e; exact hk, fun hk => ⟨_, _, rfl, hk⟩⟩
@[go_sem] theorem sb_some (h : Hp) (k : Hp → Prop) : Sb (some h) k = k h := by simp [Sb]
@[go_sem] theorem br_true (A B : Prop) : Br (.bool true) A B = A := rfl
@[go_sem] theorem br_false (A B : Prop) : Br (.bool false) A B = B := rfl
theorem br {b : Bool} {A B : Prop} (h1 : b = true → A) (h2 : b = false → B) : Br (.bool b) A B := by cases b; exact h2 rfl; exact h1 rfl
theorem brd {p : Prop} [Decidable p] {A B : Prop} (h1 : p → A) (h2 : ¬p → B) : Br (.bool (decide p)) A B := br (fun h => h1 (by simpa using h)) (fun h => h2 (by simpa using h))
theorem brT {p : Prop} [Decidable p] {A B : Prop} (h : p) (h1 : A) : Br (.bool (decide p)) A B := br (fun _ => h1) (fun e => by simp [h] at e)
theorem brF {p : Prop} [Decidable p] {A B : Prop} (h : ¬p) (h1 : B) : Br (.bool (decide p)) A B := br (fun e => by simp [h] at e) (fun _ => h1)

section
variable {k : IntKind} {a b : Int}
@[go_sem] theorem bin_add : bin .add (.int k a) (.int k b) = some (.int k (k.wrap (a + b))) := by simp [bin]
@[go_sem] theorem bin_sub : bin .sub (.int k a) (.int k b) = some (.int k (k.wrap (a - b))) := by simp [bin]
@[go_sem] theorem bin_mul : bin .mul (.int k a) (.int k b) = some (.int k (k.wrap (a * b))) := by simp [bin]
@[go_sem] theorem bin_eql : bin .eql (.int k a) (.int k b) = some (.bool (decide (a = b))) := by simp [bin, Bool.beq_eq_decide_eq]
@[go_sem] theorem bin_neq : bin .neq (.int k a) (.int k b) = some (.bool (decide (a ≠ b))) := by simp [bin, bne, Bool.beq_eq_decide_eq]
@[go_sem] theorem bin_lss : bin .lss (.int k a) (.int k b) = some (.bool (decide (a < b))) := by simp [bin]
@[go_sem] theorem bin_leq : bin .leq (.int k a) (.int k b) = some (.bool (decide (a ≤ b))) := by simp [bin]
@[go_sem] theorem bin_gtr : bin .gtr (.int k a) (.int k b) = some (.bool (decide (b < a))) := by simp [bin]
@[go_sem] theorem bin_geq : bin .geq (.int k a) (.int k b) = some (.bool (decide (b ≤ a))) := by simp [bin]
theorem bin_rem (hb : b ≠ 0) : bin .rem (.int k a) (.int k b) = some (.int k (a.tmod b)) := by simp [bin, hb]
theorem bin_quo (hb : b ≠ 0) : bin .quo (.int k a) (.int k b) = some (.int k (k.wrap (a.tdiv b))) := by simp [bin, hb]
@[go_sem] theorem uno_not (x : Bool) : uno .not (.bool x) = some (.bool (!x)) := rfl
@[go_sem] theorem uno_neg : uno .neg (.int k a) = some (.int k (k.wrap (0 - a))) := rfl
@[go_sem] theorem cvi_int {k' : IntKind} : cvi k' (.int k a) = some (.int k' (k'.wrap a)) := rfl
@[go_sem] theorem lnS_slice (x : Option Addr) (n c : Nat) : lnS (.slice x n c) = some (.int .i64 n) := rfl
@[go_sem] theorem ext0 (x : Value) (r : List Value) : ext 0 (.tuple ⟨x :: r⟩) = some x := rfl
@[go_sem] theorem ext1 (x y : Value) (r : List Value) : ext 1 (.tuple ⟨x :: y :: r⟩) = some y := rfl
@[go_sem] theorem ext2 (x y z : Value) (r : List Value) : ext 2 (.tuple ⟨x :: y :: z :: r⟩) = some z := rfl
@[go_sem] theorem ext0' (x : Value) (r : List Value) : ext 0 (.tuple (x :: r).toArray) = some x := rfl
@[go_sem] theorem ext1' (x y : Value) (r : List Value) : ext 1 (.tuple (x :: y :: r).toArray) = some y := rfl
@[go_sem] theorem ext2' (x y z : Value) (r : List Value) : ext 2 (.tuple (x :: y :: z :: r).toArray) = some z := rfl
@[go_sem] theorem pos_some (x : Bool) : pos? (some x) = some (.bool x) := rfl
@[go_sem] theorem neg_some (x : Bool) : neg? (some x) = some (.bool !x) := rfl
@[go_sem] theorem eqB_bool (x y : Bool) : eqB (.bool x) (.bool y) = some (x == y) := rfl
end

theorem wr64 {n : Int} (h : -9223372036854775808 ≤ n ∧ n ≤ 9223372036854775807) : IntKind.i64.wrap n = n := by
  rw [IntKind.wrap_i64]; omega
theorem wrS {n : Nat} (h : n < 9223372036854775807) : IntKind.i64.wrap ((n : Int) + 1) = ((n + 1 : Nat) : Int) := by
  rw [wr64 (by omega)]; rfl
theorem inc {n : Nat} (h : n < 9223372036854775807) : bin .add (.int .i64 n) (.int .i64 1) = some (.int .i64 (n + 1 : Nat)) := by rw [bin_add, wrS h]

/-! ### The heap by block and offset -/
def cl (h : Hp) (r o : Nat) : Option Value :=
  match h[r]? with
  | some (.cells c _ _) => c[o]?
  | _ => none
def fz (h : Hp) (r o : Nat) : Bool :=
  match h[r]? with
  | some (.cells _ _ (lo, hi)) => lo ≤ o && o < hi
  | _ => false
theorem cellAt_cl (h : Hp) (r o : Nat) : cellAt h ⟨r, o, none⟩ = cl h r o := by unfold cellAt cl; split <;> simp_all
theorem frozenAt_fz (h : Hp) (r o : Nat) : frozenAt h ⟨r, o, none⟩ = fz h r o := rfl
theorem addN (r o i : Nat) : (⟨r, o, none⟩ : Addr).add i = ⟨r, o + i, none⟩ := by
  unfold Addr.add; split
  · simp_all
  · rfl
@[go_sem] theorem fa_add (r o j : Nat) : fa j (.pointer (some ⟨r, o, none⟩)) = some (.pointer (some ⟨r, o + j, none⟩)) := by simp [fa, addN]
theorem ldc_cl (h : Hp) (r o : Nat) : ldc (.pointer (some ⟨r, o, none⟩)) h = cl h r o := by simp [ldc, cellAt_cl]
theorem cl_lt {h : Hp} {r o : Nat} {v : Value} (e : cl h r o = some v) : r < h.size := by
  unfold cl at e
  split at e <;> try contradiction
  rename_i hh
  exact (Array.getElem?_eq_some_iff.mp hh).1

/-- a step changes the heap at most at the blocks D, and adds -/
structure Ch (D : Nat → Prop) (h h' : Hp) : Prop where
  size : h.size ≤ h'.size
  same : ∀ r, r < h.size → ¬ D r → h'[r]? = h[r]?
/-- a step only adds -/
abbrev Gr (h h' : Hp) : Prop := Ch (fun _ => False) h h'
theorem Ch.refl (D : Nat → Prop) (h : Hp) : Ch D h h := ⟨Nat.le_refl _, fun _ _ _ => rfl⟩
theorem Ch.trans {D D' E : Nat → Prop} {a b c : Hp} (h : Ch D a b) (k : Ch D' b c) (h1 : ∀ r, r < a.size → D r → E r) (h2 : ∀ r, r < a.size → D' r → E r) : Ch E a c :=
  ⟨Nat.le_trans h.size k.size, fun r hr hn => (k.same r (Nat.lt_of_lt_of_le hr h.size) fun e => hn (h2 r hr e)).trans (h.same r hr fun e => hn (h1 r hr e))⟩
theorem Ch.mono {D D' : Nat → Prop} {a b : Hp} (h : Ch D a b) (hd : ∀ r, r < a.size → D r → D' r) : Ch D' a b := ⟨h.size, fun r hr hn => h.same r hr fun e => hn (hd r hr e)⟩
theorem Gr.trans {a b c : Hp} (h : Gr a b) (k : Gr b c) : Gr a c := Ch.trans h k (fun _ _ e => e) (fun _ _ e => e)
/-- a step that turns blocks that are younger than a -/
theorem Gr.young {D : Nat → Prop} {a b c : Hp} (h : Gr a b) (k : Ch D b c) (hd : ∀ r, D r → a.size ≤ r) : Gr a c :=
  Ch.trans h k (fun _ _ e => e) (fun r hr e => absurd (hd r e) (by omega))
theorem Ch.push (h : Hp) (o : Obj) : Gr h (h.push o) := ⟨by simp, fun r hr _ => by rw [Array.getElem?_push]; rw [if_neg (by omega)]⟩
theorem Ch.cl {D : Nat → Prop} {h h' : Hp} (c : Ch D h h') {r o : Nat} {v : Value} (hd : ¬ D r) (e : En.cl h r o = some v) : En.cl h' r o = some v := by
  have hr := cl_lt e
  unfold En.cl at e ⊢
  rw [c.same r hr hd]
  exact e
theorem Ch.fz {D : Nat → Prop} {h h' : Hp} (c : Ch D h h') {r o : Nat} (hr : r < h.size) (hd : ¬ D r) : En.fz h' r o = En.fz h r o := by
  unfold En.fz
  rw [c.same r hr hd]

/-! ### Stores -/
theorem cl_setAt (h : Hp) (r o r' o' : Nat) (v u : Value) (hu : cl h r o = some u) : cl (setAt h ⟨r, o, none⟩ v) r' o' = if r' = r ∧ o' = o then some v else cl h r' o' := by
  have hr := cl_lt hu
  unfold cl at hu
  unfold cl setAt
  rw [Array.getElem?_modify]
  by_cases e : r = r'
  · subst e
    simp only [if_true, true_and]
    cases hh : h[r]? with
    | none => rw [hh] at hu; contradiction
    | some ob =>
      rw [hh] at hu
      cases ob <;> simp only at hu <;> try contradiction
      rename_i c el fr
      simp only [Option.map_some, Option.isSome_none, Bool.false_eq_true, if_false]
      have hlt := (Array.getElem?_eq_some_iff.mp hu).1
      rw [Array.getElem?_setIfInBounds]
      by_cases e2 : o = o'
      · subst e2; simp [hlt]
      · rw [if_neg e2, if_neg (fun h => e2 h.symm)]
  · rw [if_neg e, if_neg (fun h => e h.1.symm)]
theorem fz_setAt (h : Hp) (a : Addr) (r' o' : Nat) (v : Value) : fz (setAt h a v) r' o' = fz h r' o' := by
  unfold fz setAt
  rw [Array.getElem?_modify]
  by_cases e : a.block = r'
  · rw [if_pos e]
    cases hh : h[r']? with
    | none => rfl
    | some ob => cases ob <;> rfl
  · rw [if_neg e]
theorem setAt_size (h : Hp) (a : Addr) (v : Value) : (setAt h a v).size = h.size := by simp [setAt]
theorem setAt_ch (h : Hp) (r o : Nat) (v : Value) : Ch (fun x => x = r) h (setAt h ⟨r, o, none⟩ v) :=
  ⟨by simp [setAt], fun x _ hn => by unfold setAt; rw [Array.getElem?_modify, if_neg (fun e => hn e.symm)]⟩

/-- what a row of stores leaves behind -/
structure Up (h h' : Hp) (r o : Nat) (vs : List Value) : Prop where
  size : h'.size = h.size
  ch : Ch (fun x => x = r) h h'
  fz : ∀ r' o', fz h' r' o' = fz h r' o'
  put : ∀ j v, vs[j]? = some v → cl h' r (o + j) = some v
  keep : ∀ o', (∀ j, j < vs.length → o' ≠ o + j) → cl h' r o' = cl h r o'
theorem Up.some {h h' : Hp} {r o : Nat} {vs : List Value} (u : Up h h' r o vs) {o' : Nat} (e : (cl h r o').isSome = true) : (cl h' r o').isSome = true := by
  by_cases k : ∃ j, j < vs.length ∧ o' = o + j
  · obtain ⟨j, hj, rfl⟩ := k
    rw [u.put j vs[j] (by simp [hj])]; rfl
  · rw [u.keep o' (fun j hj e => k ⟨j, hj, e⟩)]; exact e

theorem stores_ok {r o : Nat} : ∀ (vs : List Value) (i : Nat) (h : Hp), (∀ v, v ∈ vs → v.oneCell' = true) → (∀ j, j < vs.length → (cl h r (o + i + j)).isSome = true ∧ fz h r (o + i + j) = false) →
    ∃ h', stores h ⟨r, o, none⟩ i vs = some h' ∧ Up h h' r (o + i) vs
  | [], i, h, _, _ => ⟨h, rfl, rfl, .refl _ _, fun _ _ => rfl, fun j v e => by simp at e, fun _ _ => rfl⟩
  | v :: vs, i, h, h1, h2 => by
    have h20 := h2 0 (by simp)
    rw [Nat.add_zero] at h20
    obtain ⟨u, hu⟩ := Option.isSome_iff_exists.mp h20.1
    have hc : ∀ r' o', cl (setAt h ⟨r, o + i, none⟩ v) r' o' = if r' = r ∧ o' = o + i then some v else cl h r' o' := fun r' o' => cl_setAt h r (o + i) r' o' v u hu
    obtain ⟨h', e, up⟩ := stores_ok vs (i + 1) (setAt h ⟨r, o + i, none⟩ v) (fun x hx => h1 x (List.mem_cons_of_mem _ hx)) (fun j hj => by
      have := h2 (j + 1) (by simpa using hj)
      have e : o + (i + 1) + j = o + i + (j + 1) := by omega
      rw [e, fz_setAt, hc, if_neg (by omega)]
      exact this)
    refine ⟨h', ?_, ?_⟩
    · simp only [stores, addN, h1 v (by simp), cellAt_cl, hu, frozenAt_fz, h20.2]
      exact e
    · refine ⟨up.size.trans (setAt_size _ _ _), Ch.trans (setAt_ch h r (o + i) v) up.ch (fun _ _ e => e) (fun _ _ e => e), fun r' o' => (up.fz r' o').trans (fz_setAt _ _ _ _ _), fun j w hj => ?_, fun o' ho => ?_⟩
      · cases j with
        | zero =>
          simp only [List.getElem?_cons_zero, Option.some.injEq] at hj
          subst hj
          rw [Nat.add_zero, up.keep (o + i) (fun j _ => by omega), hc, if_pos ⟨rfl, rfl⟩]
        | succ j =>
          have e : o + i + (j + 1) = o + (i + 1) + j := by omega
          rw [e]
          exact up.put j w (by simpa using hj)
      · rw [up.keep o' (fun j hj => by have := ho (j + 1) (by simpa using hj); omega), hc, if_neg (fun e => ho 0 (by simp) (by omega))]

theorem rowFrom_ok {h : Hp} {r o : Nat} : ∀ (vs : List Value) (i : Nat), (∀ j v, vs[j]? = some v → cl h r (o + i + j) = some v) → rowFrom h ⟨r, o, none⟩ i vs.length = some vs
  | [], _, _ => rfl
  | v :: vs, i, hc => by
    have h0 := hc 0 v rfl
    rw [Nat.add_zero] at h0
    have ih := rowFrom_ok (h := h) (r := r) (o := o) vs (i + 1) (fun j w hj => by
      have := hc (j + 1) w (by simpa using hj)
      have e : o + (i + 1) + j = o + i + (j + 1) := by omega
      rw [e]; exact this)
    simp only [List.length_cons, rowFrom, addN, cellAt_cl, h0, ih, Option.bind_some]

/-! ### Rows of cells as data -/
structure Enc (α : Type) where
  n : Nat
  c : α → List Value
  len : ∀ a, (c a).length = n
  one : ∀ a v, v ∈ c a → v.oneCell' = true

/-- the cells of one datum at a place -/
def Row {α : Type} (E : Enc α) (h : Hp) (r o : Nat) (x : α) : Prop := ∀ j v, (E.c x)[j]? = some v → cl h r (o + j) = some v
theorem Row.ch {α : Type} {E : Enc α} {D : Nat → Prop} {h h' : Hp} {r o : Nat} {x : α} (e : Row E h r o x) (c : Ch D h h') (hd : ¬ D r) : Row E h' r o x := fun j v hv => c.cl hd (e j v hv)
theorem Row.lda {α : Type} {E : Enc α} {h : Hp} {r o : Nat} {x : α} (e : Row E h r o x) {n : Nat} (hn : n = E.n) : lda n (.pointer (some ⟨r, o, none⟩)) h = some (.agg (E.c x).toArray) := by
  unfold En.lda
  have := rowFrom_ok (h := h) (r := r) (o := o) (E.c x) 0 (fun j v hv => e j v hv)
  rw [E.len] at this
  simp only [hn, this, Option.bind_some]
theorem Row.ldc {α : Type} {E : Enc α} {h : Hp} {r o j : Nat} {x : α} (e : Row E h r o x) {v : Value} (hv : (E.c x)[j]? = some v) : ldc (.pointer (some ⟨r, o + j, none⟩)) h = some v := by
  rw [ldc_cl]; exact e j v hv
theorem Row.ldc0 {α : Type} {E : Enc α} {h : Hp} {r o : Nat} {x : α} (e : Row E h r o x) {v : Value} (hv : (E.c x)[0]? = some v) : En.ldc (.pointer (some ⟨r, o, none⟩)) h = some v := e.ldc (j := 0) hv

/-- a slice that can be read -/
def Sl {α : Type} (E : Enc α) (h : Hp) (v : Value) (xs : List α) : Prop :=
  ∃ a cap, v = .slice a xs.length cap ∧ xs.length ≤ cap ∧ (a = none → cap = 0) ∧ ∀ i x, xs[i]? = some x → ∃ r o, a = some ⟨r, o, none⟩ ∧ Row E h r (o + i * E.n) x
def blk : Value → Option Nat
  | .slice (some a) _ _ => some a.block
  | _ => none
/-- a slice of one's own: its cells can be written -/
def Ow {α : Type} (E : Enc α) (h : Hp) (v : Value) (xs : List α) : Prop :=
  (v = .slice none 0 0 ∧ xs = []) ∨ ∃ r o cap, v = .slice (some ⟨r, o, none⟩) xs.length cap ∧ xs.length ≤ cap ∧ r < h.size ∧ (∀ i x, xs[i]? = some x → Row E h r (o + i * E.n) x) ∧
    ∀ j, j < cap * E.n → (cl h r (o + j)).isSome = true ∧ fz h r (o + j) = false

section
variable {α : Type} {E : Enc α} {h h' : Hp} {v : Value} {xs : List α} {D : Nat → Prop}
theorem Ow.sl (H : Ow E h v xs) : Sl E h v xs := by
  rcases H with ⟨rfl, rfl⟩ | ⟨r, o, cap, rfl, hl, _, hr, _⟩
  · exact ⟨none, 0, rfl, by simp, fun _ => rfl, fun i x hx => by simp at hx⟩
  · exact ⟨_, cap, rfl, hl, fun e => by simp at e, fun i x hx => ⟨r, o, rfl, hr i x hx⟩⟩
theorem Sl.ch (H : Sl E h v xs) (c : Ch D h h') (hd : ∀ r, blk v = some r → ¬ D r) : Sl E h' v xs := by
  obtain ⟨a, cap, rfl, h1, h2, h3⟩ := H
  refine ⟨a, cap, rfl, h1, h2, fun i x hx => ?_⟩
  obtain ⟨r, o, rfl, hr⟩ := h3 i x hx
  exact ⟨r, o, rfl, hr.ch c (hd r rfl)⟩
theorem Sl.gr (H : Sl E h v xs) (c : Gr h h') : Sl E h' v xs := H.ch c fun _ _ e => e
theorem Ow.ch (H : Ow E h v xs) (c : Ch D h h') (hd : ∀ r, blk v = some r → ¬ D r) : Ow E h' v xs := by
  rcases H with ⟨rfl, rfl⟩ | ⟨r, o, cap, rfl, hl, hb, hr, hw⟩
  · exact .inl ⟨rfl, rfl⟩
  · refine .inr ⟨r, o, cap, rfl, hl, Nat.lt_of_lt_of_le hb c.size, fun i x hx => (hr i x hx).ch c (hd r rfl), fun j hj => ?_⟩
    obtain ⟨a, b⟩ := hw j hj
    obtain ⟨u, hu⟩ := Option.isSome_iff_exists.mp a
    exact ⟨by rw [c.cl (hd r rfl) hu]; rfl, by rw [c.fz hb (hd r rfl)]; exact b⟩
theorem Ow.gr (H : Ow E h v xs) (c : Gr h h') : Ow E h' v xs := H.ch c fun _ _ e => e
theorem Ow.nil : Ow E h (.slice none 0 0) [] := .inl ⟨rfl, rfl⟩
theorem Sl.nil : Sl E h (.slice none 0 0) [] := Ow.nil.sl
theorem Sl.ln (H : Sl E h v xs) : lnS v = some (.int .i64 xs.length) := by obtain ⟨a, cap, rfl, _⟩ := H; rfl
theorem Ow.lt (H : Ow E h v xs) {r : Nat} (hr : blk v = some r) : r < h.size := by
  rcases H with ⟨rfl, rfl⟩ | ⟨r', o, cap, rfl, hl, hb, _⟩
  · simp [blk] at hr
  · simp only [blk, Option.some.injEq] at hr; omega

/-- the place of an element -/
theorem Sl.ix (H : Sl E h v xs) {i : Nat} {x : α} (hx : xs[i]? = some x) {n : Nat} (hn : n = E.n) {k : IntKind} {z : Int} (hz : z = i) :
    ∃ r o, ixs n v (.int k z) = some (.pointer (some ⟨r, o, none⟩)) ∧ Row E h r o x ∧ blk v = some r := by
  obtain ⟨a, cap, rfl, h1, h2, h3⟩ := H
  obtain ⟨r, o, rfl, hr⟩ := h3 i x hx
  have hlt := (List.getElem?_eq_some_iff.mp hx).1
  subst hz hn
  exact ⟨r, o + i * E.n, by simp [ixs, hlt, addN], hr, rfl⟩
theorem Sl.whole (H : Sl E h v xs) {n : Nat} (hn : n = E.n) {k : Value → Prop} {i : Nat} {x : α} (hx : xs[i]? = some x) {q : IntKind} {z : Int} (hz : z = i) (hk : k (.agg (E.c x).toArray)) :
    Vb (ixs n v (.int q z)) fun p => Vb (lda n p h) k := by
  obtain ⟨r, o, e, hr, _⟩ := H.ix hx hn hz (k := q)
  exact vb e (vb (hr.lda hn) hk)
theorem Sl.one (H : Sl E h v xs) {n : Nat} (hn : n = E.n) {k : Value → Prop} {i : Nat} {x : α} (hx : xs[i]? = some x) {q : IntKind} {z : Int} (hz : z = i) {u : Value} (hu : (E.c x)[0]? = some u) (hk : k u) :
    Vb (ixs n v (.int q z)) fun p => Vb (ldc p h) k := by
  obtain ⟨r, o, e, hr, _⟩ := H.ix hx hn hz (k := q)
  exact vb e (vb (hr.ldc0 hu) hk)
theorem Sl.fld (H : Sl E h v xs) {n : Nat} (hn : n = E.n) {k : Value → Prop} {i : Nat} {x : α} (hx : xs[i]? = some x) {q : IntKind} {z : Int} (hz : z = i) {j : Nat} {u : Value} (hu : (E.c x)[j]? = some u) (hk : k u) :
    Vb (ixs n v (.int q z)) fun p => Vb (fa j p) fun p => Vb (ldc p h) k := by
  obtain ⟨r, o, e, hr, _⟩ := H.ix hx hn hz (k := q)
  exact vb e (vb (fa_add _ _ _) (vb (hr.ldc hu) hk))

/-- all cells of a slice -/
theorem flat_at (E : Enc α) : ∀ (xs : List α) (j : Nat) (u : Value), (xs.flatMap E.c)[j]? = some u → ∃ i x j', xs[i]? = some x ∧ (E.c x)[j']? = some u ∧ j = i * E.n + j'
  | [], j, u, h => by simp at h
  | x :: xs, j, u, h => by
    rw [List.flatMap_cons] at h
    by_cases hj : j < (E.c x).length
    · rw [List.getElem?_append_left hj] at h
      exact ⟨0, x, j, rfl, h, by simp⟩
    · rw [List.getElem?_append_right (by omega), E.len] at h
      obtain ⟨i, y, j', h1, h2, h3⟩ := flat_at E xs _ u h
      rw [E.len] at hj
      exact ⟨i + 1, y, j', by simpa using h1, h2, by rw [Nat.succ_mul]; omega⟩
theorem flat_len (E : Enc α) : ∀ xs : List α, (xs.flatMap E.c).length = xs.length * E.n
  | [] => by simp
  | x :: xs => by rw [List.flatMap_cons, List.length_append, flat_len E xs, E.len, List.length_cons, Nat.succ_mul]; omega
theorem Sl.row (H : Sl E h v xs) {n : Nat} (hn : n = xs.length * E.n) : rowOf v n h = some (xs.flatMap E.c) := by
  obtain ⟨a, cap, rfl, h1, h2, h3⟩ := H
  subst hn
  cases xs with
  | nil =>
    cases a with
    | none => rfl
    | some a => simp [rowOf, rowFrom]
  | cons x0 xs0 =>
    obtain ⟨r, o, rfl, _⟩ := h3 0 x0 rfl
    unfold rowOf
    rw [← flat_len]
    refine rowFrom_ok _ _ fun j u hj => ?_
    obtain ⟨i, x, j', e1, e2, rfl⟩ := flat_at E _ j u hj
    obtain ⟨r', o', e, hr⟩ := h3 i x e1
    simp only [Option.some.injEq, Addr.mk.injEq, and_true] at e
    obtain ⟨rfl, rfl⟩ := e
    have := hr j' u e2
    rw [Nat.add_zero, ← Nat.add_assoc]
    exact this
end

/-! ### Append -/
theorem zeroCells_size (z : Array Value) (n : Nat) : (Builtin.zeroCells z n).size = n * z.size := by simp [Builtin.zeroCells]

theorem ap {α : Type} {E : Enc α} {e : TypeId} {zero : Array Value} {n bytes : Nat} {s x : Value} {h : Hp} {xs ys : List α} {k : Value → Hp → Prop}
    (hs : Ow E h s xs) (hx : Sl E h x ys) (hn : n = E.n) (hz : zero.size = E.n) (hb : (xs.length + ys.length) * bytes ≤ 140737488355328) (hl : xs.length + ys.length ≤ 9223372036854775807)
    (hk : ∀ v h', Ow E h' v (xs ++ ys) → Ch (fun r => blk s = some r) h h' → (blk v = blk s ∨ blk v = some h.size) → k v h') : Ap e zero n bytes s x h k := by
  obtain ⟨xa, xc, ex, hxc, hxn, hxr⟩ := id hx
  have hxrow := hx.row rfl
  subst hn
  have hsl := hs.sl
  have hsrow := hsl.row rfl
  have grow : ∀ (sn : Option Addr) (sc : Nat), s = .slice sn xs.length sc → ∀ cap, xs.length + ys.length ≤ cap → k (.slice (some ⟨h.size, 0, none⟩) (xs.length + ys.length) cap) (h.push (.cells ((xs.flatMap E.c).toArray ++ (ys.flatMap E.c).toArray ++ Builtin.zeroCells zero (cap - (xs.length + ys.length))) e)) := by
    intro sn sc hsn cap hcap
    refine hk _ _ (.inr ⟨h.size, 0, cap, by simp, by simpa using hcap, by simp, fun i y hy => ?_, fun j hj => ?_⟩) ((Ch.push h _).mono fun _ _ e => e.elim) (.inr rfl)
    · intro j u hu
      have hfl : ((xs ++ ys).flatMap E.c)[i * E.n + j]? = some u := by
        clear hk hx hxrow hsrow hsl hs hb hl hcap hsn hxr
        generalize xs ++ ys = zs at hy
        induction zs generalizing i with
        | nil => simp at hy
        | cons z zs ih =>
          rw [List.flatMap_cons]
          cases i with
          | zero =>
            simp only [List.getElem?_cons_zero, Option.some.injEq] at hy
            subst hy
            rw [Nat.zero_mul, Nat.zero_add, List.getElem?_append_left (List.getElem?_eq_some_iff.mp hu).1]
            exact hu
          | succ i =>
            have := ih i (by simpa using hy)
            rw [List.getElem?_append_right (by rw [E.len, Nat.succ_mul]; omega), E.len]
            have e2 : (i + 1) * E.n + j - E.n = i * E.n + j := by rw [Nat.succ_mul]; omega
            rw [e2]; exact this
      have hlt := (List.getElem?_eq_some_iff.mp hfl).1
      unfold cl
      simp only [Array.getElem?_push_size, Nat.zero_add]
      rw [Array.getElem?_append_left (by rw [List.flatMap_append, List.length_append] at hlt; simpa using hlt)]
      rw [List.flatMap_append] at hfl
      simpa using hfl
    · unfold cl fz
      simp only [Array.getElem?_push_size, Nat.zero_add]
      refine ⟨?_, by simp⟩
      have : j < ((xs.flatMap E.c).toArray ++ (ys.flatMap E.c).toArray ++ Builtin.zeroCells zero (cap - (xs.length + ys.length))).size := by
        have h1 := flat_len E xs
        have h2 := flat_len E ys
        simp only [Array.size_append, List.size_toArray, zeroCells_size, hz, h1, h2]
        have : cap = xs.length + ys.length + (cap - (xs.length + ys.length)) := by omega
        rw [this, Nat.add_mul, Nat.add_mul] at hj
        exact hj
      rw [Array.getElem?_eq_getElem this]; rfl
  rcases hs with ⟨rfl, rfl⟩ | ⟨r, o, cap, rfl, hcap, hr, hrow, hw⟩
  · refine ⟨none, 0, 0, xa, ys.length, xc, _, rfl, ex, hxrow, fun hle => ?_, fun _ => ⟨by simpa using hb, by simpa using hl, _, hsrow, fun cap hc _ => by simpa using grow none 0 rfl cap (by simpa using hc)⟩⟩
    have : ys = [] := List.length_eq_zero_iff.mp (by omega)
    subst this
    simp only [List.length_nil, Nat.add_zero]
    exact hk _ _ (.inl ⟨rfl, rfl⟩) (.refl _ _) (.inl rfl)
  · refine ⟨_, xs.length, cap, xa, ys.length, xc, _, rfl, ex, hxrow, fun hle => ?_, fun _ => ⟨hb, hl, _, hsrow, fun cap' hc _ => grow _ _ rfl cap' hc⟩⟩
    have ea : (⟨r, o, none⟩ : Addr).add (xs.length * E.n) = ⟨r, o + xs.length * E.n, none⟩ := addN _ _ _
    show ∃ h', stores h ((⟨r, o, none⟩ : Addr).add (xs.length * E.n)) 0 (ys.flatMap E.c) = some h' ∧ _
    rw [ea]
    obtain ⟨h', e1, up⟩ := stores_ok (r := r) (o := o + xs.length * E.n) (ys.flatMap E.c) 0 h (fun u hu => by
        obtain ⟨y, _, hy⟩ := List.mem_flatMap.mp hu
        exact E.one y u hy) (fun j hj => by
        rw [flat_len] at hj
        have := hw (xs.length * E.n + j) (by
          have : (xs.length + ys.length) * E.n ≤ cap * E.n := Nat.mul_le_mul_right _ hle
          rw [Nat.add_mul] at this; omega)
        rw [Nat.add_zero, Nat.add_assoc]; exact this)
    refine ⟨h', e1, hk _ _ (.inr ⟨r, o, cap, by simp, by simpa using hle, by rw [up.size]; exact hr, fun i y hy j u hu => ?_, fun j hj => ?_⟩) (up.ch.mono fun x _ e => by subst e; rfl) (.inl rfl)⟩
    · have hj : j < E.n := by have := (List.getElem?_eq_some_iff.mp hu).1; rwa [E.len] at this
      by_cases hi : i < xs.length
      · rw [List.getElem?_append_left hi] at hy
        rw [up.keep _ (fun j' _ => by
          have : (i + 1) * E.n ≤ xs.length * E.n := Nat.mul_le_mul_right _ hi
          rw [Nat.succ_mul] at this; omega)]
        exact hrow i y hy j u hu
      · rw [List.getElem?_append_right (by omega)] at hy
        have hfl : (ys.flatMap E.c)[(i - xs.length) * E.n + j]? = some u := by
          generalize i - xs.length = q at hy
          clear hk hx hxrow hsrow hsl hb hl hcap hrow hw grow up e1 hle hxr hxc ex
          induction ys generalizing q with
          | nil => simp at hy
          | cons z zs ih =>
            rw [List.flatMap_cons]
            cases q with
            | zero =>
              simp only [List.getElem?_cons_zero, Option.some.injEq] at hy
              subst hy
              rw [Nat.zero_mul, Nat.zero_add, List.getElem?_append_left (by rw [E.len]; exact hj)]
              exact hu
            | succ q =>
              have := ih q (by simpa using hy)
              rw [List.getElem?_append_right (by rw [E.len, Nat.succ_mul]; omega), E.len]
              have e2 : (q + 1) * E.n + j - E.n = q * E.n + j := by rw [Nat.succ_mul]; omega
              rw [e2]; exact this
        have := up.put _ _ hfl
        have hh : o + i * E.n + j = o + xs.length * E.n + 0 + ((i - xs.length) * E.n + j) := by
          obtain ⟨q, rfl⟩ : ∃ q, i = xs.length + q := ⟨i - xs.length, by omega⟩
          rw [Nat.add_sub_cancel_left, Nat.add_mul]; omega
        rw [hh]; exact this
    · exact ⟨up.some (hw j hj).1, by rw [up.fz]; exact (hw j hj).2⟩

end Go.En
namespace Go.En

section
variable {α : Type} {E : Enc α} {h h' : Hp} {v : Value} {xs : List α}

theorem flat_in : ∀ {xs : List α} {i : Nat} {y : α} {j : Nat} {u : Value}, xs[i]? = some y → (E.c y)[j]? = some u → (xs.flatMap E.c)[i * E.n + j]? = some u
  | [], _, _, _, _, h, _ => by simp at h
  | z :: zs, i, y, j, u, hy, hu => by
    rw [List.flatMap_cons]
    cases i with
    | zero =>
      simp only [List.getElem?_cons_zero, Option.some.injEq] at hy
      subst hy
      rw [Nat.zero_mul, Nat.zero_add, List.getElem?_append_left (List.getElem?_eq_some_iff.mp hu).1]
      exact hu
    | succ i =>
      have := flat_in (xs := zs) (i := i) (by simpa using hy) hu
      rw [List.getElem?_append_right (by rw [E.len, Nat.succ_mul]; omega), E.len]
      have e2 : (i + 1) * E.n + j - E.n = i * E.n + j := by rw [Nat.succ_mul]; omega
      rw [e2]; exact this

/-- a new slice -/
theorem Ow.new {cs : Array Value} {e : TypeId} {cap : Nat} (hc : ∀ (j : Nat) (u : Value), (xs.flatMap E.c)[j]? = some u → cs[j]? = some u) (hl : xs.length ≤ cap) (hcap : cap * E.n ≤ cs.size) :
    Ow E (h.push (.cells cs e)) (.slice (some ⟨h.size, 0, none⟩) xs.length cap) xs := by
  refine .inr ⟨h.size, 0, cap, rfl, hl, by simp, fun i x hx j u hu => ?_, fun j hj => ?_⟩
  · unfold cl
    simp only [Array.getElem?_push_size, Nat.zero_add]
    exact hc _ _ (flat_in hx hu)
  · unfold cl fz
    simp only [Array.getElem?_push_size, Nat.zero_add]
    exact ⟨by rw [Array.getElem?_eq_getElem (by omega)]; rfl, by simp⟩
theorem Ow.lit {cs : List Value} {e : TypeId} {len : Nat} (hc : cs = xs.flatMap E.c) (hl : xs.length = len) : Ow E (h.push (.cells ⟨cs⟩ e)) (.slice (some ⟨h.size, 0, none⟩) len len) xs := by
  subst hl hc
  exact Ow.new (fun (j : Nat) (u : Value) hj => by simpa using hj) (Nat.le_refl _) (by rw [List.size_toArray, flat_len]; exact Nat.le_refl _)

theorem fold_set (off : Nat) : ∀ (l : List Value) (i : Nat) (cs : List Value), off + i + l.length ≤ cs.length → ((l.zipIdx i).foldl (fun (cs : Array Value) (x : Value × Nat) => cs.setIfInBounds (off + x.2) x.1) cs.toArray).toList = cs.take (off + i) ++ l ++ cs.drop (off + i + l.length)
  | [], i, cs, _ => by simp
  | u :: l, i, cs, h => by
    rw [List.length_cons] at h
    rw [List.zipIdx_cons, List.foldl_cons]
    have e : cs.toArray.setIfInBounds (off + i) u = (cs.set (off + i) u).toArray := by simp
    simp only [e]
    rw [fold_set off l (i + 1) (cs.set (off + i) u) (by rw [List.length_set]; omega), List.set_eq_take_append_cons_drop, if_pos (by omega)]
    have hl : (cs.take (off + i)).length = off + i := by rw [List.length_take]; omega
    have e1 : (cs.take (off + i) ++ u :: cs.drop (off + i + 1)).take (off + (i + 1)) = cs.take (off + i) ++ [u] := by
      rw [List.take_append, hl, List.take_of_length_le (by omega), show off + (i + 1) - (off + i) = 1 by omega]; rfl
    have e2 : (cs.take (off + i) ++ u :: cs.drop (off + i + 1)).drop (off + (i + 1) + l.length) = cs.drop (off + i + (l.length + 1)) := by
      rw [List.drop_append, hl, List.drop_of_length_le (by omega), List.nil_append, show off + (i + 1) + l.length - (off + i) = l.length + 1 by omega, List.drop_succ_cons, List.drop_drop]
      congr 1; omega
    rw [e1, e2, List.length_cons]
    simp

theorem fill_go {n : Nat} : ∀ (us : List Value) (i : Nat) (cs : List Value), cs.length = (i + us.length) * n → (∀ u, u ∈ us → u.cells.size = n) →
    Instr.fill (fun i => some (i * n, n)) cs.toArray ((us.zipIdx i).map fun x => (x.2, x.1)) = some (cs.take (i * n) ++ us.flatMap fun u => u.cells.toList).toArray
  | [], i, cs, h, _ => by
    simp only [List.zipIdx_nil, List.map_nil, Instr.fill, List.flatMap_nil, List.append_nil]
    rw [List.take_of_length_le (by simp at h; omega)]
  | u :: us, i, cs, h, hu => by
    have h1 := hu u (by simp)
    rw [List.zipIdx_cons, List.map_cons]
    unfold Instr.fill
    simp only [List.length_cons] at h
    have hm : (i + (us.length + 1)) * n = i * n + n + us.length * n := by rw [Nat.add_mul, Nat.add_mul, Nat.one_mul]; omega
    rw [hm] at h
    have hc : (u.cells.size ≠ n || i * n + u.cells.size > cs.toArray.size) = false := by simp [h1]; omega
    simp only [hc, Bool.false_eq_true, if_false]
    have hf : (u.cells.zipIdx.foldl (fun cs x => cs.setIfInBounds (i * n + x.2) x.1) cs.toArray) = (cs.take (i * n) ++ u.cells.toList ++ cs.drop (i * n + n)).toArray := by
      apply Array.ext'
      rw [← Array.foldl_toList, Array.toList_zipIdx, fold_set]
      · have : u.cells.toList.length = n := by simpa using h1
        rw [Nat.add_zero, this]
      · have : u.cells.toList.length = n := by simpa using h1
        rw [Nat.add_zero, this]; omega
    have hL : u.cells.toList.length = n := by simpa using h1
    have hT : (cs.take (i * n)).length = i * n := by rw [List.length_take]; omega
    rw [hf, fill_go us (i + 1) _ (by rw [List.length_append, List.length_append, hT, hL, List.length_drop, Nat.add_mul, Nat.add_mul, Nat.one_mul]; omega) (fun u h => hu u (List.mem_cons_of_mem _ h))]
    congr 2
    rw [Nat.succ_mul, List.flatMap_cons, ← List.append_assoc]
    congr 1
    rw [List.take_append, List.length_append, hT, hL, Nat.sub_self, List.take_zero, List.append_nil, List.take_of_length_le (by rw [List.length_append, hT, hL]; omega)]

/-- a slice of values -/
theorem bsl_ok {zero : Array Value} {n len : Nat} {e : TypeId} {us : List Value} {parts : List (Nat × Value)} (hp : parts = us.zipIdx.map fun x => (x.2, x.1)) (hl : us.length = len) (hu : ∀ u, u ∈ us → u.cells.size = n) :
    bsl zero n len e parts h = some (.slice (some ⟨h.size, 0, none⟩) len len, h.push (.cells ⟨us.flatMap fun u => u.cells.toList⟩ e)) := by
  unfold bsl
  subst hp
  have := fill_go (n := n) us 0 ((Array.range (len * n)).map (zero[· % zero.size]!)).toList (by simp [hl]) hu
  rw [Array.toArray_toList] at this
  rw [this]
  simp

/-- the place of an element of a slice of one's own -/
theorem Ow.ix (H : Ow E h v xs) {i : Nat} {x : α} (hx : xs[i]? = some x) {n : Nat} (hn : n = E.n) {k : IntKind} {z : Int} (hz : z = i) :
    ∃ r o cap, v = .slice (some ⟨r, o, none⟩) xs.length cap ∧ ixs n v (.int k z) = some (.pointer (some ⟨r, o + i * E.n, none⟩)) ∧ Row E h r (o + i * E.n) x := by
  rcases H with ⟨rfl, rfl⟩ | ⟨r, o, cap, rfl, hl, hb, hr, hw⟩
  · simp at hx
  · have hlt := (List.getElem?_eq_some_iff.mp hx).1
    subst hz hn
    exact ⟨r, o, cap, rfl, by simp [ixs, hlt, addN], hr i x hx⟩

/-- stores into an element: j its cell, vs what is put there -/
theorem Ow.put (H : Ow E h v xs) {i : Nat} {x y : α} (hx : xs[i]? = some x) {j : Nat} {vs : List Value} (hy : ∀ j' u, (E.c y)[j']? = some u → if j ≤ j' ∧ j' < j + vs.length then vs[j' - j]? = some u else (E.c x)[j']? = some u)
    (hj : j + vs.length ≤ E.n) (hone : ∀ u, u ∈ vs → u.oneCell' = true) {n : Nat} (hn : n = E.n) {q : IntKind} {z : Int} (hz : z = i) :
    ∃ r o h', ixs n v (.int q z) = some (.pointer (some ⟨r, o, none⟩)) ∧ stores h ⟨r, o + j, none⟩ 0 vs = some h' ∧ Ow E h' v (xs.set i y) ∧ Ch (fun r => blk v = some r) h h' ∧ h'.size = h.size := by
  obtain ⟨r, o, cap, rfl, e1, hrow⟩ := H.ix hx hn hz (k := q)
  have hlt := (List.getElem?_eq_some_iff.mp hx).1
  rcases H with ⟨e, _⟩ | ⟨r', o', cap', e, hl, hb, hr, hw⟩
  · simp at e
  simp only [Value.slice.injEq, Option.some.injEq, Addr.mk.injEq, and_true, true_and] at e
  obtain ⟨⟨rfl, rfl⟩, rfl⟩ := e
  have hmul : i * E.n + E.n ≤ xs.length * E.n := by have : (i + 1) * E.n ≤ xs.length * E.n := Nat.mul_le_mul_right _ hlt; rw [Nat.succ_mul] at this; exact this
  have hmul2 : xs.length * E.n ≤ cap * E.n := Nat.mul_le_mul_right _ hl
  obtain ⟨h', e2, up⟩ := stores_ok (r := r) (o := o + i * E.n + j) vs 0 h hone (fun j' hj' => by
    have := hw (i * E.n + j + j') (by omega)
    rw [Nat.add_zero, show o + i * E.n + j + j' = o + (i * E.n + j + j') by omega]; exact this)
  refine ⟨r, o + i * E.n, h', e1, e2, .inr ⟨r, o, cap, by simp, by simpa using hl, by rw [up.size]; exact hb, fun i' x' hx' j' u hu => ?_, fun j' hj' => ?_⟩, up.ch.mono fun x _ e => by subst e; rfl, up.size⟩
  · have hj' : j' < E.n := by have := (List.getElem?_eq_some_iff.mp hu).1; rwa [E.len] at this
    rw [Nat.add_zero] at up
    by_cases hii : i' = i
    · subst hii
      rw [List.getElem?_set_self hlt, Option.some.injEq] at hx'
      subst hx'
      have := hy j' u hu
      split at this
      · rename_i hc
        have h3 := up.put (j' - j) u this
        rw [show o + i' * E.n + j + (j' - j) = o + i' * E.n + j' by omega] at h3
        exact h3
      · rename_i hc
        rw [up.keep _ (fun q hq => by omega)]
        exact hrow j' u this
    · rw [List.getElem?_set_ne (fun e => hii e.symm)] at hx'
      have hne : ∀ q, q < vs.length → o + i' * E.n + j' ≠ o + i * E.n + j + q := by
        intro q hq
        rcases Nat.lt_or_gt_of_ne hii with hlt' | hgt'
        · have : (i' + 1) * E.n ≤ i * E.n := Nat.mul_le_mul_right _ hlt'
          rw [Nat.succ_mul] at this; omega
        · have : (i + 1) * E.n ≤ i' * E.n := Nat.mul_le_mul_right _ hgt'
          rw [Nat.succ_mul] at this; omega
      rw [up.keep _ hne]
      exact hr i' x' hx' j' u hu
  · exact ⟨up.some (hw j' hj').1, by rw [up.fz]; exact (hw j' hj').2⟩

theorem sto_agg {r o n : Nat} {cs : List Value} (hn : cs.length = n) : sto n (.pointer (some ⟨r, o, none⟩)) (.agg ⟨cs⟩) h = stores h ⟨r, o, none⟩ 0 cs := by
  have : Nat.beq (Value.cells (.agg ⟨cs⟩)).size n = true := by simp [Value.cells, hn]
  simp only [sto, this]; rfl
theorem sto_one {r o : Nat} {u : Value} (hu : u.oneCell' = true) : sto 1 (.pointer (some ⟨r, o, none⟩)) u h = stores h ⟨r, o, none⟩ 0 [u] := by
  cases u <;> first | rfl | contradiction

/-- an element is set -/
theorem Ow.set (H : Ow E h v xs) {i : Nat} (hi : i < xs.length) (y : α) {n : Nat} (hn : n = E.n) {q : IntKind} {z : Int} (hz : z = i) {k : Hp → Prop} {w : Value} (hw : w = .agg ⟨E.c y⟩)
    (hk : ∀ h', Ow E h' v (xs.set i y) → Ch (fun r => blk v = some r) h h' → k h') : Vb (ixs n v (.int q z)) fun p => Sb (sto n p w h) k := by
  obtain ⟨r, o, h', e1, e2, e3, e4, _⟩ := H.put (List.getElem?_eq_getElem hi) (y := y) (j := 0) (vs := E.c y) (fun j' u hu => by
    rw [if_pos ⟨Nat.zero_le _, by have := (List.getElem?_eq_some_iff.mp hu).1; omega⟩]; exact hu) (by rw [E.len]; omega) (E.one y) hn hz (q := q)
  subst hw
  exact vb e1 (sb ((sto_agg (by rw [E.len, hn])).trans e2) (hk h' e3 e4))
theorem Ow.set1 (H : Ow E h v xs) {i : Nat} (hi : i < xs.length) (y : α) {n : Nat} (hn : n = E.n) (h1 : E.n = 1) {q : IntKind} {z : Int} (hz : z = i) {k : Hp → Prop} {w : Value} (hw : E.c y = [w])
    (hk : ∀ h', Ow E h' v (xs.set i y) → Ch (fun r => blk v = some r) h h' → k h') : Vb (ixs n v (.int q z)) fun p => Sb (sto 1 p w h) k := by
  obtain ⟨r, o, h', e1, e2, e3, e4, _⟩ := H.put (List.getElem?_eq_getElem hi) (y := y) (j := 0) (vs := E.c y) (fun j' u hu => by
    rw [if_pos ⟨Nat.zero_le _, by have := (List.getElem?_eq_some_iff.mp hu).1; omega⟩]; exact hu) (by rw [E.len]; omega) (E.one y) hn hz (q := q)
  rw [hw] at e2
  exact vb e1 (sb ((sto_one (E.one y w (by rw [hw]; simp))).trans e2) (hk h' e3 e4))
/-- a field of an element is set -/
theorem Ow.setf (H : Ow E h v xs) {i : Nat} {x : α} (hx : xs[i]? = some x) (y : α) {n : Nat} (hn : n = E.n) {q : IntKind} {z : Int} (hz : z = i) {j : Nat} {k : Hp → Prop} {w : Value} (hw : w.oneCell' = true) (hj : j < E.n) (hy : E.c y = (E.c x).set j w)
    (hk : ∀ h', Ow E h' v (xs.set i y) → Ch (fun r => blk v = some r) h h' → k h') : Vb (ixs n v (.int q z)) fun p => Vb (fa j p) fun p => Sb (sto 1 p w h) k := by
  obtain ⟨r, o, h', e1, e2, e3, e4, _⟩ := H.put hx (y := y) (j := j) (vs := [w]) (fun j' u hu => by
    rw [hy, List.getElem?_set] at hu
    split
    · rename_i hc
      have : j = j' := by simp only [List.length_cons, List.length_nil] at hc; omega
      subst this
      rw [if_pos rfl] at hu
      split at hu <;> simp_all
    · rename_i hc
      rw [if_neg (fun e => hc (by subst e; simp))] at hu
      exact hu) (by simp; omega) (by simpa using hw) hn hz (q := q)
  exact vb e1 (vb (fa_add _ _ _) (sb ((sto_one hw).trans e2) (hk h' e3 e4)))

/-! ### Parts of slices -/
theorem slc_ok {n : Nat} {a : Option Addr} {len cap : Nat} {lo hi : Option Value} {l u : Nat} (hl : lo = none ∧ l = 0 ∨ ∃ k z, lo = some (.int k z) ∧ z = l) (hu : hi = none ∧ u = len ∨ ∃ k z, hi = some (.int k z) ∧ z = u) (h1 : l ≤ u) (h2 : u ≤ cap) :
    slc n (.slice a len cap) lo hi none = some (.slice (if cap = l then a else a.map (·.add (l * n))) (u - l) (cap - l)) := by
  have e2 : bndH hi len cap = some u := by
    rcases hu with ⟨rfl, rfl⟩ | ⟨k, z, rfl, rfl⟩
    · rfl
    · simp [bndH, bnd, h2]
  have e3 : bndL lo u = some l := by
    rcases hl with ⟨rfl, rfl⟩ | ⟨k, z, rfl, rfl⟩
    · rfl
    · simp [bndL, bnd, h1]
  simp [slc, bnds, bndM, e2, e3, slcA]

theorem Sl.sub (H : Sl E h v xs) {n : Nat} (hn : n = E.n) {lo hi : Option Value} {l u : Nat} (hl : lo = none ∧ l = 0 ∨ ∃ k z, lo = some (.int k z) ∧ z = l) (hu : hi = none ∧ u = xs.length ∨ ∃ k z, hi = some (.int k z) ∧ z = u) (h1 : l ≤ u) (h2 : u ≤ xs.length) :
    ∃ w, slc n v lo hi none = some w ∧ Sl E h w ((xs.take u).drop l) ∧ (blk w = blk v) := by
  obtain ⟨a, cap, rfl, h3, h4, h5⟩ := H
  refine ⟨_, slc_ok hl hu h1 (Nat.le_trans h2 h3), ?_, ?_⟩
  · refine ⟨_, _, by rw [List.length_drop, List.length_take]; congr 1; omega, by rw [List.length_drop, List.length_take]; omega, ?_, fun i x hx => ?_⟩
    · intro e
      split at e
      · omega
      · have := h4 (by simpa using e); omega
    · rw [List.getElem?_drop] at hx
      have hlt := (List.getElem?_eq_some_iff.mp hx).1
      rw [List.length_take] at hlt
      rw [List.getElem?_take_of_lt (by omega)] at hx
      obtain ⟨r, o, rfl, hr⟩ := h5 _ _ hx
      rw [if_neg (by omega)]
      refine ⟨r, o + l * n, by simp [addN], ?_⟩
      subst hn
      rw [Nat.add_mul] at hr
      rw [Nat.add_assoc]; exact hr
  · split
    · cases a <;> rfl
    · cases a with
      | none => rfl
      | some a => simp only [blk, Option.map_some]; unfold Addr.add; split <;> rfl

theorem Ow.sub (H : Ow E h v xs) {n : Nat} (hn : n = E.n) {hi : Option Value} {u : Nat} (hu : hi = none ∧ u = xs.length ∨ ∃ k z, hi = some (.int k z) ∧ z = u) (h2 : u ≤ xs.length) :
    ∃ w, slc n v none hi none = some w ∧ Ow E h w (xs.take u) ∧ (blk w = blk v) := by
  rcases H with ⟨rfl, rfl⟩ | ⟨r, o, cap, rfl, h3, hb, hr, hw⟩
  · have : u = 0 := by simpa using h2
    subst this
    exact ⟨_, slc_ok (.inl ⟨rfl, rfl⟩) hu (Nat.zero_le _) (Nat.zero_le _), .inl ⟨rfl, rfl⟩, rfl⟩
  · refine ⟨_, slc_ok (.inl ⟨rfl, rfl⟩) hu (Nat.zero_le _) (Nat.le_trans h2 h3), .inr ⟨r, o, cap, ?_, ?_, hb, fun i x hx => ?_, hw⟩, ?_⟩
    · rw [List.length_take, Nat.min_eq_left h2]
      simp [addN]
    · rw [List.length_take]; omega
    · have hlt := (List.getElem?_eq_some_iff.mp hx).1
      rw [List.length_take] at hlt
      rw [List.getElem?_take_of_lt (by omega)] at hx
      exact hr i x hx
    · split
      · rfl
      · simp [blk, addN]
end

/-! ### Maps with whole-number keys -/
def lookA {α : Type} (ps : List (Int × α)) (k : Int) : Option α := (ps.find? fun p => p.1 == k).map (·.2)
def updA {α : Type} : List (Int × α) → Int → α → List (Int × α)
  | [], k, x => [(k, x)]
  | p :: ps, k, x => if p.1 = k then (k, x) :: ps else p :: updA ps k x
theorem lookA_updA {α : Type} (k k' : Int) (x : α) : ∀ ps : List (Int × α), lookA (updA ps k x) k' = if k' = k then some x else lookA ps k'
  | [] => by
    by_cases h : k' = k
    · subst h; simp [lookA, updA]
    · have h' : ¬ k = k' := fun e => h e.symm
      simp [lookA, updA, h, h']
  | p :: ps => by
    have ih := lookA_updA k k' x ps
    unfold lookA at ih ⊢
    unfold updA
    by_cases h : p.1 = k
    · rw [if_pos h]
      by_cases h2 : k' = k
      · subst h2; simp
      · rw [if_neg h2, List.find?_cons_of_neg (by simpa using fun e => h2 e.symm), List.find?_cons_of_neg (by rw [h]; simpa using fun e => h2 e.symm)]
    · rw [if_neg h]
      by_cases h3 : p.1 = k'
      · rw [List.find?_cons_of_pos (by simpa using h3), List.find?_cons_of_pos (by simpa using h3), if_neg (by rw [← h3]; exact h)]
      · rw [List.find?_cons_of_neg (by simpa using h3), List.find?_cons_of_neg (by simpa using h3)]; exact ih
theorem mem_updA {α : Type} {k : Int} {x : α} {p : Int × α} : ∀ {ps : List (Int × α)}, p ∈ updA ps k x → p = (k, x) ∨ p ∈ ps
  | [], h => by simpa [updA] using h
  | q :: ps, h => by
    unfold updA at h
    split at h
    · rcases List.mem_cons.mp h with e | e
      · exact .inl e
      · exact .inr (List.mem_cons_of_mem _ e)
    · rcases List.mem_cons.mp h with e | e
      · exact .inr (by rw [e]; simp)
      · exact (mem_updA e).imp id (List.mem_cons_of_mem _)
theorem nodup_updA {α : Type} (k : Int) (x : α) : ∀ {ps : List (Int × α)}, (ps.map (·.1)).Nodup → ((updA ps k x).map (·.1)).Nodup
  | [], _ => by simp [updA]
  | p :: ps, h => by
    rw [List.map_cons, List.nodup_cons] at h
    unfold updA
    split
    · rename_i e
      rw [List.map_cons, List.nodup_cons]
      exact ⟨by simpa [← e] using h.1, h.2⟩
    · rename_i e
      rw [List.map_cons, List.nodup_cons]
      refine ⟨fun hm => ?_, nodup_updA k x h.2⟩
      obtain ⟨q, hq, e2⟩ := List.mem_map.mp hm
      rcases mem_updA hq with rfl | hq
      · exact e e2.symm
      · exact h.1 (List.mem_map.mpr ⟨q, hq, e2⟩)
theorem lookA_mem {α : Type} {ps : List (Int × α)} (hn : (ps.map (·.1)).Nodup) {k : Int} {x : α} : (k, x) ∈ ps ↔ lookA ps k = some x := by
  induction ps with
  | nil => simp [lookA]
  | cons p ps ih =>
    rw [List.map_cons, List.nodup_cons] at hn
    have ih := ih hn.2
    unfold lookA at ih ⊢
    by_cases h : p.1 = k
    · rw [List.find?_cons_of_pos (by simpa using h)]
      simp only [Option.map_some, Option.some.injEq, List.mem_cons]
      constructor
      · rintro (e | e)
        · rw [← e]
        · exact absurd (List.mem_map.mpr ⟨_, e, h.symm⟩) hn.1
      · intro e; left; rw [← h, ← e]
    · rw [List.find?_cons_of_neg (by simpa using h), ← ih, List.mem_cons]
      constructor
      · rintro (e | e)
        · exact absurd (by rw [← e]) h
        · exact e
      · exact .inr

/-- the entries of a map, as data -/
structure Ent {α : Type} (ik : IntKind) (E : α → Value) (es : List MapEntry) (ps : List (Int × α)) (clock : Nat) : Prop where
  dat : es.map (fun e => (e.key, e.val)) = ps.map (fun p => (Value.int ik p.1, E p.2))
  born : ∀ e, e ∈ es → e.born < clock
  nodup : (es.map (·.born)).Nodup
def Mp {α : Type} (ik : IntKind) (E : α → Value) (h : Hp) (v : Value) (ps : List (Int × α)) : Prop :=
  ∃ r es clock, v = .map (some r) ∧ h[r]? = some (.map es clock) ∧ Ent ik E es.toList ps clock
def mblk : Value → Option Nat
  | .map r => r
  | _ => none

theorem find_ok {α : Type} {ik : IntKind} {E : α → Value} {k : Int} : ∀ {es : List MapEntry} {ps : List (Int × α)} (i : Nat), es.map (fun e => (e.key, e.val)) = ps.map (fun p => (Value.int ik p.1, E p.2)) →
    ∃ r, Instr.findNow (.int ik) (.int ik k) es i = some r ∧ r.map (·.2) = (lookA ps k).map E ∧
      ∀ j u, r = some (j, u) → ∃ es1 e es2 ps1 p ps2, es = es1 ++ e :: es2 ∧ ps = ps1 ++ p :: ps2 ∧ es1.length = j - i ∧ i ≤ j ∧ ps1.length = es1.length ∧ p.1 = k ∧ (∀ q ∈ ps1, q.1 ≠ k) ∧ e.key = .int ik k
  | [], [], i, _ => ⟨none, rfl, rfl, fun j u e => by simp at e⟩
  | [], _ :: _, _, h => by simp at h
  | _ :: _, [], _, h => by simp at h
  | e :: es, p :: ps, i, h => by
    simp only [List.map_cons, List.cons.injEq, Prod.mk.injEq] at h
    obtain ⟨⟨h1, h2⟩, h3⟩ := h
    unfold Instr.findNow
    rw [h1]
    simp only [Instr.sameNow, if_true]
    by_cases hk : k = p.1
    · subst hk
      simp only [beq_self_eq_true]
      refine ⟨_, rfl, by simp [lookA, h2], fun j u hj => ?_⟩
      simp only [Option.some.injEq, Prod.mk.injEq] at hj
      obtain ⟨rfl, rfl⟩ := hj
      exact ⟨[], e, es, [], p, ps, rfl, rfl, by simp, Nat.le_refl _, rfl, rfl, fun q hq => by simp at hq, h1⟩
    · have : (k == p.1) = false := by simpa using hk
      simp only [this]
      obtain ⟨r, a1, a2, a3⟩ := find_ok (k := k) (i + 1) h3
      refine ⟨r, a1, ?_, fun j u hj => ?_⟩
      · rw [a2]; unfold lookA; rw [List.find?_cons_of_neg (by simpa using fun e => hk e.symm)]
      · obtain ⟨es1, e', es2, ps1, p', ps2, rfl, rfl, b1, b2, b3, b4, b5, b6⟩ := a3 j u hj
        refine ⟨e :: es1, e', es2, p :: ps1, p', ps2, rfl, rfl, by simp; omega, by omega, by simp [b3], b4, fun q hq => ?_, b6⟩
        rcases List.mem_cons.mp hq with rfl | hq
        · exact fun e => hk e.symm
        · exact b5 q hq

section
variable {α : Type} {ik : IntKind} {E : α → Value} {h h' : Hp} {v : Value} {ps : List (Int × α)} {D : Nat → Prop}
theorem Mp.new : Mp ik E (h.push (.map #[] 0)) (.map (some h.size)) [] := ⟨h.size, #[], 0, rfl, by simp, rfl, fun e he => by simp at he, by simp⟩
theorem Mp.ch (H : Mp ik E h v ps) (c : Ch D h h') (hd : ∀ r, mblk v = some r → ¬ D r) : Mp ik E h' v ps := by
  obtain ⟨r, es, clock, rfl, hh, he⟩ := H
  exact ⟨r, es, clock, rfl, (c.same r (Array.getElem?_eq_some_iff.mp hh).1 (hd r rfl)).trans hh, he⟩
theorem Mp.gr (H : Mp ik E h v ps) (c : Gr h h') : Mp ik E h' v ps := H.ch c fun _ _ e => e
theorem Mp.lt (H : Mp ik E h v ps) {r : Nat} (hr : mblk v = some r) : r < h.size := by
  obtain ⟨r', es, clock, rfl, hh, he⟩ := H
  simp only [mblk, Option.some.injEq] at hr
  subst hr
  exact (Array.getElem?_eq_some_iff.mp hh).1
theorem Mp.look (H : Mp ik E h v ps) {zero : Value} {k : Int} : lkm (.int ik) zero false v (.int ik k) h = some (((lookA ps k).map E).getD zero) := by
  obtain ⟨r, es, clock, rfl, hh, he⟩ := H
  obtain ⟨f, h1, h2, _⟩ := find_ok (k := k) 0 he.dat
  simp [lkm, mkey, hh, h1, h2]
theorem Mp.lookOk (H : Mp ik E h v ps) {zero : Value} {k : Int} : lkm (.int ik) zero true v (.int ik k) h = some (.tuple #[((lookA ps k).map E).getD zero, .bool (lookA ps k).isSome]) := by
  obtain ⟨r, es, clock, rfl, hh, he⟩ := H
  obtain ⟨f, h1, h2, _⟩ := find_ok (k := k) 0 he.dat
  have h3 : f.isSome = (lookA ps k).isSome := by have := congrArg Option.isSome h2; simpa using this
  simp [lkm, mkey, hh, h1, h2, h3]

theorem updA_mid {p : Int × α} {k : Int} {x : α} : ∀ {ps1 ps2 : List (Int × α)}, (∀ q ∈ ps1, q.1 ≠ k) → p.1 = k → updA (ps1 ++ p :: ps2) k x = ps1 ++ (k, x) :: ps2
  | [], ps2, _, h => by simp [updA, h]
  | q :: ps1, ps2, h1, h2 => by
    rw [List.cons_append, updA, if_neg (h1 q (by simp)), updA_mid (fun q hq => h1 q (List.mem_cons_of_mem _ hq)) h2, List.cons_append]
theorem updA_end {k : Int} {x : α} : ∀ {ps : List (Int × α)}, lookA ps k = none → updA ps k x = ps ++ [(k, x)]
  | [], _ => rfl
  | p :: ps, h => by
    unfold lookA at h
    by_cases e : p.1 = k
    · rw [List.find?_cons_of_pos (by simpa using e)] at h; simp at h
    · rw [List.find?_cons_of_neg (by simpa using e)] at h
      rw [updA, if_neg e, updA_end h, List.cons_append]

theorem Mp.put (H : Mp ik E h v ps) (k : Int) (x : α) : ∃ h', mup (.int ik) v (.int ik k) (E x) h = some h' ∧ Mp ik E h' v (updA ps k x) ∧ Ch (fun r => mblk v = some r) h h' ∧ h'.size = h.size := by
  obtain ⟨r, es, clock, rfl, hh, he⟩ := H
  obtain ⟨f, h1, h2, h3⟩ := find_ok (k := k) 0 he.dat
  have hlt := (Array.getElem?_eq_some_iff.mp hh).1
  have hch : ∀ o, Ch (fun r' => mblk (.map (some r)) = some r') h (h.setIfInBounds r o) := fun o => ⟨by simp, fun r' _ hn => by rw [Array.getElem?_setIfInBounds, if_neg (fun e => hn (by rw [← e]; rfl))]⟩
  cases f with
  | some y =>
    obtain ⟨j, u⟩ := y
    refine ⟨_, by simp only [mup, mkey, hh, h1]; rfl, ⟨r, _, clock, rfl, by rw [Array.getElem?_setIfInBounds, if_pos rfl, if_pos hlt], ?_⟩, hch _, by simp⟩
    obtain ⟨es1, e, es2, ps1, p, ps2, a1, rfl, a3, a4, a5, a6, a7, a8⟩ := h3 j u rfl
    have hm : (es.modify j fun e => { e with key := .int ik k, val := E x }).toList = es1 ++ { e with key := .int ik k, val := E x } :: es2 := by
      rw [Array.toList_modify, a1]
      have : j = es1.length := by omega
      rw [this, List.modify_eq_take_cons_drop (by simp)]
      simp
    rw [hm]
    have hd := he.dat
    rw [a1, List.map_append, List.map_append, List.map_cons, List.map_cons] at hd
    obtain ⟨d1, d2⟩ := List.append_inj hd (by simp [a5])
    simp only [List.cons.injEq] at d2
    refine ⟨?_, ?_, ?_⟩
    · rw [updA_mid a7 a6, List.map_append, List.map_append, List.map_cons, List.map_cons, d1, d2.2]
    · intro e' he'
      rcases List.mem_append.mp he' with m | m
      · exact he.born e' (by rw [a1]; simp [m])
      · rcases List.mem_cons.mp m with rfl | m
        · exact he.born e (by rw [a1]; simp)
        · exact he.born e' (by rw [a1]; simp [m])
    · have := he.nodup
      rw [a1] at this
      simpa using this
  | none =>
    have hnone : lookA ps k = none := by simpa using h2.symm
    refine ⟨_, by simp only [mup, mkey, hh, h1]; rfl, ⟨r, _, clock + 1, rfl, by rw [Array.getElem?_setIfInBounds, if_pos rfl, if_pos hlt], ?_⟩, hch _, by simp⟩
    rw [Array.toList_push]
    refine ⟨?_, ?_, ?_⟩
    · rw [updA_end hnone, List.map_append, List.map_append, he.dat]; rfl
    · intro e' he'
      rcases List.mem_append.mp he' with m | m
      · exact Nat.lt_succ_of_lt (he.born e' m)
      · simp only [List.mem_singleton] at m; subst m; exact Nat.lt_succ_self _
    · rw [List.map_append, List.nodup_append]
      refine ⟨he.nodup, by simp, fun a ha b hb => ?_⟩
      obtain ⟨e', hm, rfl⟩ := List.mem_map.mp ha
      simp only [List.map_cons, List.map_nil, List.mem_singleton] at hb
      have := he.born e' hm
      omega
end
end Go.En
namespace Go.En

/-- a slice's block is no older than the heap h -/
def Fs (h : Hp) (v : Value) : Prop := ∀ r, blk v = some r → h.size ≤ r
/-- two slices in different blocks -/
def Dj (a b : Value) : Prop := ∀ r, blk a = some r → blk b ≠ some r
/-- the block of v is that of s, or new since h -/
def Nw (h : Hp) (s v : Value) : Prop := ∀ r, blk v = some r → blk s = some r ∨ h.size ≤ r
theorem Dj.symm {a b : Value} (h : Dj a b) : Dj b a := fun r h1 h2 => h r h2 h1
theorem Fs.nil (h : Hp) : Fs h (.slice none 0 0) := fun r e => by simp [blk] at e
theorem Dj.nil (v : Value) : Dj (.slice none 0 0) v := fun r e => by simp [blk] at e
theorem Dj.nil' (v : Value) : Dj v (.slice none 0 0) := (Dj.nil v).symm
theorem Fs.old {h h' : Hp} {D : Nat → Prop} {v : Value} (f : Fs h' v) (c : Ch D h h') : Fs h v := fun r e => Nat.le_trans c.size (f r e)
theorem Fs.next {h0 h : Hp} {D : Nat → Prop} {s v : Value} (f : Fs h0 s) (g : Ch D h0 h) (n : Nw h s v) : Fs h0 v := fun r e => (n r e).elim (f r) (fun l => Nat.le_trans g.size l)
theorem Dj.next {h : Hp} {s v b : Value} (d : Dj s b) (hb : ∀ r, blk b = some r → r < h.size) (n : Nw h s v) : Dj v b := fun r e e2 => (n r e).elim (fun l => d r l e2) (fun l => by have := hb r e2; omega)
theorem Dj.fresh {h : Hp} {v b : Value} (f : Fs h v) (hb : ∀ r, blk b = some r → r < h.size) : Dj v b := fun r e e2 => by have := f r e; have := hb r e2; omega
theorem Fs.not {h : Hp} {v : Value} (f : Fs h v) {r : Nat} (hr : r < h.size) : ¬ blk v = some r := fun e => by have := f r e; omega

section
variable {α : Type} {E : Enc α} {h h0 h' : Hp} {v s : Value} {xs ys : List α}
/-- old blocks are read as before when a young slice is written -/
theorem Sl.old (H : Sl E h0 v xs) (g : Gr h0 h) : Sl E h v xs := H.gr g
theorem Ow.other (H : Ow E h v xs) (c : Ch (fun r => blk s = some r) h h') (d : Dj v s) : Ow E h' v xs := H.ch c fun r e e2 => d r e e2
theorem Sl.other (H : Sl E h v xs) (c : Ch (fun r => blk s = some r) h h') (d : Dj v s) : Sl E h' v xs := H.ch c fun r e e2 => d r e e2
theorem Gr.write (g : Gr h0 h) (c : Ch (fun r => blk s = some r) h h') (f : Fs h0 s) : Gr h0 h' := g.young c fun r e => f r e

theorem apw {e : TypeId} {zero : Array Value} {n bytes : Nat} {x : Value} {k : Value → Hp → Prop}
    (hs : Ow E h s xs) (hx : Sl E h x ys) (hn : n = E.n) (hz : zero.size = E.n) (hb : (xs.length + ys.length) * bytes ≤ 140737488355328) (hl : xs.length + ys.length ≤ 9223372036854775807)
    (hk : ∀ v h', Ow E h' v (xs ++ ys) → Ch (fun r => blk s = some r) h h' → Nw h s v → k v h') : Ap e zero n bytes s x h k :=
  ap hs hx hn hz hb hl fun v h' a b c => hk v h' a b fun r e => by
    rcases c with c | c
    · exact .inl (c ▸ e)
    · rw [c] at e; simp only [Option.some.injEq] at e; exact .inr (by omega)

theorem app1 {e e' : TypeId} {zero : Array Value} {n bytes : Nat} {x : α} {w : Value} {k : Value → Hp → Prop}
    (hs : Ow E h s xs) (hn : n = E.n) (hz : zero.size = E.n) (hw : w.cells.toList = E.c x) (hb : (xs.length + 1) * bytes ≤ 140737488355328) (hl : xs.length + 1 ≤ 9223372036854775807)
    (hk : ∀ v h', Ow E h' v (xs ++ [x]) → Ch (fun r => blk s = some r) h h' → Nw h s v → k v h') : Eb (bsl zero n 1 e [(0, w)] h) fun u h1 => Ap e' zero n bytes s u h1 k := by
  refine eb (bsl_ok (us := [w]) rfl rfl (fun u hu => by
    simp only [List.mem_singleton] at hu; subst hu; rw [← Array.length_toList, hw, E.len, hn])) ?_
  refine apw (hs.gr (Ch.push _ _)) (Ow.lit (xs := [x]) (by simp [hw]) rfl).sl hn hz (by simpa using hb) (by simpa using hl) fun v h' a b c => hk v h' a (Ch.trans (Ch.push h _) b (fun _ _ e => e.elim) fun _ _ e => e) fun r e => (c r e).imp id fun l => by simp at l; omega
end

/-! ### Local variables -/
/-- a variable of one's own at the block r -/
structure Va {α : Type} (E : Enc α) (h : Hp) (r : Nat) (x : α) : Prop where
  lt : r < h.size
  row : Row E h r 0 x
  wr : ∀ j, j < E.n → (cl h r j).isSome = true ∧ fz h r j = false
abbrev at0 (r : Nat) : Value := .pointer (some ⟨r, 0, none⟩)
section
variable {α : Type} {E : Enc α} {h h' : Hp} {x y : α} {r : Nat} {D : Nat → Prop}
theorem Va.ch (H : Va E h r x) (c : Ch D h h') (hd : ¬ D r) : Va E h' r x :=
  ⟨Nat.lt_of_lt_of_le H.lt c.size, H.row.ch c hd, fun j hj => by
    obtain ⟨a, b⟩ := H.wr j hj
    obtain ⟨u, hu⟩ := Option.isSome_iff_exists.mp a
    exact ⟨by rw [c.cl hd hu]; rfl, by rw [c.fz H.lt hd]; exact b⟩⟩
theorem Va.gr (H : Va E h r x) (c : Gr h h') : Va E h' r x := H.ch c fun e => e
theorem Va.whole (H : Va E h r x) {n : Nat} (hn : n = E.n) : lda n (at0 r) h = some (.agg ⟨E.c x⟩) := H.row.lda hn
theorem Va.one (H : Va E h r x) {u : Value} (hu : (E.c x)[0]? = some u) : ldc (at0 r) h = some u := H.row.ldc0 hu
theorem Va.fld (H : Va E h r x) {j : Nat} {u : Value} (hu : (E.c x)[j]? = some u) {k : Value → Prop} (hk : k u) : Vb (fa j (at0 r)) fun p => Vb (ldc p h) k :=
  vb (fa_add _ _ _) (vb (H.row.ldc hu) hk)
theorem Va.new {cs : Array Value} {e : TypeId} (hc : cs.toList = E.c x) : Va E (h.push (.cells cs e)) h.size x := by
  have hs : cs.size = E.n := by rw [← Array.length_toList, hc, E.len]
  refine ⟨by simp, fun j u hu => ?_, fun j hj => ?_⟩
  · unfold cl
    simp only [Array.getElem?_push_size, Nat.zero_add]
    rw [← hc] at hu
    simpa using hu
  · unfold cl fz
    simp only [Array.getElem?_push_size]
    exact ⟨by rw [Array.getElem?_eq_getElem (by omega)]; rfl, by simp⟩
/-- stores into a variable -/
theorem Va.put (H : Va E h r x) {j : Nat} {vs : List Value} (hy : ∀ j' u, (E.c y)[j']? = some u → if j ≤ j' ∧ j' < j + vs.length then vs[j' - j]? = some u else (E.c x)[j']? = some u)
    (hj : j + vs.length ≤ E.n) (hone : ∀ u, u ∈ vs → u.oneCell' = true) : ∃ h', stores h ⟨r, j, none⟩ 0 vs = some h' ∧ Va E h' r y ∧ Ch (fun q => q = r) h h' ∧ h'.size = h.size := by
  obtain ⟨h', e2, up⟩ := stores_ok (r := r) (o := j) vs 0 h hone (fun j' hj' => by rw [Nat.add_zero]; exact H.wr _ (by omega))
  rw [Nat.add_zero] at up
  refine ⟨h', e2, ⟨by rw [up.size]; exact H.lt, fun j' u hu => ?_, fun j' hj' => ⟨up.some (H.wr j' hj').1, by rw [up.fz]; exact (H.wr j' hj').2⟩⟩, up.ch, up.size⟩
  rw [Nat.zero_add]
  have := hy j' u hu
  split at this
  · have h3 := up.put (j' - j) u this
    rw [show j + (j' - j) = j' by omega] at h3
    exact h3
  · rw [up.keep _ (fun q hq => by omega)]
    have := H.row j' u this
    rw [Nat.zero_add] at this; exact this
theorem Va.sto (H : Va E h r x) (y : α) {n : Nat} (hn : n = E.n) {w : Value} (hw : w = .agg ⟨E.c y⟩) {k : Hp → Prop} (hk : ∀ h', Va E h' r y → Ch (fun q => q = r) h h' → k h') : Sb (sto n (at0 r) w h) k := by
  obtain ⟨h', e1, e2, e3, _⟩ := H.put (y := y) (j := 0) (vs := E.c y) (fun j' u hu => by
    rw [if_pos ⟨Nat.zero_le _, by have := (List.getElem?_eq_some_iff.mp hu).1; omega⟩]; exact hu) (by rw [E.len]; omega) (E.one y)
  subst hw
  exact sb ((sto_agg (by rw [E.len, hn])).trans e1) (hk h' e2 e3)
theorem Va.sto1 (H : Va E h r x) (y : α) (hn : E.n = 1) {w : Value} (hw : E.c y = [w]) {k : Hp → Prop} (hk : ∀ h', Va E h' r y → Ch (fun q => q = r) h h' → k h') : Sb (En.sto 1 (at0 r) w h) k := by
  obtain ⟨h', e1, e2, e3, _⟩ := H.put (y := y) (j := 0) (vs := E.c y) (fun j' u hu => by
    rw [if_pos ⟨Nat.zero_le _, by have := (List.getElem?_eq_some_iff.mp hu).1; omega⟩]; exact hu) (by rw [E.len]; omega) (E.one y)
  rw [hw] at e1
  exact sb ((sto_one (E.one y w (by rw [hw]; simp))).trans e1) (hk h' e2 e3)
/-- a variable that is made and set -/
theorem nwset (x y : α) {cs : Array Value} {e : TypeId} {n : Nat} (hn : n = E.n) (hc : cs.toList = E.c x) {w : Value} (hw : w = .agg ⟨E.c y⟩) {k : Value → Hp → Prop}
    (hk : ∀ h', Va E h' h.size y → Gr h h' → k (at0 h.size) h') : Eb (nw cs e h) fun p h1 => Sb (En.sto n p w h1) (k p) := by
  refine eb rfl ?_
  refine (Va.new (e := e) hc).sto y hn hw fun h' a b => hk h' a ?_
  exact Gr.young (Ch.push h _) b fun q e => by omega
end

/-! ### Entries of maps -/
section
variable {α : Type} {ik : IntKind} {E : α → Value} {h h' : Hp} {v : Value} {ps : List (Int × α)}
theorem findIdx_mid {es1 es2 : List MapEntry} {e : MapEntry} (hn : ((es1 ++ e :: es2).map (·.born)).Nodup) : (es1 ++ e :: es2).findIdx? (fun x => (x.born : Int) == (e.born : Int)) = some es1.length := by
  rw [List.findIdx?_append, List.findIdx?_eq_none_iff.mpr, List.findIdx?_cons]
  · simp
  · intro x hx
    rw [List.map_append, List.nodup_append] at hn
    have := hn.2.2 x.born (List.mem_map.mpr ⟨x, hx, rfl⟩) e.born (by simp)
    simp only [beq_eq_false_iff_ne, ne_eq]
    omega
theorem mst_eq {r : Nat} {es : Array MapEntry} {clock i : Nat} {b : Nat} {w : Value} (hh : h[r]? = some (.map es clock)) (hi : es.findIdx? (fun x => (x.born : Int) == (b : Int)) = some i) :
    mst (.map (some r)) (goInt b) w h = some (h.setIfInBounds r (.map (es.modify i fun e => { e with val := w }) clock)) := by
  simp only [mst, mkey, hh, goInt, hi]
theorem arr_find {es : Array MapEntry} {l : List MapEntry} {f : MapEntry → Bool} {i : Nat} (h : es.toList = l) (hi : l.findIdx? f = some i) : es.findIdx? f = some i := by
  have : es = l.toArray := Array.ext' h
  rw [this, List.findIdx?_toArray]; exact hi
theorem Mp.entry (H : Mp ik E h v ps) (k : Int) (x z : α) {K : Hp → Prop} (hK : ∀ h', Mp ik E h' v (updA ps k x) → Ch (fun r => mblk v = some r) h h' → K h') :
    Eb (men (.int ik) (E z) v (.int ik k) h) fun t h1 => Vb (ext 1 t) fun s => Sb (mst v s (E x) h1) K := by
  obtain ⟨r, es, clock, rfl, hh, he⟩ := H
  obtain ⟨f, h1, h2, h3⟩ := find_ok (k := k) 0 he.dat
  have hlt := (Array.getElem?_eq_some_iff.mp hh).1
  have hch : ∀ o o', Ch (fun r' => mblk (.map (some r)) = some r') h ((h.setIfInBounds r o).setIfInBounds r o') := fun o o' => ⟨by simp, fun r' _ hn => by rw [Array.getElem?_setIfInBounds, if_neg (fun e => hn (by rw [← e]; rfl)), Array.getElem?_setIfInBounds, if_neg (fun e => hn (by rw [← e]; rfl))]⟩
  cases f with
  | some y =>
    obtain ⟨j, u⟩ := y
    obtain ⟨es1, e, es2, ps1, p, ps2, a1, rfl, a3, a4, a5, a6, a7, a8⟩ := h3 j u rfl
    have hj : j = es1.length := by omega
    subst hj
    have hget : es[es1.length]? = some e := by rw [← Array.getElem?_toList, a1]; simp
    refine eb (by simp only [men, mkey, hh, h1, hget, Option.map_some, Option.getD_some]; rfl) (vb (ext1 _ _ _) ?_)
    have hm1 : (es.modify es1.length fun e => { e with key := .int ik k }).toList = es1 ++ { e with key := .int ik k } :: es2 := by
      rw [Array.toList_modify, a1, List.modify_eq_take_cons_drop (by simp)]; simp
    have hb : ((es1 ++ { e with key := .int ik k } :: es2).map (·.born)).Nodup := by have := he.nodup; rw [a1] at this; simpa using this
    have hi : (es.modify es1.length fun e => { e with key := .int ik k }).findIdx? (fun x => (x.born : Int) == (e.born : Int)) = some es1.length := by
      exact arr_find hm1 (findIdx_mid (e := { e with key := .int ik k }) hb)
    refine sb (mst_eq (by rw [Array.getElem?_setIfInBounds, if_pos rfl, if_pos hlt]) hi) (hK _ ⟨r, _, clock, rfl, by rw [Array.getElem?_setIfInBounds, if_pos rfl, if_pos (by simpa using hlt)], ?_⟩ (hch _ _))
    have hm2 : ((es.modify es1.length fun e => { e with key := .int ik k }).modify es1.length fun e => { e with val := E x }).toList = es1 ++ { e with key := .int ik k, val := E x } :: es2 := by
      rw [Array.toList_modify, hm1, List.modify_eq_take_cons_drop (by simp)]; simp
    rw [hm2]
    have hd := he.dat
    rw [a1, List.map_append, List.map_append, List.map_cons, List.map_cons] at hd
    obtain ⟨d1, d2⟩ := List.append_inj hd (by simp [a5])
    simp only [List.cons.injEq] at d2
    refine ⟨?_, ?_, ?_⟩
    · rw [updA_mid a7 a6, List.map_append, List.map_append, List.map_cons, List.map_cons, d1, d2.2]
    · intro e' he'
      rcases List.mem_append.mp he' with m | m
      · exact he.born e' (by rw [a1]; simp [m])
      · rcases List.mem_cons.mp m with rfl | m
        · exact he.born e (by rw [a1]; simp)
        · exact he.born e' (by rw [a1]; simp [m])
    · simpa using hb
  | none =>
    have hnone : lookA ps k = none := by simpa using h2.symm
    refine eb (by simp only [men, mkey, hh, h1]; rfl) (vb (ext1 _ _ _) ?_)
    have hb : ((es.toList ++ [({ key := .int ik k, val := E z, born := clock } : MapEntry)]).map (·.born)).Nodup := by
      rw [List.map_append, List.nodup_append]
      refine ⟨he.nodup, by simp, fun a ha b hb => ?_⟩
      obtain ⟨e', hm, rfl⟩ := List.mem_map.mp ha
      simp only [List.map_cons, List.map_nil, List.mem_singleton] at hb
      have := he.born e' hm
      omega
    have hi : (es.push { key := .int ik k, val := E z, born := clock }).findIdx? (fun x => (x.born : Int) == (clock : Int)) = some es.size := by
      have := findIdx_mid (es1 := es.toList) (es2 := []) (e := { key := .int ik k, val := E z, born := clock }) hb
      exact arr_find (Array.toList_push ..) (by simpa using this)
    refine sb (mst_eq (by rw [Array.getElem?_setIfInBounds, if_pos rfl, if_pos hlt]) hi) (hK _ ⟨r, _, clock + 1, rfl, by rw [Array.getElem?_setIfInBounds, if_pos rfl, if_pos (by simpa using hlt)], ?_⟩ (hch _ _))
    have hm2 : ((es.push { key := .int ik k, val := E z, born := clock }).modify es.size fun e => { e with val := E x }).toList = es.toList ++ [{ key := .int ik k, val := E x, born := clock }] := by
      rw [Array.toList_modify, Array.toList_push, List.modify_eq_take_cons_drop (by simp)]; simp
    rw [hm2]
    refine ⟨?_, ?_, ?_⟩
    · rw [updA_end hnone, List.map_append, List.map_append, he.dat]; rfl
    · intro e' he'
      rcases List.mem_append.mp he' with m | m
      · exact Nat.lt_succ_of_lt (he.born e' m)
      · simp only [List.mem_singleton] at m; subst m; exact Nat.lt_succ_self _
    · simpa using hb
theorem Mp.mup (H : Mp ik E h v ps) (k : Int) (x : α) {w : Value} (hw : w = E x) {K : Hp → Prop} (hK : ∀ h', Mp ik E h' v (updA ps k x) → Ch (fun r => mblk v = some r) h h' → K h') :
    Sb (En.mup (.int ik) v (.int ik k) w h) K := by
  subst hw
  obtain ⟨h', a, b, c, _⟩ := H.put k x
  exact sb a (hK h' b c)
end
/-! ### make -/
theorem make_ok {α : Type} {E : Enc α} {h : Hp} {x0 : α} {zero : Array Value} {n size bytes : Nat} {e : TypeId} (hz : zero.toList = E.c x0) (hs : size = E.n) (hb : n ≤ 1000000000) (hb2 : bytes ≤ 10000) {k : Value → Hp → Prop}
    (hk : ∀ h', Ow E h' (.slice (some ⟨h.size, 0, none⟩) n n) (List.replicate n x0) → Gr h h' → h'.size = h.size + 1 → k (.slice (some ⟨h.size, 0, none⟩) n n) h') : Eb (msl zero size bytes e (.int .i64 n) (.int .i64 n) h) k := by
  have hm : n * bytes ≤ 1000000000 * 10000 := Nat.mul_le_mul hb hb2
  refine eb (h' := h.push (.cells ((Array.range (n * size)).map (zero[· % zero.size]!)) e)) (v := .slice (some ⟨h.size, 0, none⟩) n n) ?_ (hk _ ?_ (Ch.push _ _) (by simp))
  · simp only [msl]
    rw [if_pos ⟨by omega, by omega, by omega, by have : ((n * bytes : Nat) : Int) = (n : Int) * (bytes : Int) := by simp
                                                 omega⟩]
    simp
  · have hzs : zero.size = E.n := by rw [← Array.length_toList, hz, E.len]
    have := Ow.new (E := E) (h := h) (xs := List.replicate n x0) (cs := (Array.range (n * size)).map (zero[· % zero.size]!)) (e := e) (cap := n) (fun j u hj => ?_) (by simp) (by simp [hs])
    · simpa using this
    · obtain ⟨i, x, j', e1, e2, rfl⟩ := flat_at E _ j u hj
      have hx : x = x0 := by rw [List.getElem?_replicate] at e1; split at e1 <;> simp_all
      subst hx
      have hi : i < n := by have := (List.getElem?_eq_some_iff.mp e1).1; simpa using this
      have hj' : j' < E.n := by have := (List.getElem?_eq_some_iff.mp e2).1; rwa [E.len] at this
      have hlt : i * E.n + j' < n * size := by
        have : (i + 1) * E.n ≤ n * E.n := Nat.mul_le_mul_right _ hi
        rw [Nat.succ_mul] at this; rw [hs]; omega
      have hmod : (i * E.n + j') % zero.size = j' := by rw [hzs, Nat.mul_comm, Nat.mul_add_mod, Nat.mod_eq_of_lt hj']
      have hz' : zero[j']? = some u := by rw [← Array.getElem?_toList, hz]; exact e2
      simp only [Array.getElem?_map, Array.getElem?_range, hlt, if_true, Option.map_some, hmod]
      have hlz : j' < zero.size := by omega
      rw [getElem!_pos zero j' hlz]
      rw [Array.getElem?_eq_getElem hlz] at hz'
      exact hz'
end Go.En
namespace Go.En
open Go.ChangeShapes Go.WideShapes Go.ChangeAt Go.RowKit Go.Deep

section
variable {H : Type} {enc : TypeId × Value → H} {P : Program} {W W' : World}

theorem trodAll_len {w : World} {base : Nat} {spare : Nat → Bool} {held : Bool} : ∀ {ts : List TypeId} {vs : List Value} {ds : List (DataW H)} {ps : List MemPlace}, DataW.TrodAll enc P w base spare held ts vs ds ps → vs.length = ts.length ∧ ds.length = ts.length
  | [], [], [], _, _ => ⟨rfl, rfl⟩
  | _ :: ts, _ :: vs, _ :: ds, _, h => by
    obtain ⟨p, q, _, h2, _⟩ := h
    have := trodAll_len h2
    simp [this.1, this.2]
  | [], [], _ :: _, _, h => h.elim
  | [], _ :: _, _, _, h => h.elim
  | _ :: _, [], _, _, h => h.elim
  | _ :: _, _ :: _, [], _, h => h.elim

theorem trodAll_below (hl : laidOutB P = true) (hb : Below W.heap.size W W') : ∀ {ts : List TypeId} {vs : List Value} {ds : List (DataW H)} {ps : List MemPlace}, (ts.all fun t => P.readableRec t && decide (t < P.types.size)) = true →
    (∀ x ∈ ps, x.block < W.heap.size) → DataW.TrodAll enc P W 0 (fun _ => true) true ts vs ds ps → DataW.TrodAll enc P W' 0 (fun b => decide (b < W.heap.size)) true ts vs ds ps
  | [], [], [], _, _, _, h => h
  | t :: ts, v :: vs, d :: ds, ps, hr, hlt, h => by
    obtain ⟨p, q, h1, h2, rfl⟩ := h
    simp only [List.all_cons, Bool.and_eq_true, decide_eq_true_eq] at hr
    exact ⟨p, q, Below.trod hl hr.1.1 hr.1.2 h1 hb (fun x hx => hlt x (List.mem_append_left _ hx)),
      trodAll_below hl hb (by simpa using hr.2) (fun x hx => hlt x (List.mem_append_right _ hx)) h2, rfl⟩
  | [], [], _ :: _, _, _, _, h => h.elim
  | [], _ :: _, _, _, _, _, h => h.elim
  | _ :: _, [], _, _, _, _, h => h.elim
  | _ :: _, _ :: _, [], _, _, _, h => h.elim

/-- the contract, as the row's form asks for it -/
theorem true_calls {f : FuncId} {fn : Func} {spec : ChangeSpec} {tb : TypeId} {args : Array Value} {ds gs : List (DataW H)} {before : List MemPlace}
    (hl : laidOutB P = true) (hr : (fn.params.toList.all fun t => P.readableRec t && decide (t < P.types.size)) = true) (hvars : spec.vars = []) (hres : fn.resultTypes = #[tb]) (htb : P.underlying tb = some .bool)
    (hfn : ∀ ds : List (DataW H), ds.length = fn.params.toList.length → spec.fn H (ds ++ []) = { results := [.lit (.bool true)], args := ds })
    (hW : DataW.Whole enc P fn.params.toList spec.vars false W args.toList ds gs before)
    (hc : Sp P f args.toList W.heap (fun v h' => v = .bool true ∧ Gr W.heap h')) :
    Calls P f args W (fun e W' => ∃ v, e = .returned v ∧ spec.post enc P fn false true false false W args v W') := by
  have := hc W rfl
  rw [Array.toArray_toList] at this
  refine this.mono ?_
  rintro e W' ⟨v, rfl, ⟨rfl, hg⟩, hrst⟩
  refine ⟨_, rfl, ?_⟩
  have hb : Below W.heap.size W W' := ⟨hrst.os, hrst.tape, hrst.output, hg.size, fun k hk => hg.same k hk (fun e => e)⟩
  have hW0 := hW
  obtain ⟨p, q, hA, hV, rfl, hn, ha⟩ := hW
  rw [hvars] at hV
  have hgs : gs = [] ∧ q = [] := by
    cases gs with
    | nil => exact ⟨rfl, hV⟩
    | cons g gs => exact hV.elim
  obtain ⟨rfl, rfl⟩ := hgs
  have hlen := trodAll_len hA
  have hf := hfn ds hlen.2
  have hlt : ∀ x ∈ p, x.block < W.heap.size := fun x hx => by simpa using hW0.lt x (by simpa using hx)
  refine ⟨ds, [], p ++ [], [] ++ [], p, [], hW0, ?_, ?_, ?_, hb.frame _, fun h => by cases h⟩
  · rw [hf, hres]
    exact ⟨[], [], ⟨1, by simp [DataW.trod, htb, Value.cells]⟩, rfl, rfl⟩
  · rw [hf]
    exact trodAll_below hl hb hr hlt hA
  · rw [hvars, hf]
    rfl

theorem list_of {α : Type} {Q : Nat → α → Prop} : ∀ (n : Nat), (∀ i, i < n → ∃ x, Q i x) → ∃ xs : List α, xs.length = n ∧ ∀ i x, xs[i]? = some x → Q i x
  | 0, _ => ⟨[], rfl, fun i x h => by simp at h⟩
  | n + 1, h => by
    obtain ⟨xs, hl, hx⟩ := list_of n fun i hi => h i (by omega)
    obtain ⟨y, hy⟩ := h n (by omega)
    refine ⟨xs ++ [y], by simp [hl], fun i x hi => ?_⟩
    by_cases hlt : i < xs.length
    · rw [List.getElem?_append_left hlt] at hi; exact hx i x hi
    · rw [List.getElem?_append_right (by omega)] at hi
      have : i = n := by
        have := (List.getElem?_eq_some_iff.mp hi).1
        simp at this; omega
      subst this
      rw [hl, Nat.sub_self] at hi
      simp only [List.getElem?_cons_zero, Option.some.injEq] at hi
      subst hi; exact hy

/-- a slice among the arguments, as data -/
theorem sl_open {α : Type} {E : Enc α} {Q : α → Prop} {t e : TypeId} {v : Value} {d : DataW H} {p : List MemPlace} {base : Nat} (ht : P.underlying t = some (.slice e)) (hn : P.cellsOf e = E.n) (hpos : 0 < E.n)
    (hel : ∀ n cs y, DataW.trod enc P W 0 (fun _ => true) true n e cs = some y → ∃ x, cs = E.c x ∧ Q x)
    (hv : Value.okWide P W .any base t v) (h : DataW.Trod enc P W 0 (fun _ => true) true t v d p) : ∃ xs, Sl E W.heap v xs ∧ ∀ x ∈ xs, Q x := by
  obtain ⟨a0, len0, cap0, rfl⟩ := okWide_slice ht hv
  obtain ⟨fuel, hf⟩ := h
  rcases open_slice ht hf with ⟨hcs, _⟩ | ⟨a, len, cap, m, n, D, Pl, hcs, _, hl, _, hm, _, hi⟩
  · simp [Value.cells] at hcs
    obtain ⟨rfl, rfl, rfl⟩ := hcs
    exact ⟨[], .nil, fun x hx => by simp at hx⟩
  · simp [Value.cells] at hcs
    obtain ⟨rfl, rfl, rfl⟩ := hcs
    simp only [if_true] at hm
    subst hm
    have hx : ∀ i, i < len0 → ∃ x, (∀ j u, (E.c x)[j]? = some u → W.cell? (a.add (i * E.n + j)) = some u) ∧ Q x := by
      intro i hlt
      obtain ⟨cs', hc, ht'⟩ := hi i (by omega)
      obtain ⟨x, rfl, hq⟩ := hel _ _ _ ht'
      obtain ⟨_, hcl, hat⟩ := World.cells?_some hc
      refine ⟨x, fun j u hu => ?_, hq⟩
      have hj : j < P.cellsOf e := by rw [hn]; have := (List.getElem?_eq_some_iff.mp hu).1; rwa [E.len] at this
      have := hat j hj
      rw [hu, hn, Go.Deep.add_add] at this
      exact this
    obtain ⟨xs, hlen, hxs⟩ := list_of len0 hx
    refine ⟨xs, ⟨some a, m, by rw [hlen], by omega, fun e => by simp at e, fun i x hix => ?_⟩, fun x hx => ?_⟩
    · have hc := (hxs i x hix).1
      have hlt := (List.getElem?_eq_some_iff.mp hix).1
      have hsp : a.spot = none := by
        have h0 : 0 < xs.length := by omega
        have hc0 := (hxs 0 xs[0] (by simp)).1
        have hl0 : 0 < (E.c xs[0]).length := by rw [E.len]; exact hpos
        have := World.cell?_spot (hc0 0 _ (List.getElem?_eq_getElem hl0))
        simpa [Addr.add] using this
      obtain ⟨b, off, spot⟩ := a
      simp only at hsp
      subst hsp
      refine ⟨b, off, rfl, fun j u hu => ?_⟩
      have := hc j u hu
      rw [addN, cellAt_eq, cellAt_cl] at this
      rw [Nat.add_assoc]; exact this
    · obtain ⟨i, hi, rfl⟩ := List.mem_iff_getElem.mp hx
      exact (hxs i _ (List.getElem?_eq_getElem hi)).2

def inI64 (z : Int) : Prop := -9223372036854775808 ≤ z ∧ z ≤ 9223372036854775807
theorem el_i64 {e : TypeId} (he : P.underlying e = some (.int .i64)) : ∀ n cs y, DataW.trod enc P W 0 (fun _ => true) true n e cs = some y → ∃ x : Int, cs = [.int .i64 x] ∧ inI64 x := by
  intro n cs y h
  obtain ⟨z, rfl, _, hw⟩ := DataW.trod_int he h
  refine ⟨z, rfl, ?_⟩
  have h1 : IntKind.i64.min = -9223372036854775808 := rfl
  have h2 : IntKind.i64.max = 9223372036854775807 := rfl
  simp only [Lit.wf, Bool.and_eq_true, decide_eq_true_eq] at hw
  exact ⟨by omega, by omega⟩

/-- a struct of one-cell fields: integers of a kind, or bools -/
def fld1 (P : Program) (f : Field) (i : Nat) (k : Option IntKind) : Bool :=
  Nat.beq f.offset i && Nat.beq (P.cellsOf f.type) 1 && (match P.underlying f.type, k with
    | some (.int a), some b => a == b
    | some .bool, none => true
    | _, _ => false)
def flds (P : Program) : List Field → Nat → List (Option IntKind) → Bool
  | [], _, [] => true
  | f :: fs, i, k :: ks => fld1 P f i k && flds P fs (i + 1) ks
  | _, _, _ => false
def shp (P : Program) (e : TypeId) (ks : List (Option IntKind)) : Bool :=
  Nat.beq (P.cellsOf e) ks.length && (match P.underlying e with
    | some (.struct fs) => flds P fs.toList 0 ks
    | _ => false)
theorem flds_at {P : Program} : ∀ {fs : List Field} {i : Nat} {ks : List (Option IntKind)}, flds P fs i ks = true → fs.length = ks.length ∧ ∀ (j : Nat) (k : Option IntKind), ks[j]? = some k → ∃ f, fs[j]? = some f ∧ fld1 P f (i + j) k = true
  | [], _, [], _ => ⟨rfl, fun j k h => by simp at h⟩
  | f :: fs, i, k :: ks, h => by
    simp only [flds, Bool.and_eq_true] at h
    obtain ⟨h1, h2⟩ := flds_at h.2
    refine ⟨by simp [h1], fun j q hq => ?_⟩
    cases j with
    | zero =>
      simp only [List.getElem?_cons_zero, Option.some.injEq] at hq
      subst hq
      exact ⟨f, rfl, h.1⟩
    | succ j =>
      obtain ⟨g, a, b⟩ := h2 j q (by simpa using hq)
      exact ⟨g, by simpa using a, by rw [show i + (j + 1) = i + 1 + j by omega]; exact b⟩
  | [], _, _ :: _, h => by simp [flds] at h
  | _ :: _, _, [], h => by simp [flds] at h
def cellIs (k : Option IntKind) (v : Option Value) : Prop :=
  match k with
  | some ik => ∃ z, v = some (.int ik z) ∧ (Lit.int ik z).wf = true
  | none => ∃ b, v = some (.bool b)
theorem el_shape {e : TypeId} {ks : List (Option IntKind)} (hs : shp P e ks = true) : ∀ n cs y, DataW.trod enc P W 0 (fun _ => true) true n e cs = some y → cs.length = ks.length ∧ ∀ (j : Nat) (k : Option IntKind), ks[j]? = some k → cellIs k cs[j]? := by
  intro n cs y h
  unfold shp at hs
  rw [Bool.and_eq_true] at hs
  obtain ⟨hC, hs⟩ := hs
  have hC := Nat.eq_of_beq_eq_true hC
  split at hs <;> try contradiction
  rename_i fs hu
  obtain ⟨hl, hf⟩ := flds_at hs
  obtain ⟨xs, m, _, _, hlen, hxl, hat⟩ := DataW.trod_struct hu h
  rw [hC] at hlen
  refine ⟨hlen, fun j k hk => ?_⟩
  obtain ⟨f, h1, h2⟩ := hf j k hk
  have hj : j < ks.length := (List.getElem?_eq_some_iff.mp hk).1
  have t0 := hat j f (by simpa using h1)
  unfold fld1 at h2
  simp only [Bool.and_eq_true, Nat.zero_add] at h2
  obtain ⟨⟨o, c⟩, u⟩ := h2
  have o := Nat.eq_of_beq_eq_true o
  have c := Nat.eq_of_beq_eq_true c
  have hone : (cs.drop j).take 1 = [cs[j]'(by omega)] := by
    rw [List.drop_eq_getElem_cons (by omega)]; rfl
  rw [o, c, hone] at t0
  have hxs : xs[j]? = some (xs[j]'(by rw [hxl]; have : fs.size = ks.length := by simpa using hl
                                      omega)) := List.getElem?_eq_getElem _
  rw [hxs] at t0
  rw [List.getElem?_eq_getElem (by omega : j < cs.length)]
  split at u
  · rename_i a b hu1
    have : a = b := by simpa using u
    subst this
    obtain ⟨z, e1, _, w⟩ := DataW.trod_int hu1 t0
    simp only [List.cons.injEq, and_true] at e1
    exact ⟨z, by rw [e1], w⟩
  · rename_i hu1
    obtain ⟨b, e1, _⟩ := DataW.trod_bool hu1 t0
    simp only [List.cons.injEq, and_true] at e1
    exact ⟨b, by rw [e1]⟩
  · contradiction
theorem wf_i64 {z : Int} (h : (Lit.int .i64 z).wf = true) : inI64 z := by
  have h1 : IntKind.i64.min = -9223372036854775808 := rfl
  have h2 : IntKind.i64.max = 9223372036854775807 := rfl
  simp only [Lit.wf, Bool.and_eq_true, decide_eq_true_eq] at h
  exact ⟨by omega, by omega⟩
end
end Go.En
namespace Go.En

/-- an iterator at the block r over the map at the block m: D are the places of the entries that were met -/
structure It {α : Type} (ik : IntKind) (E : α → Value) (h : Hp) (r m : Nat) (ps : List (Int × α)) (D : List Nat) : Prop where
  ex : ∃ (es : Array MapEntry) (clock : Nat), h[m]? = some (.map es clock) ∧ Ent ik E es.toList ps clock ∧ h[r]? = some (.mapIter (some m) clock (D.map fun i => ((es.toList[i]?).map (·.born)).getD 0).toArray clock)
  nodup : D.Nodup
  lt : ∀ i ∈ D, i < ps.length
  ne : r ≠ m

section
variable {α : Type} {ik : IntKind} {E : α → Value} {h h' : Hp} {r m : Nat} {ps : List (Int × α)} {D : List Nat}
theorem It.mp (H : It ik E h r m ps D) : Mp ik E h (.map (some m)) ps := by
  obtain ⟨es, clock, h1, h2, _⟩ := H.ex
  exact ⟨m, es, clock, rfl, h1, h2⟩
theorem It.len (H : It ik E h r m ps D) : D.length ≤ ps.length := by
  have hp : (D ++ (List.range ps.length).filter fun i => !D.contains i).Perm (List.range ps.length) := by
    refine (List.perm_ext_iff_of_nodup ?_ List.nodup_range).mpr fun i => ?_
    · rw [List.nodup_append]
      refine ⟨H.nodup, List.nodup_range.filter _, fun a ha b hb e => ?_⟩
      subst e
      rw [List.mem_filter] at hb
      have := hb.2
      simp only [Bool.not_eq_true', List.contains_eq_mem, decide_eq_false_iff_not] at this
      exact this ha
    · rw [List.mem_append, List.mem_filter, List.mem_range]
      constructor
      · rintro (h | h)
        · exact H.lt i h
        · exact h.1
      · intro hi
        by_cases hd : i ∈ D
        · exact .inl hd
        · exact .inr ⟨hi, by simpa using hd⟩
  have := hp.length_eq
  rw [List.length_append, List.length_range] at this
  omega
theorem ent_len {es : List MapEntry} {clock : Nat} (H : Ent ik E es ps clock) : es.length = ps.length := by have := congrArg List.length H.dat; simpa using this
theorem ent_at {es : List MapEntry} {clock : Nat} (H : Ent ik E es ps clock) {i : Nat} {e : MapEntry} (h : es[i]? = some e) : ∃ p, ps[i]? = some p ∧ e.key = .int ik p.1 ∧ e.val = E p.2 := by
  have hd := congrArg (fun l => l[i]?) H.dat
  simp only [List.getElem?_map, h, Option.map_some] at hd
  cases hp : ps[i]? with
  | none => rw [hp] at hd; simp at hd
  | some p =>
    rw [hp] at hd
    simp only [Option.map_some, Option.some.injEq, Prod.mk.injEq] at hd
    exact ⟨p, rfl, hd.1, hd.2⟩
theorem born_inj {es : List MapEntry} {clock : Nat} (H : Ent ik E es ps clock) {i j : Nat} {e e' : MapEntry} (h : es[i]? = some e) (h' : es[j]? = some e') (hb : e.born = e'.born) : i = j := by
  have hi := (List.getElem?_eq_some_iff.mp h).1
  refine (List.getElem?_inj (l := es.map (·.born)) (by simpa using hi) H.nodup).mp ?_
  rw [List.getElem?_map, List.getElem?_map, h, h']
  simp [hb]
theorem find_born {es : List MapEntry} {i : Nat} {e : MapEntry} (hn : (es.map (·.born)).Nodup) (h : es[i]? = some e) : es.find? (·.born == e.born) = some e := by
  induction es generalizing i with
  | nil => simp at h
  | cons x es ih =>
    rw [List.map_cons, List.nodup_cons] at hn
    cases i with
    | zero =>
      simp only [List.getElem?_cons_zero, Option.some.injEq] at h
      subst h
      rw [List.find?_cons_of_pos (by simp)]
    | succ i =>
      have h : es[i]? = some e := by simpa using h
      have : x.born ≠ e.born := fun eq => hn.1 (by rw [eq]; exact List.mem_map.mpr ⟨e, List.mem_of_getElem? h, rfl⟩)
      rw [List.find?_cons_of_neg (by simpa using this)]
      exact ih hn.2 h

theorem Mp.range {v : Value} (H : Mp ik E h v ps) {k : Value → Hp → Prop} (hk : ∀ m h', v = .map (some m) → It ik E h' h.size m ps [] → Gr h h' → h'.size = h.size + 1 → k (at0 h.size) h') : Eb (rng v h) k := by
  obtain ⟨m, es, clock, rfl, hh, he⟩ := H
  have hlt := (Array.getElem?_eq_some_iff.mp hh).1
  refine eb (by simp only [rng, mkey, hh]; rfl) (hk m _ rfl ⟨⟨es, clock, ?_, he, ?_⟩, List.nodup_nil, fun i hi => by simp at hi, by omega⟩ (Ch.push _ _) (by simp))
  · rw [Array.getElem?_push, if_neg (by omega)]; exact hh
  · simp

theorem It.next (H : It ik E h r m ps D) {k : Value → Hp → Prop} (h0 : (∀ i, i < ps.length → i ∈ D) → k (.tuple #[.bool false]) h)
    (h1 : ∀ i p h', ps[i]? = some p → i ∉ D → It ik E h' r m ps (D ++ [i]) → Ch (fun q => q = r) h h' → ent (at0 r) h' = some (.tuple #[.int ik p.1, E p.2]) → k (.tuple #[.bool true, .int ik p.1, E p.2]) h') : Nx (at0 r) h k := by
  obtain ⟨es, clock, hm, he, hr⟩ := H.ex
  refine ⟨r, rfl, .inr ⟨m, clock, _, clock, es, clock, hr, hm, ?_, fun hall => h0 fun i hi => ?_, fun e hem hns => ?_⟩⟩
  · cases hes : es.isEmpty with
    | true => simp
    | false =>
      have hsz : 0 < es.size := by
        rcases Nat.eq_zero_or_pos es.size with h | h
        · have : es = #[] := Array.eq_empty_of_size_eq_zero h
          subst this
          simp at hes
        · exact h
      have : es.all (fun e => decide (e.born ≥ clock)) = false := by
        rw [Array.all_eq_false]
        exact ⟨0, hsz, by have := he.born es[0] (by simp); simpa using this⟩
      rw [this, Bool.and_false]
  · have hlen := ent_len he
    have hi' : i < es.toList.length := by omega
    have hget : es.toList[i]? = some es.toList[i] := List.getElem?_eq_getElem hi'
    have hmem : es.toList[i] ∈ es := by simp
    have := hall _ hmem (he.born _ (List.getElem_mem hi'))
    rw [Array.contains_iff_mem, List.mem_toArray, List.mem_map] at this
    obtain ⟨j, hj, e⟩ := this
    have hjl := H.lt j hj
    have hget2 : es.toList[j]? = some (es.toList[j]'(by omega)) := List.getElem?_eq_getElem _
    rw [hget2] at e
    simp only [Option.map_some, Option.getD_some] at e
    have := born_inj he hget2 hget e
    subst this
    exact hj
  · obtain ⟨i, hi, rfl⟩ := List.mem_iff_getElem.mp (Array.mem_toList_iff.mpr hem)
    have hget : es.toList[i]? = some es.toList[i] := List.getElem?_eq_getElem hi
    obtain ⟨p, hp, hk, hv⟩ := ent_at he hget
    have hnot : i ∉ D := by
      intro hc
      have : (D.map fun i => ((es.toList[i]?).map (·.born)).getD 0).toArray.contains es.toList[i].born = true := by
        rw [Array.contains_iff_mem, List.mem_toArray, List.mem_map]
        exact ⟨i, hc, by rw [hget]; rfl⟩
      rw [this] at hns
      contradiction
    have hlr := (Array.getElem?_eq_some_iff.mp hr).1
    rw [hk, hv]
    have hr' : (h.setIfInBounds r (Obj.mapIter (some m) clock ((D.map fun i => ((es.toList[i]?).map (·.born)).getD 0).toArray.push es.toList[i].born) clock))[r]? = some (.mapIter (some m) clock ((D.map fun i => ((es.toList[i]?).map (·.born)).getD 0).toArray.push es.toList[i].born) clock) := by
      rw [Array.getElem?_setIfInBounds, if_pos rfl, if_pos hlr]
    have hm' : (h.setIfInBounds r (Obj.mapIter (some m) clock ((D.map fun i => ((es.toList[i]?).map (·.born)).getD 0).toArray.push es.toList[i].born) clock))[m]? = some (.map es clock) := by
      rw [Array.getElem?_setIfInBounds, if_neg H.ne]; exact hm
    refine h1 i p _ hp hnot ⟨⟨es, clock, hm', he, ?_⟩, ?_, fun j hj => ?_, H.ne⟩ ⟨by simp, fun q _ hq => by rw [Array.getElem?_setIfInBounds, if_neg (fun e => hq e.symm)]⟩ ?_
    · rw [hr', List.map_append, List.map_cons, List.map_nil, hget]
      congr 2
      apply Array.ext'
      simp
    · rw [List.nodup_append]
      exact ⟨H.nodup, by simp, fun a ha b hb e => hnot (by simp only [List.mem_singleton] at hb; rw [← hb, ← e]; exact ha)⟩
    · rcases List.mem_append.mp hj with hj | hj
      · exact H.lt j hj
      · simp only [List.mem_singleton] at hj
        subst hj
        exact (List.getElem?_eq_some_iff.mp hp).1
    · unfold ent at0
      simp only [hr', hm', Array.back?_push]
      have hck : Nat.beq clock clock = true := Nat.beq_refl clock
      have hf : es.find? (·.born == es.toList[i].born) = some es.toList[i] := by
        have := find_born he.nodup hget
        rw [← Array.find?_toList]; exact this
      simp only [hck, hf, hk, hv]
end
end Go.En
namespace Go.En
open Go.ChangeShapes Go.WideShapes Go.ChangeAt Go.RowKit Go.Deep

/-- an array of n whole numbers -/
def EAr (ik : IntKind) (n : Nat) : Enc (Nat → Int) := { n := n, c := fun f => (List.range n).map fun i => .int ik (f i), len := fun _ => by simp, one := fun a v h => by obtain ⟨i, _, rfl⟩ := List.mem_map.1 h; rfl }
theorem EAr_get {ik : IntKind} {n i : Nat} {f : Nat → Int} (h : i < n) : ((EAr ik n).c f)[i]? = some (.int ik (f i)) := by
  show ((List.range n).map fun i => Value.int ik (f i))[i]? = _
  simp [h]

section
variable {H : Type} {enc : TypeId × Value → H} {P : Program} {W : World}
def isAgg (P : Program) (t : TypeId) : Bool := match P.underlying t with | some (.struct _) => true | some (.array _ _) => true | _ => false
theorem ag_open {α : Type} {E : Enc α} {Q : α → Prop} {t : TypeId} {v : Value} {d : DataW H} {p : List MemPlace} {base : Nat} (hu : isAgg P t = true)
    (hel : ∀ n cs y, DataW.trod enc P W 0 (fun _ => true) true n t cs = some y → ∃ x, cs = E.c x ∧ Q x)
    (hv : Value.okWide P W .any base t v) (h : DataW.Trod enc P W 0 (fun _ => true) true t v d p) : ∃ x, v = .agg ⟨E.c x⟩ ∧ Q x := by
  have : ∃ cs, v = .agg cs := by
    unfold isAgg at hu
    unfold Value.okWide at hv
    split at hu <;> simp_all
    all_goals (obtain ⟨cs, e, _⟩ := hv; exact ⟨cs, e⟩)
  obtain ⟨cs, rfl⟩ := this
  obtain ⟨fuel, hf⟩ := h
  obtain ⟨x, hx, hq⟩ := hel _ _ _ hf
  refine ⟨x, ?_, hq⟩
  have : cs = ⟨E.c x⟩ := by
    rw [← hx]; simp [Value.cells]
  rw [this]
theorem el_arr {t e : TypeId} {ik : IntKind} {n : Nat} (ht : P.underlying t = some (.array n e)) (he : P.underlying e = some (.int ik)) (hc : P.cellsOf e = 1) (hn : P.cellsOf t = n) :
    ∀ m cs y, DataW.trod enc P W 0 (fun _ => true) true m t cs = some y → ∃ f : Nat → Int, cs = (EAr ik n).c f ∧ ∀ i, i < n → (Lit.int ik (f i)).wf = true := by
  intro m cs y h
  obtain ⟨xs, m', _, _, hlen, hxl, hat⟩ := DataW.trod_array ht h
  rw [hn] at hlen
  have key : ∀ i, i < n → ∃ z, cs[i]? = some (.int ik z) ∧ (Lit.int ik z).wf = true := by
    intro i hi
    have t0 := hat i hi
    rw [hc, Nat.mul_one, List.getElem?_eq_getElem (by omega : i < xs.length)] at t0
    have hone : (cs.drop i).take 1 = [cs[i]'(by omega)] := by
      rw [List.drop_eq_getElem_cons (by omega)]; rfl
    rw [hone] at t0
    obtain ⟨z, e1, _, w⟩ := DataW.trod_int he t0
    simp only [List.cons.injEq, and_true] at e1
    exact ⟨z, by rw [List.getElem?_eq_getElem (by omega), e1], w⟩
  refine ⟨fun i => match cs[i]? with | some (.int _ z) => z | _ => 0, ?_, fun i hi => ?_⟩
  · refine List.ext_getElem? fun i => ?_
    by_cases hi : i < n
    · obtain ⟨z, e1, _⟩ := key i hi
      rw [EAr_get hi, e1]
    · rw [List.getElem?_eq_none (by omega), List.getElem?_eq_none (by rw [(EAr ik n).len]; exact Nat.le_of_not_lt hi)]
  · obtain ⟨z, e1, w⟩ := key i hi
    simp only [e1]
    exact w
end

section
variable {h : Hp} {r n : Nat} {ik : IntKind} {f : Nat → Int}
theorem ixa_at {q : IntKind} {z : Int} {i : Nat} (hz : z = i) (hi : i < n) (o : Nat) : ixa n 1 (.pointer (some ⟨r, o, none⟩)) (.int q z) = some (.pointer (some ⟨r, o + i, none⟩)) := by
  subst hz
  have : (0 : Int) ≤ (i : Int) ∧ (i : Int) < n := by omega
  simp only [ixa, this, and_self, if_true, addN, Int.toNat_natCast, Nat.mul_one]
/-- an element of an array is read -/
theorem Va.ix (H : Va (EAr ik n) h r f) {q : IntKind} {z : Int} {i : Nat} (hz : z = i) (hi : i < n) {k : Value → Prop} (hk : k (.int ik (f i))) : Vb (ixa n 1 (at0 r) (.int q z)) fun p => Vb (ldc p h) k := by
  rw [show at0 r = .pointer (some ⟨r, 0, none⟩) from rfl, ixa_at hz hi, vb_some]
  exact vb (H.row.ldc (EAr_get hi)) hk
end
end Go.En
