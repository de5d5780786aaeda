/-
  The engine, part N: the user's rules: new slices, stores, parts of slices, maps with whole-number keys.
-/
import Derived.Test.YtggieecoagcmbaaEngM
namespace Go.En

section
variable {α : Type} {E : Enc α} {h h' : Hp} {v : Value} {xs : List α}

theorem flat_in : ∀ {xs : List α} {i : Nat} {y : α} {j : Nat} {u : Value}, xs[i]? = some y → (E.c y)[j]? = some u → (xs.flatMap E.c)[i * E.n + j]? = some u
  | [], _, _, _, _, h, _ => by simp at h
  | z :: zs, i, y, j, u, hy, hu => by
    rw [List.flatMap_cons]
    cases i with
    | zero =>
      simp only [List.getElem?_cons_zero, Option.some.injEq] at hy
      subst hy
      rw [Nat.zero_mul, Nat.zero_add, List.getElem?_append_left (List.getElem?_eq_some_iff.mp hu).1]
      exact hu
    | succ i =>
      have := flat_in (xs := zs) (i := i) (by simpa using hy) hu
      rw [List.getElem?_append_right (by rw [E.len, Nat.succ_mul]; omega), E.len]
      have e2 : (i + 1) * E.n + j - E.n = i * E.n + j := by rw [Nat.succ_mul]; omega
      rw [e2]; exact this

/-- a new slice -/
theorem Ow.new {cs : Array Value} {e : TypeId} {cap : Nat} (hc : ∀ (j : Nat) (u : Value), (xs.flatMap E.c)[j]? = some u → cs[j]? = some u) (hl : xs.length ≤ cap) (hcap : cap * E.n ≤ cs.size) :
    Ow E (h.push (.cells cs e)) (.slice (some ⟨h.size, 0, none⟩) xs.length cap) xs := by
  refine .inr ⟨h.size, 0, cap, rfl, hl, by simp, fun i x hx j u hu => ?_, fun j hj => ?_⟩
  · unfold cl
    simp only [Array.getElem?_push_size, Nat.zero_add]
    exact hc _ _ (flat_in hx hu)
  · unfold cl fz
    simp only [Array.getElem?_push_size, Nat.zero_add]
    exact ⟨by rw [Array.getElem?_eq_getElem (by omega)]; rfl, by simp⟩
theorem Ow.lit {cs : List Value} {e : TypeId} {len : Nat} (hc : cs = xs.flatMap E.c) (hl : xs.length = len) : Ow E (h.push (.cells ⟨cs⟩ e)) (.slice (some ⟨h.size, 0, none⟩) len len) xs := by
  subst hl hc
  exact Ow.new (fun (j : Nat) (u : Value) hj => by simpa using hj) (Nat.le_refl _) (by rw [List.size_toArray, flat_len]; exact Nat.le_refl _)

theorem fold_set (off : Nat) : ∀ (l : List Value) (i : Nat) (cs : List Value), off + i + l.length ≤ cs.length → ((l.zipIdx i).foldl (fun (cs : Array Value) (x : Value × Nat) => cs.setIfInBounds (off + x.2) x.1) cs.toArray).toList = cs.take (off + i) ++ l ++ cs.drop (off + i + l.length)
  | [], i, cs, _ => by simp
  | u :: l, i, cs, h => by
    rw [List.length_cons] at h
    rw [List.zipIdx_cons, List.foldl_cons]
    have e : cs.toArray.setIfInBounds (off + i) u = (cs.set (off + i) u).toArray := by simp
    simp only [e]
    rw [fold_set off l (i + 1) (cs.set (off + i) u) (by rw [List.length_set]; omega), List.set_eq_take_append_cons_drop, if_pos (by omega)]
    have hl : (cs.take (off + i)).length = off + i := by rw [List.length_take]; omega
    have e1 : (cs.take (off + i) ++ u :: cs.drop (off + i + 1)).take (off + (i + 1)) = cs.take (off + i) ++ [u] := by
      rw [List.take_append, hl, List.take_of_length_le (by omega), show off + (i + 1) - (off + i) = 1 by omega]; rfl
    have e2 : (cs.take (off + i) ++ u :: cs.drop (off + i + 1)).drop (off + (i + 1) + l.length) = cs.drop (off + i + (l.length + 1)) := by
      rw [List.drop_append, hl, List.drop_of_length_le (by omega), List.nil_append, show off + (i + 1) + l.length - (off + i) = l.length + 1 by omega, List.drop_succ_cons, List.drop_drop]
      congr 1; omega
    rw [e1, e2, List.length_cons]
    simp

theorem fill_go {n : Nat} : ∀ (us : List Value) (i : Nat) (cs : List Value), cs.length = (i + us.length) * n → (∀ u, u ∈ us → u.cells.size = n) →
    Instr.fill (fun i => some (i * n, n)) cs.toArray ((us.zipIdx i).map fun x => (x.2, x.1)) = some (cs.take (i * n) ++ us.flatMap fun u => u.cells.toList).toArray
  | [], i, cs, h, _ => by
    simp only [List.zipIdx_nil, List.map_nil, Instr.fill, List.flatMap_nil, List.append_nil]
    rw [List.take_of_length_le (by simp at h; omega)]
  | u :: us, i, cs, h, hu => by
    have h1 := hu u (by simp)
    rw [List.zipIdx_cons, List.map_cons]
    unfold Instr.fill
    simp only [List.length_cons] at h
    have hm : (i + (us.length + 1)) * n = i * n + n + us.length * n := by rw [Nat.add_mul, Nat.add_mul, Nat.one_mul]; omega
    rw [hm] at h
    have hc : (u.cells.size ≠ n || i * n + u.cells.size > cs.toArray.size) = false := by simp [h1]; omega
    simp only [hc, Bool.false_eq_true, if_false]
    have hf : (u.cells.zipIdx.foldl (fun cs x => cs.setIfInBounds (i * n + x.2) x.1) cs.toArray) = (cs.take (i * n) ++ u.cells.toList ++ cs.drop (i * n + n)).toArray := by
      apply Array.ext'
      rw [← Array.foldl_toList, Array.toList_zipIdx, fold_set]
      · have : u.cells.toList.length = n := by simpa using h1
        rw [Nat.add_zero, this]
      · have : u.cells.toList.length = n := by simpa using h1
        rw [Nat.add_zero, this]; omega
    have hL : u.cells.toList.length = n := by simpa using h1
    have hT : (cs.take (i * n)).length = i * n := by rw [List.length_take]; omega
    rw [hf, fill_go us (i + 1) _ (by rw [List.length_append, List.length_append, hT, hL, List.length_drop, Nat.add_mul, Nat.add_mul, Nat.one_mul]; omega) (fun u h => hu u (List.mem_cons_of_mem _ h))]
    congr 2
    rw [Nat.succ_mul, List.flatMap_cons, ← List.append_assoc]
    congr 1
    rw [List.take_append, List.length_append, hT, hL, Nat.sub_self, List.take_zero, List.append_nil, List.take_of_length_le (by rw [List.length_append, hT, hL]; omega)]

/-- a slice of values -/
theorem bsl_ok {zero : Array Value} {n len : Nat} {e : TypeId} {us : List Value} {parts : List (Nat × Value)} (hp : parts = us.zipIdx.map fun x => (x.2, x.1)) (hl : us.length = len) (hu : ∀ u, u ∈ us → u.cells.size = n) :
    bsl zero n len e parts h = some (.slice (some ⟨h.size, 0, none⟩) len len, h.push (.cells ⟨us.flatMap fun u => u.cells.toList⟩ e)) := by
  unfold bsl
  subst hp
  have := fill_go (n := n) us 0 ((Array.range (len * n)).map (zero[· % zero.size]!)).toList (by simp [hl]) hu
  rw [Array.toArray_toList] at this
  rw [this]
  simp

/-- the place of an element of a slice of one's own -/
theorem Ow.ix (H : Ow E h v xs) {i : Nat} {x : α} (hx : xs[i]? = some x) {n : Nat} (hn : n = E.n) {k : IntKind} {z : Int} (hz : z = i) :
    ∃ r o cap, v = .slice (some ⟨r, o, none⟩) xs.length cap ∧ ixs n v (.int k z) = some (.pointer (some ⟨r, o + i * E.n, none⟩)) ∧ Row E h r (o + i * E.n) x := by
  rcases H with ⟨rfl, rfl⟩ | ⟨r, o, cap, rfl, hl, hb, hr, hw⟩
  · simp at hx
  · have hlt := (List.getElem?_eq_some_iff.mp hx).1
    subst hz hn
    exact ⟨r, o, cap, rfl, by simp [ixs, hlt, addN], hr i x hx⟩

/-- stores into an element: j its cell, vs what is put there -/
theorem Ow.put (H : Ow E h v xs) {i : Nat} {x y : α} (hx : xs[i]? = some x) {j : Nat} {vs : List Value} (hy : ∀ j' u, (E.c y)[j']? = some u → if j ≤ j' ∧ j' < j + vs.length then vs[j' - j]? = some u else (E.c x)[j']? = some u)
    (hj : j + vs.length ≤ E.n) (hone : ∀ u, u ∈ vs → u.oneCell' = true) {n : Nat} (hn : n = E.n) {q : IntKind} {z : Int} (hz : z = i) :
    ∃ r o h', ixs n v (.int q z) = some (.pointer (some ⟨r, o, none⟩)) ∧ stores h ⟨r, o + j, none⟩ 0 vs = some h' ∧ Ow E h' v (xs.set i y) ∧ Ch (fun r => blk v = some r) h h' ∧ h'.size = h.size := by
  obtain ⟨r, o, cap, rfl, e1, hrow⟩ := H.ix hx hn hz (k := q)
  have hlt := (List.getElem?_eq_some_iff.mp hx).1
  rcases H with ⟨e, _⟩ | ⟨r', o', cap', e, hl, hb, hr, hw⟩
  · simp at e
  simp only [Value.slice.injEq, Option.some.injEq, Addr.mk.injEq, and_true, true_and] at e
  obtain ⟨⟨rfl, rfl⟩, rfl⟩ := e
  have hmul : i * E.n + E.n ≤ xs.length * E.n := by have : (i + 1) * E.n ≤ xs.length * E.n := Nat.mul_le_mul_right _ hlt; rw [Nat.succ_mul] at this; exact this
  have hmul2 : xs.length * E.n ≤ cap * E.n := Nat.mul_le_mul_right _ hl
  obtain ⟨h', e2, up⟩ := stores_ok (r := r) (o := o + i * E.n + j) vs 0 h hone (fun j' hj' => by
    have := hw (i * E.n + j + j') (by omega)
    rw [Nat.add_zero, show o + i * E.n + j + j' = o + (i * E.n + j + j') by omega]; exact this)
  refine ⟨r, o + i * E.n, h', e1, e2, .inr ⟨r, o, cap, by simp, by simpa using hl, by rw [up.size]; exact hb, fun i' x' hx' j' u hu => ?_, fun j' hj' => ?_⟩, up.ch.mono fun x _ e => by subst e; rfl, up.size⟩
  · have hj' : j' < E.n := by have := (List.getElem?_eq_some_iff.mp hu).1; rwa [E.len] at this
    rw [Nat.add_zero] at up
    by_cases hii : i' = i
    · subst hii
      rw [List.getElem?_set_self hlt, Option.some.injEq] at hx'
      subst hx'
      have := hy j' u hu
      split at this
      · rename_i hc
        have h3 := up.put (j' - j) u this
        rw [show o + i' * E.n + j + (j' - j) = o + i' * E.n + j' by omega] at h3
        exact h3
      · rename_i hc
        rw [up.keep _ (fun q hq => by omega)]
        exact hrow j' u this
    · rw [List.getElem?_set_ne (fun e => hii e.symm)] at hx'
      have hne : ∀ q, q < vs.length → o + i' * E.n + j' ≠ o + i * E.n + j + q := by
        intro q hq
        rcases Nat.lt_or_gt_of_ne hii with hlt' | hgt'
        · have : (i' + 1) * E.n ≤ i * E.n := Nat.mul_le_mul_right _ hlt'
          rw [Nat.succ_mul] at this; omega
        · have : (i + 1) * E.n ≤ i' * E.n := Nat.mul_le_mul_right _ hgt'
          rw [Nat.succ_mul] at this; omega
      rw [up.keep _ hne]
      exact hr i' x' hx' j' u hu
  · exact ⟨up.some (hw j' hj').1, by rw [up.fz]; exact (hw j' hj').2⟩

theorem sto_agg {r o n : Nat} {cs : List Value} (hn : cs.length = n) : sto n (.pointer (some ⟨r, o, none⟩)) (.agg ⟨cs⟩) h = stores h ⟨r, o, none⟩ 0 cs := by
  have : Nat.beq (Value.cells (.agg ⟨cs⟩)).size n = true := by simp [Value.cells, hn]
  simp only [sto, this]; rfl
theorem sto_one {r o : Nat} {u : Value} (hu : u.oneCell' = true) : sto 1 (.pointer (some ⟨r, o, none⟩)) u h = stores h ⟨r, o, none⟩ 0 [u] := by
  cases u <;> first | rfl | contradiction

/-- an element is set -/
theorem Ow.set (H : Ow E h v xs) {i : Nat} (hi : i < xs.length) (y : α) {n : Nat} (hn : n = E.n) {q : IntKind} {z : Int} (hz : z = i) {k : Hp → Prop} {w : Value} (hw : w = .agg ⟨E.c y⟩)
    (hk : ∀ h', Ow E h' v (xs.set i y) → Ch (fun r => blk v = some r) h h' → k h') : Vb (ixs n v (.int q z)) fun p => Sb (sto n p w h) k := by
  obtain ⟨r, o, h', e1, e2, e3, e4, _⟩ := H.put (List.getElem?_eq_getElem hi) (y := y) (j := 0) (vs := E.c y) (fun j' u hu => by
    rw [if_pos ⟨Nat.zero_le _, by have := (List.getElem?_eq_some_iff.mp hu).1; omega⟩]; exact hu) (by rw [E.len]; omega) (E.one y) hn hz (q := q)
  subst hw
  exact vb e1 (sb ((sto_agg (by rw [E.len, hn])).trans e2) (hk h' e3 e4))
theorem Ow.set1 (H : Ow E h v xs) {i : Nat} (hi : i < xs.length) (y : α) {n : Nat} (hn : n = E.n) (h1 : E.n = 1) {q : IntKind} {z : Int} (hz : z = i) {k : Hp → Prop} {w : Value} (hw : E.c y = [w])
    (hk : ∀ h', Ow E h' v (xs.set i y) → Ch (fun r => blk v = some r) h h' → k h') : Vb (ixs n v (.int q z)) fun p => Sb (sto 1 p w h) k := by
  obtain ⟨r, o, h', e1, e2, e3, e4, _⟩ := H.put (List.getElem?_eq_getElem hi) (y := y) (j := 0) (vs := E.c y) (fun j' u hu => by
    rw [if_pos ⟨Nat.zero_le _, by have := (List.getElem?_eq_some_iff.mp hu).1; omega⟩]; exact hu) (by rw [E.len]; omega) (E.one y) hn hz (q := q)
  rw [hw] at e2
  exact vb e1 (sb ((sto_one (E.one y w (by rw [hw]; simp))).trans e2) (hk h' e3 e4))
/-- a field of an element is set -/
theorem Ow.setf (H : Ow E h v xs) {i : Nat} {x : α} (hx : xs[i]? = some x) (y : α) {n : Nat} (hn : n = E.n) {q : IntKind} {z : Int} (hz : z = i) {j : Nat} {k : Hp → Prop} {w : Value} (hw : w.oneCell' = true) (hj : j < E.n) (hy : E.c y = (E.c x).set j w)
    (hk : ∀ h', Ow E h' v (xs.set i y) → Ch (fun r => blk v = some r) h h' → k h') : Vb (ixs n v (.int q z)) fun p => Vb (fa j p) fun p => Sb (sto 1 p w h) k := by
  obtain ⟨r, o, h', e1, e2, e3, e4, _⟩ := H.put hx (y := y) (j := j) (vs := [w]) (fun j' u hu => by
    rw [hy, List.getElem?_set] at hu
    split
    · rename_i hc
      have : j = j' := by simp only [List.length_cons, List.length_nil] at hc; omega
      subst this
      rw [if_pos rfl] at hu
      split at hu <;> simp_all
    · rename_i hc
      rw [if_neg (fun e => hc (by subst e; simp))] at hu
      exact hu) (by simp; omega) (by simpa using hw) hn hz (q := q)
  exact vb e1 (vb (fa_add _ _ _) (sb ((sto_one hw).trans e2) (hk h' e3 e4)))

/-! ### Parts of slices -/
theorem slc_ok {n : Nat} {a : Option Addr} {len cap : Nat} {lo hi : Option Value} {l u : Nat} (hl : lo = none ∧ l = 0 ∨ ∃ k z, lo = some (.int k z) ∧ z = l) (hu : hi = none ∧ u = len ∨ ∃ k z, hi = some (.int k z) ∧ z = u) (h1 : l ≤ u) (h2 : u ≤ cap) :
    slc n (.slice a len cap) lo hi none = some (.slice (if cap = l then a else a.map (·.add (l * n))) (u - l) (cap - l)) := by
  have e2 : bndH hi len cap = some u := by
    rcases hu with ⟨rfl, rfl⟩ | ⟨k, z, rfl, rfl⟩
    · rfl
    · simp [bndH, bnd, h2]
  have e3 : bndL lo u = some l := by
    rcases hl with ⟨rfl, rfl⟩ | ⟨k, z, rfl, rfl⟩
    · rfl
    · simp [bndL, bnd, h1]
  simp [slc, bnds, bndM, e2, e3, slcA]

theorem Sl.sub (H : Sl E h v xs) {n : Nat} (hn : n = E.n) {lo hi : Option Value} {l u : Nat} (hl : lo = none ∧ l = 0 ∨ ∃ k z, lo = some (.int k z) ∧ z = l) (hu : hi = none ∧ u = xs.length ∨ ∃ k z, hi = some (.int k z) ∧ z = u) (h1 : l ≤ u) (h2 : u ≤ xs.length) :
    ∃ w, slc n v lo hi none = some w ∧ Sl E h w ((xs.take u).drop l) ∧ (blk w = blk v) := by
  obtain ⟨a, cap, rfl, h3, h4, h5⟩ := H
  refine ⟨_, slc_ok hl hu h1 (Nat.le_trans h2 h3), ?_, ?_⟩
  · refine ⟨_, _, by rw [List.length_drop, List.length_take]; congr 1; omega, by rw [List.length_drop, List.length_take]; omega, ?_, fun i x hx => ?_⟩
    · intro e
      split at e
      · omega
      · have := h4 (by simpa using e); omega
    · rw [List.getElem?_drop] at hx
      have hlt := (List.getElem?_eq_some_iff.mp hx).1
      rw [List.length_take] at hlt
      rw [List.getElem?_take_of_lt (by omega)] at hx
      obtain ⟨r, o, rfl, hr⟩ := h5 _ _ hx
      rw [if_neg (by omega)]
      refine ⟨r, o + l * n, by simp [addN], ?_⟩
      subst hn
      rw [Nat.add_mul] at hr
      rw [Nat.add_assoc]; exact hr
  · split
    · cases a <;> rfl
    · cases a with
      | none => rfl
      | some a => simp only [blk, Option.map_some]; unfold Addr.add; split <;> rfl

theorem Ow.sub (H : Ow E h v xs) {n : Nat} (hn : n = E.n) {hi : Option Value} {u : Nat} (hu : hi = none ∧ u = xs.length ∨ ∃ k z, hi = some (.int k z) ∧ z = u) (h2 : u ≤ xs.length) :
    ∃ w, slc n v none hi none = some w ∧ Ow E h w (xs.take u) ∧ (blk w = blk v) := by
  rcases H with ⟨rfl, rfl⟩ | ⟨r, o, cap, rfl, h3, hb, hr, hw⟩
  · have : u = 0 := by simpa using h2
    subst this
    exact ⟨_, slc_ok (.inl ⟨rfl, rfl⟩) hu (Nat.zero_le _) (Nat.zero_le _), .inl ⟨rfl, rfl⟩, rfl⟩
  · refine ⟨_, slc_ok (.inl ⟨rfl, rfl⟩) hu (Nat.zero_le _) (Nat.le_trans h2 h3), .inr ⟨r, o, cap, ?_, ?_, hb, fun i x hx => ?_, hw⟩, ?_⟩
    · rw [List.length_take, Nat.min_eq_left h2]
      simp [addN]
    · rw [List.length_take]; omega
    · have hlt := (List.getElem?_eq_some_iff.mp hx).1
      rw [List.length_take] at hlt
      rw [List.getElem?_take_of_lt (by omega)] at hx
      exact hr i x hx
    · split
      · rfl
      · simp [blk, addN]
end

/-! ### Maps with whole-number keys -/
def lookA {α : Type} (ps : List (Int × α)) (k : Int) : Option α := (ps.find? fun p => p.1 == k).map (·.2)
def updA {α : Type} : List (Int × α) → Int → α → List (Int × α)
  | [], k, x => [(k, x)]
  | p :: ps, k, x => if p.1 = k then (k, x) :: ps else p :: updA ps k x
theorem lookA_updA {α : Type} (k k' : Int) (x : α) : ∀ ps : List (Int × α), lookA (updA ps k x) k' = if k' = k then some x else lookA ps k'
  | [] => by
    by_cases h : k' = k
    · subst h; simp [lookA, updA]
    · have h' : ¬ k = k' := fun e => h e.symm
      simp [lookA, updA, h, h']
  | p :: ps => by
    have ih := lookA_updA k k' x ps
    unfold lookA at ih ⊢
    unfold updA
    by_cases h : p.1 = k
    · rw [if_pos h]
      by_cases h2 : k' = k
      · subst h2; simp
      · rw [if_neg h2, List.find?_cons_of_neg (by simpa using fun e => h2 e.symm), List.find?_cons_of_neg (by rw [h]; simpa using fun e => h2 e.symm)]
    · rw [if_neg h]
      by_cases h3 : p.1 = k'
      · rw [List.find?_cons_of_pos (by simpa using h3), List.find?_cons_of_pos (by simpa using h3), if_neg (by rw [← h3]; exact h)]
      · rw [List.find?_cons_of_neg (by simpa using h3), List.find?_cons_of_neg (by simpa using h3)]; exact ih
theorem mem_updA {α : Type} {k : Int} {x : α} {p : Int × α} : ∀ {ps : List (Int × α)}, p ∈ updA ps k x → p = (k, x) ∨ p ∈ ps
  | [], h => by simpa [updA] using h
  | q :: ps, h => by
    unfold updA at h
    split at h
    · rcases List.mem_cons.mp h with e | e
      · exact .inl e
      · exact .inr (List.mem_cons_of_mem _ e)
    · rcases List.mem_cons.mp h with e | e
      · exact .inr (by rw [e]; simp)
      · exact (mem_updA e).imp id (List.mem_cons_of_mem _)
theorem nodup_updA {α : Type} (k : Int) (x : α) : ∀ {ps : List (Int × α)}, (ps.map (·.1)).Nodup → ((updA ps k x).map (·.1)).Nodup
  | [], _ => by simp [updA]
  | p :: ps, h => by
    rw [List.map_cons, List.nodup_cons] at h
    unfold updA
    split
    · rename_i e
      rw [List.map_cons, List.nodup_cons]
      exact ⟨by simpa [← e] using h.1, h.2⟩
    · rename_i e
      rw [List.map_cons, List.nodup_cons]
      refine ⟨fun hm => ?_, nodup_updA k x h.2⟩
      obtain ⟨q, hq, e2⟩ := List.mem_map.mp hm
      rcases mem_updA hq with rfl | hq
      · exact e e2.symm
      · exact h.1 (List.mem_map.mpr ⟨q, hq, e2⟩)
theorem lookA_mem {α : Type} {ps : List (Int × α)} (hn : (ps.map (·.1)).Nodup) {k : Int} {x : α} : (k, x) ∈ ps ↔ lookA ps k = some x := by
  induction ps with
  | nil => simp [lookA]
  | cons p ps ih =>
    rw [List.map_cons, List.nodup_cons] at hn
    have ih := ih hn.2
    unfold lookA at ih ⊢
    by_cases h : p.1 = k
    · rw [List.find?_cons_of_pos (by simpa using h)]
      simp only [Option.map_some, Option.some.injEq, List.mem_cons]
      constructor
      · rintro (e | e)
        · rw [← e]
        · exact absurd (List.mem_map.mpr ⟨_, e, h.symm⟩) hn.1
      · intro e; left; rw [← h, ← e]
    · rw [List.find?_cons_of_neg (by simpa using h), ← ih, List.mem_cons]
      constructor
      · rintro (e | e)
        · exact absurd (by rw [← e]) h
        · exact e
      · exact .inr

/-- the entries of a map, as data -/
structure Ent {α : Type} (ik : IntKind) (E : α → Value) (es : List MapEntry) (ps : List (Int × α)) (clock : Nat) : Prop where
  dat : es.map (fun e => (e.key, e.val)) = ps.map (fun p => (Value.int ik p.1, E p.2))
  born : ∀ e, e ∈ es → e.born < clock
  nodup : (es.map (·.born)).Nodup
def Mp {α : Type} (ik : IntKind) (E : α → Value) (h : Hp) (v : Value) (ps : List (Int × α)) : Prop :=
  ∃ r es clock, v = .map (some r) ∧ h[r]? = some (.map es clock) ∧ Ent ik E es.toList ps clock
def mblk : Value → Option Nat
  | .map r => r
  | _ => none

theorem find_ok {α : Type} {ik : IntKind} {E : α → Value} {k : Int} : ∀ {es : List MapEntry} {ps : List (Int × α)} (i : Nat), es.map (fun e => (e.key, e.val)) = ps.map (fun p => (Value.int ik p.1, E p.2)) →
    ∃ r, Instr.findNow (.int ik) (.int ik k) es i = some r ∧ r.map (·.2) = (lookA ps k).map E ∧
      ∀ j u, r = some (j, u) → ∃ es1 e es2 ps1 p ps2, es = es1 ++ e :: es2 ∧ ps = ps1 ++ p :: ps2 ∧ es1.length = j - i ∧ i ≤ j ∧ ps1.length = es1.length ∧ p.1 = k ∧ (∀ q ∈ ps1, q.1 ≠ k) ∧ e.key = .int ik k
  | [], [], i, _ => ⟨none, rfl, rfl, fun j u e => by simp at e⟩
  | [], _ :: _, _, h => by simp at h
  | _ :: _, [], _, h => by simp at h
  | e :: es, p :: ps, i, h => by
    simp only [List.map_cons, List.cons.injEq, Prod.mk.injEq] at h
    obtain ⟨⟨h1, h2⟩, h3⟩ := h
    unfold Instr.findNow
    rw [h1]
    simp only [Instr.sameNow, if_true]
    by_cases hk : k = p.1
    · subst hk
      simp only [beq_self_eq_true]
      refine ⟨_, rfl, by simp [lookA, h2], fun j u hj => ?_⟩
      simp only [Option.some.injEq, Prod.mk.injEq] at hj
      obtain ⟨rfl, rfl⟩ := hj
      exact ⟨[], e, es, [], p, ps, rfl, rfl, by simp, Nat.le_refl _, rfl, rfl, fun q hq => by simp at hq, h1⟩
    · have : (k == p.1) = false := by simpa using hk
      simp only [this]
      obtain ⟨r, a1, a2, a3⟩ := find_ok (k := k) (i + 1) h3
      refine ⟨r, a1, ?_, fun j u hj => ?_⟩
      · rw [a2]; unfold lookA; rw [List.find?_cons_of_neg (by simpa using fun e => hk e.symm)]
      · obtain ⟨es1, e', es2, ps1, p', ps2, rfl, rfl, b1, b2, b3, b4, b5, b6⟩ := a3 j u hj
        refine ⟨e :: es1, e', es2, p :: ps1, p', ps2, rfl, rfl, by simp; omega, by omega, by simp [b3], b4, fun q hq => ?_, b6⟩
        rcases List.mem_cons.mp hq with rfl | hq
        · exact fun e => hk e.symm
        · exact b5 q hq

section
variable {α : Type} {ik : IntKind} {E : α → Value} {h h' : Hp} {v : Value} {ps : List (Int × α)} {D : Nat → Prop}
theorem Mp.new : Mp ik E (h.push (.map #[] 0)) (.map (some h.size)) [] := ⟨h.size, #[], 0, rfl, by simp, rfl, fun e he => by simp at he, by simp⟩
theorem Mp.ch (H : Mp ik E h v ps) (c : Ch D h h') (hd : ∀ r, mblk v = some r → ¬ D r) : Mp ik E h' v ps := by
  obtain ⟨r, es, clock, rfl, hh, he⟩ := H
  exact ⟨r, es, clock, rfl, (c.same r (Array.getElem?_eq_some_iff.mp hh).1 (hd r rfl)).trans hh, he⟩
theorem Mp.gr (H : Mp ik E h v ps) (c : Gr h h') : Mp ik E h' v ps := H.ch c fun _ _ e => e
theorem Mp.lt (H : Mp ik E h v ps) {r : Nat} (hr : mblk v = some r) : r < h.size := by
  obtain ⟨r', es, clock, rfl, hh, he⟩ := H
  simp only [mblk, Option.some.injEq] at hr
  subst hr
  exact (Array.getElem?_eq_some_iff.mp hh).1
theorem Mp.look (H : Mp ik E h v ps) {zero : Value} {k : Int} : lkm (.int ik) zero false v (.int ik k) h = some (((lookA ps k).map E).getD zero) := by
  obtain ⟨r, es, clock, rfl, hh, he⟩ := H
  obtain ⟨f, h1, h2, _⟩ := find_ok (k := k) 0 he.dat
  simp [lkm, mkey, hh, h1, h2]
theorem Mp.lookOk (H : Mp ik E h v ps) {zero : Value} {k : Int} : lkm (.int ik) zero true v (.int ik k) h = some (.tuple #[((lookA ps k).map E).getD zero, .bool (lookA ps k).isSome]) := by
  obtain ⟨r, es, clock, rfl, hh, he⟩ := H
  obtain ⟨f, h1, h2, _⟩ := find_ok (k := k) 0 he.dat
  have h3 : f.isSome = (lookA ps k).isSome := by have := congrArg Option.isSome h2; simpa using this
  simp [lkm, mkey, hh, h1, h2, h3]

theorem updA_mid {p : Int × α} {k : Int} {x : α} : ∀ {ps1 ps2 : List (Int × α)}, (∀ q ∈ ps1, q.1 ≠ k) → p.1 = k → updA (ps1 ++ p :: ps2) k x = ps1 ++ (k, x) :: ps2
  | [], ps2, _, h => by simp [updA, h]
  | q :: ps1, ps2, h1, h2 => by
    rw [List.cons_append, updA, if_neg (h1 q (by simp)), updA_mid (fun q hq => h1 q (List.mem_cons_of_mem _ hq)) h2, List.cons_append]
theorem updA_end {k : Int} {x : α} : ∀ {ps : List (Int × α)}, lookA ps k = none → updA ps k x = ps ++ [(k, x)]
  | [], _ => rfl
  | p :: ps, h => by
    unfold lookA at h
    by_cases e : p.1 = k
    · rw [List.find?_cons_of_pos (by simpa using e)] at h; simp at h
    · rw [List.find?_cons_of_neg (by simpa using e)] at h
      rw [updA, if_neg e, updA_end h, List.cons_append]

theorem Mp.put (H : Mp ik E h v ps) (k : Int) (x : α) : ∃ h', mup (.int ik) v (.int ik k) (E x) h = some h' ∧ Mp ik E h' v (updA ps k x) ∧ Ch (fun r => mblk v = some r) h h' ∧ h'.size = h.size := by
  obtain ⟨r, es, clock, rfl, hh, he⟩ := H
  obtain ⟨f, h1, h2, h3⟩ := find_ok (k := k) 0 he.dat
  have hlt := (Array.getElem?_eq_some_iff.mp hh).1
  have hch : ∀ o, Ch (fun r' => mblk (.map (some r)) = some r') h (h.setIfInBounds r o) := fun o => ⟨by simp, fun r' _ hn => by rw [Array.getElem?_setIfInBounds, if_neg (fun e => hn (by rw [← e]; rfl))]⟩
  cases f with
  | some y =>
    obtain ⟨j, u⟩ := y
    refine ⟨_, by simp only [mup, mkey, hh, h1]; rfl, ⟨r, _, clock, rfl, by rw [Array.getElem?_setIfInBounds, if_pos rfl, if_pos hlt], ?_⟩, hch _, by simp⟩
    obtain ⟨es1, e, es2, ps1, p, ps2, a1, rfl, a3, a4, a5, a6, a7, a8⟩ := h3 j u rfl
    have hm : (es.modify j fun e => { e with key := .int ik k, val := E x }).toList = es1 ++ { e with key := .int ik k, val := E x } :: es2 := by
      rw [Array.toList_modify, a1]
      have : j = es1.length := by omega
      rw [this, List.modify_eq_take_cons_drop (by simp)]
      simp
    rw [hm]
    have hd := he.dat
    rw [a1, List.map_append, List.map_append, List.map_cons, List.map_cons] at hd
    obtain ⟨d1, d2⟩ := List.append_inj hd (by simp [a5])
    simp only [List.cons.injEq] at d2
    refine ⟨?_, ?_, ?_⟩
    · rw [updA_mid a7 a6, List.map_append, List.map_append, List.map_cons, List.map_cons, d1, d2.2]
    · intro e' he'
      rcases List.mem_append.mp he' with m | m
      · exact he.born e' (by rw [a1]; simp [m])
      · rcases List.mem_cons.mp m with rfl | m
        · exact he.born e (by rw [a1]; simp)
        · exact he.born e' (by rw [a1]; simp [m])
    · have := he.nodup
      rw [a1] at this
      simpa using this
  | none =>
    have hnone : lookA ps k = none := by simpa using h2.symm
    refine ⟨_, by simp only [mup, mkey, hh, h1]; rfl, ⟨r, _, clock + 1, rfl, by rw [Array.getElem?_setIfInBounds, if_pos rfl, if_pos hlt], ?_⟩, hch _, by simp⟩
    rw [Array.toList_push]
    refine ⟨?_, ?_, ?_⟩
    · rw [updA_end hnone, List.map_append, List.map_append, he.dat]; rfl
    · intro e' he'
      rcases List.mem_append.mp he' with m | m
      · exact Nat.lt_succ_of_lt (he.born e' m)
      · simp only [List.mem_singleton] at m; subst m; exact Nat.lt_succ_self _
    · rw [List.map_append, List.nodup_append]
      refine ⟨he.nodup, by simp, fun a ha b hb => ?_⟩
      obtain ⟨e', hm, rfl⟩ := List.mem_map.mp ha
      simp only [List.map_cons, List.map_nil, List.mem_singleton] at hb
      have := he.born e' hm
      omega
end
end Go.En
