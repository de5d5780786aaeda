/-
  Layer 53: the plain laws: Fast is Apply in the witness order.
-/
import Derived.Test.YtbdnfljpgcpbaaaElI
namespace Go.En

theorem zip_nodup : ∀ (a b : List Nat), a.Nodup → b.Nodup → (∀ x ∈ a, x ∉ b) → ((a.zip b).flatMap fun p => [p.1, p.2]).Nodup
  | [], _, _, _, _ => by simp
  | _ :: _, [], _, _, _ => by simp
  | x :: a, y :: b, ha, hb, hd => by
    rw [List.nodup_cons] at ha hb
    have ih := zip_nodup a b ha.2 hb.2 fun z hz hz' => hd z (List.mem_cons_of_mem _ hz) (List.mem_cons_of_mem _ hz')
    have hin : ∀ z, z ∈ ((a.zip b).flatMap fun p => [p.1, p.2]) → z ∈ a ∨ z ∈ b := by
      intro z hz
      obtain ⟨p, hp, hz⟩ := List.mem_flatMap.mp hz
      have := List.of_mem_zip (a := p.1) (b := p.2) hp
      simp only [List.mem_cons, List.not_mem_nil, or_false] at hz
      rcases hz with rfl | rfl
      · exact .inl this.1
      · exact .inr this.2
    simp only [List.zip_cons_cons, List.flatMap_cons, List.cons_append, List.nil_append, List.nodup_cons, List.mem_cons]
    refine ⟨?_, ?_, ih⟩
    · rintro (e | e)
      · exact hd x (by simp) (by rw [e]; simp)
      · rcases hin x e with e | e
        · exact ha.1 e
        · exact hd x (by simp) (List.mem_cons_of_mem _ e)
    · intro e
      rcases hin y e with e | e
      · exact hd y (List.mem_cons_of_mem _ e) (by simp)
      · exact hb.1 e

def flatP (xs : List Op) : List Nat := (pairs xs).flatMap fun p => [p.1, p.2]
theorem order_eq (xs : List Op) : order xs = flatP xs ++ others xs := rfl
theorem mem_flatP {xs : List Op} {i : Nat} : i ∈ flatP xs ↔ paired xs i = true := by
  unfold flatP paired
  rw [List.mem_flatMap, List.any_eq_true]
  constructor
  · rintro ⟨p, hp, h⟩
    simp only [List.mem_cons, List.not_mem_nil, or_false] at h
    exact ⟨p, hp, by rcases h with rfl | rfl <;> simp⟩
  · rintro ⟨p, hp, h⟩
    refine ⟨p, hp, ?_⟩
    simp only [Bool.or_eq_true, beq_iff_eq] at h
    rcases h with rfl | rfl <;> simp
theorem isF_of_push {xs : List Op} {i : Nat} (h : i ∈ pushes xs) : isF xs i = true ∧ (xs[i]?.any Op.p) = true := by
  unfold pushes isPush at h
  rw [List.mem_filter, Bool.and_eq_true] at h
  exact h.2
theorem isF_of_pop {xs : List Op} {i : Nat} (h : i ∈ pops xs) : isF xs i = true ∧ (xs[i]?.any fun o => !o.p) = true := by
  unfold pops isPop at h
  rw [List.mem_filter, Bool.and_eq_true] at h
  exact h.2
theorem push_pop {xs : List Op} : ∀ i ∈ pushes xs, i ∉ pops xs := by
  intro i h h'
  have h1 := (isF_of_push h).2
  have h2 := (isF_of_pop h').2
  cases e : xs[i]? with
  | none => rw [e] at h1; simp at h1
  | some o => rw [e] at h1 h2; simp_all
theorem nodup_flatP (xs : List Op) : (flatP xs).Nodup :=
  zip_nodup _ _ (List.nodup_range.filter _) (List.nodup_range.filter _) push_pop
theorem mem_others_iff {xs : List Op} {i : Nat} : i ∈ others xs ↔ i < xs.length ∧ paired xs i = false := by
  unfold others; rw [List.mem_filter, List.mem_range]; simp
theorem nodup_order (xs : List Op) : (order xs).Nodup := by
  rw [order_eq, List.nodup_append]
  refine ⟨nodup_flatP xs, List.nodup_range.filter _, fun a ha b hb e => ?_⟩
  subst e
  rw [mem_flatP] at ha
  rw [mem_others_iff] at hb
  rw [ha] at hb
  exact absurd hb.2 (by simp)
theorem paired_lt {xs : List Op} {i : Nat} (h : paired xs i = true) : i < xs.length := by
  unfold paired at h
  obtain ⟨p, hp, h⟩ := List.any_eq_true.mp h
  have := mem_pairs hp
  simp only [Bool.or_eq_true, beq_iff_eq] at h
  rcases h with rfl | rfl
  · exact this.1
  · exact this.2
theorem mem_order {xs : List Op} {i : Nat} : i ∈ order xs ↔ i < xs.length := by
  rw [order_eq, List.mem_append, mem_flatP, mem_others_iff]
  constructor
  · rintro (h | h)
    · exact paired_lt h
    · exact h.1
  · intro h
    cases e : paired xs i
    · exact .inr ⟨h, rfl⟩
    · exact .inl rfl
theorem order_perm (xs : List Op) : (order xs).Perm (List.range xs.length) :=
  (List.perm_ext_iff_of_nodup (nodup_order xs) List.nodup_range).mpr fun i => by rw [mem_order, List.mem_range]
theorem order_len (xs : List Op) : (order xs).length = xs.length := by have := (order_perm xs).length_eq; simpa using this

def ordOps (xs : List Op) : List Op := (order xs).map (opAt xs)
theorem ordOps_len (xs : List Op) : (ordOps xs).length = xs.length := by simp [ordOps, order_len]

theorem appAll_append : ∀ (l l' : List Op) (s : List Int), appAll s (l ++ l') = ((appAll (appAll s l).1 l').1, (appAll s l).2 ++ (appAll (appAll s l).1 l').2)
  | [], _, _ => rfl
  | x :: l, l', s => by simp [appAll, appAll_append l l']

/-- a pushed value that is popped at once -/
theorem appl_pair (s : List Int) (a b : Op) (ha : a.p = true) (hb : b.p = false) : appAll s [a, b] = (s, [(0, a.v), (0, a.v)]) := by
  simp [appAll, appl, ha, hb]
def ansP (xs : List Op) (ps : List (Nat × Nat)) : List (Int × Int) := ps.flatMap fun p => [(0, (opAt xs p.1).v), (0, (opAt xs p.1).v)]
theorem app_pairs (xs : List Op) (s : List Int) : ∀ ps : List (Nat × Nat), (∀ p ∈ ps, (opAt xs p.1).p = true ∧ (opAt xs p.2).p = false) → appAll s ((ps.flatMap fun p => [p.1, p.2]).map (opAt xs)) = (s, ansP xs ps)
  | [], _ => rfl
  | p :: ps, h => by
    have ih := app_pairs xs s ps fun q hq => h q (List.mem_cons_of_mem _ hq)
    obtain ⟨h1, h2⟩ := h p (by simp)
    have e : ((p :: ps).flatMap fun p => [p.1, p.2]).map (opAt xs) = [opAt xs p.1, opAt xs p.2] ++ (ps.flatMap fun p => [p.1, p.2]).map (opAt xs) := by simp
    rw [e, appAll_append, appl_pair s _ _ h1 h2]
    simp only
    rw [ih]
    simp [ansP]
theorem pairs_pp {xs : List Op} : ∀ p ∈ pairs xs, (opAt xs p.1).p = true ∧ (opAt xs p.2).p = false := by
  intro p hp
  have := List.of_mem_zip (a := p.1) (b := p.2) hp
  have h1 := (isF_of_push this.1).2
  have h2 := (isF_of_pop this.2).2
  have m := mem_pairs hp
  rw [opAt_get m.1] at h1
  rw [opAt_get m.2] at h2
  simp at h1 h2
  exact ⟨h1, h2⟩
theorem app_order (xs : List Op) (s : List Int) : appAll s (ordOps xs) = ((appAll s (restOps xs)).1, ansP xs (pairs xs) ++ (appAll s (restOps xs)).2) := by
  have e : ordOps xs = ((pairs xs).flatMap fun p => [p.1, p.2]).map (opAt xs) ++ restOps xs := by simp [ordOps, order, restOps]
  rw [e, appAll_append, app_pairs xs s (pairs xs) pairs_pp]

theorem setAll_append : ∀ (l l' : List (Nat × (Int × Int))) (a : List (Int × Int)), setAll a (l ++ l') = setAll (setAll a l) l'
  | [], _, _ => rfl
  | _ :: l, l', a => setAll_append l l' _
theorem ans1_set (xs : List Op) : ∀ (ps : List (Nat × Nat)) (a : List (Int × Int)), ps.foldl (setP xs) a = setAll a ((ps.flatMap fun p => [p.1, p.2]).zip (ansP xs ps))
  | [], _ => rfl
  | p :: ps, a => by
    rw [List.foldl_cons, ans1_set xs ps]
    simp [ansP, setAll, setP]
theorem ansP_len (xs : List Op) : ∀ ps : List (Nat × Nat), (ansP xs ps).length = ps.length * 2
  | [] => rfl
  | p :: ps => by
    have := ansP_len xs ps
    simp only [ansP, List.flatMap_cons, List.length_append] at this ⊢
    rw [this]; simp; omega
/-- Fast is Apply in the witness order -/
theorem fast_order (xs : List Op) (st : List Int) : fast st xs = ((appAll st (ordOps xs)).1, setAll (List.replicate xs.length (0, 0)) ((order xs).zip (appAll st (ordOps xs)).2)) := by
  rw [app_order]
  unfold fast
  have e : (order xs).zip (ansP xs (pairs xs) ++ (appAll st (restOps xs)).2) = ((pairs xs).flatMap fun p => [p.1, p.2]).zip (ansP xs (pairs xs)) ++ (others xs).zip (appAll st (restOps xs)).2 := by
    unfold order
    rw [List.zip_append]
    rw [len_flat, ansP_len]
  simp only
  rw [e, setAll_append, ← ans1_set]
  rfl

theorem setAll_out : ∀ (l : List (Nat × (Int × Int))) (a : List (Int × Int)) (i : Nat), i ∉ l.map (·.1) → (setAll a l)[i]? = a[i]?
  | [], _, _, _ => rfl
  | p :: l, a, i, h => by
    rw [List.map_cons, List.mem_cons, not_or] at h
    rw [setAll, setAll_out l _ i h.2, List.getElem?_set_ne (fun e => h.1 e.symm)]
theorem setAll_in : ∀ (l : List (Nat × (Int × Int))) (a : List (Int × Int)) (p : Nat × (Int × Int)), (l.map (·.1)).Nodup → p ∈ l → p.1 < a.length → (setAll a l)[p.1]? = some p.2
  | [], _, _, _, h, _ => by simp at h
  | q :: l, a, p, hn, hp, hl => by
    rw [List.map_cons, List.nodup_cons] at hn
    rw [setAll]
    rcases List.mem_cons.mp hp with rfl | hp
    · rw [setAll_out l _ _ hn.1, List.getElem?_set_self hl]
    · exact setAll_in l _ p hn.2 hp (by simpa using hl)
/-- the answer at the i-th place of the order -/
theorem fast_at (xs : List Op) (st : List Int) {i n : Nat} (h : (order xs)[i]? = some n) : (fast st xs).2[n]? = (appAll st (ordOps xs)).2[i]? := by
  rw [fast_order]
  simp only
  have hi := (List.getElem?_eq_some_iff.mp h).1
  have hl : (appAll st (ordOps xs)).2.length = (order xs).length := by rw [(appAll_len _ _).1, ordOps_len, order_len]
  have hz : ((order xs).zip (appAll st (ordOps xs)).2)[i]? = some (n, (appAll st (ordOps xs)).2[i]) := by
    rw [List.getElem?_zip_eq_some]; exact ⟨h, idx_get (by omega)⟩
  have hm := List.mem_of_getElem? hz
  have hk : ((order xs).zip (appAll st (ordOps xs)).2).map (·.1) = order xs := by
    rw [← zip_fst]; rw [List.take_of_length_le (by omega)]
  have := setAll_in _ (List.replicate xs.length (0, 0)) (n, (appAll st (ordOps xs)).2[i]) (by rw [hk]; exact nodup_order xs) hm (by simpa using mem_order.mp (List.mem_of_getElem? h))
  rw [idx_get (by omega : i < (appAll st (ordOps xs)).2.length)]
  exact this

/-- nothing is paired: the order is the list's -/
theorem order_none {xs : List Op} (h : pairs xs = []) : order xs = List.range xs.length := by
  unfold order others paired
  rw [h]
  simp
theorem opAt_range (xs : List Op) : (List.range xs.length).map (opAt xs) = xs := by
  apply List.ext_getElem?
  intro i
  rw [List.getElem?_map]
  by_cases h : i < xs.length
  · rw [List.getElem?_range h, idx_get h]; simp [opAt, idx_get h]
  · rw [List.getElem?_eq_none (by simpa using h), List.getElem?_eq_none (by omega)]; rfl
theorem fast_none {xs : List Op} (st : List Int) (h : pairs xs = []) : fast st xs = appAll st xs ∧ (others xs).length = xs.length := by
  have ho := order_none h
  have hops : ordOps xs = xs := by rw [ordOps, ho, opAt_range]
  refine ⟨?_, ?_⟩
  · have h1 : (fast st xs).1 = (appAll st xs).1 := by rw [fast_order]; simp only; rw [hops]
    refine Prod.ext h1 ?_
    apply List.ext_getElem?
    intro i
    by_cases hi : i < xs.length
    · have := fast_at xs st (i := i) (n := i) (by rw [ho, List.getElem?_range hi])
      rw [this, hops]
    · rw [List.getElem?_eq_none (by rw [(fast_len st xs).1]; omega), List.getElem?_eq_none (by rw [(appAll_len _ _).1]; omega)]
  · have : order xs = others xs := by unfold order; rw [h]; rfl
    rw [← this, order_len]
theorem isF_zero {xs : List Op} {t : Int} (h : ∀ o ∈ xs, o.t = t) {i : Nat} (hF : isF xs i = true) : i = 0 := by
  unfold isF at hF
  split at hF
  · rename_i o ho
    rw [List.all_eq_true] at hF
    rcases Nat.eq_zero_or_pos i with e | e
    · exact e
    · have hi := (List.getElem?_eq_some_iff.mp ho).1
      have h0 : xs[0] ∈ xs.take i := List.mem_take_iff_getElem.mpr ⟨0, by omega, rfl⟩
      have := hF _ h0
      rw [h _ (List.mem_of_getElem? ho), h xs[0] (List.getElem_mem _)] at this
      simp at this
  · contradiction
theorem pairs_alone {xs : List Op} {t : Int} (h : ∀ o ∈ xs, o.t = t) : pairs xs = [] := by
  unfold pairs
  cases hp : pushes xs with
  | nil => rfl
  | cons a as =>
    cases hq : pops xs with
    | nil => simp
    | cons b bs =>
      have ha : a ∈ pushes xs := by rw [hp]; simp
      have hb : b ∈ pops xs := by rw [hq]; simp
      have e1 := isF_zero h (isF_of_push ha).1
      have e2 := isF_zero h (isF_of_pop hb).1
      subst e1
      subst e2
      exact absurd hb (push_pop 0 ha)
theorem pairs_same {xs : List Op} {p : Bool} (h : ∀ o ∈ xs, o.p = p) : pairs xs = [] := by
  unfold pairs
  cases hp : pushes xs with
  | nil => rfl
  | cons a as =>
    cases hq : pops xs with
    | nil => simp
    | cons b bs =>
      have ha := (isF_of_push (xs := xs) (i := a) (by rw [hp]; simp)).2
      have hb := (isF_of_pop (xs := xs) (i := b) (by rw [hq]; simp)).2
      cases e1 : xs[a]? with
      | none => rw [e1] at ha; simp at ha
      | some o =>
        cases e2 : xs[b]? with
        | none => rw [e2] at hb; simp at hb
        | some o' =>
          rw [e1] at ha; rw [e2] at hb
          simp at ha hb
          rw [h o (List.mem_of_getElem? e1)] at ha
          rw [h o' (List.mem_of_getElem? e2)] at hb
          rw [ha] at hb; contradiction
end Go.En
