/-
  Layer 53: as many pushes as pops, each by its own thread.
-/
import Derived.Test.YtbdnfljpgcpbaaaElL
namespace Go.En
variable {S : Sys} {I : Ids} {h : Hp} {R : Value → Hp → Prop}

def mkL : List Int → Nat → List Op
  | [], _ => []
  | v :: r, i => ⟨2 * i, true, v⟩ :: ⟨2 * i + 1, false, 0⟩ :: mkL r (i + 1)
theorem mkL_snoc (v : Int) : ∀ (vs : List Int) (i : Nat), mkL (vs ++ [v]) i = mkL vs i ++ [⟨2 * (i + vs.length : Nat), true, v⟩, ⟨2 * (i + vs.length : Nat) + 1, false, 0⟩]
  | [], i => rfl
  | x :: vs, i => by
    have := mkL_snoc v vs (i + 1)
    simp only [List.cons_append, mkL, this, List.length_cons]
    rw [show i + 1 + vs.length = i + (vs.length + 1) by omega]
theorem mkL_len : ∀ (vs : List Int) (i : Nat), (mkL vs i).length = 2 * vs.length
  | [], _ => rfl
  | _ :: vs, i => by simp only [mkL, List.length_cons, mkL_len vs (i + 1)]; omega
theorem mkL_t : ∀ (vs : List Int) (i : Nat), ∀ o ∈ mkL vs i, (2 * i : Int) ≤ o.t
  | [], _, o, h => by simp [mkL] at h
  | v :: vs, i, o, h => by
    simp only [mkL, List.mem_cons] at h
    rcases h with rfl | rfl | h
    · simp
    · simp only; omega
    · have := mkL_t vs (i + 1) o h; omega
theorem mkL_nodup : ∀ (vs : List Int) (i : Nat), ((mkL vs i).map Op.t).Nodup
  | [], _ => by simp [mkL]
  | v :: vs, i => by
    simp only [mkL, List.map_cons, List.nodup_cons, List.mem_cons, List.mem_map, not_or, not_exists, not_and]
    refine ⟨⟨by omega, fun o ho => ?_⟩, fun o ho => ?_, mkL_nodup vs (i + 1)⟩
    · have := mkL_t vs (i + 1) o ho; omega
    · have := mkL_t vs (i + 1) o ho; omega
theorem mkL_count : ∀ (vs : List Int) (i : Nat), ((mkL vs i).filter Op.p).length = ((mkL vs i).filter fun o => !o.p).length
  | [], _ => rfl
  | v :: vs, i => by
    have := mkL_count vs (i + 1)
    simp [mkL, this]

/-- operations of distinct threads, as many pushes as pops -/
structure Even (L : List Op) : Prop where
  nodup : (L.map Op.t).Nodup
  count : (L.filter Op.p).length = (L.filter fun o => !o.p).length
theorem even_rot (vs : List Int) (n : Nat) : Even ((mkL vs 0).drop n ++ (mkL vs 0).take n) := by
  have hp : ((mkL vs 0).drop n ++ (mkL vs 0).take n).Perm (mkL vs 0) := by
    have := List.perm_append_comm (l₁ := (mkL vs 0).drop n) (l₂ := (mkL vs 0).take n)
    rwa [List.take_append_drop] at this
  exact ⟨(hp.map Op.t).nodup_iff.mpr (mkL_nodup vs 0), by rw [(hp.filter _).length_eq, (hp.filter _).length_eq]; exact mkL_count vs 0⟩

theorem even_isF {L : List Op} (H : Even L) {i : Nat} (hi : i < L.length) : isF L i = true := by
  unfold isF
  rw [idx_get hi]
  simp only [List.all_eq_true]
  intro o ho
  obtain ⟨j, hj, rfl⟩ := List.mem_take_iff_getElem.mp ho
  have hji : j < i := by omega
  rw [bne_iff_ne]
  intro e
  have hn := H.nodup
  have e1 : (L.map Op.t)[j]'(by simp; omega) = (L.map Op.t)[i]'(by simpa using hi) := by simpa using e
  have := (List.getElem?_inj (i := j) (j := i) (by simp; omega) hn).mp (by rw [idx_get (by simp; omega), idx_get (by simpa using hi), e1])
  omega
theorem even_pushes {L : List Op} (H : Even L) : pushes L = (List.range L.length).filter fun i => (opAt L i).p := by
  unfold pushes
  refine List.filter_congr fun i hi => ?_
  have hi := List.mem_range.mp hi
  rw [isPush, even_isF H hi, opAt_get hi]; simp
theorem even_pops {L : List Op} (H : Even L) : pops L = (List.range L.length).filter fun i => !(opAt L i).p := by
  unfold pops
  refine List.filter_congr fun i hi => ?_
  have hi := List.mem_range.mp hi
  rw [isPop, even_isF H hi, opAt_get hi]; simp
theorem filter_at (L : List Op) (f : Op → Bool) : ((List.range L.length).filter fun i => f (opAt L i)).map (opAt L) = L.filter f := by
  have := congrArg (List.filter f) (opAt_range L)
  rw [List.filter_map] at this
  exact this
theorem even_len {L : List Op} (H : Even L) : (pushes L).length = (pops L).length := by
  rw [even_pushes H, even_pops H]
  have h1 := congrArg List.length (filter_at L Op.p)
  have h2 := congrArg List.length (filter_at L fun o => !o.p)
  rw [List.length_map] at h1 h2
  rw [h1, h2]; exact H.count
theorem even_fst {L : List Op} (H : Even L) : (pairs L).map (·.1) = pushes L := by
  rw [← fst_pairs, len_pairs, ← even_len H, Nat.min_self, List.take_length]
theorem even_snd {L : List Op} (H : Even L) : (pairs L).map (·.2) = pops L := by
  rw [← snd_pairs, len_pairs, even_len H, Nat.min_self, List.take_length]
theorem even_others {L : List Op} (H : Even L) : others L = [] := by
  unfold others
  rw [List.filter_eq_nil_iff]
  intro i hi
  have hi := List.mem_range.mp hi
  simp only [Bool.not_eq_true, Bool.not_eq_false']
  rw [← mem_flatP]
  unfold flatP
  rw [List.mem_flatMap]
  by_cases hp : (opAt L i).p = true
  · have : i ∈ pushes L := by rw [even_pushes H, List.mem_filter, List.mem_range]; exact ⟨hi, hp⟩
    rw [← even_fst H] at this
    obtain ⟨p, h1, rfl⟩ := List.mem_map.mp this
    exact ⟨p, h1, by simp⟩
  · have : i ∈ pops L := by rw [even_pops H, List.mem_filter, List.mem_range]; exact ⟨hi, by simpa using hp⟩
    rw [← even_snd H] at this
    obtain ⟨p, h1, rfl⟩ := List.mem_map.mp this
    exact ⟨p, h1, by simp⟩
theorem ansP_mem (xs : List Op) : ∀ (ps : List (Nat × Nat)) (p : Nat × Nat), p ∈ ps → (p.1, ((0 : Int), (opAt xs p.1).v)) ∈ (ps.flatMap fun p => [p.1, p.2]).zip (ansP xs ps) ∧ (p.2, ((0 : Int), (opAt xs p.1).v)) ∈ (ps.flatMap fun p => [p.1, p.2]).zip (ansP xs ps)
  | [], p, h => by simp at h
  | q :: ps, p, h => by
    simp only [ansP, List.flatMap_cons, List.cons_append, List.nil_append, List.zip_cons_cons, List.mem_cons]
    rcases List.mem_cons.mp h with rfl | h
    · exact ⟨.inl rfl, .inr (.inl rfl)⟩
    · have := ansP_mem xs ps p h
      exact ⟨.inr (.inr this.1), .inr (.inr this.2)⟩
theorem even_fast {L : List Op} (H : Even L) (st : List Int) : (fast st L).1 = st ∧ ∀ p ∈ pairs L, (fast st L).2[p.1]? = some (0, (opAt L p.1).v) ∧ (fast st L).2[p.2]? = some (0, (opAt L p.1).v) := by
  have ho := even_others H
  have hr : restOps L = [] := by simp [restOps, ho]
  have ha : appAll st (ordOps L) = (st, ansP L (pairs L)) := by rw [app_order, hr]; simp [appAll]
  have hod : order L = (pairs L).flatMap fun p => [p.1, p.2] := by simp [order, ho]
  rw [fast_order, ha]
  refine ⟨rfl, fun p hp => ?_⟩
  have hm := ansP_mem L (pairs L) p hp
  rw [← hod] at hm
  have hl : (ansP L (pairs L)).length = (order L).length := by rw [ansP_len, hod, len_flat]
  have hk : ((order L).zip (ansP L (pairs L))).map (·.1) = order L := by
    rw [← zip_fst, List.take_of_length_le (by omega)]
  have hb := mem_pairs hp
  exact ⟨setAll_in _ _ _ (by rw [hk]; exact nodup_order L) hm.1 (by simpa using hb.1), setAll_in _ _ _ (by rw [hk]; exact nodup_order L) hm.2 (by simpa using hb.2)⟩
def ansAt (st : List Int) (L : List Op) (i : Nat) : Int × Int := ((fast st L).2[i]?).getD (0, 0)
theorem even_zero {L : List Op} (H : Even L) (st : List Int) {i : Nat} (hi : i < L.length) : (ansAt st L i).1 = 0 := by
  have hm : i ∈ order L := mem_order.mpr hi
  have ho := even_others H
  have hod : order L = (pairs L).flatMap fun p => [p.1, p.2] := by simp [order, ho]
  rw [hod] at hm
  obtain ⟨p, hp, hm⟩ := List.mem_flatMap.mp hm
  have := (even_fast H st).2 p hp
  simp only [List.mem_cons, List.not_mem_nil, or_false] at hm
  unfold ansAt
  rcases hm with rfl | rfl
  · rw [this.1]; rfl
  · rw [this.2]; rfl
theorem even_popped {L : List Op} (H : Even L) (st : List Int) :
    ((List.range L.length).filter fun i => (opAt L i).p).map (fun i => (opAt L i).v) = ((List.range L.length).filter fun i => !(opAt L i).p).map fun i => (ansAt st L i).2 := by
  rw [← even_pushes H, ← even_pops H, ← even_fst H, ← even_snd H, List.map_map, List.map_map]
  refine List.map_congr_left fun p hp => ?_
  have := ((even_fast H st).2 p hp).2
  simp only [Function.comp, ansAt, this, Option.getD_some]
end Go.En
