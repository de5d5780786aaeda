/-
  The engine, part Q: the user's rules: the range over a map.
-/
import Derived.Test.YtggieecoagcmbaaEngO
namespace Go.En

/-- an iterator at the block r over the map at the block m: D are the places of the entries that were met -/
structure It {α : Type} (ik : IntKind) (E : α → Value) (h : Hp) (r m : Nat) (ps : List (Int × α)) (D : List Nat) : Prop where
  ex : ∃ (es : Array MapEntry) (clock : Nat), h[m]? = some (.map es clock) ∧ Ent ik E es.toList ps clock ∧ h[r]? = some (.mapIter (some m) clock (D.map fun i => ((es.toList[i]?).map (·.born)).getD 0).toArray clock)
  nodup : D.Nodup
  lt : ∀ i ∈ D, i < ps.length
  ne : r ≠ m

section
variable {α : Type} {ik : IntKind} {E : α → Value} {h h' : Hp} {r m : Nat} {ps : List (Int × α)} {D : List Nat}
theorem It.mp (H : It ik E h r m ps D) : Mp ik E h (.map (some m)) ps := by
  obtain ⟨es, clock, h1, h2, _⟩ := H.ex
  exact ⟨m, es, clock, rfl, h1, h2⟩
theorem It.len (H : It ik E h r m ps D) : D.length ≤ ps.length := by
  have hp : (D ++ (List.range ps.length).filter fun i => !D.contains i).Perm (List.range ps.length) := by
    refine (List.perm_ext_iff_of_nodup ?_ List.nodup_range).mpr fun i => ?_
    · rw [List.nodup_append]
      refine ⟨H.nodup, List.nodup_range.filter _, fun a ha b hb e => ?_⟩
      subst e
      rw [List.mem_filter] at hb
      have := hb.2
      simp only [Bool.not_eq_true', List.contains_eq_mem, decide_eq_false_iff_not] at this
      exact this ha
    · rw [List.mem_append, List.mem_filter, List.mem_range]
      constructor
      · rintro (h | h)
        · exact H.lt i h
        · exact h.1
      · intro hi
        by_cases hd : i ∈ D
        · exact .inl hd
        · exact .inr ⟨hi, by simpa using hd⟩
  have := hp.length_eq
  rw [List.length_append, List.length_range] at this
  omega
theorem ent_len {es : List MapEntry} {clock : Nat} (H : Ent ik E es ps clock) : es.length = ps.length := by have := congrArg List.length H.dat; simpa using this
theorem ent_at {es : List MapEntry} {clock : Nat} (H : Ent ik E es ps clock) {i : Nat} {e : MapEntry} (h : es[i]? = some e) : ∃ p, ps[i]? = some p ∧ e.key = .int ik p.1 ∧ e.val = E p.2 := by
  have hd := congrArg (fun l => l[i]?) H.dat
  simp only [List.getElem?_map, h, Option.map_some] at hd
  cases hp : ps[i]? with
  | none => rw [hp] at hd; simp at hd
  | some p =>
    rw [hp] at hd
    simp only [Option.map_some, Option.some.injEq, Prod.mk.injEq] at hd
    exact ⟨p, rfl, hd.1, hd.2⟩
theorem born_inj {es : List MapEntry} {clock : Nat} (H : Ent ik E es ps clock) {i j : Nat} {e e' : MapEntry} (h : es[i]? = some e) (h' : es[j]? = some e') (hb : e.born = e'.born) : i = j := by
  have hi := (List.getElem?_eq_some_iff.mp h).1
  refine (List.getElem?_inj (l := es.map (·.born)) (by simpa using hi) H.nodup).mp ?_
  rw [List.getElem?_map, List.getElem?_map, h, h']
  simp [hb]
theorem find_born {es : List MapEntry} {i : Nat} {e : MapEntry} (hn : (es.map (·.born)).Nodup) (h : es[i]? = some e) : es.find? (·.born == e.born) = some e := by
  induction es generalizing i with
  | nil => simp at h
  | cons x es ih =>
    rw [List.map_cons, List.nodup_cons] at hn
    cases i with
    | zero =>
      simp only [List.getElem?_cons_zero, Option.some.injEq] at h
      subst h
      rw [List.find?_cons_of_pos (by simp)]
    | succ i =>
      have h : es[i]? = some e := by simpa using h
      have : x.born ≠ e.born := fun eq => hn.1 (by rw [eq]; exact List.mem_map.mpr ⟨e, List.mem_of_getElem? h, rfl⟩)
      rw [List.find?_cons_of_neg (by simpa using this)]
      exact ih hn.2 h

theorem Mp.range {v : Value} (H : Mp ik E h v ps) {k : Value → Hp → Prop} (hk : ∀ m h', v = .map (some m) → It ik E h' h.size m ps [] → Gr h h' → h'.size = h.size + 1 → k (at0 h.size) h') : Eb (rng v h) k := by
  obtain ⟨m, es, clock, rfl, hh, he⟩ := H
  have hlt := (Array.getElem?_eq_some_iff.mp hh).1
  refine eb (by simp only [rng, mkey, hh]; rfl) (hk m _ rfl ⟨⟨es, clock, ?_, he, ?_⟩, List.nodup_nil, fun i hi => by simp at hi, by omega⟩ (Ch.push _ _) (by simp))
  · rw [Array.getElem?_push, if_neg (by omega)]; exact hh
  · simp

theorem It.next (H : It ik E h r m ps D) {k : Value → Hp → Prop} (h0 : (∀ i, i < ps.length → i ∈ D) → k (.tuple #[.bool false]) h)
    (h1 : ∀ i p h', ps[i]? = some p → i ∉ D → It ik E h' r m ps (D ++ [i]) → Ch (fun q => q = r) h h' → ent (at0 r) h' = some (.tuple #[.int ik p.1, E p.2]) → k (.tuple #[.bool true, .int ik p.1, E p.2]) h') : Nx (at0 r) h k := by
  obtain ⟨es, clock, hm, he, hr⟩ := H.ex
  refine ⟨r, rfl, .inr ⟨m, clock, _, clock, es, clock, hr, hm, ?_, fun hall => h0 fun i hi => ?_, fun e hem hns => ?_⟩⟩
  · cases hes : es.isEmpty with
    | true => simp
    | false =>
      have hsz : 0 < es.size := by
        rcases Nat.eq_zero_or_pos es.size with h | h
        · have : es = #[] := Array.eq_empty_of_size_eq_zero h
          subst this
          simp at hes
        · exact h
      have : es.all (fun e => decide (e.born ≥ clock)) = false := by
        rw [Array.all_eq_false]
        exact ⟨0, hsz, by have := he.born es[0] (by simp); simpa using this⟩
      rw [this, Bool.and_false]
  · have hlen := ent_len he
    have hi' : i < es.toList.length := by omega
    have hget : es.toList[i]? = some es.toList[i] := List.getElem?_eq_getElem hi'
    have hmem : es.toList[i] ∈ es := by simp
    have := hall _ hmem (he.born _ (List.getElem_mem hi'))
    rw [Array.contains_iff_mem, List.mem_toArray, List.mem_map] at this
    obtain ⟨j, hj, e⟩ := this
    have hjl := H.lt j hj
    have hget2 : es.toList[j]? = some (es.toList[j]'(by omega)) := List.getElem?_eq_getElem _
    rw [hget2] at e
    simp only [Option.map_some, Option.getD_some] at e
    have := born_inj he hget2 hget e
    subst this
    exact hj
  · obtain ⟨i, hi, rfl⟩ := List.mem_iff_getElem.mp (Array.mem_toList_iff.mpr hem)
    have hget : es.toList[i]? = some es.toList[i] := List.getElem?_eq_getElem hi
    obtain ⟨p, hp, hk, hv⟩ := ent_at he hget
    have hnot : i ∉ D := by
      intro hc
      have : (D.map fun i => ((es.toList[i]?).map (·.born)).getD 0).toArray.contains es.toList[i].born = true := by
        rw [Array.contains_iff_mem, List.mem_toArray, List.mem_map]
        exact ⟨i, hc, by rw [hget]; rfl⟩
      rw [this] at hns
      contradiction
    have hlr := (Array.getElem?_eq_some_iff.mp hr).1
    rw [hk, hv]
    have hr' : (h.setIfInBounds r (Obj.mapIter (some m) clock ((D.map fun i => ((es.toList[i]?).map (·.born)).getD 0).toArray.push es.toList[i].born) clock))[r]? = some (.mapIter (some m) clock ((D.map fun i => ((es.toList[i]?).map (·.born)).getD 0).toArray.push es.toList[i].born) clock) := by
      rw [Array.getElem?_setIfInBounds, if_pos rfl, if_pos hlr]
    have hm' : (h.setIfInBounds r (Obj.mapIter (some m) clock ((D.map fun i => ((es.toList[i]?).map (·.born)).getD 0).toArray.push es.toList[i].born) clock))[m]? = some (.map es clock) := by
      rw [Array.getElem?_setIfInBounds, if_neg H.ne]; exact hm
    refine h1 i p _ hp hnot ⟨⟨es, clock, hm', he, ?_⟩, ?_, fun j hj => ?_, H.ne⟩ ⟨by simp, fun q _ hq => by rw [Array.getElem?_setIfInBounds, if_neg (fun e => hq e.symm)]⟩ ?_
    · rw [hr', List.map_append, List.map_cons, List.map_nil, hget]
      congr 2
      apply Array.ext'
      simp
    · rw [List.nodup_append]
      exact ⟨H.nodup, by simp, fun a ha b hb e => hnot (by simp only [List.mem_singleton] at hb; rw [← hb, ← e]; exact ha)⟩
    · rcases List.mem_append.mp hj with hj | hj
      · exact H.lt j hj
      · simp only [List.mem_singleton] at hj
        subst hj
        exact (List.getElem?_eq_some_iff.mp hp).1
    · unfold ent at0
      simp only [hr', hm', Array.back?_push]
      have hck : Nat.beq clock clock = true := Nat.beq_refl clock
      have hf : es.find? (·.born == es.toList[i].born) = some es.toList[i] := by
        have := find_born he.nodup hget
        rw [← Array.find?_toList]; exact this
      simp only [hck, hf, hk, hv]
end
end Go.En
