/-
  The engine, part C: maps, make, append, copy, the range over a map.
-/
import Derived.Test.YtggieecoagcmbaaEngB
namespace Go.En
section
variable {P : Program} {w : World}

theorem mpk_ok {t : TypeId} {kd : TypeDesc} {z : Value} (h : mpk P t = .ok kd z) : ∃ k e ik i, P.underlying t = some (.map k e) ∧ P.underlying k = some (.int ik) ∧ kd = .int ik ∧ P.info? e = some i ∧ i.zero = some z := by
  unfold mpk at h
  split at h <;> try contradiction
  rename_i k e hu
  split at h <;> try contradiction
  rename_i ik i hk hi
  split at h <;> try contradiction
  rename_i zz hz
  simp only [MK.ok.injEq] at h
  obtain ⟨rfl, rfl⟩ := h
  exact ⟨k, e, ik, i, hu, hk, rfl, hi, hz⟩

theorem run_checkKey (e : Bool) (n : Nat) {k : TypeId} {ik : IntKind} (hk : P.underlying k = some (.int ik)) (v : Value) : (Instr.checkKey e (n + 1) k v).run P w = .ok () w := by
  unfold Instr.checkKey
  simp only [Sem.run_bind, run_underlying hk, Result.andThen_ok]
  cases v <;> rfl

theorem run_findKey {k : TypeId} {kd : TypeDesc} (hk : P.underlying k = some kd) {key : Value} {es : List MapEntry} {r : Option (Nat × Value)} (h : Instr.findNow kd key es 0 = some r) :
    (Instr.findKey k key es).run P w = .ok r w := by
  unfold Instr.findKey
  simp only [Sem.run_bind, run_underlying hk, Result.andThen_ok, h, Sem.run_pure]

theorem mkey_none {m : Value} {h : Hp} (e : mkey m h = some none) : m = .map none := by
  unfold mkey at e
  split at e
  · rfl
  · split at e <;> simp at e
  · simp at e
theorem mkey_some {m : Value} {h : Hp} {r : Nat} {es : Array MapEntry} {c : Nat} (e : mkey m h = some (some (r, es, c))) : m = .map (some r) ∧ h[r]? = some (.map es c) := by
  unfold mkey at e
  split at e
  · simp at e
  · rename_i r'
    split at e
    · rename_i es' c' hh
      simp only [Option.some.injEq, Prod.mk.injEq] at e
      obtain ⟨rfl, rfl, rfl⟩ := e
      exact ⟨rfl, hh⟩
    · simp at e
  · simp at e

theorem run_getMap {r : Nat} {es : Array MapEntry} {c : Nat} (hh : w.heap[r]? = some (.map es c)) : (getObj r).run P w = .ok (.map es c) w := by
  simp only [getObj, Sem.run, hh]
theorem run_setMap {r : Nat} {es : Array MapEntry} {c : Nat} (o : Obj) (hh : w.heap[r]? = some (.map es c)) : (setObj r o).run P w = .ok () { w with heap := w.heap.setIfInBounds r o } := by
  simp only [setObj, Sem.run, hh]

theorem run_lookup {t : TypeId} {ok : Bool} {m key v : Value} (h : lkT (mpk P t) ok m key w.heap = some v) : (Instr.lookup t m key ok).run P w = .ok v w := by
  cases hk : mpk P t with
  | bad => rw [hk] at h; simp [lkT] at h
  | ok kd z =>
    rw [hk] at h
    simp only [lkT] at h
    obtain ⟨k, e, ik, i, hu, hkk, rfl, hi, hz⟩ := mpk_ok hk
    unfold lkm at h
    simp only [Option.bind_eq_some_iff, Option.some.injEq] at h
    obtain ⟨r, hr, f, hf, hv⟩ := h
    have hc := fun (b : Bool) => run_checkKey (P := P) (w := w) b 9999 hkk key
    cases r with
    | none =>
      have := mkey_none hr
      subst this
      simp only [Option.map_none, Option.getD_none, Instr.findNow, Option.some.injEq] at hf
      subst hf
      unfold Instr.lookup
      have hfk := run_findKey (P := P) (w := w) hkk (key := key) (es := []) (r := none) rfl
      simp only [Sem.run_bind, run_underlying hu, Result.andThen_ok, Sem.run_pure, hc, hfk, run_zero hi hz]
      subst hv
      cases ok <;> rfl
    | some x =>
      obtain ⟨r, es, c⟩ := x
      obtain ⟨rfl, hh⟩ := mkey_some hr
      simp only [Option.map_some, Option.getD_some] at hf
      have hfk := run_findKey (P := P) (w := w) hkk hf
      unfold Instr.lookup
      simp only [Sem.run_bind, run_underlying hu, Result.andThen_ok, Sem.run_pure, run_getMap hh, hc, hfk]
      subst hv
      cases f with
      | none => simp only [Sem.run_bind, run_zero hi hz, Result.andThen_ok, Sem.run_pure]; cases ok <;> rfl
      | some y => simp only [Sem.run_pure, Result.andThen_ok]; cases ok <;> rfl

/-- what is found has the key that was asked for -/
theorem findNow_key {ik : IntKind} {key : Value} : ∀ (es : List MapEntry) (i j : Nat) (v : Value), Instr.findNow (.int ik) key es i = some (some (j, v)) →
    i ≤ j ∧ ∃ e, es[j - i]? = some e ∧ e.val = v ∧ (∃ k a, key = .int k a ∧ e.key = .int k a)
  | [], i, j, v, h => by simp [Instr.findNow] at h
  | e :: es, i, j, v, h => by
    unfold Instr.findNow at h
    split at h
    · rename_i hs
      simp only [Option.some.injEq, Prod.mk.injEq] at h
      obtain ⟨rfl, rfl⟩ := h
      refine ⟨Nat.le_refl _, e, by simp, rfl, ?_⟩
      unfold Instr.sameNow at hs
      split at hs <;> try contradiction
      · rename_i hke
        split at hs <;> try contradiction
        rename_i hkk
        simp only [Option.some.injEq, beq_iff_eq] at hs
        exact ⟨_, _, rfl, by rw [hke, hkk, hs]⟩
    · obtain ⟨h1, e', h2, h3, h4⟩ := findNow_key es (i + 1) j v h
      refine ⟨by omega, e', ?_, h3, h4⟩
      have : j - i = (j - (i + 1)) + 1 := by omega
      rw [this, List.getElem?_cons_succ]
      exact h2
    · contradiction

theorem sameBits_int (n : Nat) (k : IntKind) (a : Int) : Instr.sameBits n (.int k a) (.int k a) = true := by
  cases n <;> simp [Instr.sameBits]

theorem run_keyStays {ik : IntKind} {key : Value} {es : Array MapEntry} {j : Nat} {v : Value} (h : Instr.findNow (.int ik) key es.toList 0 = some (some (j, v))) :
    (Instr.keyThatStays (((es[j]?).map (·.key)).getD key) key).run P w = .ok key w := by
  obtain ⟨_, e, h2, _, k, a, rfl, hk⟩ := findNow_key _ _ _ _ h
  have h2' : es[j]? = some e := by simpa using h2
  unfold Instr.keyThatStays
  rw [h2']
  simp only [Option.map_some, Option.getD_some, hk]
  rw [if_pos (sameBits_int _ _ _)]
  rfl

theorem run_mapUpdate {t : TypeId} {kd : TypeDesc} {z m key v : Value} {h' : Hp} (hk : mpk P t = .ok kd z) (h : mup kd m key v w.heap = some h') :
    ∃ w', (Instr.mapUpdate t m key v).run P w = .ok () w' ∧ w'.heap = h' ∧ Rst w w' := by
  obtain ⟨k, e, ik, i, hu, hkk, rfl, hi, hz⟩ := mpk_ok hk
  have hc := fun (b : Bool) => run_checkKey (P := P) (w := w) b 9999 hkk key
  unfold mup at h
  split at h <;> try contradiction
  rename_i r es c hm
  obtain ⟨rfl, hh⟩ := mkey_some hm
  unfold Instr.mapUpdate
  simp only [Sem.run_bind, run_underlying hu, Result.andThen_ok, run_getMap hh, hc]
  split at h <;> try contradiction
  · rename_i j u hf
    simp only [Option.some.injEq] at h
    subst h
    refine ⟨{ w with heap := w.heap.setIfInBounds r _ }, ?_, rfl, ⟨rfl, rfl, rfl⟩⟩
    simp only [run_findKey hkk hf, Result.andThen_ok, Sem.run_bind, run_keyStays hf, run_setMap _ hh]
  · rename_i hf
    simp only [Option.some.injEq] at h
    subst h
    refine ⟨{ w with heap := w.heap.setIfInBounds r _ }, ?_, rfl, ⟨rfl, rfl, rfl⟩⟩
    simp only [run_findKey hkk hf, Result.andThen_ok, run_setMap _ hh]

theorem run_mapEntry {t : TypeId} {kd : TypeDesc} {z m key v : Value} {h' : Hp} (hk : mpk P t = .ok kd z) (h : men kd z m key w.heap = some (v, h')) :
    ∃ w', (Instr.mapEntry t m key).run P w = .ok v w' ∧ w'.heap = h' ∧ Rst w w' := by
  obtain ⟨k, e, ik, i, hu, hkk, rfl, hi, hz⟩ := mpk_ok hk
  have hc := fun (b : Bool) => run_checkKey (P := P) (w := w) b 9999 hkk key
  unfold men at h
  split at h <;> try contradiction
  rename_i r es c hm
  obtain ⟨rfl, hh⟩ := mkey_some hm
  unfold Instr.mapEntry
  simp only [Sem.run_bind, run_underlying hu, Result.andThen_ok, run_getMap hh, hc]
  split at h <;> try contradiction
  · rename_i j u hf
    simp only [Option.some.injEq, Prod.mk.injEq] at h
    obtain ⟨rfl, rfl⟩ := h
    refine ⟨{ w with heap := w.heap.setIfInBounds r _ }, ?_, rfl, ⟨rfl, rfl, rfl⟩⟩
    simp only [run_findKey hkk hf, Result.andThen_ok, Sem.run_bind, run_keyStays hf, run_setMap _ hh, Sem.run_pure]
  · rename_i hf
    simp only [Option.some.injEq, Prod.mk.injEq] at h
    obtain ⟨rfl, rfl⟩ := h
    refine ⟨{ w with heap := w.heap.setIfInBounds r _ }, ?_, rfl, ⟨rfl, rfl, rfl⟩⟩
    simp only [run_findKey hkk hf, Result.andThen_ok, Sem.run_bind, run_zero hi hz, run_setMap _ hh, Sem.run_pure]

theorem run_entryStore {t : TypeId} {m s v : Value} {h' : Hp} (h : mst m s v w.heap = some h') :
    ∃ w', (Instr.entryStore t m s v).run P w = .ok () w' ∧ w'.heap = h' ∧ Rst w w' := by
  unfold mst at h
  split at h <;> try contradiction
  rename_i r es c k born hm
  obtain ⟨rfl, hh⟩ := mkey_some hm
  split at h <;> try contradiction
  rename_i i hf
  simp only [Option.some.injEq] at h
  subst h
  refine ⟨{ w with heap := w.heap.setIfInBounds r _ }, ?_, rfl, ⟨rfl, rfl, rfl⟩⟩
  simp only [Instr.entryStore, Sem.run_bind, run_getMap hh, Result.andThen_ok, asInt, asIntOf, Sem.run_pure, hf, run_setMap _ hh]

theorem run_delete {t ty : TypeId} {ts : Array TypeId} {kd : TypeDesc} {z m key v : Value} {h' : Hp} (ht : ts[0]? = some t) (hk : mpk P t = .ok kd z) (h : mdl kd m key w.heap = some (v, h')) :
    ∃ w', (Builtin.delete_ ts ty #[m, key]).run P w = .ok v w' ∧ w'.heap = h' ∧ Rst w w' := by
  obtain ⟨k, e, ik, i, hu, hkk, rfl, hi, hz⟩ := mpk_ok hk
  have hc := fun (b : Bool) => run_checkKey (P := P) (w := w) b 9999 hkk key
  unfold mdl at h
  unfold Builtin.delete_
  have e0 : (#[m, key] : Array Value)[0]? = some m := rfl
  have e1 : (#[m, key] : Array Value)[1]? = some key := rfl
  rw [ht, e0, e1]
  split at h <;> try contradiction
  · rename_i hm
    have := mkey_none hm
    subst this
    simp only [Option.some.injEq, Prod.mk.injEq] at h
    obtain ⟨rfl, rfl⟩ := h
    exact ⟨w, by simp only [Sem.run_bind, run_underlying hu, Result.andThen_ok, hc, Sem.run_pure], rfl, .refl w⟩
  · rename_i r es c hm
    obtain ⟨rfl, hh⟩ := mkey_some hm
    split at h <;> try contradiction
    · rename_i j u hf
      simp only [Option.some.injEq, Prod.mk.injEq] at h
      obtain ⟨rfl, rfl⟩ := h
      refine ⟨{ w with heap := w.heap.setIfInBounds r _ }, ?_, rfl, ⟨rfl, rfl, rfl⟩⟩
      simp only [Sem.run_bind, run_underlying hu, Result.andThen_ok, hc, run_getMap hh, run_findKey hkk hf, run_setMap _ hh, Sem.run_pure]
    · rename_i hf
      simp only [Option.some.injEq, Prod.mk.injEq] at h
      obtain ⟨rfl, rfl⟩ := h
      refine ⟨{ w with heap := w.heap.setIfInBounds r _ }, ?_, rfl, ⟨rfl, rfl, rfl⟩⟩
      simp only [Sem.run_bind, run_underlying hu, Result.andThen_ok, hc, run_getMap hh, run_findKey hkk hf, run_setMap _ hh, Sem.run_pure]

theorem run_makeMap {t : TypeId} {v : Value} {h' : Hp} (h : mmk w.heap = some (v, h')) : ∃ w', (Instr.makeMap t none).run P w = .ok v w' ∧ w'.heap = h' ∧ Rst w w' := by
  simp only [mmk, Option.some.injEq, Prod.mk.injEq] at h
  obtain ⟨rfl, rfl⟩ := h
  exact ⟨{ w with heap := w.heap.push (.map #[] 0) }, rfl, rfl, ⟨rfl, rfl, rfl⟩⟩

theorem run_range {t k e : TypeId} {m v : Value} {h' : Hp} (hu : P.underlying t = some (.map k e)) (h : rng m w.heap = some (v, h')) : ∃ w', (Instr.range t m).run P w = .ok v w' ∧ w'.heap = h' ∧ Rst w w' := by
  unfold rng at h
  split at h <;> try contradiction
  · rename_i hm
    have := mkey_none hm
    subst this
    simp only [Option.some.injEq, Prod.mk.injEq] at h
    obtain ⟨rfl, rfl⟩ := h
    exact ⟨{ w with heap := w.heap.push (.mapIter none 0 #[] 0) }, by simp only [Instr.range, Sem.run_bind, run_underlying hu, Result.andThen_ok, Sem.run_pure, run_newObj], rfl, ⟨rfl, rfl, rfl⟩⟩
  · rename_i r es c hm
    obtain ⟨rfl, hh⟩ := mkey_some hm
    simp only [Option.some.injEq, Prod.mk.injEq] at h
    obtain ⟨rfl, rfl⟩ := h
    exact ⟨{ w with heap := w.heap.push (.mapIter (some r) c #[] c) }, by simp only [Instr.range, Sem.run_bind, run_underlying hu, Result.andThen_ok, Sem.run_pure, run_newObj, run_getMap hh], rfl, ⟨rfl, rfl, rfl⟩⟩

/-- One step of a range over a map: whatever the tape picks. -/
def Nx (it : Value) (h : Hp) (k : Value → Hp → Prop) : Prop :=
  ∃ r, it = .pointer (some ⟨r, 0, none⟩) ∧
    ((∃ s q l, h[r]? = some (.mapIter none s q l) ∧ k (.tuple #[.bool false]) h) ∨
     (∃ m since seen last es clock, h[r]? = some (.mapIter (some m) since seen last) ∧ h[m]? = some (.map es clock) ∧
       (!seen.isEmpty && !es.isEmpty && es.all (·.born ≥ last)) = false ∧
       ((∀ e ∈ es, e.born < since → seen.contains e.born = true) → k (.tuple #[.bool false]) h) ∧
       (∀ e ∈ es, seen.contains e.born = false → k (.tuple #[.bool true, e.key, e.val]) (h.setIfInBounds r (.mapIter (some m) since (seen.push e.born) clock)))))

theorem mapNext_lt (n t : Nat) (h : 0 < n) : (if Question.forced (.mapNext n) then 0 else Question.cut (.mapNext n) t) < n := by
  split
  · exact h
  · simp only [Question.cut]; exact Nat.mod_lt _ h

theorem run_next {it : Value} {ty : TypeId} {k : Value → Hp → Prop} (h : Nx it w.heap k) : ∃ v w', (Instr.next it false ty).run P w = .ok v w' ∧ Rst w w' ∧ k v w'.heap := by
  obtain ⟨r, rfl, h⟩ := h
  rcases h with ⟨s, q, l, hh, hk⟩ | ⟨m, since, seen, last, es, clock, hh, hm, hg, hover, hmore⟩
  · have hg : (getObj r).run P w = .ok (.mapIter none s q l) w := by simp only [getObj, Sem.run, hh]
    exact ⟨_, w, by simp only [Instr.next, Sem.run_bind, hg, Result.andThen_ok, Sem.run_pure], .refl w, hk⟩
  · have hgo : (getObj r).run P w = .ok (.mapIter (some m) since seen last) w := by simp only [getObj, Sem.run, hh]
    have hset : ∀ (w' : World) (o : Obj), w'.heap = w.heap → (setObj r o).run P w' = .ok () { w' with heap := w'.heap.setIfInBounds r o } := by
      intro w' o e
      simp only [setObj, Sem.run, e, hh]
    unfold Instr.next
    simp only [Sem.run_bind, hgo, Result.andThen_ok, run_getMap hm, hg, Bool.false_eq_true, if_false, Sem.run_pure]
    generalize hC : ((if (((es.filter fun e => !seen.contains e.born).filter (·.born < since))).isEmpty then #[none] else #[]) ++
      (((es.filter fun e => !seen.contains e.born).filter (·.born < since)) ++ ((es.filter fun e => !seen.contains e.born).filter (·.born ≥ since))).map some : Array (Option MapEntry)) = C
    have hpos : 0 < C.size := by
      rw [← hC]
      simp only [Array.size_append, Array.size_map]
      by_cases hE : ((es.filter fun e => !seen.contains e.born).filter (·.born < since)).isEmpty = true
      · rw [if_pos hE]; simp
        omega
      · rw [if_neg hE]
        have : 0 < ((es.filter fun e => !seen.contains e.born).filter (·.born < since)).size := by
          rcases Nat.eq_zero_or_pos ((es.filter fun e => !seen.contains e.born).filter (·.born < since)).size with h0 | h0
          · exact absurd (by rw [Array.isEmpty, h0]; rfl) hE
          · exact h0
        omega
    -- every candidate is fine
    have hall : ∀ j (hj : j < C.size) (w' : World), w'.heap = w.heap → Rst w w' → ∃ v w'', (match C[j]? with
        | some (some e) => do
          setObj r (.mapIter (some m) since (seen.push e.born) clock)
          pure (.tuple #[.bool true, e.key, e.val])
        | some none => pure (.tuple #[.bool false])
        | none => stuck "Next: no such candidate" : Sem Value).run P w' = .ok v w'' ∧ Rst w w'' ∧ k v w''.heap := by
      intro j hj w' hw' hs
      have hmem : C[j] ∈ C := Array.getElem_mem hj
      rw [Array.getElem?_eq_getElem hj]
      cases hc : C[j] with
      | none =>
        rw [hc, ← hC] at hmem
        have hE : ((es.filter fun e => !seen.contains e.born).filter (·.born < since)).isEmpty = true := by
          rcases Array.mem_append.1 hmem with h1 | h1
          · split at h1
            · assumption
            · simp at h1
          · simp at h1
        refine ⟨_, w', rfl, hs, ?_⟩
        rw [hw']
        refine hover fun e he hb => ?_
        cases hsc : seen.contains e.born with
        | true => rfl
        | false =>
          have hin : e ∈ ((es.filter fun e => !seen.contains e.born).filter (·.born < since)) := by
            simp only [Array.mem_filter, decide_eq_true_eq]
            exact ⟨⟨he, by simp only [hsc, Bool.not_false]⟩, hb⟩
          have hz : ((es.filter fun e => !seen.contains e.born).filter (·.born < since)) = #[] := by simpa using hE
          rw [hz] at hin
          simp at hin
      | some e =>
        rw [hc, ← hC] at hmem
        have hin : e ∈ es ∧ seen.contains e.born = false := by
          rcases Array.mem_append.1 hmem with h1 | h1
          · split at h1 <;> simp at h1
          · simp only [Array.mem_map, Option.some.injEq] at h1
            obtain ⟨e', he', rfl⟩ := h1
            rcases Array.mem_append.1 he' with h2 | h2
            · simp only [Array.mem_filter] at h2
              exact ⟨h2.1.1, by simpa using h2.1.2⟩
            · simp only [Array.mem_filter] at h2
              exact ⟨h2.1.1, by simpa using h2.1.2⟩
        refine ⟨.tuple #[.bool true, e.key, e.val], { w' with heap := w'.heap.setIfInBounds r (.mapIter (some m) since (seen.push e.born) clock) }, ?_, ⟨hs.os, hs.tape, hs.output⟩, ?_⟩
        · simp only [Sem.run_bind, hset w' _ hw', Result.andThen_ok, Sem.run_pure]
        · have := hmore e hin.1 hin.2
          rw [← hw'] at this
          exact this
    simp only [run_choose]
    have hlt := mapNext_lt C.size (w.tape w.drawn (.mapNext C.size)) hpos
    split
    · rename_i hf
      rw [if_pos hf] at hlt
      exact hall 0 hlt w rfl (.refl w)
    · rename_i hf
      rw [if_neg hf] at hlt
      exact hall _ hlt { w with drawn := w.drawn + 1 } rfl ⟨rfl, rfl, rfl⟩

theorem run_len {t ty : TypeId} {ts : Array TypeId} {x v : Value} (ht : ts[0]? = some t) (h : lnT (lnk P t) x w.heap = some v) : (Builtin.len_ ts ty #[x]).run P w = .ok v w := by
  unfold Builtin.len_
  have e0 : (#[x] : Array Value)[0]? = some x := rfl
  rw [ht, e0]
  unfold lnk at h
  split at h <;> simp only [lnT] at h <;> try contradiction
  · rename_i e hu
    unfold lnS at h
    split at h <;> try contradiction
    simp only [Option.some.injEq] at h
    subst h
    simp only [Sem.run_bind, run_underlying hu, Result.andThen_ok, Sem.run_pure, goInt]
  · rename_i e e' hu
    unfold lnM at h
    split at h <;> try contradiction
    · simp only [Option.some.injEq] at h
      subst h
      simp only [Sem.run_bind, run_underlying hu, Result.andThen_ok, Sem.run_pure, goInt]
    · split at h <;> try contradiction
      rename_i r es c hh
      simp only [Option.some.injEq] at h
      subst h
      simp only [Sem.run_bind, run_underlying hu, Result.andThen_ok, Sem.run_pure, goInt, run_getMap hh]

theorem run_min2 {x y v : Value} (h : mn x y = some v) : (Builtin.min2 x y).run P w = .ok v w := by
  unfold mn at h
  split at h <;> try contradiction
  simp only [Option.some.injEq] at h
  subst h
  rfl
theorem run_max2 {x y v : Value} (h : mx x y = some v) : (Builtin.max2 x y).run P w = .ok v w := by
  unfold mx at h
  split at h <;> try contradiction
  simp only [Option.some.injEq] at h
  subst h
  rfl

theorem run_makeSlice {t e : TypeId} {z : Array Value} {s b : Nat} {l c v : Value} {h' : Hp} (hk : elk P t = .ok e z s b) (h : msl z s b e l c w.heap = some (v, h')) :
    ∃ w', (Instr.makeSlice t l c).run P w = .ok v w' ∧ w'.heap = h' ∧ Rst w w' := by
  obtain ⟨hu, i, zv, hi, hz, rfl, rfl, rfl, hzs, hpos⟩ := elk_ok hk
  unfold msl at h
  split at h <;> try contradiction
  rename_i l c
  split at h <;> try contradiction
  rename_i hc
  obtain ⟨h1, h2, h3, h4⟩ := hc
  simp only [Option.some.injEq, Prod.mk.injEq] at h
  obtain ⟨rfl, rfl⟩ := h
  have wl : IntKind.i64.wrap l = l := by simp only [IntKind.wrap, IntKind.signed, IntKind.bits]; simp; omega
  have wc : IntKind.i64.wrap c = c := by simp only [IntKind.wrap, IntKind.signed, IntKind.bits]; simp; omega
  refine ⟨{ w with heap := w.heap.push (.cells ((Array.range (c.toNat * i.size)).map (zv.cells[· % zv.cells.size]!)) e) }, ?_, rfl, ⟨rfl, rfl, rfl⟩⟩
  have hb : ¬ ((i.bytes : Int) * c > 2 ^ 48) := by rw [Int.mul_comm]; simpa using h4
  have hno : ((decide (c < 0) || decide ((i.bytes : Int) * c > 2 ^ 48)) || decide (l < 0) || decide (l > c)) = false := by
    simp only [Bool.or_eq_false_iff, decide_eq_false_iff_not]
    exact ⟨⟨⟨by omega, hb⟩, by omega⟩, by omega⟩
  have hbi : (typeInfo e).run P w = .ok i w := by simp [typeInfo, hi]
  unfold Instr.makeSlice
  simp only [Sem.run_bind, run_underlying hu, Result.andThen_ok, asInt, asIntOf, Sem.run_pure, hbi, wl, wc, hno, Bool.false_eq_true, if_false, run_askRoom, run_sizeOf hi]
  by_cases h0 : c.toNat * i.size = 0
  · have er : ∀ f g : Nat → Value, (Array.range 0).map f = (Array.range 0).map g := fun f g => by
      apply Array.ext <;> simp
    simp only [h0, if_true, Sem.run_pure, Result.andThen_ok, newRow, Sem.run_bind, run_newObj]
    exact congrArg (fun c => Result.ok _ (w.alloc (.cells c e))) (er _ _)
  · simp only [h0, if_false, Sem.run_bind, run_zero hi hz, Result.andThen_ok, Sem.run_pure, newRow, run_newObj]

theorem run_rowOf {x : Value} {s n : Nat} {l : List Value} (h : rowOf x (n * s) w.heap = some l) : (Builtin.firstCells s n x).run P w = .ok l.toArray w := by
  unfold rowOf at h
  split at h <;> try contradiction
  · exact run_loadCells h
  · simp only [Option.some.injEq] at h; subst h; rfl

theorem run_copy {td ts ty : TypeId} {e : TypeId} {z : Array Value} {s b : Nat} {d x v : Value} {h' : Hp} (hk : elk P td = .ok e z s b) (h : cpy s d x w.heap = some (v, h')) :
    ∃ w', (Builtin.copy_ #[td, ts] ty #[d, x]).run P w = .ok v w' ∧ w'.heap = h' ∧ Rst w w' := by
  obtain ⟨hu, i, zv, hi, hz, rfl, rfl, rfl, hzs, hpos⟩ := elk_ok hk
  unfold cpy at h
  split at h <;> try contradiction
  rename_i base dLen dc sb sLen sc
  simp only [Option.bind_eq_some_iff] at h
  obtain ⟨cells, hc, h⟩ := h
  have hr := run_rowOf (P := P) hc
  unfold Builtin.copy_
  have e0 : (#[td, ts] : Array TypeId)[0]? = some td := rfl
  have e1 : (#[Value.slice base dLen dc, Value.slice sb sLen sc] : Array Value)[0]? = some (.slice base dLen dc) := rfl
  have e2 : (#[Value.slice base dLen dc, Value.slice sb sLen sc] : Array Value)[1]? = some (.slice sb sLen sc) := rfl
  rw [e0, e1, e2]
  simp only [Sem.run_bind, run_underlying hu, Result.andThen_ok, Builtin.lenOf, Sem.run_pure, run_sizeOf hi, hr]
  cases base with
  | none =>
    simp only [Option.some.injEq, Prod.mk.injEq] at h
    obtain ⟨rfl, rfl⟩ := h
    exact ⟨w, rfl, rfl, .refl w⟩
  | some a =>
    simp only [Option.bind_eq_some_iff, Option.some.injEq, Prod.mk.injEq] at h
    obtain ⟨h1, hs, rfl, rfl⟩ := h
    obtain ⟨w', hr', hh, hs', _⟩ := run_stores (P := P) (a := a) cells 0 w h1 hs
    refine ⟨w', ?_, hh, hs'⟩
    simp only [Sem.run_bind, hr', Result.andThen_ok, goInt, Sem.run_pure]

theorem run_clear {t ty : TypeId} {e : TypeId} {z : Array Value} {s b : Nat} {x v : Value} {h' : Hp} (hk : elk P t = .ok e z s b) (h : clrS z x w.heap = some (v, h')) :
    ∃ w', (Builtin.clear_ #[t] ty #[x]).run P w = .ok v w' ∧ w'.heap = h' ∧ Rst w w' := by
  obtain ⟨hu, i, zv, hi, hz, rfl, rfl, rfl, hzs, hpos⟩ := elk_ok hk
  unfold clrS at h
  unfold Builtin.clear_
  have e0 : (#[t] : Array TypeId)[0]? = some t := rfl
  have e1 : (#[x] : Array Value)[0]? = some x := rfl
  rw [e0, e1]
  split at h
  · simp only [Option.some.injEq, Prod.mk.injEq] at h
    obtain ⟨rfl, rfl⟩ := h
    refine ⟨w, ?_, rfl, .refl w⟩
    simp [Sem.run_bind, run_underlying hu]
  · split at h
    · simp only [Option.some.injEq, Prod.mk.injEq] at h
      obtain ⟨rfl, rfl⟩ := h
      refine ⟨w, ?_, rfl, .refl w⟩
      simp [Sem.run_bind, run_underlying hu]
    · simp only [Option.bind_eq_some_iff, Option.some.injEq, Prod.mk.injEq] at h
      obtain ⟨h1, hs, rfl, rfl⟩ := h
      obtain ⟨w', hr', hh, hs', _⟩ := run_stores (P := P) _ 0 w h1 hs
      refine ⟨w', ?_, hh, hs'⟩
      simp only [Sem.run_bind, run_underlying hu, Result.andThen_ok, run_zero hi hz, hr', Sem.run_pure]
  · contradiction

/-- append(s, x...) -/
def Ap (e : TypeId) (zero : Array Value) (size bytes : Nat) (s x : Value) (h : Hp) (k : Value → Hp → Prop) : Prop :=
  ∃ base sLen sCap xb n xc news, s = .slice base sLen sCap ∧ x = .slice xb n xc ∧ rowOf x (n * size) h = some news ∧
    (sLen + n ≤ sCap → match base with
      | some a => ∃ h', stores h (a.add (sLen * size)) 0 news = some h' ∧ k (.slice base (sLen + n) sCap) h'
      | none => k (.slice base (sLen + n) sCap) h) ∧
    (sCap < sLen + n → (sLen + n) * bytes ≤ 140737488355328 ∧ sLen + n ≤ 9223372036854775807 ∧ ∃ olds, rowOf s (sLen * size) h = some olds ∧
      ∀ cap, sLen + n ≤ cap → cap ≤ 9223372036854775807 → k (.slice (some ⟨h.size, 0, none⟩) (sLen + n) cap) (h.push (.cells (olds.toArray ++ news.toArray ++ Builtin.zeroCells zero (cap - (sLen + n))) e)))

theorem run_append {t ty e : TypeId} {z : Array Value} {sz b : Nat} {s x : Value} {k : Value → Hp → Prop} (hk : elk P t = .ok e z sz b) (h : Ap e z sz b s x w.heap k) :
    ∃ v w', (Builtin.append_ #[t, t] ty #[s, x]).run P w = .ok v w' ∧ Rst w w' ∧ k v w'.heap := by
  obtain ⟨hu, i, zv, hi, hz, rfl, rfl, rfl, hzs, hpos⟩ := elk_ok hk
  obtain ⟨base, sLen, sCap, xb, n, xc, news, rfl, rfl, hx, hroom, hgrow⟩ := h
  have hnews := fun (w' : World) (e' : w'.heap = w.heap) => run_rowOf (P := P) (w := w') (x := .slice xb n xc) (s := i.size) (n := n) (l := news) (by rw [e']; exact hx)
  unfold Builtin.append_
  have e0 : (#[t, t] : Array TypeId)[0]? = some t := rfl
  have e1 : (#[t, t] : Array TypeId)[1]? = some t := rfl
  have e2 : (#[Value.slice base sLen sCap, Value.slice xb n xc] : Array Value)[0]? = some (.slice base sLen sCap) := rfl
  have e3 : (#[Value.slice base sLen sCap, Value.slice xb n xc] : Array Value)[1]? = some (.slice xb n xc) := rfl
  rw [e0, e1, e2, e3]
  simp only [Sem.run_bind, run_underlying hu, Result.andThen_ok, Sem.run_pure, run_sizeOf hi, Builtin.lenOf, Bool.false_eq_true, if_false, Bool.not_false, if_true]
  by_cases hle : sLen + n ≤ sCap
  · have hr := hroom hle
    simp only [hle, if_true, Sem.run_bind, hnews w rfl, Result.andThen_ok]
    cases base with
    | none => exact ⟨_, w, rfl, .refl w, hr⟩
    | some a =>
      simp only at hr
      obtain ⟨h', hs, hk'⟩ := hr
      obtain ⟨w', hr', hh, hs', _⟩ := run_stores (P := P) (a := a.add (sLen * i.size)) news 0 w h' hs
      refine ⟨_, w', ?_, hs', by rw [hh]; exact hk'⟩
      simp only [Sem.run_bind, hr', Result.andThen_ok, Sem.run_pure]
  · obtain ⟨hb, h63, olds, ho, hcap⟩ := hgrow (by omega)
    have hbi : (typeInfo e).run P w = .ok i w := by simp [typeInfo, hi]
    have h48 : ¬ (Builtin.nextslicecap (sLen + n) sCap * i.bytes > 2 ^ 48) := by
      have := growslice_fits (need := sLen + n) (old := sCap) (bytes := i.bytes) (by omega) hb
      simpa using this
    have hbz : i.bytes = 0 ∨ 0 < i.bytes := Nat.eq_zero_or_pos _
    have h63' : ¬ (((sLen + n : Nat) : Int) > IntKind.i64.max) := by
      have : IntKind.i64.max = 9223372036854775807 := rfl
      omega
    have hdrew : (typeInfo e).run P { w with drawn := w.drawn + 1 } = .ok i { w with drawn := w.drawn + 1 } := by simp [typeInfo, hi]
    have hz' : (zeroValue e).run P { w with drawn := w.drawn + 1 } = .ok zv { w with drawn := w.drawn + 1 } := run_zero hi hz
    have hold := run_rowOf (P := P) (w := { w with drawn := w.drawn + 1 }) (x := .slice base sLen sCap) (s := i.size) (n := sLen) (l := olds) ho
    have hnew := hnews { w with drawn := w.drawn + 1 } rfl
    have hf : Question.forced (.appendCap (sLen + n) sCap e) = false := rfl
    simp only [hle, if_false, Sem.run_bind, Sem.run_pure, Result.andThen_ok, hbi, h63', false_and, h48, run_choose, hf, Bool.false_eq_true, run_askRoom, hdrew, hold, hnew, hz', newRow, run_newObj]
    refine ⟨_, _, rfl, ⟨rfl, rfl, rfl⟩, ?_⟩
    have hc1 : sLen + n ≤ Question.cut (.appendCap (sLen + n) sCap e) (w.tape w.drawn (.appendCap (sLen + n) sCap e)) := by simp [Question.cut]
    have hc2 : Question.cut (.appendCap (sLen + n) sCap e) (w.tape w.drawn (.appendCap (sLen + n) sCap e)) ≤ 9223372036854775807 := by
      have hlt := Nat.mod_lt (w.tape w.drawn (.appendCap (sLen + n) sCap e)) (show 0 < 2 ^ 63 - (sLen + n) by omega)
      simp only [Question.cut]
      omega
    exact hcap _ hc1 hc2
end
end Go.En
