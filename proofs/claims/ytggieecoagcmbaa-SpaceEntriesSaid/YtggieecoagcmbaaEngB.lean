/-
  The engine, part B: the model runs each operation as part A says.
-/
import Derived.Test.YtggieecoagcmbaaEngA
import Derived.Laws.StructEq
namespace Go.En
section
variable {P : Program} {w : World}

theorem run_cellAt {a : Addr} {v : Value} (h : cellAt w.heap a = some v) : (load a).run P w = .ok v w := by
  rw [run_load]; rw [cellAt_eq, h]

theorem run_rowFrom {a : Addr} : ∀ (n i : Nat) (l : List Value) (acc : Array Value), rowFrom w.heap a i n = some l →
    (loadCellsFrom a i n acc).run P w = .ok (acc ++ l.toArray) w
  | 0, i, l, acc, h => by
    simp only [rowFrom, Option.some.injEq] at h
    subst h
    simp [loadCellsFrom]
  | n + 1, i, l, acc, h => by
    simp only [rowFrom, Option.bind_eq_some_iff] at h
    obtain ⟨v, hv, r, hr, hl⟩ := h
    simp only [Option.some.injEq] at hl
    subst hl
    simp only [loadCellsFrom, Sem.run_bind, run_cellAt hv, Result.andThen_ok]
    rw [run_rowFrom n (i + 1) r (acc.push v) hr]
    simp

theorem run_loadCells {a : Addr} {n : Nat} {l : List Value} (h : rowFrom w.heap a 0 n = some l) : (loadCells a n).run P w = .ok l.toArray w := by
  rw [loadCells, run_rowFrom n 0 l #[] h]; simp

theorem tyk_cell {t : TypeId} (h : tyk P t = .cell) : ∃ d, P.underlying t = some d ∧ (∀ fs, d ≠ .struct fs) ∧ (∀ n e, d ≠ .array n e) := by
  unfold tyk at h
  split at h <;> try contradiction
  rename_i d _ h1 h2 hx _
  exact ⟨d, hx, fun fs e => h1 fs e, fun n e' e => h2 n e' e⟩

theorem run_isAgg_cell {t : TypeId} (h : tyk P t = .cell) : (isAgg t).run P w = .ok false w := by
  obtain ⟨d, hd, h1, h2⟩ := tyk_cell h
  unfold isAgg
  simp only [Sem.run_bind, run_underlying hd, Result.andThen_ok]
  cases d <;> first | rfl | exact (h1 _ rfl).elim | exact (h2 _ _ rfl).elim

theorem tyk_agg {t : TypeId} {n : Nat} (h : tyk P t = .agg n) : (∃ i, P.info? t = some i ∧ i.size = n) ∧ ((∃ fs, P.underlying t = some (.struct fs)) ∨ (∃ k e, P.underlying t = some (.array k e))) := by
  unfold tyk at h
  split at h <;> try contradiction
  · rename_i fs i hu hi; simp only [TK.agg.injEq] at h; exact ⟨⟨i, hi, h⟩, .inl ⟨fs, hu⟩⟩
  · rename_i k e i hu hi; simp only [TK.agg.injEq] at h; exact ⟨⟨i, hi, h⟩, .inr ⟨k, e, hu⟩⟩

theorem run_isAgg_agg {t : TypeId} {n : Nat} (h : tyk P t = .agg n) : (isAgg t).run P w = .ok true w := by
  unfold isAgg
  rcases (tyk_agg h).2 with ⟨fs, hu⟩ | ⟨k, e, hu⟩ <;> simp [run_underlying hu]

theorem run_sizeOf {t : TypeId} {i : TypeInfo} (h : P.info? t = some i) : (sizeOf t).run P w = .ok i.size w := by
  simp [sizeOf, typeInfo, h]

theorem run_zero {t : TypeId} {i : TypeInfo} {z : Value} (h : P.info? t = some i) (hz : i.zero = some z) : (zeroValue t).run P w = .ok z w := by
  simp [zeroValue, typeInfo, h, hz]

theorem run_loadAt {t : TypeId} {p v : Value} (h : ldT (tyk P t) p w.heap = some v) : (Instr.loadAt t p).run P w = .ok v w := by
  unfold Instr.loadAt loadVar
  cases hk : tyk P t with
  | cell =>
    rw [hk] at h
    simp only [ldT] at h
    unfold ldc at h
    split at h <;> try contradiction
    rename_i a
    simp only [Instr.sureAddr, Sem.run_bind, Sem.run_pure, Result.andThen_ok, run_isAgg_cell hk, Bool.false_eq_true, if_false]
    exact run_cellAt h
  | agg n =>
    rw [hk] at h
    simp only [ldT] at h
    unfold lda at h
    split at h <;> try contradiction
    rename_i a
    simp only [Option.bind_eq_some_iff, Option.some.injEq] at h
    obtain ⟨l, hl, hv⟩ := h
    obtain ⟨⟨i, hi, hn⟩, _⟩ := tyk_agg hk
    simp only [Instr.sureAddr, Sem.run_bind, Sem.run_pure, Result.andThen_ok, run_isAgg_agg hk, if_true, run_sizeOf hi, hn, run_loadCells hl, hv]
  | bad => rw [hk] at h; simp [ldT] at h

/-- heap of a store -/
theorem setAt_heap (a : Addr) (v : Value) : (w.setCell a v).heap = setAt w.heap a v := rfl

structure Rst (w w' : World) : Prop where
  os : w'.os = w.os
  tape : w'.tape = w.tape
  output : w'.output = w.output
theorem Rst.refl (w : World) : Rst w w := ⟨rfl, rfl, rfl⟩
theorem Rst.trans {a b c : World} (h : Rst a b) (k : Rst b c) : Rst a c := ⟨k.os.trans h.os, k.tape.trans h.tape, k.output.trans h.output⟩

theorem run_stores {a : Addr} : ∀ (vs : List Value) (i : Nat) (w : World) (h' : Hp), stores w.heap a i vs = some h' →
    ∃ w', (storeCells a vs i).run P w = .ok () w' ∧ w'.heap = h' ∧ Rst w w' ∧ w'.drawn = w.drawn
  | [], i, w, h', h => by
    simp only [stores, Option.some.injEq] at h
    exact ⟨w, rfl, h, .refl w, rfl⟩
  | v :: r, i, w, h', h => by
    simp only [stores] at h
    split at h <;> try contradiction
    rename_i u h1 hc hf
    obtain ⟨w', hr, hh, hs, hd⟩ := run_stores r (i + 1) (w.setCell (a.add i) v) h' h
    refine ⟨w', ?_, hh, ⟨hs.os, hs.tape, hs.output⟩, hd⟩
    unfold storeCells
    simp only [Sem.run_bind]
    rw [run_store P w _ v _ h1]
    rw [cellAt_eq, frozenAt_eq, hc, hf]
    simpa using hr

theorem run_storeAt {t : TypeId} {p v : Value} {i : TypeInfo} {h' : Hp} (hi : P.info? t = some i) (h : sto i.size p v w.heap = some h') :
    ∃ w', (Instr.storeAt t p v).run P w = .ok () w' ∧ w'.heap = h' ∧ Rst w w' := by
  unfold sto at h
  split at h <;> try contradiction
  rename_i a
  split at h <;> try contradiction
  rename_i hsz
  obtain ⟨w', hr, hh, hs, _⟩ := run_stores (P := P) (a := a) v.cells.toList 0 w h' h
  refine ⟨w', ?_, hh, hs⟩
  have hsz' : v.cells.size = i.size := Nat.eq_of_beq_eq_true hsz
  simp only [Instr.storeAt, storeVar, Instr.sureAddr, Sem.run_bind, Sem.run_pure, Result.andThen_ok, run_sizeOf hi, hsz', ne_eq, not_true_eq_false, if_false, hr]

theorem run_bin {op : BinOp} {t : TypeId} {x y v : Value} (h : bin op x y = some v) : (binOp op t x y).run P w = .ok v w := by
  unfold bin at h
  split at h <;> try contradiction
  rename_i k a k' b
  split at h <;> (try contradiction) <;> (try (split at h <;> (try contradiction))) <;> (try (split at h <;> (try contradiction))) <;>
    (simp only [Option.some.injEq] at h; subst h) <;>
    (try subst k') <;>
    (try (rename_i hb; have hb' : ¬ b < 0 := hb)) <;>
    (first
      | (simp only [binOp, Op.shift]; rw [if_neg ‹¬ b < 0›]; rfl)
      | (simp only [binOp, ne_eq, not_true_eq_false, if_false, Op.intDiv]; rw [if_neg ‹¬ b = 0›]; rfl)
      | (simp only [binOp, ne_eq, not_true_eq_false, if_false, Op.intArith, Op.intCmp]; rfl)
      | (simp only [binOp, ne_eq, not_true_eq_false, if_false, Op.intBits]; rfl))

theorem run_eqGuard_int {op : BinOp} {t : TypeId} {x y : Operand} {k k' : IntKind} {a b : Int} : (eqGuard op t x y (.int k a) (.int k' b)).run P w = .ok () w := by
  unfold eqGuard; cases op <;> rfl

theorem bin_ints {op : BinOp} {x y v : Value} (h : bin op x y = some v) : ∃ k a k' b, x = .int k a ∧ y = .int k' b := by
  unfold bin at h
  split at h <;> try contradiction
  exact ⟨_, _, _, _, rfl, rfl⟩

def EKu (P : Program) (t : TypeId) : EK → Prop
    | .boolean => P.underlying t = some .bool
    | .ptr => ∃ e, P.underlying t = some (.pointer e)
    | .slc => ∃ e, P.underlying t = some (.slice e)
    | .map => ∃ a b, P.underlying t = some (.map a b)
    | .fn => ∃ a b c, P.underlying t = some (.func a b c)
    | .agg n => flatT P 5 t = some n ∧ P.eqGuardType P.depth t = false ∧ ((∃ fs, P.underlying t = some (.struct fs)) ∨ (∃ n e, P.underlying t = some (.array n e)))
    | _ => True
theorem eqk_under (P : Program) (t : TypeId) : EKu P t (eqk P t) := by
  cases hk : eqk P t <;> simp only [EKu] <;> (unfold eqk at hk; split at hk <;> (try split at hk) <;> simp_all)

theorem appB_eq : ∀ (a b : List Bool), appB a b = a ++ b
  | [], _ => rfl
  | x :: r, b => by simp [appB, appB_eq r b]
theorem lenB_eq : ∀ l : List Bool, lenB l = l.length
  | [] => rfl
  | _ :: r => by simp [lenB, lenB_eq r]

theorem eqL_append : ∀ {l a a' : List _} {l' b b' : List _} {q : Bool}, l.length = a.length → l.length = a'.length → eqL (l ++ l') (a ++ b) (a' ++ b') = some q → ∃ q1 q2, eqL l a a' = some q1 ∧ eqL l' b b' = some q2 ∧ q = (q1 && q2)
  | [], [], [], l', b, b', q, _, _, h => ⟨true, q, rfl, by simpa using h, by simp⟩
  | i :: l, x :: a, y :: a', l', b, b', q, h1, h2, h => by
    simp only [List.cons_append, eqL, Option.bind_eq_some_iff, Option.some.injEq] at h
    obtain ⟨q0, h0, q', hq', rfl⟩ := h
    obtain ⟨q1, q2, e1, e2, rfl⟩ := eqL_append (by simpa using h1) (by simpa using h2) hq'
    exact ⟨q0 && q1, q2, by simp [eqL, h0, e1], e2, by simp [Bool.and_assoc]⟩
  | [], _ :: _, _, _, _, _, _, h1, _, _ => by simp at h1
  | [], [], _ :: _, _, _, _, _, _, h2, _ => by simp at h2
  | _ :: _, [], _, _, _, _, _, h1, _, _ => by simp at h1
  | _ :: _, _ :: _, [], _, _, _, _, _, h2, _ => by simp at h2

theorem eqL_length : ∀ {l : List Bool} {a b : List Value} {q : Bool}, eqL l a b = some q → a.length = l.length ∧ b.length = l.length
  | [], [], [], _, _ => ⟨rfl, rfl⟩
  | i :: l, x :: a, y :: b, q, h => by
    simp only [eqL, Option.bind_eq_some_iff, Option.some.injEq] at h
    obtain ⟨_, _, _, h2, _⟩ := h
    have := eqL_length h2
    simp [this.1, this.2]
  | [], _ :: _, _, _, h => by simp [eqL] at h
  | [], [], _ :: _, _, h => by simp [eqL] at h
  | _ :: _, [], _, _, h => by simp [eqL] at h
  | _ :: _, _ :: _, [], _, h => by simp [eqL] at h

/-- the cells from o on, n of them -/
def seg (xs : Array Value) (o n : Nat) : List Value := (xs.toList.drop o).take n
theorem seg_length {xs : Array Value} {o n : Nat} (h : o + n ≤ xs.size) : (seg xs o n).length = n := by
  unfold seg; simp; omega
theorem seg_add {xs : Array Value} {o n m : Nat} : seg xs o (n + m) = seg xs o n ++ seg xs (o + n) m := by
  unfold seg
  rw [List.take_add, List.drop_drop]

/-- the part of a type at an offset -/
def FlatAt (P : Program) (d : Nat) (t : TypeId) (l : List Bool) : Prop :=
  ∀ (w : World) (xs ys : Array Value) (o : Nat) (q : Bool), o + l.length ≤ xs.size → o + l.length ≤ ys.size → eqL l (seg xs o l.length) (seg ys o l.length) = some q →
    ∃ x y, (part t xs o).run P w = .ok x w ∧ (part t ys o).run P w = .ok y w ∧ (Op.equalIn d t x y).run P w = .ok q w

theorem flat_fields {d : Nat} {flat : TypeId → Option (List Bool)} (hfl : ∀ t l, flat t = some l → FlatAt P d t l) : ∀ (fs : List Field) (off : Nat) (l : List Bool), flatFs P flat fs off = some l →
    ∀ (w : World) (xs ys : Array Value) (q : Bool), off + l.length ≤ xs.size → off + l.length ≤ ys.size → eqL l (seg xs off l.length) (seg ys off l.length) = some q → (Op.eqFields d xs ys fs).run P w = .ok q w
  | [], off, l, h => by
    simp only [flatFs, Option.some.injEq] at h
    subst h
    intro w xs ys q _ _ hq
    simp only [seg, List.length_nil, List.take_zero, eqL, Option.some.injEq] at hq
    subst hq
    rfl
  | f :: r, off, l, h => by
    unfold flatFs at h
    split at h <;> try contradiction
    rename_i lf i ho hnm hfm hi
    split at h <;> try contradiction
    rename_i l' hsz hrest
    simp only [Option.some.injEq] at h
    subst h
    have hoff := Nat.eq_of_beq_eq_true ho
    rw [lenB_eq] at hrest
    have hrec := flat_fields hfl r (off + lf.length) l' hrest
    intro w xs ys q hx hy hq
    rw [appB_eq, List.length_append] at hx hy hq
    rw [seg_add, seg_add] at hq
    obtain ⟨q1, q2, h1, h2, rfl⟩ := eqL_append (by rw [seg_length (by omega)]) (by rw [seg_length (by omega)]) hq
    obtain ⟨x, y, p1, p2, p3⟩ := hfl _ _ hfm w xs ys off q1 (by omega) (by omega) h1
    have hne : f.name ≠ "_" := fun e => by rw [e] at hnm; simp at hnm
    unfold Op.eqFields
    rw [if_pos hne]
    rw [hoff]
    simp only [Sem.run_bind, p1, p2, p3, Result.andThen_ok]
    cases q1 with
    | false => simp
    | true => simpa using hrec w xs ys q2 (by omega) (by omega) h2

theorem repB_length (l : List Bool) : ∀ n, (repB l n).length = n * l.length
  | 0 => by simp [repB]
  | n + 1 => by simp [repB, appB_eq, repB_length l n, Nat.succ_mul, Nat.add_comm]

theorem run_equalIn_array {d : Nat} {t e : TypeId} {len : Nat} {l : List Bool} {i : TypeInfo} (hu : P.underlying t = some (.array len e)) (hi : P.info? e = some i) (hn : i.size = l.length) (hfl : FlatAt P d e l) (w : World) (xs ys : Array Value) (q : Bool)
    (hx : xs.size = len * l.length) (hy : ys.size = len * l.length) (hq : eqL (repB l len) xs.toList ys.toList = some q) : (Op.equalIn (d + 1) t (.agg xs) (.agg ys)).run P w = .ok q w := by
  simp only [Op.equalIn, Sem.run_bind, run_underlying hu, Result.andThen_ok, run_sizeOf hi, hn]
  rw [Std.Legacy.Range.forIn_eq_forIn_range']
  have hsz : ({ start := 0, stop := len, step := 1, step_pos := by decide } : Std.Legacy.Range).size = len := by simp [Std.Legacy.Range.size]
  simp only [hsz]
  have key : ∀ (k j : Nat) (w : World) (q : Bool), j + k = len → eqL (repB l k) (seg xs (j * l.length) (k * l.length)) (seg ys (j * l.length) (k * l.length)) = some q →
      (forIn (List.range' j k 1) ((none, PUnit.unit) : Option Bool × PUnit) (fun i r => do
        let a ← part e xs (i * l.length)
        let b ← part e ys (i * l.length)
        let c ← Op.equalIn d e a b
        if (!c) = true then pure (ForInStep.done (some false, PUnit.unit)) else do
          pure PUnit.unit
          pure (ForInStep.yield (none, PUnit.unit))) : Sem (Option Bool × PUnit)).run P w = .ok (if q then none else some false, PUnit.unit) w := by
    intro k
    induction k with
    | zero =>
      intro j w q _ h
      simp only [Nat.zero_mul, seg, List.take_zero, repB, eqL, Option.some.injEq] at h
      subst h
      rfl
    | succ k ih =>
      intro j w q hj h
      have hb : j * l.length + l.length ≤ len * l.length := by
        have : (j + 1) * l.length ≤ len * l.length := Nat.mul_le_mul_right _ (by omega)
        rw [Nat.succ_mul] at this; exact this
      rw [repB, appB_eq, Nat.succ_mul, Nat.add_comm (k * l.length) l.length, seg_add, seg_add] at h
      obtain ⟨q1, q2, h1, h2, rfl⟩ := eqL_append (by rw [seg_length (by omega)]) (by rw [seg_length (by omega)]) h
      obtain ⟨x, y, p1, p2, p3⟩ := hfl w xs ys (j * l.length) q1 (by omega) (by omega) h1
      rw [List.range'_succ, List.forIn_cons]
      simp only [Sem.run_bind, p1, p2, p3, Result.andThen_ok]
      cases q1 with
      | false => simp
      | true =>
        simp only [Bool.not_true, Bool.false_eq_true, if_false, Sem.run_pure, Result.andThen_ok, Bool.true_and]
        exact ih (j + 1) w q2 (by omega) (by rw [Nat.succ_mul]; exact h2)
  have h0 : eqL (repB l len) (seg xs (0 * l.length) (len * l.length)) (seg ys (0 * l.length) (len * l.length)) = some q := by
    have ex : seg xs (0 * l.length) (len * l.length) = xs.toList := by unfold seg; rw [Nat.zero_mul, List.drop_zero, List.take_of_length_le (by simp [hx])]
    have ey : seg ys (0 * l.length) (len * l.length) = ys.toList := by unfold seg; rw [Nat.zero_mul, List.drop_zero, List.take_of_length_le (by simp [hy])]
    rw [ex, ey]; exact hq
  have hk := key len 0 w q (by omega) h0
  rw [hk]
  cases q <;> rfl

/-- a flat type, whole -/
theorem flat_eq : ∀ (d : Nat) (t : TypeId) (l : List Bool), flatT P d t = some l → ∀ k, d ≤ k →
    FlatAt P k t l ∧ ((∃ fs, P.underlying t = some (.struct fs)) ∨ (∃ n e, P.underlying t = some (.array n e)) → ∀ (w : World) (xs ys : Array Value) (q : Bool), eqL l xs.toList ys.toList = some q → (Op.equalIn k t (.agg xs) (.agg ys)).run P w = .ok q w)
  | 0, t, n, h, _, _ => by simp [flatT] at h
  | d + 1, t, l, h, k, hk => by
    obtain ⟨k, rfl⟩ : ∃ j, k = j + 1 := ⟨k - 1, by omega⟩
    have hk' : d ≤ k := by omega
    have hagg : ∀ (u : TypeDesc), P.underlying t = some u → ((∃ fs, u = .struct fs) ∨ ∃ l e, u = .array l e) → ∀ (i : TypeInfo), P.info? t = some i → ∀ (w : World) (o : Nat) (a : Array Value), (part t a o).run P w = .ok (.agg (a.extract o (o + i.size))) w := by
      intro u hu hor i hi w o a
      unfold part isAgg
      rcases hor with ⟨fs, rfl⟩ | ⟨l, e, rfl⟩ <;> simp [run_underlying hu, run_sizeOf hi]
    have hseg : ∀ (a : Array Value) (o m : Nat), (a.extract o (o + m)).toList = seg a o m := by
      intro a o m
      unfold seg
      rw [Array.toList_extract, List.extract_eq_drop_take']
      simp [List.drop_take]
    have hcell : ∀ (a : Array Value) (o : Nat), o + 1 ≤ a.size → ∃ v, a[o]? = some v ∧ seg a o 1 = [v] := by
      intro a o ha
      have hlt : o < a.size := by omega
      refine ⟨a[o], Array.getElem?_eq_getElem hlt, ?_⟩
      unfold seg
      rw [List.drop_eq_getElem_cons (by simpa using hlt)]
      simp
    have fromWhole : ∀ (u : TypeDesc), P.underlying t = some u → ((∃ fs, u = .struct fs) ∨ ∃ l e, u = .array l e) → ∀ (i : TypeInfo), P.info? t = some i → i.size = l.length →
        (∀ (w : World) (xs ys : Array Value) (q : Bool), eqL l xs.toList ys.toList = some q → (Op.equalIn (k + 1) t (.agg xs) (.agg ys)).run P w = .ok q w) → FlatAt P (k + 1) t l := by
      intro u hu hor i hi hsz hw w xs ys o q hx hy hq
      refine ⟨_, _, hagg u hu hor i hi w o xs, hagg u hu hor i hi w o ys, hw w _ _ q ?_⟩
      rw [hseg, hseg, hsz]
      exact hq
    unfold flatT at h
    split at h
    · rename_i ik hu
      simp only [Option.some.injEq] at h
      subst h
      refine ⟨fun w xs ys o q hx hy hq => ?_, fun hor => by rcases hor with ⟨fs, h1⟩ | ⟨n, e, h1⟩ <;> (rw [hu] at h1; cases h1)⟩
      obtain ⟨x, hx1, hx2⟩ := hcell xs o hx
      obtain ⟨y, hy1, hy2⟩ := hcell ys o hy
      simp only [List.length_cons, List.length_nil, Nat.zero_add] at hq
      rw [hx2, hy2] at hq
      simp only [eqL, Option.bind_eq_some_iff, Option.some.injEq] at hq
      obtain ⟨q0, h0, q1, hq1, rfl⟩ := hq
      subst hq1
      have hp : ∀ (a : Array Value) (v : Value), a[o]? = some v → (part t a o).run P w = .ok v w := by
        intro a v hv
        unfold part isAgg
        simp [run_underlying hu, hv]
      refine ⟨x, y, hp _ _ hx1, hp _ _ hy1, ?_⟩
      unfold eq1 at h0
      split at h0 <;> try contradiction
      split at h0 <;> try contradiction
      rename_i hkk
      simp only [Option.some.injEq] at h0
      subst h0
      subst hkk
      simp [Op.equalIn, run_underlying hu]
    · rename_i hu
      simp only [Option.some.injEq] at h
      subst h
      refine ⟨fun w xs ys o q hx hy hq => ?_, fun hor => by rcases hor with ⟨fs, h1⟩ | ⟨n, e, h1⟩ <;> (rw [hu] at h1; cases h1)⟩
      obtain ⟨x, hx1, hx2⟩ := hcell xs o hx
      obtain ⟨y, hy1, hy2⟩ := hcell ys o hy
      simp only [List.length_cons, List.length_nil, Nat.zero_add] at hq
      rw [hx2, hy2] at hq
      simp only [eqL, Option.bind_eq_some_iff, Option.some.injEq] at hq
      obtain ⟨q0, h0, q1, hq1, rfl⟩ := hq
      subst hq1
      have hp : ∀ (a : Array Value) (v : Value), a[o]? = some v → (part t a o).run P w = .ok v w := by
        intro a v hv
        unfold part isAgg
        simp [run_underlying hu, hv]
      refine ⟨x, y, hp _ _ hx1, hp _ _ hy1, ?_⟩
      unfold eq1 at h0
      split at h0 <;> try contradiction
      simp only [Option.some.injEq] at h0
      subst h0
      simp [Op.equalIn, run_underlying hu]
    · rename_i fs hu
      split at h <;> try contradiction
      rename_i l' i hst hfs hi
      split at h <;> try contradiction
      rename_i hsz
      simp only [Option.some.injEq] at h
      subst h
      have hsz' : i.size = l'.length := by rw [← lenB_eq]; exact Nat.eq_of_beq_eq_true hsz
      have hfo : P.fieldsOf t = fs := by simp [Program.fieldsOf, hu]
      have hw : ∀ (w : World) (xs ys : Array Value) (q : Bool), eqL l' xs.toList ys.toList = some q → (Op.equalIn (k + 1) t (.agg xs) (.agg ys)).run P w = .ok q w := by
        intro w xs ys q hq
        rw [run_equalIn_struct w k t xs ys (by rw [hfo]; exact hu) hst, hfo]
        have hl := eqL_length hq
        have e1 : ∀ a : Array Value, a.toList.length = l'.length → seg a 0 l'.length = a.toList := fun a ha => by unfold seg; rw [List.drop_zero, List.take_of_length_le (by omega)]
        exact flat_fields (fun t' l'' ht' => (flat_eq d t' l'' ht' k hk').1) fs.toList 0 l' hfs w xs ys q (by have := hl.1; simp at this; omega) (by have := hl.2; simp at this; omega) (by rw [e1 xs hl.1, e1 ys hl.2]; exact hq)
      exact ⟨fromWhole _ hu (.inl ⟨_, rfl⟩) i hi hsz' hw, fun _ => hw⟩
    · rename_i len e hu
      split at h <;> try contradiction
      rename_i le i j hle hi hj
      split at h <;> try contradiction
      rename_i hsz hsz2
      simp only [Option.some.injEq] at h
      subst h
      have hsz' : i.size = le.length := by rw [← lenB_eq]; exact Nat.eq_of_beq_eq_true hsz
      have hsz2' : j.size = (repB le len).length := by rw [← lenB_eq]; exact Nat.eq_of_beq_eq_true hsz2
      have hw : ∀ (w : World) (xs ys : Array Value) (q : Bool), eqL (repB le len) xs.toList ys.toList = some q → (Op.equalIn (k + 1) t (.agg xs) (.agg ys)).run P w = .ok q w := by
        intro w xs ys q hq
        have hl := eqL_length hq
        rw [repB_length] at hl
        exact run_equalIn_array hu hi hsz' (flat_eq d e le hle k hk').1 w xs ys q (by simpa using hl.1) (by simpa using hl.2) hq
      exact ⟨fromWhole _ hu (.inr ⟨_, _, rfl⟩) j hj hsz2' hw, fun _ => hw⟩
    · contradiction
theorem run_equalIn (d : Nat) (hd : 4 ≤ d) {t : TypeId} {x y : Value} {b : Bool} (h : eqT (eqk P t) x y = some b) : (Op.equalIn (d + 1) t x y).run P w = .ok b w := by
  have hu := eqk_under P t
  cases hk : eqk P t <;> rw [hk] at h hu <;> simp only [eqT, EKu] at h hu <;> try contradiction
  · unfold eqB at h
    split at h <;> try contradiction
    simp only [Option.some.injEq] at h
    simp [Op.equalIn, run_underlying hu, h]
  · obtain ⟨e, hu⟩ := hu
    unfold eqP at h
    split at h <;> try contradiction
    all_goals (simp only [Option.some.injEq] at h; simp [Op.equalIn, run_underlying hu, h])
  · obtain ⟨e, hu⟩ := hu
    unfold eqS at h
    split at h <;> try contradiction
    all_goals (simp only [Option.some.injEq] at h; simp [Op.equalIn, run_underlying hu, h])
  · obtain ⟨e, e', hu⟩ := hu
    unfold eqM at h
    split at h <;> try contradiction
    all_goals (simp only [Option.some.injEq] at h; simp [Op.equalIn, run_underlying hu, h])
  · obtain ⟨e, e', e'', hu⟩ := hu
    unfold eqF at h
    split at h <;> try contradiction
    all_goals (simp only [Option.some.injEq] at h; simp [Op.equalIn, run_underlying hu, h])
  · obtain ⟨h1, h2, h3⟩ := hu
    unfold eqA at h
    split at h <;> try contradiction
    exact (flat_eq 5 t _ h1 (d + 1) (by omega)).2 h3 w _ _ b h

theorem run_eqT {t : TypeId} {x y : Value} {b : Bool} (h : eqT (eqk P t) x y = some b) : (Op.equal t x y).run P w = .ok b w :=
  run_equalIn 9999 (by omega) h

/-- the values that 'eqT' takes are none of those that the guard looks into -/
theorem eqT_guard {k : EK} {x y : Value} {b : Bool} (h : eqT k x y = some b) (hk : ∀ ds, k ≠ .agg ds) :
    (∀ (op : BinOp) (t : TypeId) (ox oy : Operand), (eqGuard op t ox oy x y).run P w = .ok () w) ∧
    (∀ t, binOp .eql t x y = (do pure (.bool (← Op.equal t x y)))) ∧ (∀ t, binOp .neq t x y = (do pure (.bool (!(← Op.equal t x y))))) := by
  cases k <;> simp only [eqT] at h <;> try contradiction
  · unfold eqB at h; split at h <;> try contradiction
    exact ⟨fun op _ _ _ => by cases op <;> rfl, fun _ => rfl, fun _ => rfl⟩
  · unfold eqP at h; split at h <;> try contradiction
    all_goals exact ⟨fun op _ _ _ => by cases op <;> rfl, fun _ => rfl, fun _ => rfl⟩
  · unfold eqS at h; split at h <;> try contradiction
    all_goals exact ⟨fun op _ _ _ => by cases op <;> rfl, fun _ => rfl, fun _ => rfl⟩
  · unfold eqM at h; split at h <;> try contradiction
    all_goals exact ⟨fun op _ _ _ => by cases op <;> rfl, fun _ => rfl, fun _ => rfl⟩
  · unfold eqF at h; split at h <;> try contradiction
    all_goals exact ⟨fun op _ _ _ => by cases op <;> rfl, fun _ => rfl, fun _ => rfl⟩
  · exact (hk _ rfl).elim

theorem run_bnT {op : BinOp} {t : TypeId} {ox oy : Operand} {x y v : Value} (h : bnT (eqk P t) op x y = some v) :
    (do eqGuard op t ox oy x y; binOp op t x y : Sem Value).run P w = .ok v w := by
  cases hk : eqk P t with
  | plain =>
    rw [hk] at h
    simp only [bnT] at h
    obtain ⟨k, a, k', b, rfl, rfl⟩ := bin_ints h
    simp only [Sem.run_bind, run_eqGuard_int, Result.andThen_ok, run_bin h]
  | agg l =>
    have hu := eqk_under P t
    rw [hk] at h hu
    obtain ⟨h1, h2, h3⟩ := hu
    cases op <;> simp only [bnT] at h <;> try contradiction
    all_goals
      simp only [pos?, neg?, Option.bind_eq_some_iff, Option.some.injEq] at h
      obtain ⟨b, hb, rfl⟩ := h
      have hr := run_eqT (P := P) (w := w) (t := t) (x := x) (y := y) (b := b) (by rw [hk]; exact hb)
      simp only [eqT, eqA] at hb
      split at hb <;> try contradiction
      simp only [Op.equal, Op.maxDepth] at hr
      simp only [Sem.run_bind, run_eqGuard_agg w _ _ _ _ _ _ h2, Result.andThen_ok, run_eql_struct, run_neq_struct, hr]
  | _ =>
    rw [hk] at h
    cases op <;> simp only [bnT] at h <;> try contradiction
    all_goals
      simp only [pos?, neg?, Option.bind_eq_some_iff, Option.some.injEq] at h
      obtain ⟨b, hb, rfl⟩ := h
      obtain ⟨g1, g2, g3⟩ := eqT_guard (P := P) (w := w) hb (fun ds e => by simp at e)
      rw [← hk] at hb
      have hr := run_eqT (P := P) (w := w) hb
      simp only [Sem.run_bind, g1, g2, g3, Result.andThen_ok, hr, Sem.run_pure]

theorem run_uno {op : UnOp} {x v : Value} (h : uno op x = some v) : (Op.unary op x).run P w = .ok v w := by
  unfold uno at h
  split at h <;> try contradiction
  all_goals (simp only [Option.some.injEq] at h; subst h; simp [Op.unary, Op.intArith])

theorem run_cvT {s d : TypeId} {x v : Value} (h : cvT (cvk P s d) x = some v) : (convert s d x).run P w = .ok v w := by
  unfold cvk at h
  split at h
  · rename_i k' k hs hd
    simp only [cvT] at h
    unfold cvi at h
    split at h <;> try contradiction
    simp only [Option.some.injEq] at h
    subst h
    simp [convert, run_underlying hs, run_underlying hd, Conv.intToInt]
  · simp [cvT] at h

theorem fkk_field {s : TypeId} {f : Nat} {k : FK} (h : fkk P s f = k) (hk : k ≠ .bad) : ∃ fs fd i, P.underlying s = some (.struct fs) ∧ fs[f]? = some fd ∧ P.info? fd.type = some i ∧ i.size ≠ 0 ∧
    ((k = .cell fd.offset ∧ tyk P fd.type = .cell) ∨ (k = .agg fd.offset i.size ∧ tyk P fd.type = .agg i.size)) := by
  unfold fkk at h
  split at h <;> try (exact (hk h.symm).elim)
  rename_i fs hu
  split at h <;> try (exact (hk h.symm).elim)
  rename_i fd hfd
  split at h <;> try (exact (hk h.symm).elim)
  · rename_i i ht hi
    split at h <;> try (exact (hk h.symm).elim)
    rename_i hs
    exact ⟨fs, fd, i, hu, hfd, hi, by omega, .inl ⟨h.symm, ht⟩⟩
  · rename_i n ht
    obtain ⟨⟨i, hi, hn⟩, _⟩ := tyk_agg ht
    exact ⟨fs, fd, i, hu, hfd, hi, by omega, .inr ⟨by rw [← h, hn], by rw [ht, hn]⟩⟩

theorem run_fieldAt {s : TypeId} {f : Nat} {p v : Value} (h : faT (fkk P s f) p = some v) : (Instr.fieldAt s p f).run P w = .ok v w := by
  have hk : fkk P s f ≠ .bad := fun e => by rw [e] at h; simp [faT] at h
  obtain ⟨fs, fd, i, hu, hfd, hi, hne, hc⟩ := fkk_field rfl hk
  have h' : fa fd.offset p = some v := by
    rcases hc with ⟨e, _⟩ | ⟨e, _⟩ <;> (rw [e] at h; simpa [faT] using h)
  unfold fa at h'
  split at h' <;> try contradiction
  simp only [Option.some.injEq] at h'
  subst h'
  simp [Instr.fieldAt, run_underlying hu, hfd, Instr.sureAddr, fieldPlace, run_sizeOf hi, hne]

theorem run_field {s : TypeId} {f : Nat} {x v : Value} (h : fdT (fkk P s f) x = some v) : (Instr.field s x f).run P w = .ok v w := by
  have hk : fkk P s f ≠ .bad := fun e => by rw [e] at h; simp [fdT] at h
  obtain ⟨fs, fd, i, hu, hfd, hi, hne, hc⟩ := fkk_field rfl hk
  rcases hc with ⟨e, ht⟩ | ⟨e, ht⟩ <;> rw [e] at h <;> simp only [fdT] at h
  · unfold fdc at h
    split at h <;> try contradiction
    simp [Instr.field, run_underlying hu, hfd, asAgg, part, run_isAgg_cell ht, h]
  · unfold fda at h
    split at h <;> try contradiction
    simp only [Option.some.injEq] at h
    subst h
    simp [Instr.field, run_underlying hu, hfd, asAgg, part, run_isAgg_agg ht, run_sizeOf hi]

theorem run_indexAt {t : TypeId} {x i v : Value} (h : ixT (ixk P t) x i = some v) : (Instr.indexAt t x i).run P w = .ok v w := by
  unfold ixk at h
  split at h
  · rename_i e hu
    split at h <;> simp only [ixT] at h <;> try contradiction
    rename_i ii hi
    unfold ixs at h
    split at h <;> try contradiction
    split at h <;> try contradiction
    rename_i hb
    simp only [Option.some.injEq] at h
    subst h
    simp [Instr.indexAt, asIntOf, run_underlying hu, hb, run_sizeOf hi]
  · rename_i n e hu
    split at h <;> simp only [ixT] at h <;> try contradiction
    rename_i ii hi
    unfold ixa at h
    split at h <;> try contradiction
    split at h <;> try contradiction
    rename_i hb
    simp only [Option.some.injEq] at h
    subst h
    simp [Instr.indexAt, asIntOf, run_underlying hu, hb, run_sizeOf hi, Instr.sureAddr]
  · simp [ixT] at h

theorem run_index {t : TypeId} {x i v : Value} (h : idT (idk P t) x i = some v) : (Instr.index t x i).run P w = .ok v w := by
  unfold idk at h
  split at h
  · rename_i n e hu
    split at h <;> simp only [idT] at h <;> try contradiction
    · rename_i ii ht hi
      unfold idc at h
      split at h <;> try contradiction
      split at h <;> try contradiction
      rename_i hb
      simp [Instr.index, asIntOf, run_underlying hu, hb, run_sizeOf hi, part, run_isAgg_cell ht, h]
    · rename_i s ii ht hi
      unfold ida at h
      split at h <;> try contradiction
      split at h <;> try contradiction
      rename_i hb
      simp only [Option.some.injEq] at h
      subst h
      obtain ⟨⟨i2, hi2, hn⟩, _⟩ := tyk_agg ht
      have : ii = i2 := by rw [hi] at hi2; simpa using hi2
      subst this
      simp [Instr.index, asIntOf, run_underlying hu, hb, run_sizeOf hi, part, run_isAgg_agg ht, hn]
  · rename_i hu
    simp only [idT] at h
    unfold idst at h
    split at h <;> try contradiction
    rename_i s _ n
    rw [Option.map_eq_some_iff] at h
    obtain ⟨b, hb, rfl⟩ := h
    simp [Instr.index, asIntOf, run_underlying hu, hb]
  · simp [idT] at h

theorem run_ent {it v : Value} (h : ent it w.heap = some v) : (Instr.entry it).run P w = .ok v w := by
  unfold ent at h
  split at h <;> try contradiction
  rename_i r _
  split at h <;> try contradiction
  rename_i m c0 seen stepped hr
  split at h <;> try contradiction
  rename_i stamp es clock hb hm
  split at h <;> try contradiction
  rename_i e hck he
  simp only [Option.some.injEq] at h
  subst h
  have hck' := Nat.eq_of_beq_eq_true hck
  subst hck'
  have g1 : (getObj r).run P w = .ok (.mapIter (some m) c0 seen clock) w := by simp only [getObj, Sem.run, hr]
  have g2 : (getObj m).run P w = .ok (.map es clock) w := by simp only [getObj, Sem.run, hm]
  unfold Instr.entry
  simp only [Sem.run_bind, g1, Result.andThen_ok, hb, g2, bne_self_eq_false, Bool.false_eq_true, if_false, he, Sem.run_pure]

theorem run_bnd {x : Value} {y : Nat} {c : BoundsCode} {m : Nat} (h : bnd x y = some m) : (Instr.sliceBound x y c).run P w = .ok m w := by
  unfold bnd at h
  split at h <;> try contradiction
  split at h <;> try contradiction
  rename_i hb
  simp only [Option.some.injEq] at h
  subst h
  simp [Instr.sliceBound, asIntOf, hb]

theorem run_bnds {isS : Bool} {len cap : Nat} {lo hi mx : Option Value} {b : Nat × Nat × Nat} (hm : hi = none → mx = none) (h : bnds len cap lo hi mx = some b) :
    (Instr.sliceBounds isS len cap lo hi mx).run P w = .ok b w := by
  unfold bnds at h
  simp only [Option.bind_eq_some_iff, Option.some.injEq] at h
  obtain ⟨m, h1, hh, h2, l, h3, rfl⟩ := h
  unfold Instr.sliceBounds
  cases mx with
  | none =>
    simp only [bndM, Option.some.injEq] at h1
    subst h1
    cases hi with
    | none =>
      simp only [bndH, Option.some.injEq] at h2
      subst h2
      cases lo with
      | none => simp only [bndL, Option.some.injEq] at h3; subst h3; rfl
      | some u => simp only [bndL] at h3; simp only [Sem.run_bind, Sem.run_pure, Result.andThen_ok, run_bnd h3]
    | some v =>
      simp only [bndH] at h2
      cases lo with
      | none => simp only [bndL, Option.some.injEq] at h3; subst h3; simp only [Sem.run_bind, Sem.run_pure, Result.andThen_ok, run_bnd h2]
      | some u => simp only [bndL] at h3; simp only [Sem.run_bind, Sem.run_pure, Result.andThen_ok, run_bnd h3, run_bnd h2]
  | some x =>
    simp only [bndM] at h1
    cases hi with
    | none => exact absurd (hm rfl) (by simp)
    | some v =>
      simp only [bndH] at h2
      cases lo with
      | none => simp only [bndL, Option.some.injEq] at h3; subst h3; simp only [Sem.run_bind, Sem.run_pure, Result.andThen_ok, run_bnd h2, run_bnd h1]
      | some u => simp only [bndL] at h3; simp only [Sem.run_bind, Sem.run_pure, Result.andThen_ok, run_bnd h3, run_bnd h2, run_bnd h1]

theorem run_sliceAt {t : TypeId} {x v : Value} {lo hi mx : Option Value} (hm : hi = none → mx = none) (h : slT (ixk P t) x lo hi mx = some v) :
    (Instr.sliceAt t x lo hi mx).run P w = .ok v w := by
  unfold ixk at h
  split at h
  · rename_i e hu
    split at h <;> simp only [slT] at h <;> try contradiction
    rename_i ii hii
    unfold slc at h
    split at h <;> try contradiction
    simp only [Option.bind_eq_some_iff, Option.some.injEq] at h
    obtain ⟨b, hb, rfl⟩ := h
    simp [Instr.sliceAt, Instr.slice, run_underlying hu, run_bnds hm hb, run_sizeOf hii, slcA]
  · rename_i n e hu
    split at h <;> simp only [slT] at h <;> try contradiction
    rename_i ii hii
    unfold sla at h
    split at h <;> try contradiction
    simp only [Option.bind_eq_some_iff, Option.some.injEq] at h
    obtain ⟨b, hb, rfl⟩ := h
    simp only [Instr.sliceAt, Sem.run_bind, run_underlying hu, Result.andThen_ok, Instr.sureAddr, Sem.run_pure, run_bnds hm hb, run_sizeOf hii, slcA]
    congr 2
    split <;> rfl
  · simp [slT] at h

theorem run_ext {x v : Value} {i : Nat} (h : ext i x = some v) : (Instr.extract x i).run P w = .ok v w := by
  unfold ext at h
  split at h <;> try contradiction
  simp [Instr.extract, h]

theorem run_places : ∀ (fs : List Field) (ps : List (Nat × Nat)), placesOf P fs = some ps →
    (fs.mapM fun f => do pure (f.offset, ← sizeOf f.type) : Sem (List (Nat × Nat))).run P w = .ok ps w
  | [], ps, h => by simp only [placesOf, Option.some.injEq] at h; subst h; rfl
  | f :: r, ps, h => by
    simp only [placesOf, Option.bind_eq_some_iff, Option.some.injEq] at h
    obtain ⟨i, hi, l, hl, rfl⟩ := h
    have := run_places r l hl
    simp only [List.mapM_cons, Sem.run_bind, run_sizeOf hi, Result.andThen_ok, Sem.run_pure, this]

theorem run_build {t : TypeId} {parts : Array (Nat × Value)} {v : Value} (h : bdT (bdk P t) parts.toList = some v) : (Instr.build t parts).run P w = .ok v w := by
  unfold bdk at h
  split at h <;> try (simp only [bdT] at h; contradiction)
  rename_i i hi
  split at h <;> try (simp only [bdT] at h; contradiction)
  rename_i z hz
  split at h <;> try (simp only [bdT] at h; contradiction)
  · rename_i fs hu
    split at h <;> try (simp only [bdT] at h; contradiction)
    rename_i ps hps
    simp only [bdT] at h
    unfold bldS at h
    simp only [Option.bind_eq_some_iff, Option.some.injEq] at h
    obtain ⟨cells, hc, rfl⟩ := h
    have hp := run_places (P := P) (w := w) fs.toList ps hps
    have hp' : (fs.mapM fun f => do pure (f.offset, ← sizeOf f.type) : Sem (Array (Nat × Nat))).run P w = .ok ps.toArray w := by
      rw [Array.mapM_eq_mapM_toList, Sem.run_map, hp]; rfl
    have hc' : Instr.fill (fun i => ps.toArray[i]?) z.cells parts.toList = some cells := by simpa using hc
    simp only [Instr.build, Sem.run_bind, run_zero hi hz, Result.andThen_ok, run_underlying hu, hp', hc', Sem.run_pure]
  · rename_i n e hu
    split at h <;> try (simp only [bdT] at h; contradiction)
    rename_i j hj
    simp only [bdT] at h
    unfold bldA at h
    simp only [Option.bind_eq_some_iff, Option.some.injEq] at h
    obtain ⟨cells, hc, rfl⟩ := h
    simp only [Instr.build, Sem.run_bind, run_zero hi hz, Result.andThen_ok, run_underlying hu, run_sizeOf hj, hc, Sem.run_pure]

theorem elk_ok {t e : TypeId} {z : Array Value} {s b : Nat} (h : elk P t = .ok e z s b) : P.underlying t = some (.slice e) ∧ ∃ i v, P.info? e = some i ∧ i.zero = some v ∧ v.cells = z ∧ i.size = s ∧ i.bytes = b ∧ z.size = s ∧ 0 < s := by
  unfold elk at h
  split at h <;> try contradiction
  rename_i e' hu
  split at h <;> try contradiction
  rename_i i hi
  split at h <;> try contradiction
  rename_i v hz
  split at h <;> try contradiction
  rename_i h1 h2
  simp only [XK.ok.injEq] at h
  obtain ⟨rfl, rfl, rfl, rfl⟩ := h
  exact ⟨hu, i, v, hi, hz, rfl, rfl, rfl, Nat.eq_of_beq_eq_true h1, by simpa [Nat.blt_eq] using h2⟩

theorem run_buildSlice {t e : TypeId} {z : Array Value} {s b len : Nat} {parts : Array (Nat × Value)} {v : Value} {h' : Hp} (hk : elk P t = .ok e z s b) (hl : len * s ≤ 16777216)
    (h : bsl z s len e parts.toList w.heap = some (v, h')) : ∃ w', (Instr.buildSlice t len parts).run P w = .ok v w' ∧ w'.heap = h' ∧ Rst w w' := by
  obtain ⟨hu, i, zv, hi, hz, rfl, rfl, rfl, hzs, hpos⟩ := elk_ok hk
  unfold bsl at h
  simp only [Option.bind_eq_some_iff, Option.some.injEq, Prod.mk.injEq] at h
  obtain ⟨cells, hc, rfl, rfl⟩ := h
  have h24 : ¬ (len * i.size > 16777216) := by omega
  by_cases h0 : len * i.size = 0
  · refine ⟨{ w with heap := w.heap.push (.cells cells e) }, ?_, rfl, ⟨rfl, rfl, rfl⟩⟩
    have e0 : (Array.range (len * i.size)).map (fun x => zv.cells[x % zv.cells.size]!) = (Array.range (len * i.size)).map (fun x => (#[] : Array Value)[x % 0]!) := by
      rw [h0]; simp
    rw [e0] at hc
    simp only [Instr.buildSlice, Sem.run_bind, run_underlying hu, Result.andThen_ok, run_sizeOf hi, h24, h0, if_true, if_false, Sem.run_pure, newRow, run_newObj, Nat.reducePow, Nat.not_lt_zero, gt_iff_lt]
    rw [h0] at hc
    simp only [List.size_toArray, List.length_nil]
    rw [hc]
    rfl
  · refine ⟨{ w with heap := w.heap.push (.cells cells e) }, ?_, rfl, ⟨rfl, rfl, rfl⟩⟩
    simp only [Instr.buildSlice, Sem.run_bind, run_underlying hu, Result.andThen_ok, run_sizeOf hi, h24, h0, if_false, Sem.run_pure, newRow, run_newObj, Nat.reducePow, run_zero hi hz, hc]

theorem run_nw_alloc {e : TypeId} {i : TypeInfo} {z v : Value} {h' : Hp} (hi : P.info? e = some i) (hz : i.zero = some z) (h : nw z.cells e w.heap = some (v, h')) :
    ∃ w', (Instr.alloc e true (.tuple #[])).run P w = .ok v w' ∧ w'.heap = h' ∧ Rst w w' := by
  simp only [nw, Option.some.injEq, Prod.mk.injEq] at h
  obtain ⟨rfl, rfl⟩ := h
  refine ⟨{ w with heap := w.heap.push (.cells z.cells e) }, ?_, rfl, ⟨rfl, rfl, rfl⟩⟩
  simp [Instr.alloc, run_zero hi hz, newVar, newRow]

theorem run_nw_box {e : TypeId} {x v : Value} {h' : Hp} (h : nw x.cells e w.heap = some (v, h')) :
    ∃ w', (Instr.box e x).run P w = .ok v w' ∧ w'.heap = h' ∧ Rst w w' := by
  simp only [nw, Option.some.injEq, Prod.mk.injEq] at h
  obtain ⟨rfl, rfl⟩ := h
  refine ⟨{ w with heap := w.heap.push (.cells x.cells e) }, ?_, rfl, ⟨rfl, rfl, rfl⟩⟩
  simp [Instr.box, newVar, newRow]
end
end Go.En
