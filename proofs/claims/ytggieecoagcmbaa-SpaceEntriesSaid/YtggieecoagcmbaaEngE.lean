/-
  The engine, part E: operations that turn the heap; calls.
-/
import Derived.Test.YtggieecoagcmbaaEngD
namespace Go.En

/-- a call of a function value: 'Y': what a call of a loop's yield does -/
def Cl (P : Program) (f : FuncId) (args : List Value) (h : Hp) (k : Value → Hp → Prop) : Prop := okF P f = true ∧ Sp P f args h k
def Cv (C : FuncId → List Value → Hp → (Value → Hp → Prop) → Prop) (Y : Nat → List Value → Hp → (Value → Hp → Prop) → Prop) (f : Value) (args : List Value) (h : Hp) (k : Value → Hp → Prop) : Prop :=
  (∃ g first cap, f = .func (.func g) first cap ∧ C g (first.toList ++ args ++ cap.toList) h k) ∨
  (∃ l, f = .func (.yield l) #[] #[] ∧ Y l args h k)

/-- What a call of the loop l's yield does. -/
def Sy (P : Program) (l : Nat) (args : List Value) (h : Hp) (R : Value → Hp → Prop) : Prop :=
  ∀ w, w.heap = h → ∃ r : Loop, (Instr.getLoop l).run P w = .ok r w ∧ args.length = r.params.size ∧
    RoundIn Fence.wide 0 P l r.fn ((r.params.zip args.toArray).foldl (fun tmps (t, a) => tmps.setIfInBounds t a) r.tmps) r.assign r.body w
      fun e w' => ∃ v, e = .returned v ∧ R v w'.heap ∧ Rst w w'

/-- One operation that turns the heap. -/
def eop (P : Program) (n : Nat) (env : Env) (op : Op) (h : Hp) (k : Value → Hp → Prop) : Prop :=
  match op with
  | .alloc e => match zrk P e with
    | some z => Eb (nw z e h) k
    | none => False
  | .box e x => match ev n env x with
    | some v => Eb (nw v.cells e h) k
    | none => False
  | .buildSlice t len parts => match evp n env parts.toList, elk P t with
    | some ps, .ok e z s _ => match Nat.ble (len * s) 16777216 with
      | true => Eb (bsl z s len e ps h) k
      | false => False
    | _, _ => False
  | .store t a x => match ev n env a, ev n env x, P.info? t with
    | some p, some v, some i => Sb (sto i.size p v h) (k undef)
    | _, _, _ => False
  | .mapUpdate t m kk x => match ev n env m, ev n env kk, ev n env x, mpk P t with
    | some m, some q, some v, .ok kd _ => Sb (mup kd m q v h) (k undef)
    | _, _, _, _ => False
  | .insert t m kk x => match ev n env m, ev n env kk, ev n env x, mpk P t with
    | some m, some q, some v, .ok kd _ => Sb (mup kd m q v h) (k undef)
    | _, _, _, _ => False
  | .makeMap _ none => Eb (mmk h) k
  | .makeSlice t l c => match ev n env l, ev n env c, elk P t with
    | some l, some c, .ok e z s b => Eb (msl z s b e l c h) k
    | _, _, _ => False
  | .mapEntry t m kk => match ev n env m, ev n env kk, mpk P t with
    | some m, some q, .ok kd z => Eb (men kd z m q h) k
    | _, _, _ => False
  | .entryStore _ m s x => match ev n env m, ev n env s, ev n env x with
    | some m, some q, some v => Sb (mst m q v h) (k undef)
    | _, _, _ => False
  | .range t m => match ev n env m, P.underlying t with
    | some m, some (.map ..) => Eb (rng m h) k
    | _, _ => False
  | .next it false => match ev n env it with
    | some it => Nx it h k
    | none => False
  | .call { callee := .builtin .append, args := ⟨[x, y]⟩, argTypes := ⟨[t, u]⟩ } => match ev n env x, ev n env y, Nat.beq t u, elk P t with
    | some s, some x, true, .ok e z sz b => Ap e z sz b s x h k
    | _, _, _, _ => False
  | .call { callee := .builtin .copy, args := ⟨[x, y]⟩, argTypes := ⟨[t, _]⟩ } => match ev n env x, ev n env y, elk P t with
    | some d, some s, .ok _ _ sz _ => Eb (cpy sz d s h) k
    | _, _, _ => False
  | .call { callee := .builtin .clear, args := ⟨[x]⟩, argTypes := ⟨[t]⟩ } => match ev n env x, elk P t with
    | some s, .ok _ z _ _ => Eb (clrS z s h) k
    | _, _ => False
  | .call { callee := .builtin .delete, args := ⟨[x, y]⟩, argTypes := ⟨t :: _⟩ } => match ev n env x, ev n env y, mpk P t with
    | some m, some q, .ok kd _ => Eb (mdl kd m q h) k
    | _, _, _ => False
  | .call { callee := .value (.func f), args, .. } => match evs n env args.toList with
    | some vs => Cl P f vs h k
    | none => False
  | .call { callee := .value x, args, .. } => match ev n env x, evs n env args.toList with
    | some v, some vs => Cv (Cl P) (Sy P) v vs h k
    | _, _ => False
  | _ => False

/-- a run of one operation that ends in a value, in the model's words -/
def okE (P : Program) (F : Fence) (n : Nat) (o : Oper) (a : Act) (w : World) (k : Value → Hp → Prop) : Prop :=
  ∀ (next : Act → World → Prop) (Q : Exit → Act → World → Prop), (∀ v w', Rst w w' → k v w'.heap → next (a.put o.dst v) w') → o.wpIn F n P a w next Q

theorem okE_value {P : Program} {F : Fence} (hF : Wd F) {n : Nat} {o : Oper} {a : Act} {w w' : World} {v : Value} {k : Value → Hp → Prop} (hd : ∀ c, o.op ≠ .defer c)
    (hr : (execOp a.eval o).run P w = .ok (.value v) w') (hs : Rst w w') (hk : k v w'.heap) : okE P F n o a w k := by
  intro next Q hn
  refine ⟨fun f _ => hF.any f, ?_⟩
  rw [Oper.semAt_eq _ _ _ hd, hr, Oper.uponIn_value]
  exact hn v w' hs hk
theorem okE_skip {P : Program} {F : Fence} (hF : Wd F) {n : Nat} {o : Oper} {a : Act} {w w' : World} {k : Value → Hp → Prop} (hd : ∀ c, o.op ≠ .defer c)
    (hr : (execOp a.eval o).run P w = .ok .skip w') (hs : Rst w w') (hk : k undef w'.heap) : okE P F n o a w k := by
  intro next Q hn
  refine ⟨fun f _ => hF.any f, ?_⟩
  rw [Oper.semAt_eq _ _ _ hd, hr, Oper.uponIn_skip]
  exact hn undef w' hs hk

theorem okF_ok {P : Program} {f : FuncId} (h : okF P f = true) : ∃ fn, P.funcs[f]? = some fn ∧ (fn.name == "runtime.NumGoroutine") = false ∧ fn.body.isNone = false := by
  unfold okF at h
  split at h
  · rename_i fn hf
    simp only [Bool.and_eq_true, Bool.not_eq_true'] at h
    exact ⟨fn, hf, h.1, by cases hb : fn.body <;> simp_all⟩
  · contradiction

theorem run_callFunc {P : Program} {w : World} {f : FuncId} (h : okF P f = true) (args : Array Value) : (callFunc f args).run P w = .ok (.enter f args) w := by
  obtain ⟨fn, hf, h1, h2⟩ := okF_ok h
  unfold callFunc
  simp only [Sem.run_bind, run_program, Result.andThen_ok, hf, h1, h2, Bool.false_eq_true, if_false, Sem.run_pure]

theorem okE_enter {P : Program} {F : Fence} (hF : Wd F) {n : Nat} {o : Oper} {a : Act} {w : World} {f : FuncId} {args : List Value} {k : Value → Hp → Prop} (hd : ∀ c, o.op ≠ .defer c)
    (hr : (execOp a.eval o).run P w = .ok (.enter f args.toArray) w) (hc : Sp P f args w.heap k) : okE P F n o a w k := by
  intro next Q hn
  refine ⟨fun f _ => hF.any f, ?_⟩
  rw [Oper.semAt_eq _ _ _ hd, hr, Oper.uponIn_enter]
  refine ⟨fun e => (by rw [hF.depth] at e; cases e), hF.calls (m := 0) (callsIn_wide.2 ((hc w rfl).mono ?_))⟩
  rintro e w' ⟨v, rfl, hk, hs⟩
  exact hn v w' hs hk

theorem Wd.round {F : Fence} (h : Wd F) {n m : Nat} {P : Program} {l : Nat} {f : FuncId} {tmps : Array Value} {as body : Code} {w : World} {R : Ending → World → Prop}
    (hc : RoundIn Fence.wide m P l f tmps as body w R) : RoundIn F n P l f tmps as body w R := by
  refine ⟨h.any f, fun c cs _ => ?_⟩
  rw [h.fenced P]
  exact hc.2 c cs (room_wide _)

theorem okE_round {P : Program} {F : Fence} (hF : Wd F) {n : Nat} {o : Oper} {a : Act} {w : World} {l : Nat} {args : List Value} {k : Value → Hp → Prop} (hd : ∀ c, o.op ≠ .defer c)
    (hr : (execOp a.eval o).run P w = (Instr.yield l args.toArray).run P w) (hc : Sy P l args w.heap k) : okE P F n o a w k := by
  intro next Q hn
  obtain ⟨r, hg, hl, hround⟩ := hc w rfl
  refine ⟨fun f _ => hF.any f, ?_⟩
  have hy : (Instr.yield l args.toArray).run P w = .ok (.round l r.fn ((r.params.zip args.toArray).foldl (fun tmps (t, a) => tmps.setIfInBounds t a) r.tmps) r.assign r.body) w := by
    unfold Instr.yield
    have : args.toArray.size = r.params.size := by simpa using hl
    simp only [Sem.run_bind, hg, Result.andThen_ok, this, ne_eq, not_true_eq_false, if_false, Sem.run_pure]
  rw [Oper.semAt_eq _ _ _ hd, hr, hy, Oper.uponIn_round]
  refine ⟨fun e => (by rw [hF.depth] at e; cases e), (hF.round (m := 0) hround).mono ?_⟩
  rintro e w' ⟨v, rfl, hk, hs⟩
  exact hn v w' hs hk

theorem run_eop {P : Program} {F : Fence} (hF : Wd F) {n : Nat} {m : Nat} {env : Env} {o : Oper} {a : Act} {w : World} {k : Value → Hp → Prop} {ρ : Operand → Value} (hρ : Holds n env ρ) (hcong : execOp a.eval o = execOp ρ o) (h : eop P n env o.op w.heap k) :
    okE P F m o a w k := by
  cases hop : o.op <;> rw [hop] at h <;> simp only [eop] at h <;> try contradiction
  case alloc e =>
    split at h <;> try contradiction
    rename_i z hz
    unfold zrk at hz
    simp only [Option.bind_eq_some_iff, Option.some.injEq] at hz
    obtain ⟨i, hi, zv, hzv, rfl⟩ := hz
    obtain ⟨v, h', he, hk⟩ := h
    obtain ⟨w', hr, rfl, hs⟩ := run_nw_alloc hi hzv he
    refine okE_value hF (by simp [hop]) (w' := w') ?_ hs hk
    rw [hcong]; unfold execOp; rw [hop]; simp only [Sem.run_bind, hr, Result.andThen_ok, Sem.run_pure]
  case box e x =>
    split at h <;> try contradiction
    rename_i u hu
    obtain ⟨v, h', he, hk⟩ := h
    obtain ⟨w', hr, rfl, hs⟩ := run_nw_box (P := P) he
    refine okE_value hF (by simp [hop]) (w' := w') ?_ hs hk
    rw [hcong]; unfold execOp; rw [hop]; simp only [hρ _ _ hu, Sem.run_bind, hr, Result.andThen_ok, Sem.run_pure]
  case buildSlice t len parts =>
    split at h <;> try contradiction
    rename_i ps e z s b hps hel
    split at h <;> try contradiction
    rename_i hle
    obtain ⟨v, h', he, hk⟩ := h
    obtain ⟨w', hr, rfl, hs⟩ := run_buildSlice (P := P) (parts := ps.toArray) hel (Nat.le_of_ble_eq_true hle) he
    refine okE_value hF (by simp [hop]) (w' := w') ?_ hs hk
    rw [hcong]; unfold execOp; rw [hop]; simp only [Holds.parts hρ hps, Sem.run_bind, hr, Result.andThen_ok, Sem.run_pure]
  case insert t m kk x =>
    split at h <;> try contradiction
    rename_i mv q v kd z hm hq hv hkd
    obtain ⟨h', he, hk⟩ := h
    obtain ⟨w', hr, rfl, hs⟩ := run_mapUpdate (P := P) hkd he
    refine okE_skip hF (by simp [hop]) (w' := w') ?_ hs hk
    rw [hcong]; unfold execOp; rw [hop]; simp only [hρ _ _ hm, hρ _ _ hq, hρ _ _ hv, Sem.run_bind, hr, Result.andThen_ok, Sem.run_pure]
  case store t p x =>
    split at h <;> try contradiction
    rename_i pv xv i hp hx hi
    obtain ⟨h', he, hk⟩ := h
    obtain ⟨w', hr, rfl, hs⟩ := run_storeAt (P := P) hi he
    refine okE_skip hF (by simp [hop]) (w' := w') ?_ hs hk
    rw [hcong]; unfold execOp; rw [hop]; simp only [hρ _ _ hp, hρ _ _ hx, Sem.run_bind, hr, Result.andThen_ok, Sem.run_pure]
  case makeMap t r =>
    cases r with
    | some _ => simp only at h
    | none =>
      simp only at h
      obtain ⟨v, h', he, hk⟩ := h
      obtain ⟨w', hr, rfl, hs⟩ := run_makeMap (P := P) (t := t) he
      refine okE_value hF (by simp [hop]) (w' := w') ?_ hs hk
      rw [hcong]; unfold execOp; rw [hop]; simp only [Option.map_none, Sem.run_bind, hr, Result.andThen_ok, Sem.run_pure]
  case makeSlice t l c =>
    split at h <;> try contradiction
    rename_i lv cv e z s b hl hc hel
    obtain ⟨v, h', he, hk⟩ := h
    obtain ⟨w', hr, rfl, hs⟩ := run_makeSlice (P := P) hel he
    refine okE_value hF (by simp [hop]) (w' := w') ?_ hs hk
    rw [hcong]; unfold execOp; rw [hop]; simp only [hρ _ _ hl, hρ _ _ hc, Sem.run_bind, hr, Result.andThen_ok, Sem.run_pure]
  case mapUpdate t m kk x =>
    split at h <;> try contradiction
    rename_i mv q v kd z hm hq hv hkd
    obtain ⟨h', he, hk⟩ := h
    obtain ⟨w', hr, rfl, hs⟩ := run_mapUpdate (P := P) hkd he
    refine okE_skip hF (by simp [hop]) (w' := w') ?_ hs hk
    rw [hcong]; unfold execOp; rw [hop]; simp only [hρ _ _ hm, hρ _ _ hq, hρ _ _ hv, Sem.run_bind, hr, Result.andThen_ok, Sem.run_pure]
  case mapEntry t m kk =>
    split at h <;> try contradiction
    rename_i mv q kd z hm hq hkd
    obtain ⟨v, h', he, hk⟩ := h
    obtain ⟨w', hr, rfl, hs⟩ := run_mapEntry (P := P) hkd he
    refine okE_value hF (by simp [hop]) (w' := w') ?_ hs hk
    rw [hcong]; unfold execOp; rw [hop]; simp only [hρ _ _ hm, hρ _ _ hq, Sem.run_bind, hr, Result.andThen_ok, Sem.run_pure]
  case entryStore t m s x =>
    split at h <;> try contradiction
    rename_i mv q v hm hq hv
    obtain ⟨h', he, hk⟩ := h
    obtain ⟨w', hr, rfl, hs⟩ := run_entryStore (P := P) (t := t) he
    refine okE_skip hF (by simp [hop]) (w' := w') ?_ hs hk
    rw [hcong]; unfold execOp; rw [hop]; simp only [hρ _ _ hm, hρ _ _ hq, hρ _ _ hv, Sem.run_bind, hr, Result.andThen_ok, Sem.run_pure]
  case range t m =>
    split at h <;> try contradiction
    rename_i mv kt et hm hu
    obtain ⟨v, h', he, hk⟩ := h
    obtain ⟨w', hr, rfl, hs⟩ := run_range (P := P) hu he
    refine okE_value hF (by simp [hop]) (w' := w') ?_ hs hk
    rw [hcong]; unfold execOp; rw [hop]; simp only [hρ _ _ hm, Sem.run_bind, hr, Result.andThen_ok, Sem.run_pure]
  case next it s =>
    cases s with
    | true => simp only at h
    | false =>
      simp only at h
      split at h <;> try contradiction
      rename_i iv hi
      obtain ⟨v, w', hr, hs, hk⟩ := run_next (P := P) (ty := o.type) h
      refine okE_value hF (by simp [hop]) (w' := w') ?_ hs hk
      rw [hcong]; unfold execOp; rw [hop]; simp only [hρ _ _ hi, Sem.run_bind, hr, Result.andThen_ok, Sem.run_pure]
  case call c =>
    split at h <;> try contradiction
    · rename_i hc
      simp only [Op.call.injEq] at hc
      subst hc
      split at h <;> try contradiction
      rename_i x y t u s xv e z sz b hs hx htu hel
      have := Nat.eq_of_beq_eq_true htu
      subst this
      obtain ⟨v, w', hr, hs', hk⟩ := run_append (P := P) (ty := o.type) hel h
      refine okE_value hF (by simp [hop]) (w' := w') ?_ hs' hk
      rw [hcong]; unfold execOp; rw [hop]
      simp only [resolve, invoke, builtin, Sem.run_bind, Sem.run_pure, Result.andThen_ok, List.map_toArray, List.map_cons, List.map_nil, hρ _ _ hs, hρ _ _ hx, hr]
    · rename_i op0 x0 y0 t0 u0 hc
      simp only [Op.call.injEq] at hc
      subst hc
      split at h <;> try contradiction
      rename_i d s e z sz b hd hs hel
      obtain ⟨v, h', he, hk⟩ := h
      obtain ⟨w', hr, rfl, hs'⟩ := run_copy (P := P) (ts := u0) (ty := o.type) hel he
      refine okE_value hF (by simp [hop]) (w' := w') ?_ hs' hk
      rw [hcong]; unfold execOp; rw [hop]
      simp only [resolve, invoke, builtin, Sem.run_bind, Sem.run_pure, Result.andThen_ok, List.map_toArray, List.map_cons, List.map_nil, hρ _ _ hd, hρ _ _ hs, hr]
    · rename_i op0 x0 t0 hc
      simp only [Op.call.injEq] at hc
      subst hc
      split at h <;> try contradiction
      rename_i s e z sz b hs hel
      obtain ⟨v, h', he, hk⟩ := h
      obtain ⟨w', hr, rfl, hs'⟩ := run_clear (P := P) (ty := o.type) hel he
      refine okE_value hF (by simp [hop]) (w' := w') ?_ hs' hk
      rw [hcong]; unfold execOp; rw [hop]
      simp only [resolve, invoke, builtin, Sem.run_bind, Sem.run_pure, Result.andThen_ok, List.map_toArray, List.map_cons, List.map_nil, hρ _ _ hs, hr]
    · rename_i op0 x0 y0 t0 ts0 hc
      simp only [Op.call.injEq] at hc
      subst hc
      split at h <;> try contradiction
      rename_i m q kd z hm hq hkd
      obtain ⟨v, h', he, hk⟩ := h
      obtain ⟨w', hr, rfl, hs'⟩ := run_delete (P := P) (ts := ⟨t0 :: ts0⟩) (t := t0) (ty := o.type) (by simp) hkd he
      refine okE_value hF (by simp [hop]) (w' := w') ?_ hs' hk
      rw [hcong]; unfold execOp; rw [hop]
      simp only [resolve, invoke, builtin, Sem.run_bind, Sem.run_pure, Result.andThen_ok, List.map_toArray, List.map_cons, List.map_nil, hρ _ _ hm, hρ _ _ hq, hr]
    · rename_i op0 f args ts hc
      simp only [Op.call.injEq] at hc
      subst hc
      split at h <;> try contradiction
      rename_i vs hvs
      obtain ⟨hf, h⟩ := h
      refine okE_enter hF (by simp [hop]) (f := f) (args := vs) ?_ h
      have e1 : args.map ρ = vs.toArray := by rw [← Holds.evs hρ hvs]; apply Array.ext'; simp
      rw [hcong]; unfold execOp; rw [hop]
      have hev : ρ (.func f) = .func (.func f) #[] #[] := hρ _ _ rfl
      simp only [resolve, hev, Deferred.ofValue, invoke, Sem.run_bind, Sem.run_pure, Result.andThen_ok, e1, Array.empty_append, Array.append_empty, run_callFunc hf]
    · rename_i op0 x args ts hnf hc
      simp only [Op.call.injEq] at hc
      subst hc
      split at h <;> try contradiction
      rename_i fv vs hx hvs
      have e1 : args.map ρ = vs.toArray := by rw [← Holds.evs hρ hvs]; apply Array.ext'; simp
      rcases h with ⟨g, first, cap, rfl, ⟨hg, hc⟩⟩ | ⟨l, rfl, hy⟩
      · refine okE_enter hF (by simp [hop]) (f := g) (args := first.toList ++ vs ++ cap.toList) ?_ hc
        rw [hcong]; unfold execOp; rw [hop]
        have e2 : first ++ vs.toArray ++ cap = (first.toList ++ vs ++ cap.toList).toArray := by simp
        simp only [resolve, hρ _ _ hx, Deferred.ofValue, invoke, Sem.run_bind, Sem.run_pure, Result.andThen_ok, e1, e2, run_callFunc hg]
      · refine okE_round hF (by simp [hop]) (l := l) (args := vs) ?_ hy
        rw [hcong]; unfold execOp; rw [hop]
        simp only [resolve, hρ _ _ hx, Deferred.ofValue, invoke, Sem.run_bind, Sem.run_pure, Result.andThen_ok, e1, Array.empty_append]
end Go.En
