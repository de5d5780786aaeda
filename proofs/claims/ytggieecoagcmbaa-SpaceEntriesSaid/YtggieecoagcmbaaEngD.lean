/-
  The engine, part D: one operation.
-/
import Derived.Test.YtggieecoagcmbaaEngC
namespace Go.En

def Vb (o : Option Value) (k : Value → Prop) : Prop := ∃ v, o = some v ∧ k v
def Eb (o : Option (Value × Hp)) (k : Value → Hp → Prop) : Prop := ∃ v h', o = some (v, h') ∧ k v h'
def Sb (o : Option Hp) (k : Hp → Prop) : Prop := ∃ h', o = some h' ∧ k h'

/-- What a call of function f does. -/
def Sp (P : Program) (f : FuncId) (args : List Value) (h : Hp) (R : Value → Hp → Prop) : Prop :=
  ∀ w, w.heap = h → Calls P f args.toArray w fun e w' => ∃ v, e = .returned v ∧ R v w'.heap ∧ Rst w w'

/-- What a deferred call of function f does, at the door of a function that returns. -/
def SpD (P : Program) (f : FuncId) (args : List Value) (h : Hp) (R : Hp → Prop) : Prop :=
  ∀ w, w.heap = h → CallsDIn Fence.wide 0 P f args.toArray .returning w fun e u w' => u = .returning ∧ (∃ v, e = .returned v) ∧ R w'.heap ∧ Rst w w'

theorem Sp.mono {P : Program} {f : FuncId} {args : List Value} {h : Hp} {R R' : Value → Hp → Prop} (hr : ∀ v h, R v h → R' v h) (H : Sp P f args h R) : Sp P f args h R' :=
  fun w hw => (H w hw).mono fun _ _ ⟨v, e, r, s⟩ => ⟨v, e, hr _ _ r, s⟩

/-- A fence that lets everything in. -/
structure Wd (F : Fence) : Prop where
  fn : F.fn = fun _ => True
  depth : F.depth = none
  alive : F.alive = false
theorem Wd.wide : Wd Fence.wide := ⟨rfl, rfl, rfl⟩
theorem Wd.inRound {F : Fence} (h : Wd F) (l : Nat) : Wd (F.inRound l) := ⟨h.fn, h.depth, h.alive⟩
theorem Wd.fenced {F : Fence} (h : Wd F) (P : Program) : Machine.fenced P F = Machine.fenced P Fence.wide := by
  obtain ⟨fn, depth, alive, round⟩ := F
  obtain ⟨h1, h2, h3⟩ := h
  simp only at h1 h2 h3
  subst h1; subst h2; subst h3
  rfl
theorem Wd.calls {F : Fence} (h : Wd F) {n m : Nat} {P : Program} {f : FuncId} {args : Array Value} {w : World} {R : Ending → World → Prop} (hc : CallsIn Fence.wide m P f args w R) : CallsIn F n P f args w R := by
  refine ⟨by rw [h.fn]; trivial, fun cs _ => ?_⟩
  rw [h.fenced P]
  exact hc.2 cs (room_wide _)
theorem Wd.any {F : Fence} (h : Wd F) (f : FuncId) : F.fn f := by rw [h.fn]; trivial

def kcall (P : Program) : Op → Option (FuncId)
  | .call { callee := .value (.func f), .. } => match P.funcs[f]? with
    | some fn => match fn.name == "runtime.NumGoroutine", fn.body with
      | false, some _ => some f
      | _, _ => none
    | none => none
  | _ => none

/-- The functions that can be called: those with a body. -/
def okF (P : Program) (f : FuncId) : Bool :=
  match P.funcs[f]? with
  | some fn => !(fn.name == "runtime.NumGoroutine") && fn.body.isSome
  | none => false

/-! ### Operations that leave the heap alone -/
def vop (P : Program) (n : Nat) (env : Env) (op : Op) (h : Hp) : Option Value :=
  match op with
  | .pick c x y => (ev n env c).bind fun c => (ev n env x).bind fun x => (ev n env y).bind fun y => pk c x y
  | .load t x => (ev n env x).bind fun p => ldT (tyk P t) p h
  | .nilCheck x => (ev n env x).bind fun p => nck p
  | .binOp op t x y _ => (ev n env x).bind fun a => (ev n env y).bind fun b => bnT (eqk P t) op a b
  | .unOp op _ x => (ev n env x).bind fun a => uno op a
  | .convert s d x => (ev n env x).bind fun a => cvT (cvk P s d) a
  | .makeFunc fn first cap => (evs n env first.toList).bind fun f => (evs n env cap.toList).bind fun c => some (.func fn f.toArray c.toArray)
  | .slice t x lo hi mx => match hi, mx with
    | none, some _ => none
    | _, _ => (ev n env x).bind fun a => (evo n env lo).bind fun l => (evo n env hi).bind fun u => (evo n env mx).bind fun m => slT (ixk P t) a l u m
  | .fieldAddr s x f => (ev n env x).bind fun p => faT (fkk P s f) p
  | .field s x f => (ev n env x).bind fun p => fdT (fkk P s f) p
  | .indexAddr t x i => (ev n env x).bind fun a => (ev n env i).bind fun b => ixT (ixk P t) a b
  | .index t x i => (ev n env x).bind fun a => (ev n env i).bind fun b => idT (idk P t) a b
  | .entry it => (ev n env it).bind fun a => ent a h
  | .lookup t m k ok => (ev n env m).bind fun a => (ev n env k).bind fun b => lkT (mpk P t) ok a b h
  | .extract x i => (ev n env x).bind fun a => ext i a
  | .build t parts => (evp n env parts.toList).bind fun ps => bdT (bdk P t) ps
  | .call { callee := .builtin .len, args := ⟨[x]⟩, argTypes := ⟨t :: _⟩ } => (ev n env x).bind fun a => lnT (lnk P t) a h
  | .call { callee := .builtin .min, args := ⟨[x, y]⟩, .. } => (ev n env x).bind fun a => (ev n env y).bind fun b => mn a b
  | .call { callee := .builtin .max, args := ⟨[x, y]⟩, .. } => (ev n env x).bind fun a => (ev n env y).bind fun b => mx a b
  | _ => none

def isV : Op → Bool
  | .pick .. | .load .. | .nilCheck .. | .binOp .. | .unOp .. | .convert .. | .makeFunc .. | .slice .. | .fieldAddr .. | .field .. | .indexAddr .. | .index .. | .entry .. | .lookup .. | .extract .. | .build .. => true
  | .call { callee := .builtin .len, .. } | .call { callee := .builtin .min, .. } | .call { callee := .builtin .max, .. } => true
  | _ => false

/-- what a frame holds of an environment -/
def Holds (n : Nat) (env : Env) (ρ : Operand → Value) : Prop := ∀ x v, ev n env x = some v → ρ x = v

theorem Holds.evs {n : Nat} {env : Env} {ρ : Operand → Value} (hρ : Holds n env ρ) : ∀ {xs : List Operand} {vs : List Value}, evs n env xs = some vs → xs.map ρ = vs
  | [], vs, h => by simp only [En.evs, Option.some.injEq] at h; subst h; rfl
  | x :: r, vs, h => by
    simp only [En.evs, Option.bind_eq_some_iff, Option.some.injEq] at h
    obtain ⟨v, hv, us, hu, rfl⟩ := h
    simp [hρ _ _ hv, Holds.evs hρ hu]
theorem Holds.evp {n : Nat} {env : Env} {ρ : Operand → Value} (hρ : Holds n env ρ) : ∀ {xs : List (Nat × Operand)} {vs : List (Nat × Value)}, evp n env xs = some vs → xs.map (fun x => (x.1, ρ x.2)) = vs
  | [], vs, h => by simp only [En.evp, Option.some.injEq] at h; subst h; rfl
  | (i, x) :: r, vs, h => by
    simp only [En.evp, Option.bind_eq_some_iff, Option.some.injEq] at h
    obtain ⟨v, hv, us, hu, rfl⟩ := h
    simp [hρ _ _ hv, Holds.evp hρ hu]
theorem Holds.evo {n : Nat} {env : Env} {ρ : Operand → Value} (hρ : Holds n env ρ) {x : Option Operand} {v : Option Value} (h : evo n env x = some v) : x.map ρ = v := by
  cases x with
  | none => simp only [En.evo, Option.some.injEq] at h; subst h; rfl
  | some x =>
    simp only [En.evo, Option.bind_eq_some_iff, Option.some.injEq] at h
    obtain ⟨u, hu, rfl⟩ := h
    simp [hρ _ _ hu]
theorem Holds.parts {n : Nat} {env : Env} {ρ : Operand → Value} (hρ : Holds n env ρ) {xs : Array (Nat × Operand)} {vs : List (Nat × Value)} (h : En.evp n env xs.toList = some vs) :
    (xs.map fun (i, x) => (i, ρ x)) = vs.toArray := by
  rw [← Holds.evp hρ h]
  apply Array.ext'
  simp

theorem run_vop {P : Program} {w : World} {n : Nat} {env : Env} {ρ : Operand → Value} (hρ : Holds n env ρ) {o : Oper} {v : Value} (h : vop P n env o.op w.heap = some v) :
    (execOp ρ o).run P w = .ok (.value v) w := by
  unfold execOp
  cases hop : o.op <;> rw [hop] at h <;> simp only [vop] at h <;> (try contradiction) <;> dsimp only
  case pick c x y =>
    simp only [Option.bind_eq_some_iff] at h
    obtain ⟨cv, hc, xv, hx, yv, hy, h⟩ := h
    unfold pk at h
    split at h <;> try contradiction
    rename_i b
    simp only [Option.some.injEq] at h
    rw [hρ _ _ hc, hρ _ _ hx, hρ _ _ hy]
    simp [asBool, h]
  case load t x =>
    simp only [Option.bind_eq_some_iff] at h
    obtain ⟨p, hp, h⟩ := h
    rw [hρ _ _ hp]
    simp only [Sem.run_bind, run_loadAt h, Result.andThen_ok, Sem.run_pure]
  case nilCheck x =>
    simp only [Option.bind_eq_some_iff] at h
    obtain ⟨p, hp, h⟩ := h
    rw [hρ _ _ hp]
    unfold nck at h
    split at h <;> try contradiction
    all_goals (simp only [Option.some.injEq] at h; subst h; rfl)
  case binOp op t x y yt =>
    simp only [Option.bind_eq_some_iff] at h
    obtain ⟨a, ha, b, hb, h⟩ := h
    rw [hρ _ _ ha, hρ _ _ hb]
    have := run_bnT (P := P) (w := w) (ox := x) (oy := y) h
    simp only [Sem.run_bind] at this ⊢
    rw [this]
    rfl
  case unOp op t x =>
    simp only [Option.bind_eq_some_iff] at h
    obtain ⟨p, hp, h⟩ := h
    rw [hρ _ _ hp]
    simp only [Sem.run_bind, run_uno h, Result.andThen_ok, Sem.run_pure]
  case convert s d x =>
    simp only [Option.bind_eq_some_iff] at h
    obtain ⟨p, hp, h⟩ := h
    rw [hρ _ _ hp]
    simp only [Sem.run_bind, run_cvT h, Result.andThen_ok, Sem.run_pure]
  case makeFunc fn first cap =>
    simp only [Option.bind_eq_some_iff, Option.some.injEq] at h
    obtain ⟨f, hf, c, hc, rfl⟩ := h
    have e1 := Holds.evs hρ hf
    have e2 := Holds.evs hρ hc
    have e1' : first.map ρ = f.toArray := by rw [← e1]; apply Array.ext'; simp
    have e2' : cap.map ρ = c.toArray := by rw [← e2]; apply Array.ext'; simp
    rw [e1', e2']
    rfl
  case slice t x lo hi mx =>
    have hm : hi = none → mx = none := by
      intro e
      subst e
      cases mx with
      | none => rfl
      | some _ => simp at h
    have h' : ((ev n env x).bind fun a => (evo n env lo).bind fun l => (evo n env hi).bind fun u => (evo n env mx).bind fun m => slT (ixk P t) a l u m) = some v := by
      split at h
      · contradiction
      · exact h
    simp only [Option.bind_eq_some_iff] at h'
    obtain ⟨a, ha, l, hl, u, hu, m, hmm, h'⟩ := h'
    rw [hρ _ _ ha, Holds.evo hρ hl, Holds.evo hρ hu, Holds.evo hρ hmm]
    have hm' : u = none → m = none := by
      intro e
      have := Holds.evo hρ hu
      rw [e] at this
      have : hi = none := by cases hi <;> simp_all
      have h2 := Holds.evo hρ hmm
      rw [hm this] at h2
      simpa using h2.symm
    simp only [Sem.run_bind, run_sliceAt hm' h', Result.andThen_ok, Sem.run_pure]
  case fieldAddr s x f =>
    simp only [Option.bind_eq_some_iff] at h
    obtain ⟨p, hp, h⟩ := h
    rw [hρ _ _ hp]
    simp only [Sem.run_bind, run_fieldAt h, Result.andThen_ok, Sem.run_pure]
  case field s x f =>
    simp only [Option.bind_eq_some_iff] at h
    obtain ⟨p, hp, h⟩ := h
    rw [hρ _ _ hp]
    simp only [Sem.run_bind, run_field h, Result.andThen_ok, Sem.run_pure]
  case indexAddr t x i =>
    simp only [Option.bind_eq_some_iff] at h
    obtain ⟨p, hp, q, hq, h⟩ := h
    rw [hρ _ _ hp, hρ _ _ hq]
    simp only [Sem.run_bind, run_indexAt h, Result.andThen_ok, Sem.run_pure]
  case index t x i =>
    simp only [Option.bind_eq_some_iff] at h
    obtain ⟨p, hp, q, hq, h⟩ := h
    rw [hρ _ _ hp, hρ _ _ hq]
    simp only [Sem.run_bind, run_index h, Result.andThen_ok, Sem.run_pure]
  case entry it =>
    simp only [Option.bind_eq_some_iff] at h
    obtain ⟨p, hp, h⟩ := h
    rw [hρ _ _ hp]
    simp only [Sem.run_bind, run_ent h, Result.andThen_ok, Sem.run_pure]
  case lookup t m k ok =>
    simp only [Option.bind_eq_some_iff] at h
    obtain ⟨p, hp, q, hq, h⟩ := h
    rw [hρ _ _ hp, hρ _ _ hq]
    simp only [Sem.run_bind, run_lookup h, Result.andThen_ok, Sem.run_pure]
  case extract x i =>
    simp only [Option.bind_eq_some_iff] at h
    obtain ⟨p, hp, h⟩ := h
    rw [hρ _ _ hp]
    simp only [Sem.run_bind, run_ext h, Result.andThen_ok, Sem.run_pure]
  case build t parts =>
    simp only [Option.bind_eq_some_iff] at h
    obtain ⟨ps, hps, h⟩ := h
    rw [Holds.parts hρ hps]
    simp only [Sem.run_bind, run_build (parts := ps.toArray) h, Result.andThen_ok, Sem.run_pure]
  case call c =>
    split at h <;> try contradiction
    · rename_i hc
      simp only [Op.call.injEq] at hc
      subst hc
      rename_i x t ts
      simp only [Option.bind_eq_some_iff] at h
      obtain ⟨a, ha, h⟩ := h
      have := run_len (P := P) (w := w) (ts := ⟨t :: ts⟩) (ty := o.type) (t := t) (by simp) h
      simp only [resolve, invoke, builtin, Sem.run_bind, Sem.run_pure, Result.andThen_ok, List.map_toArray, List.map_cons, List.map_nil, hρ _ _ ha, this]
    · rename_i hc
      simp only [Op.call.injEq] at hc
      subst hc
      simp only [Option.bind_eq_some_iff] at h
      obtain ⟨a, ha, b, hb, h⟩ := h
      have := run_min2 (P := P) (w := w) h
      simp only [resolve, invoke, builtin, Sem.run_bind, Sem.run_pure, Result.andThen_ok, List.map_toArray, List.map_cons, List.map_nil, hρ _ _ ha, hρ _ _ hb, Builtin.min_, List.foldlM_cons, List.foldlM_nil, this]
    · rename_i hc
      simp only [Op.call.injEq] at hc
      subst hc
      simp only [Option.bind_eq_some_iff] at h
      obtain ⟨a, ha, b, hb, h⟩ := h
      have := run_max2 (P := P) (w := w) h
      simp only [resolve, invoke, builtin, Sem.run_bind, Sem.run_pure, Result.andThen_ok, List.map_toArray, List.map_cons, List.map_nil, hρ _ _ ha, hρ _ _ hb, Builtin.max_, List.foldlM_cons, List.foldlM_nil, this]

end Go.En
