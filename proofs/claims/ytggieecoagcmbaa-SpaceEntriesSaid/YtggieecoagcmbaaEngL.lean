/-
  The engine, part L: functions.
-/
import Derived.Test.YtggieecoagcmbaaEngK
import Derived.RangeFuncLeaves
namespace Go.En

def zipA (i : Nat) : List Value → Env
  | [] => []
  | v :: r => (i, v) :: zipA (i + 1) r

/-- the results, read behind the deferred calls -/
def resL (P : Program) (env : Env) (h : Hp) : List ResultVar → (List Value → Prop) → Prop
  | [], k => k []
  | .tmp t :: r, k => match lk env t with
    | some v => resL P env h r fun vs => k (v :: vs)
    | none => False
  | .cell a t :: r, k => match lk env a with
    | some p => Vb (ldT (tyk P t) p h) fun v => resL P env h r fun vs => k (v :: vs)
    | none => False

def one (vs : List Value) : Value :=
  match vs with
  | [v] => v
  | vs => .tuple ⟨vs⟩

/-- the mark of a range over a function: its block of deferred calls is shut, and was empty -/
def tkd (r : Nat) (h : Hp) : Option Hp :=
  match h[r]? with
  | some (.deferred (some [])) => some (h.setIfInBounds r (.deferred none))
  | _ => none
theorem run_tkd {P : Program} {w : World} {r : Nat} {h' : Hp} (h : tkd r w.heap = some h') : ∃ w', (Instr.takeDeferred r).run P w = .ok [] w' ∧ w'.heap = h' ∧ Rst w w' := by
  unfold tkd at h
  split at h <;> try contradiction
  rename_i hr
  simp only [Option.some.injEq] at h
  refine ⟨{ w with heap := h' }, ?_, rfl, ⟨rfl, rfl, rfl⟩⟩
  rw [← h]
  simp [Instr.takeDeferred, getObj, setObj, Sem.run, hr]

def runD (P : Program) (ds : List Value) (h : Hp) (k : Hp → Prop) : Prop :=
  match ds with
  | [] => k h
  | .func (.func f) ⟨first⟩ ⟨[]⟩ :: r => match okF P f with
    | true => SpD P f first h fun h' => runD P r h' k
    | false => False
  | .pointer (some ⟨q, 0, none⟩) :: r => Sb (tkd q h) fun h' => runD P r h' k
  | _ => False

def leave (P : Program) (n : Nat) (rs : List ResultVar) (R : Value → Hp → Prop) (env : Env) (h : Hp) : Prop :=
  match lk env n with
  | some (.tuple ⟨ds⟩) => runD P ds h fun h => resL P env h rs fun vs => R (one vs) h
  | _ => False

def leave0 (P : Program) (n : Nat) (rs : List ResultVar) (R : Value → Hp → Prop) (env : Env) (h : Hp) : Prop :=
  match lk env n with
  | some (.tuple ⟨[]⟩) => resL P env h rs fun vs => R (one vs) h
  | _ => False

def resOk (n : Nat) : List ResultVar → Bool
  | [] => true
  | .tmp t :: r => match Nat.blt t n with
    | true => resOk n r
    | false => false
  | .cell t _ :: r => match Nat.blt t n with
    | true => resOk n r
    | false => false

/-- What the text of a function says that a call of it does. -/
def denF (P : Program) (fn : Func) (c : Code) (ht : HT) (args : List Value) (h : Hp) (R : Value → Hp → Prop) : Prop :=
  match Nat.ble args.length fn.ntmps, resOk fn.ntmps fn.results.toList with
  | true, true => den P fn.ntmps false c ht { brk := fun _ _ _ => False, ret := leave P fn.ntmps fn.results.toList R } ((fn.ntmps, .tuple ⟨[]⟩) :: zipA 0 args) h (leave P fn.ntmps fn.results.toList R)
  | _, _ => False
def denF0 (P : Program) (fn : Func) (c : Code) (ht : HT) (args : List Value) (h : Hp) (R : Value → Hp → Prop) : Prop :=
  match Nat.ble args.length fn.ntmps, resOk fn.ntmps fn.results.toList with
  | true, true => den P fn.ntmps false c ht { brk := fun _ _ _ => False, ret := leave0 P fn.ntmps fn.results.toList R } ((fn.ntmps, .tuple ⟨[]⟩) :: zipA 0 args) h (leave0 P fn.ntmps fn.results.toList R)
  | _, _ => False

theorem lk_zipA : ∀ (args : List Value) (i t : Nat) (v : Value), lk (zipA i args) t = some v → i ≤ t ∧ args[t - i]? = some v
  | [], i, t, v, h => by simp [zipA, lk] at h
  | u :: r, i, t, v, h => by
    simp only [zipA] at h
    rw [lk_put] at h
    split at h
    · rename_i e; subst e; simpa using h
    · obtain ⟨h1, h2⟩ := lk_zipA r (i + 1) t v h
      refine ⟨by omega, ?_⟩
      have : t - i = (t - (i + 1)) + 1 := by omega
      rw [this, List.getElem?_cons_succ]
      exact h2

theorem agr_start {n : Nat} {args : List Value} (hle : args.length ≤ n) : Agr n ((n, .tuple ⟨[]⟩) :: zipA 0 args) { tmps := args.toArray ++ Array.replicate (n - args.toArray.size) undef, defers := [] } := by
  refine ⟨by simp; omega, fun t v ht hv => ?_, fun v hv => ?_⟩
  · rw [lk_put, if_neg (by omega)] at hv
    obtain ⟨_, h2⟩ := lk_zipA args 0 t v hv
    have hlt : t < args.length := by
      rcases Nat.lt_or_ge t args.length with h | h
      · exact h
      · rw [List.getElem?_eq_none (by simpa using h)] at h2; cases h2
    simp only [Nat.sub_zero] at h2
    simp only [Array.getD_eq_getD_getElem?]
    rw [Array.getElem?_append_left (by simpa using hlt)]
    simp [h2]
  · rw [lk_put, if_pos rfl] at hv
    simp only [Option.some.injEq] at hv
    exact ⟨[], hv.symm, rfl⟩

def rvR (tmps : Array Value) : ResultVar → Sem Value
  | .tmp t => pure (tmps.getD t undef)
  | .cell a t => do loadVar t (← asAddr (tmps.getD a undef))
theorem results_eq (fn : Func) (tmps : Array Value) : results fn tmps = (do let vs ← fn.results.mapM (rvR tmps); pure (if h : vs.size = 1 then vs[0] else .tuple vs)) := by
  unfold results
  congr 2

theorem run_resL {P : Program} {w : World} {n : Nat} {env : Env} {a : Act} (hA : Agr n env a) : ∀ (rs : List ResultVar) (k : List Value → Prop), resOk n rs = true → resL P env w.heap rs k →
    ∃ vs, (rs.mapM (rvR a.tmps)).run P w = .ok vs w ∧ k vs
  | [], k, _, h => ⟨[], rfl, h⟩
  | .tmp t :: r, k, hr, h => by
    simp only [resOk] at hr
    split at hr <;> try contradiction
    rename_i ht
    have ht' : t < n := by simpa [Nat.blt_eq] using ht
    simp only [resL] at h
    split at h <;> try contradiction
    rename_i v hv
    obtain ⟨vs, h1, h2⟩ := run_resL hA r _ hr h
    refine ⟨v :: vs, ?_, h2⟩
    simp only [List.mapM_cons, Sem.run_bind, rvR, Sem.run_pure, Result.andThen_ok, h1, hA.sl t v ht' hv]
  | .cell ad t :: r, k, hr, h => by
    simp only [resOk] at hr
    split at hr <;> try contradiction
    rename_i ht
    have ht' : ad < n := by simpa [Nat.blt_eq] using ht
    simp only [resL] at h
    split at h <;> try contradiction
    rename_i p hp
    obtain ⟨v, hv, h⟩ := h
    obtain ⟨vs, h1, h2⟩ := run_resL hA r _ hr h
    refine ⟨v :: vs, ?_, h2⟩
    have hl := run_loadAt (P := P) hv
    have hpp : ∃ ad', p = .pointer (some ad') := by
      cases hk : tyk P t <;> rw [hk] at hv <;> simp only [ldT] at hv
      · unfold ldc at hv; split at hv <;> first | contradiction | exact ⟨_, rfl⟩
      · unfold lda at hv; split at hv <;> first | contradiction | exact ⟨_, rfl⟩
      · contradiction
    obtain ⟨ad', rfl⟩ := hpp
    simp only [Instr.loadAt, Instr.sureAddr, Sem.run_bind, Sem.run_pure, Result.andThen_ok] at hl
    have hone : (rvR a.tmps (.cell ad t)).run P w = .ok v w := by
      simp only [rvR, Sem.run_bind, hA.sl ad _ ht' hp, asAddr, Sem.run_pure, Result.andThen_ok, hl]
    simp only [List.mapM_cons, Sem.run_bind, hone, Sem.run_pure, Result.andThen_ok, h1]

theorem run_results {P : Program} {w : World} {fn : Func} {env : Env} {a : Act} {k : Value → Prop} (hA : Agr fn.ntmps env a) (hr : resOk fn.ntmps fn.results.toList = true) (h : resL P env w.heap fn.results.toList fun vs => k (one vs)) :
    ∃ v, (results fn a.tmps).run P w = .ok v w ∧ k v := by
  obtain ⟨vs, h1, h2⟩ := run_resL hA fn.results.toList _ hr h
  refine ⟨one vs, ?_, h2⟩
  rw [results_eq]
  simp only [Sem.run_bind]
  rw [Array.mapM_eq_mapM_toList, Sem.run_map, h1]
  simp only [Result.andThen_ok, Sem.run_pure]
  congr 1
  match vs with
  | [] => rfl
  | [v] => rfl
  | _ :: _ :: _ => simp [one]

theorem runD_sound {P : Program} {fn : Func} {tmps : Array Value} {R : Value → Hp → Prop} {w0 : World} {k : Hp → Prop} (hk : ∀ w, Rst w0 w → k w.heap → ∃ v, (results fn tmps).run P w = .ok v w ∧ R v w.heap) :
    ∀ (ds : List Value) (w : World), Rst w0 w → runD P ds w.heap k → LeavesInM Fence.wide 0 P fn tmps (fun e w' => ∃ v, e = .returned v ∧ R v w'.heap ∧ Rst w0 w') (ds.map dec) .returning w
  | [], w, hR, h => by
    obtain ⟨v, h1, h2⟩ := hk w hR h
    exact ⟨v, h1, v, rfl, h2, hR⟩
  | d :: ds, w, hR, h => by
    unfold runD at h
    split at h
    · rename_i he; cases he
    · rename_i f first r he
      simp only [List.cons.injEq] at he
      obtain ⟨rfl, rfl⟩ := he
      split at h <;> try contradiction
      rename_i hf
      refine ⟨by simp, .inr ⟨fun e => (by cases e), .func f, #[], f, first.toArray, rfl, ?_, fun _ _ => trivial, ?_⟩⟩
      · have := run_callFunc (w := w) hf first.toArray
        show (callFunc f (first.toArray ++ #[])).run P w = _
        simpa using this
      · refine (h w rfl).mono ?_
        rintro e u w' ⟨rfl, ⟨v, rfl⟩, hk', hs⟩
        exact runD_sound hk _ w' (hR.trans hs) hk'
    · rename_i q r he
      simp only [List.cons.injEq] at he
      obtain ⟨rfl, rfl⟩ := he
      obtain ⟨h', ht, hk'⟩ := h
      obtain ⟨w', e1, rfl, hs⟩ := run_tkd (P := P) ht
      exact ⟨by simp, .inl ⟨q, w', rfl, e1, runD_sound hk _ w' (hR.trans hs) hk'⟩⟩
    · contradiction

theorem sp_of_den {P : Program} {f : FuncId} {fn : Func} {c : Code} {ht : HT} {args : List Value} {h : Hp} {R : Value → Hp → Prop} (hf : P.funcs[f]? = some fn) (hb : fn.body = some c) (hm : P.follows .mixedOrders = true)
    (H : denF P fn c ht args h R) : Sp P f args h R := by
  intro w hw
  subst hw
  unfold denF at H
  split at H <;> try contradiction
  rename_i hle hr
  have hA := agr_start (n := fn.ntmps) (args := args) (Nat.le_of_ble_eq_true hle)
  refine callsIn_wide.1 (callsIn_of_wp_marks (n := 0) hf hb trivial (wpIn_mono (den_sound Wd.wide (m := 0) (fun _ => rfl) hm (w0 := w) c ht _ _ _ [] (fun _ => none) _ w (fun t ht => by cases ht) (fun t ht => by cases ht) hA (.refl w) H) fun e a w' hq => ?_))
  have fin : ∀ env, Agr fn.ntmps env a → Rst w w' → leave P fn.ntmps fn.results.toList R env w'.heap → LeavesInM Fence.wide 0 P fn a.tmps (fun e w' => ∃ v, e = .returned v ∧ R v w'.heap ∧ Rst w w') a.defers .returning w' := by
    intro env hA' hR' hl
    unfold leave at hl
    split at hl
    · rename_i ds hds
      obtain ⟨ds', hds', hdf⟩ := hA'.df _ hds
      simp only [Value.tuple.injEq, Array.mk.injEq] at hds'
      subst hds'
      rw [hdf]
      exact runD_sound (fun w1 hR1 hk => run_results (k := fun v => R v w1.heap) hA' hr hk) ds w' hR' hl
    · contradiction
  cases e with
  | normal => obtain ⟨env, hA', hR', _, hl⟩ := hq; exact fin env hA' hR' hl
  | ret => obtain ⟨env, hA', hR', _, hl⟩ := hq; exact fin env hA' hR' hl
  | exit id => obtain ⟨env, hA', hR', _, hl⟩ := hq; exact hl.elim
  | goto l => exact hq.elim
  | panic ch => exact hq.elim
  | outgrown => exact hq.elim

theorem spd_of_den {P : Program} {f : FuncId} {fn : Func} {c : Code} {ht : HT} {args : List Value} {h : Hp} {R : Hp → Prop} (hf : P.funcs[f]? = some fn) (hb : fn.body = some c) (hm : P.follows .mixedOrders = true)
    (H : denF0 P fn c ht args h fun _ h' => R h') : SpD P f args h R := by
  intro w hw
  subst hw
  unfold denF0 at H
  split at H <;> try contradiction
  rename_i hle hr
  have hA := agr_start (n := fn.ntmps) (args := args) (Nat.le_of_ble_eq_true hle)
  refine (callsDIn_of_wp (R := fun e w' => (∃ v, e = .returned v) ∧ R w'.heap ∧ Rst w w') hf hb trivial (wpIn_mono (den_sound Wd.wide (m := 0) (fun _ => rfl) hm (w0 := w) c ht _ _ _ [] (fun _ => none) _ w (fun t ht => by cases ht) (fun t ht => by cases ht) hA (.refl w) H) fun e a w' hq => ?_)).mono fun e u w' hh => ⟨hh.1, hh.2.1, hh.2.2.1, hh.2.2.2⟩
  have fin : ∀ env, Agr fn.ntmps env a → Rst w w' → leave0 P fn.ntmps fn.results.toList (fun _ h' => R h') env w'.heap → a.defers = [] ∧ ∃ v, (results fn a.tmps).run P w' = .ok v w' ∧ ((∃ v', Ending.returned v = .returned v') ∧ R w'.heap ∧ Rst w w') := by
    intro env hA' hR' hl
    unfold leave0 at hl
    split at hl
    · rename_i hds
      obtain ⟨ds', hds', hdf⟩ := hA'.df _ hds
      simp only [Value.tuple.injEq, Array.mk.injEq] at hds'
      subst hds'
      obtain ⟨v, h1, h2⟩ := run_results (k := fun _ => R w'.heap) hA' hr hl
      exact ⟨hdf, v, h1, ⟨v, rfl⟩, h2, hR'⟩
    · contradiction
  cases e with
  | normal => obtain ⟨env, hA', hR', _, hl⟩ := hq; exact fin env hA' hR' hl
  | ret => obtain ⟨env, hA', hR', _, hl⟩ := hq; exact fin env hA' hR' hl
  | exit id => obtain ⟨env, hA', hR', _, hl⟩ := hq; exact hl.elim
  | goto l => exact hq.elim
  | panic ch => exact hq.elim
  | outgrown => exact hq.elim

/-- what clean texts speak of: calls, calls of a loop's yield, deferred calls -/
structure Sys where
  C : FuncId → List Value → Hp → (Value → Hp → Prop) → Prop
  Y : Nat → List Value → Hp → (Value → Hp → Prop) → Prop
  D : FuncId → List Value → Hp → (Hp → Prop) → Prop
def Sys.of (P : Program) : Sys := { C := Cl P, Y := Sy P, D := SpD P }

def denFn (P : Program) (fn : Func) (ht : HT) (args : List Value) (h : Hp) (R : Value → Hp → Prop) : Prop :=
  match fn.body with
  | some c => denF P fn c ht args h R
  | none => False
def denFn0 (P : Program) (fn : Func) (ht : HT) (args : List Value) (h : Hp) (R : Value → Hp → Prop) : Prop :=
  match fn.body with
  | some c => denF0 P fn c ht args h R
  | none => False

theorem cl_of_den {P : Program} {f : FuncId} {fn : Func} {ht : HT} {args : List Value} {h : Hp} {R : Value → Hp → Prop} {A : Prop} (hf : P.funcs[f]? = some fn) (hok : okF P f = true) (hm : P.follows .mixedOrders = true)
    (he : A = denFn P fn ht args h R) (H : A) : (Sys.of P).C f args h R := by
  subst he
  refine ⟨hok, ?_⟩
  unfold denFn at H
  split at H
  · rename_i c hc; exact sp_of_den hf hc hm H
  · exact H.elim
theorem spd_of_denFn {P : Program} {f : FuncId} {fn : Func} {ht : HT} {args : List Value} {h : Hp} {R : Hp → Prop} {A : Prop} (hf : P.funcs[f]? = some fn) (hm : P.follows .mixedOrders = true)
    (he : A = denFn0 P fn ht args h (fun _ h' => R h')) (H : A) : (Sys.of P).D f args h R := by
  subst he
  unfold denFn0 at H
  split at H
  · rename_i c hc; exact spd_of_den hf hc hm H
  · exact H.elim
end Go.En
