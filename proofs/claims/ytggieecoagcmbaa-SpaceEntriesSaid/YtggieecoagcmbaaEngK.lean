/-
  The engine, part K: code; functions.
-/
import Derived.Test.YtggieecoagcmbaaEngJ
import Derived.RangeFuncIn
namespace Go.En

/-- what the walk is told: the order of a drawn region; which slots go through a join or a loop (S: changed; K: kept) -/
inductive HT where
  | z
  | o (ord : OT)
  | s (l r : HT)
  | j (S K : List Nat) (l r : HT)
  | c (l r : HT)
  | b (t : HT)
  | l (S K : List Nat) (t : HT)
  | r (l r : HT)

structure Ex where
  brk : Nat → Env → Hp → Prop
  ret : Env → Hp → Prop

def pick (S : List Nat) (env : Env) : Option (List Value) :=
  match S with
  | [] => some []
  | s :: r => match lk env s with
    | none => none
    | some v => match pick r env with
      | none => none
      | some vs => some (v :: vs)
def withL (S : List Nat) (env : Env) (f : List Value → Prop) : Prop :=
  match pick S env with
  | some vs => f vs
  | none => False
def zipv : List Nat → List Value → Env
  | s :: r, v :: vs => (s, v) :: zipv r vs
  | _, _ => []
def app : Env → Env → Env
  | [], e => e
  | x :: r, e => x :: app r e

def memB (t : Nat) : List Nat → Bool
  | [] => false
  | x :: r => match Nat.beq x t with
    | true => true
    | false => memB t r
def noDst (t : Nat) : List Oper → Bool
  | [] => true
  | o :: r => match o.dst with
    | none => noDst t r
    | some d => match Nat.beq d t with
      | true => false
      | false => noDst t r
def noDef : List Oper → Bool
  | [] => true
  | o :: r => match o.op with
    | .defer _ => false
    | _ => noDef r
/-- slot t (or the deferred calls: t = n) is the same behind the code, and known there -/
def keeps (n t : Nat) : Code → HT → Bool
  | .skip, _ | .exit _, _ | .ret, _ | .label _, _ => true
  | .region _ ops _, _ => match noDst t ops.toList with
    | true => match Nat.beq t n with
      | true => noDef ops.toList
      | false => true
    | false => false
  | .seq a b, .s l r => match keeps n t a l with
    | true => keeps n t b r
    | false => false
  | .seq a b, .j S K l r => match memB t K, memB t S, keeps n t a l with
    | true, false, true => keeps n t b r
    | _, _, _ => false
  | .cond _ a b, .c l r => match keeps n t a l with
    | true => keeps n t b r
    | false => false
  | .block _ b, .b t' => keeps n t b t'
  | .scope b, t' => keeps n t b t'
  | .loop b, .l S K t' => match memB t K, memB t S with
    | true, false => keeps n t b t'
    | _, _ => false
  | .rangeFunc _ _ _ _, .r _ _ => match Nat.beq t n with
    | true => false
    | false => true
  | _, _ => false
def keepsAll (n : Nat) (K : List Nat) (c : Code) (h : HT) : Bool :=
  match K with
  | [] => true
  | t :: r => match keeps n t c h with
    | true => keepsAll n r c h
    | false => false

/-! ### A range over a function -/
/-- which of two: by a label's number -/
def Xb (i c : Nat) (A B : Prop) : Prop :=
  match Nat.beq i c with
  | true => A
  | false => B
/-- the loop's record at l, whatever its state -/
def LpAt (o : Loop) (l : Nat) (h : Hp) : Prop := ∃ st pd, h[l]? = some (.loop { o with state := st, pending := pd })
def bgn (l : Nat) (h : Hp) : Option Hp :=
  match h[l]? with
  | some (.loop r) => match r.state with
    | .ready => some (h.setIfInBounds l (.loop { r with state := .busy }))
    | _ => none
  | _ => none
def fin (l : Nat) (j : Option Code) (h : Hp) : Option Hp :=
  match h[l]? with
  | some (.loop r) => some (h.setIfInBounds l (.loop { r with state := if j.isNone then .ready else .done, pending := j }))
  | _ => none
def endl (l : Nat) (h : Hp) : Option (Option Code × Hp) :=
  match h[l]? with
  | some (.loop r) => match r.state with
    | .busy => none
    | _ => some (r.pending, h.setIfInBounds l (.loop { r with state := .exhausted }))
  | _ => none
def Jp (j : Option Code) (A B : Prop) (C : Nat → Prop) : Prop :=
  match j with
  | none => A
  | some .ret => B
  | some (.exit id) => C id
  | some _ => False
/-- the statement: 'round' is what a round does, 'aft' what comes behind the loop -/
def Rg (C : FuncId → List Value → Hp → (Value → Hp → Prop) → Prop) (Y : Nat → List Value → Hp → (Value → Hp → Prop) → Prop) (g : Value) (h : Hp) (round : Nat → List Value → Hp → (Value → Hp → Prop) → Prop) (aft : Option Code → Hp → Prop) : Prop :=
  ∀ o : Loop, o.state = .ready → o.pending = none → (∀ args h' R, LpAt o (h.size + 1) h' → round (h.size + 1) args h' R → Y (h.size + 1) args h' R) →
    ∃ f first cap, g = .func (.func f) first cap ∧ C f (first.toList ++ [.func (.yield (h.size + 1)) #[] #[]] ++ cap.toList) ((h.push (.deferred (some []))).push (.loop o)) fun _ h2 => ∃ j h3, endl (h.size + 1) h2 = some (j, h3) ∧ aft j h3
def zipP : List Nat → List Value → Env → Env
  | p :: ps, v :: vs, e => zipP ps vs ((p, v) :: e)
  | _, _, e => e
def A0 (args : List Value) (f : Prop) : Prop :=
  match args with
  | [] => f
  | _ => False
def A1 (args : List Value) (f : Value → Prop) : Prop :=
  match args with
  | [v] => f v
  | _ => False
def A2 (args : List Value) (f : Value → Value → Prop) : Prop :=
  match args with
  | [v, w] => f v w
  | _ => False
/-- a round's arguments -/
def withA (ps : List Nat) (env : Env) (args : List Value) (f : Env → Prop) : Prop :=
  match ps with
  | [] => A0 args (f env)
  | [p] => A1 args fun v => f ((p, v) :: env)
  | [p, q] => A2 args fun v w => f ((q, w) :: (p, v) :: env)
  | _ => False
theorem withA_spec {ps : List Nat} {env : Env} {args : List Value} {f : Env → Prop} (h : withA ps env args f) : args.length = ps.length ∧ f (zipP ps args env) := by
  unfold withA at h
  split at h
  · unfold A0 at h; split at h
    · exact ⟨rfl, h⟩
    · exact h.elim
  · unfold A1 at h; split at h
    · exact ⟨rfl, h⟩
    · exact h.elim
  · unfold A2 at h; split at h
    · exact ⟨rfl, h⟩
    · exact h.elim
  · exact h.elim
def allBlt (n : Nat) : List Nat → Bool
  | [] => true
  | p :: r => match Nat.blt p n with
    | true => allBlt n r
    | false => false

def den (P : Program) (n : Nat) (rd : Bool) : Code → HT → Ex → Env → Hp → (Env → Hp → Prop) → Prop
  | .skip, _, _, env, h, k => k env h
  | .label _, _, _, env, h, k => k env h
  | .exit id, _, E, env, h, _ => E.brk id env h
  | .ret, _, E, env, h, _ => E.ret env h
  | .region _ ops false, _, _, env, h, k => match dstOk n ops.toList with
    | true => denL P n rd ops ops.toList env [] h k
    | false => False
  | .region _ ops true, .o ord, _, env, h, k => match okD P n ops (Region.before ops) ord with
    | true => denD P n ops (Region.before ops) ord [] env [] h k
    | false => False
  | .seq a b, .s l r, E, env, h, k => den P n rd a l E env h fun env' h' => den P n rd b r E env' h' k
  | .seq a b, .j S K l r, E, env, h, k => match keepsAll n K a l, pick K env with
    | true, some kv => JnC S (fun vs h' => den P n rd b r E (app (zipv S vs) (zipv K kv)) h' k) fun J => den P n rd a l E env h fun env' h' => withL S env' fun vs => J vs h'
    | _, _ => False
  | .cond c x y, .c l r, E, env, h, k => match ev n env c with
    | some v => Br v (den P n rd x l E env h k) (den P n rd y r E env h k)
    | none => False
  | .block id b, .b t, E, env, h, k => den P n rd b t { E with brk := fun i env' h' => Xb i id (k env' h') (E.brk i env' h') } env h k
  | .rangeFunc g ps as x, .r ta tx, E, env, h, k => match rd, allBlt n ps.toList, ev n env g, lk env n with
    | false, true, some gv, some (.tuple ⟨ds⟩) => Rg (Cl P) (Sy P) gv h
        (fun l args h' R => withA ps.toList ((n, .tuple ⟨[]⟩) :: env) args fun env0 => den P n true as ta { brk := fun _ _ _ => False, ret := fun _ _ => False } env0 h' fun env1 h1 => Sb (bgn l h1) fun h2 =>
              den P n true x tx { brk := fun id _ h3 => Sb (fin l (some (.exit id)) h3) fun h4 => R (.bool false) h4, ret := fun _ h3 => Sb (fin l (some .ret) h3) fun h4 => R (.bool false) h4 } env1 h2 fun _ h3 => Sb (fin l none h3) fun h4 => R (.bool true) h4)
        fun j h3 => Jp j (k ((n, .tuple ⟨.pointer (some ⟨h.size, 0, none⟩) :: ds⟩) :: env) h3) (E.ret ((n, .tuple ⟨.pointer (some ⟨h.size, 0, none⟩) :: ds⟩) :: env) h3) fun id => E.brk id ((n, .tuple ⟨.pointer (some ⟨h.size, 0, none⟩) :: ds⟩) :: env) h3
    | _, _, _, _ => False
  | .scope b, t, E, env, h, k => den P n rd b t E env h k
  | .loop b, .l S K t, E, env, h, _ => match keepsAll n K b t, pick K env, pick S env with
    | true, some kv, some iv => LpC S iv h fun vs h' again => den P n rd b t E (app (zipv S vs) (zipv K kv)) h' fun env' h'' => withL S env' fun vs' => again vs' h''
    | _, _, _ => False
  | _, _, _, _, _, _ => False

theorem memB_iff {t : Nat} : ∀ {l : List Nat}, memB t l = true ↔ t ∈ l
  | [] => by simp [memB]
  | x :: r => by
    unfold memB
    split
    · rename_i h; have := Nat.eq_of_beq_eq_true h; subst this; simp
    · rename_i h
      rw [memB_iff]
      have : x ≠ t := fun e => by subst e; simp at h
      simp [Ne.symm this]

theorem noDst_mem {t : Nat} : ∀ {l : List Oper}, noDst t l = true → ∀ o ∈ l, o.dst ≠ some t
  | [], _, o, ho => by cases ho
  | x :: r, h, o, ho => by
    unfold noDst at h
    split at h
    · rename_i hn
      rcases List.mem_cons.1 ho with rfl | ho
      · rw [hn]; simp
      · exact noDst_mem h o ho
    · rename_i d hd
      split at h
      · contradiction
      · rename_i hb
        rcases List.mem_cons.1 ho with rfl | ho
        · rw [hd]; intro e; cases e; simp at hb
        · exact noDst_mem h o ho
theorem noDef_mem : ∀ {l : List Oper}, noDef l = true → ∀ o ∈ l, ∀ c, o.op ≠ .defer c
  | [], _, o, ho => by cases ho
  | x :: r, h, o, ho => by
    unfold noDef at h
    split at h
    · contradiction
    · rename_i hn
      rcases List.mem_cons.1 ho with rfl | ho
      · exact fun c e => hn c e
      · exact noDef_mem h o ho

theorem lk_app {e e' : Env} {t : Nat} : lk (app e e') t = (match lk e t with
    | some v => some v
    | none => lk e' t) := by
  induction e with
  | nil => rfl
  | cons x r ih =>
    obtain ⟨d, v⟩ := x
    simp only [app, lk]
    split
    · rfl
    · exact ih

theorem pick_spec {env : Env} : ∀ {S : List Nat} {vs : List Value}, pick S env = some vs → ∀ t v, lk (zipv S vs) t = some v → lk env t = some v
  | [], vs, h, t, v, hv => by simp [zipv, lk] at hv
  | s :: r, vs, h, t, v, hv => by
    unfold pick at h
    split at h <;> try contradiction
    rename_i u hu
    split at h <;> try contradiction
    rename_i us hus
    simp only [Option.some.injEq] at h
    subst h
    simp only [zipv] at hv
    rw [lk_put] at hv
    split at hv
    · rename_i e; subst e; rw [hu]; exact hv
    · exact pick_spec hus t v hv
theorem pick_mem {env : Env} : ∀ {S : List Nat} {vs : List Value}, pick S env = some vs → ∀ t ∈ S, lk (zipv S vs) t = lk env t
  | [], vs, h, t, ht => by cases ht
  | s :: r, vs, h, t, ht => by
    unfold pick at h
    split at h <;> try contradiction
    rename_i u hu
    split at h <;> try contradiction
    rename_i us hus
    simp only [Option.some.injEq] at h
    subst h
    simp only [zipv]
    rw [lk_put]
    split
    · rename_i e; subst e; exact hu.symm
    · rename_i e
      rcases List.mem_cons.1 ht with h1 | h1
      · exact absurd h1.symm e
      · exact pick_mem hus t h1
theorem pick_some {env : Env} : ∀ {S : List Nat} {vs : List Value}, pick S env = some vs → ∀ t ∈ S, (lk env t).isSome = true
  | [], vs, h, t, ht => by cases ht
  | s :: r, vs, h, t, ht => by
    unfold pick at h
    split at h <;> try contradiction
    rename_i u hu
    split at h <;> try contradiction
    rename_i us hus
    rcases List.mem_cons.1 ht with rfl | h1
    · rw [hu]; rfl
    · exact pick_some hus t h1
theorem lk_zip_none {S : List Nat} {vs : List Value} {t : Nat} (h : t ∉ S) : lk (zipv S vs) t = none := by
  induction S generalizing vs with
  | nil => cases vs <;> rfl
  | cons s r ih =>
    cases vs with
    | nil => rfl
    | cons v vs =>
      simp only [zipv]
      rw [lk_put, if_neg (fun e => h (by rw [e]; exact List.mem_cons_self ..))]
      exact ih fun hh => h (List.mem_cons_of_mem _ hh)

theorem Agr.sub {n : Nat} {env env' : Env} {a : Act} (h : Agr n env' a) (hs : ∀ t v, lk env t = some v → lk env' t = some v) : Agr n env a :=
  ⟨h.sz, fun t v ht hv => h.sl t v ht (hs t v hv), fun v hv => h.df v (hs n v hv)⟩

def QQ (n : Nat) (w0 : World) (T : List Nat) (b : Nat → Option Value) (E : Ex) (k : Env → Hp → Prop) : Exit → Act → World → Prop
  | .normal, a, w => ∃ env, Agr n env a ∧ Rst w0 w ∧ (∀ t ∈ T, lk env t = b t) ∧ k env w.heap
  | .exit id, a, w => ∃ env, Agr n env a ∧ Rst w0 w ∧ (∀ t ∈ T, lk env t = b t) ∧ E.brk id env w.heap
  | .ret, a, w => ∃ env, Agr n env a ∧ Rst w0 w ∧ (∀ t ∈ T, lk env t = b t) ∧ E.ret env w.heap
  | _, _, _ => False

theorem wpIn_scope {P : Program} {F : Fence} {m : Nat} {c : Code} {Q : Exit → Act → World → Prop} {a : Act} {w : World} (hg : ∀ l a w, ¬ Q (.goto l) a w) (h : c.wpIn F m P Q a w) : (Code.scope c).wpIn F m P Q a w := by
  intro b k cs hro hb hr
  have s1 : _root_.Go.step P (lone (b.atR a (.code (.scope c) :: k)) cs w) = .next (lone (b.atR a (.code c :: .inScope c :: k)) cs w) :=
    step_lone_go (by simp [stepG, stepG.exec, Frame.atR])
  have f1 : (lone (b.atR a (.code (.scope c) :: k)) cs w).fenced P F := fenced_calm (fr := b.atR a (.code (.scope c) :: k)) hb hr rfl
  obtain ⟨e, a₁, w₁, hq, harr⟩ := h b (.inScope c :: k) cs hro hb hr
  cases e with
  | normal =>
    refine ⟨.normal, a₁, w₁, hq, .head f1 s1 (StepsIn.trans harr (.one (fenced_calm (fr := b.atR a₁ (.inScope c :: k)) hb hr rfl) ?_))⟩
    exact step_lone_go (by simp [stepG, stepG.exec, Frame.atR])
  | exit id =>
    refine ⟨.exit id, a₁, w₁, hq, fun k' hk => .head f1 s1 (harr.1 k' (by simp [exitTo, hk])), fun hr' hk => ?_⟩
    obtain ⟨k₁, h1, h2⟩ := harr.2 hr' (by simp [exitTo, hk])
    exact ⟨k₁, h1, .head f1 s1 h2⟩
  | goto l => exact (hg _ _ _ hq).elim
  | ret => exact ⟨_, a₁, w₁, hq, .of_steps (.one f1 s1) harr⟩
  | panic ch => exact ⟨_, a₁, w₁, hq, .of_steps (.one f1 s1) harr⟩
  | outgrown => exact ⟨_, a₁, w₁, hq, .of_steps (b := b) (k := k) (cs := cs) (e := .outgrown) (.one f1 s1) harr⟩

theorem keepsAll_mem {n : Nat} {c : Code} {h : HT} : ∀ {K : List Nat}, keepsAll n K c h = true → ∀ t ∈ K, keeps n t c h = true
  | [], _, t, ht => by cases ht
  | x :: r, hk, t, ht => by
    unfold keepsAll at hk
    split at hk
    · rename_i hx
      rcases List.mem_cons.1 ht with rfl | ht
      · exact hx
      · exact keepsAll_mem hk t ht
    · contradiction

theorem agr_zip {n : Nat} : ∀ {ps : List Nat} {args : List Value} {env : Env} {tmps : Array Value}, allBlt n ps = true → Agr n env { tmps := tmps, defers := [] } →
    Agr n (zipP ps args env) { tmps := (ps.zip args).foldl (fun tmps (x : Nat × Value) => tmps.setIfInBounds x.1 x.2) tmps, defers := [] }
  | [], _, _, _, _, h => by simpa [zipP] using h
  | _ :: _, [], _, _, _, h => by simpa [zipP] using h
  | p :: ps, v :: vs, env, tmps, hp, h => by
    unfold allBlt at hp
    split at hp <;> try contradiction
    rename_i hpn
    have hpn : p < n := by simpa [Nat.blt_eq] using hpn
    have := h.put (dst := some p) (v := v) (fun d e => by simp only [Option.some.injEq] at e; omega)
    exact agr_zip (ps := ps) (args := vs) hp this

theorem run_bgn {P : Program} {w : World} {l : Nat} {h' : Hp} (h : bgn l w.heap = some h') : ∃ w', (Instr.beginRound l).run P w = .ok () w' ∧ w'.heap = h' ∧ Rst w w' := by
  unfold bgn at h
  split at h <;> try contradiction
  rename_i r hr
  split at h <;> try contradiction
  rename_i hs
  simp only [Option.some.injEq] at h
  refine ⟨{ w with heap := h' }, ?_, rfl, ⟨rfl, rfl, rfl⟩⟩
  simp [Instr.beginRound, Instr.getLoop, getObj, setObj, Sem.run, hr, hs, h]
theorem run_fin {P : Program} {w : World} {l : Nat} {j : Option Code} {h' : Hp} (h : fin l j w.heap = some h') : ∃ w', (Instr.endRound l j).run P w = .ok (.bool j.isNone) w' ∧ w'.heap = h' ∧ Rst w w' := by
  unfold fin at h
  split at h <;> try contradiction
  rename_i r hr
  simp only [Option.some.injEq] at h
  refine ⟨{ w with heap := h' }, ?_, rfl, ⟨rfl, rfl, rfl⟩⟩
  rw [← h]
  simp [Instr.endRound, Instr.getLoop, getObj, setObj, Sem.run, hr]
theorem run_endl {P : Program} {w : World} {l : Nat} {j : Option Code} {h' : Hp} (h : endl l w.heap = some (j, h')) : ∃ w', (Instr.endLoop l).run P w = .ok j w' ∧ w'.heap = h' ∧ Rst w w' := by
  unfold endl at h
  split at h <;> try contradiction
  rename_i r hr
  split at h <;> try contradiction
  rename_i hs
  simp only [Option.some.injEq, Prod.mk.injEq] at h
  refine ⟨{ w with heap := h' }, ?_, rfl, ⟨rfl, rfl, rfl⟩⟩
  rw [← h.1, ← h.2]
  have hs' : ¬ r.state = LoopState.busy := fun e => hs e
  simp [Instr.endLoop, Instr.getLoop, getObj, setObj, Sem.run, hr, hs']

theorem den_sound' {P : Program} {n : Nat} (hm : P.follows .mixedOrders = true) :
    ∀ (c : Code) {F : Fence} (hF : Wd F) {m : Nat} {rd : Bool} (hrd : rd = false → F.round = none) {w0 : World} (ht : HT) (E : Ex) (env : Env) (k : Env → Hp → Prop) (T : List Nat) (b : Nat → Option Value) (a : Act) (w : World), (∀ t ∈ T, keeps n t c ht = true) → (∀ t ∈ T, lk env t = b t) → Agr n env a → Rst w0 w →
      den P n rd c ht E env w.heap k → c.wpIn F m P (QQ n w0 T b E k) a w := by
  intro c
  induction c with
  | skip => intro F hF m rd hrd w0 ht E env k T b a w _ hb hA hR h; exact wpIn_skip ⟨env, hA, hR, hb, by simpa [den] using h⟩
  | label l => intro F hF m rd hrd w0 ht E env k T b a w _ hb hA hR h; exact wpIn_label ⟨env, hA, hR, hb, by simpa [den] using h⟩
  | exit id => intro F hF m rd hrd w0 ht E env k T b a w _ hb hA hR h; exact wpIn_exit ⟨env, hA, hR, hb, by simpa [den] using h⟩
  | ret => intro F hF m rd hrd w0 ht E env k T b a w _ hb hA hR h; exact wpIn_ret ⟨env, hA, hR, hb, by simpa [den] using h⟩
  | region id ops draw =>
    intro F hF m rd hrd w0 ht E env k T b a w hT hb hA hR h
    have hTd : ∀ o ∈ ops.toList, ∀ d, o.dst = some d → d ∉ T := by
      intro o ho d hd hdT
      have := hT d hdT
      unfold keeps at this
      split at this
      · rename_i hnd; exact noDst_mem hnd o ho hd
      · contradiction
    have hTn : n ∈ T → ∀ o ∈ ops.toList, ∀ c, o.op ≠ .defer c := by
      intro hnT
      have := hT n hnT
      unfold keeps at this
      split at this
      · have e : Nat.beq n n = true := by simp
        rw [e] at this
        exact noDef_mem this
      · contradiction
    cases draw with
    | false =>
      simp only [den] at h
      split at h
      · rename_i hn
        refine wpIn_region_list (denL_sound hF hrd hn hTd hTn (fun env' a' w' hA' hR' hb' hk => ⟨env', hA', hR', hb', hk⟩) ops.toList env [] a w hb (fun _ h => h) hA (KBok.nil _ _) hR h)
      · contradiction
    | true =>
      cases ht with
      | o ord =>
        simp only [den] at h
        split at h
        · rename_i hok
          exact denD_sound hF hm hok hTd (fun env' a' w' hA' hR' hb' hk => ⟨env', hA', hR', hb', hk⟩) hb hA hR h
        · contradiction
      | _ => simp [den] at h
  | seq x y ihx ihy =>
    intro F hF m rd hrd w0 ht E env k T b a w hT hb hA hR h
    cases ht with
    | s l r =>
      simp only [den] at h
      have hTx : ∀ t ∈ T, keeps n t x l = true := fun t ht => by have := hT t ht; simp only [keeps] at this; split at this <;> simp_all
      have hTy : ∀ t ∈ T, keeps n t y r = true := fun t ht => by have := hT t ht; simp only [keeps] at this; split at this <;> simp_all
      refine wpIn_seq (wpIn_mono (ihx hF hrd l E env _ T b a w hTx hb hA hR h) fun e a' w' hq => ?_)
      cases e with
      | normal =>
        obtain ⟨env', hA', hR', hb', hk⟩ := hq
        exact ihy hF hrd r E env' k T b a' w' hTy hb' hA' hR' hk
      | _ => exact hq
    | j S K l r =>
      simp only [den] at h
      split at h
      · rename_i kv hka hkv
        obtain ⟨J, hJ, hJK⟩ := JnC_sound h
        have hTx : ∀ t ∈ T, t ∈ K ∧ t ∉ S ∧ keeps n t x l = true ∧ keeps n t y r = true := by
          intro t ht
          have := hT t ht
          simp only [keeps] at this
          split at this
          · rename_i h1 h2 h3
            exact ⟨memB_iff.1 h1, (fun hs => by rw [memB_iff.2 hs] at h2; cases h2), h3, this⟩
          · contradiction
        refine wpIn_seq (wpIn_mono (ihx hF hrd l E env _ K (lk env) a w (keepsAll_mem hka) (fun _ _ => rfl) hA hR hJ) fun e a' w' hq => ?_)
        have hTb : ∀ (env' : Env), (∀ t ∈ K, lk env' t = lk env t) → ∀ t ∈ T, lk env' t = b t := fun env' hK t ht => (hK t (hTx t ht).1).trans (hb t ht)
        cases e with
        | normal =>
          obtain ⟨env', hA', hR', hK, hk⟩ := hq
          unfold withL at hk
          split at hk
          · rename_i vs hvs
            have hsub : ∀ t v, lk (app (zipv S vs) (zipv K kv)) t = some v → lk env' t = some v := by
              intro t v hv
              rw [lk_app] at hv
              split at hv
              · rename_i u hu; rw [pick_spec hvs t u hu]; exact hv
              · have h1 := pick_spec hkv t v hv
                by_cases hKt : t ∈ K
                · rw [hK t hKt]; exact h1
                · rw [lk_zip_none hKt] at hv; cases hv
            refine ihy hF hrd r E _ k T b a' w' (fun t ht => (hTx t ht).2.2.2) (fun t ht => ?_) (hA'.sub hsub) hR' (hJK _ _ hk)
            rw [lk_app, lk_zip_none (hTx t ht).2.1]
            simp only
            rw [pick_mem hkv t (hTx t ht).1]
            exact hb t ht
          · exact hk.elim
        | exit id =>
          obtain ⟨env', hA', hR', hK, hk⟩ := hq
          exact ⟨env', hA', hR', hTb env' hK, hk⟩
        | ret =>
          obtain ⟨env', hA', hR', hK, hk⟩ := hq
          exact ⟨env', hA', hR', hTb env' hK, hk⟩
        | _ => exact hq
      · contradiction
    | _ => simp [den] at h
  | cond c x y ihx ihy =>
    intro F hF m rd hrd w0 ht E env k T b a w hT hb hA hR h
    cases ht with
    | c l r =>
      simp only [den] at h
      have hTx : ∀ t ∈ T, keeps n t x l = true := fun t ht => by have := hT t ht; simp only [keeps] at this; split at this <;> simp_all
      have hTy : ∀ t ∈ T, keeps n t y r = true := fun t ht => by have := hT t ht; simp only [keeps] at this; split at this <;> simp_all
      split at h
      · rename_i v hv
        obtain ⟨t, rfl, h1, h2⟩ := Br_ex h
        refine wpIn_cond_split (hA.holds c _ hv) (fun e => ?_) (fun e => ?_)
        · exact ihx hF hrd l E env k T b a w hTx hb hA hR (h1 e)
        · exact ihy hF hrd r E env k T b a w hTy hb hA hR (h2 e)
      · contradiction
    | _ => simp [den] at h
  | block id x ih =>
    intro F hF m rd hrd w0 ht E env k T b a w hT hb hA hR h
    cases ht with
    | b t =>
      simp only [den] at h
      have hT' : ∀ s ∈ T, keeps n s x t = true := fun s hs => by have := hT s hs; simpa [keeps] using this
      refine wpIn_block (wpIn_mono (ih hF hrd t _ env k T b a w hT' hb hA hR h) fun e a' w' hq => ?_)
      cases e with
      | exit i =>
        obtain ⟨env', hA', hR', hK, hk⟩ := hq
        simp only [Exit.inBlock]
        cases hi : Nat.beq i id with
        | true =>
          rw [if_pos (Nat.eq_of_beq_eq_true hi)]
          refine ⟨env', hA', hR', hK, ?_⟩
          simp only [Xb, hi] at hk
          exact hk
        | false =>
          rw [if_neg (fun e => by subst e; simp at hi)]
          refine ⟨env', hA', hR', hK, ?_⟩
          simp only [Xb, hi] at hk
          exact hk
      | _ => exact hq
    | _ => simp [den] at h
  | scope x ih =>
    intro F hF m rd hrd w0 ht E env k T b a w hT hb hA hR h
    simp only [den] at h
    have hT' : ∀ s ∈ T, keeps n s x ht = true := fun s hs => by have := hT s hs; simpa [keeps] using this
    exact wpIn_scope (fun _ _ _ h => h) (ih hF hrd ht E env k T b a w hT' hb hA hR h)
  | loop x ih =>
    intro F hF m rd hrd w0 ht E env k T b a w hT hb hA hR h
    cases ht with
    | l S K t =>
      simp only [den] at h
      have hTx : ∀ s ∈ T, s ∈ K ∧ s ∉ S ∧ keeps n s x t = true := by
        intro s hs
        have := hT s hs
        simp only [keeps] at this
        split at this
        · rename_i h1 h2
          exact ⟨memB_iff.1 h1, (fun hss => by rw [memB_iff.2 hss] at h2; cases h2), this⟩
        · contradiction
      split at h
      · rename_i kv iv hka hkv hiv
        obtain ⟨I, μ, C, h0, hbody, hC⟩ := LpC_sound h
        -- the loop's environment
        let L : List Value → Env := fun vs => app (zipv S vs) (zipv K kv)
        have hLb : ∀ vs, ∀ s ∈ T, lk (L vs) s = b s := by
          intro vs s hs
          show lk (app _ _) s = _
          rw [lk_app, lk_zip_none (hTx s hs).2.1]
          simp only
          rw [pick_mem hkv s (hTx s hs).1]
          exact hb s hs
        -- the measure, out of a state
        let M : Act → World → Nat → Prop := fun a w j => ∃ vs, Agr n (L vs) a ∧ I vs w.heap ∧ μ vs w.heap = j
        classical
        have hM0 : ∃ j, M a w j := ⟨_, iv, hA.sub (fun s v hv => by
          have hv' : lk (app (zipv S iv) (zipv K kv)) s = some v := hv
          rw [lk_app] at hv'
          split at hv'
          · rename_i u hu; rw [pick_spec hiv s u hu]; exact hv'
          · exact pick_spec hkv s v hv'), h0, rfl⟩
        refine wpIn_loop (fun a w => Rst w0 w ∧ ∃ j, M a w j) (fun a w => if e : ∃ j, M a w j then Nat.find' e else 0) ⟨hR, hM0⟩ fun a1 w1 ⟨hR1, hM1⟩ => ?_
        obtain ⟨vs, hA1, hI, hμ⟩ := Nat.find'_spec hM1
        have hd := hbody vs w1.heap hI
        refine wpIn_mono (ih hF hrd t E (L vs) _ K (lk (L vs)) a1 w1 (keepsAll_mem hka) (fun s hs => rfl) hA1 hR1 hd) fun e a2 w2 hq => ?_
        have hTb : ∀ (env' : Env), (∀ s ∈ K, lk env' s = lk (L vs) s) → ∀ s ∈ T, lk env' s = b s := fun env' hK s hs => (hK s (hTx s hs).1).trans (hLb vs s hs)
        cases e with
        | normal =>
          obtain ⟨env', hA2, hR2, hK2, hk⟩ := hq
          unfold withL at hk
          split at hk
          · rename_i vs' hvs'
            obtain ⟨hI2, hlt⟩ := hC _ _ _ _ hk
            have hA2' : Agr n (L vs') a2 := hA2.sub fun s v hv => by
              have hv' : lk (app (zipv S vs') (zipv K kv)) s = some v := hv
              rw [lk_app] at hv'
              split at hv'
              · rename_i u hu; rw [pick_spec hvs' s u hu]; exact hv'
              · rename_i hnone
                have hKs : s ∈ K := by
                  by_cases h : s ∈ K
                  · exact h
                  · rw [lk_zip_none h] at hv'; cases hv'
                have hSs : s ∉ S := by
                  intro h
                  rw [pick_mem hvs' s h] at hnone
                  have := pick_some hvs' s h
                  rw [hnone] at this; cases this
                rw [hK2 s hKs]
                show lk (app _ _) s = _
                rw [lk_app, lk_zip_none hSs]
                exact hv'
            have hM2 : M a2 w2 (μ vs' w2.heap) := ⟨vs', hA2', hI2, rfl⟩
            refine ⟨⟨hR2, _, hM2⟩, ?_⟩
            rw [dif_pos ⟨_, hM2⟩, dif_pos hM1]
            exact Nat.lt_of_le_of_lt (Nat.find'_min ⟨_, hM2⟩ hM2) (by rw [← hμ]; exact hlt)
          · exact hk.elim
        | exit id =>
          obtain ⟨env', hA2, hR2, hK2, hk⟩ := hq
          exact ⟨env', hA2, hR2, hTb env' hK2, hk⟩
        | ret =>
          obtain ⟨env', hA2, hR2, hK2, hk⟩ := hq
          exact ⟨env', hA2, hR2, hTb env' hK2, hk⟩
        | _ => exact hq
      · contradiction
    | _ => simp [den] at h
  | rangeFunc g ps as x iha ihx =>
    intro F hF m rd hrd w0 ht E env k T b a w hT hb hA hR h
    cases ht with
    | r ta tx =>
      simp only [den] at h
      split at h <;> try contradiction
      rename_i gv ds hps hgv hds
      have hro := hrd rfl
      obtain ⟨ds', hds', hdf⟩ := hA.df _ hds
      simp only [Value.tuple.injEq, Array.mk.injEq] at hds'
      subst hds'
      refine wpIn_rangeFunc fun fn _ => ?_
      let o : Loop := { state := .ready, pending := none, fn, tmps := a.tmps, params := ps, assign := as, body := x, defers := w.heap.size }
      have hround : ∀ args h' R, LpAt o (w.heap.size + 1) h' → (withA ps.toList ((n, .tuple ⟨[]⟩) :: env) args fun env0 => den P n true as ta { brk := fun _ _ _ => False, ret := fun _ _ => False } env0 h' fun env1 h1 => Sb (bgn (w.heap.size + 1) h1) fun h2 =>
              den P n true x tx { brk := fun id _ h3 => Sb (fin (w.heap.size + 1) (some (.exit id)) h3) fun h4 => R (.bool false) h4, ret := fun _ h3 => Sb (fin (w.heap.size + 1) (some .ret) h3) fun h4 => R (.bool false) h4 } env1 h2 fun _ h3 => Sb (fin (w.heap.size + 1) none h3) fun h4 => R (.bool true) h4) → Sy P (w.heap.size + 1) args h' R := by
        intro args h' R ⟨st, pd, hl⟩ hden
        obtain ⟨hlen, hden⟩ := withA_spec hden
        intro w1 hw1
        subst hw1
        refine ⟨{ o with state := st, pending := pd }, by simp [Instr.getLoop, getObj, Sem.run, hl], by simpa using hlen, ?_⟩
        have hA0 : Agr n ((n, .tuple ⟨[]⟩) :: env) { tmps := a.tmps, defers := [] } := by
          refine ⟨hA.sz, fun t v ht hv => ?_, fun v hv => ?_⟩
          · rw [lk_put, if_neg (by omega)] at hv; exact hA.sl t v ht hv
          · rw [lk_put, if_pos rfl] at hv
            simp only [Option.some.injEq] at hv
            exact ⟨[], hv.symm, rfl⟩
        have hA1 := agr_zip (args := args) hps hA0
        have etm : (ps.zip args.toArray).foldl (fun tmps (x : Nat × Value) => tmps.setIfInBounds x.1 x.2) a.tmps = (ps.toList.zip args).foldl (fun tmps (x : Nat × Value) => tmps.setIfInBounds x.1 x.2) a.tmps := by
          rw [← Array.foldl_toList]; simp
        refine roundIn_of_wpIn trivial ?_
        show as.wpIn _ 0 P _ { tmps := (ps.zip args.toArray).foldl (fun tmps (x : Nat × Value) => tmps.setIfInBounds x.1 x.2) a.tmps, defers := [] } w1
        rw [etm]
        refine wpIn_mono (iha (Wd.wide.inRound _) (m := 0) (rd := true) (fun e => by cases e) (w0 := w1) ta _ _ _ [] (fun _ => none) _ w1 (fun t ht => by cases ht) (fun t ht => by cases ht) hA1 (.refl w1) hden) fun e a1 w2 hq => ?_
        cases e with
        | normal =>
          obtain ⟨env1, hA2, hR2, _, h2, hb2, hk2⟩ := hq
          obtain ⟨w3, e3, rfl, hR3⟩ := run_bgn (P := P) hb2
          refine ⟨w3, e3, ?_⟩
          refine wpIn_mono (ihx (Wd.wide.inRound _) (m := 0) (rd := true) (fun e => by cases e) (w0 := w1) tx _ _ _ [] (fun _ => none) _ w3 (fun t ht => by cases ht) (fun t ht => by cases ht) hA2 (hR2.trans hR3) hk2) fun e a3 w4 hq => ?_
          cases e with
          | normal =>
            obtain ⟨_, _, hR4, _, h4, hf4, hk4⟩ := hq
            obtain ⟨w5, e5, rfl, hR5⟩ := run_fin (P := P) hf4
            exact ⟨_, w5, e5, _, rfl, hk4, hR4.trans hR5⟩
          | ret =>
            obtain ⟨_, _, hR4, _, h4, hf4, hk4⟩ := hq
            obtain ⟨w5, e5, rfl, hR5⟩ := run_fin (P := P) hf4
            exact ⟨_, w5, e5, _, rfl, hk4, hR4.trans hR5⟩
          | exit id =>
            obtain ⟨_, _, hR4, _, h4, hf4, hk4⟩ := hq
            obtain ⟨w5, e5, rfl, hR5⟩ := run_fin (P := P) hf4
            exact ⟨_, w5, e5, _, rfl, hk4, hR4.trans hR5⟩
          | _ => exact hq.elim
        | ret => obtain ⟨_, _, _, _, hk⟩ := hq; exact hk.elim
        | exit id => obtain ⟨_, _, _, _, hk⟩ := hq; exact hk.elim
        | _ => exact hq.elim
      obtain ⟨f, first, cap, rfl, hf, hc⟩ := h o rfl rfl hround
      have hev := hA.holds g _ hgv
      let w1 : World := { w with heap := (w.heap.push (.deferred (some []))).push (.loop o) }
      refine ⟨w.heap.size + 1, [{ target := .collected w.heap.size, args := #[] }], w1, { target := .fn (.func f) cap, args := first ++ #[.func (.yield (w.heap.size + 1)) #[] #[]] }, w1, f, first ++ #[.func (.yield (w.heap.size + 1)) #[] #[]] ++ cap, w1, ?_, ?_, fun f' _ => hF.any f', ?_, fun e => (by rw [hF.depth] at e; cases e), ?_⟩
      · rw [hro]
        simp [Instr.enterLoop, newObj, Sem.run, w1, o]
        rfl
      · simp only [rangeCall, resolve, hev, Deferred.ofValue, Sem.run_bind, Sem.run_pure, Result.andThen_ok, List.map_toArray, List.map_cons, List.map_nil]
        rfl
      · simp only [invoke, run_callFunc hf]
      · have e2 : first ++ #[Value.func (.yield (w.heap.size + 1)) #[] #[]] ++ cap = (first.toList ++ [Value.func (.yield (w.heap.size + 1)) #[] #[]] ++ cap.toList).toArray := by simp
        rw [e2]
        refine hF.calls (m := 0) (callsIn_wide.2 ((hc w1 rfl).mono ?_))
        rintro e w3 ⟨v, rfl, ⟨j, h3, he, haft⟩, hs⟩
        obtain ⟨w4, e4, rfl, hR4⟩ := run_endl (P := P) he
        have hRw : Rst w0 w4 := (hR.trans ((show Rst w w1 from ⟨rfl, rfl, rfl⟩).trans hs)).trans hR4
        have hA' : Agr n ((n, .tuple ⟨.pointer (some ⟨w.heap.size, 0, none⟩) :: ds⟩) :: env) { a with defers := [{ target := .collected w.heap.size, args := #[] }] ++ a.defers } := by
          refine ⟨hA.sz, fun t v ht hv => ?_, fun v hv => ?_⟩
          · rw [lk_put, if_neg (by omega)] at hv; exact hA.sl t v ht hv
          · rw [lk_put, if_pos rfl] at hv
            simp only [Option.some.injEq] at hv
            exact ⟨_, hv.symm, by simp [dec, hdf]⟩
        have hb' : ∀ t ∈ T, lk ((n, .tuple ⟨.pointer (some ⟨w.heap.size, 0, none⟩) :: ds⟩) :: env) t = b t := fun t ht => by
          have h1 := hT t ht
          unfold keeps at h1
          split at h1 <;> try contradiction
          rename_i hne
          rw [lk_put, if_neg (fun e => by subst e; simp at hne)]
          exact hb t ht
        refine ⟨j, w4, e4, ?_⟩
        unfold Jp at haft
        split at haft
        · exact ⟨_, hA', hRw, hb', haft⟩
        · exact wpIn_ret ⟨_, hA', hRw, hb', haft⟩
        · exact wpIn_exit ⟨_, hA', hRw, hb', haft⟩
        · exact haft.elim
    | _ => simp [den] at h
  | goto l => intro F hF m rd hrd w0 ht E env k T b a w _ hb hA hR h; cases ht <;> simp [den] at h
  | refuse s => intro F hF m rd hrd w0 ht E env k T b a w _ hb hA hR h; cases ht <;> simp [den] at h
theorem den_sound {P : Program} {F : Fence} (hF : Wd F) {n m : Nat} {rd : Bool} (hrd : rd = false → F.round = none) (hm : P.follows .mixedOrders = true) {w0 : World} (c : Code) (ht : HT) (E : Ex) (env : Env) (k : Env → Hp → Prop) (T : List Nat) (b : Nat → Option Value) (a : Act) (w : World)
    (h1 : ∀ t ∈ T, keeps n t c ht = true) (h2 : ∀ t ∈ T, lk env t = b t) (h3 : Agr n env a) (h4 : Rst w0 w) (h5 : den P n rd c ht E env w.heap k) : c.wpIn F m P (QQ n w0 T b E k) a w :=
  den_sound' hm c hF hrd ht E env k T b a w h1 h2 h3 h4 h5
end Go.En
