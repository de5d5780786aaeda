/-
  The engine, part F: a list of operations, in the order of the text.
-/
import Derived.Test.YtggieecoagcmbaaEngE
namespace Go.En

abbrev KB := List (Nat × Option Bool)
def lkb : KB → Nat → Option (Option Bool)
  | [], _ => none
  | (d, r) :: s, t => match Nat.beq d t with
    | true => some r
    | false => lkb s t
def kbd (kb : KB) (dst : Option Nat) : KB :=
  match dst with
  | none => kb
  | some d => kb.filter fun x => !(Nat.beq x.1 d)
def put (env : Env) (dst : Option Nat) (v : Value) : Env :=
  match dst with
  | none => env
  | some d => (d, v) :: env

/-- a test of a truth value -/
def Br (v : Value) (A B : Prop) : Prop :=
  match v with
  | .bool true => A
  | .bool false => B
  | _ => False
theorem Br_ex {v : Value} {A B : Prop} (h : Br v A B) : ∃ b, v = .bool b ∧ (b = true → A) ∧ (b = false → B) := by
  unfold Br at h
  split at h
  · exact ⟨true, rfl, (fun _ => h), (fun e => by cases e)⟩
  · exact ⟨false, rfl, (fun e => by cases e), fun _ => h⟩
  · exact h.elim

def dec : Value → Deferred
  | .func fn first cap => { target := .fn fn cap, args := first }
  | .pointer (some a) => { target := .collected a.block, args := #[] }
  | _ => default

structure Agr (n : Nat) (env : Env) (a : Act) : Prop where
  sz : a.tmps.size = n
  sl : ∀ t v, t < n → lk env t = some v → a.tmps.getD t undef = v
  df : ∀ v, lk env n = some v → ∃ ds : List Value, v = .tuple ⟨ds⟩ ∧ a.defers = ds.map dec

theorem Agr.holds {n : Nat} {env : Env} {a : Act} (h : Agr n env a) : Holds n env a.eval := by
  intro x v hv
  cases x with
  | tmp t =>
    simp only [ev] at hv
    split at hv
    · rename_i hlt
      exact h.sl t v (by simpa [Nat.blt_eq] using hlt) hv
    · contradiction
  | const u => simpa [ev, Act.eval] using hv
  | global g => simpa [ev, Act.eval] using hv
  | func f => simpa [ev, Act.eval] using hv

theorem lk_put {env : Env} {d t : Nat} {v : Value} : lk ((d, v) :: env) t = if d = t then some v else lk env t := by
  simp only [lk]
  by_cases h : d = t
  · subst h; simp
  · have : Nat.beq d t = false := by
      cases hb : Nat.beq d t with
      | false => rfl
      | true => exact absurd (Nat.eq_of_beq_eq_true hb) h
    rw [this]; simp [h]

theorem getD_put {a : Act} {d t : Nat} {v : Value} (hd : d < a.tmps.size) : (a.put (some d) v).tmps.getD t undef = if d = t then v else a.tmps.getD t undef := by
  simp only [Act.put, Array.getD_eq_getD_getElem?, Array.getElem?_setIfInBounds]
  by_cases h : d = t
  · subst h; simp [hd]
  · simp [h]

theorem Agr.put {n : Nat} {env : Env} {a : Act} (h : Agr n env a) {dst : Option Nat} {v : Value} (hd : ∀ d, dst = some d → d < n) : Agr n (put env dst v) (a.put dst v) := by
  cases dst with
  | none => exact h
  | some d =>
    have hdn := hd d rfl
    refine ⟨by simp [Act.put, h.sz], fun t u ht hu => ?_, fun u hu => ?_⟩
    · simp only [En.put] at hu
      rw [lk_put] at hu
      rw [getD_put (by rw [h.sz]; exact hdn)]
      split at hu
      · rename_i e; subst e; simpa using hu
      · rename_i e; rw [if_neg e]; exact h.sl t u ht hu
    · simp only [En.put] at hu
      rw [lk_put, if_neg (by omega)] at hu
      exact h.df u hu

/-- what is known of the truth values: of a slot that holds one, or that was passed over -/
def KBok (n : Nat) (kb : KB) (env : Env) : Prop := ∀ d r, lkb kb d = some r → d < n ∧ ∃ v, lk env d = some v ∧ match r with
  | some b => v = .bool b
  | none => v = undef

theorem lkb_cons {kb : KB} {d t : Nat} {r : Option Bool} : lkb ((d, r) :: kb) t = if d = t then some r else lkb kb t := by
  simp only [lkb]
  by_cases h : d = t
  · subst h; simp
  · have : Nat.beq d t = false := by
      cases hb : Nat.beq d t with
      | false => rfl
      | true => exact absurd (Nat.eq_of_beq_eq_true hb) h
    rw [this]; simp [h]

theorem lkb_filter {kb : KB} {d t : Nat} {r : Option Bool} (h : lkb (kb.filter fun x => !(Nat.beq x.1 d)) t = some r) : lkb kb t = some r ∧ t ≠ d := by
  induction kb with
  | nil => simp [lkb] at h
  | cons x kb ih =>
    obtain ⟨x, q⟩ := x
    by_cases hx : x = d
    · subst hx
      rw [List.filter_cons_of_neg (by simp)] at h
      obtain ⟨h1, h2⟩ := ih h
      exact ⟨by rw [lkb_cons, if_neg (fun e => h2 e.symm)]; exact h1, h2⟩
    · have hb : Nat.beq x d = false := by
        cases hb : Nat.beq x d with
        | false => rfl
        | true => exact absurd (Nat.eq_of_beq_eq_true hb) hx
      rw [List.filter_cons_of_pos (by simp [hb]), lkb_cons] at h
      split at h
      · rename_i e; subst e; exact ⟨by rw [lkb_cons, if_pos rfl]; exact h, hx⟩
      · rename_i e
        obtain ⟨h1, h2⟩ := ih h
        exact ⟨by rw [lkb_cons, if_neg e]; exact h1, h2⟩

theorem KBok.put {n : Nat} {kb : KB} {env : Env} (h : KBok n kb env) (dst : Option Nat) (v : Value) : KBok n (kbd kb dst) (put env dst v) := by
  cases dst with
  | none => exact h
  | some d =>
    intro t r hr
    obtain ⟨h1, h2⟩ := lkb_filter hr
    obtain ⟨h3, u, hu, hm⟩ := h t r h1
    exact ⟨h3, u, by rw [En.put, lk_put, if_neg (fun e => h2 e.symm)]; exact hu, hm⟩
theorem KBok.nil (n : Nat) (env : Env) : KBok n [] env := fun d r h => by simp [lkb] at h
theorem KBok.add {n : Nat} {kb : KB} {env : Env} (h : KBok n kb env) {d : Nat} {r : Option Bool} {v : Value} (hd : d < n) (hl : lk env d = some v) (hv : match r with
    | some b => v = .bool b
    | none => v = undef) : KBok n ((d, r) :: kb) env := by
  intro t q hq
  rw [lkb_cons] at hq
  split at hq
  · rename_i e; subst e; simp only [Option.some.injEq] at hq; subst hq; exact ⟨hd, v, hl, hv⟩
  · exact h t q hq

/-- one operation: moves are seen through -/
def step (P : Program) (n : Nat) (op : Op) (env : Env) (kb : KB) (h : Hp) (k : Value → Hp → Prop) : Prop :=
  match op with
  | .move x => match ev n env x with
    | some v => k v h
    | none => False
  | .assign x => match ev n env x with
    | some v => k v h
    | none => False
  | .pick (.tmp c) x y => match lkb kb c with
    | some (some true) => match ev n env x with
      | some v => k v h
      | none => False
    | some (some false) => match ev n env y with
      | some v => k v h
      | none => False
    | some none => False
    | none => Vb (vop P n env (.pick (.tmp c) x y) h) fun v => k v h
  | op => match isV op with
    | true => Vb (vop P n env op h) fun v => k v h
    | false => eop P n env op h k

theorem vop_not_defer {P : Program} {n : Nat} {env : Env} {op : Op} {h : Hp} {v : Value} (hv : vop P n env op h = some v) : ∀ c, op ≠ .defer c := by
  intro c e; subst e; simp [vop] at hv

theorem run_step {P : Program} {F : Fence} (hF : Wd F) {n m : Nat} {env : Env} {kb : KB} {o : Oper} {a : Act} {w : World} {k : Value → Hp → Prop} (hA : Holds n env a.eval) (hK : KBok n kb env)
    (h : step P n o.op env kb w.heap k) : okE P F m o a w k := by
  have hmove : ∀ x v, (o.op = .move x ∨ o.op = .assign x) → ev n env x = some v → k v w.heap → okE P F m o a w k := by
    intro x v ho hv hk
    refine okE_value hF (w' := w) (v := v) (by rcases ho with e | e <;> simp [e]) ?_ (.refl w) hk
    rw [← hA x v hv]
    rcases ho with e | e <;> (unfold execOp; rw [e]; rfl)
  have hV : ∀ (hv : Vb (vop P n env o.op w.heap) fun v => k v w.heap), okE P F m o a w k := by
    rintro ⟨v, hv, hk⟩
    exact okE_value hF (vop_not_defer hv) (run_vop hA hv) (.refl w) hk
  have hgen : (match isV o.op with
      | true => Vb (vop P n env o.op w.heap) fun v => k v w.heap
      | false => eop P n env o.op w.heap k) → okE P F m o a w k := by
    intro h
    split at h
    · exact hV h
    · exact run_eop hF hA rfl h
  unfold step at h
  split at h
  · rename_i x ho
    split at h <;> try contradiction
    rename_i v hv
    exact hmove x v (.inl ho) hv h
  · rename_i x ho
    split at h <;> try contradiction
    rename_i v hv
    exact hmove x v (.inr ho) hv h
  · rename_i c x y ho
    split at h
    · rename_i hb
      split at h <;> try contradiction
      rename_i v hv
      obtain ⟨hc, u, hu, hm⟩ := hK _ _ hb
      simp only at hm
      subst hm
      refine okE_value hF (w' := w) (v := v) (by simp [ho]) ?_ (.refl w) h
      have hcv : ev n env (.tmp c) = some (.bool true) := by
        have : Nat.blt c n = true := by simpa [Nat.blt_eq] using hc
        simp [ev, this, hu]
      unfold execOp; rw [ho]; simp [hA _ _ hcv, hA _ _ hv, asBool]
    · rename_i hb
      split at h <;> try contradiction
      rename_i v hv
      obtain ⟨hc, u, hu, hm⟩ := hK _ _ hb
      simp only at hm
      subst hm
      refine okE_value hF (w' := w) (v := v) (by simp [ho]) ?_ (.refl w) h
      have hcv : ev n env (.tmp c) = some (.bool false) := by
        have : Nat.blt c n = true := by simpa [Nat.blt_eq] using hc
        simp [ev, this, hu]
      unfold execOp; rw [ho]; simp [hA _ _ hcv, hA _ _ hv, asBool]
    · contradiction
    · rw [← ho] at h; exact hV h
  · exact hgen h

/-- a guard: the operation's run under what is known -/
def grd (ops : Array Oper) (env : Env) (kb : KB) (g : Option (Nat × Bool)) (yes no : KB → Prop) : Prop :=
  match g with
  | none => yes kb
  | some (j, want) => match (ops[j]?).bind (·.dst) with
    | none => False
    | some d => match lkb kb d with
      | some (some b) => match b, want with
        | true, true => yes kb
        | false, false => yes kb
        | _, _ => no kb
      | some none => no kb
      | none => match lk env d with
        | none => False
        | some v => match want with
          | true => Br v (yes ((d, some true) :: kb)) (no ((d, some false) :: kb))
          | false => Br v (no ((d, some true) :: kb)) (yes ((d, some false) :: kb))

def dstOk (n : Nat) (ops : List Oper) : Bool :=
  match ops with
  | [] => true
  | o :: r => match o.dst with
    | none => dstOk n r
    | some d => match Nat.blt d n with
      | true => dstOk n r
      | false => false
theorem dstOk_mem {n : Nat} {ops : List Oper} (h : dstOk n ops = true) : ∀ o ∈ ops, ∀ d, o.dst = some d → d < n := by
  induction ops with
  | nil => intro o ho; cases ho
  | cons o r ih =>
    unfold dstOk at h
    intro x hx d hd
    split at h
    · rename_i hn
      rcases List.mem_cons.1 hx with rfl | hx
      · rw [hn] at hd; cases hd
      · exact ih h x hx d hd
    · rename_i d' hd'
      split at h
      · rename_i hb
        rcases List.mem_cons.1 hx with rfl | hx
        · rw [hd'] at hd; cases hd; simpa [Nat.blt_eq] using hb
        · exact ih h x hx d hd
      · contradiction

def boolOf : Value → Option Bool
  | .bool b => some b
  | _ => none

theorem yielded_of {n : Nat} {env : Env} {a : Act} {ops : Array Oper} (hsz : a.tmps.size = n) {j d : Nat} {v : Value} (hj : (ops[j]?).bind (·.dst) = some d) (hd : d < n) (hv : a.tmps.getD d undef = v) :
    yielded ops a.tmps j = boolOf v := by
  unfold yielded
  rw [hj]
  simp only [Option.bind_some]
  have : a.tmps[d]? = some v := by
    rw [Array.getD_eq_getD_getElem?] at hv
    have hlt : d < a.tmps.size := by omega
    rw [Array.getElem?_eq_getElem hlt] at hv ⊢
    simpa using hv
  rw [this]
  cases v <;> rfl

theorem grd_sound {n : Nat} {ops : Array Oper} {env : Env} {kb : KB} {a : Act} {o : Oper} {yes no : KB → Prop} (hn : dstOk n ops.toList = true) (hsz : a.tmps.size = n) (hK : KBok n kb env)
    (hlook : ∀ d v, (∃ j want, o.guard = some (j, want) ∧ (ops[j]?).bind (·.dst) = some d) → lk env d = some v → a.tmps.getD d undef = v)
    (h : grd ops env kb o.guard yes no) :
    ∃ kb', KBok n kb' env ∧ ((Region.wanted o (yielded ops a.tmps) = true ∧ yes kb') ∨ (Region.wanted o (yielded ops a.tmps) = false ∧ no kb')) := by
  unfold grd at h
  split at h
  · rename_i hg
    exact ⟨kb, hK, .inl ⟨by simp [Region.wanted, hg], h⟩⟩
  · rename_i j want hg
    split at h <;> try contradiction
    rename_i d hd
    have hdn : d < n := by
      cases ho : ops[j]? with
      | none => rw [ho] at hd; cases hd
      | some oj =>
        rw [ho] at hd
        exact dstOk_mem hn oj (by rw [Array.mem_toList_iff]; exact Array.mem_of_getElem? ho) d hd
    have hw : ∀ v, lk env d = some v → Region.wanted o (yielded ops a.tmps) = (boolOf v == some want) := by
      intro v hv
      have := yielded_of (env := env) hsz hd hdn (hlook d v ⟨j, want, hg, hd⟩ hv)
      simp only [Region.wanted, hg, this]
    split at h
    · rename_i b hb
      obtain ⟨_, v, hv, hm⟩ := hK _ _ hb
      simp only at hm
      subst hm
      have := hw _ hv
      split at h
      · exact ⟨kb, hK, .inl ⟨by rw [this]; rfl, h⟩⟩
      · exact ⟨kb, hK, .inl ⟨by rw [this]; rfl, h⟩⟩
      · rename_i h1 h2
        refine ⟨kb, hK, .inr ⟨?_, h⟩⟩
        rw [this]
        cases b <;> cases want <;> first | rfl | exact (h1 rfl rfl).elim | exact (h2 rfl rfl).elim
    · rename_i hb
      obtain ⟨_, v, hv, hm⟩ := hK _ _ hb
      simp only at hm
      subst hm
      exact ⟨kb, hK, .inr ⟨by rw [hw _ hv]; rfl, h⟩⟩
    · split at h <;> try contradiction
      rename_i v hv
      have hwv := hw _ hv
      split at h
      · obtain ⟨b, rfl, ht, hf⟩ := Br_ex h
        cases b with
        | true => exact ⟨_, hK.add hdn hv (r := some true) rfl, .inl ⟨by rw [hwv]; rfl, ht rfl⟩⟩
        | false => exact ⟨_, hK.add hdn hv (r := some false) rfl, .inr ⟨by rw [hwv]; rfl, hf rfl⟩⟩
      · obtain ⟨b, rfl, ht, hf⟩ := Br_ex h
        cases b with
        | true => exact ⟨_, hK.add hdn hv (r := some true) rfl, .inr ⟨by rw [hwv]; rfl, ht rfl⟩⟩
        | false => exact ⟨_, hK.add hdn hv (r := some false) rfl, .inl ⟨by rw [hwv]; rfl, hf rfl⟩⟩

/-- operations in the order of the text -/
def denL (P : Program) (n : Nat) (rd : Bool) (ops : Array Oper) : List Oper → Env → KB → Hp → (Env → Hp → Prop) → Prop
  | [], env, _, h, k => k env h
  | o :: r, env, kb, h, k =>
    grd ops env kb o.guard
      (fun kb => match o.op with
        | .defer { callee := .value (.func f), args, .. } => match rd, okF P f, evs n env args.toList, lk env n with
          | false, true, some vs, some (.tuple ⟨ds⟩) => match o.dst with
            | none => denL P n rd ops r ((n, .tuple ⟨.func (.func f) vs.toArray #[] :: ds⟩) :: env) kb h k
            | some _ => False
          | _, _, _, _ => False
        | op => step P n op env kb h fun v h' => denL P n rd ops r (put env o.dst v) (kbd kb o.dst) h' k)
      (fun kb => denL P n rd ops r (put env o.dst undef) (match o.dst with
        | some d => (d, none) :: kb
        | none => kb) h k)

theorem denL_sound {P : Program} {F : Fence} (hF : Wd F) {n m : Nat} {rd : Bool} (hrd : rd = false → F.round = none) {ops : Array Oper} (hn : dstOk n ops.toList = true) {Q : Exit → Act → World → Prop} {w0 : World} {k : Env → Hp → Prop}
    {T : List Nat} {b : Nat → Option Value} (hT : ∀ o ∈ ops.toList, ∀ d, o.dst = some d → d ∉ T) (hTn : n ∈ T → ∀ o ∈ ops.toList, ∀ c, o.op ≠ .defer c)
    (hQ : ∀ env a w, Agr n env a → Rst w0 w → (∀ t ∈ T, lk env t = b t) → k env w.heap → Q .normal a w) :
    ∀ (l : List Oper) (env : Env) (kb : KB) (a : Act) (w : World), (∀ t ∈ T, lk env t = b t) → (∀ o ∈ l, o ∈ ops.toList) → Agr n env a → KBok n kb env → Rst w0 w → denL P n rd ops l env kb w.heap k → wpListIn F m P ops Q l a w
  | [], env, kb, a, w, hb, _, hA, _, hR, h => hQ env a w hA hR hb h
  | o :: l, env, kb, a, w, hb, hl, hA, hK, hR, h => by
    have hbp : ∀ v, ∀ t ∈ T, lk (put env o.dst v) t = b t := by
      intro v t ht
      cases hd : o.dst with
      | none => exact hb t ht
      | some d =>
        simp only [put]
        rw [lk_put, if_neg (fun (e : d = t) => hT o (hl o (List.mem_cons_self ..)) d hd (by rw [e]; exact ht))]
        exact hb t ht
    have ho := hl o (List.mem_cons_self ..)
    have hl' : ∀ x ∈ l, x ∈ ops.toList := fun x hx => hl x (List.mem_cons_of_mem _ hx)
    have hd : ∀ d, o.dst = some d → d < n := dstOk_mem hn o ho
    unfold denL at h
    obtain ⟨kb', hK', hcase⟩ := grd_sound hn hA.sz hK (fun d v ⟨j, want, hg, hdd⟩ hv => hA.sl d v (by
      cases hoj : ops[j]? with
      | none => rw [hoj] at hdd; cases hdd
      | some oj => rw [hoj] at hdd; exact dstOk_mem hn oj (by rw [Array.mem_toList_iff]; exact Array.mem_of_getElem? hoj) d hdd) hv) h
    refine wpListIn_step fun K hKK => ?_
    rcases hcase with ⟨hw, hy⟩ | ⟨hw, hno⟩
    · rw [hw, if_pos rfl]
      split at hy
      · rename_i f args ts hop
        split at hy <;> try contradiction
        rename_i vs ds hf hvs hds
        split at hy <;> try contradiction
        rename_i hdst
        have hro := hrd rfl
        refine ⟨fun f _ => hF.any f, ?_⟩
        have e1 : args.map a.eval = vs.toArray := by rw [← Holds.evs hA.holds hvs]; apply Array.ext'; simp
        have hrun : (o.semAt F.round a.eval).run P w = .ok (.defer { target := .fn (.func f) #[], args := vs.toArray }) w := by
          rw [hro, Oper.semAt_none]
          unfold execOp; rw [hop]
          have hev : a.eval (.func f) = .func (.func f) #[] #[] := rfl
          simp only [resolve, hev, Deferred.ofValue, Sem.run_bind, Sem.run_pure, Result.andThen_ok, e1, Array.empty_append]
        rw [hrun, Oper.uponIn_defer, hdst]
        refine hKK _ _ (denL_sound hF hrd hn hT hTn hQ l _ kb' _ w ?_ hl' ?_ ?_ hR hy)
        · intro t ht
          by_cases e : n = t
          · subst e; exact absurd hop (hTn ht o ho _)
          · rw [lk_put, if_neg e]; exact hb t ht
        · obtain ⟨ds', hds', hdf⟩ := hA.df _ hds
          simp only [Value.tuple.injEq, Array.mk.injEq] at hds'
          subst hds'
          refine ⟨hA.sz, fun t v ht hv => ?_, fun v hv => ?_⟩
          · rw [lk_put, if_neg (by omega)] at hv
            exact hA.sl t v ht hv
          · rw [lk_put, if_pos rfl] at hv
            simp only [Option.some.injEq] at hv
            refine ⟨_, hv.symm, ?_⟩
            simp [Act.put, dec, hdf]
        · intro t r hr
          obtain ⟨h1, v, h2, h3⟩ := hK' t r hr
          exact ⟨h1, v, by rw [lk_put, if_neg (by omega)]; exact h2, h3⟩
      · refine run_step hF hA.holds hK' hy K Q fun v w' hs hk => hKK _ _ ?_
        exact denL_sound hF hrd hn hT hTn hQ l _ _ _ w' (hbp v) hl' (hA.put hd) (hK'.put _ _) (hR.trans hs) hk
    · rw [hw]
      refine ⟨fun f _ => hF.any f, hKK _ _ (denL_sound hF hrd hn hT hTn hQ l _ _ _ w (hbp _) hl' (hA.put hd) ?_ hR hno)⟩
      cases hdst : o.dst with
      | none => simpa [put] using hK'
      | some d =>
        simp only
        intro t r hr
        rw [lkb_cons] at hr
        by_cases e : d = t
        · subst e
          rw [if_pos rfl] at hr
          simp only [Option.some.injEq] at hr
          subst hr
          exact ⟨hd d hdst, undef, by simp only [put]; rw [lk_put, if_pos rfl], rfl⟩
        · rw [if_neg e] at hr
          obtain ⟨h1, v, h2, h3⟩ := hK' t r hr
          exact ⟨h1, v, by simp only [put]; rw [lk_put, if_neg e]; exact h2, h3⟩
end Go.En
