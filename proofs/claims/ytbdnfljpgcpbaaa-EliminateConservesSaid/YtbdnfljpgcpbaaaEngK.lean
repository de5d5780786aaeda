/-
  The engine, part K: code; functions.
-/
import Derived.Test.YtbdnfljpgcpbaaaEngJ
namespace Go.En

/-- what the walk is told: the order of a drawn region; which slots go through a join or a loop (S: changed; K: kept) -/
inductive HT where
  | z
  | o (ord : List Nat)
  | s (l r : HT)
  | j (S K : List Nat) (l r : HT)
  | c (l r : HT)
  | b (t : HT)
  | l (S K : List Nat) (t : HT)

structure Ex where
  brk : Nat → Env → Hp → Prop
  ret : Env → Hp → Prop

def pick (S : List Nat) (env : Env) : Option (List Value) :=
  match S with
  | [] => some []
  | s :: r => match lk env s with
    | none => none
    | some v => match pick r env with
      | none => none
      | some vs => some (v :: vs)
def withL (S : List Nat) (env : Env) (f : List Value → Prop) : Prop :=
  match pick S env with
  | some vs => f vs
  | none => False
def zipv : List Nat → List Value → Env
  | s :: r, v :: vs => (s, v) :: zipv r vs
  | _, _ => []
def app : Env → Env → Env
  | [], e => e
  | x :: r, e => x :: app r e

def memB (t : Nat) : List Nat → Bool
  | [] => false
  | x :: r => match Nat.beq x t with
    | true => true
    | false => memB t r
def noDst (t : Nat) : List Oper → Bool
  | [] => true
  | o :: r => match o.dst with
    | none => noDst t r
    | some d => match Nat.beq d t with
      | true => false
      | false => noDst t r
def noDef : List Oper → Bool
  | [] => true
  | o :: r => match o.op with
    | .defer _ => false
    | _ => noDef r
/-- slot t (or the deferred calls: t = n) is the same behind the code, and known there -/
def keeps (n t : Nat) : Code → HT → Bool
  | .skip, _ | .exit _, _ | .ret, _ | .label _, _ => true
  | .region _ ops _, _ => match noDst t ops.toList with
    | true => match Nat.beq t n with
      | true => noDef ops.toList
      | false => true
    | false => false
  | .seq a b, .s l r => match keeps n t a l with
    | true => keeps n t b r
    | false => false
  | .seq a b, .j S K l r => match memB t K, memB t S, keeps n t a l with
    | true, false, true => keeps n t b r
    | _, _, _ => false
  | .cond _ a b, .c l r => match keeps n t a l with
    | true => keeps n t b r
    | false => false
  | .block _ b, .b t' => keeps n t b t'
  | .scope b, t' => keeps n t b t'
  | .loop b, .l S K t' => match memB t K, memB t S with
    | true, false => keeps n t b t'
    | _, _ => false
  | _, _ => false
def keepsAll (n : Nat) (K : List Nat) (c : Code) (h : HT) : Bool :=
  match K with
  | [] => true
  | t :: r => match keeps n t c h with
    | true => keepsAll n r c h
    | false => false

def den (P : Program) (n : Nat) (rd : Bool) : Code → HT → Ex → Env → Hp → (Env → Hp → Prop) → Prop
  | .skip, _, _, env, h, k => k env h
  | .label _, _, _, env, h, k => k env h
  | .exit id, _, E, env, h, _ => E.brk id env h
  | .ret, _, E, env, h, _ => E.ret env h
  | .region _ ops false, _, _, env, h, k => match dstOk n ops.toList with
    | true => denL P n rd ops ops.toList env [] h k
    | false => False
  | .region _ ops true, .o ord, _, env, h, k => match okD P n ops (Region.before ops) ord with
    | true => denD P n ops (Region.before ops) ord [] env [] h k
    | false => False
  | .seq a b, .s l r, E, env, h, k => den P n rd a l E env h fun env' h' => den P n rd b r E env' h' k
  | .seq a b, .j S K l r, E, env, h, k => match keepsAll n K a l, pick K env with
    | true, some kv => JnC S (fun vs h' => den P n rd b r E (app (zipv S vs) (zipv K kv)) h' k) fun J => den P n rd a l E env h fun env' h' => withL S env' fun vs => J vs h'
    | _, _ => False
  | .cond c x y, .c l r, E, env, h, k => match ev n env c with
    | some v => Br v (den P n rd x l E env h k) (den P n rd y r E env h k)
    | none => False
  | .block id b, .b t, E, env, h, k => den P n rd b t { E with brk := fun i => match Nat.beq i id with
    | true => k
    | false => E.brk i } env h k
  | .scope b, t, E, env, h, k => den P n rd b t E env h k
  | .loop b, .l S K t, E, env, h, _ => match keepsAll n K b t, pick K env, pick S env with
    | true, some kv, some iv => LpC S iv h fun vs h' again => den P n rd b t E (app (zipv S vs) (zipv K kv)) h' fun env' h'' => withL S env' fun vs' => again vs' h''
    | _, _, _ => False
  | _, _, _, _, _, _ => False

theorem memB_iff {t : Nat} : ∀ {l : List Nat}, memB t l = true ↔ t ∈ l
  | [] => by simp [memB]
  | x :: r => by
    unfold memB
    split
    · rename_i h; have := Nat.eq_of_beq_eq_true h; subst this; simp
    · rename_i h
      rw [memB_iff]
      have : x ≠ t := fun e => by subst e; simp at h
      simp [Ne.symm this]

theorem noDst_mem {t : Nat} : ∀ {l : List Oper}, noDst t l = true → ∀ o ∈ l, o.dst ≠ some t
  | [], _, o, ho => by cases ho
  | x :: r, h, o, ho => by
    unfold noDst at h
    split at h
    · rename_i hn
      rcases List.mem_cons.1 ho with rfl | ho
      · rw [hn]; simp
      · exact noDst_mem h o ho
    · rename_i d hd
      split at h
      · contradiction
      · rename_i hb
        rcases List.mem_cons.1 ho with rfl | ho
        · rw [hd]; intro e; cases e; simp at hb
        · exact noDst_mem h o ho
theorem noDef_mem : ∀ {l : List Oper}, noDef l = true → ∀ o ∈ l, ∀ c, o.op ≠ .defer c
  | [], _, o, ho => by cases ho
  | x :: r, h, o, ho => by
    unfold noDef at h
    split at h
    · contradiction
    · rename_i hn
      rcases List.mem_cons.1 ho with rfl | ho
      · exact fun c e => hn c e
      · exact noDef_mem h o ho

theorem lk_app {e e' : Env} {t : Nat} : lk (app e e') t = (match lk e t with
    | some v => some v
    | none => lk e' t) := by
  induction e with
  | nil => rfl
  | cons x r ih =>
    obtain ⟨d, v⟩ := x
    simp only [app, lk]
    split
    · rfl
    · exact ih

theorem pick_spec {env : Env} : ∀ {S : List Nat} {vs : List Value}, pick S env = some vs → ∀ t v, lk (zipv S vs) t = some v → lk env t = some v
  | [], vs, h, t, v, hv => by simp [zipv, lk] at hv
  | s :: r, vs, h, t, v, hv => by
    unfold pick at h
    split at h <;> try contradiction
    rename_i u hu
    split at h <;> try contradiction
    rename_i us hus
    simp only [Option.some.injEq] at h
    subst h
    simp only [zipv] at hv
    rw [lk_put] at hv
    split at hv
    · rename_i e; subst e; rw [hu]; exact hv
    · exact pick_spec hus t v hv
theorem pick_mem {env : Env} : ∀ {S : List Nat} {vs : List Value}, pick S env = some vs → ∀ t ∈ S, lk (zipv S vs) t = lk env t
  | [], vs, h, t, ht => by cases ht
  | s :: r, vs, h, t, ht => by
    unfold pick at h
    split at h <;> try contradiction
    rename_i u hu
    split at h <;> try contradiction
    rename_i us hus
    simp only [Option.some.injEq] at h
    subst h
    simp only [zipv]
    rw [lk_put]
    split
    · rename_i e; subst e; exact hu.symm
    · rename_i e
      rcases List.mem_cons.1 ht with h1 | h1
      · exact absurd h1.symm e
      · exact pick_mem hus t h1
theorem pick_some {env : Env} : ∀ {S : List Nat} {vs : List Value}, pick S env = some vs → ∀ t ∈ S, (lk env t).isSome = true
  | [], vs, h, t, ht => by cases ht
  | s :: r, vs, h, t, ht => by
    unfold pick at h
    split at h <;> try contradiction
    rename_i u hu
    split at h <;> try contradiction
    rename_i us hus
    rcases List.mem_cons.1 ht with rfl | h1
    · rw [hu]; rfl
    · exact pick_some hus t h1
theorem lk_zip_none {S : List Nat} {vs : List Value} {t : Nat} (h : t ∉ S) : lk (zipv S vs) t = none := by
  induction S generalizing vs with
  | nil => cases vs <;> rfl
  | cons s r ih =>
    cases vs with
    | nil => rfl
    | cons v vs =>
      simp only [zipv]
      rw [lk_put, if_neg (fun e => h (by rw [e]; exact List.mem_cons_self ..))]
      exact ih fun hh => h (List.mem_cons_of_mem _ hh)

theorem Agr.sub {n : Nat} {env env' : Env} {a : Act} (h : Agr n env' a) (hs : ∀ t v, lk env t = some v → lk env' t = some v) : Agr n env a :=
  ⟨h.sz, fun t v ht hv => h.sl t v ht (hs t v hv), fun v hv => h.df v (hs n v hv)⟩

def QQ (n : Nat) (w0 : World) (T : List Nat) (b : Nat → Option Value) (E : Ex) (k : Env → Hp → Prop) : Exit → Act → World → Prop
  | .normal, a, w => ∃ env, Agr n env a ∧ Rst w0 w ∧ (∀ t ∈ T, lk env t = b t) ∧ k env w.heap
  | .exit id, a, w => ∃ env, Agr n env a ∧ Rst w0 w ∧ (∀ t ∈ T, lk env t = b t) ∧ E.brk id env w.heap
  | .ret, a, w => ∃ env, Agr n env a ∧ Rst w0 w ∧ (∀ t ∈ T, lk env t = b t) ∧ E.ret env w.heap
  | _, _, _ => False

theorem wpIn_scope {P : Program} {F : Fence} {m : Nat} {c : Code} {Q : Exit → Act → World → Prop} {a : Act} {w : World} (hg : ∀ l a w, ¬ Q (.goto l) a w) (h : c.wpIn F m P Q a w) : (Code.scope c).wpIn F m P Q a w := by
  intro b k cs hro hb hr
  have s1 : _root_.Go.step P (lone (b.atR a (.code (.scope c) :: k)) cs w) = .next (lone (b.atR a (.code c :: .inScope c :: k)) cs w) :=
    step_lone_go (by simp [stepG, stepG.exec, Frame.atR])
  have f1 : (lone (b.atR a (.code (.scope c) :: k)) cs w).fenced P F := fenced_calm (fr := b.atR a (.code (.scope c) :: k)) hb hr rfl
  obtain ⟨e, a₁, w₁, hq, harr⟩ := h b (.inScope c :: k) cs hro hb hr
  cases e with
  | normal =>
    refine ⟨.normal, a₁, w₁, hq, .head f1 s1 (StepsIn.trans harr (.one (fenced_calm (fr := b.atR a₁ (.inScope c :: k)) hb hr rfl) ?_))⟩
    exact step_lone_go (by simp [stepG, stepG.exec, Frame.atR])
  | exit id =>
    refine ⟨.exit id, a₁, w₁, hq, fun k' hk => .head f1 s1 (harr.1 k' (by simp [exitTo, hk])), fun hr' hk => ?_⟩
    obtain ⟨k₁, h1, h2⟩ := harr.2 hr' (by simp [exitTo, hk])
    exact ⟨k₁, h1, .head f1 s1 h2⟩
  | goto l => exact (hg _ _ _ hq).elim
  | ret => exact ⟨_, a₁, w₁, hq, .of_steps (.one f1 s1) harr⟩
  | panic ch => exact ⟨_, a₁, w₁, hq, .of_steps (.one f1 s1) harr⟩
  | outgrown => exact ⟨_, a₁, w₁, hq, .of_steps (b := b) (k := k) (cs := cs) (e := .outgrown) (.one f1 s1) harr⟩

theorem keepsAll_mem {n : Nat} {c : Code} {h : HT} : ∀ {K : List Nat}, keepsAll n K c h = true → ∀ t ∈ K, keeps n t c h = true
  | [], _, t, ht => by cases ht
  | x :: r, hk, t, ht => by
    unfold keepsAll at hk
    split at hk
    · rename_i hx
      rcases List.mem_cons.1 ht with rfl | ht
      · exact hx
      · exact keepsAll_mem hk t ht
    · contradiction

theorem den_sound {P : Program} {F : Fence} (hF : Wd F) {n m : Nat} {rd : Bool} (hrd : rd = false → F.round = none) (hm : P.follows .mixedOrders = true) {w0 : World} :
    ∀ (c : Code) (ht : HT) (E : Ex) (env : Env) (k : Env → Hp → Prop) (T : List Nat) (b : Nat → Option Value) (a : Act) (w : World), (∀ t ∈ T, keeps n t c ht = true) → (∀ t ∈ T, lk env t = b t) → Agr n env a → Rst w0 w →
      den P n rd c ht E env w.heap k → c.wpIn F m P (QQ n w0 T b E k) a w := by
  intro c
  induction c with
  | skip => intro ht E env k T b a w _ hb hA hR h; exact wpIn_skip ⟨env, hA, hR, hb, by simpa [den] using h⟩
  | label l => intro ht E env k T b a w _ hb hA hR h; exact wpIn_label ⟨env, hA, hR, hb, by simpa [den] using h⟩
  | exit id => intro ht E env k T b a w _ hb hA hR h; exact wpIn_exit ⟨env, hA, hR, hb, by simpa [den] using h⟩
  | ret => intro ht E env k T b a w _ hb hA hR h; exact wpIn_ret ⟨env, hA, hR, hb, by simpa [den] using h⟩
  | region id ops draw =>
    intro ht E env k T b a w hT hb hA hR h
    have hTd : ∀ o ∈ ops.toList, ∀ d, o.dst = some d → d ∉ T := by
      intro o ho d hd hdT
      have := hT d hdT
      unfold keeps at this
      split at this
      · rename_i hnd; exact noDst_mem hnd o ho hd
      · contradiction
    have hTn : n ∈ T → ∀ o ∈ ops.toList, ∀ c, o.op ≠ .defer c := by
      intro hnT
      have := hT n hnT
      unfold keeps at this
      split at this
      · have e : Nat.beq n n = true := by simp
        rw [e] at this
        exact noDef_mem this
      · contradiction
    cases draw with
    | false =>
      simp only [den] at h
      split at h
      · rename_i hn
        refine wpIn_region_list (denL_sound hF hrd hn hTd hTn (fun env' a' w' hA' hR' hb' hk => ⟨env', hA', hR', hb', hk⟩) ops.toList env [] a w hb (fun _ h => h) hA (KBok.nil _ _) hR h)
      · contradiction
    | true =>
      cases ht with
      | o ord =>
        simp only [den] at h
        split at h
        · rename_i hok
          exact denD_sound hF hm hok hTd (fun env' a' w' hA' hR' hb' hk => ⟨env', hA', hR', hb', hk⟩) hb hA hR h
        · contradiction
      | _ => simp [den] at h
  | seq x y ihx ihy =>
    intro ht E env k T b a w hT hb hA hR h
    cases ht with
    | s l r =>
      simp only [den] at h
      have hTx : ∀ t ∈ T, keeps n t x l = true := fun t ht => by have := hT t ht; simp only [keeps] at this; split at this <;> simp_all
      have hTy : ∀ t ∈ T, keeps n t y r = true := fun t ht => by have := hT t ht; simp only [keeps] at this; split at this <;> simp_all
      refine wpIn_seq (wpIn_mono (ihx l E env _ T b a w hTx hb hA hR h) fun e a' w' hq => ?_)
      cases e with
      | normal =>
        obtain ⟨env', hA', hR', hb', hk⟩ := hq
        exact ihy r E env' k T b a' w' hTy hb' hA' hR' hk
      | _ => exact hq
    | j S K l r =>
      simp only [den] at h
      split at h
      · rename_i kv hka hkv
        obtain ⟨J, hJ, hJK⟩ := JnC_sound h
        have hTx : ∀ t ∈ T, t ∈ K ∧ t ∉ S ∧ keeps n t x l = true ∧ keeps n t y r = true := by
          intro t ht
          have := hT t ht
          simp only [keeps] at this
          split at this
          · rename_i h1 h2 h3
            exact ⟨memB_iff.1 h1, (fun hs => by rw [memB_iff.2 hs] at h2; cases h2), h3, this⟩
          · contradiction
        refine wpIn_seq (wpIn_mono (ihx l E env _ K (lk env) a w (keepsAll_mem hka) (fun _ _ => rfl) hA hR hJ) fun e a' w' hq => ?_)
        have hTb : ∀ (env' : Env), (∀ t ∈ K, lk env' t = lk env t) → ∀ t ∈ T, lk env' t = b t := fun env' hK t ht => (hK t (hTx t ht).1).trans (hb t ht)
        cases e with
        | normal =>
          obtain ⟨env', hA', hR', hK, hk⟩ := hq
          unfold withL at hk
          split at hk
          · rename_i vs hvs
            have hsub : ∀ t v, lk (app (zipv S vs) (zipv K kv)) t = some v → lk env' t = some v := by
              intro t v hv
              rw [lk_app] at hv
              split at hv
              · rename_i u hu; rw [pick_spec hvs t u hu]; exact hv
              · have h1 := pick_spec hkv t v hv
                by_cases hKt : t ∈ K
                · rw [hK t hKt]; exact h1
                · rw [lk_zip_none hKt] at hv; cases hv
            refine ihy r E _ k T b a' w' (fun t ht => (hTx t ht).2.2.2) (fun t ht => ?_) (hA'.sub hsub) hR' (hJK _ _ hk)
            rw [lk_app, lk_zip_none (hTx t ht).2.1]
            simp only
            rw [pick_mem hkv t (hTx t ht).1]
            exact hb t ht
          · exact hk.elim
        | exit id =>
          obtain ⟨env', hA', hR', hK, hk⟩ := hq
          exact ⟨env', hA', hR', hTb env' hK, hk⟩
        | ret =>
          obtain ⟨env', hA', hR', hK, hk⟩ := hq
          exact ⟨env', hA', hR', hTb env' hK, hk⟩
        | _ => exact hq
      · contradiction
    | _ => simp [den] at h
  | cond c x y ihx ihy =>
    intro ht E env k T b a w hT hb hA hR h
    cases ht with
    | c l r =>
      simp only [den] at h
      have hTx : ∀ t ∈ T, keeps n t x l = true := fun t ht => by have := hT t ht; simp only [keeps] at this; split at this <;> simp_all
      have hTy : ∀ t ∈ T, keeps n t y r = true := fun t ht => by have := hT t ht; simp only [keeps] at this; split at this <;> simp_all
      split at h
      · rename_i v hv
        obtain ⟨t, rfl, h1, h2⟩ := h
        refine wpIn_cond_split (hA.holds c _ hv) (fun e => ?_) (fun e => ?_)
        · exact ihx l E env k T b a w hTx hb hA hR (h1 e)
        · exact ihy r E env k T b a w hTy hb hA hR (h2 e)
      · contradiction
    | _ => simp [den] at h
  | block id x ih =>
    intro ht E env k T b a w hT hb hA hR h
    cases ht with
    | b t =>
      simp only [den] at h
      have hT' : ∀ s ∈ T, keeps n s x t = true := fun s hs => by have := hT s hs; simpa [keeps] using this
      refine wpIn_block (wpIn_mono (ih t _ env k T b a w hT' hb hA hR h) fun e a' w' hq => ?_)
      cases e with
      | exit i =>
        obtain ⟨env', hA', hR', hK, hk⟩ := hq
        simp only [Exit.inBlock]
        cases hi : Nat.beq i id with
        | true =>
          rw [if_pos (Nat.eq_of_beq_eq_true hi)]
          refine ⟨env', hA', hR', hK, ?_⟩
          simp only [hi] at hk
          exact hk
        | false =>
          rw [if_neg (fun e => by subst e; simp at hi)]
          refine ⟨env', hA', hR', hK, ?_⟩
          simp only [hi] at hk
          exact hk
      | _ => exact hq
    | _ => simp [den] at h
  | scope x ih =>
    intro ht E env k T b a w hT hb hA hR h
    simp only [den] at h
    have hT' : ∀ s ∈ T, keeps n s x ht = true := fun s hs => by have := hT s hs; simpa [keeps] using this
    exact wpIn_scope (fun _ _ _ h => h) (ih ht E env k T b a w hT' hb hA hR h)
  | loop x ih =>
    intro ht E env k T b a w hT hb hA hR h
    cases ht with
    | l S K t =>
      simp only [den] at h
      have hTx : ∀ s ∈ T, s ∈ K ∧ s ∉ S ∧ keeps n s x t = true := by
        intro s hs
        have := hT s hs
        simp only [keeps] at this
        split at this
        · rename_i h1 h2
          exact ⟨memB_iff.1 h1, (fun hss => by rw [memB_iff.2 hss] at h2; cases h2), this⟩
        · contradiction
      split at h
      · rename_i kv iv hka hkv hiv
        obtain ⟨I, μ, C, h0, hbody, hC⟩ := LpC_sound h
        -- the loop's environment
        let L : List Value → Env := fun vs => app (zipv S vs) (zipv K kv)
        have hLb : ∀ vs, ∀ s ∈ T, lk (L vs) s = b s := by
          intro vs s hs
          show lk (app _ _) s = _
          rw [lk_app, lk_zip_none (hTx s hs).2.1]
          simp only
          rw [pick_mem hkv s (hTx s hs).1]
          exact hb s hs
        -- the measure, out of a state
        let M : Act → World → Nat → Prop := fun a w j => ∃ vs, Agr n (L vs) a ∧ I vs w.heap ∧ μ vs w.heap = j
        classical
        have hM0 : ∃ j, M a w j := ⟨_, iv, hA.sub (fun s v hv => by
          have hv' : lk (app (zipv S iv) (zipv K kv)) s = some v := hv
          rw [lk_app] at hv'
          split at hv'
          · rename_i u hu; rw [pick_spec hiv s u hu]; exact hv'
          · exact pick_spec hkv s v hv'), h0, rfl⟩
        refine wpIn_loop (fun a w => Rst w0 w ∧ ∃ j, M a w j) (fun a w => if e : ∃ j, M a w j then Nat.find' e else 0) ⟨hR, hM0⟩ fun a1 w1 ⟨hR1, hM1⟩ => ?_
        obtain ⟨vs, hA1, hI, hμ⟩ := Nat.find'_spec hM1
        have hd := hbody vs w1.heap hI
        refine wpIn_mono (ih t E (L vs) _ K (lk (L vs)) a1 w1 (keepsAll_mem hka) (fun s hs => rfl) hA1 hR1 hd) fun e a2 w2 hq => ?_
        have hTb : ∀ (env' : Env), (∀ s ∈ K, lk env' s = lk (L vs) s) → ∀ s ∈ T, lk env' s = b s := fun env' hK s hs => (hK s (hTx s hs).1).trans (hLb vs s hs)
        cases e with
        | normal =>
          obtain ⟨env', hA2, hR2, hK2, hk⟩ := hq
          unfold withL at hk
          split at hk
          · rename_i vs' hvs'
            obtain ⟨hI2, hlt⟩ := hC _ _ _ _ hk
            have hA2' : Agr n (L vs') a2 := hA2.sub fun s v hv => by
              have hv' : lk (app (zipv S vs') (zipv K kv)) s = some v := hv
              rw [lk_app] at hv'
              split at hv'
              · rename_i u hu; rw [pick_spec hvs' s u hu]; exact hv'
              · rename_i hnone
                have hKs : s ∈ K := by
                  by_cases h : s ∈ K
                  · exact h
                  · rw [lk_zip_none h] at hv'; cases hv'
                have hSs : s ∉ S := by
                  intro h
                  rw [pick_mem hvs' s h] at hnone
                  have := pick_some hvs' s h
                  rw [hnone] at this; cases this
                rw [hK2 s hKs]
                show lk (app _ _) s = _
                rw [lk_app, lk_zip_none hSs]
                exact hv'
            have hM2 : M a2 w2 (μ vs' w2.heap) := ⟨vs', hA2', hI2, rfl⟩
            refine ⟨⟨hR2, _, hM2⟩, ?_⟩
            rw [dif_pos ⟨_, hM2⟩, dif_pos hM1]
            exact Nat.lt_of_le_of_lt (Nat.find'_min ⟨_, hM2⟩ hM2) (by rw [← hμ]; exact hlt)
          · exact hk.elim
        | exit id =>
          obtain ⟨env', hA2, hR2, hK2, hk⟩ := hq
          exact ⟨env', hA2, hR2, hTb env' hK2, hk⟩
        | ret =>
          obtain ⟨env', hA2, hR2, hK2, hk⟩ := hq
          exact ⟨env', hA2, hR2, hTb env' hK2, hk⟩
        | _ => exact hq
      · contradiction
    | _ => simp [den] at h
  | rangeFunc f ps as x _ _ => intro ht E env k T b a w _ hb hA hR h; cases ht <;> simp [den] at h
  | goto l => intro ht E env k T b a w _ hb hA hR h; cases ht <;> simp [den] at h
  | refuse s => intro ht E env k T b a w _ hb hA hR h; cases ht <;> simp [den] at h
end Go.En
