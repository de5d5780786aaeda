/-
  The engine, part G: operations whose order is drawn: one walk serves every order.
  The engine, part H: a drawn region, by one walk.
  The engine, part I: a drawn region, by one walk: the theorem.
  The engine, part J: joins and loops, by the number of values that they carry. (Printed by genJ.py.)
  The engine, part K: code; functions.
  The engine, part L: functions.
-/
import Derived.Test.YtcepckpfhbcobaaGreatDoorXA
import Derived.RangeFuncIn
import Derived.RangeFuncLeaves
namespace Go.En

inductive DC where
  | p | v | e | bad
def pureV (P : Program) : Op → Bool
  | .load .. | .lookup .. | .entry _ => false
  | .call { callee := .builtin .len, argTypes := ⟨t :: _⟩, .. } => match lnk P t with
    | .slc => true
    | _ => false
  | .call { callee := .builtin .min, .. } | .call { callee := .builtin .max, .. } => true
  | .call _ => false
  | _ => true
def dc (P : Program) (op : Op) : DC :=
  match op with
  | .move _ | .assign _ => .p
  | .defer _ | .select .. => .bad
  | op => match isV op with
    | true => match pureV P op with
      | true => .p
      | false => .v
    | false => .e
def isE : DC → Bool
  | .e => true
  | _ => false

structure Pd where
  i : Nat
  env : Env
  op : Op
  v : Value

def stabs (P : Program) (n : Nat) (mask : Nat) (h : Hp) (q : Prop) : List Pd → Prop
  | [] => q
  | p :: r => match mask.testBit p.i with
    | true => stabs P n mask h q r
    | false => vop P n p.env p.op h = some p.v ∧ stabs P n mask h q r
def keepP (mask : Nat) : List Pd → List Pd
  | [] => []
  | p :: r => match mask.testBit p.i with
    | true => keepP mask r
    | false => p :: keepP mask r

def kbn (kb : KB) (dst : Option Nat) : KB :=
  match dst with
  | some d => (d, none) :: kb
  | none => kb

/-- the orders of a drawn region: a line; at a fork, which operation that turns the heap comes next is left open -/
inductive OT where
  | nil
  | cons (i : Nat) (r : OT)
  | alt (a b : OT)
def oc : List Nat → OT → OT
  | [], t => t
  | i :: r, t => .cons i (oc r t)

def denD (P : Program) (n : Nat) (ops : Array Oper) (pre : Array Nat) : OT → List Pd → Env → KB → Hp → (Env → Hp → Prop) → Prop
  | .nil, _, env, _, h, k => k env h
  | .alt a b, pend, env, kb, h, k => denD P n ops pre a pend env kb h k ∧ denD P n ops pre b pend env kb h k
  | .cons i r, pend, env, kb, h, k => match ops[i]? with
    | none => False
    | some o => grd ops env kb o.guard
      (fun kb => match dc P o.op with
        | .p => step P n o.op env kb h fun v _ => denD P n ops pre r pend (put env o.dst v) (kbd kb o.dst) h k
        | .v => Vb (vop P n env o.op h) fun v => denD P n ops pre r ({ i, env, op := o.op, v } :: pend) (put env o.dst v) (kbd kb o.dst) h k
        | .e => eop P n env o.op h fun v h' => stabs P n (pre.getD i 0) h' (denD P n ops pre r (keepP (pre.getD i 0) pend) (put env o.dst v) (kbd kb o.dst) h' k) pend
        | .bad => False)
      (fun kb => denD P n ops pre r pend (put env o.dst undef) (kbn kb o.dst) h k)

/-! ### The check of a region's order -/
def rel (pre : Array Nat) (i j : Nat) : Bool := (pre.getD i 0).testBit j
def dstOf (ops : Array Oper) (j : Nat) : Option Nat := (ops[j]?).bind (·.dst)
def haz (ops : Array Oper) (j : Nat) (o : Oper) : Bool :=
  match dstOf ops j with
  | some d => (o.looksAt ops).contains d
  | none => false
def sameDst (ops : Array Oper) (i j : Nat) : Bool :=
  match dstOf ops i, dstOf ops j with
  | some d, some e => Nat.beq d e
  | _, _ => false
def eAt (P : Program) (ops : Array Oper) (j : Nat) : Bool :=
  match ops[j]? with
  | some o => isE (dc P o.op)
  | none => false
def heads : OT → List Nat
  | .nil => []
  | .cons i _ => [i]
  | .alt a b => heads a ++ heads b
def okGo (P : Program) (ops : Array Oper) (pre : Array Nat) : OT → List Nat → List Nat → Bool
  | .nil, _, l1 => (List.range ops.size).all fun j => l1.contains j
  | .alt a b, hs, l1 => hs.all (fun e => eAt P ops e) && okGo P ops pre a hs l1 && okGo P ops pre b hs l1
  | .cons i r, hs, l1 => (match ops[i]? with
    | none => false
    | some o => !(l1.contains i) && hs.contains i && o.after.all (fun e => !Region.binds .any e || l1.contains e.on) &&
      l1.all (fun j => !haz ops j o || rel pre i j) &&
      (List.range ops.size).all (fun j => Nat.beq j i || l1.contains j || !haz ops j o || rel pre j i) &&
      (!isE (dc P o.op) || (List.range ops.size).all fun j => l1.contains j || hs.contains j || hs.any fun e => rel pre j e)) && okGo P ops pre r (heads r) (i :: l1)
def pathOf : OT → List Nat
  | .nil => []
  | .cons i r => i :: pathOf r
  | .alt a _ => pathOf a
def okD (P : Program) (n : Nat) (ops : Array Oper) (pre : Array Nat) (ord : OT) : Bool :=
  dstOk n ops.toList && (List.range ops.size).all (fun i => (List.range ops.size).all fun j => Nat.beq i j || !sameDst ops i j) &&
    (List.range ops.size).all (fun i => match ops[i]? with
      | none => false
      | some o => o.after.all (fun e => !Region.binds .any e || (Nat.blt ((pathOf ord).idxOf e.on) ((pathOf ord).idxOf i) && Nat.blt e.on ops.size)) &&
        (List.range ops.size).all (fun j => !rel pre i j || o.after.any fun e => Region.binds .any e && (Nat.beq e.on j || rel pre e.on j))) &&
    okGo P ops pre ord (heads ord) []

structure OkAt (P : Program) (ops : Array Oper) (pre : Array Nat) (hs l1 : List Nat) (i : Nat) (o : Oper) : Prop where
  at_ : ops[i]? = some o
  notin : i ∉ l1
  inh : i ∈ hs
  edge : ∀ e ∈ o.after, Region.binds .any e = true → e.on ∈ l1
  hz1 : ∀ j ∈ l1, haz ops j o = true → rel pre i j = true
  hz2 : ∀ j, j < ops.size → j ≠ i → j ∉ l1 → haz ops j o = true → rel pre j i = true
  wait : dc P o.op = .e → ∀ j, j < ops.size → j ∉ l1 → j ∉ hs → ∃ e ∈ hs, rel pre j e = true

theorem okGo_at {P : Program} {ops : Array Oper} {pre : Array Nat} {hs l1 : List Nat} {i : Nat} {r : OT} (h : okGo P ops pre (.cons i r) hs l1 = true) : (∃ o, OkAt P ops pre hs l1 i o) ∧ okGo P ops pre r (heads r) (i :: l1) = true := by
  unfold okGo at h
  rw [Bool.and_eq_true] at h
  refine ⟨?_, h.2⟩
  have h1 := h.1
  split at h1
  · contradiction
  · rename_i o ho
    simp only [Bool.and_eq_true, List.all_eq_true, Array.all_eq_true_iff_forall_mem, Bool.or_eq_true, Bool.not_eq_true', List.contains_iff_mem, List.contains_eq_mem, decide_eq_false_iff_not, decide_eq_true_eq, List.mem_range, List.any_eq_true] at h1
    obtain ⟨⟨⟨⟨⟨a1, a6⟩, a2⟩, a4⟩, a5⟩, a7⟩ := h1
    refine ⟨o, ho, a1, a6, fun e he hb => ?_, fun j hj hh => ?_, fun j hj hne hnl hh => ?_, fun hd j hj hnl hnh => ?_⟩
    · rcases a2 e he with h2 | h2
      · rw [hb] at h2; cases h2
      · exact h2
    · rcases a4 j hj with h2 | h2
      · rw [hh] at h2; cases h2
      · exact h2
    · rcases a5 j hj with ((h2 | h2) | h2) | h2
      · exact absurd (Nat.eq_of_beq_eq_true h2) hne
      · exact absurd h2 hnl
      · rw [hh] at h2; cases h2
      · exact h2
    · rcases a7 with h2 | h2
      · rw [hd] at h2; cases h2
      · rcases h2 j hj with (h3 | h3) | h3
        · exact absurd h3 hnl
        · exact absurd h3 hnh
        · exact h3
theorem okGo_alt {P : Program} {ops : Array Oper} {pre : Array Nat} {hs l1 : List Nat} {a b : OT} (h : okGo P ops pre (.alt a b) hs l1 = true) : (∀ e ∈ hs, eAt P ops e = true) ∧ okGo P ops pre a hs l1 = true ∧ okGo P ops pre b hs l1 = true := by
  unfold okGo at h
  simp only [Bool.and_eq_true, List.all_eq_true] at h
  exact ⟨h.1.1, h.1.2, h.2⟩

/-! ### What an operation comes to, in whatever frame agrees with an environment on what it looks at -/
def agreeOn (n : Nat) (env : Env) (ts : List Tmp) (a : Act) : Prop := a.tmps.size = n ∧ ∀ t u, t ∈ ts → t < n → lk env t = some u → a.tmps.getD t undef = u

/-- the operation's operands, in an environment; elsewhere in the frame -/
def rho (n : Nat) (env : Env) (a : Act) : Operand → Value := fun x => (ev n env x).getD (a.eval x)
theorem rho_holds {n : Nat} {env : Env} {a : Act} : Holds n env (rho n env a) := fun x v h => by simp [rho, h]
theorem rho_cong {n : Nat} {env : Env} {a : Act} {ops : Array Oper} {o : Oper} (hs : ∀ cs b, o.op ≠ .select cs b) (h : agreeOn n env (o.looksAt ops) a) : execOp a.eval o = execOp (rho n env a) o := by
  refine execOp_congr o hs fun x hx => ?_
  unfold rho
  cases he : ev n env x with
  | none => rfl
  | some v =>
    simp only [Option.getD_some]
    cases x with
    | tmp t =>
      simp only [ev] at he
      split at he
      · rename_i hb
        exact h.2 t v (List.mem_append_left _ (List.mem_filterMap.2 ⟨.tmp t, by simpa using hx, rfl⟩)) (by simpa [Nat.blt_eq] using hb) he
      · contradiction
    | const u => simpa [ev, Act.eval] using he
    | global g => simpa [ev, Act.eval] using he
    | func f => simpa [ev, Act.eval] using he

/-- is it carried out: by the environment -/
def wantE (ops : Array Oper) (env : Env) (o : Oper) : Bool :=
  match o.guard with
  | none => true
  | some (j, want) => match dstOf ops j with
    | none => false
    | some d => match lk env d with
      | none => false
      | some v => boolOf v == some want

theorem grd_env {n : Nat} {ops : Array Oper} {env : Env} {kb : KB} {o : Oper} {yes no : KB → Prop} (hn : dstOk n ops.toList = true) (hK : KBok n kb env) (h : grd ops env kb o.guard yes no) :
    ∃ kb', KBok n kb' env ∧ ((wantE ops env o = true ∧ yes kb') ∨ (wantE ops env o = false ∧ no kb')) ∧
      (∀ a, agreeOn n env (o.looksAt ops) a → Region.wanted o (yielded ops a.tmps) = wantE ops env o) := by
  have key : ∀ (a : Act), agreeOn n env (o.looksAt ops) a → (∀ j want d, o.guard = some (j, want) → dstOf ops j = some d → ∃ v, lk env d = some v) → (∀ j want, o.guard = some (j, want) → ∃ d, dstOf ops j = some d) →
      Region.wanted o (yielded ops a.tmps) = wantE ops env o := by
    intro a ha hv hd
    unfold wantE
    cases hg : o.guard with
    | none => simp [Region.wanted, hg]
    | some g =>
      obtain ⟨j, want⟩ := g
      obtain ⟨d, hd'⟩ := hd j want hg
      obtain ⟨v, hv'⟩ := hv j want d hg hd'
      simp only [hd', hv']
      have hdn : d < n := by
        unfold dstOf at hd'
        cases ho : ops[j]? with
        | none => rw [ho] at hd'; cases hd'
        | some oj => rw [ho] at hd'; exact dstOk_mem hn oj (by rw [Array.mem_toList_iff]; exact Array.mem_of_getElem? ho) d hd'
      have hin : d ∈ o.looksAt ops := by
        unfold Oper.looksAt
        refine List.mem_append_right _ ?_
        rw [hg]
        simp only
        have : (ops[j]?).bind (·.dst) = some d := hd'
        rw [this]; simp
      have hy := yielded_of (env := env) (v := v) ha.1 (j := j) (ops := ops) hd' hdn (ha.2 d v hin hdn hv')
      simp only [Region.wanted, hg, hy]
  have h0 := h
  unfold grd at h
  split at h
  · rename_i hg
    refine ⟨kb, hK, .inl ⟨by simp [wantE, hg], h⟩, fun a ha => key a ha (fun j want d hgg _ => by rw [hg] at hgg; cases hgg) (fun j want hgg => by rw [hg] at hgg; cases hgg)⟩
  · rename_i j want hg
    split at h <;> try contradiction
    rename_i d hd
    have hd' : dstOf ops j = some d := hd
    have hdn : d < n := by
      cases ho : ops[j]? with
      | none => rw [ho] at hd; cases hd
      | some oj => rw [ho] at hd; exact dstOk_mem hn oj (by rw [Array.mem_toList_iff]; exact Array.mem_of_getElem? ho) d hd
    have fin : ∀ v, lk env d = some v → (∀ a, agreeOn n env (o.looksAt ops) a → Region.wanted o (yielded ops a.tmps) = wantE ops env o) := fun v hv a ha => key a ha
      (fun j' want' d' hgg hdd => by rw [hg] at hgg; cases hgg; rw [hd'] at hdd; cases hdd; exact ⟨v, hv⟩) (fun j' want' hgg => by rw [hg] at hgg; cases hgg; exact ⟨d, hd'⟩)
    have hw : ∀ v, lk env d = some v → wantE ops env o = (boolOf v == some want) := fun v hv => by simp [wantE, hg, hd', hv]
    split at h
    · rename_i b hb
      obtain ⟨_, v, hv, hm⟩ := hK _ _ hb
      simp only at hm
      subst hm
      refine ⟨kb, hK, ?_, fin _ hv⟩
      rw [hw _ hv]
      split at h
      · exact .inl ⟨rfl, h⟩
      · exact .inl ⟨rfl, h⟩
      · rename_i h1 h2
        refine .inr ⟨?_, h⟩
        cases b <;> cases want <;> first | rfl | exact (h1 rfl rfl).elim | exact (h2 rfl rfl).elim
    · rename_i hb
      obtain ⟨_, v, hv, hm⟩ := hK _ _ hb
      simp only at hm
      subst hm
      exact ⟨kb, hK, .inr ⟨by rw [hw _ hv]; rfl, h⟩, fin _ hv⟩
    · split at h <;> try contradiction
      rename_i v hv
      split at h
      · obtain ⟨b, rfl, ht, hf⟩ := Br_ex h
        cases b with
        | true => exact ⟨_, hK.add hdn hv (r := some true) rfl, .inl ⟨by rw [hw _ hv]; rfl, ht rfl⟩, fin _ hv⟩
        | false => exact ⟨_, hK.add hdn hv (r := some false) rfl, .inr ⟨by rw [hw _ hv]; rfl, hf rfl⟩, fin _ hv⟩
      · obtain ⟨b, rfl, ht, hf⟩ := Br_ex h
        cases b with
        | true => exact ⟨_, hK.add hdn hv (r := some true) rfl, .inr ⟨by rw [hw _ hv]; rfl, ht rfl⟩, fin _ hv⟩
        | false => exact ⟨_, hK.add hdn hv (r := some false) rfl, .inl ⟨by rw [hw _ hv]; rfl, hf rfl⟩, fin _ hv⟩

/-- Operation i comes to v, in every heap that has what it reads, in every frame that agrees. -/
def Comes1 (P : Program) (F : Fence) (m n : Nat) (ops : Array Oper) (i : Nat) (o : Oper) (env : Env) (v : Value) (h : Hp) : Prop :=
  ∀ (a : Act) (w : World) (Q : Exit → Act → World → Prop) (next : Act → World → Prop), w.heap = h → agreeOn n env (o.looksAt ops) a → next (a.put o.dst v) w → wpOpIn F m P ops Q i next a w

theorem pureV_vop {P : Program} {n : Nat} {env : Env} {op : Op} (hp : pureV P op = true) (h h' : Hp) : vop P n env op h = vop P n env op h' := by
  cases op <;> first | rfl | (simp [pureV] at hp; done) | skip
  rename_i c
  obtain ⟨cl, ⟨as⟩, ⟨ts⟩⟩ := c
  cases cl with
  | value f => simp [pureV] at hp
  | invoke r m => simp [pureV] at hp
  | builtin b =>
    cases b <;> first | (simp [pureV] at hp; done) | skip
    · cases ts with
      | nil => simp [pureV] at hp
      | cons t r =>
        simp only [pureV] at hp
        split at hp
        · rename_i hk
          match as with
          | [] => rfl
          | [x] => simp only [vop, hk, lnT]
          | _ :: _ :: _ => rfl
        · contradiction
    · match as with
      | [] => rfl
      | [x] => rfl
      | [x, y] => rfl
      | _ :: _ :: _ :: _ => rfl
    · match as with
      | [] => rfl
      | [x] => rfl
      | [x, y] => rfl
      | _ :: _ :: _ :: _ => rfl

end Go.En
namespace Go.En

/-- An operation that asks the heap for nothing: its value, in every heap. -/
theorem step_pure {P : Program} {n : Nat} {env : Env} {kb : KB} {o : Oper} {h : Hp} {k : Value → Hp → Prop} (hK : KBok n kb env) (hp : dc P o.op = .p) (hs : step P n o.op env kb h k) :
    ∃ v, (∀ (ρ : Operand → Value) (w : World), Holds n env ρ → (execOp ρ o).run P w = .ok (.value v) w) ∧ k v h := by
  have hmove : ∀ x v, (o.op = .move x ∨ o.op = .assign x) → ev n env x = some v → k v h → ∃ v, (∀ (ρ : Operand → Value) (w : World), Holds n env ρ → (execOp ρ o).run P w = .ok (.value v) w) ∧ k v h := by
    intro x v ho hv hk
    refine ⟨v, fun ρ w hρ => ?_, hk⟩
    rw [← hρ x v hv]
    rcases ho with e | e <;> (unfold execOp; rw [e]; rfl)
  have hV : pureV P o.op = true → Vb (vop P n env o.op h) (fun v => k v h) → ∃ v, (∀ (ρ : Operand → Value) (w : World), Holds n env ρ → (execOp ρ o).run P w = .ok (.value v) w) ∧ k v h := by
    rintro hpv ⟨v, hv, hk⟩
    exact ⟨v, fun ρ w hρ => run_vop hρ (by rw [pureV_vop hpv w.heap h]; exact hv), hk⟩
  unfold step at hs
  split at hs
  · rename_i x ho
    split at hs <;> try contradiction
    rename_i v hv
    exact hmove x v (.inl ho) hv hs
  · rename_i x ho
    split at hs <;> try contradiction
    rename_i v hv
    exact hmove x v (.inr ho) hv hs
  · rename_i c x y ho
    have kb2 : ∀ b, lkb kb c = some (some b) → ev n env (.tmp c) = some (.bool b) := by
      intro b hb
      obtain ⟨hc, u, hu, hm⟩ := hK _ _ hb
      simp only at hm
      subst hm
      have : Nat.blt c n = true := by simpa [Nat.blt_eq] using hc
      simp [ev, this, hu]
    split at hs
    · rename_i hb
      split at hs <;> try contradiction
      rename_i v hv
      refine ⟨v, fun ρ w hρ => ?_, hs⟩
      unfold execOp; rw [ho]; simp [hρ _ _ (kb2 _ hb), hρ _ _ hv, asBool]
    · rename_i hb
      split at hs <;> try contradiction
      rename_i v hv
      refine ⟨v, fun ρ w hρ => ?_, hs⟩
      unfold execOp; rw [ho]; simp [hρ _ _ (kb2 _ hb), hρ _ _ hv, asBool]
    · contradiction
    · rw [← ho] at hs; exact hV (by rw [ho]; rfl) hs
  · rename_i h1 h2 h3
    have hpv : isV o.op = true ∧ pureV P o.op = true := by
      unfold dc at hp
      split at hp
      · rename_i hh; exact (h1 _ hh).elim
      · rename_i hh; exact (h2 _ hh).elim
      · contradiction
      · contradiction
      · split at hp
        · rename_i hv
          split at hp
          · rename_i hpp; exact ⟨hv, hpp⟩
          · contradiction
        · contradiction
    rw [hpv.1] at hs
    exact hV hpv.2 hs

theorem dc_v {P : Program} {op : Op} (h : dc P op = .v) : ∀ cs b, op ≠ .select cs b := by
  intro cs b e; subst e; simp [dc] at h
theorem dc_p {P : Program} {op : Op} (h : dc P op = .p) : ∀ cs b, op ≠ .select cs b := by
  intro cs b e; subst e; simp [dc] at h
theorem dc_e {P : Program} {op : Op} (h : dc P op = .e) : ∀ cs b, op ≠ .select cs b := by
  intro cs b e; subst e; simp [dc] at h

theorem comes1_run {P : Program} {F : Fence} (hF : Wd F) {m n : Nat} {ops : Array Oper} {i : Nat} {o : Oper} {env : Env} {v : Value} {h : Hp} (ho : ops[i]? = some o) (hs : ∀ cs b, o.op ≠ .select cs b) (hd : ∀ c, o.op ≠ .defer c)
    (hw : ∀ a, agreeOn n env (o.looksAt ops) a → Region.wanted o (yielded ops a.tmps) = true)
    (hr : ∀ (ρ : Operand → Value) (w : World), w.heap = h → Holds n env ρ → (execOp ρ o).run P w = .ok (.value v) w) : Comes1 P F m n ops i o env v h := by
  intro a w Q next hh ha hn
  unfold wpOpIn
  simp only [ho]
  rw [hw a ha, if_pos rfl]
  refine ⟨fun f _ => hF.any f, ?_⟩
  rw [Oper.semAt_eq _ _ _ hd, rho_cong hs ha, hr _ w hh rho_holds, Oper.uponIn_value]
  exact hn

theorem comes1_skip {P : Program} {F : Fence} (hF : Wd F) {m n : Nat} {ops : Array Oper} {i : Nat} {o : Oper} {env : Env} {h : Hp} (ho : ops[i]? = some o)
    (hw : ∀ a, agreeOn n env (o.looksAt ops) a → Region.wanted o (yielded ops a.tmps) = false) : Comes1 P F m n ops i o env undef h := by
  intro a w Q next hh ha hn
  unfold wpOpIn
  simp only [ho]
  rw [hw a ha]
  exact ⟨fun f _ => hF.any f, hn⟩

def lst (listed : Array Bool) (j : Nat) : Bool := listed.getD j false

/-- an operation that the walk has behind it and the machine has still ahead -/
structure Pend (P : Program) (F : Fence) (m n : Nat) (ops : Array Oper) (pre : Array Nat) (pl : List Nat) (env : Env) (D : Nat → Bool) (a : Act) (h : Hp) (pend : List Pd) (i : Nat) (o : Oper) (env' : Env) (pl' : List Nat) (v : Value) : Prop where
  at_ : ops[i]? = some o
  sub : ∀ j ∈ pl', j ∈ pl
  run : Comes1 P F m n ops i o env' v h
  keep : (∀ h', Comes1 P F m n ops i o env' v h') ∨ (∃ p ∈ pend, p.i = i ∧ ∀ h', vop P n p.env p.op h' = some p.v → Comes1 P F m n ops i o env' v h')
  val : ∀ d, o.dst = some d → lk env d = some v
  fr : ∀ t u, t ∈ o.looksAt ops → t < n → lk env' t = some u → (∀ j ∈ pl', dstOf ops j = some t → D j = true) → a.tmps.getD t undef = u
  h1 : ∀ j ∈ pl', haz ops j o = true → rel pre i j = true
  h2 : ∀ j, j < ops.size → j ≠ i → j ∉ pl' → haz ops j o = true → rel pre j i = true
  per : ∀ j ∈ pl', ∀ t u, lk env' t = some u → dstOf ops j = some t → lk env t = some u

structure St (P : Program) (F : Fence) (m n : Nat) (ops : Array Oper) (pre : Array Nat) (pl : List Nat) (env : Env) (D : Nat → Bool) (a : Act) (h : Hp) (pend : List Pd) (T : List Nat) (b : Nat → Option Value) : Prop where
  tr : ∀ t ∈ T, lk env t = b t
  sz : a.tmps.size = n
  df : ∀ v, lk env n = some v → ∃ ds : List Value, v = .tuple ⟨ds⟩ ∧ a.defers = ds.map dec
  fr : ∀ t v, t < n → lk env t = some v → (∀ j ∈ pl, dstOf ops j = some t → D j = true) → a.tmps.getD t undef = v
  sub : ∀ j, j < ops.size → D j = true → j ∈ pl
  clo : ∀ i, D i = true → ∀ j, j < ops.size → rel pre i j = true → D j = true
  lt : ∀ j ∈ pl, j < ops.size
  pd : ∀ i ∈ pl, D i = false → ∃ o env' pl' v, Pend P F m n ops pre pl env D a h pend i o env' pl' v

/-- an operation that turns the heap, and what comes behind it; at a fork: each of them -/
def AheadT (P : Program) (n : Nat) (ops : Array Oper) (pre : Array Nat) (pend : List Pd) (env : Env) (h : Hp) (k : Env → Hp → Prop) : OT → Prop
  | .nil => False
  | .alt a b => AheadT P n ops pre pend env h k a ∧ AheadT P n ops pre pend env h k b
  | .cons e r => ∃ o kb, ops[e]? = some o ∧ dc P o.op = .e ∧ KBok n kb env ∧ (∀ a, agreeOn n env (o.looksAt ops) a → Region.wanted o (yielded ops a.tmps) = true) ∧
    eop P n env o.op h fun v h' => stabs P n (pre.getD e 0) h' (denD P n ops pre r (keepP (pre.getD e 0) pend) (put env o.dst v) (kbd kb o.dst) h' k) pend
/-- what the walk has still ahead: nothing, or operations that turn the heap -/
def Ahead (P : Program) (n : Nat) (ops : Array Oper) (pre : Array Nat) (rest : OT) (pend : List Pd) (env : Env) (h : Hp) (k : Env → Hp → Prop) : Prop :=
  (rest = .nil ∧ k env h) ∨ AheadT P n ops pre pend env h k rest

theorem mem_lt {ops : Array Oper} {i : Nat} {o : Oper} (h : ops[i]? = some o) : i < ops.size := (Array.getElem?_eq_some_iff.1 h).1
theorem dstOf_at {ops : Array Oper} {i : Nat} {o : Oper} (h : ops[i]? = some o) : dstOf ops i = o.dst := by simp [dstOf, h]
theorem haz_of {ops : Array Oper} {j t : Nat} {o : Oper} (h : dstOf ops j = some t) (ht : t ∈ o.looksAt ops) : haz ops j o = true := by
  unfold haz; rw [h]; simpa using ht

theorem stabs_spec {P : Program} {n : Nat} {mask : Nat} {h : Hp} {q : Prop} : ∀ {pend : List Pd}, stabs P n mask h q pend → q ∧ ∀ p ∈ pend, mask.testBit p.i = false → vop P n p.env p.op h = some p.v
  | [], hs => ⟨hs, fun p hp => by cases hp⟩
  | p :: r, hs => by
    unfold stabs at hs
    split at hs
    · rename_i hb
      obtain ⟨h1, h2⟩ := stabs_spec (pend := r) hs
      refine ⟨h1, fun x hx hxb => ?_⟩
      rcases List.mem_cons.1 hx with rfl | hx
      · rw [hb] at hxb; cases hxb
      · exact h2 x hx hxb
    · rename_i hb
      obtain ⟨h1, h2⟩ := stabs_spec (pend := r) hs.2
      refine ⟨h1, fun x hx hxb => ?_⟩
      rcases List.mem_cons.1 hx with rfl | hx
      · exact hs.1
      · exact h2 x hx hxb

theorem keepP_mem {mask : Nat} : ∀ {pend : List Pd} {p : Pd}, p ∈ pend → mask.testBit p.i = false → p ∈ keepP mask pend
  | [], p, hp, _ => by cases hp
  | x :: r, p, hp, hb => by
    unfold keepP
    rcases List.mem_cons.1 hp with rfl | hp
    · rw [hb]; exact List.mem_cons_self ..
    · split
      · exact keepP_mem hp hb
      · exact List.mem_cons_of_mem _ (keepP_mem hp hb)
section
variable {P : Program} {F : Fence} (hF : Wd F) {m n : Nat} {ops : Array Oper} {pre : Array Nat}
variable {T : List Nat} {b : Nat → Option Value} (hT : ∀ o ∈ ops.toList, ∀ d, o.dst = some d → d ∉ T)
variable (hn : dstOk n ops.toList = true) (hdist : ∀ i j d, i < ops.size → j < ops.size → dstOf ops i = some d → dstOf ops j = some d → i = j)
include hF hT hn hdist

/-- one operation more behind the walk, not yet behind the machine -/
theorem St.more {hs pl : List Nat} {i : Nat} {env : Env} {D : Nat → Bool} {a : Act} {h : Hp} {pend pend' : List Pd} {o : Oper} {v : Value} (hok : OkAt P ops pre hs pl i o) (hs : St P F m n ops pre pl env D a h pend T b)
    (hp : ∀ p ∈ pend, p ∈ pend') (hrun : Comes1 P F m n ops i o env v h) (hkeep : (∀ h', Comes1 P F m n ops i o env v h') ∨ (∃ p ∈ pend', p.i = i ∧ ∀ h', vop P n p.env p.op h' = some p.v → Comes1 P F m n ops i o env v h')) :
    St P F m n ops pre (i :: pl) (put env o.dst v) D a h pend' T b := by
  have _ := hF
  have hi := mem_lt hok.at_
  have hdi := dstOf_at hok.at_
  have hDi : D i = false := by
    cases hD : D i with
    | false => rfl
    | true => exact absurd (hs.sub i hi hD) hok.notin
  have hoth : ∀ j ∈ pl, ∀ t, dstOf ops j = some t → o.dst ≠ some t := by
    intro j hj t hjt e
    rw [← hdi] at e
    have := hdist j i t (hs.lt j hj) hi hjt e
    subst this
    exact hok.notin hj
  have hlk : ∀ t, o.dst ≠ some t → lk (put env o.dst v) t = lk env t := by
    intro t ht
    cases hd : o.dst with
    | none => rfl
    | some d =>
      simp only [put]
      rw [lk_put, if_neg (fun e => ht (by rw [hd, e]))]
  have hnn : o.dst ≠ some n := fun e => by
    exact Nat.lt_irrefl n (dstOk_mem hn o (by rw [Array.mem_toList_iff]; exact Array.mem_of_getElem? hok.at_) n e)
  refine ⟨?_, hs.sz, ?_, ?_, ?_, hs.clo, ?_, ?_⟩
  · intro t ht
    rw [hlk t (fun e => hT o (by rw [Array.mem_toList_iff]; exact Array.mem_of_getElem? hok.at_) t e ht)]
    exact hs.tr t ht
  · intro u hu
    rw [hlk n hnn] at hu
    exact hs.df u hu
  · intro t u ht hu hj
    by_cases e : o.dst = some t
    · have := hj i (List.mem_cons_self ..) (by rw [hdi]; exact e)
      rw [hDi] at this; cases this
    · rw [hlk t e] at hu
      exact hs.fr t u ht hu fun j hjj => hj j (List.mem_cons_of_mem _ hjj)
  · exact fun j hj hD => List.mem_cons_of_mem _ (hs.sub j hj hD)
  · intro j hj
    rcases List.mem_cons.1 hj with rfl | hj
    · exact hi
    · exact hs.lt j hj
  · intro x hx hDx
    rcases List.mem_cons.1 hx with rfl | hx
    · refine ⟨o, env, pl, v, hok.at_, fun j hj => List.mem_cons_of_mem _ hj, hrun, hkeep, ?_, ?_, hok.hz1, ?_, ?_⟩
      · intro d hd; rw [hd]; simp only [put]; rw [lk_put, if_pos rfl]
      · intro t u ht htn hu hj
        exact hs.fr t u htn hu hj
      · exact fun j hj hne hnp hh => hok.hz2 j hj hne hnp hh
      · intro j hj t u hu hjt
        rw [hlk t (hoth j hj t hjt)]; exact hu
    · obtain ⟨o', env', pl', v', hp'⟩ := hs.pd x hx hDx
      refine ⟨o', env', pl', v', hp'.at_, fun j hj => List.mem_cons_of_mem _ (hp'.sub j hj), hp'.run, ?_, ?_, hp'.fr, hp'.h1, hp'.h2, ?_⟩
      · rcases hp'.keep with hk | ⟨p, hpm, hpi, hpv⟩
        · exact .inl hk
        · exact .inr ⟨p, hp p hpm, hpi, hpv⟩
      · intro d hd
        rw [hlk d (hoth x hx d (by rw [dstOf_at hp'.at_]; exact hd))]
        exact hp'.val d hd
      · intro j hj t u hu hjt
        rw [hlk t (hoth j (hp'.sub j hj) t hjt)]
        exact hp'.per j hj t u hu hjt

/-- The walk goes on as far as the next operation that turns the heap. -/
theorem advance {k : Env → Hp → Prop} {D : Nat → Bool} {a : Act} {h : Hp} : ∀ (rest : OT) (hs0 pl : List Nat) (pend : List Pd) (env : Env) (kb : KB), okGo P ops pre rest hs0 pl = true → KBok n kb env → St P F m n ops pre pl env D a h pend T b →
    denD P n ops pre rest pend env kb h k →
    (okGo P ops pre rest hs0 pl = true ∧ St P F m n ops pre pl env D a h pend T b ∧ Ahead P n ops pre rest pend env h k) ∨
    ∃ pl' rest' pend' env', okGo P ops pre rest' (heads rest') pl' = true ∧ St P F m n ops pre pl' env' D a h pend' T b ∧ Ahead P n ops pre rest' pend' env' h k
  | .nil, hs0, pl, pend, env, kb, hok, _, hs, hd => .inl ⟨hok, hs, .inl ⟨rfl, hd⟩⟩
  | .alt x y, hs0, pl, pend, env, kb, hok, hK, hs, hd => by
    obtain ⟨hE, hx, hy⟩ := okGo_alt hok
    rcases advance x hs0 pl pend env kb hx hK hs hd.1 with ⟨_, _, h1⟩ | h1
    · rcases advance y hs0 pl pend env kb hy hK hs hd.2 with ⟨_, _, h2⟩ | h2
      · rcases h1 with ⟨rfl, h1⟩ | h1
        · exact .inr ⟨pl, .nil, pend, env, hx, hs, .inl ⟨rfl, h1⟩⟩
        · rcases h2 with ⟨rfl, h2⟩ | h2
          · exact .inr ⟨pl, .nil, pend, env, hy, hs, .inl ⟨rfl, h2⟩⟩
          · exact .inl ⟨hok, hs, .inr ⟨h1, h2⟩⟩
      · exact .inr h2
    · exact .inr h1
  | .cons i r, hs0, pl, pend, env, kb, hok, hK, hs, hd => by
    obtain ⟨⟨o, ho⟩, hok'⟩ := okGo_at hok
    have fin : ∀ {pend' : List Pd} {env' : Env} {kb' : KB}, KBok n kb' env' → St P F m n ops pre (i :: pl) env' D a h pend' T b → denD P n ops pre r pend' env' kb' h k →
        ∃ pl' rest' pend' env', okGo P ops pre rest' (heads rest') pl' = true ∧ St P F m n ops pre pl' env' D a h pend' T b ∧ Ahead P n ops pre rest' pend' env' h k := fun hK' hs' hd' => by
      rcases advance r (heads r) (i :: pl) _ _ _ hok' hK' hs' hd' with ⟨h1, h2, h3⟩ | h1
      · exact ⟨_, _, _, _, h1, h2, h3⟩
      · exact h1
    unfold denD at hd
    simp only [ho.at_] at hd
    obtain ⟨kb', hK', hcase, hw⟩ := grd_env hn hK hd
    rcases hcase with ⟨hyes, hd⟩ | ⟨hno, hd⟩
    · have hw' := fun a ha => (hw a ha).trans hyes
      split at hd
      · rename_i hp
        obtain ⟨v, hr, hd⟩ := step_pure hK' hp hd
        have hc : ∀ h', Comes1 P F m n ops i o env v h' := fun h' => comes1_run hF ho.at_ (dc_p hp) (by intro c e; rw [e] at hp; simp [dc] at hp) hw' fun ρ w _ hρ => hr ρ w hρ
        exact .inr (fin (hK'.put _ _) (hs.more hF hT hn hdist ho (fun p hp => hp) (hc h) (.inl hc)) hd)
      · rename_i hp
        obtain ⟨v, hv, hd⟩ := hd
        have hc : ∀ h', vop P n env o.op h' = some v → Comes1 P F m n ops i o env v h' := fun h' hv' => comes1_run hF ho.at_ (dc_v hp) (by intro c e; rw [e] at hp; simp [dc] at hp) hw' fun ρ w hh hρ => run_vop hρ (by rw [hh]; exact hv')
        exact .inr (fin (hK'.put _ _)
          (hs.more hF hT hn hdist ho (fun p hp => List.mem_cons_of_mem _ hp) (hc h hv) (.inr ⟨{ i, env, op := o.op, v }, List.mem_cons_self .., rfl, hc⟩)) hd)
      · rename_i hp
        exact .inl ⟨hok, hs, .inr ⟨o, kb', ho.at_, hp, hK', hw', hd⟩⟩
      · contradiction
    · have hw' := fun a ha => (hw a ha).trans hno
      have hc : ∀ h', Comes1 P F m n ops i o env undef h' := fun h' => comes1_skip hF ho.at_ hw'
      refine .inr (fin ?_ (hs.more hF hT hn hdist ho (fun p hp => hp) (hc h) (.inl hc)) hd)
      cases hdst : o.dst with
      | none => simpa [put, kbn] using hK'
      | some d =>
        simp only [kbn, put]
        intro t q hq
        rw [lkb_cons] at hq
        by_cases e : d = t
        · subst e
          rw [if_pos rfl] at hq
          simp only [Option.some.injEq] at hq
          subst hq
          exact ⟨dstOk_mem hn o (by rw [Array.mem_toList_iff]; exact Array.mem_of_getElem? ho.at_) d hdst, undef, by rw [lk_put, if_pos rfl], rfl⟩
        · rw [if_neg e] at hq
          obtain ⟨h1, v, h2, h3⟩ := hK' t q hq
          exact ⟨h1, v, by rw [lk_put, if_neg e]; exact h2, h3⟩

end
end Go.En
namespace Go.En

/-- among the forks: the operation that the machine takes -/
theorem ahead_pick {P : Program} {n : Nat} {ops : Array Oper} {pre : Array Nat} {pend : List Pd} {env : Env} {h : Hp} {k : Env → Hp → Prop} {hs pl : List Nat} : ∀ {t : OT}, okGo P ops pre t hs pl = true → AheadT P n ops pre pend env h k t → ∀ i ∈ heads t,
    ∃ r, okGo P ops pre (.cons i r) hs pl = true ∧ AheadT P n ops pre pend env h k (.cons i r)
  | .nil, _, ha, i, hi => by cases hi
  | .cons e r, hok, ha, i, hi => by
    simp only [heads, List.mem_singleton] at hi
    subst hi
    exact ⟨r, hok, ha⟩
  | .alt x y, hok, ha, i, hi => by
    obtain ⟨_, hx, hy⟩ := okGo_alt hok
    rcases List.mem_append.1 hi with h1 | h1
    · exact ahead_pick hx ha.1 i h1
    · exact ahead_pick hy ha.2 i h1
theorem ahead_some {P : Program} {n : Nat} {ops : Array Oper} {pre : Array Nat} {pend : List Pd} {env : Env} {h : Hp} {k : Env → Hp → Prop} {hs pl : List Nat} : ∀ {t : OT}, okGo P ops pre t hs pl = true → AheadT P n ops pre pend env h k t →
    ∃ e r, okGo P ops pre (.cons e r) hs pl = true ∧ AheadT P n ops pre pend env h k (.cons e r)
  | .nil, _, ha => ha.elim
  | .cons e r, hok, ha => ⟨e, r, hok, ha⟩
  | .alt x y, hok, ha => ahead_some (okGo_alt hok).2.1 ha.1

def unl (ops : Array Oper) (listed : Array Bool) : Nat := ((List.range ops.size).filter fun i => !listed.getD i true).length

theorem unl_set {ops : Array Oper} {listed : Array Bool} (hsz : listed.size = ops.size) {i : Nat} (hi : i < ops.size) (hl : listed.getD i true = false) : unl ops listed = unl ops (listed.setIfInBounds i true) + 1 := by
  unfold unl
  have hg : ∀ j, (listed.setIfInBounds i true).getD j true = if i = j then true else listed.getD j true := by
    intro j
    simp only [Array.getD_eq_getD_getElem?, Array.getElem?_setIfInBounds]
    by_cases e : i = j
    · subst e; simp [hsz, hi]
    · simp [e]
  simp only [hg]
  have key : ∀ (l : List Nat), l.Nodup → i ∈ l → (l.filter fun j => !listed.getD j true).length = (l.filter fun j => !(if i = j then true else listed.getD j true)).length + 1 := by
    intro l
    induction l with
    | nil => intro _ h; cases h
    | cons x l ih =>
      intro hnd hm
      rw [List.nodup_cons] at hnd
      rcases List.mem_cons.1 hm with rfl | hm
      · rw [List.filter_cons_of_pos (by simp [hl]), List.filter_cons_of_neg (by simp)]
        simp only [List.length_cons]
        congr 2
        apply List.filter_congr
        intro y hy
        have : i ≠ y := fun e => hnd.1 (e ▸ hy)
        simp [this]
      · have hne : i ≠ x := fun e => hnd.1 (e ▸ hm)
        have := ih hnd.2 hm
        by_cases hx : listed.getD x true = true
        · rw [List.filter_cons_of_neg (by simp [hx]), List.filter_cons_of_neg (by simp [hne, hx])]
          exact this
        · have hx' : listed.getD x true = false := by simpa using hx
          rw [List.filter_cons_of_pos (by simp [hx']), List.filter_cons_of_pos (by simp [hne, hx'])]
          simp only [List.length_cons, this]
  exact key _ List.nodup_range (List.mem_range.2 hi)

theorem lst_getD {listed : Array Bool} {ops : Array Oper} (hsz : listed.size = ops.size) {i : Nat} (hi : i < ops.size) : listed.getD i true = lst listed i := by
  unfold lst
  simp [Array.getD_eq_getD_getElem?, hsz, hi]

theorem lst_set {listed : Array Bool} {ops : Array Oper} (hsz : listed.size = ops.size) {i : Nat} (hi : i < ops.size) (j : Nat) : lst (listed.setIfInBounds i true) j = if i = j then true else lst listed j := by
  unfold lst
  simp only [Array.getD_eq_getD_getElem?, Array.getElem?_setIfInBounds]
  by_cases e : i = j
  · subst e; simp [hsz, hi]
  · simp [e]

section
variable {P : Program} {F : Fence} (hF : Wd F) {m n : Nat} {ops : Array Oper} {pre : Array Nat}
variable {T : List Nat} {b : Nat → Option Value} (hT : ∀ o ∈ ops.toList, ∀ d, o.dst = some d → d ∉ T)
variable (hn : dstOk n ops.toList = true) (hdist : ∀ i j d, i < ops.size → j < ops.size → dstOf ops i = some d → dstOf ops j = some d → i = j)
variable (rk : Nat → Nat) (hrk : ∀ i o, ops[i]? = some o → ∀ e ∈ o.after, Region.binds .any e = true → rk e.on < rk i ∧ e.on < ops.size)
variable (hclos : ∀ i o, ops[i]? = some o → ∀ j, j < ops.size → rel pre i j = true → ∃ e ∈ o.after, Region.binds .any e = true ∧ (e.on = j ∨ rel pre e.on j = true))

theorem ready_iff {listed : Array Bool} (hsz : listed.size = ops.size) {i : Nat} : i ∈ Region.ready .any ops listed ↔ i < ops.size ∧ lst listed i = false ∧ ∃ o, ops[i]? = some o ∧ ∀ e ∈ o.after, Region.binds .any e = true → lst listed e.on = true := by
  unfold Region.ready
  simp only [List.mem_filter, List.mem_range, Bool.and_eq_true, Bool.not_eq_true']
  constructor
  · rintro ⟨hi, h1, h2⟩
    refine ⟨hi, by rw [← lst_getD hsz hi]; exact h1, ops[i], Array.getElem?_eq_getElem hi, ?_⟩
    rw [Array.getElem?_eq_getElem hi] at h2
    simp only [Option.map_some, Option.getD_some, Array.all_eq_true_iff_forall_mem, Bool.or_eq_true, Bool.not_eq_true'] at h2
    intro e he hb
    rcases h2 e he with h3 | h3
    · rw [hb] at h3; cases h3
    · exact h3
  · rintro ⟨hi, h1, o, ho, h2⟩
    refine ⟨hi, by rw [lst_getD hsz hi]; exact h1, ?_⟩
    rw [ho]
    simp only [Option.map_some, Option.getD_some, Array.all_eq_true_iff_forall_mem, Bool.or_eq_true, Bool.not_eq_true']
    intro e he
    cases hb : Region.binds .any e with
    | false => exact .inl rfl
    | true => exact .inr (h2 e he hb)

include hrk in
theorem ready_nil {listed : Array Bool} (hsz : listed.size = ops.size) (h : Region.ready .any ops listed = []) : ∀ i, i < ops.size → lst listed i = true := by
  have key : ∀ r i, rk i = r → i < ops.size → lst listed i = true := by
    intro r
    induction r using Nat.strongRecOn with
    | _ r ih =>
      intro i hr hi
      cases hl : lst listed i with
      | true => rfl
      | false =>
        have : i ∈ Region.ready .any ops listed := (ready_iff hsz).2 ⟨hi, hl, ops[i], Array.getElem?_eq_getElem hi, fun e he hb => by
          obtain ⟨h1, h2⟩ := hrk i ops[i] (Array.getElem?_eq_getElem hi) e he hb
          exact ih (rk e.on) (by omega) e.on rfl h2⟩
        rw [h] at this
        cases this
  exact fun i hi => key _ i rfl hi

include hF hT hn hdist hrk hclos in
theorem drawn_run {Q : Exit → Act → World → Prop} {w0 : World} {k : Env → Hp → Prop} (hQ : ∀ env a w, Agr n env a → Rst w0 w → (∀ t ∈ T, lk env t = b t) → k env w.heap → Q .normal a w) :
    ∀ (fuel : Nat) (listed : Array Bool) (a : Act) (w : World) (pl : List Nat) (rest : OT) (pend : List Pd) (env : Env), listed.size = ops.size → unl ops listed = fuel → okGo P ops pre rest (heads rest) pl = true →
      St P F m n ops pre pl env (lst listed) a w.heap pend T b → Ahead P n ops pre rest pend env w.heap k → Rst w0 w → wpAnyIn F m P .any ops Q fuel listed a w := by
  -- when all is listed
  have hend : ∀ (listed : Array Bool) (a : Act) (w : World) (pl : List Nat) (rest : OT) (pend : List Pd) (env : Env), listed.size = ops.size → okGo P ops pre rest (heads rest) pl = true →
      St P F m n ops pre pl env (lst listed) a w.heap pend T b → Ahead P n ops pre rest pend env w.heap k → Rst w0 w → Region.ready .any ops listed = [] → Q .normal a w := by
    intro listed a w pl rest pend env hsz hok hs ha hR hnil
    have hall := ready_nil rk hrk hsz hnil
    rcases ha with ⟨rfl, hk⟩ | ha
    · refine hQ env a w ⟨hs.sz, fun t v ht hv => hs.fr t v ht hv fun j hj _ => hall j (hs.lt j hj), hs.df⟩ hR hs.tr hk
    · obtain ⟨e, r, hok, _⟩ := ahead_some hok ha
      obtain ⟨⟨o', ho'⟩, _⟩ := okGo_at hok
      exact absurd (hs.sub e (mem_lt ho'.at_) (hall e (mem_lt ho'.at_))) ho'.notin
  intro fuel
  induction fuel with
  | zero =>
    intro listed a w pl rest pend env hsz hu hok hs ha hR
    have hnil : Region.ready .any ops listed = [] := by
      cases hr : Region.ready .any ops listed with
      | nil => rfl
      | cons i l =>
        have hi : i ∈ Region.ready .any ops listed := by rw [hr]; exact List.mem_cons_self ..
        obtain ⟨h1, h2, _⟩ := (ready_iff hsz).1 hi
        have := unl_set hsz h1 (by rw [lst_getD hsz h1]; exact h2)
        omega
    exact ⟨hnil, hend listed a w pl rest pend env hsz hok hs ha hR hnil⟩
  | succ fuel ih =>
    intro listed a w pl rest pend env hsz hu hok hs ha hR
    refine ⟨hend listed a w pl rest pend env hsz hok hs ha hR, fun i hi => ?_⟩
    obtain ⟨hilt, hil, o, ho, hpreds⟩ := (ready_iff hsz).1 hi
    have hpre : ∀ j, j < ops.size → rel pre i j = true → lst listed j = true := by
      intro j hj hr
      obtain ⟨e, he, hb, hc⟩ := hclos i o ho j hj hr
      rcases hc with rfl | hc
      · exact hpreds e he hb
      · exact hs.clo e.on (hpreds e he hb) j hj hc
    have hu' : unl ops (listed.setIfInBounds i true) = fuel := by
      have := unl_set hsz hilt (by rw [lst_getD hsz hilt]; exact hil)
      omega
    have hsz' : (listed.setIfInBounds i true).size = ops.size := by simp [hsz]
    have hD' := fun j => lst_set hsz hilt j
    have hdi := dstOf_at ho
    by_cases hip : i ∈ pl
    · -- the walk has it behind it
      obtain ⟨o', env', pl', v, hp⟩ := hs.pd i hip hil
      have : o' = o := by have := hp.at_; rw [ho] at this; exact (Option.some.inj this).symm
      subst this
      have hdlt : ∀ d, o'.dst = some d → d < n := fun d hd => dstOk_mem hn o' (by rw [Array.mem_toList_iff]; exact Array.mem_of_getElem? ho) d hd
      refine hp.run a w Q _ rfl ⟨hs.sz, fun t u ht htn hu => hp.fr t u ht htn hu fun j hj hjt => hpre j (hs.lt j (hp.sub j hj)) (hp.h1 j hj (haz_of hjt ht))⟩ ?_
      refine ih _ _ w pl rest pend env hsz' hu' hok ⟨hs.tr, ?_, ?_, ?_, ?_, ?_, hs.lt, ?_⟩ ha hR
      · cases hd : o'.dst <;> simp [Act.put, hs.sz]
      · intro u hu
        obtain ⟨ds, h1, h2⟩ := hs.df u hu
        exact ⟨ds, h1, by cases hd : o'.dst <;> simpa [Act.put] using h2⟩
      · intro t u htn hu hj
        by_cases e : o'.dst = some t
        · have := hp.val t e
          rw [this] at hu
          simp only [Option.some.injEq] at hu
          subst hu
          rw [e, getD_put (by rw [hs.sz]; exact htn), if_pos rfl]
        · have hsame : (a.put o'.dst v).tmps.getD t undef = a.tmps.getD t undef := by
            cases hd : o'.dst with
            | none => rfl
            | some d => rw [getD_put (by rw [hs.sz]; exact hdlt d hd), if_neg (fun h => e (by rw [hd, h]))]
          rw [hsame]
          refine hs.fr t u htn hu fun j hjp hjt => ?_
          have := hj j hjp hjt
          rw [hD'] at this
          split at this
          · rename_i hij; subst hij; exact absurd (hdi ▸ hjt) e
          · exact this
      · intro j hj hDj
        rw [hD'] at hDj
        split at hDj
        · rename_i e; subst e; exact hip
        · exact hs.sub j hj hDj
      · intro x hx j hj hr
        rw [hD'] at hx ⊢
        split
        · rfl
        · split at hx
          · rename_i e; subst e; exact hpre j hj hr
          · exact hs.clo x hx j hj hr
      · intro x hx hDx
        rw [hD'] at hDx
        split at hDx
        · cases hDx
        · rename_i hix
          obtain ⟨ox, envx, plx, vx, hpx⟩ := hs.pd x hx hDx
          refine ⟨ox, envx, plx, vx, hpx.at_, hpx.sub, hpx.run, hpx.keep, hpx.val, ?_, hpx.h1, hpx.h2, hpx.per⟩
          intro t u ht htn hu hj
          by_cases e : o'.dst = some t
          · have hdt : dstOf ops i = some t := by rw [hdi]; exact e
            by_cases hin : i ∈ plx
            · have h1 := hpx.per i hin t u hu hdt
              have h2 := hp.val t e
              rw [h2] at h1
              simp only [Option.some.injEq] at h1
              subst h1
              rw [e, getD_put (by rw [hs.sz]; exact htn), if_pos rfl]
            · have := hpre x (hs.lt x hx) (hpx.h2 i hilt hix hin (haz_of hdt ht))
              rw [hDx] at this; cases this
          · have hsame : (a.put o'.dst v).tmps.getD t undef = a.tmps.getD t undef := by
              cases hd : o'.dst with
              | none => rfl
              | some d => rw [getD_put (by rw [hs.sz]; exact hdlt d hd), if_neg (fun h => e (by rw [hd, h]))]
            rw [hsame]
            refine hpx.fr t u ht htn hu fun j hjp hjt => ?_
            have := hj j hjp hjt
            rw [hD'] at this
            split at this
            · rename_i hij; subst hij; exact absurd (hdi ▸ hjt) e
            · exact this
    · -- the walk has it ahead
      rcases ha with ⟨rfl, _⟩ | ha
      · unfold okGo at hok
        simp only [List.all_eq_true, List.mem_range, List.contains_eq_mem, decide_eq_true_eq] at hok
        exact absurd (hok i hilt) hip
      · by_cases hih : i ∈ heads rest
        · obtain ⟨r, hok, ha⟩ := ahead_pick hok ha i hih
          obtain ⟨oe, kb, hoe, hdc, hK, hw, hE⟩ := ha
          obtain ⟨⟨oe', hoke⟩, hok'⟩ := okGo_at hok
          have : oe' = oe := by have := hoke.at_; rw [hoe] at this; exact (Option.some.inj this).symm
          subst this
          have : oe' = o := by have := hoe; rw [ho] at this; exact (Option.some.inj this).symm
          subst this
          have hdlt : ∀ d, oe'.dst = some d → d < n := fun d hd => dstOk_mem hn oe' (by rw [Array.mem_toList_iff]; exact Array.mem_of_getElem? ho) d hd
          have hagree : agreeOn n env (oe'.looksAt ops) a := ⟨hs.sz, fun t u ht htn hu => hs.fr t u htn hu fun j hj hjt => hpre j (hs.lt j hj) (hoke.hz1 j hj (haz_of hjt ht))⟩
          have hcong := rho_cong (dc_e hdc) hagree
          unfold wpOpIn
          simp only [ho]
          rw [hw a hagree, if_pos rfl]
          refine run_eop hF (ρ := rho n env a) rho_holds hcong hE _ Q fun v w' hs' hk => ?_
          obtain ⟨hrest, hst⟩ := stabs_spec hk
          have hoth : ∀ j ∈ pl, ∀ t, dstOf ops j = some t → oe'.dst ≠ some t := by
            intro j hj t hjt e
            rw [← hdi] at e
            have := hdist j i t (hs.lt j hj) hilt hjt e
            subst this
            exact hoke.notin hj
          have hlk : ∀ t, oe'.dst ≠ some t → lk (put env oe'.dst v) t = lk env t := by
            intro t ht
            cases hd : oe'.dst with
            | none => rfl
            | some d => simp only [put]; rw [lk_put, if_neg (fun e => ht (by rw [hd, e]))]
          have hnn : oe'.dst ≠ some n := fun e => Nat.lt_irrefl n (hdlt n e)
          have hsame : ∀ t, oe'.dst ≠ some t → (a.put oe'.dst v).tmps.getD t undef = a.tmps.getD t undef := by
            intro t e
            cases hd : oe'.dst with
            | none => rfl
            | some d => rw [getD_put (by rw [hs.sz]; exact hdlt d hd), if_neg (fun h => e (by rw [hd, h]))]
          have hs2 : St P F m n ops pre (i :: pl) (put env oe'.dst v) (lst (listed.setIfInBounds i true)) (a.put oe'.dst v) w'.heap (keepP (pre.getD i 0) pend) T b := by
            refine ⟨fun t ht => by rw [hlk t (fun e => hT oe' (by rw [Array.mem_toList_iff]; exact Array.mem_of_getElem? ho) t e ht)]; exact hs.tr t ht, ?_, ?_, ?_, ?_, ?_, ?_, ?_⟩
            · cases hd : oe'.dst <;> simp [Act.put, hs.sz]
            · intro u hu
              rw [hlk n hnn] at hu
              obtain ⟨ds, h1, h2⟩ := hs.df u hu
              exact ⟨ds, h1, by cases hd : oe'.dst <;> simpa [Act.put] using h2⟩
            · intro t u htn hu hj
              by_cases e : oe'.dst = some t
              · rw [e] at hu ⊢
                simp only [put] at hu
                rw [lk_put, if_pos rfl] at hu
                simp only [Option.some.injEq] at hu
                subst hu
                rw [getD_put (by rw [hs.sz]; exact htn), if_pos rfl]
              · rw [hlk t e] at hu
                rw [hsame t e]
                refine hs.fr t u htn hu fun j hjp hjt => ?_
                have := hj j (List.mem_cons_of_mem _ hjp) hjt
                rw [hD'] at this
                split at this
                · rename_i hij; subst hij; exact absurd (hdi ▸ hjt) e
                · exact this
            · intro j hj hDj
              rw [hD'] at hDj
              split at hDj
              · rename_i e; subst e; exact List.mem_cons_self ..
              · exact List.mem_cons_of_mem _ (hs.sub j hj hDj)
            · intro x hx j hj hr
              rw [hD'] at hx ⊢
              split
              · rfl
              · split at hx
                · rename_i e; subst e; exact hpre j hj hr
                · exact hs.clo x hx j hj hr
            · intro j hj
              rcases List.mem_cons.1 hj with rfl | hj
              · exact hilt
              · exact hs.lt j hj
            · intro x hx hDx
              rw [hD'] at hDx
              split at hDx
              · cases hDx
              · rename_i hix
                rcases List.mem_cons.1 hx with h1 | hx
                · exact absurd h1.symm hix
                · obtain ⟨ox, envx, plx, vx, hpx⟩ := hs.pd x hx hDx
                  have hnrel : rel pre i x = false := by
                    cases hr : rel pre i x with
                    | false => rfl
                    | true => have := hpre x (hs.lt x hx) hr; rw [hDx] at this; cases this
                  have hrun : Comes1 P F m n ops x ox envx vx w'.heap := by
                    rcases hpx.keep with hk' | ⟨p, hpm, hpi, hpv⟩
                    · exact hk' _
                    · exact hpv _ (hst p hpm (by rw [hpi]; exact hnrel))
                  refine ⟨ox, envx, plx, vx, hpx.at_, fun j hj => List.mem_cons_of_mem _ (hpx.sub j hj), hrun, ?_, ?_, ?_, hpx.h1, hpx.h2, ?_⟩
                  · rcases hpx.keep with hk' | ⟨p, hpm, hpi, hpv⟩
                    · exact .inl hk'
                    · exact .inr ⟨p, keepP_mem hpm (by rw [hpi]; exact hnrel), hpi, hpv⟩
                  · intro d hd
                    rw [hlk d (hoth x hx d (by rw [dstOf_at hpx.at_]; exact hd))]
                    exact hpx.val d hd
                  · intro t u ht htn hu hj
                    by_cases e : oe'.dst = some t
                    · have hdt : dstOf ops i = some t := by rw [hdi]; exact e
                      have hnin : i ∉ plx := fun h => hoke.notin (hpx.sub i h)
                      have := hpre x (hs.lt x hx) (hpx.h2 i hilt hix hnin (haz_of hdt ht))
                      rw [hDx] at this; cases this
                    · rw [hsame t e]
                      refine hpx.fr t u ht htn hu fun j hjp hjt => ?_
                      have := hj j hjp hjt
                      rw [hD'] at this
                      split at this
                      · rename_i hij; subst hij; exact absurd (hdi ▸ hjt) e
                      · exact this
                  · intro j hj t u hu hjt
                    rw [hlk t (hoth j (hpx.sub j hj) t hjt)]
                    exact hpx.per j hj t u hu hjt
          rcases advance hF hT hn hdist r (heads r) (i :: pl) _ _ _ hok' (hK.put _ _) hs2 hrest with ⟨hok2, hst2, hah2⟩ | ⟨pl2, rest2, pend2, env2, hok2, hst2, hah2⟩
          · exact ih _ _ w' _ _ _ _ hsz' hu' hok2 hst2 hah2 (hR.trans hs')
          · exact ih _ _ w' pl2 rest2 pend2 env2 hsz' hu' hok2 hst2 hah2 (hR.trans hs')
        · -- what is not at the fork waits for one of it
          obtain ⟨e0, r0, hok0, ha0⟩ := ahead_some hok ha
          obtain ⟨⟨o0, ho0⟩, _⟩ := okGo_at hok0
          obtain ⟨o1, _, ho1, hdc1, _⟩ := ha0
          have : o0 = o1 := by have := ho0.at_; rw [ho1] at this; exact (Option.some.inj this).symm
          subst this
          obtain ⟨e, heh, hrel⟩ := ho0.wait hdc1 i hilt hip hih
          obtain ⟨r, hoke, hae⟩ := ahead_pick hok ha e heh
          obtain ⟨⟨oe, hoe⟩, _⟩ := okGo_at hoke
          have := hpre e (mem_lt hoe.at_) hrel
          exact absurd (hs.sub e (mem_lt hoe.at_) this) hoe.notin
end

/-- **A drawn region.** -/
theorem denD_sound {P : Program} {F : Fence} (hF : Wd F) {m n : Nat} {ops : Array Oper} {pre : Array Nat} {ord : OT} (hm : P.follows .mixedOrders = true) (hok : okD P n ops pre ord = true) {Q : Exit → Act → World → Prop} {w0 : World} {k : Env → Hp → Prop} {T : List Nat} {b : Nat → Option Value} (hT : ∀ o ∈ ops.toList, ∀ d, o.dst = some d → d ∉ T)
    (hQ : ∀ env a w, Agr n env a → Rst w0 w → (∀ t ∈ T, lk env t = b t) → k env w.heap → Q .normal a w) {env : Env} {a : Act} {w : World} {id : Nat} (hb : ∀ t ∈ T, lk env t = b t) (hA : Agr n env a) (hR : Rst w0 w) (h : denD P n ops pre ord [] env [] w.heap k) :
    (Code.region id ops true).wpIn F m P Q a w := by
  unfold okD at hok
  simp only [Bool.and_eq_true, List.all_eq_true, List.mem_range, Bool.or_eq_true, Bool.not_eq_true'] at hok
  obtain ⟨⟨⟨hn, hdst⟩, hgl⟩, hgo⟩ := hok
  have hdist : ∀ i j d, i < ops.size → j < ops.size → dstOf ops i = some d → dstOf ops j = some d → i = j := by
    intro i j d hi hj h1 h2
    rcases hdst i hi j hj with h3 | h3
    · exact Nat.eq_of_beq_eq_true h3
    · simp [sameDst, h1, h2] at h3
  have hat : ∀ i o, ops[i]? = some o → (∀ e ∈ o.after, Region.binds .any e = true → (pathOf ord).idxOf e.on < (pathOf ord).idxOf i ∧ e.on < ops.size) ∧ ∀ j, j < ops.size → rel pre i j = true → ∃ e ∈ o.after, Region.binds .any e = true ∧ (e.on = j ∨ rel pre e.on j = true) := by
    intro i o ho
    have := hgl i (mem_lt ho)
    simp only [ho, Bool.and_eq_true, List.all_eq_true, Array.all_eq_true_iff_forall_mem, List.mem_range, Bool.or_eq_true, Bool.not_eq_true', Array.any_eq_true', Nat.blt_eq] at this
    refine ⟨fun e he hb => ?_, fun j hj hr => ?_⟩
    · rcases this.1 e he with h2 | h2
      · rw [hb] at h2; cases h2
      · exact h2
    · rcases this.2 j hj with h2 | h2
      · rw [hr] at h2; cases h2
      · obtain ⟨e, he, hb, hc⟩ := h2
        exact ⟨e, he, hb, hc.imp Nat.eq_of_beq_eq_true (fun h => h)⟩
  have hrk : ∀ i o, ops[i]? = some o → ∀ e ∈ o.after, Region.binds .any e = true → (pathOf ord).idxOf e.on < (pathOf ord).idxOf i ∧ e.on < ops.size := fun i o ho => (hat i o ho).1
  have hclos : ∀ i o, ops[i]? = some o → ∀ j, j < ops.size → rel pre i j = true → ∃ e ∈ o.after, Region.binds .any e = true ∧ (e.on = j ∨ rel pre e.on j = true) := fun i o ho => (hat i o ho).2
  refine wpIn_region_any hm ?_
  have hl0 : ∀ j, lst (Array.replicate ops.size false) j = false := by
    intro j
    unfold lst
    simp only [Array.getD_eq_getD_getElem?, Array.getElem?_replicate]
    split <;> rfl
  have hu : unl ops (Array.replicate ops.size false) = ops.size := by
    unfold unl
    rw [List.filter_eq_self.2]
    · simp
    · intro j hj
      have : j < ops.size := List.mem_range.1 hj
      simp [Array.getD_eq_getD_getElem?, this]
  have hs0 : St P F m n ops pre [] env (lst (Array.replicate ops.size false)) a w.heap [] T b :=
    ⟨hb, hA.sz, hA.df, fun t v ht hv _ => hA.sl t v ht hv, fun j _ hD => (by rw [hl0] at hD; cases hD), fun i hD => (by rw [hl0] at hD; cases hD), fun j hj => (by cases hj), fun j hj => (by cases hj)⟩
  rcases advance hF hT hn hdist ord (heads ord) [] [] env [] hgo (KBok.nil n env) hs0 h with ⟨hok2, hst2, hah2⟩ | ⟨pl2, rest2, pend2, env2, hok2, hst2, hah2⟩
  · exact drawn_run hF hT hn hdist ((pathOf ord).idxOf ·) hrk hclos hQ ops.size (Array.replicate ops.size false) a { w with drawn := w.drawn + 1 } _ _ _ _ (by simp) hu hok2 hst2 hah2 ⟨hR.os, hR.tape, hR.output⟩
  · exact drawn_run hF hT hn hdist ((pathOf ord).idxOf ·) hrk hclos hQ ops.size (Array.replicate ops.size false) a { w with drawn := w.drawn + 1 } pl2 rest2 pend2 env2 (by simp) hu hok2 hst2 hah2 ⟨hR.os, hR.tape, hR.output⟩
end Go.En
namespace Go.En

/-- the least number (without choice of a decidable predicate) -/
noncomputable def Nat.find' {p : Nat → Prop} (h : ∃ n, p n) : Nat := by
  classical
  exact (Classical.epsilon fun n => p n ∧ ∀ k, p k → n ≤ k)
theorem Nat.find'_both {p : Nat → Prop} (h : ∃ n, p n) : p (Nat.find' h) ∧ ∀ k, p k → Nat.find' h ≤ k := by
  have key : ∀ n, p n → ∃ m, p m ∧ ∀ k, p k → m ≤ k := by
    intro n
    induction n using Nat.strongRecOn with
    | _ n ih =>
      intro hn
      by_cases hl : ∃ k, k < n ∧ p k
      · obtain ⟨k, hk, hp⟩ := hl; exact ih k hk hp
      · exact ⟨n, hn, fun k hk => Nat.le_of_not_lt fun hlt => hl ⟨k, hlt, hk⟩⟩
  obtain ⟨n, hn⟩ := h
  exact Classical.epsilon_spec (p := fun n => p n ∧ ∀ k, p k → n ≤ k) (key n hn)
theorem Nat.find'_spec {p : Nat → Prop} (h : ∃ n, p n) : p (Nat.find' h) := (Nat.find'_both h).1
theorem Nat.find'_min {p : Nat → Prop} (h : ∃ n, p n) {k : Nat} (hk : p k) : Nat.find' h ≤ k := (Nat.find'_both h).2 k hk

/-- two ways meet: 0 values -/
def Jn0 (K : Hp → Prop) (body : (Hp → Prop) → Prop) : Prop := ∃ J : Hp → Prop, body J ∧ ∀ h, J h → K h
/-- a loop: 0 values -/
def Lp0 (h : Hp) (body : Hp → (Hp → Prop) → Prop) : Prop :=
  ∃ (I : Hp → Prop) (m : Hp → Nat), I h ∧ ∀ h, I h → body h fun h' => I h' ∧ m h' < m h
theorem Jn0.here {K : Hp → Prop} {body : (Hp → Prop) → Prop} (h : body K) : Jn0 K body := ⟨K, h, fun _ h => h⟩
theorem Jn0.at {K : Hp → Prop} {body : (Hp → Prop) → Prop} (J : Hp → Prop) (h : body J) (h' : ∀ h, J h → K h) : Jn0 K body := ⟨J, h, h'⟩
theorem Lp0.by {α : Type} {h : Hp} {body : Hp → (Hp → Prop) → Prop} (I : α → Hp → Prop) (m : α → Nat) (x : α) (h0 : I x h)
    (hb : ∀ x h, I x h → ∀ again : Hp → Prop, (∀ x' h, I x' h → m x' < m x → again h) → body h again) : Lp0 h body := by
  classical
  refine ⟨fun h => ∃ x, I x h, fun h => if e : ∃ n x, I x h ∧ m x = n then Nat.find' e else 0, ⟨x, h0⟩, fun h hI => ?_⟩
  have e : ∃ n x, I x h ∧ m x = n := let ⟨x, hx⟩ := hI; ⟨_, x, hx, rfl⟩
  obtain ⟨x, hx, hm⟩ := Nat.find'_spec e
  refine hb x h hx _ fun x' h hx' hlt => ⟨⟨x', hx'⟩, ?_⟩
  have e' : ∃ n x, I x h ∧ m x = n := ⟨_, x', hx', rfl⟩
  dsimp only
  rw [dif_pos e', dif_pos e]
  exact Nat.lt_of_le_of_lt (Nat.find'_min e' ⟨x', hx', rfl⟩) (by rw [← hm]; exact hlt)

/-- two ways meet: 1 values -/
def Jn1 (K : Value → Hp → Prop) (body : (Value → Hp → Prop) → Prop) : Prop := ∃ J : Value → Hp → Prop, body J ∧ ∀ a0 h, J a0 h → K a0 h
/-- a loop: 1 values -/
def Lp1 (a0 : Value) (h : Hp) (body : Value → Hp → (Value → Hp → Prop) → Prop) : Prop :=
  ∃ (I : Value → Hp → Prop) (m : Value → Hp → Nat), I a0 h ∧ ∀ a0 h, I a0 h → body a0 h fun a0' h' => I a0' h' ∧ m a0' h' < m a0 h
theorem Jn1.here {K : Value → Hp → Prop} {body : (Value → Hp → Prop) → Prop} (h : body K) : Jn1 K body := ⟨K, h, fun a0 _ h => h⟩
theorem Jn1.at {K : Value → Hp → Prop} {body : (Value → Hp → Prop) → Prop} (J : Value → Hp → Prop) (h : body J) (h' : ∀ a0 h, J a0 h → K a0 h) : Jn1 K body := ⟨J, h, h'⟩
theorem Lp1.by {α : Type} {a0 : Value} {h : Hp} {body : Value → Hp → (Value → Hp → Prop) → Prop} (I : α → Value → Hp → Prop) (m : α → Nat) (x : α) (h0 : I x a0 h)
    (hb : ∀ x a0 h, I x a0 h → ∀ again : Value → Hp → Prop, (∀ x' a0 h, I x' a0 h → m x' < m x → again a0 h) → body a0 h again) : Lp1 a0 h body := by
  classical
  refine ⟨fun a0 h => ∃ x, I x a0 h, fun a0 h => if e : ∃ n x, I x a0 h ∧ m x = n then Nat.find' e else 0, ⟨x, h0⟩, fun a0 h hI => ?_⟩
  have e : ∃ n x, I x a0 h ∧ m x = n := let ⟨x, hx⟩ := hI; ⟨_, x, hx, rfl⟩
  obtain ⟨x, hx, hm⟩ := Nat.find'_spec e
  refine hb x a0 h hx _ fun x' a0 h hx' hlt => ⟨⟨x', hx'⟩, ?_⟩
  have e' : ∃ n x, I x a0 h ∧ m x = n := ⟨_, x', hx', rfl⟩
  dsimp only
  rw [dif_pos e', dif_pos e]
  exact Nat.lt_of_le_of_lt (Nat.find'_min e' ⟨x', hx', rfl⟩) (by rw [← hm]; exact hlt)

/-- two ways meet: 2 values -/
def Jn2 (K : Value → Value → Hp → Prop) (body : (Value → Value → Hp → Prop) → Prop) : Prop := ∃ J : Value → Value → Hp → Prop, body J ∧ ∀ a0 a1 h, J a0 a1 h → K a0 a1 h
/-- a loop: 2 values -/
def Lp2 (a0 a1 : Value) (h : Hp) (body : Value → Value → Hp → (Value → Value → Hp → Prop) → Prop) : Prop :=
  ∃ (I : Value → Value → Hp → Prop) (m : Value → Value → Hp → Nat), I a0 a1 h ∧ ∀ a0 a1 h, I a0 a1 h → body a0 a1 h fun a0' a1' h' => I a0' a1' h' ∧ m a0' a1' h' < m a0 a1 h
theorem Jn2.here {K : Value → Value → Hp → Prop} {body : (Value → Value → Hp → Prop) → Prop} (h : body K) : Jn2 K body := ⟨K, h, fun a0 a1 _ h => h⟩
theorem Jn2.at {K : Value → Value → Hp → Prop} {body : (Value → Value → Hp → Prop) → Prop} (J : Value → Value → Hp → Prop) (h : body J) (h' : ∀ a0 a1 h, J a0 a1 h → K a0 a1 h) : Jn2 K body := ⟨J, h, h'⟩
theorem Lp2.by {α : Type} {a0 a1 : Value} {h : Hp} {body : Value → Value → Hp → (Value → Value → Hp → Prop) → Prop} (I : α → Value → Value → Hp → Prop) (m : α → Nat) (x : α) (h0 : I x a0 a1 h)
    (hb : ∀ x a0 a1 h, I x a0 a1 h → ∀ again : Value → Value → Hp → Prop, (∀ x' a0 a1 h, I x' a0 a1 h → m x' < m x → again a0 a1 h) → body a0 a1 h again) : Lp2 a0 a1 h body := by
  classical
  refine ⟨fun a0 a1 h => ∃ x, I x a0 a1 h, fun a0 a1 h => if e : ∃ n x, I x a0 a1 h ∧ m x = n then Nat.find' e else 0, ⟨x, h0⟩, fun a0 a1 h hI => ?_⟩
  have e : ∃ n x, I x a0 a1 h ∧ m x = n := let ⟨x, hx⟩ := hI; ⟨_, x, hx, rfl⟩
  obtain ⟨x, hx, hm⟩ := Nat.find'_spec e
  refine hb x a0 a1 h hx _ fun x' a0 a1 h hx' hlt => ⟨⟨x', hx'⟩, ?_⟩
  have e' : ∃ n x, I x a0 a1 h ∧ m x = n := ⟨_, x', hx', rfl⟩
  dsimp only
  rw [dif_pos e', dif_pos e]
  exact Nat.lt_of_le_of_lt (Nat.find'_min e' ⟨x', hx', rfl⟩) (by rw [← hm]; exact hlt)

/-- two ways meet: 3 values -/
def Jn3 (K : Value → Value → Value → Hp → Prop) (body : (Value → Value → Value → Hp → Prop) → Prop) : Prop := ∃ J : Value → Value → Value → Hp → Prop, body J ∧ ∀ a0 a1 a2 h, J a0 a1 a2 h → K a0 a1 a2 h
/-- a loop: 3 values -/
def Lp3 (a0 a1 a2 : Value) (h : Hp) (body : Value → Value → Value → Hp → (Value → Value → Value → Hp → Prop) → Prop) : Prop :=
  ∃ (I : Value → Value → Value → Hp → Prop) (m : Value → Value → Value → Hp → Nat), I a0 a1 a2 h ∧ ∀ a0 a1 a2 h, I a0 a1 a2 h → body a0 a1 a2 h fun a0' a1' a2' h' => I a0' a1' a2' h' ∧ m a0' a1' a2' h' < m a0 a1 a2 h
theorem Jn3.here {K : Value → Value → Value → Hp → Prop} {body : (Value → Value → Value → Hp → Prop) → Prop} (h : body K) : Jn3 K body := ⟨K, h, fun a0 a1 a2 _ h => h⟩
theorem Jn3.at {K : Value → Value → Value → Hp → Prop} {body : (Value → Value → Value → Hp → Prop) → Prop} (J : Value → Value → Value → Hp → Prop) (h : body J) (h' : ∀ a0 a1 a2 h, J a0 a1 a2 h → K a0 a1 a2 h) : Jn3 K body := ⟨J, h, h'⟩
theorem Lp3.by {α : Type} {a0 a1 a2 : Value} {h : Hp} {body : Value → Value → Value → Hp → (Value → Value → Value → Hp → Prop) → Prop} (I : α → Value → Value → Value → Hp → Prop) (m : α → Nat) (x : α) (h0 : I x a0 a1 a2 h)
    (hb : ∀ x a0 a1 a2 h, I x a0 a1 a2 h → ∀ again : Value → Value → Value → Hp → Prop, (∀ x' a0 a1 a2 h, I x' a0 a1 a2 h → m x' < m x → again a0 a1 a2 h) → body a0 a1 a2 h again) : Lp3 a0 a1 a2 h body := by
  classical
  refine ⟨fun a0 a1 a2 h => ∃ x, I x a0 a1 a2 h, fun a0 a1 a2 h => if e : ∃ n x, I x a0 a1 a2 h ∧ m x = n then Nat.find' e else 0, ⟨x, h0⟩, fun a0 a1 a2 h hI => ?_⟩
  have e : ∃ n x, I x a0 a1 a2 h ∧ m x = n := let ⟨x, hx⟩ := hI; ⟨_, x, hx, rfl⟩
  obtain ⟨x, hx, hm⟩ := Nat.find'_spec e
  refine hb x a0 a1 a2 h hx _ fun x' a0 a1 a2 h hx' hlt => ⟨⟨x', hx'⟩, ?_⟩
  have e' : ∃ n x, I x a0 a1 a2 h ∧ m x = n := ⟨_, x', hx', rfl⟩
  dsimp only
  rw [dif_pos e', dif_pos e]
  exact Nat.lt_of_le_of_lt (Nat.find'_min e' ⟨x', hx', rfl⟩) (by rw [← hm]; exact hlt)

/-- two ways meet: 4 values -/
def Jn4 (K : Value → Value → Value → Value → Hp → Prop) (body : (Value → Value → Value → Value → Hp → Prop) → Prop) : Prop := ∃ J : Value → Value → Value → Value → Hp → Prop, body J ∧ ∀ a0 a1 a2 a3 h, J a0 a1 a2 a3 h → K a0 a1 a2 a3 h
/-- a loop: 4 values -/
def Lp4 (a0 a1 a2 a3 : Value) (h : Hp) (body : Value → Value → Value → Value → Hp → (Value → Value → Value → Value → Hp → Prop) → Prop) : Prop :=
  ∃ (I : Value → Value → Value → Value → Hp → Prop) (m : Value → Value → Value → Value → Hp → Nat), I a0 a1 a2 a3 h ∧ ∀ a0 a1 a2 a3 h, I a0 a1 a2 a3 h → body a0 a1 a2 a3 h fun a0' a1' a2' a3' h' => I a0' a1' a2' a3' h' ∧ m a0' a1' a2' a3' h' < m a0 a1 a2 a3 h
theorem Jn4.here {K : Value → Value → Value → Value → Hp → Prop} {body : (Value → Value → Value → Value → Hp → Prop) → Prop} (h : body K) : Jn4 K body := ⟨K, h, fun a0 a1 a2 a3 _ h => h⟩
theorem Jn4.at {K : Value → Value → Value → Value → Hp → Prop} {body : (Value → Value → Value → Value → Hp → Prop) → Prop} (J : Value → Value → Value → Value → Hp → Prop) (h : body J) (h' : ∀ a0 a1 a2 a3 h, J a0 a1 a2 a3 h → K a0 a1 a2 a3 h) : Jn4 K body := ⟨J, h, h'⟩
theorem Lp4.by {α : Type} {a0 a1 a2 a3 : Value} {h : Hp} {body : Value → Value → Value → Value → Hp → (Value → Value → Value → Value → Hp → Prop) → Prop} (I : α → Value → Value → Value → Value → Hp → Prop) (m : α → Nat) (x : α) (h0 : I x a0 a1 a2 a3 h)
    (hb : ∀ x a0 a1 a2 a3 h, I x a0 a1 a2 a3 h → ∀ again : Value → Value → Value → Value → Hp → Prop, (∀ x' a0 a1 a2 a3 h, I x' a0 a1 a2 a3 h → m x' < m x → again a0 a1 a2 a3 h) → body a0 a1 a2 a3 h again) : Lp4 a0 a1 a2 a3 h body := by
  classical
  refine ⟨fun a0 a1 a2 a3 h => ∃ x, I x a0 a1 a2 a3 h, fun a0 a1 a2 a3 h => if e : ∃ n x, I x a0 a1 a2 a3 h ∧ m x = n then Nat.find' e else 0, ⟨x, h0⟩, fun a0 a1 a2 a3 h hI => ?_⟩
  have e : ∃ n x, I x a0 a1 a2 a3 h ∧ m x = n := let ⟨x, hx⟩ := hI; ⟨_, x, hx, rfl⟩
  obtain ⟨x, hx, hm⟩ := Nat.find'_spec e
  refine hb x a0 a1 a2 a3 h hx _ fun x' a0 a1 a2 a3 h hx' hlt => ⟨⟨x', hx'⟩, ?_⟩
  have e' : ∃ n x, I x a0 a1 a2 a3 h ∧ m x = n := ⟨_, x', hx', rfl⟩
  dsimp only
  rw [dif_pos e', dif_pos e]
  exact Nat.lt_of_le_of_lt (Nat.find'_min e' ⟨x', hx', rfl⟩) (by rw [← hm]; exact hlt)

/-- two ways meet: 5 values -/
def Jn5 (K : Value → Value → Value → Value → Value → Hp → Prop) (body : (Value → Value → Value → Value → Value → Hp → Prop) → Prop) : Prop := ∃ J : Value → Value → Value → Value → Value → Hp → Prop, body J ∧ ∀ a0 a1 a2 a3 a4 h, J a0 a1 a2 a3 a4 h → K a0 a1 a2 a3 a4 h
/-- a loop: 5 values -/
def Lp5 (a0 a1 a2 a3 a4 : Value) (h : Hp) (body : Value → Value → Value → Value → Value → Hp → (Value → Value → Value → Value → Value → Hp → Prop) → Prop) : Prop :=
  ∃ (I : Value → Value → Value → Value → Value → Hp → Prop) (m : Value → Value → Value → Value → Value → Hp → Nat), I a0 a1 a2 a3 a4 h ∧ ∀ a0 a1 a2 a3 a4 h, I a0 a1 a2 a3 a4 h → body a0 a1 a2 a3 a4 h fun a0' a1' a2' a3' a4' h' => I a0' a1' a2' a3' a4' h' ∧ m a0' a1' a2' a3' a4' h' < m a0 a1 a2 a3 a4 h
theorem Jn5.here {K : Value → Value → Value → Value → Value → Hp → Prop} {body : (Value → Value → Value → Value → Value → Hp → Prop) → Prop} (h : body K) : Jn5 K body := ⟨K, h, fun a0 a1 a2 a3 a4 _ h => h⟩
theorem Jn5.at {K : Value → Value → Value → Value → Value → Hp → Prop} {body : (Value → Value → Value → Value → Value → Hp → Prop) → Prop} (J : Value → Value → Value → Value → Value → Hp → Prop) (h : body J) (h' : ∀ a0 a1 a2 a3 a4 h, J a0 a1 a2 a3 a4 h → K a0 a1 a2 a3 a4 h) : Jn5 K body := ⟨J, h, h'⟩
theorem Lp5.by {α : Type} {a0 a1 a2 a3 a4 : Value} {h : Hp} {body : Value → Value → Value → Value → Value → Hp → (Value → Value → Value → Value → Value → Hp → Prop) → Prop} (I : α → Value → Value → Value → Value → Value → Hp → Prop) (m : α → Nat) (x : α) (h0 : I x a0 a1 a2 a3 a4 h)
    (hb : ∀ x a0 a1 a2 a3 a4 h, I x a0 a1 a2 a3 a4 h → ∀ again : Value → Value → Value → Value → Value → Hp → Prop, (∀ x' a0 a1 a2 a3 a4 h, I x' a0 a1 a2 a3 a4 h → m x' < m x → again a0 a1 a2 a3 a4 h) → body a0 a1 a2 a3 a4 h again) : Lp5 a0 a1 a2 a3 a4 h body := by
  classical
  refine ⟨fun a0 a1 a2 a3 a4 h => ∃ x, I x a0 a1 a2 a3 a4 h, fun a0 a1 a2 a3 a4 h => if e : ∃ n x, I x a0 a1 a2 a3 a4 h ∧ m x = n then Nat.find' e else 0, ⟨x, h0⟩, fun a0 a1 a2 a3 a4 h hI => ?_⟩
  have e : ∃ n x, I x a0 a1 a2 a3 a4 h ∧ m x = n := let ⟨x, hx⟩ := hI; ⟨_, x, hx, rfl⟩
  obtain ⟨x, hx, hm⟩ := Nat.find'_spec e
  refine hb x a0 a1 a2 a3 a4 h hx _ fun x' a0 a1 a2 a3 a4 h hx' hlt => ⟨⟨x', hx'⟩, ?_⟩
  have e' : ∃ n x, I x a0 a1 a2 a3 a4 h ∧ m x = n := ⟨_, x', hx', rfl⟩
  dsimp only
  rw [dif_pos e', dif_pos e]
  exact Nat.lt_of_le_of_lt (Nat.find'_min e' ⟨x', hx', rfl⟩) (by rw [← hm]; exact hlt)

/-- two ways meet: 6 values -/
def Jn6 (K : Value → Value → Value → Value → Value → Value → Hp → Prop) (body : (Value → Value → Value → Value → Value → Value → Hp → Prop) → Prop) : Prop := ∃ J : Value → Value → Value → Value → Value → Value → Hp → Prop, body J ∧ ∀ a0 a1 a2 a3 a4 a5 h, J a0 a1 a2 a3 a4 a5 h → K a0 a1 a2 a3 a4 a5 h
/-- a loop: 6 values -/
def Lp6 (a0 a1 a2 a3 a4 a5 : Value) (h : Hp) (body : Value → Value → Value → Value → Value → Value → Hp → (Value → Value → Value → Value → Value → Value → Hp → Prop) → Prop) : Prop :=
  ∃ (I : Value → Value → Value → Value → Value → Value → Hp → Prop) (m : Value → Value → Value → Value → Value → Value → Hp → Nat), I a0 a1 a2 a3 a4 a5 h ∧ ∀ a0 a1 a2 a3 a4 a5 h, I a0 a1 a2 a3 a4 a5 h → body a0 a1 a2 a3 a4 a5 h fun a0' a1' a2' a3' a4' a5' h' => I a0' a1' a2' a3' a4' a5' h' ∧ m a0' a1' a2' a3' a4' a5' h' < m a0 a1 a2 a3 a4 a5 h
theorem Jn6.here {K : Value → Value → Value → Value → Value → Value → Hp → Prop} {body : (Value → Value → Value → Value → Value → Value → Hp → Prop) → Prop} (h : body K) : Jn6 K body := ⟨K, h, fun a0 a1 a2 a3 a4 a5 _ h => h⟩
theorem Jn6.at {K : Value → Value → Value → Value → Value → Value → Hp → Prop} {body : (Value → Value → Value → Value → Value → Value → Hp → Prop) → Prop} (J : Value → Value → Value → Value → Value → Value → Hp → Prop) (h : body J) (h' : ∀ a0 a1 a2 a3 a4 a5 h, J a0 a1 a2 a3 a4 a5 h → K a0 a1 a2 a3 a4 a5 h) : Jn6 K body := ⟨J, h, h'⟩
theorem Lp6.by {α : Type} {a0 a1 a2 a3 a4 a5 : Value} {h : Hp} {body : Value → Value → Value → Value → Value → Value → Hp → (Value → Value → Value → Value → Value → Value → Hp → Prop) → Prop} (I : α → Value → Value → Value → Value → Value → Value → Hp → Prop) (m : α → Nat) (x : α) (h0 : I x a0 a1 a2 a3 a4 a5 h)
    (hb : ∀ x a0 a1 a2 a3 a4 a5 h, I x a0 a1 a2 a3 a4 a5 h → ∀ again : Value → Value → Value → Value → Value → Value → Hp → Prop, (∀ x' a0 a1 a2 a3 a4 a5 h, I x' a0 a1 a2 a3 a4 a5 h → m x' < m x → again a0 a1 a2 a3 a4 a5 h) → body a0 a1 a2 a3 a4 a5 h again) : Lp6 a0 a1 a2 a3 a4 a5 h body := by
  classical
  refine ⟨fun a0 a1 a2 a3 a4 a5 h => ∃ x, I x a0 a1 a2 a3 a4 a5 h, fun a0 a1 a2 a3 a4 a5 h => if e : ∃ n x, I x a0 a1 a2 a3 a4 a5 h ∧ m x = n then Nat.find' e else 0, ⟨x, h0⟩, fun a0 a1 a2 a3 a4 a5 h hI => ?_⟩
  have e : ∃ n x, I x a0 a1 a2 a3 a4 a5 h ∧ m x = n := let ⟨x, hx⟩ := hI; ⟨_, x, hx, rfl⟩
  obtain ⟨x, hx, hm⟩ := Nat.find'_spec e
  refine hb x a0 a1 a2 a3 a4 a5 h hx _ fun x' a0 a1 a2 a3 a4 a5 h hx' hlt => ⟨⟨x', hx'⟩, ?_⟩
  have e' : ∃ n x, I x a0 a1 a2 a3 a4 a5 h ∧ m x = n := ⟨_, x', hx', rfl⟩
  dsimp only
  rw [dif_pos e', dif_pos e]
  exact Nat.lt_of_le_of_lt (Nat.find'_min e' ⟨x', hx', rfl⟩) (by rw [← hm]; exact hlt)

/-- two ways meet: 7 values -/
def Jn7 (K : Value → Value → Value → Value → Value → Value → Value → Hp → Prop) (body : (Value → Value → Value → Value → Value → Value → Value → Hp → Prop) → Prop) : Prop := ∃ J : Value → Value → Value → Value → Value → Value → Value → Hp → Prop, body J ∧ ∀ a0 a1 a2 a3 a4 a5 a6 h, J a0 a1 a2 a3 a4 a5 a6 h → K a0 a1 a2 a3 a4 a5 a6 h
/-- a loop: 7 values -/
def Lp7 (a0 a1 a2 a3 a4 a5 a6 : Value) (h : Hp) (body : Value → Value → Value → Value → Value → Value → Value → Hp → (Value → Value → Value → Value → Value → Value → Value → Hp → Prop) → Prop) : Prop :=
  ∃ (I : Value → Value → Value → Value → Value → Value → Value → Hp → Prop) (m : Value → Value → Value → Value → Value → Value → Value → Hp → Nat), I a0 a1 a2 a3 a4 a5 a6 h ∧ ∀ a0 a1 a2 a3 a4 a5 a6 h, I a0 a1 a2 a3 a4 a5 a6 h → body a0 a1 a2 a3 a4 a5 a6 h fun a0' a1' a2' a3' a4' a5' a6' h' => I a0' a1' a2' a3' a4' a5' a6' h' ∧ m a0' a1' a2' a3' a4' a5' a6' h' < m a0 a1 a2 a3 a4 a5 a6 h
theorem Jn7.here {K : Value → Value → Value → Value → Value → Value → Value → Hp → Prop} {body : (Value → Value → Value → Value → Value → Value → Value → Hp → Prop) → Prop} (h : body K) : Jn7 K body := ⟨K, h, fun a0 a1 a2 a3 a4 a5 a6 _ h => h⟩
theorem Jn7.at {K : Value → Value → Value → Value → Value → Value → Value → Hp → Prop} {body : (Value → Value → Value → Value → Value → Value → Value → Hp → Prop) → Prop} (J : Value → Value → Value → Value → Value → Value → Value → Hp → Prop) (h : body J) (h' : ∀ a0 a1 a2 a3 a4 a5 a6 h, J a0 a1 a2 a3 a4 a5 a6 h → K a0 a1 a2 a3 a4 a5 a6 h) : Jn7 K body := ⟨J, h, h'⟩
theorem Lp7.by {α : Type} {a0 a1 a2 a3 a4 a5 a6 : Value} {h : Hp} {body : Value → Value → Value → Value → Value → Value → Value → Hp → (Value → Value → Value → Value → Value → Value → Value → Hp → Prop) → Prop} (I : α → Value → Value → Value → Value → Value → Value → Value → Hp → Prop) (m : α → Nat) (x : α) (h0 : I x a0 a1 a2 a3 a4 a5 a6 h)
    (hb : ∀ x a0 a1 a2 a3 a4 a5 a6 h, I x a0 a1 a2 a3 a4 a5 a6 h → ∀ again : Value → Value → Value → Value → Value → Value → Value → Hp → Prop, (∀ x' a0 a1 a2 a3 a4 a5 a6 h, I x' a0 a1 a2 a3 a4 a5 a6 h → m x' < m x → again a0 a1 a2 a3 a4 a5 a6 h) → body a0 a1 a2 a3 a4 a5 a6 h again) : Lp7 a0 a1 a2 a3 a4 a5 a6 h body := by
  classical
  refine ⟨fun a0 a1 a2 a3 a4 a5 a6 h => ∃ x, I x a0 a1 a2 a3 a4 a5 a6 h, fun a0 a1 a2 a3 a4 a5 a6 h => if e : ∃ n x, I x a0 a1 a2 a3 a4 a5 a6 h ∧ m x = n then Nat.find' e else 0, ⟨x, h0⟩, fun a0 a1 a2 a3 a4 a5 a6 h hI => ?_⟩
  have e : ∃ n x, I x a0 a1 a2 a3 a4 a5 a6 h ∧ m x = n := let ⟨x, hx⟩ := hI; ⟨_, x, hx, rfl⟩
  obtain ⟨x, hx, hm⟩ := Nat.find'_spec e
  refine hb x a0 a1 a2 a3 a4 a5 a6 h hx _ fun x' a0 a1 a2 a3 a4 a5 a6 h hx' hlt => ⟨⟨x', hx'⟩, ?_⟩
  have e' : ∃ n x, I x a0 a1 a2 a3 a4 a5 a6 h ∧ m x = n := ⟨_, x', hx', rfl⟩
  dsimp only
  rw [dif_pos e', dif_pos e]
  exact Nat.lt_of_le_of_lt (Nat.find'_min e' ⟨x', hx', rfl⟩) (by rw [← hm]; exact hlt)

/-- two ways meet: 8 values -/
def Jn8 (K : Value → Value → Value → Value → Value → Value → Value → Value → Hp → Prop) (body : (Value → Value → Value → Value → Value → Value → Value → Value → Hp → Prop) → Prop) : Prop := ∃ J : Value → Value → Value → Value → Value → Value → Value → Value → Hp → Prop, body J ∧ ∀ a0 a1 a2 a3 a4 a5 a6 a7 h, J a0 a1 a2 a3 a4 a5 a6 a7 h → K a0 a1 a2 a3 a4 a5 a6 a7 h
/-- a loop: 8 values -/
def Lp8 (a0 a1 a2 a3 a4 a5 a6 a7 : Value) (h : Hp) (body : Value → Value → Value → Value → Value → Value → Value → Value → Hp → (Value → Value → Value → Value → Value → Value → Value → Value → Hp → Prop) → Prop) : Prop :=
  ∃ (I : Value → Value → Value → Value → Value → Value → Value → Value → Hp → Prop) (m : Value → Value → Value → Value → Value → Value → Value → Value → Hp → Nat), I a0 a1 a2 a3 a4 a5 a6 a7 h ∧ ∀ a0 a1 a2 a3 a4 a5 a6 a7 h, I a0 a1 a2 a3 a4 a5 a6 a7 h → body a0 a1 a2 a3 a4 a5 a6 a7 h fun a0' a1' a2' a3' a4' a5' a6' a7' h' => I a0' a1' a2' a3' a4' a5' a6' a7' h' ∧ m a0' a1' a2' a3' a4' a5' a6' a7' h' < m a0 a1 a2 a3 a4 a5 a6 a7 h
theorem Jn8.here {K : Value → Value → Value → Value → Value → Value → Value → Value → Hp → Prop} {body : (Value → Value → Value → Value → Value → Value → Value → Value → Hp → Prop) → Prop} (h : body K) : Jn8 K body := ⟨K, h, fun a0 a1 a2 a3 a4 a5 a6 a7 _ h => h⟩
theorem Jn8.at {K : Value → Value → Value → Value → Value → Value → Value → Value → Hp → Prop} {body : (Value → Value → Value → Value → Value → Value → Value → Value → Hp → Prop) → Prop} (J : Value → Value → Value → Value → Value → Value → Value → Value → Hp → Prop) (h : body J) (h' : ∀ a0 a1 a2 a3 a4 a5 a6 a7 h, J a0 a1 a2 a3 a4 a5 a6 a7 h → K a0 a1 a2 a3 a4 a5 a6 a7 h) : Jn8 K body := ⟨J, h, h'⟩
theorem Lp8.by {α : Type} {a0 a1 a2 a3 a4 a5 a6 a7 : Value} {h : Hp} {body : Value → Value → Value → Value → Value → Value → Value → Value → Hp → (Value → Value → Value → Value → Value → Value → Value → Value → Hp → Prop) → Prop} (I : α → Value → Value → Value → Value → Value → Value → Value → Value → Hp → Prop) (m : α → Nat) (x : α) (h0 : I x a0 a1 a2 a3 a4 a5 a6 a7 h)
    (hb : ∀ x a0 a1 a2 a3 a4 a5 a6 a7 h, I x a0 a1 a2 a3 a4 a5 a6 a7 h → ∀ again : Value → Value → Value → Value → Value → Value → Value → Value → Hp → Prop, (∀ x' a0 a1 a2 a3 a4 a5 a6 a7 h, I x' a0 a1 a2 a3 a4 a5 a6 a7 h → m x' < m x → again a0 a1 a2 a3 a4 a5 a6 a7 h) → body a0 a1 a2 a3 a4 a5 a6 a7 h again) : Lp8 a0 a1 a2 a3 a4 a5 a6 a7 h body := by
  classical
  refine ⟨fun a0 a1 a2 a3 a4 a5 a6 a7 h => ∃ x, I x a0 a1 a2 a3 a4 a5 a6 a7 h, fun a0 a1 a2 a3 a4 a5 a6 a7 h => if e : ∃ n x, I x a0 a1 a2 a3 a4 a5 a6 a7 h ∧ m x = n then Nat.find' e else 0, ⟨x, h0⟩, fun a0 a1 a2 a3 a4 a5 a6 a7 h hI => ?_⟩
  have e : ∃ n x, I x a0 a1 a2 a3 a4 a5 a6 a7 h ∧ m x = n := let ⟨x, hx⟩ := hI; ⟨_, x, hx, rfl⟩
  obtain ⟨x, hx, hm⟩ := Nat.find'_spec e
  refine hb x a0 a1 a2 a3 a4 a5 a6 a7 h hx _ fun x' a0 a1 a2 a3 a4 a5 a6 a7 h hx' hlt => ⟨⟨x', hx'⟩, ?_⟩
  have e' : ∃ n x, I x a0 a1 a2 a3 a4 a5 a6 a7 h ∧ m x = n := ⟨_, x', hx', rfl⟩
  dsimp only
  rw [dif_pos e', dif_pos e]
  exact Nat.lt_of_le_of_lt (Nat.find'_min e' ⟨x', hx', rfl⟩) (by rw [← hm]; exact hlt)

/-- two ways meet: 9 values -/
def Jn9 (K : Value → Value → Value → Value → Value → Value → Value → Value → Value → Hp → Prop) (body : (Value → Value → Value → Value → Value → Value → Value → Value → Value → Hp → Prop) → Prop) : Prop := ∃ J : Value → Value → Value → Value → Value → Value → Value → Value → Value → Hp → Prop, body J ∧ ∀ a0 a1 a2 a3 a4 a5 a6 a7 a8 h, J a0 a1 a2 a3 a4 a5 a6 a7 a8 h → K a0 a1 a2 a3 a4 a5 a6 a7 a8 h
/-- a loop: 9 values -/
def Lp9 (a0 a1 a2 a3 a4 a5 a6 a7 a8 : Value) (h : Hp) (body : Value → Value → Value → Value → Value → Value → Value → Value → Value → Hp → (Value → Value → Value → Value → Value → Value → Value → Value → Value → Hp → Prop) → Prop) : Prop :=
  ∃ (I : Value → Value → Value → Value → Value → Value → Value → Value → Value → Hp → Prop) (m : Value → Value → Value → Value → Value → Value → Value → Value → Value → Hp → Nat), I a0 a1 a2 a3 a4 a5 a6 a7 a8 h ∧ ∀ a0 a1 a2 a3 a4 a5 a6 a7 a8 h, I a0 a1 a2 a3 a4 a5 a6 a7 a8 h → body a0 a1 a2 a3 a4 a5 a6 a7 a8 h fun a0' a1' a2' a3' a4' a5' a6' a7' a8' h' => I a0' a1' a2' a3' a4' a5' a6' a7' a8' h' ∧ m a0' a1' a2' a3' a4' a5' a6' a7' a8' h' < m a0 a1 a2 a3 a4 a5 a6 a7 a8 h
theorem Jn9.here {K : Value → Value → Value → Value → Value → Value → Value → Value → Value → Hp → Prop} {body : (Value → Value → Value → Value → Value → Value → Value → Value → Value → Hp → Prop) → Prop} (h : body K) : Jn9 K body := ⟨K, h, fun a0 a1 a2 a3 a4 a5 a6 a7 a8 _ h => h⟩
theorem Jn9.at {K : Value → Value → Value → Value → Value → Value → Value → Value → Value → Hp → Prop} {body : (Value → Value → Value → Value → Value → Value → Value → Value → Value → Hp → Prop) → Prop} (J : Value → Value → Value → Value → Value → Value → Value → Value → Value → Hp → Prop) (h : body J) (h' : ∀ a0 a1 a2 a3 a4 a5 a6 a7 a8 h, J a0 a1 a2 a3 a4 a5 a6 a7 a8 h → K a0 a1 a2 a3 a4 a5 a6 a7 a8 h) : Jn9 K body := ⟨J, h, h'⟩
theorem Lp9.by {α : Type} {a0 a1 a2 a3 a4 a5 a6 a7 a8 : Value} {h : Hp} {body : Value → Value → Value → Value → Value → Value → Value → Value → Value → Hp → (Value → Value → Value → Value → Value → Value → Value → Value → Value → Hp → Prop) → Prop} (I : α → Value → Value → Value → Value → Value → Value → Value → Value → Value → Hp → Prop) (m : α → Nat) (x : α) (h0 : I x a0 a1 a2 a3 a4 a5 a6 a7 a8 h)
    (hb : ∀ x a0 a1 a2 a3 a4 a5 a6 a7 a8 h, I x a0 a1 a2 a3 a4 a5 a6 a7 a8 h → ∀ again : Value → Value → Value → Value → Value → Value → Value → Value → Value → Hp → Prop, (∀ x' a0 a1 a2 a3 a4 a5 a6 a7 a8 h, I x' a0 a1 a2 a3 a4 a5 a6 a7 a8 h → m x' < m x → again a0 a1 a2 a3 a4 a5 a6 a7 a8 h) → body a0 a1 a2 a3 a4 a5 a6 a7 a8 h again) : Lp9 a0 a1 a2 a3 a4 a5 a6 a7 a8 h body := by
  classical
  refine ⟨fun a0 a1 a2 a3 a4 a5 a6 a7 a8 h => ∃ x, I x a0 a1 a2 a3 a4 a5 a6 a7 a8 h, fun a0 a1 a2 a3 a4 a5 a6 a7 a8 h => if e : ∃ n x, I x a0 a1 a2 a3 a4 a5 a6 a7 a8 h ∧ m x = n then Nat.find' e else 0, ⟨x, h0⟩, fun a0 a1 a2 a3 a4 a5 a6 a7 a8 h hI => ?_⟩
  have e : ∃ n x, I x a0 a1 a2 a3 a4 a5 a6 a7 a8 h ∧ m x = n := let ⟨x, hx⟩ := hI; ⟨_, x, hx, rfl⟩
  obtain ⟨x, hx, hm⟩ := Nat.find'_spec e
  refine hb x a0 a1 a2 a3 a4 a5 a6 a7 a8 h hx _ fun x' a0 a1 a2 a3 a4 a5 a6 a7 a8 h hx' hlt => ⟨⟨x', hx'⟩, ?_⟩
  have e' : ∃ n x, I x a0 a1 a2 a3 a4 a5 a6 a7 a8 h ∧ m x = n := ⟨_, x', hx', rfl⟩
  dsimp only
  rw [dif_pos e', dif_pos e]
  exact Nat.lt_of_le_of_lt (Nat.find'_min e' ⟨x', hx', rfl⟩) (by rw [← hm]; exact hlt)

/-- two ways meet: 10 values -/
def Jn10 (K : Value → Value → Value → Value → Value → Value → Value → Value → Value → Value → Hp → Prop) (body : (Value → Value → Value → Value → Value → Value → Value → Value → Value → Value → Hp → Prop) → Prop) : Prop := ∃ J : Value → Value → Value → Value → Value → Value → Value → Value → Value → Value → Hp → Prop, body J ∧ ∀ a0 a1 a2 a3 a4 a5 a6 a7 a8 a9 h, J a0 a1 a2 a3 a4 a5 a6 a7 a8 a9 h → K a0 a1 a2 a3 a4 a5 a6 a7 a8 a9 h
/-- a loop: 10 values -/
def Lp10 (a0 a1 a2 a3 a4 a5 a6 a7 a8 a9 : Value) (h : Hp) (body : Value → Value → Value → Value → Value → Value → Value → Value → Value → Value → Hp → (Value → Value → Value → Value → Value → Value → Value → Value → Value → Value → Hp → Prop) → Prop) : Prop :=
  ∃ (I : Value → Value → Value → Value → Value → Value → Value → Value → Value → Value → Hp → Prop) (m : Value → Value → Value → Value → Value → Value → Value → Value → Value → Value → Hp → Nat), I a0 a1 a2 a3 a4 a5 a6 a7 a8 a9 h ∧ ∀ a0 a1 a2 a3 a4 a5 a6 a7 a8 a9 h, I a0 a1 a2 a3 a4 a5 a6 a7 a8 a9 h → body a0 a1 a2 a3 a4 a5 a6 a7 a8 a9 h fun a0' a1' a2' a3' a4' a5' a6' a7' a8' a9' h' => I a0' a1' a2' a3' a4' a5' a6' a7' a8' a9' h' ∧ m a0' a1' a2' a3' a4' a5' a6' a7' a8' a9' h' < m a0 a1 a2 a3 a4 a5 a6 a7 a8 a9 h
theorem Jn10.here {K : Value → Value → Value → Value → Value → Value → Value → Value → Value → Value → Hp → Prop} {body : (Value → Value → Value → Value → Value → Value → Value → Value → Value → Value → Hp → Prop) → Prop} (h : body K) : Jn10 K body := ⟨K, h, fun a0 a1 a2 a3 a4 a5 a6 a7 a8 a9 _ h => h⟩
theorem Jn10.at {K : Value → Value → Value → Value → Value → Value → Value → Value → Value → Value → Hp → Prop} {body : (Value → Value → Value → Value → Value → Value → Value → Value → Value → Value → Hp → Prop) → Prop} (J : Value → Value → Value → Value → Value → Value → Value → Value → Value → Value → Hp → Prop) (h : body J) (h' : ∀ a0 a1 a2 a3 a4 a5 a6 a7 a8 a9 h, J a0 a1 a2 a3 a4 a5 a6 a7 a8 a9 h → K a0 a1 a2 a3 a4 a5 a6 a7 a8 a9 h) : Jn10 K body := ⟨J, h, h'⟩
theorem Lp10.by {α : Type} {a0 a1 a2 a3 a4 a5 a6 a7 a8 a9 : Value} {h : Hp} {body : Value → Value → Value → Value → Value → Value → Value → Value → Value → Value → Hp → (Value → Value → Value → Value → Value → Value → Value → Value → Value → Value → Hp → Prop) → Prop} (I : α → Value → Value → Value → Value → Value → Value → Value → Value → Value → Value → Hp → Prop) (m : α → Nat) (x : α) (h0 : I x a0 a1 a2 a3 a4 a5 a6 a7 a8 a9 h)
    (hb : ∀ x a0 a1 a2 a3 a4 a5 a6 a7 a8 a9 h, I x a0 a1 a2 a3 a4 a5 a6 a7 a8 a9 h → ∀ again : Value → Value → Value → Value → Value → Value → Value → Value → Value → Value → Hp → Prop, (∀ x' a0 a1 a2 a3 a4 a5 a6 a7 a8 a9 h, I x' a0 a1 a2 a3 a4 a5 a6 a7 a8 a9 h → m x' < m x → again a0 a1 a2 a3 a4 a5 a6 a7 a8 a9 h) → body a0 a1 a2 a3 a4 a5 a6 a7 a8 a9 h again) : Lp10 a0 a1 a2 a3 a4 a5 a6 a7 a8 a9 h body := by
  classical
  refine ⟨fun a0 a1 a2 a3 a4 a5 a6 a7 a8 a9 h => ∃ x, I x a0 a1 a2 a3 a4 a5 a6 a7 a8 a9 h, fun a0 a1 a2 a3 a4 a5 a6 a7 a8 a9 h => if e : ∃ n x, I x a0 a1 a2 a3 a4 a5 a6 a7 a8 a9 h ∧ m x = n then Nat.find' e else 0, ⟨x, h0⟩, fun a0 a1 a2 a3 a4 a5 a6 a7 a8 a9 h hI => ?_⟩
  have e : ∃ n x, I x a0 a1 a2 a3 a4 a5 a6 a7 a8 a9 h ∧ m x = n := let ⟨x, hx⟩ := hI; ⟨_, x, hx, rfl⟩
  obtain ⟨x, hx, hm⟩ := Nat.find'_spec e
  refine hb x a0 a1 a2 a3 a4 a5 a6 a7 a8 a9 h hx _ fun x' a0 a1 a2 a3 a4 a5 a6 a7 a8 a9 h hx' hlt => ⟨⟨x', hx'⟩, ?_⟩
  have e' : ∃ n x, I x a0 a1 a2 a3 a4 a5 a6 a7 a8 a9 h ∧ m x = n := ⟨_, x', hx', rfl⟩
  dsimp only
  rw [dif_pos e', dif_pos e]
  exact Nat.lt_of_le_of_lt (Nat.find'_min e' ⟨x', hx', rfl⟩) (by rw [← hm]; exact hlt)
def ap0 (J : Hp → Prop) (vs : List Value) (h : Hp) : Prop :=
  match vs with
  | [] => J h
  | _ => False
def ap1 (J : Value → Hp → Prop) (vs : List Value) (h : Hp) : Prop :=
  match vs with
  | [a0] => J a0 h
  | _ => False
def ap2 (J : Value → Value → Hp → Prop) (vs : List Value) (h : Hp) : Prop :=
  match vs with
  | [a0, a1] => J a0 a1 h
  | _ => False
def ap3 (J : Value → Value → Value → Hp → Prop) (vs : List Value) (h : Hp) : Prop :=
  match vs with
  | [a0, a1, a2] => J a0 a1 a2 h
  | _ => False
def ap4 (J : Value → Value → Value → Value → Hp → Prop) (vs : List Value) (h : Hp) : Prop :=
  match vs with
  | [a0, a1, a2, a3] => J a0 a1 a2 a3 h
  | _ => False
def ap5 (J : Value → Value → Value → Value → Value → Hp → Prop) (vs : List Value) (h : Hp) : Prop :=
  match vs with
  | [a0, a1, a2, a3, a4] => J a0 a1 a2 a3 a4 h
  | _ => False
def ap6 (J : Value → Value → Value → Value → Value → Value → Hp → Prop) (vs : List Value) (h : Hp) : Prop :=
  match vs with
  | [a0, a1, a2, a3, a4, a5] => J a0 a1 a2 a3 a4 a5 h
  | _ => False
def ap7 (J : Value → Value → Value → Value → Value → Value → Value → Hp → Prop) (vs : List Value) (h : Hp) : Prop :=
  match vs with
  | [a0, a1, a2, a3, a4, a5, a6] => J a0 a1 a2 a3 a4 a5 a6 h
  | _ => False
def ap8 (J : Value → Value → Value → Value → Value → Value → Value → Value → Hp → Prop) (vs : List Value) (h : Hp) : Prop :=
  match vs with
  | [a0, a1, a2, a3, a4, a5, a6, a7] => J a0 a1 a2 a3 a4 a5 a6 a7 h
  | _ => False
def ap9 (J : Value → Value → Value → Value → Value → Value → Value → Value → Value → Hp → Prop) (vs : List Value) (h : Hp) : Prop :=
  match vs with
  | [a0, a1, a2, a3, a4, a5, a6, a7, a8] => J a0 a1 a2 a3 a4 a5 a6 a7 a8 h
  | _ => False
def ap10 (J : Value → Value → Value → Value → Value → Value → Value → Value → Value → Value → Hp → Prop) (vs : List Value) (h : Hp) : Prop :=
  match vs with
  | [a0, a1, a2, a3, a4, a5, a6, a7, a8, a9] => J a0 a1 a2 a3 a4 a5 a6 a7 a8 a9 h
  | _ => False

/-- a join of the slots S -/
def JnC (S : List Nat) (K : List Value → Hp → Prop) (body : (List Value → Hp → Prop) → Prop) : Prop :=
  match S with
  | [] => Jn0 (K []) (fun J => body (ap0 J))
  | [_] => Jn1 (fun a0 => K [a0]) (fun J => body (ap1 J))
  | [_, _] => Jn2 (fun a0 a1 => K [a0, a1]) (fun J => body (ap2 J))
  | [_, _, _] => Jn3 (fun a0 a1 a2 => K [a0, a1, a2]) (fun J => body (ap3 J))
  | [_, _, _, _] => Jn4 (fun a0 a1 a2 a3 => K [a0, a1, a2, a3]) (fun J => body (ap4 J))
  | [_, _, _, _, _] => Jn5 (fun a0 a1 a2 a3 a4 => K [a0, a1, a2, a3, a4]) (fun J => body (ap5 J))
  | [_, _, _, _, _, _] => Jn6 (fun a0 a1 a2 a3 a4 a5 => K [a0, a1, a2, a3, a4, a5]) (fun J => body (ap6 J))
  | [_, _, _, _, _, _, _] => Jn7 (fun a0 a1 a2 a3 a4 a5 a6 => K [a0, a1, a2, a3, a4, a5, a6]) (fun J => body (ap7 J))
  | [_, _, _, _, _, _, _, _] => Jn8 (fun a0 a1 a2 a3 a4 a5 a6 a7 => K [a0, a1, a2, a3, a4, a5, a6, a7]) (fun J => body (ap8 J))
  | [_, _, _, _, _, _, _, _, _] => Jn9 (fun a0 a1 a2 a3 a4 a5 a6 a7 a8 => K [a0, a1, a2, a3, a4, a5, a6, a7, a8]) (fun J => body (ap9 J))
  | [_, _, _, _, _, _, _, _, _, _] => Jn10 (fun a0 a1 a2 a3 a4 a5 a6 a7 a8 a9 => K [a0, a1, a2, a3, a4, a5, a6, a7, a8, a9]) (fun J => body (ap10 J))
  | _ => False

def LpC (S : List Nat) (iv : List Value) (h : Hp) (body : List Value → Hp → (List Value → Hp → Prop) → Prop) : Prop :=
  match S, iv with
  | [], [] => Lp0 h (fun h again => body [] h (ap0 again))
  | [_], [i0] => Lp1 i0 h (fun a0 h again => body [a0] h (ap1 again))
  | [_, _], [i0, i1] => Lp2 i0 i1 h (fun a0 a1 h again => body [a0, a1] h (ap2 again))
  | [_, _, _], [i0, i1, i2] => Lp3 i0 i1 i2 h (fun a0 a1 a2 h again => body [a0, a1, a2] h (ap3 again))
  | [_, _, _, _], [i0, i1, i2, i3] => Lp4 i0 i1 i2 i3 h (fun a0 a1 a2 a3 h again => body [a0, a1, a2, a3] h (ap4 again))
  | [_, _, _, _, _], [i0, i1, i2, i3, i4] => Lp5 i0 i1 i2 i3 i4 h (fun a0 a1 a2 a3 a4 h again => body [a0, a1, a2, a3, a4] h (ap5 again))
  | [_, _, _, _, _, _], [i0, i1, i2, i3, i4, i5] => Lp6 i0 i1 i2 i3 i4 i5 h (fun a0 a1 a2 a3 a4 a5 h again => body [a0, a1, a2, a3, a4, a5] h (ap6 again))
  | [_, _, _, _, _, _, _], [i0, i1, i2, i3, i4, i5, i6] => Lp7 i0 i1 i2 i3 i4 i5 i6 h (fun a0 a1 a2 a3 a4 a5 a6 h again => body [a0, a1, a2, a3, a4, a5, a6] h (ap7 again))
  | [_, _, _, _, _, _, _, _], [i0, i1, i2, i3, i4, i5, i6, i7] => Lp8 i0 i1 i2 i3 i4 i5 i6 i7 h (fun a0 a1 a2 a3 a4 a5 a6 a7 h again => body [a0, a1, a2, a3, a4, a5, a6, a7] h (ap8 again))
  | [_, _, _, _, _, _, _, _, _], [i0, i1, i2, i3, i4, i5, i6, i7, i8] => Lp9 i0 i1 i2 i3 i4 i5 i6 i7 i8 h (fun a0 a1 a2 a3 a4 a5 a6 a7 a8 h again => body [a0, a1, a2, a3, a4, a5, a6, a7, a8] h (ap9 again))
  | [_, _, _, _, _, _, _, _, _, _], [i0, i1, i2, i3, i4, i5, i6, i7, i8, i9] => Lp10 i0 i1 i2 i3 i4 i5 i6 i7 i8 i9 h (fun a0 a1 a2 a3 a4 a5 a6 a7 a8 a9 h again => body [a0, a1, a2, a3, a4, a5, a6, a7, a8, a9] h (ap10 again))
  | _, _ => False

theorem JnC_sound {S : List Nat} {K : List Value → Hp → Prop} {body : (List Value → Hp → Prop) → Prop} (h : JnC S K body) : ∃ J : List Value → Hp → Prop, body J ∧ ∀ vs h, J vs h → K vs h := by
  unfold JnC at h
  split at h
  · obtain ⟨J, hb, hk⟩ := h
    refine ⟨_, hb, fun vs h hj => ?_⟩
    unfold ap0 at hj
    split at hj
    · exact hk _ hj
    · exact hj.elim
  · obtain ⟨J, hb, hk⟩ := h
    refine ⟨_, hb, fun vs h hj => ?_⟩
    unfold ap1 at hj
    split at hj
    · exact hk _ _ hj
    · exact hj.elim
  · obtain ⟨J, hb, hk⟩ := h
    refine ⟨_, hb, fun vs h hj => ?_⟩
    unfold ap2 at hj
    split at hj
    · exact hk _ _ _ hj
    · exact hj.elim
  · obtain ⟨J, hb, hk⟩ := h
    refine ⟨_, hb, fun vs h hj => ?_⟩
    unfold ap3 at hj
    split at hj
    · exact hk _ _ _ _ hj
    · exact hj.elim
  · obtain ⟨J, hb, hk⟩ := h
    refine ⟨_, hb, fun vs h hj => ?_⟩
    unfold ap4 at hj
    split at hj
    · exact hk _ _ _ _ _ hj
    · exact hj.elim
  · obtain ⟨J, hb, hk⟩ := h
    refine ⟨_, hb, fun vs h hj => ?_⟩
    unfold ap5 at hj
    split at hj
    · exact hk _ _ _ _ _ _ hj
    · exact hj.elim
  · obtain ⟨J, hb, hk⟩ := h
    refine ⟨_, hb, fun vs h hj => ?_⟩
    unfold ap6 at hj
    split at hj
    · exact hk _ _ _ _ _ _ _ hj
    · exact hj.elim
  · obtain ⟨J, hb, hk⟩ := h
    refine ⟨_, hb, fun vs h hj => ?_⟩
    unfold ap7 at hj
    split at hj
    · exact hk _ _ _ _ _ _ _ _ hj
    · exact hj.elim
  · obtain ⟨J, hb, hk⟩ := h
    refine ⟨_, hb, fun vs h hj => ?_⟩
    unfold ap8 at hj
    split at hj
    · exact hk _ _ _ _ _ _ _ _ _ hj
    · exact hj.elim
  · obtain ⟨J, hb, hk⟩ := h
    refine ⟨_, hb, fun vs h hj => ?_⟩
    unfold ap9 at hj
    split at hj
    · exact hk _ _ _ _ _ _ _ _ _ _ hj
    · exact hj.elim
  · obtain ⟨J, hb, hk⟩ := h
    refine ⟨_, hb, fun vs h hj => ?_⟩
    unfold ap10 at hj
    split at hj
    · exact hk _ _ _ _ _ _ _ _ _ _ _ hj
    · exact hj.elim
  · exact h.elim

theorem LpC_sound {S : List Nat} {iv : List Value} {h : Hp} {body : List Value → Hp → (List Value → Hp → Prop) → Prop} (H : LpC S iv h body) :
    ∃ (I : List Value → Hp → Prop) (m : List Value → Hp → Nat) (C : List Value → Hp → List Value → Hp → Prop), I iv h ∧ (∀ vs h, I vs h → body vs h (C vs h)) ∧ ∀ vs h vs' h', C vs h vs' h' → I vs' h' ∧ m vs' h' < m vs h := by
  unfold LpC at H
  split at H
  · obtain ⟨I, m, h0, hb⟩ := H
    refine ⟨ap0 I, fun vs h => match vs with
      | [] => m h
      | _ => 0, fun vs h => match vs with
      | [] => ap0 (fun h' => I h' ∧ m h' < m h)
      | _ => fun _ _ => False, h0, fun vs h hI => ?_, fun vs h vs' h' hC => ?_⟩
    · unfold ap0 at hI
      split at hI
      · exact hb _ hI
      · exact hI.elim
    · dsimp only at hC
      split at hC
      · unfold ap0 at hC
        split at hC
        · exact hC
        · exact hC.elim
      · exact hC.elim
  · obtain ⟨I, m, h0, hb⟩ := H
    refine ⟨ap1 I, fun vs h => match vs with
      | [a0] => m a0 h
      | _ => 0, fun vs h => match vs with
      | [a0] => ap1 (fun a0' h' => I a0' h' ∧ m a0' h' < m a0 h)
      | _ => fun _ _ => False, h0, fun vs h hI => ?_, fun vs h vs' h' hC => ?_⟩
    · unfold ap1 at hI
      split at hI
      · exact hb _ _ hI
      · exact hI.elim
    · dsimp only at hC
      split at hC
      · unfold ap1 at hC
        split at hC
        · exact hC
        · exact hC.elim
      · exact hC.elim
  · obtain ⟨I, m, h0, hb⟩ := H
    refine ⟨ap2 I, fun vs h => match vs with
      | [a0, a1] => m a0 a1 h
      | _ => 0, fun vs h => match vs with
      | [a0, a1] => ap2 (fun a0' a1' h' => I a0' a1' h' ∧ m a0' a1' h' < m a0 a1 h)
      | _ => fun _ _ => False, h0, fun vs h hI => ?_, fun vs h vs' h' hC => ?_⟩
    · unfold ap2 at hI
      split at hI
      · exact hb _ _ _ hI
      · exact hI.elim
    · dsimp only at hC
      split at hC
      · unfold ap2 at hC
        split at hC
        · exact hC
        · exact hC.elim
      · exact hC.elim
  · obtain ⟨I, m, h0, hb⟩ := H
    refine ⟨ap3 I, fun vs h => match vs with
      | [a0, a1, a2] => m a0 a1 a2 h
      | _ => 0, fun vs h => match vs with
      | [a0, a1, a2] => ap3 (fun a0' a1' a2' h' => I a0' a1' a2' h' ∧ m a0' a1' a2' h' < m a0 a1 a2 h)
      | _ => fun _ _ => False, h0, fun vs h hI => ?_, fun vs h vs' h' hC => ?_⟩
    · unfold ap3 at hI
      split at hI
      · exact hb _ _ _ _ hI
      · exact hI.elim
    · dsimp only at hC
      split at hC
      · unfold ap3 at hC
        split at hC
        · exact hC
        · exact hC.elim
      · exact hC.elim
  · obtain ⟨I, m, h0, hb⟩ := H
    refine ⟨ap4 I, fun vs h => match vs with
      | [a0, a1, a2, a3] => m a0 a1 a2 a3 h
      | _ => 0, fun vs h => match vs with
      | [a0, a1, a2, a3] => ap4 (fun a0' a1' a2' a3' h' => I a0' a1' a2' a3' h' ∧ m a0' a1' a2' a3' h' < m a0 a1 a2 a3 h)
      | _ => fun _ _ => False, h0, fun vs h hI => ?_, fun vs h vs' h' hC => ?_⟩
    · unfold ap4 at hI
      split at hI
      · exact hb _ _ _ _ _ hI
      · exact hI.elim
    · dsimp only at hC
      split at hC
      · unfold ap4 at hC
        split at hC
        · exact hC
        · exact hC.elim
      · exact hC.elim
  · obtain ⟨I, m, h0, hb⟩ := H
    refine ⟨ap5 I, fun vs h => match vs with
      | [a0, a1, a2, a3, a4] => m a0 a1 a2 a3 a4 h
      | _ => 0, fun vs h => match vs with
      | [a0, a1, a2, a3, a4] => ap5 (fun a0' a1' a2' a3' a4' h' => I a0' a1' a2' a3' a4' h' ∧ m a0' a1' a2' a3' a4' h' < m a0 a1 a2 a3 a4 h)
      | _ => fun _ _ => False, h0, fun vs h hI => ?_, fun vs h vs' h' hC => ?_⟩
    · unfold ap5 at hI
      split at hI
      · exact hb _ _ _ _ _ _ hI
      · exact hI.elim
    · dsimp only at hC
      split at hC
      · unfold ap5 at hC
        split at hC
        · exact hC
        · exact hC.elim
      · exact hC.elim
  · obtain ⟨I, m, h0, hb⟩ := H
    refine ⟨ap6 I, fun vs h => match vs with
      | [a0, a1, a2, a3, a4, a5] => m a0 a1 a2 a3 a4 a5 h
      | _ => 0, fun vs h => match vs with
      | [a0, a1, a2, a3, a4, a5] => ap6 (fun a0' a1' a2' a3' a4' a5' h' => I a0' a1' a2' a3' a4' a5' h' ∧ m a0' a1' a2' a3' a4' a5' h' < m a0 a1 a2 a3 a4 a5 h)
      | _ => fun _ _ => False, h0, fun vs h hI => ?_, fun vs h vs' h' hC => ?_⟩
    · unfold ap6 at hI
      split at hI
      · exact hb _ _ _ _ _ _ _ hI
      · exact hI.elim
    · dsimp only at hC
      split at hC
      · unfold ap6 at hC
        split at hC
        · exact hC
        · exact hC.elim
      · exact hC.elim
  · obtain ⟨I, m, h0, hb⟩ := H
    refine ⟨ap7 I, fun vs h => match vs with
      | [a0, a1, a2, a3, a4, a5, a6] => m a0 a1 a2 a3 a4 a5 a6 h
      | _ => 0, fun vs h => match vs with
      | [a0, a1, a2, a3, a4, a5, a6] => ap7 (fun a0' a1' a2' a3' a4' a5' a6' h' => I a0' a1' a2' a3' a4' a5' a6' h' ∧ m a0' a1' a2' a3' a4' a5' a6' h' < m a0 a1 a2 a3 a4 a5 a6 h)
      | _ => fun _ _ => False, h0, fun vs h hI => ?_, fun vs h vs' h' hC => ?_⟩
    · unfold ap7 at hI
      split at hI
      · exact hb _ _ _ _ _ _ _ _ hI
      · exact hI.elim
    · dsimp only at hC
      split at hC
      · unfold ap7 at hC
        split at hC
        · exact hC
        · exact hC.elim
      · exact hC.elim
  · obtain ⟨I, m, h0, hb⟩ := H
    refine ⟨ap8 I, fun vs h => match vs with
      | [a0, a1, a2, a3, a4, a5, a6, a7] => m a0 a1 a2 a3 a4 a5 a6 a7 h
      | _ => 0, fun vs h => match vs with
      | [a0, a1, a2, a3, a4, a5, a6, a7] => ap8 (fun a0' a1' a2' a3' a4' a5' a6' a7' h' => I a0' a1' a2' a3' a4' a5' a6' a7' h' ∧ m a0' a1' a2' a3' a4' a5' a6' a7' h' < m a0 a1 a2 a3 a4 a5 a6 a7 h)
      | _ => fun _ _ => False, h0, fun vs h hI => ?_, fun vs h vs' h' hC => ?_⟩
    · unfold ap8 at hI
      split at hI
      · exact hb _ _ _ _ _ _ _ _ _ hI
      · exact hI.elim
    · dsimp only at hC
      split at hC
      · unfold ap8 at hC
        split at hC
        · exact hC
        · exact hC.elim
      · exact hC.elim
  · obtain ⟨I, m, h0, hb⟩ := H
    refine ⟨ap9 I, fun vs h => match vs with
      | [a0, a1, a2, a3, a4, a5, a6, a7, a8] => m a0 a1 a2 a3 a4 a5 a6 a7 a8 h
      | _ => 0, fun vs h => match vs with
      | [a0, a1, a2, a3, a4, a5, a6, a7, a8] => ap9 (fun a0' a1' a2' a3' a4' a5' a6' a7' a8' h' => I a0' a1' a2' a3' a4' a5' a6' a7' a8' h' ∧ m a0' a1' a2' a3' a4' a5' a6' a7' a8' h' < m a0 a1 a2 a3 a4 a5 a6 a7 a8 h)
      | _ => fun _ _ => False, h0, fun vs h hI => ?_, fun vs h vs' h' hC => ?_⟩
    · unfold ap9 at hI
      split at hI
      · exact hb _ _ _ _ _ _ _ _ _ _ hI
      · exact hI.elim
    · dsimp only at hC
      split at hC
      · unfold ap9 at hC
        split at hC
        · exact hC
        · exact hC.elim
      · exact hC.elim
  · obtain ⟨I, m, h0, hb⟩ := H
    refine ⟨ap10 I, fun vs h => match vs with
      | [a0, a1, a2, a3, a4, a5, a6, a7, a8, a9] => m a0 a1 a2 a3 a4 a5 a6 a7 a8 a9 h
      | _ => 0, fun vs h => match vs with
      | [a0, a1, a2, a3, a4, a5, a6, a7, a8, a9] => ap10 (fun a0' a1' a2' a3' a4' a5' a6' a7' a8' a9' h' => I a0' a1' a2' a3' a4' a5' a6' a7' a8' a9' h' ∧ m a0' a1' a2' a3' a4' a5' a6' a7' a8' a9' h' < m a0 a1 a2 a3 a4 a5 a6 a7 a8 a9 h)
      | _ => fun _ _ => False, h0, fun vs h hI => ?_, fun vs h vs' h' hC => ?_⟩
    · unfold ap10 at hI
      split at hI
      · exact hb _ _ _ _ _ _ _ _ _ _ _ hI
      · exact hI.elim
    · dsimp only at hC
      split at hC
      · unfold ap10 at hC
        split at hC
        · exact hC
        · exact hC.elim
      · exact hC.elim
  · exact H.elim

end Go.En
namespace Go.En

/-- what the walk is told: the order of a drawn region; which slots go through a join or a loop (S: changed; K: kept) -/
inductive HT where
  | z
  | o (ord : OT)
  | s (l r : HT)
  | j (S K : List Nat) (l r : HT)
  | c (l r : HT)
  | b (t : HT)
  | l (S K : List Nat) (t : HT)
  | r (l r : HT)

structure Ex where
  brk : Nat → Env → Hp → Prop
  ret : Env → Hp → Prop

def pick (S : List Nat) (env : Env) : Option (List Value) :=
  match S with
  | [] => some []
  | s :: r => match lk env s with
    | none => none
    | some v => match pick r env with
      | none => none
      | some vs => some (v :: vs)
def withL (S : List Nat) (env : Env) (f : List Value → Prop) : Prop :=
  match pick S env with
  | some vs => f vs
  | none => False
def zipv : List Nat → List Value → Env
  | s :: r, v :: vs => (s, v) :: zipv r vs
  | _, _ => []
def app : Env → Env → Env
  | [], e => e
  | x :: r, e => x :: app r e

def memB (t : Nat) : List Nat → Bool
  | [] => false
  | x :: r => match Nat.beq x t with
    | true => true
    | false => memB t r
def noDst (t : Nat) : List Oper → Bool
  | [] => true
  | o :: r => match o.dst with
    | none => noDst t r
    | some d => match Nat.beq d t with
      | true => false
      | false => noDst t r
def noDef : List Oper → Bool
  | [] => true
  | o :: r => match o.op with
    | .defer _ => false
    | _ => noDef r
/-- slot t (or the deferred calls: t = n) is the same behind the code, and known there -/
def keeps (n t : Nat) : Code → HT → Bool
  | .skip, _ | .exit _, _ | .ret, _ | .label _, _ => true
  | .region _ ops _, _ => match noDst t ops.toList with
    | true => match Nat.beq t n with
      | true => noDef ops.toList
      | false => true
    | false => false
  | .seq a b, .s l r => match keeps n t a l with
    | true => keeps n t b r
    | false => false
  | .seq a b, .j S K l r => match memB t K, memB t S, keeps n t a l with
    | true, false, true => keeps n t b r
    | _, _, _ => false
  | .cond _ a b, .c l r => match keeps n t a l with
    | true => keeps n t b r
    | false => false
  | .block _ b, .b t' => keeps n t b t'
  | .scope b, t' => keeps n t b t'
  | .loop b, .l S K t' => match memB t K, memB t S with
    | true, false => keeps n t b t'
    | _, _ => false
  | .rangeFunc _ _ _ _, .r _ _ => match Nat.beq t n with
    | true => false
    | false => true
  | _, _ => false
def keepsAll (n : Nat) (K : List Nat) (c : Code) (h : HT) : Bool :=
  match K with
  | [] => true
  | t :: r => match keeps n t c h with
    | true => keepsAll n r c h
    | false => false

/-! ### A range over a function -/
/-- which of two: by a label's number -/
def Xb (i c : Nat) (A B : Prop) : Prop :=
  match Nat.beq i c with
  | true => A
  | false => B
/-- the loop's record at l, whatever its state -/
def LpAt (o : Loop) (l : Nat) (h : Hp) : Prop := ∃ st pd, h[l]? = some (.loop { o with state := st, pending := pd })
def bgn (l : Nat) (h : Hp) : Option Hp :=
  match h[l]? with
  | some (.loop r) => match r.state with
    | .ready => some (h.setIfInBounds l (.loop { r with state := .busy }))
    | _ => none
  | _ => none
def fin (l : Nat) (j : Option Code) (h : Hp) : Option Hp :=
  match h[l]? with
  | some (.loop r) => some (h.setIfInBounds l (.loop { r with state := if j.isNone then .ready else .done, pending := j }))
  | _ => none
def endl (l : Nat) (h : Hp) : Option (Option Code × Hp) :=
  match h[l]? with
  | some (.loop r) => match r.state with
    | .busy => none
    | _ => some (r.pending, h.setIfInBounds l (.loop { r with state := .exhausted }))
  | _ => none
def Jp (j : Option Code) (A B : Prop) (C : Nat → Prop) : Prop :=
  match j with
  | none => A
  | some .ret => B
  | some (.exit id) => C id
  | some _ => False
/-- the statement: 'round' is what a round does, 'aft' what comes behind the loop -/
def Rg (C : FuncId → List Value → Hp → (Value → Hp → Prop) → Prop) (Y : Nat → List Value → Hp → (Value → Hp → Prop) → Prop) (g : Value) (h : Hp) (round : Nat → List Value → Hp → (Value → Hp → Prop) → Prop) (aft : Option Code → Hp → Prop) : Prop :=
  ∀ o : Loop, o.state = .ready → o.pending = none → (∀ args h' R, LpAt o (h.size + 1) h' → round (h.size + 1) args h' R → Y (h.size + 1) args h' R) →
    ∃ f first cap, g = .func (.func f) first cap ∧ C f (first.toList ++ [.func (.yield (h.size + 1)) #[] #[]] ++ cap.toList) ((h.push (.deferred (some []))).push (.loop o)) fun _ h2 => ∃ j h3, endl (h.size + 1) h2 = some (j, h3) ∧ aft j h3
def zipP : List Nat → List Value → Env → Env
  | p :: ps, v :: vs, e => zipP ps vs ((p, v) :: e)
  | _, _, e => e
def A0 (args : List Value) (f : Prop) : Prop :=
  match args with
  | [] => f
  | _ => False
def A1 (args : List Value) (f : Value → Prop) : Prop :=
  match args with
  | [v] => f v
  | _ => False
def A2 (args : List Value) (f : Value → Value → Prop) : Prop :=
  match args with
  | [v, w] => f v w
  | _ => False
/-- a round's arguments -/
def withA (ps : List Nat) (env : Env) (args : List Value) (f : Env → Prop) : Prop :=
  match ps with
  | [] => A0 args (f env)
  | [p] => A1 args fun v => f ((p, v) :: env)
  | [p, q] => A2 args fun v w => f ((q, w) :: (p, v) :: env)
  | _ => False
theorem withA_spec {ps : List Nat} {env : Env} {args : List Value} {f : Env → Prop} (h : withA ps env args f) : args.length = ps.length ∧ f (zipP ps args env) := by
  unfold withA at h
  split at h
  · unfold A0 at h; split at h
    · exact ⟨rfl, h⟩
    · exact h.elim
  · unfold A1 at h; split at h
    · exact ⟨rfl, h⟩
    · exact h.elim
  · unfold A2 at h; split at h
    · exact ⟨rfl, h⟩
    · exact h.elim
  · exact h.elim
def allBlt (n : Nat) : List Nat → Bool
  | [] => true
  | p :: r => match Nat.blt p n with
    | true => allBlt n r
    | false => false

def den (P : Program) (n : Nat) (rd : Bool) : Code → HT → Ex → Env → Hp → (Env → Hp → Prop) → Prop
  | .skip, _, _, env, h, k => k env h
  | .label _, _, _, env, h, k => k env h
  | .exit id, _, E, env, h, _ => E.brk id env h
  | .ret, _, E, env, h, _ => E.ret env h
  | .region _ ops false, _, _, env, h, k => match dstOk n ops.toList with
    | true => denL P n rd ops ops.toList env [] h k
    | false => False
  | .region _ ops true, .o ord, _, env, h, k => match okD P n ops (Region.before ops) ord with
    | true => denD P n ops (Region.before ops) ord [] env [] h k
    | false => False
  | .seq a b, .s l r, E, env, h, k => den P n rd a l E env h fun env' h' => den P n rd b r E env' h' k
  | .seq a b, .j S K l r, E, env, h, k => match keepsAll n K a l, pick K env with
    | true, some kv => JnC S (fun vs h' => den P n rd b r E (app (zipv S vs) (zipv K kv)) h' k) fun J => den P n rd a l E env h fun env' h' => withL S env' fun vs => J vs h'
    | _, _ => False
  | .cond c x y, .c l r, E, env, h, k => match ev n env c with
    | some v => Br v (den P n rd x l E env h k) (den P n rd y r E env h k)
    | none => False
  | .block id b, .b t, E, env, h, k => den P n rd b t { E with brk := fun i env' h' => Xb i id (k env' h') (E.brk i env' h') } env h k
  | .rangeFunc g ps as x, .r ta tx, E, env, h, k => match rd, allBlt n ps.toList, ev n env g, lk env n with
    | false, true, some gv, some (.tuple ⟨ds⟩) => Rg (Cl P) (Sy P) gv h
        (fun l args h' R => withA ps.toList ((n, .tuple ⟨[]⟩) :: env) args fun env0 => den P n true as ta { brk := fun _ _ _ => False, ret := fun _ _ => False } env0 h' fun env1 h1 => Sb (bgn l h1) fun h2 =>
              den P n true x tx { brk := fun id _ h3 => Sb (fin l (some (.exit id)) h3) fun h4 => R (.bool false) h4, ret := fun _ h3 => Sb (fin l (some .ret) h3) fun h4 => R (.bool false) h4 } env1 h2 fun _ h3 => Sb (fin l none h3) fun h4 => R (.bool true) h4)
        fun j h3 => Jp j (k ((n, .tuple ⟨.pointer (some ⟨h.size, 0, none⟩) :: ds⟩) :: env) h3) (E.ret ((n, .tuple ⟨.pointer (some ⟨h.size, 0, none⟩) :: ds⟩) :: env) h3) fun id => E.brk id ((n, .tuple ⟨.pointer (some ⟨h.size, 0, none⟩) :: ds⟩) :: env) h3
    | _, _, _, _ => False
  | .scope b, t, E, env, h, k => den P n rd b t E env h k
  | .loop b, .l S K t, E, env, h, _ => match keepsAll n K b t, pick K env, pick S env with
    | true, some kv, some iv => LpC S iv h fun vs h' again => den P n rd b t E (app (zipv S vs) (zipv K kv)) h' fun env' h'' => withL S env' fun vs' => again vs' h''
    | _, _, _ => False
  | _, _, _, _, _, _ => False

theorem memB_iff {t : Nat} : ∀ {l : List Nat}, memB t l = true ↔ t ∈ l
  | [] => by simp [memB]
  | x :: r => by
    unfold memB
    split
    · rename_i h; have := Nat.eq_of_beq_eq_true h; subst this; simp
    · rename_i h
      rw [memB_iff]
      have : x ≠ t := fun e => by subst e; simp at h
      simp [Ne.symm this]

theorem noDst_mem {t : Nat} : ∀ {l : List Oper}, noDst t l = true → ∀ o ∈ l, o.dst ≠ some t
  | [], _, o, ho => by cases ho
  | x :: r, h, o, ho => by
    unfold noDst at h
    split at h
    · rename_i hn
      rcases List.mem_cons.1 ho with rfl | ho
      · rw [hn]; simp
      · exact noDst_mem h o ho
    · rename_i d hd
      split at h
      · contradiction
      · rename_i hb
        rcases List.mem_cons.1 ho with rfl | ho
        · rw [hd]; intro e; cases e; simp at hb
        · exact noDst_mem h o ho
theorem noDef_mem : ∀ {l : List Oper}, noDef l = true → ∀ o ∈ l, ∀ c, o.op ≠ .defer c
  | [], _, o, ho => by cases ho
  | x :: r, h, o, ho => by
    unfold noDef at h
    split at h
    · contradiction
    · rename_i hn
      rcases List.mem_cons.1 ho with rfl | ho
      · exact fun c e => hn c e
      · exact noDef_mem h o ho

theorem lk_app {e e' : Env} {t : Nat} : lk (app e e') t = (match lk e t with
    | some v => some v
    | none => lk e' t) := by
  induction e with
  | nil => rfl
  | cons x r ih =>
    obtain ⟨d, v⟩ := x
    simp only [app, lk]
    split
    · rfl
    · exact ih

theorem pick_spec {env : Env} : ∀ {S : List Nat} {vs : List Value}, pick S env = some vs → ∀ t v, lk (zipv S vs) t = some v → lk env t = some v
  | [], vs, h, t, v, hv => by simp [zipv, lk] at hv
  | s :: r, vs, h, t, v, hv => by
    unfold pick at h
    split at h <;> try contradiction
    rename_i u hu
    split at h <;> try contradiction
    rename_i us hus
    simp only [Option.some.injEq] at h
    subst h
    simp only [zipv] at hv
    rw [lk_put] at hv
    split at hv
    · rename_i e; subst e; rw [hu]; exact hv
    · exact pick_spec hus t v hv
theorem pick_mem {env : Env} : ∀ {S : List Nat} {vs : List Value}, pick S env = some vs → ∀ t ∈ S, lk (zipv S vs) t = lk env t
  | [], vs, h, t, ht => by cases ht
  | s :: r, vs, h, t, ht => by
    unfold pick at h
    split at h <;> try contradiction
    rename_i u hu
    split at h <;> try contradiction
    rename_i us hus
    simp only [Option.some.injEq] at h
    subst h
    simp only [zipv]
    rw [lk_put]
    split
    · rename_i e; subst e; exact hu.symm
    · rename_i e
      rcases List.mem_cons.1 ht with h1 | h1
      · exact absurd h1.symm e
      · exact pick_mem hus t h1
theorem pick_some {env : Env} : ∀ {S : List Nat} {vs : List Value}, pick S env = some vs → ∀ t ∈ S, (lk env t).isSome = true
  | [], vs, h, t, ht => by cases ht
  | s :: r, vs, h, t, ht => by
    unfold pick at h
    split at h <;> try contradiction
    rename_i u hu
    split at h <;> try contradiction
    rename_i us hus
    rcases List.mem_cons.1 ht with rfl | h1
    · rw [hu]; rfl
    · exact pick_some hus t h1
theorem lk_zip_none {S : List Nat} {vs : List Value} {t : Nat} (h : t ∉ S) : lk (zipv S vs) t = none := by
  induction S generalizing vs with
  | nil => cases vs <;> rfl
  | cons s r ih =>
    cases vs with
    | nil => rfl
    | cons v vs =>
      simp only [zipv]
      rw [lk_put, if_neg (fun e => h (by rw [e]; exact List.mem_cons_self ..))]
      exact ih fun hh => h (List.mem_cons_of_mem _ hh)

theorem Agr.sub {n : Nat} {env env' : Env} {a : Act} (h : Agr n env' a) (hs : ∀ t v, lk env t = some v → lk env' t = some v) : Agr n env a :=
  ⟨h.sz, fun t v ht hv => h.sl t v ht (hs t v hv), fun v hv => h.df v (hs n v hv)⟩

def QQ (n : Nat) (w0 : World) (T : List Nat) (b : Nat → Option Value) (E : Ex) (k : Env → Hp → Prop) : Exit → Act → World → Prop
  | .normal, a, w => ∃ env, Agr n env a ∧ Rst w0 w ∧ (∀ t ∈ T, lk env t = b t) ∧ k env w.heap
  | .exit id, a, w => ∃ env, Agr n env a ∧ Rst w0 w ∧ (∀ t ∈ T, lk env t = b t) ∧ E.brk id env w.heap
  | .ret, a, w => ∃ env, Agr n env a ∧ Rst w0 w ∧ (∀ t ∈ T, lk env t = b t) ∧ E.ret env w.heap
  | _, _, _ => False

theorem wpIn_scope {P : Program} {F : Fence} {m : Nat} {c : Code} {Q : Exit → Act → World → Prop} {a : Act} {w : World} (hg : ∀ l a w, ¬ Q (.goto l) a w) (h : c.wpIn F m P Q a w) : (Code.scope c).wpIn F m P Q a w := by
  intro b k cs hro hb hr
  have s1 : _root_.Go.step P (lone (b.atR a (.code (.scope c) :: k)) cs w) = .next (lone (b.atR a (.code c :: .inScope c :: k)) cs w) :=
    step_lone_go (by simp [stepG, stepG.exec, Frame.atR])
  have f1 : (lone (b.atR a (.code (.scope c) :: k)) cs w).fenced P F := fenced_calm (fr := b.atR a (.code (.scope c) :: k)) hb hr rfl
  obtain ⟨e, a₁, w₁, hq, harr⟩ := h b (.inScope c :: k) cs hro hb hr
  cases e with
  | normal =>
    refine ⟨.normal, a₁, w₁, hq, .head f1 s1 (StepsIn.trans harr (.one (fenced_calm (fr := b.atR a₁ (.inScope c :: k)) hb hr rfl) ?_))⟩
    exact step_lone_go (by simp [stepG, stepG.exec, Frame.atR])
  | exit id =>
    refine ⟨.exit id, a₁, w₁, hq, fun k' hk => .head f1 s1 (harr.1 k' (by simp [exitTo, hk])), fun hr' hk => ?_⟩
    obtain ⟨k₁, h1, h2⟩ := harr.2 hr' (by simp [exitTo, hk])
    exact ⟨k₁, h1, .head f1 s1 h2⟩
  | goto l => exact (hg _ _ _ hq).elim
  | ret => exact ⟨_, a₁, w₁, hq, .of_steps (.one f1 s1) harr⟩
  | panic ch => exact ⟨_, a₁, w₁, hq, .of_steps (.one f1 s1) harr⟩
  | outgrown => exact ⟨_, a₁, w₁, hq, .of_steps (b := b) (k := k) (cs := cs) (e := .outgrown) (.one f1 s1) harr⟩

theorem keepsAll_mem {n : Nat} {c : Code} {h : HT} : ∀ {K : List Nat}, keepsAll n K c h = true → ∀ t ∈ K, keeps n t c h = true
  | [], _, t, ht => by cases ht
  | x :: r, hk, t, ht => by
    unfold keepsAll at hk
    split at hk
    · rename_i hx
      rcases List.mem_cons.1 ht with rfl | ht
      · exact hx
      · exact keepsAll_mem hk t ht
    · contradiction

theorem agr_zip {n : Nat} : ∀ {ps : List Nat} {args : List Value} {env : Env} {tmps : Array Value}, allBlt n ps = true → Agr n env { tmps := tmps, defers := [] } →
    Agr n (zipP ps args env) { tmps := (ps.zip args).foldl (fun tmps (x : Nat × Value) => tmps.setIfInBounds x.1 x.2) tmps, defers := [] }
  | [], _, _, _, _, h => by simpa [zipP] using h
  | _ :: _, [], _, _, _, h => by simpa [zipP] using h
  | p :: ps, v :: vs, env, tmps, hp, h => by
    unfold allBlt at hp
    split at hp <;> try contradiction
    rename_i hpn
    have hpn : p < n := by simpa [Nat.blt_eq] using hpn
    have := h.put (dst := some p) (v := v) (fun d e => by simp only [Option.some.injEq] at e; omega)
    exact agr_zip (ps := ps) (args := vs) hp this

theorem run_bgn {P : Program} {w : World} {l : Nat} {h' : Hp} (h : bgn l w.heap = some h') : ∃ w', (Instr.beginRound l).run P w = .ok () w' ∧ w'.heap = h' ∧ Rst w w' := by
  unfold bgn at h
  split at h <;> try contradiction
  rename_i r hr
  split at h <;> try contradiction
  rename_i hs
  simp only [Option.some.injEq] at h
  refine ⟨{ w with heap := h' }, ?_, rfl, ⟨rfl, rfl, rfl⟩⟩
  simp [Instr.beginRound, Instr.getLoop, getObj, setObj, Sem.run, hr, hs, h]
theorem run_fin {P : Program} {w : World} {l : Nat} {j : Option Code} {h' : Hp} (h : fin l j w.heap = some h') : ∃ w', (Instr.endRound l j).run P w = .ok (.bool j.isNone) w' ∧ w'.heap = h' ∧ Rst w w' := by
  unfold fin at h
  split at h <;> try contradiction
  rename_i r hr
  simp only [Option.some.injEq] at h
  refine ⟨{ w with heap := h' }, ?_, rfl, ⟨rfl, rfl, rfl⟩⟩
  rw [← h]
  simp [Instr.endRound, Instr.getLoop, getObj, setObj, Sem.run, hr]
theorem run_endl {P : Program} {w : World} {l : Nat} {j : Option Code} {h' : Hp} (h : endl l w.heap = some (j, h')) : ∃ w', (Instr.endLoop l).run P w = .ok j w' ∧ w'.heap = h' ∧ Rst w w' := by
  unfold endl at h
  split at h <;> try contradiction
  rename_i r hr
  split at h <;> try contradiction
  rename_i hs
  simp only [Option.some.injEq, Prod.mk.injEq] at h
  refine ⟨{ w with heap := h' }, ?_, rfl, ⟨rfl, rfl, rfl⟩⟩
  rw [← h.1, ← h.2]
  have hs' : ¬ r.state = LoopState.busy := fun e => hs e
  simp [Instr.endLoop, Instr.getLoop, getObj, setObj, Sem.run, hr, hs']

theorem den_sound' {P : Program} {n : Nat} (hm : P.follows .mixedOrders = true) :
    ∀ (c : Code) {F : Fence} (hF : Wd F) {m : Nat} {rd : Bool} (hrd : rd = false → F.round = none) {w0 : World} (ht : HT) (E : Ex) (env : Env) (k : Env → Hp → Prop) (T : List Nat) (b : Nat → Option Value) (a : Act) (w : World), (∀ t ∈ T, keeps n t c ht = true) → (∀ t ∈ T, lk env t = b t) → Agr n env a → Rst w0 w →
      den P n rd c ht E env w.heap k → c.wpIn F m P (QQ n w0 T b E k) a w := by
  intro c
  induction c with
  | skip => intro F hF m rd hrd w0 ht E env k T b a w _ hb hA hR h; exact wpIn_skip ⟨env, hA, hR, hb, by simpa [den] using h⟩
  | label l => intro F hF m rd hrd w0 ht E env k T b a w _ hb hA hR h; exact wpIn_label ⟨env, hA, hR, hb, by simpa [den] using h⟩
  | exit id => intro F hF m rd hrd w0 ht E env k T b a w _ hb hA hR h; exact wpIn_exit ⟨env, hA, hR, hb, by simpa [den] using h⟩
  | ret => intro F hF m rd hrd w0 ht E env k T b a w _ hb hA hR h; exact wpIn_ret ⟨env, hA, hR, hb, by simpa [den] using h⟩
  | region id ops draw =>
    intro F hF m rd hrd w0 ht E env k T b a w hT hb hA hR h
    have hTd : ∀ o ∈ ops.toList, ∀ d, o.dst = some d → d ∉ T := by
      intro o ho d hd hdT
      have := hT d hdT
      unfold keeps at this
      split at this
      · rename_i hnd; exact noDst_mem hnd o ho hd
      · contradiction
    have hTn : n ∈ T → ∀ o ∈ ops.toList, ∀ c, o.op ≠ .defer c := by
      intro hnT
      have := hT n hnT
      unfold keeps at this
      split at this
      · have e : Nat.beq n n = true := by simp
        rw [e] at this
        exact noDef_mem this
      · contradiction
    cases draw with
    | false =>
      simp only [den] at h
      split at h
      · rename_i hn
        refine wpIn_region_list (denL_sound hF hrd hn hTd hTn (fun env' a' w' hA' hR' hb' hk => ⟨env', hA', hR', hb', hk⟩) ops.toList env [] a w hb (fun _ h => h) hA (KBok.nil _ _) hR h)
      · contradiction
    | true =>
      cases ht with
      | o ord =>
        simp only [den] at h
        split at h
        · rename_i hok
          exact denD_sound hF hm hok hTd (fun env' a' w' hA' hR' hb' hk => ⟨env', hA', hR', hb', hk⟩) hb hA hR h
        · contradiction
      | _ => simp [den] at h
  | seq x y ihx ihy =>
    intro F hF m rd hrd w0 ht E env k T b a w hT hb hA hR h
    cases ht with
    | s l r =>
      simp only [den] at h
      have hTx : ∀ t ∈ T, keeps n t x l = true := fun t ht => by have := hT t ht; simp only [keeps] at this; split at this <;> simp_all
      have hTy : ∀ t ∈ T, keeps n t y r = true := fun t ht => by have := hT t ht; simp only [keeps] at this; split at this <;> simp_all
      refine wpIn_seq (wpIn_mono (ihx hF hrd l E env _ T b a w hTx hb hA hR h) fun e a' w' hq => ?_)
      cases e with
      | normal =>
        obtain ⟨env', hA', hR', hb', hk⟩ := hq
        exact ihy hF hrd r E env' k T b a' w' hTy hb' hA' hR' hk
      | _ => exact hq
    | j S K l r =>
      simp only [den] at h
      split at h
      · rename_i kv hka hkv
        obtain ⟨J, hJ, hJK⟩ := JnC_sound h
        have hTx : ∀ t ∈ T, t ∈ K ∧ t ∉ S ∧ keeps n t x l = true ∧ keeps n t y r = true := by
          intro t ht
          have := hT t ht
          simp only [keeps] at this
          split at this
          · rename_i h1 h2 h3
            exact ⟨memB_iff.1 h1, (fun hs => by rw [memB_iff.2 hs] at h2; cases h2), h3, this⟩
          · contradiction
        refine wpIn_seq (wpIn_mono (ihx hF hrd l E env _ K (lk env) a w (keepsAll_mem hka) (fun _ _ => rfl) hA hR hJ) fun e a' w' hq => ?_)
        have hTb : ∀ (env' : Env), (∀ t ∈ K, lk env' t = lk env t) → ∀ t ∈ T, lk env' t = b t := fun env' hK t ht => (hK t (hTx t ht).1).trans (hb t ht)
        cases e with
        | normal =>
          obtain ⟨env', hA', hR', hK, hk⟩ := hq
          unfold withL at hk
          split at hk
          · rename_i vs hvs
            have hsub : ∀ t v, lk (app (zipv S vs) (zipv K kv)) t = some v → lk env' t = some v := by
              intro t v hv
              rw [lk_app] at hv
              split at hv
              · rename_i u hu; rw [pick_spec hvs t u hu]; exact hv
              · have h1 := pick_spec hkv t v hv
                by_cases hKt : t ∈ K
                · rw [hK t hKt]; exact h1
                · rw [lk_zip_none hKt] at hv; cases hv
            refine ihy hF hrd r E _ k T b a' w' (fun t ht => (hTx t ht).2.2.2) (fun t ht => ?_) (hA'.sub hsub) hR' (hJK _ _ hk)
            rw [lk_app, lk_zip_none (hTx t ht).2.1]
            simp only
            rw [pick_mem hkv t (hTx t ht).1]
            exact hb t ht
          · exact hk.elim
        | exit id =>
          obtain ⟨env', hA', hR', hK, hk⟩ := hq
          exact ⟨env', hA', hR', hTb env' hK, hk⟩
        | ret =>
          obtain ⟨env', hA', hR', hK, hk⟩ := hq
          exact ⟨env', hA', hR', hTb env' hK, hk⟩
        | _ => exact hq
      · contradiction
    | _ => simp [den] at h
  | cond c x y ihx ihy =>
    intro F hF m rd hrd w0 ht E env k T b a w hT hb hA hR h
    cases ht with
    | c l r =>
      simp only [den] at h
      have hTx : ∀ t ∈ T, keeps n t x l = true := fun t ht => by have := hT t ht; simp only [keeps] at this; split at this <;> simp_all
      have hTy : ∀ t ∈ T, keeps n t y r = true := fun t ht => by have := hT t ht; simp only [keeps] at this; split at this <;> simp_all
      split at h
      · rename_i v hv
        obtain ⟨t, rfl, h1, h2⟩ := Br_ex h
        refine wpIn_cond_split (hA.holds c _ hv) (fun e => ?_) (fun e => ?_)
        · exact ihx hF hrd l E env k T b a w hTx hb hA hR (h1 e)
        · exact ihy hF hrd r E env k T b a w hTy hb hA hR (h2 e)
      · contradiction
    | _ => simp [den] at h
  | block id x ih =>
    intro F hF m rd hrd w0 ht E env k T b a w hT hb hA hR h
    cases ht with
    | b t =>
      simp only [den] at h
      have hT' : ∀ s ∈ T, keeps n s x t = true := fun s hs => by have := hT s hs; simpa [keeps] using this
      refine wpIn_block (wpIn_mono (ih hF hrd t _ env k T b a w hT' hb hA hR h) fun e a' w' hq => ?_)
      cases e with
      | exit i =>
        obtain ⟨env', hA', hR', hK, hk⟩ := hq
        simp only [Exit.inBlock]
        cases hi : Nat.beq i id with
        | true =>
          rw [if_pos (Nat.eq_of_beq_eq_true hi)]
          refine ⟨env', hA', hR', hK, ?_⟩
          simp only [Xb, hi] at hk
          exact hk
        | false =>
          rw [if_neg (fun e => by subst e; simp at hi)]
          refine ⟨env', hA', hR', hK, ?_⟩
          simp only [Xb, hi] at hk
          exact hk
      | _ => exact hq
    | _ => simp [den] at h
  | scope x ih =>
    intro F hF m rd hrd w0 ht E env k T b a w hT hb hA hR h
    simp only [den] at h
    have hT' : ∀ s ∈ T, keeps n s x ht = true := fun s hs => by have := hT s hs; simpa [keeps] using this
    exact wpIn_scope (fun _ _ _ h => h) (ih hF hrd ht E env k T b a w hT' hb hA hR h)
  | loop x ih =>
    intro F hF m rd hrd w0 ht E env k T b a w hT hb hA hR h
    cases ht with
    | l S K t =>
      simp only [den] at h
      have hTx : ∀ s ∈ T, s ∈ K ∧ s ∉ S ∧ keeps n s x t = true := by
        intro s hs
        have := hT s hs
        simp only [keeps] at this
        split at this
        · rename_i h1 h2
          exact ⟨memB_iff.1 h1, (fun hss => by rw [memB_iff.2 hss] at h2; cases h2), this⟩
        · contradiction
      split at h
      · rename_i kv iv hka hkv hiv
        obtain ⟨I, μ, C, h0, hbody, hC⟩ := LpC_sound h
        -- the loop's environment
        let L : List Value → Env := fun vs => app (zipv S vs) (zipv K kv)
        have hLb : ∀ vs, ∀ s ∈ T, lk (L vs) s = b s := by
          intro vs s hs
          show lk (app _ _) s = _
          rw [lk_app, lk_zip_none (hTx s hs).2.1]
          simp only
          rw [pick_mem hkv s (hTx s hs).1]
          exact hb s hs
        -- the measure, out of a state
        let M : Act → World → Nat → Prop := fun a w j => ∃ vs, Agr n (L vs) a ∧ I vs w.heap ∧ μ vs w.heap = j
        classical
        have hM0 : ∃ j, M a w j := ⟨_, iv, hA.sub (fun s v hv => by
          have hv' : lk (app (zipv S iv) (zipv K kv)) s = some v := hv
          rw [lk_app] at hv'
          split at hv'
          · rename_i u hu; rw [pick_spec hiv s u hu]; exact hv'
          · exact pick_spec hkv s v hv'), h0, rfl⟩
        refine wpIn_loop (fun a w => Rst w0 w ∧ ∃ j, M a w j) (fun a w => if e : ∃ j, M a w j then Nat.find' e else 0) ⟨hR, hM0⟩ fun a1 w1 ⟨hR1, hM1⟩ => ?_
        obtain ⟨vs, hA1, hI, hμ⟩ := Nat.find'_spec hM1
        have hd := hbody vs w1.heap hI
        refine wpIn_mono (ih hF hrd t E (L vs) _ K (lk (L vs)) a1 w1 (keepsAll_mem hka) (fun s hs => rfl) hA1 hR1 hd) fun e a2 w2 hq => ?_
        have hTb : ∀ (env' : Env), (∀ s ∈ K, lk env' s = lk (L vs) s) → ∀ s ∈ T, lk env' s = b s := fun env' hK s hs => (hK s (hTx s hs).1).trans (hLb vs s hs)
        cases e with
        | normal =>
          obtain ⟨env', hA2, hR2, hK2, hk⟩ := hq
          unfold withL at hk
          split at hk
          · rename_i vs' hvs'
            obtain ⟨hI2, hlt⟩ := hC _ _ _ _ hk
            have hA2' : Agr n (L vs') a2 := hA2.sub fun s v hv => by
              have hv' : lk (app (zipv S vs') (zipv K kv)) s = some v := hv
              rw [lk_app] at hv'
              split at hv'
              · rename_i u hu; rw [pick_spec hvs' s u hu]; exact hv'
              · rename_i hnone
                have hKs : s ∈ K := by
                  by_cases h : s ∈ K
                  · exact h
                  · rw [lk_zip_none h] at hv'; cases hv'
                have hSs : s ∉ S := by
                  intro h
                  rw [pick_mem hvs' s h] at hnone
                  have := pick_some hvs' s h
                  rw [hnone] at this; cases this
                rw [hK2 s hKs]
                show lk (app _ _) s = _
                rw [lk_app, lk_zip_none hSs]
                exact hv'
            have hM2 : M a2 w2 (μ vs' w2.heap) := ⟨vs', hA2', hI2, rfl⟩
            refine ⟨⟨hR2, _, hM2⟩, ?_⟩
            rw [dif_pos ⟨_, hM2⟩, dif_pos hM1]
            exact Nat.lt_of_le_of_lt (Nat.find'_min ⟨_, hM2⟩ hM2) (by rw [← hμ]; exact hlt)
          · exact hk.elim
        | exit id =>
          obtain ⟨env', hA2, hR2, hK2, hk⟩ := hq
          exact ⟨env', hA2, hR2, hTb env' hK2, hk⟩
        | ret =>
          obtain ⟨env', hA2, hR2, hK2, hk⟩ := hq
          exact ⟨env', hA2, hR2, hTb env' hK2, hk⟩
        | _ => exact hq
      · contradiction
    | _ => simp [den] at h
  | rangeFunc g ps as x iha ihx =>
    intro F hF m rd hrd w0 ht E env k T b a w hT hb hA hR h
    cases ht with
    | r ta tx =>
      simp only [den] at h
      split at h <;> try contradiction
      rename_i gv ds hps hgv hds
      have hro := hrd rfl
      obtain ⟨ds', hds', hdf⟩ := hA.df _ hds
      simp only [Value.tuple.injEq, Array.mk.injEq] at hds'
      subst hds'
      refine wpIn_rangeFunc fun fn _ => ?_
      let o : Loop := { state := .ready, pending := none, fn, tmps := a.tmps, params := ps, assign := as, body := x, defers := w.heap.size }
      have hround : ∀ args h' R, LpAt o (w.heap.size + 1) h' → (withA ps.toList ((n, .tuple ⟨[]⟩) :: env) args fun env0 => den P n true as ta { brk := fun _ _ _ => False, ret := fun _ _ => False } env0 h' fun env1 h1 => Sb (bgn (w.heap.size + 1) h1) fun h2 =>
              den P n true x tx { brk := fun id _ h3 => Sb (fin (w.heap.size + 1) (some (.exit id)) h3) fun h4 => R (.bool false) h4, ret := fun _ h3 => Sb (fin (w.heap.size + 1) (some .ret) h3) fun h4 => R (.bool false) h4 } env1 h2 fun _ h3 => Sb (fin (w.heap.size + 1) none h3) fun h4 => R (.bool true) h4) → Sy P (w.heap.size + 1) args h' R := by
        intro args h' R ⟨st, pd, hl⟩ hden
        obtain ⟨hlen, hden⟩ := withA_spec hden
        intro w1 hw1
        subst hw1
        refine ⟨{ o with state := st, pending := pd }, by simp [Instr.getLoop, getObj, Sem.run, hl], by simpa using hlen, ?_⟩
        have hA0 : Agr n ((n, .tuple ⟨[]⟩) :: env) { tmps := a.tmps, defers := [] } := by
          refine ⟨hA.sz, fun t v ht hv => ?_, fun v hv => ?_⟩
          · rw [lk_put, if_neg (by omega)] at hv; exact hA.sl t v ht hv
          · rw [lk_put, if_pos rfl] at hv
            simp only [Option.some.injEq] at hv
            exact ⟨[], hv.symm, rfl⟩
        have hA1 := agr_zip (args := args) hps hA0
        have etm : (ps.zip args.toArray).foldl (fun tmps (x : Nat × Value) => tmps.setIfInBounds x.1 x.2) a.tmps = (ps.toList.zip args).foldl (fun tmps (x : Nat × Value) => tmps.setIfInBounds x.1 x.2) a.tmps := by
          rw [← Array.foldl_toList]; simp
        refine roundIn_of_wpIn trivial ?_
        show as.wpIn _ 0 P _ { tmps := (ps.zip args.toArray).foldl (fun tmps (x : Nat × Value) => tmps.setIfInBounds x.1 x.2) a.tmps, defers := [] } w1
        rw [etm]
        refine wpIn_mono (iha (Wd.wide.inRound _) (m := 0) (rd := true) (fun e => by cases e) (w0 := w1) ta _ _ _ [] (fun _ => none) _ w1 (fun t ht => by cases ht) (fun t ht => by cases ht) hA1 (.refl w1) hden) fun e a1 w2 hq => ?_
        cases e with
        | normal =>
          obtain ⟨env1, hA2, hR2, _, h2, hb2, hk2⟩ := hq
          obtain ⟨w3, e3, rfl, hR3⟩ := run_bgn (P := P) hb2
          refine ⟨w3, e3, ?_⟩
          refine wpIn_mono (ihx (Wd.wide.inRound _) (m := 0) (rd := true) (fun e => by cases e) (w0 := w1) tx _ _ _ [] (fun _ => none) _ w3 (fun t ht => by cases ht) (fun t ht => by cases ht) hA2 (hR2.trans hR3) hk2) fun e a3 w4 hq => ?_
          cases e with
          | normal =>
            obtain ⟨_, _, hR4, _, h4, hf4, hk4⟩ := hq
            obtain ⟨w5, e5, rfl, hR5⟩ := run_fin (P := P) hf4
            exact ⟨_, w5, e5, _, rfl, hk4, hR4.trans hR5⟩
          | ret =>
            obtain ⟨_, _, hR4, _, h4, hf4, hk4⟩ := hq
            obtain ⟨w5, e5, rfl, hR5⟩ := run_fin (P := P) hf4
            exact ⟨_, w5, e5, _, rfl, hk4, hR4.trans hR5⟩
          | exit id =>
            obtain ⟨_, _, hR4, _, h4, hf4, hk4⟩ := hq
            obtain ⟨w5, e5, rfl, hR5⟩ := run_fin (P := P) hf4
            exact ⟨_, w5, e5, _, rfl, hk4, hR4.trans hR5⟩
          | _ => exact hq.elim
        | ret => obtain ⟨_, _, _, _, hk⟩ := hq; exact hk.elim
        | exit id => obtain ⟨_, _, _, _, hk⟩ := hq; exact hk.elim
        | _ => exact hq.elim
      obtain ⟨f, first, cap, rfl, hf, hc⟩ := h o rfl rfl hround
      have hev := hA.holds g _ hgv
      let w1 : World := { w with heap := (w.heap.push (.deferred (some []))).push (.loop o) }
      refine ⟨w.heap.size + 1, [{ target := .collected w.heap.size, args := #[] }], w1, { target := .fn (.func f) cap, args := first ++ #[.func (.yield (w.heap.size + 1)) #[] #[]] }, w1, f, first ++ #[.func (.yield (w.heap.size + 1)) #[] #[]] ++ cap, w1, ?_, ?_, fun f' _ => hF.any f', ?_, fun e => (by rw [hF.depth] at e; cases e), ?_⟩
      · rw [hro]
        simp [Instr.enterLoop, newObj, Sem.run, w1, o]
        rfl
      · simp only [rangeCall, resolve, hev, Deferred.ofValue, Sem.run_bind, Sem.run_pure, Result.andThen_ok, List.map_toArray, List.map_cons, List.map_nil]
        rfl
      · simp only [invoke, run_callFunc hf]
      · have e2 : first ++ #[Value.func (.yield (w.heap.size + 1)) #[] #[]] ++ cap = (first.toList ++ [Value.func (.yield (w.heap.size + 1)) #[] #[]] ++ cap.toList).toArray := by simp
        rw [e2]
        refine hF.calls (m := 0) (callsIn_wide.2 ((hc w1 rfl).mono ?_))
        rintro e w3 ⟨v, rfl, ⟨j, h3, he, haft⟩, hs⟩
        obtain ⟨w4, e4, rfl, hR4⟩ := run_endl (P := P) he
        have hRw : Rst w0 w4 := (hR.trans ((show Rst w w1 from ⟨rfl, rfl, rfl⟩).trans hs)).trans hR4
        have hA' : Agr n ((n, .tuple ⟨.pointer (some ⟨w.heap.size, 0, none⟩) :: ds⟩) :: env) { a with defers := [{ target := .collected w.heap.size, args := #[] }] ++ a.defers } := by
          refine ⟨hA.sz, fun t v ht hv => ?_, fun v hv => ?_⟩
          · rw [lk_put, if_neg (by omega)] at hv; exact hA.sl t v ht hv
          · rw [lk_put, if_pos rfl] at hv
            simp only [Option.some.injEq] at hv
            exact ⟨_, hv.symm, by simp [dec, hdf]⟩
        have hb' : ∀ t ∈ T, lk ((n, .tuple ⟨.pointer (some ⟨w.heap.size, 0, none⟩) :: ds⟩) :: env) t = b t := fun t ht => by
          have h1 := hT t ht
          unfold keeps at h1
          split at h1 <;> try contradiction
          rename_i hne
          rw [lk_put, if_neg (fun e => by subst e; simp at hne)]
          exact hb t ht
        refine ⟨j, w4, e4, ?_⟩
        unfold Jp at haft
        split at haft
        · exact ⟨_, hA', hRw, hb', haft⟩
        · exact wpIn_ret ⟨_, hA', hRw, hb', haft⟩
        · exact wpIn_exit ⟨_, hA', hRw, hb', haft⟩
        · exact haft.elim
    | _ => simp [den] at h
  | goto l => intro F hF m rd hrd w0 ht E env k T b a w _ hb hA hR h; cases ht <;> simp [den] at h
  | refuse s => intro F hF m rd hrd w0 ht E env k T b a w _ hb hA hR h; cases ht <;> simp [den] at h
theorem den_sound {P : Program} {F : Fence} (hF : Wd F) {n m : Nat} {rd : Bool} (hrd : rd = false → F.round = none) (hm : P.follows .mixedOrders = true) {w0 : World} (c : Code) (ht : HT) (E : Ex) (env : Env) (k : Env → Hp → Prop) (T : List Nat) (b : Nat → Option Value) (a : Act) (w : World)
    (h1 : ∀ t ∈ T, keeps n t c ht = true) (h2 : ∀ t ∈ T, lk env t = b t) (h3 : Agr n env a) (h4 : Rst w0 w) (h5 : den P n rd c ht E env w.heap k) : c.wpIn F m P (QQ n w0 T b E k) a w :=
  den_sound' hm c hF hrd ht E env k T b a w h1 h2 h3 h4 h5
end Go.En
namespace Go.En

def zipA (i : Nat) : List Value → Env
  | [] => []
  | v :: r => (i, v) :: zipA (i + 1) r

/-- the results, read behind the deferred calls -/
def resL (P : Program) (env : Env) (h : Hp) : List ResultVar → (List Value → Prop) → Prop
  | [], k => k []
  | .tmp t :: r, k => match lk env t with
    | some v => resL P env h r fun vs => k (v :: vs)
    | none => False
  | .cell a t :: r, k => match lk env a with
    | some p => Vb (ldT (tyk P t) p h) fun v => resL P env h r fun vs => k (v :: vs)
    | none => False

def one (vs : List Value) : Value :=
  match vs with
  | [v] => v
  | vs => .tuple ⟨vs⟩

/-- the mark of a range over a function: its block of deferred calls is shut, and was empty -/
def tkd (r : Nat) (h : Hp) : Option Hp :=
  match h[r]? with
  | some (.deferred (some [])) => some (h.setIfInBounds r (.deferred none))
  | _ => none
theorem run_tkd {P : Program} {w : World} {r : Nat} {h' : Hp} (h : tkd r w.heap = some h') : ∃ w', (Instr.takeDeferred r).run P w = .ok [] w' ∧ w'.heap = h' ∧ Rst w w' := by
  unfold tkd at h
  split at h <;> try contradiction
  rename_i hr
  simp only [Option.some.injEq] at h
  refine ⟨{ w with heap := h' }, ?_, rfl, ⟨rfl, rfl, rfl⟩⟩
  rw [← h]
  simp [Instr.takeDeferred, getObj, setObj, Sem.run, hr]

def runD (P : Program) (ds : List Value) (h : Hp) (k : Hp → Prop) : Prop :=
  match ds with
  | [] => k h
  | .func (.func f) ⟨first⟩ ⟨[]⟩ :: r => match okF P f with
    | true => SpD P f first h fun h' => runD P r h' k
    | false => False
  | .pointer (some ⟨q, 0, none⟩) :: r => Sb (tkd q h) fun h' => runD P r h' k
  | _ => False

def leave (P : Program) (n : Nat) (rs : List ResultVar) (R : Value → Hp → Prop) (env : Env) (h : Hp) : Prop :=
  match lk env n with
  | some (.tuple ⟨ds⟩) => runD P ds h fun h => resL P env h rs fun vs => R (one vs) h
  | _ => False

def leave0 (P : Program) (n : Nat) (rs : List ResultVar) (R : Value → Hp → Prop) (env : Env) (h : Hp) : Prop :=
  match lk env n with
  | some (.tuple ⟨[]⟩) => resL P env h rs fun vs => R (one vs) h
  | _ => False

def resOk (n : Nat) : List ResultVar → Bool
  | [] => true
  | .tmp t :: r => match Nat.blt t n with
    | true => resOk n r
    | false => false
  | .cell t _ :: r => match Nat.blt t n with
    | true => resOk n r
    | false => false

/-- What the text of a function says that a call of it does. -/
def denF (P : Program) (fn : Func) (c : Code) (ht : HT) (args : List Value) (h : Hp) (R : Value → Hp → Prop) : Prop :=
  match Nat.ble args.length fn.ntmps, resOk fn.ntmps fn.results.toList with
  | true, true => den P fn.ntmps false c ht { brk := fun _ _ _ => False, ret := leave P fn.ntmps fn.results.toList R } ((fn.ntmps, .tuple ⟨[]⟩) :: zipA 0 args) h (leave P fn.ntmps fn.results.toList R)
  | _, _ => False
def denF0 (P : Program) (fn : Func) (c : Code) (ht : HT) (args : List Value) (h : Hp) (R : Value → Hp → Prop) : Prop :=
  match Nat.ble args.length fn.ntmps, resOk fn.ntmps fn.results.toList with
  | true, true => den P fn.ntmps false c ht { brk := fun _ _ _ => False, ret := leave0 P fn.ntmps fn.results.toList R } ((fn.ntmps, .tuple ⟨[]⟩) :: zipA 0 args) h (leave0 P fn.ntmps fn.results.toList R)
  | _, _ => False

theorem lk_zipA : ∀ (args : List Value) (i t : Nat) (v : Value), lk (zipA i args) t = some v → i ≤ t ∧ args[t - i]? = some v
  | [], i, t, v, h => by simp [zipA, lk] at h
  | u :: r, i, t, v, h => by
    simp only [zipA] at h
    rw [lk_put] at h
    split at h
    · rename_i e; subst e; simpa using h
    · obtain ⟨h1, h2⟩ := lk_zipA r (i + 1) t v h
      refine ⟨by omega, ?_⟩
      have : t - i = (t - (i + 1)) + 1 := by omega
      rw [this, List.getElem?_cons_succ]
      exact h2

theorem agr_start {n : Nat} {args : List Value} (hle : args.length ≤ n) : Agr n ((n, .tuple ⟨[]⟩) :: zipA 0 args) { tmps := args.toArray ++ Array.replicate (n - args.toArray.size) undef, defers := [] } := by
  refine ⟨by simp; omega, fun t v ht hv => ?_, fun v hv => ?_⟩
  · rw [lk_put, if_neg (by omega)] at hv
    obtain ⟨_, h2⟩ := lk_zipA args 0 t v hv
    have hlt : t < args.length := by
      rcases Nat.lt_or_ge t args.length with h | h
      · exact h
      · rw [List.getElem?_eq_none (by simpa using h)] at h2; cases h2
    simp only [Nat.sub_zero] at h2
    simp only [Array.getD_eq_getD_getElem?]
    rw [Array.getElem?_append_left (by simpa using hlt)]
    simp [h2]
  · rw [lk_put, if_pos rfl] at hv
    simp only [Option.some.injEq] at hv
    exact ⟨[], hv.symm, rfl⟩

def rvR (tmps : Array Value) : ResultVar → Sem Value
  | .tmp t => pure (tmps.getD t undef)
  | .cell a t => do loadVar t (← asAddr (tmps.getD a undef))
theorem results_eq (fn : Func) (tmps : Array Value) : results fn tmps = (do let vs ← fn.results.mapM (rvR tmps); pure (if h : vs.size = 1 then vs[0] else .tuple vs)) := by
  unfold results
  congr 2

theorem run_resL {P : Program} {w : World} {n : Nat} {env : Env} {a : Act} (hA : Agr n env a) : ∀ (rs : List ResultVar) (k : List Value → Prop), resOk n rs = true → resL P env w.heap rs k →
    ∃ vs, (rs.mapM (rvR a.tmps)).run P w = .ok vs w ∧ k vs
  | [], k, _, h => ⟨[], rfl, h⟩
  | .tmp t :: r, k, hr, h => by
    simp only [resOk] at hr
    split at hr <;> try contradiction
    rename_i ht
    have ht' : t < n := by simpa [Nat.blt_eq] using ht
    simp only [resL] at h
    split at h <;> try contradiction
    rename_i v hv
    obtain ⟨vs, h1, h2⟩ := run_resL hA r _ hr h
    refine ⟨v :: vs, ?_, h2⟩
    simp only [List.mapM_cons, Sem.run_bind, rvR, Sem.run_pure, Result.andThen_ok, h1, hA.sl t v ht' hv]
  | .cell ad t :: r, k, hr, h => by
    simp only [resOk] at hr
    split at hr <;> try contradiction
    rename_i ht
    have ht' : ad < n := by simpa [Nat.blt_eq] using ht
    simp only [resL] at h
    split at h <;> try contradiction
    rename_i p hp
    obtain ⟨v, hv, h⟩ := h
    obtain ⟨vs, h1, h2⟩ := run_resL hA r _ hr h
    refine ⟨v :: vs, ?_, h2⟩
    have hl := run_loadAt (P := P) hv
    have hpp : ∃ ad', p = .pointer (some ad') := by
      cases hk : tyk P t <;> rw [hk] at hv <;> simp only [ldT] at hv
      · unfold ldc at hv; split at hv <;> first | contradiction | exact ⟨_, rfl⟩
      · unfold lda at hv; split at hv <;> first | contradiction | exact ⟨_, rfl⟩
      · contradiction
    obtain ⟨ad', rfl⟩ := hpp
    simp only [Instr.loadAt, Instr.sureAddr, Sem.run_bind, Sem.run_pure, Result.andThen_ok] at hl
    have hone : (rvR a.tmps (.cell ad t)).run P w = .ok v w := by
      simp only [rvR, Sem.run_bind, hA.sl ad _ ht' hp, asAddr, Sem.run_pure, Result.andThen_ok, hl]
    simp only [List.mapM_cons, Sem.run_bind, hone, Sem.run_pure, Result.andThen_ok, h1]

theorem run_results {P : Program} {w : World} {fn : Func} {env : Env} {a : Act} {k : Value → Prop} (hA : Agr fn.ntmps env a) (hr : resOk fn.ntmps fn.results.toList = true) (h : resL P env w.heap fn.results.toList fun vs => k (one vs)) :
    ∃ v, (results fn a.tmps).run P w = .ok v w ∧ k v := by
  obtain ⟨vs, h1, h2⟩ := run_resL hA fn.results.toList _ hr h
  refine ⟨one vs, ?_, h2⟩
  rw [results_eq]
  simp only [Sem.run_bind]
  rw [Array.mapM_eq_mapM_toList, Sem.run_map, h1]
  simp only [Result.andThen_ok, Sem.run_pure]
  congr 1
  match vs with
  | [] => rfl
  | [v] => rfl
  | _ :: _ :: _ => simp [one]

theorem runD_sound {P : Program} {fn : Func} {tmps : Array Value} {R : Value → Hp → Prop} {w0 : World} {k : Hp → Prop} (hk : ∀ w, Rst w0 w → k w.heap → ∃ v, (results fn tmps).run P w = .ok v w ∧ R v w.heap) :
    ∀ (ds : List Value) (w : World), Rst w0 w → runD P ds w.heap k → LeavesInM Fence.wide 0 P fn tmps (fun e w' => ∃ v, e = .returned v ∧ R v w'.heap ∧ Rst w0 w') (ds.map dec) .returning w
  | [], w, hR, h => by
    obtain ⟨v, h1, h2⟩ := hk w hR h
    exact ⟨v, h1, v, rfl, h2, hR⟩
  | d :: ds, w, hR, h => by
    unfold runD at h
    split at h
    · rename_i he; cases he
    · rename_i f first r he
      simp only [List.cons.injEq] at he
      obtain ⟨rfl, rfl⟩ := he
      split at h <;> try contradiction
      rename_i hf
      refine ⟨by simp, .inr ⟨fun e => (by cases e), .func f, #[], f, first.toArray, rfl, ?_, fun _ _ => trivial, ?_⟩⟩
      · have := run_callFunc (w := w) hf first.toArray
        show (callFunc f (first.toArray ++ #[])).run P w = _
        simpa using this
      · refine (h w rfl).mono ?_
        rintro e u w' ⟨rfl, ⟨v, rfl⟩, hk', hs⟩
        exact runD_sound hk _ w' (hR.trans hs) hk'
    · rename_i q r he
      simp only [List.cons.injEq] at he
      obtain ⟨rfl, rfl⟩ := he
      obtain ⟨h', ht, hk'⟩ := h
      obtain ⟨w', e1, rfl, hs⟩ := run_tkd (P := P) ht
      exact ⟨by simp, .inl ⟨q, w', rfl, e1, runD_sound hk _ w' (hR.trans hs) hk'⟩⟩
    · contradiction

theorem sp_of_den {P : Program} {f : FuncId} {fn : Func} {c : Code} {ht : HT} {args : List Value} {h : Hp} {R : Value → Hp → Prop} (hf : P.funcs[f]? = some fn) (hb : fn.body = some c) (hm : P.follows .mixedOrders = true)
    (H : denF P fn c ht args h R) : Sp P f args h R := by
  intro w hw
  subst hw
  unfold denF at H
  split at H <;> try contradiction
  rename_i hle hr
  have hA := agr_start (n := fn.ntmps) (args := args) (Nat.le_of_ble_eq_true hle)
  refine callsIn_wide.1 (callsIn_of_wp_marks (n := 0) hf hb trivial (wpIn_mono (den_sound Wd.wide (m := 0) (fun _ => rfl) hm (w0 := w) c ht _ _ _ [] (fun _ => none) _ w (fun t ht => by cases ht) (fun t ht => by cases ht) hA (.refl w) H) fun e a w' hq => ?_))
  have fin : ∀ env, Agr fn.ntmps env a → Rst w w' → leave P fn.ntmps fn.results.toList R env w'.heap → LeavesInM Fence.wide 0 P fn a.tmps (fun e w' => ∃ v, e = .returned v ∧ R v w'.heap ∧ Rst w w') a.defers .returning w' := by
    intro env hA' hR' hl
    unfold leave at hl
    split at hl
    · rename_i ds hds
      obtain ⟨ds', hds', hdf⟩ := hA'.df _ hds
      simp only [Value.tuple.injEq, Array.mk.injEq] at hds'
      subst hds'
      rw [hdf]
      exact runD_sound (fun w1 hR1 hk => run_results (k := fun v => R v w1.heap) hA' hr hk) ds w' hR' hl
    · contradiction
  cases e with
  | normal => obtain ⟨env, hA', hR', _, hl⟩ := hq; exact fin env hA' hR' hl
  | ret => obtain ⟨env, hA', hR', _, hl⟩ := hq; exact fin env hA' hR' hl
  | exit id => obtain ⟨env, hA', hR', _, hl⟩ := hq; exact hl.elim
  | goto l => exact hq.elim
  | panic ch => exact hq.elim
  | outgrown => exact hq.elim

theorem spd_of_den {P : Program} {f : FuncId} {fn : Func} {c : Code} {ht : HT} {args : List Value} {h : Hp} {R : Hp → Prop} (hf : P.funcs[f]? = some fn) (hb : fn.body = some c) (hm : P.follows .mixedOrders = true)
    (H : denF0 P fn c ht args h fun _ h' => R h') : SpD P f args h R := by
  intro w hw
  subst hw
  unfold denF0 at H
  split at H <;> try contradiction
  rename_i hle hr
  have hA := agr_start (n := fn.ntmps) (args := args) (Nat.le_of_ble_eq_true hle)
  refine (callsDIn_of_wp (R := fun e w' => (∃ v, e = .returned v) ∧ R w'.heap ∧ Rst w w') hf hb trivial (wpIn_mono (den_sound Wd.wide (m := 0) (fun _ => rfl) hm (w0 := w) c ht _ _ _ [] (fun _ => none) _ w (fun t ht => by cases ht) (fun t ht => by cases ht) hA (.refl w) H) fun e a w' hq => ?_)).mono fun e u w' hh => ⟨hh.1, hh.2.1, hh.2.2.1, hh.2.2.2⟩
  have fin : ∀ env, Agr fn.ntmps env a → Rst w w' → leave0 P fn.ntmps fn.results.toList (fun _ h' => R h') env w'.heap → a.defers = [] ∧ ∃ v, (results fn a.tmps).run P w' = .ok v w' ∧ ((∃ v', Ending.returned v = .returned v') ∧ R w'.heap ∧ Rst w w') := by
    intro env hA' hR' hl
    unfold leave0 at hl
    split at hl
    · rename_i hds
      obtain ⟨ds', hds', hdf⟩ := hA'.df _ hds
      simp only [Value.tuple.injEq, Array.mk.injEq] at hds'
      subst hds'
      obtain ⟨v, h1, h2⟩ := run_results (k := fun _ => R w'.heap) hA' hr hl
      exact ⟨hdf, v, h1, ⟨v, rfl⟩, h2, hR'⟩
    · contradiction
  cases e with
  | normal => obtain ⟨env, hA', hR', _, hl⟩ := hq; exact fin env hA' hR' hl
  | ret => obtain ⟨env, hA', hR', _, hl⟩ := hq; exact fin env hA' hR' hl
  | exit id => obtain ⟨env, hA', hR', _, hl⟩ := hq; exact hl.elim
  | goto l => exact hq.elim
  | panic ch => exact hq.elim
  | outgrown => exact hq.elim

/-- what clean texts speak of: calls, calls of a loop's yield, deferred calls -/
structure Sys where
  C : FuncId → List Value → Hp → (Value → Hp → Prop) → Prop
  Y : Nat → List Value → Hp → (Value → Hp → Prop) → Prop
  D : FuncId → List Value → Hp → (Hp → Prop) → Prop
def Sys.of (P : Program) : Sys := { C := Cl P, Y := Sy P, D := SpD P }

def denFn (P : Program) (fn : Func) (ht : HT) (args : List Value) (h : Hp) (R : Value → Hp → Prop) : Prop :=
  match fn.body with
  | some c => denF P fn c ht args h R
  | none => False
def denFn0 (P : Program) (fn : Func) (ht : HT) (args : List Value) (h : Hp) (R : Value → Hp → Prop) : Prop :=
  match fn.body with
  | some c => denF0 P fn c ht args h R
  | none => False

theorem cl_of_den {P : Program} {f : FuncId} {fn : Func} {ht : HT} {args : List Value} {h : Hp} {R : Value → Hp → Prop} {A : Prop} (hf : P.funcs[f]? = some fn) (hok : okF P f = true) (hm : P.follows .mixedOrders = true)
    (he : A = denFn P fn ht args h R) (H : A) : (Sys.of P).C f args h R := by
  subst he
  refine ⟨hok, ?_⟩
  unfold denFn at H
  split at H
  · rename_i c hc; exact sp_of_den hf hc hm H
  · exact H.elim
theorem spd_of_denFn {P : Program} {f : FuncId} {fn : Func} {ht : HT} {args : List Value} {h : Hp} {R : Hp → Prop} {A : Prop} (hf : P.funcs[f]? = some fn) (hm : P.follows .mixedOrders = true)
    (he : A = denFn0 P fn ht args h (fun _ h' => R h')) (H : A) : (Sys.of P).D f args h R := by
  subst he
  unfold denFn0 at H
  split at H
  · rename_i c hc; exact spd_of_den hf hc hm H
  · exact H.elim
end Go.En
