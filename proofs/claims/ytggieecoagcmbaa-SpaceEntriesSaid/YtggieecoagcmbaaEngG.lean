/-
  The engine, part G: operations whose order is drawn: one walk serves every order.
-/
import Derived.Test.YtggieecoagcmbaaEngF
namespace Go.En

inductive DC where
  | p | v | e | bad
def pureV (P : Program) : Op → Bool
  | .load .. | .lookup .. | .entry _ => false
  | .call { callee := .builtin .len, argTypes := ⟨t :: _⟩, .. } => match lnk P t with
    | .slc => true
    | _ => false
  | .call { callee := .builtin .min, .. } | .call { callee := .builtin .max, .. } => true
  | .call _ => false
  | _ => true
def dc (P : Program) (op : Op) : DC :=
  match op with
  | .move _ | .assign _ => .p
  | .defer _ | .select .. => .bad
  | op => match isV op with
    | true => match pureV P op with
      | true => .p
      | false => .v
    | false => .e
def isE : DC → Bool
  | .e => true
  | _ => false

structure Pd where
  i : Nat
  env : Env
  op : Op
  v : Value

def stabs (P : Program) (n : Nat) (mask : Nat) (h : Hp) (q : Prop) : List Pd → Prop
  | [] => q
  | p :: r => match mask.testBit p.i with
    | true => stabs P n mask h q r
    | false => vop P n p.env p.op h = some p.v ∧ stabs P n mask h q r
def keepP (mask : Nat) : List Pd → List Pd
  | [] => []
  | p :: r => match mask.testBit p.i with
    | true => keepP mask r
    | false => p :: keepP mask r

def kbn (kb : KB) (dst : Option Nat) : KB :=
  match dst with
  | some d => (d, none) :: kb
  | none => kb

/-- the orders of a drawn region: a line; at a fork, which operation that turns the heap comes next is left open -/
inductive OT where
  | nil
  | cons (i : Nat) (r : OT)
  | alt (a b : OT)
def oc : List Nat → OT → OT
  | [], t => t
  | i :: r, t => .cons i (oc r t)

def denD (P : Program) (n : Nat) (ops : Array Oper) (pre : Array Nat) : OT → List Pd → Env → KB → Hp → (Env → Hp → Prop) → Prop
  | .nil, _, env, _, h, k => k env h
  | .alt a b, pend, env, kb, h, k => denD P n ops pre a pend env kb h k ∧ denD P n ops pre b pend env kb h k
  | .cons i r, pend, env, kb, h, k => match ops[i]? with
    | none => False
    | some o => grd ops env kb o.guard
      (fun kb => match dc P o.op with
        | .p => step P n o.op env kb h fun v _ => denD P n ops pre r pend (put env o.dst v) (kbd kb o.dst) h k
        | .v => Vb (vop P n env o.op h) fun v => denD P n ops pre r ({ i, env, op := o.op, v } :: pend) (put env o.dst v) (kbd kb o.dst) h k
        | .e => eop P n env o.op h fun v h' => stabs P n (pre.getD i 0) h' (denD P n ops pre r (keepP (pre.getD i 0) pend) (put env o.dst v) (kbd kb o.dst) h' k) pend
        | .bad => False)
      (fun kb => denD P n ops pre r pend (put env o.dst undef) (kbn kb o.dst) h k)

/-! ### The check of a region's order -/
def rel (pre : Array Nat) (i j : Nat) : Bool := (pre.getD i 0).testBit j
def dstOf (ops : Array Oper) (j : Nat) : Option Nat := (ops[j]?).bind (·.dst)
def haz (ops : Array Oper) (j : Nat) (o : Oper) : Bool :=
  match dstOf ops j with
  | some d => (o.looksAt ops).contains d
  | none => false
def sameDst (ops : Array Oper) (i j : Nat) : Bool :=
  match dstOf ops i, dstOf ops j with
  | some d, some e => Nat.beq d e
  | _, _ => false
def eAt (P : Program) (ops : Array Oper) (j : Nat) : Bool :=
  match ops[j]? with
  | some o => isE (dc P o.op)
  | none => false
def heads : OT → List Nat
  | .nil => []
  | .cons i _ => [i]
  | .alt a b => heads a ++ heads b
def okGo (P : Program) (ops : Array Oper) (pre : Array Nat) : OT → List Nat → List Nat → Bool
  | .nil, _, l1 => (List.range ops.size).all fun j => l1.contains j
  | .alt a b, hs, l1 => hs.all (fun e => eAt P ops e) && okGo P ops pre a hs l1 && okGo P ops pre b hs l1
  | .cons i r, hs, l1 => (match ops[i]? with
    | none => false
    | some o => !(l1.contains i) && hs.contains i && o.after.all (fun e => !Region.binds .any e || l1.contains e.on) &&
      l1.all (fun j => !haz ops j o || rel pre i j) &&
      (List.range ops.size).all (fun j => Nat.beq j i || l1.contains j || !haz ops j o || rel pre j i) &&
      (!isE (dc P o.op) || (List.range ops.size).all fun j => l1.contains j || hs.contains j || hs.any fun e => rel pre j e)) && okGo P ops pre r (heads r) (i :: l1)
def pathOf : OT → List Nat
  | .nil => []
  | .cons i r => i :: pathOf r
  | .alt a _ => pathOf a
def okD (P : Program) (n : Nat) (ops : Array Oper) (pre : Array Nat) (ord : OT) : Bool :=
  dstOk n ops.toList && (List.range ops.size).all (fun i => (List.range ops.size).all fun j => Nat.beq i j || !sameDst ops i j) &&
    (List.range ops.size).all (fun i => match ops[i]? with
      | none => false
      | some o => o.after.all (fun e => !Region.binds .any e || (Nat.blt ((pathOf ord).idxOf e.on) ((pathOf ord).idxOf i) && Nat.blt e.on ops.size)) &&
        (List.range ops.size).all (fun j => !rel pre i j || o.after.any fun e => Region.binds .any e && (Nat.beq e.on j || rel pre e.on j))) &&
    okGo P ops pre ord (heads ord) []

structure OkAt (P : Program) (ops : Array Oper) (pre : Array Nat) (hs l1 : List Nat) (i : Nat) (o : Oper) : Prop where
  at_ : ops[i]? = some o
  notin : i ∉ l1
  inh : i ∈ hs
  edge : ∀ e ∈ o.after, Region.binds .any e = true → e.on ∈ l1
  hz1 : ∀ j ∈ l1, haz ops j o = true → rel pre i j = true
  hz2 : ∀ j, j < ops.size → j ≠ i → j ∉ l1 → haz ops j o = true → rel pre j i = true
  wait : dc P o.op = .e → ∀ j, j < ops.size → j ∉ l1 → j ∉ hs → ∃ e ∈ hs, rel pre j e = true

theorem okGo_at {P : Program} {ops : Array Oper} {pre : Array Nat} {hs l1 : List Nat} {i : Nat} {r : OT} (h : okGo P ops pre (.cons i r) hs l1 = true) : (∃ o, OkAt P ops pre hs l1 i o) ∧ okGo P ops pre r (heads r) (i :: l1) = true := by
  unfold okGo at h
  rw [Bool.and_eq_true] at h
  refine ⟨?_, h.2⟩
  have h1 := h.1
  split at h1
  · contradiction
  · rename_i o ho
    simp only [Bool.and_eq_true, List.all_eq_true, Array.all_eq_true_iff_forall_mem, Bool.or_eq_true, Bool.not_eq_true', List.contains_iff_mem, List.contains_eq_mem, decide_eq_false_iff_not, decide_eq_true_eq, List.mem_range, List.any_eq_true] at h1
    obtain ⟨⟨⟨⟨⟨a1, a6⟩, a2⟩, a4⟩, a5⟩, a7⟩ := h1
    refine ⟨o, ho, a1, a6, fun e he hb => ?_, fun j hj hh => ?_, fun j hj hne hnl hh => ?_, fun hd j hj hnl hnh => ?_⟩
    · rcases a2 e he with h2 | h2
      · rw [hb] at h2; cases h2
      · exact h2
    · rcases a4 j hj with h2 | h2
      · rw [hh] at h2; cases h2
      · exact h2
    · rcases a5 j hj with ((h2 | h2) | h2) | h2
      · exact absurd (Nat.eq_of_beq_eq_true h2) hne
      · exact absurd h2 hnl
      · rw [hh] at h2; cases h2
      · exact h2
    · rcases a7 with h2 | h2
      · rw [hd] at h2; cases h2
      · rcases h2 j hj with (h3 | h3) | h3
        · exact absurd h3 hnl
        · exact absurd h3 hnh
        · exact h3
theorem okGo_alt {P : Program} {ops : Array Oper} {pre : Array Nat} {hs l1 : List Nat} {a b : OT} (h : okGo P ops pre (.alt a b) hs l1 = true) : (∀ e ∈ hs, eAt P ops e = true) ∧ okGo P ops pre a hs l1 = true ∧ okGo P ops pre b hs l1 = true := by
  unfold okGo at h
  simp only [Bool.and_eq_true, List.all_eq_true] at h
  exact ⟨h.1.1, h.1.2, h.2⟩

/-! ### What an operation comes to, in whatever frame agrees with an environment on what it looks at -/
def agreeOn (n : Nat) (env : Env) (ts : List Tmp) (a : Act) : Prop := a.tmps.size = n ∧ ∀ t u, t ∈ ts → t < n → lk env t = some u → a.tmps.getD t undef = u

/-- the operation's operands, in an environment; elsewhere in the frame -/
def rho (n : Nat) (env : Env) (a : Act) : Operand → Value := fun x => (ev n env x).getD (a.eval x)
theorem rho_holds {n : Nat} {env : Env} {a : Act} : Holds n env (rho n env a) := fun x v h => by simp [rho, h]
theorem rho_cong {n : Nat} {env : Env} {a : Act} {ops : Array Oper} {o : Oper} (hs : ∀ cs b, o.op ≠ .select cs b) (h : agreeOn n env (o.looksAt ops) a) : execOp a.eval o = execOp (rho n env a) o := by
  refine execOp_congr o hs fun x hx => ?_
  unfold rho
  cases he : ev n env x with
  | none => rfl
  | some v =>
    simp only [Option.getD_some]
    cases x with
    | tmp t =>
      simp only [ev] at he
      split at he
      · rename_i hb
        exact h.2 t v (List.mem_append_left _ (List.mem_filterMap.2 ⟨.tmp t, by simpa using hx, rfl⟩)) (by simpa [Nat.blt_eq] using hb) he
      · contradiction
    | const u => simpa [ev, Act.eval] using he
    | global g => simpa [ev, Act.eval] using he
    | func f => simpa [ev, Act.eval] using he

/-- is it carried out: by the environment -/
def wantE (ops : Array Oper) (env : Env) (o : Oper) : Bool :=
  match o.guard with
  | none => true
  | some (j, want) => match dstOf ops j with
    | none => false
    | some d => match lk env d with
      | none => false
      | some v => boolOf v == some want

theorem grd_env {n : Nat} {ops : Array Oper} {env : Env} {kb : KB} {o : Oper} {yes no : KB → Prop} (hn : dstOk n ops.toList = true) (hK : KBok n kb env) (h : grd ops env kb o.guard yes no) :
    ∃ kb', KBok n kb' env ∧ ((wantE ops env o = true ∧ yes kb') ∨ (wantE ops env o = false ∧ no kb')) ∧
      (∀ a, agreeOn n env (o.looksAt ops) a → Region.wanted o (yielded ops a.tmps) = wantE ops env o) := by
  have key : ∀ (a : Act), agreeOn n env (o.looksAt ops) a → (∀ j want d, o.guard = some (j, want) → dstOf ops j = some d → ∃ v, lk env d = some v) → (∀ j want, o.guard = some (j, want) → ∃ d, dstOf ops j = some d) →
      Region.wanted o (yielded ops a.tmps) = wantE ops env o := by
    intro a ha hv hd
    unfold wantE
    cases hg : o.guard with
    | none => simp [Region.wanted, hg]
    | some g =>
      obtain ⟨j, want⟩ := g
      obtain ⟨d, hd'⟩ := hd j want hg
      obtain ⟨v, hv'⟩ := hv j want d hg hd'
      simp only [hd', hv']
      have hdn : d < n := by
        unfold dstOf at hd'
        cases ho : ops[j]? with
        | none => rw [ho] at hd'; cases hd'
        | some oj => rw [ho] at hd'; exact dstOk_mem hn oj (by rw [Array.mem_toList_iff]; exact Array.mem_of_getElem? ho) d hd'
      have hin : d ∈ o.looksAt ops := by
        unfold Oper.looksAt
        refine List.mem_append_right _ ?_
        rw [hg]
        simp only
        have : (ops[j]?).bind (·.dst) = some d := hd'
        rw [this]; simp
      have hy := yielded_of (env := env) (v := v) ha.1 (j := j) (ops := ops) hd' hdn (ha.2 d v hin hdn hv')
      simp only [Region.wanted, hg, hy]
  have h0 := h
  unfold grd at h
  split at h
  · rename_i hg
    refine ⟨kb, hK, .inl ⟨by simp [wantE, hg], h⟩, fun a ha => key a ha (fun j want d hgg _ => by rw [hg] at hgg; cases hgg) (fun j want hgg => by rw [hg] at hgg; cases hgg)⟩
  · rename_i j want hg
    split at h <;> try contradiction
    rename_i d hd
    have hd' : dstOf ops j = some d := hd
    have hdn : d < n := by
      cases ho : ops[j]? with
      | none => rw [ho] at hd; cases hd
      | some oj => rw [ho] at hd; exact dstOk_mem hn oj (by rw [Array.mem_toList_iff]; exact Array.mem_of_getElem? ho) d hd
    have fin : ∀ v, lk env d = some v → (∀ a, agreeOn n env (o.looksAt ops) a → Region.wanted o (yielded ops a.tmps) = wantE ops env o) := fun v hv a ha => key a ha
      (fun j' want' d' hgg hdd => by rw [hg] at hgg; cases hgg; rw [hd'] at hdd; cases hdd; exact ⟨v, hv⟩) (fun j' want' hgg => by rw [hg] at hgg; cases hgg; exact ⟨d, hd'⟩)
    have hw : ∀ v, lk env d = some v → wantE ops env o = (boolOf v == some want) := fun v hv => by simp [wantE, hg, hd', hv]
    split at h
    · rename_i b hb
      obtain ⟨_, v, hv, hm⟩ := hK _ _ hb
      simp only at hm
      subst hm
      refine ⟨kb, hK, ?_, fin _ hv⟩
      rw [hw _ hv]
      split at h
      · exact .inl ⟨rfl, h⟩
      · exact .inl ⟨rfl, h⟩
      · rename_i h1 h2
        refine .inr ⟨?_, h⟩
        cases b <;> cases want <;> first | rfl | exact (h1 rfl rfl).elim | exact (h2 rfl rfl).elim
    · rename_i hb
      obtain ⟨_, v, hv, hm⟩ := hK _ _ hb
      simp only at hm
      subst hm
      exact ⟨kb, hK, .inr ⟨by rw [hw _ hv]; rfl, h⟩, fin _ hv⟩
    · split at h <;> try contradiction
      rename_i v hv
      split at h
      · obtain ⟨b, rfl, ht, hf⟩ := Br_ex h
        cases b with
        | true => exact ⟨_, hK.add hdn hv (r := some true) rfl, .inl ⟨by rw [hw _ hv]; rfl, ht rfl⟩, fin _ hv⟩
        | false => exact ⟨_, hK.add hdn hv (r := some false) rfl, .inr ⟨by rw [hw _ hv]; rfl, hf rfl⟩, fin _ hv⟩
      · obtain ⟨b, rfl, ht, hf⟩ := Br_ex h
        cases b with
        | true => exact ⟨_, hK.add hdn hv (r := some true) rfl, .inr ⟨by rw [hw _ hv]; rfl, ht rfl⟩, fin _ hv⟩
        | false => exact ⟨_, hK.add hdn hv (r := some false) rfl, .inl ⟨by rw [hw _ hv]; rfl, hf rfl⟩, fin _ hv⟩

/-- Operation i comes to v, in every heap that has what it reads, in every frame that agrees. -/
def Comes1 (P : Program) (F : Fence) (m n : Nat) (ops : Array Oper) (i : Nat) (o : Oper) (env : Env) (v : Value) (h : Hp) : Prop :=
  ∀ (a : Act) (w : World) (Q : Exit → Act → World → Prop) (next : Act → World → Prop), w.heap = h → agreeOn n env (o.looksAt ops) a → next (a.put o.dst v) w → wpOpIn F m P ops Q i next a w

theorem pureV_vop {P : Program} {n : Nat} {env : Env} {op : Op} (hp : pureV P op = true) (h h' : Hp) : vop P n env op h = vop P n env op h' := by
  cases op <;> first | rfl | (simp [pureV] at hp; done) | skip
  rename_i c
  obtain ⟨cl, ⟨as⟩, ⟨ts⟩⟩ := c
  cases cl with
  | value f => simp [pureV] at hp
  | invoke r m => simp [pureV] at hp
  | builtin b =>
    cases b <;> first | (simp [pureV] at hp; done) | skip
    · cases ts with
      | nil => simp [pureV] at hp
      | cons t r =>
        simp only [pureV] at hp
        split at hp
        · rename_i hk
          match as with
          | [] => rfl
          | [x] => simp only [vop, hk, lnT]
          | _ :: _ :: _ => rfl
        · contradiction
    · match as with
      | [] => rfl
      | [x] => rfl
      | [x, y] => rfl
      | _ :: _ :: _ :: _ => rfl
    · match as with
      | [] => rfl
      | [x] => rfl
      | [x, y] => rfl
      | _ :: _ :: _ :: _ => rfl

end Go.En
