/-
  The engine, part H: a drawn region, by one walk.
-/
import Derived.Test.YtggieecoagcmbaaEngG
namespace Go.En

/-- An operation that asks the heap for nothing: its value, in every heap. -/
theorem step_pure {P : Program} {n : Nat} {env : Env} {kb : KB} {o : Oper} {h : Hp} {k : Value → Hp → Prop} (hK : KBok n kb env) (hp : dc P o.op = .p) (hs : step P n o.op env kb h k) :
    ∃ v, (∀ (ρ : Operand → Value) (w : World), Holds n env ρ → (execOp ρ o).run P w = .ok (.value v) w) ∧ k v h := by
  have hmove : ∀ x v, (o.op = .move x ∨ o.op = .assign x) → ev n env x = some v → k v h → ∃ v, (∀ (ρ : Operand → Value) (w : World), Holds n env ρ → (execOp ρ o).run P w = .ok (.value v) w) ∧ k v h := by
    intro x v ho hv hk
    refine ⟨v, fun ρ w hρ => ?_, hk⟩
    rw [← hρ x v hv]
    rcases ho with e | e <;> (unfold execOp; rw [e]; rfl)
  have hV : pureV P o.op = true → Vb (vop P n env o.op h) (fun v => k v h) → ∃ v, (∀ (ρ : Operand → Value) (w : World), Holds n env ρ → (execOp ρ o).run P w = .ok (.value v) w) ∧ k v h := by
    rintro hpv ⟨v, hv, hk⟩
    exact ⟨v, fun ρ w hρ => run_vop hρ (by rw [pureV_vop hpv w.heap h]; exact hv), hk⟩
  unfold step at hs
  split at hs
  · rename_i x ho
    split at hs <;> try contradiction
    rename_i v hv
    exact hmove x v (.inl ho) hv hs
  · rename_i x ho
    split at hs <;> try contradiction
    rename_i v hv
    exact hmove x v (.inr ho) hv hs
  · rename_i c x y ho
    have kb2 : ∀ b, lkb kb c = some (some b) → ev n env (.tmp c) = some (.bool b) := by
      intro b hb
      obtain ⟨hc, u, hu, hm⟩ := hK _ _ hb
      simp only at hm
      subst hm
      have : Nat.blt c n = true := by simpa [Nat.blt_eq] using hc
      simp [ev, this, hu]
    split at hs
    · rename_i hb
      split at hs <;> try contradiction
      rename_i v hv
      refine ⟨v, fun ρ w hρ => ?_, hs⟩
      unfold execOp; rw [ho]; simp [hρ _ _ (kb2 _ hb), hρ _ _ hv, asBool]
    · rename_i hb
      split at hs <;> try contradiction
      rename_i v hv
      refine ⟨v, fun ρ w hρ => ?_, hs⟩
      unfold execOp; rw [ho]; simp [hρ _ _ (kb2 _ hb), hρ _ _ hv, asBool]
    · contradiction
    · rw [← ho] at hs; exact hV (by rw [ho]; rfl) hs
  · rename_i h1 h2 h3
    have hpv : isV o.op = true ∧ pureV P o.op = true := by
      unfold dc at hp
      split at hp
      · rename_i hh; exact (h1 _ hh).elim
      · rename_i hh; exact (h2 _ hh).elim
      · contradiction
      · contradiction
      · split at hp
        · rename_i hv
          split at hp
          · rename_i hpp; exact ⟨hv, hpp⟩
          · contradiction
        · contradiction
    rw [hpv.1] at hs
    exact hV hpv.2 hs

theorem dc_v {P : Program} {op : Op} (h : dc P op = .v) : ∀ cs b, op ≠ .select cs b := by
  intro cs b e; subst e; simp [dc] at h
theorem dc_p {P : Program} {op : Op} (h : dc P op = .p) : ∀ cs b, op ≠ .select cs b := by
  intro cs b e; subst e; simp [dc] at h
theorem dc_e {P : Program} {op : Op} (h : dc P op = .e) : ∀ cs b, op ≠ .select cs b := by
  intro cs b e; subst e; simp [dc] at h

theorem comes1_run {P : Program} {F : Fence} (hF : Wd F) {m n : Nat} {ops : Array Oper} {i : Nat} {o : Oper} {env : Env} {v : Value} {h : Hp} (ho : ops[i]? = some o) (hs : ∀ cs b, o.op ≠ .select cs b) (hd : ∀ c, o.op ≠ .defer c)
    (hw : ∀ a, agreeOn n env (o.looksAt ops) a → Region.wanted o (yielded ops a.tmps) = true)
    (hr : ∀ (ρ : Operand → Value) (w : World), w.heap = h → Holds n env ρ → (execOp ρ o).run P w = .ok (.value v) w) : Comes1 P F m n ops i o env v h := by
  intro a w Q next hh ha hn
  unfold wpOpIn
  simp only [ho]
  rw [hw a ha, if_pos rfl]
  refine ⟨fun f _ => hF.any f, ?_⟩
  rw [Oper.semAt_eq _ _ _ hd, rho_cong hs ha, hr _ w hh rho_holds, Oper.uponIn_value]
  exact hn

theorem comes1_skip {P : Program} {F : Fence} (hF : Wd F) {m n : Nat} {ops : Array Oper} {i : Nat} {o : Oper} {env : Env} {h : Hp} (ho : ops[i]? = some o)
    (hw : ∀ a, agreeOn n env (o.looksAt ops) a → Region.wanted o (yielded ops a.tmps) = false) : Comes1 P F m n ops i o env undef h := by
  intro a w Q next hh ha hn
  unfold wpOpIn
  simp only [ho]
  rw [hw a ha]
  exact ⟨fun f _ => hF.any f, hn⟩

def lst (listed : Array Bool) (j : Nat) : Bool := listed.getD j false

/-- an operation that the walk has behind it and the machine has still ahead -/
structure Pend (P : Program) (F : Fence) (m n : Nat) (ops : Array Oper) (pre : Array Nat) (pl : List Nat) (env : Env) (D : Nat → Bool) (a : Act) (h : Hp) (pend : List Pd) (i : Nat) (o : Oper) (env' : Env) (pl' : List Nat) (v : Value) : Prop where
  at_ : ops[i]? = some o
  sub : ∀ j ∈ pl', j ∈ pl
  run : Comes1 P F m n ops i o env' v h
  keep : (∀ h', Comes1 P F m n ops i o env' v h') ∨ (∃ p ∈ pend, p.i = i ∧ ∀ h', vop P n p.env p.op h' = some p.v → Comes1 P F m n ops i o env' v h')
  val : ∀ d, o.dst = some d → lk env d = some v
  fr : ∀ t u, t ∈ o.looksAt ops → t < n → lk env' t = some u → (∀ j ∈ pl', dstOf ops j = some t → D j = true) → a.tmps.getD t undef = u
  h1 : ∀ j ∈ pl', haz ops j o = true → rel pre i j = true
  h2 : ∀ j, j < ops.size → j ≠ i → j ∉ pl' → haz ops j o = true → rel pre j i = true
  per : ∀ j ∈ pl', ∀ t u, lk env' t = some u → dstOf ops j = some t → lk env t = some u

structure St (P : Program) (F : Fence) (m n : Nat) (ops : Array Oper) (pre : Array Nat) (pl : List Nat) (env : Env) (D : Nat → Bool) (a : Act) (h : Hp) (pend : List Pd) (T : List Nat) (b : Nat → Option Value) : Prop where
  tr : ∀ t ∈ T, lk env t = b t
  sz : a.tmps.size = n
  df : ∀ v, lk env n = some v → ∃ ds : List Value, v = .tuple ⟨ds⟩ ∧ a.defers = ds.map dec
  fr : ∀ t v, t < n → lk env t = some v → (∀ j ∈ pl, dstOf ops j = some t → D j = true) → a.tmps.getD t undef = v
  sub : ∀ j, j < ops.size → D j = true → j ∈ pl
  clo : ∀ i, D i = true → ∀ j, j < ops.size → rel pre i j = true → D j = true
  lt : ∀ j ∈ pl, j < ops.size
  pd : ∀ i ∈ pl, D i = false → ∃ o env' pl' v, Pend P F m n ops pre pl env D a h pend i o env' pl' v

/-- an operation that turns the heap, and what comes behind it; at a fork: each of them -/
def AheadT (P : Program) (n : Nat) (ops : Array Oper) (pre : Array Nat) (pend : List Pd) (env : Env) (h : Hp) (k : Env → Hp → Prop) : OT → Prop
  | .nil => False
  | .alt a b => AheadT P n ops pre pend env h k a ∧ AheadT P n ops pre pend env h k b
  | .cons e r => ∃ o kb, ops[e]? = some o ∧ dc P o.op = .e ∧ KBok n kb env ∧ (∀ a, agreeOn n env (o.looksAt ops) a → Region.wanted o (yielded ops a.tmps) = true) ∧
    eop P n env o.op h fun v h' => stabs P n (pre.getD e 0) h' (denD P n ops pre r (keepP (pre.getD e 0) pend) (put env o.dst v) (kbd kb o.dst) h' k) pend
/-- what the walk has still ahead: nothing, or operations that turn the heap -/
def Ahead (P : Program) (n : Nat) (ops : Array Oper) (pre : Array Nat) (rest : OT) (pend : List Pd) (env : Env) (h : Hp) (k : Env → Hp → Prop) : Prop :=
  (rest = .nil ∧ k env h) ∨ AheadT P n ops pre pend env h k rest

theorem mem_lt {ops : Array Oper} {i : Nat} {o : Oper} (h : ops[i]? = some o) : i < ops.size := (Array.getElem?_eq_some_iff.1 h).1
theorem dstOf_at {ops : Array Oper} {i : Nat} {o : Oper} (h : ops[i]? = some o) : dstOf ops i = o.dst := by simp [dstOf, h]
theorem haz_of {ops : Array Oper} {j t : Nat} {o : Oper} (h : dstOf ops j = some t) (ht : t ∈ o.looksAt ops) : haz ops j o = true := by
  unfold haz; rw [h]; simpa using ht

theorem stabs_spec {P : Program} {n : Nat} {mask : Nat} {h : Hp} {q : Prop} : ∀ {pend : List Pd}, stabs P n mask h q pend → q ∧ ∀ p ∈ pend, mask.testBit p.i = false → vop P n p.env p.op h = some p.v
  | [], hs => ⟨hs, fun p hp => by cases hp⟩
  | p :: r, hs => by
    unfold stabs at hs
    split at hs
    · rename_i hb
      obtain ⟨h1, h2⟩ := stabs_spec (pend := r) hs
      refine ⟨h1, fun x hx hxb => ?_⟩
      rcases List.mem_cons.1 hx with rfl | hx
      · rw [hb] at hxb; cases hxb
      · exact h2 x hx hxb
    · rename_i hb
      obtain ⟨h1, h2⟩ := stabs_spec (pend := r) hs.2
      refine ⟨h1, fun x hx hxb => ?_⟩
      rcases List.mem_cons.1 hx with rfl | hx
      · exact hs.1
      · exact h2 x hx hxb

theorem keepP_mem {mask : Nat} : ∀ {pend : List Pd} {p : Pd}, p ∈ pend → mask.testBit p.i = false → p ∈ keepP mask pend
  | [], p, hp, _ => by cases hp
  | x :: r, p, hp, hb => by
    unfold keepP
    rcases List.mem_cons.1 hp with rfl | hp
    · rw [hb]; exact List.mem_cons_self ..
    · split
      · exact keepP_mem hp hb
      · exact List.mem_cons_of_mem _ (keepP_mem hp hb)
section
variable {P : Program} {F : Fence} (hF : Wd F) {m n : Nat} {ops : Array Oper} {pre : Array Nat}
variable {T : List Nat} {b : Nat → Option Value} (hT : ∀ o ∈ ops.toList, ∀ d, o.dst = some d → d ∉ T)
variable (hn : dstOk n ops.toList = true) (hdist : ∀ i j d, i < ops.size → j < ops.size → dstOf ops i = some d → dstOf ops j = some d → i = j)
include hF hT hn hdist

/-- one operation more behind the walk, not yet behind the machine -/
theorem St.more {hs pl : List Nat} {i : Nat} {env : Env} {D : Nat → Bool} {a : Act} {h : Hp} {pend pend' : List Pd} {o : Oper} {v : Value} (hok : OkAt P ops pre hs pl i o) (hs : St P F m n ops pre pl env D a h pend T b)
    (hp : ∀ p ∈ pend, p ∈ pend') (hrun : Comes1 P F m n ops i o env v h) (hkeep : (∀ h', Comes1 P F m n ops i o env v h') ∨ (∃ p ∈ pend', p.i = i ∧ ∀ h', vop P n p.env p.op h' = some p.v → Comes1 P F m n ops i o env v h')) :
    St P F m n ops pre (i :: pl) (put env o.dst v) D a h pend' T b := by
  have _ := hF
  have hi := mem_lt hok.at_
  have hdi := dstOf_at hok.at_
  have hDi : D i = false := by
    cases hD : D i with
    | false => rfl
    | true => exact absurd (hs.sub i hi hD) hok.notin
  have hoth : ∀ j ∈ pl, ∀ t, dstOf ops j = some t → o.dst ≠ some t := by
    intro j hj t hjt e
    rw [← hdi] at e
    have := hdist j i t (hs.lt j hj) hi hjt e
    subst this
    exact hok.notin hj
  have hlk : ∀ t, o.dst ≠ some t → lk (put env o.dst v) t = lk env t := by
    intro t ht
    cases hd : o.dst with
    | none => rfl
    | some d =>
      simp only [put]
      rw [lk_put, if_neg (fun e => ht (by rw [hd, e]))]
  have hnn : o.dst ≠ some n := fun e => by
    exact Nat.lt_irrefl n (dstOk_mem hn o (by rw [Array.mem_toList_iff]; exact Array.mem_of_getElem? hok.at_) n e)
  refine ⟨?_, hs.sz, ?_, ?_, ?_, hs.clo, ?_, ?_⟩
  · intro t ht
    rw [hlk t (fun e => hT o (by rw [Array.mem_toList_iff]; exact Array.mem_of_getElem? hok.at_) t e ht)]
    exact hs.tr t ht
  · intro u hu
    rw [hlk n hnn] at hu
    exact hs.df u hu
  · intro t u ht hu hj
    by_cases e : o.dst = some t
    · have := hj i (List.mem_cons_self ..) (by rw [hdi]; exact e)
      rw [hDi] at this; cases this
    · rw [hlk t e] at hu
      exact hs.fr t u ht hu fun j hjj => hj j (List.mem_cons_of_mem _ hjj)
  · exact fun j hj hD => List.mem_cons_of_mem _ (hs.sub j hj hD)
  · intro j hj
    rcases List.mem_cons.1 hj with rfl | hj
    · exact hi
    · exact hs.lt j hj
  · intro x hx hDx
    rcases List.mem_cons.1 hx with rfl | hx
    · refine ⟨o, env, pl, v, hok.at_, fun j hj => List.mem_cons_of_mem _ hj, hrun, hkeep, ?_, ?_, hok.hz1, ?_, ?_⟩
      · intro d hd; rw [hd]; simp only [put]; rw [lk_put, if_pos rfl]
      · intro t u ht htn hu hj
        exact hs.fr t u htn hu hj
      · exact fun j hj hne hnp hh => hok.hz2 j hj hne hnp hh
      · intro j hj t u hu hjt
        rw [hlk t (hoth j hj t hjt)]; exact hu
    · obtain ⟨o', env', pl', v', hp'⟩ := hs.pd x hx hDx
      refine ⟨o', env', pl', v', hp'.at_, fun j hj => List.mem_cons_of_mem _ (hp'.sub j hj), hp'.run, ?_, ?_, hp'.fr, hp'.h1, hp'.h2, ?_⟩
      · rcases hp'.keep with hk | ⟨p, hpm, hpi, hpv⟩
        · exact .inl hk
        · exact .inr ⟨p, hp p hpm, hpi, hpv⟩
      · intro d hd
        rw [hlk d (hoth x hx d (by rw [dstOf_at hp'.at_]; exact hd))]
        exact hp'.val d hd
      · intro j hj t u hu hjt
        rw [hlk t (hoth j (hp'.sub j hj) t hjt)]
        exact hp'.per j hj t u hu hjt

/-- The walk goes on as far as the next operation that turns the heap. -/
theorem advance {k : Env → Hp → Prop} {D : Nat → Bool} {a : Act} {h : Hp} : ∀ (rest : OT) (hs0 pl : List Nat) (pend : List Pd) (env : Env) (kb : KB), okGo P ops pre rest hs0 pl = true → KBok n kb env → St P F m n ops pre pl env D a h pend T b →
    denD P n ops pre rest pend env kb h k →
    (okGo P ops pre rest hs0 pl = true ∧ St P F m n ops pre pl env D a h pend T b ∧ Ahead P n ops pre rest pend env h k) ∨
    ∃ pl' rest' pend' env', okGo P ops pre rest' (heads rest') pl' = true ∧ St P F m n ops pre pl' env' D a h pend' T b ∧ Ahead P n ops pre rest' pend' env' h k
  | .nil, hs0, pl, pend, env, kb, hok, _, hs, hd => .inl ⟨hok, hs, .inl ⟨rfl, hd⟩⟩
  | .alt x y, hs0, pl, pend, env, kb, hok, hK, hs, hd => by
    obtain ⟨hE, hx, hy⟩ := okGo_alt hok
    rcases advance x hs0 pl pend env kb hx hK hs hd.1 with ⟨_, _, h1⟩ | h1
    · rcases advance y hs0 pl pend env kb hy hK hs hd.2 with ⟨_, _, h2⟩ | h2
      · rcases h1 with ⟨rfl, h1⟩ | h1
        · exact .inr ⟨pl, .nil, pend, env, hx, hs, .inl ⟨rfl, h1⟩⟩
        · rcases h2 with ⟨rfl, h2⟩ | h2
          · exact .inr ⟨pl, .nil, pend, env, hy, hs, .inl ⟨rfl, h2⟩⟩
          · exact .inl ⟨hok, hs, .inr ⟨h1, h2⟩⟩
      · exact .inr h2
    · exact .inr h1
  | .cons i r, hs0, pl, pend, env, kb, hok, hK, hs, hd => by
    obtain ⟨⟨o, ho⟩, hok'⟩ := okGo_at hok
    have fin : ∀ {pend' : List Pd} {env' : Env} {kb' : KB}, KBok n kb' env' → St P F m n ops pre (i :: pl) env' D a h pend' T b → denD P n ops pre r pend' env' kb' h k →
        ∃ pl' rest' pend' env', okGo P ops pre rest' (heads rest') pl' = true ∧ St P F m n ops pre pl' env' D a h pend' T b ∧ Ahead P n ops pre rest' pend' env' h k := fun hK' hs' hd' => by
      rcases advance r (heads r) (i :: pl) _ _ _ hok' hK' hs' hd' with ⟨h1, h2, h3⟩ | h1
      · exact ⟨_, _, _, _, h1, h2, h3⟩
      · exact h1
    unfold denD at hd
    simp only [ho.at_] at hd
    obtain ⟨kb', hK', hcase, hw⟩ := grd_env hn hK hd
    rcases hcase with ⟨hyes, hd⟩ | ⟨hno, hd⟩
    · have hw' := fun a ha => (hw a ha).trans hyes
      split at hd
      · rename_i hp
        obtain ⟨v, hr, hd⟩ := step_pure hK' hp hd
        have hc : ∀ h', Comes1 P F m n ops i o env v h' := fun h' => comes1_run hF ho.at_ (dc_p hp) (by intro c e; rw [e] at hp; simp [dc] at hp) hw' fun ρ w _ hρ => hr ρ w hρ
        exact .inr (fin (hK'.put _ _) (hs.more hF hT hn hdist ho (fun p hp => hp) (hc h) (.inl hc)) hd)
      · rename_i hp
        obtain ⟨v, hv, hd⟩ := hd
        have hc : ∀ h', vop P n env o.op h' = some v → Comes1 P F m n ops i o env v h' := fun h' hv' => comes1_run hF ho.at_ (dc_v hp) (by intro c e; rw [e] at hp; simp [dc] at hp) hw' fun ρ w hh hρ => run_vop hρ (by rw [hh]; exact hv')
        exact .inr (fin (hK'.put _ _)
          (hs.more hF hT hn hdist ho (fun p hp => List.mem_cons_of_mem _ hp) (hc h hv) (.inr ⟨{ i, env, op := o.op, v }, List.mem_cons_self .., rfl, hc⟩)) hd)
      · rename_i hp
        exact .inl ⟨hok, hs, .inr ⟨o, kb', ho.at_, hp, hK', hw', hd⟩⟩
      · contradiction
    · have hw' := fun a ha => (hw a ha).trans hno
      have hc : ∀ h', Comes1 P F m n ops i o env undef h' := fun h' => comes1_skip hF ho.at_ hw'
      refine .inr (fin ?_ (hs.more hF hT hn hdist ho (fun p hp => hp) (hc h) (.inl hc)) hd)
      cases hdst : o.dst with
      | none => simpa [put, kbn] using hK'
      | some d =>
        simp only [kbn, put]
        intro t q hq
        rw [lkb_cons] at hq
        by_cases e : d = t
        · subst e
          rw [if_pos rfl] at hq
          simp only [Option.some.injEq] at hq
          subst hq
          exact ⟨dstOk_mem hn o (by rw [Array.mem_toList_iff]; exact Array.mem_of_getElem? ho.at_) d hdst, undef, by rw [lk_put, if_pos rfl], rfl⟩
        · rw [if_neg e] at hq
          obtain ⟨h1, v, h2, h3⟩ := hK' t q hq
          exact ⟨h1, v, by rw [lk_put, if_neg e]; exact h2, h3⟩

end
end Go.En
