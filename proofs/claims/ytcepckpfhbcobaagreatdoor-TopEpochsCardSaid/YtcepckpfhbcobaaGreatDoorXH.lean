/-
  Tasks. (Steps printed by wip/tools/walk.py from EqI.src.)
  Worlds. (Steps printed by wip/tools/walk.py from EqJ.src.)
  Worlds made; a thread alone. (Steps printed by wip/tools/walk.py from EqK.src.)
-/
import Derived.Test.YtcepckpfhbcobaaGreatDoorXG
namespace Go.En

variable {S : Sys} {I : Ids} {h h0 h' : Hp} {F F0 : Fp} {R : Value → Hp → Prop} {L : List Res} {B B' : Bs}
/-- the continuation of a task -/
def nxV : Bool → TypeId → Value → Value
  | true, _, _ => .nilFunc
  | false, t, v => .func (.method "Next") #[.iface t v] #[]
structure Tk where
  t : TypeId
  v : Value
  dn : Bool
  act : Ac
  s : SH
abbrev cAc (x : Ac) : List Value := [.int .i64 x.op, .int .i64 x.at', .int .i64 x.old.v, .int .u32 x.old.ver, .int .u32 x.old.ref, .int .i64 x.new.v, .int .u32 x.new.ver, .int .u32 x.new.ref]
def cTk (x : Tk) : List Value := [.iface x.t x.v, nxV x.dn x.t x.v, .int .i64 x.act.op, .int .i64 x.act.at', .int .i64 x.act.old.v, .int .u32 x.act.old.ver, .int .u32 x.act.old.ref, .int .i64 x.act.new.v, .int .u32 x.act.new.ver, .int .u32 x.act.new.ref, shV x.s]
theorem nxV_one (d : Bool) (t : TypeId) (v : Value) : (nxV d t v).oneCell' = true := by cases d <;> rfl
theorem cTk_one (a : Tk) (v : Value) (h : v ∈ cTk a) : v.oneCell' = true := by
  unfold cTk at h
  simp only [List.mem_cons, List.not_mem_nil, or_false] at h
  rcases h with rfl | rfl | rfl | rfl | rfl | rfl | rfl | rfl | rfl | rfl | rfl
  all_goals first | rfl | exact nxV_one _ _ _
def ETk : Enc Tk := { n := 11, c := cTk, len := fun _ => rfl, one := cTk_one }
def vTk (x : Tk) : Value := .agg ⟨cTk x⟩
def vTk0 : Value := .agg #[.nilIface, .nilFunc, .int .i64 0, .int .i64 0, .int .i64 0, .int .u32 0, .int .u32 0, .int .i64 0, .int .u32 0, .int .u32 0, .slice none 0 0]
def EGo : Enc Go4 := { n := 4, c := fun x => [.int .i64 x.w.v, .int .u32 x.w.ver, .int .u32 x.w.ref, .bool x.ok], len := fun _ => rfl, one := fun a v h => by simp only [List.mem_cons, List.not_mem_nil, or_false] at h; rcases h with rfl | rfl | rfl | rfl <;> rfl }
section
variable {t t' : TypeId} {v v' : Value} {d : Bool} {a a' : Ac} {s : SH} {x : Tk} {gs : List Go4} {g : Go4}
theorem K_told0 (hR : ∀ h', Gr h h' → R (vTk ⟨t', v', d, if d then Ac0 else a', (none, 0, 0)⟩) h') : F_task_Task_told S I vTk0 (.iface t' v') (vAc a') (.bool d) h R := by
  cases d with
  | true =>
    unfold F_task_Task_told
    have c := Cx.start0 h
    refine c.nv (cs := [_, _, _, _, _, _, _, _, _, _, _]) rfl rfl fun t4_ _ c => ?_
    replace c : Cx _ _ _ [_] := c
    refine c.nv (cs := [_, _, _, _, _, _, _, _]) rfl rfl fun a6_ _ c => ?_
    replace c : Cx _ _ _ [_, _] := c
    refine c.nv (cs := [_, _, _, _, _, _, _, _, _, _, _]) rfl rfl fun v8_ _ c => ?_
    replace c : Cx _ _ _ [_, _, _] := c
    refine En.vb (c.vl (i := 1) rfl rfl) ?_
    refine En.vb (fa_add _ _ _) ?_
    refine c.vq 0 rfl (vs := [_]) (ds := [_, _, _, _, _, _, _, _, _, _, _]) (by exact rfl) (by exact rfl) (by exact rfl) (by exact rfl) (by exact rfl) fun _ c => ?_
    replace c : Cx _ _ _ [_, _, _] := c
    refine And.intro (c.vl (i := 1) rfl rfl) ?_
    refine En.vb (fa_add _ _ _) ?_
    refine c.vq 0 rfl (vs := [_, _, _, _, _, _, _, _]) (ds := [_, _, _, _, _, _, _, _, _, _, _]) (by exact rfl) (by exact rfl) (by exact rfl) (by exact rfl) (by exact rfl) fun _ c => ?_
    replace c : Cx _ _ _ [_, _, _] := c
    refine En.vb (fa_add _ _ _) ?_
    refine c.vq 0 rfl (vs := [_]) (ds := [_, _, _, _, _, _, _, _, _, _, _]) (by exact rfl) (by exact rfl) (by exact rfl) (by exact rfl) (by exact rfl) fun _ c => ?_
    replace c : Cx _ _ _ [_, _, _] := c
    refine .here ?_
    refine brt ?_
    refine brt ?_
    refine En.vb (bldS_ok (ds := [_, _, _, _, _, _, _, _]) rfl) ?_
    refine En.vb (fa_add _ _ _) ?_
    refine c.vq 0 rfl (vs := [_, _, _, _, _, _, _, _]) (ds := [_, _, _, _, _, _, _, _, _, _, _]) (by exact rfl) (by exact rfl) (by exact rfl) (by exact rfl) (by exact rfl) fun _ c => ?_
    replace c : Cx _ _ _ [_, _, _] := c
    refine En.vb (c.vl (i := 0) rfl rfl) ?_
    refine c.vw 2 rfl (vs := [_, _, _, _, _, _, _, _, _, _, _]) (by exact rfl) (by exact rfl) (by exact rfl) (by exact rfl) fun _ c => ?_
    replace c : Cx _ _ _ [_, _, _] := c
    refine En.vb (c.vl (i := 2) rfl rfl) ?_
    exact hR _ c.gr
  | false =>
    unfold F_task_Task_told
    have c := Cx.start0 h
    refine c.nv (cs := [_, _, _, _, _, _, _, _, _, _, _]) rfl rfl fun t4_ _ c => ?_
    replace c : Cx _ _ _ [_] := c
    refine c.nv (cs := [_, _, _, _, _, _, _, _]) rfl rfl fun a6_ _ c => ?_
    replace c : Cx _ _ _ [_, _] := c
    refine c.nv (cs := [_, _, _, _, _, _, _, _, _, _, _]) rfl rfl fun v8_ _ c => ?_
    replace c : Cx _ _ _ [_, _, _] := c
    refine En.vb (c.vl (i := 1) rfl rfl) ?_
    refine En.vb (fa_add _ _ _) ?_
    refine c.vq 0 rfl (vs := [_]) (ds := [_, _, _, _, _, _, _, _, _, _, _]) (by exact rfl) (by exact rfl) (by exact rfl) (by exact rfl) (by exact rfl) fun _ c => ?_
    replace c : Cx _ _ _ [_, _, _] := c
    refine And.intro (c.vl (i := 1) rfl rfl) ?_
    refine En.vb (fa_add _ _ _) ?_
    refine c.vq 0 rfl (vs := [_, _, _, _, _, _, _, _]) (ds := [_, _, _, _, _, _, _, _, _, _, _]) (by exact rfl) (by exact rfl) (by exact rfl) (by exact rfl) (by exact rfl) fun _ c => ?_
    replace c : Cx _ _ _ [_, _, _] := c
    refine En.vb (fa_add _ _ _) ?_
    refine c.vq 0 rfl (vs := [_]) (ds := [_, _, _, _, _, _, _, _, _, _, _]) (by exact rfl) (by exact rfl) (by exact rfl) (by exact rfl) (by exact rfl) fun _ c => ?_
    replace c : Cx _ _ _ [_, _, _] := c
    refine .here ?_
    refine brf ?_
    refine En.vb rfl ?_
    refine brf ?_
    refine En.vb rfl ?_
    refine En.vb rfl ?_
    refine En.vb (fa_add _ _ _) ?_
    refine c.vq 0 rfl (vs := [_]) (ds := [_, _, _, _, _, _, _, _, _, _, _]) (by exact rfl) (by exact rfl) (by exact rfl) (by exact rfl) (by exact rfl) fun _ c => ?_
    replace c : Cx _ _ _ [_, _, _] := c
    refine En.vb (c.vl (i := 0) rfl rfl) ?_
    refine c.vw 2 rfl (vs := [_, _, _, _, _, _, _, _, _, _, _]) (by exact rfl) (by exact rfl) (by exact rfl) (by exact rfl) fun _ c => ?_
    replace c : Cx _ _ _ [_, _, _] := c
    refine En.vb (c.vl (i := 2) rfl rfl) ?_
    exact hR _ c.gr
theorem K_told (hR : ∀ h', Gr h h' → R (vTk ⟨t', v', d, if d then Ac0 else a', s⟩) h') : F_task_Task_told S I (vTk ⟨t, v, false, a, s⟩) (.iface t' v') (vAc a') (.bool d) h R := by
  cases d with
  | true =>
    unfold F_task_Task_told
    have c := Cx.start0 h
    refine c.nv (cs := [_, _, _, _, _, _, _, _, _, _, _]) rfl rfl fun t4_ _ c => ?_
    replace c : Cx _ _ _ [_] := c
    refine c.nv (cs := [_, _, _, _, _, _, _, _]) rfl rfl fun a6_ _ c => ?_
    replace c : Cx _ _ _ [_, _] := c
    refine c.nv (cs := [_, _, _, _, _, _, _, _, _, _, _]) rfl rfl fun v8_ _ c => ?_
    replace c : Cx _ _ _ [_, _, _] := c
    refine En.vb (c.vl (i := 1) rfl rfl) ?_
    refine En.vb (fa_add _ _ _) ?_
    refine c.vq 0 rfl (vs := [_]) (ds := [_, _, _, _, _, _, _, _, _, _, _]) (by exact rfl) (by exact rfl) (by exact rfl) (by exact rfl) (by exact rfl) fun _ c => ?_
    replace c : Cx _ _ _ [_, _, _] := c
    refine And.intro (c.vl (i := 1) rfl rfl) ?_
    refine En.vb (fa_add _ _ _) ?_
    refine c.vq 0 rfl (vs := [_, _, _, _, _, _, _, _]) (ds := [_, _, _, _, _, _, _, _, _, _, _]) (by exact rfl) (by exact rfl) (by exact rfl) (by exact rfl) (by exact rfl) fun _ c => ?_
    replace c : Cx _ _ _ [_, _, _] := c
    refine En.vb (fa_add _ _ _) ?_
    refine c.vq 0 rfl (vs := [_]) (ds := [_, _, _, _, _, _, _, _, _, _, _]) (by exact rfl) (by exact rfl) (by exact rfl) (by exact rfl) (by exact rfl) fun _ c => ?_
    replace c : Cx _ _ _ [_, _, _] := c
    refine .here ?_
    refine brt ?_
    refine brt ?_
    refine En.vb (bldS_ok (ds := [_, _, _, _, _, _, _, _]) rfl) ?_
    refine En.vb (fa_add _ _ _) ?_
    refine c.vq 0 rfl (vs := [_, _, _, _, _, _, _, _]) (ds := [_, _, _, _, _, _, _, _, _, _, _]) (by exact rfl) (by exact rfl) (by exact rfl) (by exact rfl) (by exact rfl) fun _ c => ?_
    replace c : Cx _ _ _ [_, _, _] := c
    refine En.vb (c.vl (i := 0) rfl rfl) ?_
    refine c.vw 2 rfl (vs := [_, _, _, _, _, _, _, _, _, _, _]) (by exact rfl) (by exact rfl) (by exact rfl) (by exact rfl) fun _ c => ?_
    replace c : Cx _ _ _ [_, _, _] := c
    refine En.vb (c.vl (i := 2) rfl rfl) ?_
    exact hR _ c.gr
  | false =>
    unfold F_task_Task_told
    have c := Cx.start0 h
    refine c.nv (cs := [_, _, _, _, _, _, _, _, _, _, _]) rfl rfl fun t4_ _ c => ?_
    replace c : Cx _ _ _ [_] := c
    refine c.nv (cs := [_, _, _, _, _, _, _, _]) rfl rfl fun a6_ _ c => ?_
    replace c : Cx _ _ _ [_, _] := c
    refine c.nv (cs := [_, _, _, _, _, _, _, _, _, _, _]) rfl rfl fun v8_ _ c => ?_
    replace c : Cx _ _ _ [_, _, _] := c
    refine En.vb (c.vl (i := 1) rfl rfl) ?_
    refine En.vb (fa_add _ _ _) ?_
    refine c.vq 0 rfl (vs := [_]) (ds := [_, _, _, _, _, _, _, _, _, _, _]) (by exact rfl) (by exact rfl) (by exact rfl) (by exact rfl) (by exact rfl) fun _ c => ?_
    replace c : Cx _ _ _ [_, _, _] := c
    refine And.intro (c.vl (i := 1) rfl rfl) ?_
    refine En.vb (fa_add _ _ _) ?_
    refine c.vq 0 rfl (vs := [_, _, _, _, _, _, _, _]) (ds := [_, _, _, _, _, _, _, _, _, _, _]) (by exact rfl) (by exact rfl) (by exact rfl) (by exact rfl) (by exact rfl) fun _ c => ?_
    replace c : Cx _ _ _ [_, _, _] := c
    refine En.vb (fa_add _ _ _) ?_
    refine c.vq 0 rfl (vs := [_]) (ds := [_, _, _, _, _, _, _, _, _, _, _]) (by exact rfl) (by exact rfl) (by exact rfl) (by exact rfl) (by exact rfl) fun _ c => ?_
    replace c : Cx _ _ _ [_, _, _] := c
    refine .here ?_
    refine brf ?_
    refine En.vb rfl ?_
    refine brf ?_
    refine En.vb rfl ?_
    refine En.vb rfl ?_
    refine En.vb (fa_add _ _ _) ?_
    refine c.vq 0 rfl (vs := [_]) (ds := [_, _, _, _, _, _, _, _, _, _, _]) (by exact rfl) (by exact rfl) (by exact rfl) (by exact rfl) (by exact rfl) fun _ c => ?_
    replace c : Cx _ _ _ [_, _, _] := c
    refine En.vb (c.vl (i := 0) rfl rfl) ?_
    refine c.vw 2 rfl (vs := [_, _, _, _, _, _, _, _, _, _, _]) (by exact rfl) (by exact rfl) (by exact rfl) (by exact rfl) fun _ c => ?_
    replace c : Cx _ _ _ [_, _, _] := c
    refine En.vb (c.vl (i := 2) rfl rfl) ?_
    exact hR _ c.gr
theorem K_tDone (hR : ∀ h', Gr h h' → R (.bool x.dn) h') : F_task_Task_Done S I (vTk x) h R := by
  obtain ⟨t, v, d, a, s⟩ := x
  cases d with
  | true =>
    unfold F_task_Task_Done
    have c := Cx.start0 h
    refine c.nv (cs := [_, _, _, _, _, _, _, _, _, _, _]) rfl rfl fun t1_ _ c => ?_
    replace c : Cx _ _ _ [_] := c
    refine En.vb (fa_add _ _ _) ?_
    refine En.vb (c.vc (i := 0) rfl rfl) ?_
    refine En.vb (v := .bool true) rfl ?_
    exact hR _ c.gr
  | false =>
    unfold F_task_Task_Done
    have c := Cx.start0 h
    refine c.nv (cs := [_, _, _, _, _, _, _, _, _, _, _]) rfl rfl fun t1_ _ c => ?_
    replace c : Cx _ _ _ [_] := c
    refine En.vb (fa_add _ _ _) ?_
    refine En.vb (c.vc (i := 0) rfl rfl) ?_
    refine En.vb (v := .bool false) rfl ?_
    exact hR _ c.gr
theorem K_tCode (hR : ∀ h', Gr h h' → R (.iface x.t x.v) h') : F_task_Task_Code S I (vTk x) h R := by
  obtain ⟨t, v, d, a, s⟩ := x
  cases d with
  | true =>
    unfold F_task_Task_Code
    have c := Cx.start0 h
    refine c.nv (cs := [_, _, _, _, _, _, _, _, _, _, _]) rfl rfl fun t1_ _ c => ?_
    replace c : Cx _ _ _ [_] := c
    refine En.vb (fa_add _ _ _) ?_
    refine En.vb (c.vc (i := 0) rfl rfl) ?_
    exact hR _ c.gr
  | false =>
    unfold F_task_Task_Code
    have c := Cx.start0 h
    refine c.nv (cs := [_, _, _, _, _, _, _, _, _, _, _]) rfl rfl fun t1_ _ c => ?_
    replace c : Cx _ _ _ [_] := c
    refine En.vb (fa_add _ _ _) ?_
    refine En.vb (c.vc (i := 0) rfl rfl) ?_
    exact hR _ c.gr
theorem K_tSteps (b0 : B.p h) (hs : On B fun h => Sl EGo h (shV x.s) gs) (hR : ∀ h', Gr h h' → R (.int .i64 gs.length) h') : F_task_Task_Steps S I (vTk x) h R := by
  obtain ⟨t, v, d, a, s⟩ := x
  cases d with
  | true =>
    unfold F_task_Task_Steps
    have c := Cx.start0 h
    refine c.nv (cs := [_, _, _, _, _, _, _, _, _, _, _]) rfl rfl fun t1_ _ c => ?_
    replace c : Cx _ _ _ [_] := c
    refine En.vb (fa_add _ _ _) ?_
    refine En.vb (c.vc (i := 0) rfl rfl) ?_
    refine En.vb (hs h b0).ln ?_
    exact hR _ c.gr
  | false =>
    unfold F_task_Task_Steps
    have c := Cx.start0 h
    refine c.nv (cs := [_, _, _, _, _, _, _, _, _, _, _]) rfl rfl fun t1_ _ c => ?_
    replace c : Cx _ _ _ [_] := c
    refine En.vb (fa_add _ _ _) ?_
    refine En.vb (c.vc (i := 0) rfl rfl) ?_
    refine En.vb (hs h b0).ln ?_
    exact hR _ c.gr
theorem K_clipG {v u : Value} {us : List Go4} (hs : Sl EGo h v us) (e : slc 4 v none (some (.int .i64 us.length)) (some (.int .i64 us.length)) = some u) (hR : R u h) : F_slices_Clip_api_Got_api_Got S I v h R := by
  unfold F_slices_Clip_api_Got_api_Got
  exact clip_ok hs e hR
theorem K_cloneT {v : Value} {us : List Tk} (hs : Sl ETk h v us) (hl : us.length ≤ 1000000) (hR : ∀ u h', Cx (fun _ => False) h h' [rSl ETk (shV u) us] → R (shV u) h') : F_slices_Clone_task_Task_task_Task S I v h R := by
  unfold F_slices_Clone_task_Task_task_Task
  exact clone_ok hs rfl rfl (by omega) (by omega) hR
structure CpA (S : Sys) (I : Ids) : Prop extends CoB S I where
  told0 : ∀ {t' : TypeId} {v' : Value} {d : Bool} {a' : Ac} {h} {R : Value → Hp → Prop}, (∀ h', Gr h h' → R (vTk ⟨t', v', d, if d then Ac0 else a', (none, 0, 0)⟩) h') → S.C I.f_task_Task_told [vTk0, .iface t' v', vAc a', .bool d] h R
  told : ∀ {t t' : TypeId} {v v' : Value} {d : Bool} {a a' : Ac} {s : SH} {h} {R : Value → Hp → Prop}, (∀ h', Gr h h' → R (vTk ⟨t', v', d, if d then Ac0 else a', s⟩) h') → S.C I.f_task_Task_told [vTk ⟨t, v, false, a, s⟩, .iface t' v', vAc a', .bool d] h R
  tDone : ∀ {x : Tk} {h} {R : Value → Hp → Prop}, (∀ h', Gr h h' → R (.bool x.dn) h') → S.C I.f_task_Task_Done [vTk x] h R
  tCode : ∀ {x : Tk} {h} {R : Value → Hp → Prop}, (∀ h', Gr h h' → R (.iface x.t x.v) h') → S.C I.f_task_Task_Code [vTk x] h R
  tSteps : ∀ {B : Bs} {x : Tk} {gs : List Go4} {h R}, B.p h → (On B fun h => Sl EGo h (shV x.s) gs) → (∀ h', Gr h h' → R (.int .i64 gs.length) h') → S.C I.f_task_Task_Steps [vTk x] h R
  clipG : ∀ {v u : Value} {us : List Go4} {h} {R : Value → Hp → Prop}, Sl EGo h v us → slc 4 v none (some (.int .i64 us.length)) (some (.int .i64 us.length)) = some u → R u h → S.C I.f_slices_Clip_api_Got_api_Got [v] h R
  cloneT : ∀ {v : Value} {us : List Tk} {h R}, Sl ETk h v us → us.length ≤ 1000000 → (∀ u h', Cx (fun _ => False) h h' [rSl ETk (shV u) us] → R (shV u) h') → S.C I.f_slices_Clone_task_Task_task_Task [v] h R
theorem K_tAct (cs : CpA S I) (hR : ∀ h', Gr h h' → R (.tuple #[vAc x.act, .bool !x.dn]) h') : F_task_Task_Act S I (vTk x) h R := by
  obtain ⟨t, v, d, a, s⟩ := x
  cases d with
  | true =>
    unfold F_task_Task_Act
    have c := Cx.start0 h
    refine c.nv (cs := [_, _, _, _, _, _, _, _, _, _, _]) rfl rfl fun t1_ _ c => ?_
    replace c : Cx _ _ _ [_] := c
    refine c.nv (cs := [_, _, _, _, _, _, _, _]) rfl rfl fun v2_ _ c => ?_
    replace c : Cx _ _ _ [_, _] := c
    refine En.vb (fa_add _ _ _) ?_
    refine En.vb (c.vp (i := 0) (ds := [_, _, _, _, _, _, _, _]) rfl rfl rfl) ?_
    refine En.vb (c.vl (i := 0) rfl rfl) ?_
    refine cs.tDone (x := ⟨t, v, true, a, s⟩) fun _ g => ?_
    have c := c.more g
    replace c : Cx _ _ _ [_, _] := c
    refine And.intro (c.vp (i := 0) (ds := [_, _, _, _, _, _, _, _]) rfl rfl rfl) ?_
    refine En.vb rfl ?_
    refine c.vw 1 rfl (vs := [_, _, _, _, _, _, _, _]) (by exact rfl) (by exact rfl) (by exact rfl) (by exact rfl) fun _ c => ?_
    replace c : Cx _ _ _ [_, _] := c
    refine En.vb (c.vl (i := 1) rfl rfl) ?_
    exact hR _ c.gr
  | false =>
    unfold F_task_Task_Act
    have c := Cx.start0 h
    refine c.nv (cs := [_, _, _, _, _, _, _, _, _, _, _]) rfl rfl fun t1_ _ c => ?_
    replace c : Cx _ _ _ [_] := c
    refine c.nv (cs := [_, _, _, _, _, _, _, _]) rfl rfl fun v2_ _ c => ?_
    replace c : Cx _ _ _ [_, _] := c
    refine En.vb (fa_add _ _ _) ?_
    refine En.vb (c.vp (i := 0) (ds := [_, _, _, _, _, _, _, _]) rfl rfl rfl) ?_
    refine En.vb (c.vl (i := 0) rfl rfl) ?_
    refine cs.tDone (x := ⟨t, v, false, a, s⟩) fun _ g => ?_
    have c := c.more g
    replace c : Cx _ _ _ [_, _] := c
    refine And.intro (c.vp (i := 0) (ds := [_, _, _, _, _, _, _, _]) rfl rfl rfl) ?_
    refine En.vb rfl ?_
    refine c.vw 1 rfl (vs := [_, _, _, _, _, _, _, _]) (by exact rfl) (by exact rfl) (by exact rfl) (by exact rfl) fun _ c => ?_
    replace c : Cx _ _ _ [_, _] := c
    refine En.vb (c.vl (i := 1) rfl rfl) ?_
    exact hR _ c.gr
/-- a code's next step -/
def Nxt (S : Sys) (B : Bs) (f : Nat) (t : TypeId) (v : Value) (g : Go4) (Q : Bs → Value → Ac → Bool → Prop) : Prop :=
  ∀ h (R : Value → Hp → Prop), B.p h → (∀ v' a' d, Rt B h (fun B => Q B v' a' d) fun h' => R (.tuple #[.iface t v', vAc a', .bool d]) h') → S.C f [v, vGo g] h R
variable {f : Nat} {Q : Bs → Value → Ac → Bool → Prop}
theorem K_tStart (cs : CpA S I) (b0 : B.p h) (hf : I.mt t "Next" = some f) (hN : Nxt S B f t v Go0 Q) (hR : ∀ v' a' d, Rt B h (fun B => Q B v' a' d) fun h' => R (vTk ⟨t, v', d, if d then Ac0 else a', (none, 0, 0)⟩) h') : F_task_Start S I (.iface t v) h R := by
  have fin : ∀ v' a' d M h', Cx (fun _ => False) h h' [rStar M] → Q (B.and M) v' a' d → R (vTk ⟨t, v', d, if d then Ac0 else a', (none, 0, 0)⟩) h' := fun v' a' d M h' c q => hR v' a' d M h' c q
  unfold F_task_Start
  have c := Cx.start0 h
  refine c.nv (cs := [_, _, _, _, _, _, _, _, _, _, _]) rfl rfl fun v2_ _ c => ?_
  replace c : Cx _ _ _ [_] := c
  refine En.vb (v := .bool false) (rfl) ?_
  refine brf ?_
  refine En.vb (bldS_ok (ds := [_, _, _, _, _, _, _, _, _, _, _]) rfl) ?_
  refine En.vb (bldS_ok (ds := [_, _, _, _]) rfl) ?_
  refine ⟨_, _, _, rfl, hf, hN _ _ (B.up b0 c.gr) fun v' a' d M _ dd ok => ?_⟩
  have c := c.frame0 dd
  replace c : Cx _ _ _ [_, _] := c
  refine En.vb rfl ?_
  refine En.vb rfl ?_
  refine En.vb rfl ?_
  refine cs.told0 fun _ g => ?_
  have c := c.more g
  replace c : Cx _ _ _ [_, _] := c
  have hcs : (vTk ⟨t, v', d, if d then Ac0 else a', (none, 0, 0)⟩).cells.toList = cTk ⟨t, v', d, if d then Ac0 else a', (none, 0, 0)⟩ := rfl
  refine c.vw 0 rfl (vs := cTk ⟨t, v', d, if d then Ac0 else a', (none, 0, 0)⟩) hcs (List.all_eq_true.2 fun x hx => ETk.one ⟨t, v', d, if d then Ac0 else a', (none, 0, 0)⟩ x hx) rfl rfl fun _ c => ?_
  replace c : Cx _ _ _ [_, _] := c
  refine En.vb (c.vl (i := 0) rfl rfl) ?_
  exact fin v' a' d M _ (c.pick [1]) ok
theorem K_tGive (cs : CpA S I) (b0 : B.p h) (hf : I.mt t "Next" = some f) (hs : On B fun h => Sl EGo h (shV s) gs) (hl : gs.length ≤ 1000000) (hN : Nxt S B f t v g Q) (hQ : ∀ {B B' : Bs}, B.le B' → ∀ {v a d}, Q B v a d → Q B' v a d)
    (hR : ∀ v' a' d s', Rt B h (fun B => Q B v' a' d ∧ On B fun h => Sl EGo h (shV s') (gs ++ [g])) fun h' => R (vTk ⟨t, v', d, if d then Ac0 else a', s'⟩) h') : F_task_Task_Give S I (vTk ⟨t, v, false, a, s⟩) (vGo g) h R := by
  obtain ⟨ac, ec, Hc⟩ := (hs h b0).clipped (n := 4) rfl
  have fin : ∀ v' a' d s' M h', Cx (fun _ => False) h h' [rStar M, rSl EGo (shV s') (gs ++ [g])] → Q (B.and M) v' a' d → R (vTk ⟨t, v', d, if d then Ac0 else a', s'⟩) h' := fun v' a' d s' M h' c q => hR v' a' d s' [rStar M, rSl EGo (shV s') (gs ++ [g])] h' (Cx.pack (L := []) c) ⟨hQ (Bs.le_at (i := 0) rfl) q, On.sl (i := 1) rfl⟩
  unfold F_task_Task_Give
  have c := Cx.start0 h
  refine c.nv (cs := [_, _, _, _, _, _, _, _, _, _, _]) rfl rfl fun t2_ _ c => ?_
  replace c : Cx _ _ _ [_] := c
  refine c.nv (cs := [_, _, _, _]) rfl rfl fun g3_ _ c => ?_
  replace c : Cx _ _ _ [_, _] := c
  refine c.nv (cs := [_, _, _, _, _, _, _, _, _, _, _]) rfl rfl fun v4_ _ c => ?_
  replace c : Cx _ _ _ [_, _, _] := c
  refine En.vb (c.vl (i := 0) rfl rfl) ?_
  refine cs.tDone fun _ gr => ?_
  have c := c.more gr
  replace c : Cx _ _ _ [_, _, _] := c
  refine brf ?_
  refine En.vb (fa_add _ _ _) ?_
  refine En.vb (c.vc (i := 0) rfl rfl) ?_
  refine .here ?_
  refine En.vb (fa_add _ _ _) ?_
  refine En.vb (c.vc (i := 0) rfl rfl) ?_
  refine En.vb (c.vl (i := 1) rfl rfl) ?_
  refine And.intro ?_ ?_
  · refine cs.clipG (hs _ (B.up b0 c.gr)) ec ?_
    refine And.intro (c.vl (i := 1) rfl rfl) ?_
    refine c.bsl1 EGo g rfl rfl fun v15 _ c => ?_
    replace c : Cx _ _ _ [_, _, _, _] := c
    refine c.apc (Hc.gr c.gr) (c.sl (i := 3) rfl).sl (by simp) rfl rfl (by rw [List.length_singleton]; omega) (by rw [List.length_singleton]; omega) fun v16 _ c => ?_
    obtain ⟨s', rfl⟩ := (c.sl (i := 4) rfl).isH
    replace c : Cx _ _ _ [_, _, _, _, _] := c
    refine En.vb (fa_add _ _ _) ?_
    refine c.vq 0 rfl (vs := [_]) (ds := [_, _, _, _, _, _, _, _, _, _, _]) (by exact rfl) (by exact rfl) (by exact rfl) (by exact rfl) (by exact rfl) fun _ c => ?_
    replace c : Cx _ _ _ [_, _, _, _, _] := c
    refine En.vb (c.vl (i := 0) rfl rfl) ?_
    refine En.vb (c.vl (i := 1) rfl rfl) ?_
    refine .inr ⟨_, _, rfl, _, _, _, rfl, hf, hN _ _ (B.up b0 c.gr) fun v' a' d M _ dd ok => ?_⟩
    have c := c.frame0 dd
    replace c : Cx _ _ _ [_, _, _, _, _, _] := c
    refine And.intro (c.vl (i := 0) rfl rfl) ?_
    refine En.vb rfl ?_
    refine En.vb rfl ?_
    refine En.vb rfl ?_
    refine cs.told (t := t) (v := v) (a := a) (s := s') fun _ gr => ?_
    have c := c.more gr
    replace c : Cx _ _ _ [_, _, _, _, _, _] := c
    refine c.vw 2 rfl (vs := cTk ⟨t, v', d, if d then Ac0 else a', s'⟩) rfl (List.all_eq_true.2 fun x hx => ETk.one ⟨t, v', d, if d then Ac0 else a', s'⟩ x hx) rfl rfl fun _ c => ?_
    replace c : Cx _ _ _ [_, _, _, _, _, _] := c
    refine En.vb (c.vl (i := 2) rfl rfl) ?_
    exact fin v' a' d s' M _ (c.pick [5, 4]) ok
  · refine c.bsl1 EGo g rfl rfl fun v15 _ c => ?_
    replace c : Cx _ _ _ [_, _, _, _] := c
    refine And.intro (c.vc (i := 0) rfl rfl) ?_
    refine cs.clipG (hs _ (B.up b0 c.gr)) ec ?_
    refine c.apc (Hc.gr c.gr) (c.sl (i := 3) rfl).sl (by simp) rfl rfl (by rw [List.length_singleton]; omega) (by rw [List.length_singleton]; omega) fun v16 _ c => ?_
    obtain ⟨s', rfl⟩ := (c.sl (i := 4) rfl).isH
    replace c : Cx _ _ _ [_, _, _, _, _] := c
    refine En.vb (fa_add _ _ _) ?_
    refine c.vq 0 rfl (vs := [_]) (ds := [_, _, _, _, _, _, _, _, _, _, _]) (by exact rfl) (by exact rfl) (by exact rfl) (by exact rfl) (by exact rfl) fun _ c => ?_
    replace c : Cx _ _ _ [_, _, _, _, _] := c
    refine En.vb (c.vl (i := 0) rfl rfl) ?_
    refine En.vb (c.vl (i := 1) rfl rfl) ?_
    refine .inr ⟨_, _, rfl, _, _, _, rfl, hf, hN _ _ (B.up b0 c.gr) fun v' a' d M _ dd ok => ?_⟩
    have c := c.frame0 dd
    replace c : Cx _ _ _ [_, _, _, _, _, _] := c
    refine And.intro (c.vl (i := 0) rfl rfl) ?_
    refine En.vb rfl ?_
    refine En.vb rfl ?_
    refine En.vb rfl ?_
    refine cs.told (t := t) (v := v) (a := a) (s := s') fun _ gr => ?_
    have c := c.more gr
    replace c : Cx _ _ _ [_, _, _, _, _, _] := c
    refine c.vw 2 rfl (vs := cTk ⟨t, v', d, if d then Ac0 else a', s'⟩) rfl (List.all_eq_true.2 fun x hx => ETk.one ⟨t, v', d, if d then Ac0 else a', s'⟩ x hx) rfl rfl fun _ c => ?_
    replace c : Cx _ _ _ [_, _, _, _, _, _] := c
    refine En.vb (c.vl (i := 2) rfl rfl) ?_
    exact fin v' a' d s' M _ (c.pick [5, 4]) ok
end
end Go.En
namespace Go.En

variable {S : Sys} {I : Ids} {h h0 h' : Hp} {F F0 : Fp} {R : Value → Hp → Prop} {L : List Res} {B B' : Bs}
structure WV where
  m : MV
  ts : SH
  st : SH
abbrev cWd (w : WV) : List Value := [shV w.m.x.1, shV w.m.x.2, shV w.m.y.f, shV w.m.y.l, .map w.m.y.a, shV w.m.s, .int .i64 w.m.cr, shV w.ts, shV w.st]
def vWd (w : WV) : Value := .agg #[shV w.m.x.1, shV w.m.x.2, shV w.m.y.f, shV w.m.y.l, .map w.m.y.a, shV w.m.s, .int .i64 w.m.cr, shV w.ts, shV w.st]
structure WO (B : Bs) (T : Nat) (w : WV) (mc : Mc) (tks : List Tk) (gss : List (List Go4)) : Prop where
  ko : KO B T w.m mc
  ts : On B fun h => Sl ETk h (shV w.ts) tks
  st : On B fun h => Sl EB1 h (shV w.st) (List.replicate tks.length false)
  gl : gss.length = tks.length
  gs : ∀ (i : Nat) (tk : Tk) (gs : List Go4), tks[i]? = some tk → gss[i]? = some gs → On B fun h => Sl EGo h (shV tk.s) gs
theorem WO.le {T : Nat} {w : WV} {mc : Mc} {tks : List Tk} {gss : List (List Go4)} (H : WO B T w mc tks gss) (l : B.le B') : WO B' T w mc tks gss :=
  ⟨H.ko.le l, H.ts.le l, H.st.le l, H.gl, fun i tk gs h1 h2 => (H.gs i tk gs h1 h2).le l⟩
def vPk (k t c : Int) : Value := .agg #[.int .i64 k, .int .i64 t, .int .i64 c]
section
variable {T n b t : Nat} {w : WV} {mc : Mc} {tks : List Tk} {gss : List (List Go4)} {tk : Tk} {gs : List Go4} {z : Int}
structure CqA (S : Sys) (I : Ids) : Prop extends CpA S I where
  tAct : ∀ {x : Tk} {h} {R : Value → Hp → Prop}, (∀ h', Gr h h' → R (.tuple #[vAc x.act, .bool !x.dn]) h') → S.C I.f_task_Task_Act [vTk x] h R
  tStart : ∀ {B : Bs} {f : Nat} {t : TypeId} {v : Value} {Q : Bs → Value → Ac → Bool → Prop} {h R}, B.p h → I.mt t "Next" = some f → Nxt S B f t v Go0 Q → (∀ v' a' d, Rt B h (fun B => Q B v' a' d) fun h' => R (vTk ⟨t, v', d, if d then Ac0 else a', (none, 0, 0)⟩) h') → S.C I.f_task_Start [.iface t v] h R
  tGive : ∀ {B : Bs} {f : Nat} {t : TypeId} {v : Value} {a : Ac} {s : SH} {gs : List Go4} {g : Go4} {Q : Bs → Value → Ac → Bool → Prop} {h R}, B.p h → I.mt t "Next" = some f → (On B fun h => Sl EGo h (shV s) gs) → gs.length ≤ 1000000 → Nxt S B f t v g Q → (∀ {B B' : Bs}, B.le B' → ∀ {v a d}, Q B v a d → Q B' v a d) →
    (∀ v' a' d s', Rt B h (fun B => Q B v' a' d ∧ On B fun h => Sl EGo h (shV s') (gs ++ [g])) fun h' => R (vTk ⟨t, v', d, if d then Ac0 else a', s'⟩) h') → S.C I.f_task_Task_Give [vTk ⟨t, v, false, a, s⟩, vGo g] h R
  kDo : ∀ {B : Bs} {T n b t : Nat} {v : MV} {m : Mc} {a : Ak} {ch : Value} {h R}, B.p h → KO B T v m → Kk T n b m → b ≤ 900000 → (1 ≤ t ∧ t ≤ T) → a.ok n → (∀ v', Rt B h (fun B => KO B T v' (m.act t a).1) fun h' => R (.tuple #[vMc v', vGo (m.act t a).2, .int .i64 0]) h') →
    S.C I.f_machine_Machine_Do [vMc v, .int .i64 t, vAc a.ac, ch] h R
theorem K_dead (cs : CqA S I) (b0 : B.p h) (H : WO B T w mc tks gss) (k : Kk T n b mc) (hT : 1 ≤ T) (hR : ∀ h', Gr h h' → R (.bool false) h') : F_task_World_dead S I (vWd w) h R := by
  unfold F_task_World_dead
  have c := Cx.start0 h
  refine c.nv (cs := [_, _, _, _, _, _, _, _, _]) rfl rfl fun w1_ _ c => ?_
  replace c : Cx _ _ _ [_] := c
  refine En.vb (fa_add _ _ _) ?_
  refine En.vb (c.vp (i := 0) (ds := [_, _, _, _, _, _, _]) rfl rfl rfl) ?_
  refine cs.kSize (v := w.m) (B.up b0 c.gr) H.ko k fun _ g => ?_
  have c := c.more g
  replace c : Cx _ _ _ [_] := c
  refine En.vb rfl ?_
  refine En.vb rfl ?_
  refine En.vb (k_eqF (by omega)) ?_
  exact hR _ c.gr
theorem K_stopped (b0 : B.p h) (H : WO B T w mc tks gss) {i : Nat} (hi : i < tks.length) (hR : ∀ h', Gr h h' → R (.bool false) h') : F_task_World_stopped S I (vWd w) (.int .i64 i) h R := by
  have hx : (List.replicate tks.length false)[i]? = some false := by rw [List.getElem?_replicate, if_pos hi]
  unfold F_task_World_stopped
  have c := Cx.start0 h
  refine c.nv (cs := [_, _, _, _, _, _, _, _, _]) rfl rfl fun w2_ _ c => ?_
  replace c : Cx _ _ _ [_] := c
  refine .here ?_
  refine En.vb (fa_add _ _ _) ?_
  refine En.vb (c.vc (i := 0) rfl rfl) ?_
  refine En.vb (H.st h b0).ln ?_
  refine En.vb (k_ltT ((by rw [List.length_replicate]; omega))) ?_
  refine brt ?_
  refine En.vb (fa_add _ _ _) ?_
  refine En.vb (c.vc (i := 0) rfl rfl) ?_
  refine (H.st _ (B.up b0 c.gr)).one rfl hx rfl (u := .bool false) rfl ?_
  exact hR _ c.gr
structure CqB (S : Sys) (I : Ids) : Prop extends CqA S I where
  dead : ∀ {B : Bs} {T n b : Nat} {w : WV} {mc : Mc} {tks : List Tk} {gss : List (List Go4)} {h R}, B.p h → WO B T w mc tks gss → Kk T n b mc → 1 ≤ T → (∀ h', Gr h h' → R (.bool false) h') → S.C I.f_task_World_dead [vWd w] h R
  stopped : ∀ {B : Bs} {T : Nat} {w : WV} {mc : Mc} {tks : List Tk} {gss : List (List Go4)} {i : Nat} {h R}, B.p h → WO B T w mc tks gss → i < tks.length → (∀ h', Gr h h' → R (.bool false) h') → S.C I.f_task_World_stopped [vWd w, .int .i64 i] h R
theorem K_takes (cs : CqB S I) (b0 : B.p h) (H : WO B T w mc tks gss) (hl : tks.length ≤ 8) (ht : 1 ≤ t) (hx : tks[t - 1]? = some tk) (hR : ∀ h', Gr h h' → R (.bool !tk.dn) h') : F_task_World_takes S I (vWd w) (.int .i64 t) h R := by
  have hlt := (List.getElem?_eq_some_iff.1 hx).1
  have et : ((t : Nat) : Int) - 1 = ((t - 1 : Nat) : Int) := by omega
  unfold F_task_World_takes
  have c := Cx.start0 h
  refine c.nv (cs := [_, _, _, _, _, _, _, _, _]) rfl rfl fun w2_ _ c => ?_
  replace c : Cx _ _ _ [_] := c
  refine .here ?_
  refine En.vb (k_geT (by omega)) ?_
  refine brt ?_
  refine En.vb (fa_add _ _ _) ?_
  refine En.vb (c.vc (i := 0) rfl rfl) ?_
  refine En.vb (H.ts h b0).ln ?_
  refine En.vb (k_leT (by omega)) ?_
  refine brt ?_
  refine En.vb (c.vl (i := 0) rfl rfl) ?_
  refine En.vb (subI ⟨by omega, by omega⟩) ?_
  rw [et]
  refine cs.stopped (w := w) (B.up b0 c.gr) H hlt fun _ g => ?_
  have c := c.more g
  replace c : Cx _ _ _ [_] := c
  refine En.vb (v := .bool true) (rfl) ?_
  refine brt ?_
  refine En.vb (fa_add _ _ _) ?_
  refine En.vb (c.vc (i := 0) rfl rfl) ?_
  refine En.vb (subI ⟨by omega, by omega⟩) ?_
  rw [et]
  refine (H.ts _ (B.up b0 c.gr)).whole rfl hx rfl ?_
  refine cs.tDone (x := tk) fun _ g => ?_
  have c := c.more g
  replace c : Cx _ _ _ [_] := c
  refine En.vb rfl ?_
  exact hR _ c.gr
theorem K_takesNo (b0 : B.p h) (H : WO B T w mc tks gss) (hz : ¬ (1 ≤ z ∧ z ≤ tks.length)) (hR : ∀ h', Gr h h' → R (.bool false) h') : F_task_World_takes S I (vWd w) (.int .i64 z) h R := by
  by_cases h1 : 1 ≤ z
  · unfold F_task_World_takes
    have c := Cx.start0 h
    refine c.nv (cs := [_, _, _, _, _, _, _, _, _]) rfl rfl fun w2_ _ c => ?_
    replace c : Cx _ _ _ [_] := c
    refine .here ?_
    refine En.vb (k_geT h1) ?_
    refine brt ?_
    refine En.vb (fa_add _ _ _) ?_
    refine En.vb (c.vc (i := 0) rfl rfl) ?_
    refine En.vb (H.ts h b0).ln ?_
    refine En.vb (k_leF (by omega)) ?_
    refine brf ?_
    exact hR _ c.gr
  · unfold F_task_World_takes
    have c := Cx.start0 h
    refine c.nv (cs := [_, _, _, _, _, _, _, _, _]) rfl rfl fun w2_ _ c => ?_
    replace c : Cx _ _ _ [_] := c
    refine .here ?_
    refine En.vb (k_geF h1) ?_
    refine brf ?_
    exact hR _ c.gr
/-- a step -/
theorem K_wstep (cs : CqB S I) (b0 : B.p h) (H : WO B T w mc tks gss) (k : Kk T n b mc) (hb : b ≤ 900000) (hl : tks.length ≤ T) (ht : 1 ≤ t) (hx : tks[t - 1]? = some tk) (hg : gss[t - 1]? = some gs) (hgl : gs.length ≤ 900000) (hd : tk.dn = false) {a : Ak} (ha : tk.act = a.ac) (hok : a.ok n)
    {f : Nat} (hf : I.mt tk.t "Next" = some f) {Q : Bs → Value → Ac → Bool → Prop} (hQ : ∀ {B B' : Bs}, B.le B' → ∀ {v a d}, Q B v a d → Q B' v a d) (hN : ∀ B', B.le B' → Nxt S B' f tk.t tk.v (mc.act t a).2 Q) {ch : Value}
    (hR : ∀ w', Rt B h (fun B => ∃ v' a' d s', Q B v' a' d ∧ WO B T w' (mc.act t a).1 (tks.set (t - 1) ⟨tk.t, v', d, if d then Ac0 else a', s'⟩) (gss.set (t - 1) (gs ++ [(mc.act t a).2]))) fun h' => R (vWd w') h') : F_task_World_step S I (vWd w) (.int .i64 t) ch h R := by
  have hlt := (List.getElem?_eq_some_iff.1 hx).1
  have hT := k.me.le.1
  have et : ((t : Nat) : Int) - 1 = ((t - 1 : Nat) : Int) := by omega
  obtain ⟨tt, tv, td, ta, ts⟩ := tk
  dsimp only at hd ha hf hN hR
  subst hd ha
  unfold F_task_World_step
  have c := Cx.start0 h
  refine c.nv (cs := [_, _, _, _, _, _, _, _, _]) rfl rfl fun w3_ _ c => ?_
  replace c : Cx _ _ _ [_] := c
  refine c.nv (cs := [_, _, _, _, _, _, _, _, _]) rfl rfl fun v6_ _ c => ?_
  replace c : Cx _ _ _ [_, _] := c
  refine En.vb (fa_add _ _ _) ?_
  refine En.vb (c.vc (i := 0) rfl rfl) ?_
  refine En.vb (subI ⟨by omega, by omega⟩) ?_
  rw [et]
  refine (H.ts _ (B.up b0 c.gr)).whole rfl hx rfl ?_
  refine cs.tAct (x := ⟨tt, tv, false, a.ac, ts⟩) fun _ g => ?_
  have c := c.more g
  replace c : Cx _ _ _ [_, _] := c
  refine En.vb rfl ?_
  refine En.vb rfl ?_
  refine c.nv (cs := [_, _, _, _, _, _, _, _]) rfl rfl fun a7_ _ c => ?_
  replace c : Cx _ _ _ [_, _, _] := c
  refine c.vw 2 rfl (vs := [_, _, _, _, _, _, _, _]) (by exact rfl) (by exact rfl) (by exact rfl) (by exact rfl) fun _ c => ?_
  replace c : Cx _ _ _ [_, _, _] := c
  refine En.vb (fa_add _ _ _) ?_
  refine En.vb (c.vp (i := 0) (ds := [_, _, _, _, _, _, _]) rfl rfl rfl) ?_
  refine En.vb (c.vl (i := 2) rfl rfl) ?_
  refine cs.kDo (v := w.m) (B.up b0 c.gr) H.ko k hb ⟨ht, by omega⟩ hok fun v1 M _ d ok => ?_
  have c := c.frame0 d
  replace c : Cx _ _ _ [_, _, _, _] := c
  refine En.vb rfl ?_
  refine En.vb rfl ?_
  refine En.vb rfl ?_
  refine c.nv (cs := [_, _, _, _, _, _, _]) rfl rfl fun m9_ _ c => ?_
  replace c : Cx _ _ _ [_, _, _, _, _] := c
  refine c.nv (cs := [_, _, _, _]) rfl rfl fun g10_ _ c => ?_
  replace c : Cx _ _ _ [_, _, _, _, _, _] := c
  refine c.vw 4 rfl (vs := [_, _, _, _, _, _, _]) (by exact rfl) (by exact rfl) (by exact rfl) (by exact rfl) fun _ c => ?_
  replace c : Cx _ _ _ [_, _, _, _, _, _] := c
  refine c.vw 5 rfl (vs := [_, _, _, _]) (by exact rfl) (by exact rfl) (by exact rfl) (by exact rfl) fun _ c => ?_
  replace c : Cx _ _ _ [_, _, _, _, _, _] := c
  refine .here ?_
  refine En.vb (v := .bool false) rfl ?_
  refine brf ?_
  refine En.vb (c.vl (i := 4) rfl rfl) ?_
  refine En.vb (fa_add _ _ _) ?_
  refine c.vq 0 rfl (vs := [_, _, _, _, _, _, _]) (ds := [_, _, _, _, _, _, _, _, _]) (by exact rfl) (by exact rfl) (by exact rfl) (by exact rfl) (by exact rfl) fun _ c => ?_
  replace c : Cx _ _ _ [_, _, _, _, _, _] := c
  refine En.vb (fa_add _ _ _) ?_
  refine En.vb (c.vc (i := 0) rfl rfl) ?_
  refine cs.cloneT (H.ts _ (B.up b0 c.gr)) (by omega) fun s' _ d => ?_
  have c := c.frame0 d
  replace c : Cx _ _ _ [_, _, _, _, _, _, _] := c
  refine En.vb (fa_add _ _ _) ?_
  refine c.vq 0 rfl (vs := [_]) (ds := [_, _, _, _, _, _, _, _, _]) (by exact rfl) (by exact rfl) (by exact rfl) (by exact rfl) (by exact rfl) fun _ c => ?_
  replace c : Cx _ _ _ [_, _, _, _, _, _, _] := c
  refine En.vb (fa_add _ _ _) ?_
  refine En.vb (c.vc (i := 0) rfl rfl) ?_
  refine En.vb (subI ⟨by omega, by omega⟩) ?_
  rw [et]
  refine En.vb (fa_add _ _ _) ?_
  refine En.vb (c.vc (i := 0) rfl rfl) ?_
  refine En.vb (subI ⟨by omega, by omega⟩) ?_
  rw [et]
  refine (c.sl (i := 6) rfl).sl.whole rfl hx rfl ?_
  refine En.vb (c.vl (i := 5) rfl rfl) ?_
  refine cs.tGive (B := B.and M) (t := tt) (v := tv) (a := a.ac) (s := ts) (g := (mc.act t a).2) ⟨B.up b0 c.gr, c.get (i := 3) rfl⟩ hf ((H.gs _ _ _ hx hg).le (Bs.le_and _ _)) (by omega) (hN _ (Bs.le_and _ _)) hQ fun v' a' d s2 N _ dd ok2 => ?_
  have c := c.frame0 dd
  replace c : Cx _ _ _ [_, _, _, _, _, _, _, _] := c
  refine And.intro (c.vc (i := 0) rfl rfl) ?_
  refine c.seti 6 rfl (j := t - 1) hlt ⟨tt, v', d, if d then Ac0 else a', s2⟩ rfl rfl rfl fun _ c => ?_
  replace c : Cx _ _ _ [_, _, _, _, _, _, _, _] := c
  refine En.vb (c.vl (i := 0) rfl rfl) ?_
  refine c.vw 1 rfl (vs := [_, _, _, _, _, _, _, _, _]) (by exact rfl) (by exact rfl) (by exact rfl) (by exact rfl) fun _ c => ?_
  replace c : Cx _ _ _ [_, _, _, _, _, _, _, _] := c
  refine En.vb (c.vl (i := 1) rfl rfl) ?_
  refine hR ⟨v1, s', w.st⟩ [rStar M, rSl ETk (shV s') (tks.set (t - 1) ⟨tt, v', d, if d then Ac0 else a', s2⟩), rStar N] _ (Cx.pack (L := []) (c.pick [3, 6, 7])) ?_
  have l1 : (B.and M).le (B.and [rStar M, rSl ETk (shV s') (tks.set (t - 1) ⟨tt, v', d, if d then Ac0 else a', s2⟩), rStar N]) := Bs.le_at (i := 0) rfl
  have l2 : ((B.and M).and N).le (B.and [rStar M, rSl ETk (shV s') (tks.set (t - 1) ⟨tt, v', d, if d then Ac0 else a', s2⟩), rStar N]) := fun h b => ⟨⟨b.1, Bs.star b (i := 0) rfl⟩, Bs.star b (i := 2) rfl⟩
  have l0 := Bs.le_and B [rStar M, rSl ETk (shV s') (tks.set (t - 1) ⟨tt, v', d, if d then Ac0 else a', s2⟩), rStar N]
  have hgl2 := H.gl
  refine ⟨v', a', d, s2, hQ l2 ok2.1, ok.le l1, On.sl (i := 1) rfl, by rw [List.length_set]; exact H.st.le l0, by rw [List.length_set, List.length_set]; exact H.gl, fun j tk' gs' h1 h2 => ?_⟩
  rw [List.getElem?_set] at h1 h2
  by_cases ej : t - 1 = j
  · rw [if_pos ej, if_pos (by omega)] at h1 h2
    injection h1 with h1; injection h2 with h2
    subst h1 h2
    exact ok2.2.le l2
  · rw [if_neg ej] at h1 h2
    exact (H.gs j tk' gs' h1 h2).le l0
structure CqC (S : Sys) (I : Ids) : Prop extends CqB S I where
  takes : ∀ {B : Bs} {T t : Nat} {w : WV} {mc : Mc} {tks : List Tk} {gss : List (List Go4)} {tk : Tk} {h R}, B.p h → WO B T w mc tks gss → tks.length ≤ 8 → 1 ≤ t → tks[t - 1]? = some tk → (∀ h', Gr h h' → R (.bool !tk.dn) h') → S.C I.f_task_World_takes [vWd w, .int .i64 t] h R
  takesNo : ∀ {B : Bs} {T : Nat} {w : WV} {mc : Mc} {tks : List Tk} {gss : List (List Go4)} {z : Int} {h R}, B.p h → WO B T w mc tks gss → ¬ (1 ≤ z ∧ z ≤ tks.length) → (∀ h', Gr h h' → R (.bool false) h') → S.C I.f_task_World_takes [vWd w, .int .i64 z] h R
  wstep : ∀ {B : Bs} {T n b t : Nat} {w : WV} {mc : Mc} {tks : List Tk} {gss : List (List Go4)} {tk : Tk} {gs : List Go4} {h R}, B.p h → WO B T w mc tks gss → Kk T n b mc → b ≤ 900000 → tks.length ≤ T → 1 ≤ t → tks[t - 1]? = some tk → gss[t - 1]? = some gs → gs.length ≤ 900000 → tk.dn = false → ∀ {a : Ak}, tk.act = a.ac → a.ok n →
    ∀ {f : Nat}, I.mt tk.t "Next" = some f → ∀ {Q : Bs → Value → Ac → Bool → Prop}, (∀ {B B' : Bs}, B.le B' → ∀ {v a d}, Q B v a d → Q B' v a d) → (∀ B', B.le B' → Nxt S B' f tk.t tk.v (mc.act t a).2 Q) → ∀ {ch : Value},
    (∀ w', Rt B h (fun B => ∃ v' a' d s', Q B v' a' d ∧ WO B T w' (mc.act t a).1 (tks.set (t - 1) ⟨tk.t, v', d, if d then Ac0 else a', s'⟩) (gss.set (t - 1) (gs ++ [(mc.act t a).2]))) fun h' => R (vWd w') h') → S.C I.f_task_World_step [vWd w, .int .i64 t, ch] h R
/-- a pick that does nothing -/
theorem K_StepNo (cs : CqC S I) (b0 : B.p h) (H : WO B T w mc tks gss) (k : Kk T n b mc) (hT : 1 ≤ T) (hl : tks.length ≤ 8) (hz : (∀ t : Nat, 1 ≤ t → z = t → ∃ tk, tks[t - 1]? = some tk ∧ tk.dn = true) ∨ ¬ (1 ≤ z ∧ z ≤ tks.length)) {ch : Int} (hR : ∀ h', Gr h h' → R (.tuple #[vWd w, .bool false]) h') : F_task_World_Step S I (vWd w) (vPk 0 z ch) h R := by
  have ht : ∀ h R, B.p h → (∀ h', Gr h h' → R (.bool false) h') → S.C I.f_task_World_takes [vWd w, .int .i64 z] h R := fun h R b0 hR => by
    by_cases hz2 : 1 ≤ z ∧ z ≤ tks.length
    · rcases hz with hz | hz
      · obtain ⟨t, rfl⟩ : ∃ t : Nat, z = t := ⟨z.toNat, by omega⟩
        obtain ⟨tk, h1, h2⟩ := hz t (by omega) rfl
        exact cs.takes b0 H hl (by omega) h1 (by rw [h2]; exact hR)
      · exact absurd hz2 hz
    · exact cs.takesNo b0 H hz2 hR
  unfold F_task_World_Step
  have c := Cx.start0 h
  refine c.nv (cs := [_, _, _, _, _, _, _, _, _]) rfl rfl fun w2_ _ c => ?_
  replace c : Cx _ _ _ [_] := c
  refine c.nv (cs := [_, _, _]) rfl rfl fun p3_ _ c => ?_
  replace c : Cx _ _ _ [_, _] := c
  refine c.nv (cs := [_, _, _, _, _, _, _, _, _]) rfl rfl fun v4_ _ c => ?_
  replace c : Cx _ _ _ [_, _, _] := c
  refine .here ?_
  refine En.vb (c.vl (i := 0) rfl rfl) ?_
  refine cs.dead (w := w) (B.up b0 c.gr) H k hT fun _ g => ?_
  have c := c.more g
  replace c : Cx _ _ _ [_, _, _] := c
  refine brf ?_
  refine En.vb (fa_add _ _ _) ?_
  refine En.vb (c.vc (i := 1) rfl rfl) ?_
  refine En.vb (v := .bool false) rfl ?_
  refine brf ?_
  refine En.vb (c.vl (i := 0) rfl rfl) ?_
  refine En.vb (fa_add _ _ _) ?_
  refine En.vb (c.vc (i := 1) rfl rfl) ?_
  refine ht _ _ (B.up b0 c.gr) fun _ g => ?_
  have c := c.more g
  replace c : Cx _ _ _ [_, _, _] := c
  refine En.vb (v := .bool true) (rfl) ?_
  refine brt ?_
  refine En.vb (c.vl (i := 0) rfl rfl) ?_
  refine c.vw 2 rfl (vs := [_, _, _, _, _, _, _, _, _]) (by exact rfl) (by exact rfl) (by exact rfl) (by exact rfl) fun _ c => ?_
  replace c : Cx _ _ _ [_, _, _] := c
  refine En.vb (c.vl (i := 2) rfl rfl) ?_
  exact hR _ c.gr
theorem K_Step (cs : CqC S I) (b0 : B.p h) (H : WO B T w mc tks gss) (k : Kk T n b mc) (hb : b ≤ 900000) (hl : tks.length ≤ T) (ht : 1 ≤ t) (hx : tks[t - 1]? = some tk) (hg : gss[t - 1]? = some gs) (hgl : gs.length ≤ 900000) (hd : tk.dn = false) {a : Ak} (ha : tk.act = a.ac) (hok : a.ok n)
    {f : Nat} (hf : I.mt tk.t "Next" = some f) {Q : Bs → Value → Ac → Bool → Prop} (hQ : ∀ {B B' : Bs}, B.le B' → ∀ {v a d}, Q B v a d → Q B' v a d) (hN : ∀ B', B.le B' → Nxt S B' f tk.t tk.v (mc.act t a).2 Q) {ch : Int}
    (hR : ∀ w', Rt B h (fun B => ∃ v' a' d s', Q B v' a' d ∧ WO B T w' (mc.act t a).1 (tks.set (t - 1) ⟨tk.t, v', d, if d then Ac0 else a', s'⟩) (gss.set (t - 1) (gs ++ [(mc.act t a).2]))) fun h' => R (.tuple #[vWd w', .bool true]) h') : F_task_World_Step S I (vWd w) (vPk 0 t ch) h R := by
  have hT := k.me.le.1
  have hlt := (List.getElem?_eq_some_iff.1 hx).1
  unfold F_task_World_Step
  have c := Cx.start0 h
  refine c.nv (cs := [_, _, _, _, _, _, _, _, _]) rfl rfl fun w2_ _ c => ?_
  replace c : Cx _ _ _ [_] := c
  refine c.nv (cs := [_, _, _]) rfl rfl fun p3_ _ c => ?_
  replace c : Cx _ _ _ [_, _] := c
  refine c.nv (cs := [_, _, _, _, _, _, _, _, _]) rfl rfl fun v4_ _ c => ?_
  replace c : Cx _ _ _ [_, _, _] := c
  refine .here ?_
  refine En.vb (c.vl (i := 0) rfl rfl) ?_
  refine cs.dead (w := w) (B.up b0 c.gr) H k (by omega) fun _ g => ?_
  have c := c.more g
  replace c : Cx _ _ _ [_, _, _] := c
  refine brf ?_
  refine En.vb (fa_add _ _ _) ?_
  refine En.vb (c.vc (i := 1) rfl rfl) ?_
  refine En.vb (v := .bool false) rfl ?_
  refine brf ?_
  refine En.vb (c.vl (i := 0) rfl rfl) ?_
  refine En.vb (fa_add _ _ _) ?_
  refine En.vb (c.vc (i := 1) rfl rfl) ?_
  refine cs.takes (B.up b0 c.gr) H (by omega) ht hx fun _ g => ?_
  rw [hd]
  have c := c.more g
  replace c : Cx _ _ _ [_, _, _] := c
  refine En.vb (v := .bool false) (rfl) ?_
  refine brf ?_
  refine En.vb (fa_add _ _ _) ?_
  refine En.vb (c.vc (i := 1) rfl rfl) ?_
  refine En.vb (v := .bool true) rfl ?_
  refine brt ?_
  refine En.vb (c.vl (i := 0) rfl rfl) ?_
  refine En.vb (fa_add _ _ _) ?_
  refine En.vb (c.vc (i := 1) rfl rfl) ?_
  refine En.vb (fa_add _ _ _) ?_
  refine En.vb (c.vc (i := 1) rfl rfl) ?_
  refine cs.wstep (B.up b0 c.gr) H k hb hl ht hx hg hgl hd ha hok hf hQ hN fun w' M _ d ok => ?_
  have c := c.frame0 d
  replace c : Cx _ _ _ [_, _, _, _] := c
  refine c.vw 2 rfl (vs := [_, _, _, _, _, _, _, _, _]) (by exact rfl) (by exact rfl) (by exact rfl) (by exact rfl) fun _ c => ?_
  replace c : Cx _ _ _ [_, _, _, _] := c
  refine En.vb (c.vl (i := 2) rfl rfl) ?_
  exact hR w' M _ (c.pick [3]) ok
end
end Go.En
namespace Go.En

variable {S : Sys} {I : Ids} {h h0 h' : Hp} {F F0 : Fp} {R : Value → Hp → Prop} {L : List Res} {B B' : Bs}
def EIf : Enc (TypeId × Value) := { n := 1, c := fun x => [.iface x.1 x.2], len := fun _ => rfl, one := fun a v h => by simp only [List.mem_singleton] at h; subst h; rfl }
section
variable {T n b t : Nat} {w : WV} {mc : Mc} {v : MV} {s : SH} {cds : List (TypeId × Value)}
/-- the tasks of codes that have begun -/
def Beg (Q : Nat → Bs → Value → Ac → Bool → Prop) (B : Bs) (cds : List (TypeId × Value)) (tks : List Tk) : Prop :=
  ∀ (j : Nat) (tk : Tk), tks[j]? = some tk → ∃ a c, cds[j]? = some c ∧ tk.t = c.1 ∧ Q j B tk.v a tk.dn ∧ tk.act = (if tk.dn then Ac0 else a) ∧ tk.s = (none, 0, 0)
theorem K_Make (cs : CqA S I) (b0 : B.p h) (H : KO B T v mc) (k : Kk T n b mc) (hs : On B fun h => Sl EIf h (shV s) cds) (hl : cds.length ≤ T) {Q : Nat → Bs → Value → Ac → Bool → Prop} (hQ : ∀ {j} {B B' : Bs}, B.le B' → ∀ {v a d}, Q j B v a d → Q j B' v a d)
    (hN : ∀ (j : Nat) (c : TypeId × Value), cds[j]? = some c → ∃ f, I.mt c.1 "Next" = some f ∧ ∀ B', B.le B' → Nxt S B' f c.1 c.2 Go0 (Q j))
    (hR : ∀ w tks, tks.length = cds.length → Rt B h (fun B => Beg Q B cds tks ∧ WO B T w mc tks (List.replicate cds.length [])) fun h' => R (.tuple #[vWd w, .int .i64 0]) h') : F_task_Make S I (vMc v) (shV s) h R := by
  have hT := k.me.le.1
  have fin : ∀ r1 r2 r3 u (a0 : SH) h', Cx (fun _ => False) h h' [rV r1 (cMc v), rV r2 [.slice none 0 0, .slice none 0 0, .slice none 0 0, .slice none 0 0, .map none, .slice none 0 0, .int .i64 0, .slice none 0 0, .slice none 0 0], rV r3 (cWd ⟨v, (none, 0, 0), u⟩), rSl EB1 (shV u) (List.replicate cds.length false)] →
    ∃ r1 r2 r3 u, at0 r3 = at0 r3 ∧ Cx (fun _ => False) h h' [rV r1 (cMc v), rV r2 [.slice none 0 0, .slice none 0 0, .slice none 0 0, .slice none 0 0, .map none, .slice none 0 0, .int .i64 0, .slice none 0 0, .slice none 0 0], rV r3 (cWd ⟨v, (none, 0, 0), u⟩), rSl EB1 (shV u) (List.replicate cds.length false)] := fun r1 r2 r3 u _ h' c => ⟨r1, r2, r3, u, rfl, c⟩
  unfold F_task_Make
  have c := Cx.start0 h
  refine c.nv (cs := [_, _, _, _, _, _, _]) rfl rfl fun m2_ _ c => ?_
  replace c : Cx _ _ _ [_] := c
  refine c.nv (cs := [_, _, _, _, _, _, _, _, _]) rfl rfl fun v4_ _ c => ?_
  replace c : Cx _ _ _ [_, _] := c
  refine En.vb (c.vl (i := 0) rfl rfl) ?_
  refine cs.kSize (v := v) (B.up b0 c.gr) H k fun _ g => ?_
  have c := c.more g
  replace c : Cx _ _ _ [_, _] := c
  refine En.vb rfl ?_
  refine En.vb rfl ?_
  refine En.vb (hs h b0).ln ?_
  refine En.vb (k_gtF (by omega)) ?_
  refine brf ?_
  refine Jn1.at (fun z h' => ∃ r3 u, z = at0 r3 ∧ Cx (fun _ => False) h h' [rV m2_ (cMc v), rV v4_ [.slice none 0 0, .slice none 0 0, .slice none 0 0, .slice none 0 0, .map none, .slice none 0 0, .int .i64 0, .slice none 0 0, .slice none 0 0], rV r3 (cWd ⟨v, (none, 0, 0), u⟩), rSl EB1 (shV u) (List.replicate cds.length false)]) ?_ ?_
  · refine En.vb (c.vl (i := 0) rfl rfl) ?_
    refine En.vb (hs h b0).ln ?_
    refine And.intro ?_ ?_
    · refine c.mksl EB1 false rfl rfl rfl (by omega) (by decide) fun ad _ c => ?_
      obtain ⟨u, hu⟩ : ∃ l : SH, shV l = .slice (some ad) cds.length cds.length := ⟨(some ad, cds.length, cds.length), rfl⟩
      rw [← hu] at c ⊢
      replace c : Cx _ _ _ [_, _, _] := c
      refine And.intro (c.vl (i := 0) rfl rfl) ?_
      refine En.vb (bldS_ok (ds := [_, _, _, _, _, _, _, _, _]) rfl) ?_
      refine c.nv (cs := [_, _, _, _, _, _, _, _, _]) rfl rfl fun w8_1_ _ c => ?_
      replace c : Cx _ _ _ [_, _, _, _] := c
      refine And.intro (c.vl (i := 0) rfl rfl) ?_
      refine c.vw 3 rfl (vs := [_, _, _, _, _, _, _, _, _]) (by exact rfl) (by exact rfl) (by exact rfl) (by exact rfl) fun _ c => ?_
      replace c : Cx _ _ _ [_, _, _, _] := c
      exact ⟨_, u, rfl, c.pick [0, 1, 3, 2]⟩
    · refine c.nv (cs := [_, _, _, _, _, _, _, _, _]) rfl rfl fun w8_2_ _ c => ?_
      replace c : Cx _ _ _ [_, _, _] := c
      refine And.intro (c.vl (i := 0) rfl rfl) ?_
      refine c.mksl EB1 false rfl rfl rfl (by omega) (by decide) fun ad _ c => ?_
      obtain ⟨u, hu⟩ : ∃ l : SH, shV l = .slice (some ad) cds.length cds.length := ⟨(some ad, cds.length, cds.length), rfl⟩
      rw [← hu] at c ⊢
      replace c : Cx _ _ _ [_, _, _, _] := c
      refine And.intro (c.vl (i := 0) rfl rfl) ?_
      refine En.vb (bldS_ok (ds := [_, _, _, _, _, _, _, _, _]) rfl) ?_
      refine c.vw 2 rfl (vs := [_, _, _, _, _, _, _, _, _]) (by exact rfl) (by exact rfl) (by exact rfl) (by exact rfl) fun _ c => ?_
      replace c : Cx _ _ _ [_, _, _, _] := c
      exact ⟨_, u, rfl, c.pick [0, 1, 2, 3]⟩
  · rintro _ h5 ⟨r3, u, rfl, c⟩
    replace c : Cx _ _ _ [_, _, _, _] := c
    refine En.vb (hs h b0).ln ?_
    refine Lp1.by (fun (i : Nat) z h' => z = .int .i64 i ∧ i ≤ cds.length ∧ ∃ p tks M, tks.length = i ∧ Cx (fun _ => False) h h' [rV m2_ (cMc v), rV v4_ [.slice none 0 0, .slice none 0 0, .slice none 0 0, .slice none 0 0, .map none, .slice none 0 0, .int .i64 0, .slice none 0 0, .slice none 0 0], rV r3 (cWd ⟨v, p, u⟩), rSl EB1 (shV u) (List.replicate cds.length false), rSl ETk (shV p) tks, rStar M] ∧ Beg Q (B.and M) cds tks) (fun i => cds.length - i) 0 ⟨rfl, Nat.zero_le _, (none, 0, 0), ([] : List Tk), ([] : List Res), rfl, Cx.pack (L := [_, _, _, _, _]) (M := []) ((c.nil ETk).pick [0, 1, 2, 3, 4]), fun j tk hj => nil_get hj⟩ ?_
    rintro i _ h8 ⟨rfl, hi, p, tks, M, hlen, c, hM⟩ again hagain
    replace c : Cx _ _ _ [_, _, _, _, _, _] := c
    refine En.vb bin_lss ?_
    refine brd (fun e29 => ?_) fun e29 => ?_
    · obtain ⟨cd, hcd⟩ : ∃ cd, cds[i]? = some cd := ⟨_, List.getElem?_eq_getElem (by omega)⟩
      obtain ⟨f, hf, hNx⟩ := hN i cd hcd
      refine (hs _ (B.up b0 c.gr)).one rfl hcd rfl (u := .iface cd.1 cd.2) rfl ?_
      refine En.vb (fa_add _ _ _) ?_
      refine En.vb (c.vc (i := 2) rfl rfl) ?_
      refine cs.tStart (B.up b0 c.gr) hf (hNx B (Bs.le_refl B)) fun v' a' d N _ dd ok => ?_
      have c := c.frame0 dd
      replace c : Cx _ _ _ [_, _, _, _, _, _, _] := c
      refine And.intro (c.vc (i := 2) rfl rfl) ?_
      refine c.bsl1 ETk ⟨cd.1, v', d, if d then Ac0 else a', (none, 0, 0)⟩ rfl rfl fun v36 _ c => ?_
      replace c : Cx _ _ _ [_, _, _, _, _, _, _, _] := c
      refine And.intro (c.vc (i := 2) rfl rfl) ?_
      refine c.ap 4 rfl (c.sl (i := 7) rfl).sl rfl rfl (by simp only [List.length_singleton]; omega) (by simp only [List.length_singleton]; omega) fun v37 _ c => ?_
      obtain ⟨p2, rfl⟩ := (c.sl (i := 4) rfl).isH
      replace c : Cx _ _ _ [_, _, _, _, _, _, _, _] := c
      refine En.vb (fa_add _ _ _) ?_
      refine c.vq 2 rfl (vs := [_]) (ds := [_, _, _, _, _, _, _, _, _]) (by exact rfl) (by exact rfl) (by exact rfl) (by exact rfl) (by exact rfl) fun _ c => ?_
      replace c : Cx _ _ _ [_, _, _, _, _, _, _, _] := c
      refine En.vb (inc (by omega)) ?_
      refine hagain (i + 1) _ _ ⟨rfl, by omega, p2, tks ++ [(⟨cd.1, v', d, if d then Ac0 else a', (none, 0, 0)⟩ : Tk)], [rStar M, rStar N], by rw [List.length_append, List.length_singleton, hlen], Cx.pack (L := [_, _, _, _, _]) (c.pick [0, 1, 2, 3, 4, 5, 6]), fun j tk hj => ?_⟩ (by omega)
      by_cases hjl : j < tks.length
      · rw [List.getElem?_append_left hjl] at hj
        obtain ⟨a, cc, h1, h2, h3, h4, h5⟩ := hM j tk hj
        exact ⟨a, cc, h1, h2, hQ (Bs.le_at (i := 0) rfl) h3, h4, h5⟩
      · rw [List.getElem?_append_right (by omega)] at hj
        have e : j - tks.length = 0 := by
          have := (List.getElem?_eq_some_iff.1 hj).1
          rw [List.length_singleton] at this
          omega
        rw [e] at hj
        simp only [List.getElem?_cons_zero, Option.some.injEq] at hj
        subst hj
        obtain rfl : j = i := by omega
        exact ⟨a', cd, hcd, rfl, hQ (Bs.le_at (i := 1) rfl) ok, rfl, rfl⟩
    · refine En.vb (c.vl (i := 2) rfl rfl) ?_
      refine c.vw 1 rfl (vs := [_, _, _, _, _, _, _, _, _]) (by exact rfl) (by exact rfl) (by exact rfl) (by exact rfl) fun _ c => ?_
      replace c : Cx _ _ _ [_, _, _, _, _, _] := c
      refine En.vb (c.vl (i := 1) rfl rfl) ?_
      have hi : i = cds.length := by omega
      subst hi
      refine hR ⟨v, p, u⟩ tks hlen [rSl ETk (shV p) tks, rSl EB1 (shV u) (List.replicate cds.length false), rStar M] _ (Cx.pack (L := []) (c.pick [4, 3, 5])) ⟨fun j tk hj => ?_, H.le (Bs.le_and _ _), On.sl (i := 0) rfl, by rw [hlen]; exact On.sl (i := 1) rfl, by rw [List.length_replicate, hlen], fun j tk gs h1 h2 => ?_⟩
      · obtain ⟨a, cc, h1, h2, h3, h4, h5⟩ := hM j tk hj
        exact ⟨a, cc, h1, h2, hQ (Bs.le_at (i := 2) rfl) h3, h4, h5⟩
      · obtain ⟨a, cc, _, _, _, _, h5⟩ := hM j tk h1
        rw [List.getElem?_replicate] at h2
        split at h2
        · injection h2 with h2
          subst h2
          rw [h5]
          exact fun h b => ⟨none, 0, rfl, Nat.le_refl _, (fun _ => rfl), fun i x hx => nil_get hx⟩
        · cases h2
/-- a thread alone, from a state of any kind -/
def runA {σ : Type} (done : σ → Bool) (next : σ → σ) : Nat → σ → σ
  | 0, s => s
  | k + 1, s => if done s then s else runA done next k (next s)
theorem runA_done {σ : Type} {done : σ → Bool} {next : σ → σ} : ∀ {k : Nat} {s : σ}, done s = true → runA done next k s = s
  | 0, _, _ => rfl
  | k + 1, s, e => by rw [runA, if_pos e]
theorem K_Alone (cs : CqC S I) {σ : Type} {done : σ → Bool} {next : σ → σ} {W : Bs → WV → σ → Prop} (hW : ∀ {B B' : Bs}, B.le B' → ∀ {w s}, W B w s → W B' w s) {k : Nat} (hk : k ≤ 1000000) (ht : 1 ≤ t)
    (hwo : ∀ {B : Bs} {w s}, W B w s → ∃ T mc tks gss tk, WO B T w mc tks gss ∧ tks.length ≤ 8 ∧ tks[t - 1]? = some tk ∧ tk.dn = done s)
    (hyes : ∀ {B : Bs} {w s} h R, B.p h → W B w s → done s = false → (∀ w', Rt B h (fun B => W B w' (next s)) fun h' => R (.tuple #[vWd w', .bool true]) h') → S.C I.f_task_World_Step [vWd w, vPk 0 t 0] h R)
    (hno : ∀ {B : Bs} {w s} h R, B.p h → W B w s → done s = true → (∀ h', Gr h h' → R (.tuple #[vWd w, .bool false]) h') → S.C I.f_task_World_Step [vWd w, vPk 0 t 0] h R)
    {s : σ} (b0 : B.p h) (H : W B w s) (hR : ∀ w', Rt B h (fun B => W B w' (runA done next k s)) fun h' => R (.tuple #[vWd w', .bool (done (runA done next k s))]) h') : F_task_World_Alone S I (vWd w) (.int .i64 t) (.int .i64 k) h R := by
  obtain ⟨T, mc, tks, gss, tk, hO, hl, hx, hd⟩ := hwo H
  have hlt := (List.getElem?_eq_some_iff.1 hx).1
  have et : ((t : Nat) : Int) - 1 = ((t - 1 : Nat) : Int) := by omega
  have fin : ∀ (w' : WV) s' M r1 r2 h', Cx (fun _ => False) h h' [rV r1 (cWd w'), rV r2 [.slice none 0 0, .slice none 0 0, .slice none 0 0, .slice none 0 0, .map none, .slice none 0 0, .int .i64 0, .slice none 0 0, .slice none 0 0], rStar M] → W (B.and M) w' s' → runA done next k s = s' →
    Vb (lda 9 (at0 r1) h') fun v41 => Vb (fa 7 (at0 r1)) fun v42 => Vb (ldc v42 h') fun v43 => Vb (bin .sub (.int .i64 t) (.int .i64 1)) fun v45 => Vb (ixs 11 v43 v45) fun v46 => Vb (lda 11 v46 h') fun v47 => S.C I.f_task_Task_Done [v47] h' fun v48 h6 => lda 9 (at0 r1) h6 = some v41 ∧ Sb (sto 9 (at0 r2) v41 h6) fun h7 => Vb (lda 9 (at0 r2) h7) fun r0 => R (.tuple #[r0, v48]) h7 := fun w' s' M r1 r2 h' c hW' e => by
    obtain ⟨T, mc, tks, gss, tk, hO, hl, hx, hd⟩ := hwo hW'
    refine En.vb (c.vl (i := 0) rfl rfl) ?_
    refine En.vb (fa_add _ _ _) ?_
    refine En.vb (c.vc (i := 0) rfl rfl) ?_
    refine En.vb (subI ⟨by omega, by omega⟩) ?_
    rw [et]
    refine (hO.ts _ ⟨B.up b0 c.gr, c.get (i := 2) rfl⟩).whole rfl hx rfl ?_
    refine cs.tDone (x := tk) fun _ g => ?_
    have c := c.more g
    refine And.intro (c.vl (i := 0) rfl rfl) ?_
    refine c.vw 1 rfl (vs := [_, _, _, _, _, _, _, _, _]) (by exact rfl) (by exact rfl) (by exact rfl) (by exact rfl) fun _ c => ?_
    refine En.vb (c.vl (i := 1) rfl rfl) ?_
    rw [hd, ← e]
    exact hR w' M _ (c.pick [2]) (by rw [e]; exact hW')
  unfold F_task_World_Alone
  have c := Cx.start0 h
  refine c.nv (cs := [_, _, _, _, _, _, _, _, _]) rfl rfl fun w3_ _ c => ?_
  replace c : Cx _ _ _ [_] := c
  refine c.nv (cs := [_, _, _, _, _, _, _, _, _]) rfl rfl fun v6_ _ c => ?_
  replace c : Cx _ _ _ [_, _] := c
  refine .here ?_
  refine En.vb (k_ltF (by omega)) ?_
  refine brf ?_
  refine En.vb (fa_add _ _ _) ?_
  refine En.vb (c.vc (i := 0) rfl rfl) ?_
  refine En.vb (hO.ts h b0).ln ?_
  refine En.vb (k_gtF (by omega)) ?_
  refine brf ?_
  refine En.vb (c.vl (i := 0) rfl rfl) ?_
  refine En.vb (subI ⟨by omega, by omega⟩) ?_
  rw [et]
  refine cs.stopped (w := w) (B.up b0 c.gr) hO hlt fun _ g => ?_
  have c := c.more g
  replace c : Cx _ _ _ [_, _] := c
  refine brf ?_
  refine .here ?_
  refine En.vb (v := .int .i64 k) (by
    show some (Value.int .i64 (if (0 : Int) > k then 0 else k)) = _
    rw [if_neg (by omega)]) ?_
  refine Lp1.by (fun (z : Nat × σ) x h' => x = .int .i64 z.1 ∧ z.1 ≤ k ∧ ∃ w' M, Cx (fun _ => False) h h' [rV w3_ (cWd w'), rV v6_ [.slice none 0 0, .slice none 0 0, .slice none 0 0, .slice none 0 0, .map none, .slice none 0 0, .int .i64 0, .slice none 0 0, .slice none 0 0], rStar M] ∧ W (B.and M) w' z.2 ∧ runA done next k s = runA done next (k - z.1) z.2) (fun z => k - z.1) (0, s) ⟨rfl, Nat.zero_le _, w, [], Cx.pack (L := [_, _]) (M := []) (c.pick [0, 1]), hW (Bs.le_and _ _) H, rfl⟩ ?_
  rintro ⟨i, s'⟩ _ h8 ⟨rfl, hi, w', M, c, hW', e⟩ again hagain
  dsimp only at hi hW' e hagain
  replace c : Cx _ _ _ [_, _, _] := c
  refine En.vb bin_lss ?_
  refine brd (fun e29 => ?_) fun e29 => ?_
  · refine En.vb (c.vl (i := 0) rfl rfl) ?_
    refine En.vb (bldS_ok (ds := [_, _, _]) rfl) ?_
    by_cases hds : done s' = true
    · refine hno (B := B.and M) _ _ ⟨B.up b0 c.gr, c.get (i := 2) rfl⟩ hW' hds fun _ g => ?_
      have c := c.more g
      refine En.vb rfl (En.vb rfl ?_)
      refine c.nv (cs := [_, _, _, _, _, _, _, _, _]) rfl rfl fun _ _ c => ?_
      refine c.vw 3 rfl (vs := [_, _, _, _, _, _, _, _, _]) (by exact rfl) (by exact rfl) (by exact rfl) (by exact rfl) fun _ c => ?_
      refine En.vb rfl ?_
      refine brt ?_
      exact fin w' s' M _ _ _ (c.pick [0, 1, 2]) hW' (e.trans (runA_done hds))
    have hds : done s' = false := by simpa using hds
    refine hyes (B := B.and M) _ _ ⟨B.up b0 c.gr, c.get (i := 2) rfl⟩ hW' hds fun w2 N _ d ok => ?_
    have c := c.frame0 d
    replace c : Cx _ _ _ [_, _, _, _] := c
    refine En.vb rfl ?_
    refine En.vb rfl ?_
    refine c.nv (cs := [_, _, _, _, _, _, _, _, _]) rfl rfl fun next8_ _ c => ?_
    replace c : Cx _ _ _ [_, _, _, _, _] := c
    refine c.vw 4 rfl (vs := [_, _, _, _, _, _, _, _, _]) (by exact rfl) (by exact rfl) (by exact rfl) (by exact rfl) fun _ c => ?_
    replace c : Cx _ _ _ [_, _, _, _, _] := c
    refine En.vb (v := .bool false) (rfl) ?_
    refine brf ?_
    refine En.vb (c.vl (i := 4) rfl rfl) ?_
    refine c.vw 0 rfl (vs := [_, _, _, _, _, _, _, _, _]) (by exact rfl) (by exact rfl) (by exact rfl) (by exact rfl) fun _ c => ?_
    replace c : Cx _ _ _ [_, _, _, _, _] := c
    refine En.vb (inc (by omega)) ?_
    refine hagain (i + 1, next s') _ _ ⟨rfl, by dsimp only; omega, w2, [rStar M, rStar N], Cx.pack (L := [_, _]) (c.pick [0, 1, 2, 3]), hW Bs.le2 ok, ?_⟩ (by dsimp only; omega)
    rw [e]
    dsimp only
    obtain ⟨q, hq⟩ : ∃ q, k - i = q + 1 := ⟨k - i - 1, by omega⟩
    rw [hq, show k - (i + 1) = q by omega, runA, hds]
    rfl
  · exact fin w' s' M _ _ _ (c.pick [0, 1, 2]) hW' (by rw [e, show k - i = 0 by omega]; rfl)
end
end Go.En
