/-
  The era's codes. (Steps printed by wip/tools/walk.py from EpK.src.)
  The era's codes: Next, Enter, Leave, Advance, Era; the layout's places. (Steps printed by wip/tools/walk.py from EpL.src.)
  Views: maps; what they hold at the least. (Steps printed by wip/tools/walk.py from EqA.src.)
  Histories: slices of messages.
-/
import Derived.Test.YtcepckpfhbcobaaGreatDoorXD
namespace Go.En

variable {S : Sys} {I : Ids} {h h0 h' : Hp} {F F0 : Fp} {R : Value → Hp → Prop} {L : List Res}
/-- a function's value without anything captured -/
abbrev fnv (f : Nat) : Value := .func (.func f) #[] #[]
structure EC where
  era : Int
  mine : Int
  found : W3
  time : Int
  tried : Bool
  over : Bool
  nx : Nat
def vEc (x : EC) : Value := .agg #[.int .i64 x.era, .int .i64 x.mine, .int .i64 x.found.v, .int .u32 x.found.ver, .int .u32 x.found.ref, .int .i64 x.time, .bool x.tried, .bool x.over, fnv x.nx]
structure Ac where
  op : Int
  at' : Int
  old : W3
  new : W3
def vAc (x : Ac) : Value := .agg #[.int .i64 x.op, .int .i64 x.at', .int .i64 x.old.v, .int .u32 x.old.ver, .int .u32 x.old.ref, .int .i64 x.new.v, .int .u32 x.new.ver, .int .u32 x.new.ref]
abbrev Ac0 : Ac := ⟨0, 0, W0, W0⟩
structure Go4 where
  w : W3
  ok : Bool
def vGo (x : Go4) : Value := .agg #[.int .i64 x.w.v, .int .u32 x.w.ver, .int .u32 x.w.ref, .bool x.ok]
abbrev Go0 : Go4 := ⟨W0, false⟩
/-- a call that comes to a value, whatever the heap -/
def Pv (S : Sys) (f : Nat) (args : List Value) (v : Value) : Prop := ∀ h (R : Value → Hp → Prop), (∀ h', Gr h h' → R v h') → S.C f args h R
section
variable {x : EC} {g : Nat} {t : Int} {q : Go4}
theorem K_elook (hR : ∀ h', Gr h h' → R (.tuple #[vEc { x with nx := g }, vAc ⟨5, x.era, W0, W0⟩]) h') : F_era_code_look S I (vEc x) (fnv g) h R := by
  unfold F_era_code_look
  have c := Cx.start0 h
  refine c.nv (cs := [_, _, _, _, _, _, _, _, _]) rfl rfl fun c2_ _ c => ?_
  replace c : Cx _ _ _ [_] := c
  refine c.nv (cs := [_, _, _, _, _, _, _, _, _]) rfl rfl fun v4_ _ c => ?_
  replace c : Cx _ _ _ [_, _] := c
  refine c.nv (cs := [_, _, _, _, _, _, _, _]) rfl rfl fun v5_ _ c => ?_
  replace c : Cx _ _ _ [_, _, _] := c
  refine En.vb (fa_add _ _ _) ?_
  refine c.vq 0 rfl (vs := [_]) (ds := [_, _, _, _, _, _, _, _, _]) (by exact rfl) (by exact rfl) (by exact rfl) (by exact rfl) (by exact rfl) fun _ c => ?_
  replace c : Cx _ _ _ [_, _, _] := c
  refine En.vb (c.vl (i := 0) rfl rfl) ?_
  refine En.vb (fa_add _ _ _) ?_
  refine En.vb (c.vc (i := 0) rfl rfl) ?_
  refine En.vb (bldS_ok (ds := [_, _, _, _, _, _, _, _]) rfl) ?_
  refine c.vw 1 rfl (vs := [_, _, _, _, _, _, _, _, _]) (by exact rfl) (by exact rfl) (by exact rfl) (by exact rfl) fun _ c => ?_
  replace c : Cx _ _ _ [_, _, _] := c
  refine And.intro (c.vc (i := 0) rfl rfl) ?_
  refine c.vw 2 rfl (vs := [_, _, _, _, _, _, _, _]) (by exact rfl) (by exact rfl) (by exact rfl) (by exact rfl) fun _ c => ?_
  replace c : Cx _ _ _ [_, _, _] := c
  refine En.vb (c.vl (i := 1) rfl rfl) ?_
  refine En.vb (c.vl (i := 2) rfl rfl) ?_
  exact hR _ c.gr
theorem K_edone (hR : ∀ h', Gr h h' → R (.tuple #[vEc { x with over := true, time := t }, vAc Ac0]) h') : F_era_code_done S I (vEc x) (.int .i64 t) h R := by
  unfold F_era_code_done
  have c := Cx.start0 h
  refine c.nv (cs := [_, _, _, _, _, _, _, _, _]) rfl rfl fun c2_ _ c => ?_
  replace c : Cx _ _ _ [_] := c
  refine c.nv (cs := [_, _, _, _, _, _, _, _, _]) rfl rfl fun v4_ _ c => ?_
  replace c : Cx _ _ _ [_, _] := c
  refine c.nv (cs := [_, _, _, _, _, _, _, _]) rfl rfl fun v5_ _ c => ?_
  replace c : Cx _ _ _ [_, _, _] := c
  refine En.vb (fa_add _ _ _) ?_
  refine c.vq 0 rfl (vs := [_]) (ds := [_, _, _, _, _, _, _, _, _]) (by exact rfl) (by exact rfl) (by exact rfl) (by exact rfl) (by exact rfl) fun _ c => ?_
  replace c : Cx _ _ _ [_, _, _] := c
  refine En.vb (fa_add _ _ _) ?_
  refine c.vq 0 rfl (vs := [_]) (ds := [_, _, _, _, _, _, _, _, _]) (by exact rfl) (by exact rfl) (by exact rfl) (by exact rfl) (by exact rfl) fun _ c => ?_
  replace c : Cx _ _ _ [_, _, _] := c
  refine En.vb (c.vl (i := 0) rfl rfl) ?_
  refine En.vb (bldS_ok (ds := [_, _, _, _, _, _, _, _]) rfl) ?_
  refine c.vw 1 rfl (vs := [_, _, _, _, _, _, _, _, _]) (by exact rfl) (by exact rfl) (by exact rfl) (by exact rfl) fun _ c => ?_
  replace c : Cx _ _ _ [_, _, _] := c
  refine c.vw 2 rfl (vs := [_, _, _, _, _, _, _, _]) (by exact rfl) (by exact rfl) (by exact rfl) (by exact rfl) fun _ c => ?_
  replace c : Cx _ _ _ [_, _, _] := c
  refine En.vb (c.vl (i := 1) rfl rfl) ?_
  refine En.vb (c.vl (i := 2) rfl rfl) ?_
  exact hR _ c.gr
structure CkA (S : Sys) (I : Ids) : Prop where
  elook : ∀ {x : EC} {g : Nat}, Pv S I.f_era_code_look [vEc x, fnv g] (.tuple #[vEc { x with nx := g }, vAc ⟨5, x.era, W0, W0⟩])
  edone : ∀ {x : EC} {t : Int}, Pv S I.f_era_code_done [vEc x, .int .i64 t] (.tuple #[vEc { x with over := true, time := t }, vAc Ac0])
theorem K_announce1 (cs : CkA S I) (hR : ∀ h', Gr h h' → R (.tuple #[vEc { x with nx := I.f_era_code_compare }, vAc ⟨5, x.era, W0, W0⟩]) h') : F_era_code_announce_1 S I (vEc x) (vGo q) h R := by
  unfold F_era_code_announce_1
  have c := Cx.start0 h
  refine c.nv (cs := [_, _, _, _, _, _, _, _, _]) rfl rfl fun c2_ _ c => ?_
  replace c : Cx _ _ _ [_] := c
  refine c.nv (cs := [_, _, _, _]) rfl rfl fun v3_ _ c => ?_
  replace c : Cx _ _ _ [_, _] := c
  refine c.nv (cs := [_, _, _, _, _, _, _, _, _]) rfl rfl fun v4_ _ c => ?_
  replace c : Cx _ _ _ [_, _, _] := c
  refine c.nv (cs := [_, _, _, _, _, _, _, _]) rfl rfl fun v5_ _ c => ?_
  replace c : Cx _ _ _ [_, _, _, _] := c
  refine En.vb (c.vl (i := 0) rfl rfl) ?_
  refine cs.elook _ _ fun _ g => ?_
  have c := c.more g
  replace c : Cx _ _ _ [_, _, _, _] := c
  refine En.vb rfl ?_
  refine En.vb rfl ?_
  refine c.vw 2 rfl (vs := [_, _, _, _, _, _, _, _, _]) (by exact rfl) (by exact rfl) (by exact rfl) (by exact rfl) fun _ c => ?_
  replace c : Cx _ _ _ [_, _, _, _] := c
  refine c.vw 3 rfl (vs := [_, _, _, _, _, _, _, _]) (by exact rfl) (by exact rfl) (by exact rfl) (by exact rfl) fun _ c => ?_
  replace c : Cx _ _ _ [_, _, _, _] := c
  refine En.vb (c.vl (i := 2) rfl rfl) ?_
  refine En.vb (c.vl (i := 3) rfl rfl) ?_
  exact hR _ c.gr
theorem K_announce (hR : ∀ h', Gr h h' → R (.tuple #[vEc { x with found := ⟨q.w.v, 0, 0⟩, nx := I.f_era_code_announce_1 }, vAc ⟨4, x.mine, W0, ⟨q.w.v, 0, 0⟩⟩]) h') : F_era_code_announce S I (vEc x) (vGo q) h R := by
  unfold F_era_code_announce
  have c := Cx.start0 h
  refine c.nv (cs := [_, _, _, _, _, _, _, _, _]) rfl rfl fun c2_ _ c => ?_
  replace c : Cx _ _ _ [_] := c
  refine c.nv (cs := [_, _, _, _]) rfl rfl fun g3_ _ c => ?_
  replace c : Cx _ _ _ [_, _] := c
  refine c.nv (cs := [_, _, _, _, _, _, _, _, _]) rfl rfl fun v4_ _ c => ?_
  replace c : Cx _ _ _ [_, _, _] := c
  refine c.nv (cs := [_, _, _, _, _, _, _, _]) rfl rfl fun v5_ _ c => ?_
  replace c : Cx _ _ _ [_, _, _, _] := c
  refine En.vb (fa_add _ _ _) ?_
  refine En.vb (fa_add _ _ _) ?_
  refine En.vb (c.vc (i := 1) rfl rfl) ?_
  refine En.vb (bldS_ok (ds := [_, _, _]) rfl) ?_
  refine En.vb (fa_add _ _ _) ?_
  refine c.vq 0 rfl (vs := [_, _, _]) (ds := [_, _, _, _, _, _, _, _, _]) (by exact rfl) (by exact rfl) (by exact rfl) (by exact rfl) (by exact rfl) fun _ c => ?_
  replace c : Cx _ _ _ [_, _, _, _] := c
  refine En.vb (fa_add _ _ _) ?_
  refine c.vq 0 rfl (vs := [_]) (ds := [_, _, _, _, _, _, _, _, _]) (by exact rfl) (by exact rfl) (by exact rfl) (by exact rfl) (by exact rfl) fun _ c => ?_
  replace c : Cx _ _ _ [_, _, _, _] := c
  refine En.vb (c.vl (i := 0) rfl rfl) ?_
  refine En.vb (fa_add _ _ _) ?_
  refine En.vb (c.vc (i := 0) rfl rfl) ?_
  refine En.vb (fa_add _ _ _) ?_
  refine En.vb (c.vp (i := 0) (ds := [_, _, _]) rfl rfl rfl) ?_
  refine En.vb (bldS_ok (ds := [_, _, _, _, _, _, _, _]) rfl) ?_
  refine c.vw 2 rfl (vs := [_, _, _, _, _, _, _, _, _]) (by exact rfl) (by exact rfl) (by exact rfl) (by exact rfl) fun _ c => ?_
  replace c : Cx _ _ _ [_, _, _, _] := c
  refine And.intro (c.vp (i := 0) (ds := [_, _, _]) rfl rfl rfl) ?_
  refine And.intro (c.vc (i := 0) rfl rfl) ?_
  refine c.vw 3 rfl (vs := [_, _, _, _, _, _, _, _]) (by exact rfl) (by exact rfl) (by exact rfl) (by exact rfl) fun _ c => ?_
  replace c : Cx _ _ _ [_, _, _, _] := c
  refine En.vb (c.vl (i := 2) rfl rfl) ?_
  refine En.vb (c.vl (i := 3) rfl rfl) ?_
  exact hR _ c.gr
structure CkB (S : Sys) (I : Ids) : Prop extends CkA S I where
  eann : ∀ {x : EC} {q : Go4}, Pv S I.f_era_code_announce [vEc x, vGo q] (.tuple #[vEc { x with found := ⟨q.w.v, 0, 0⟩, nx := I.f_era_code_announce_1 }, vAc ⟨4, x.mine, W0, ⟨q.w.v, 0, 0⟩⟩])
theorem K_compare (cs : CkB S I) (hR : ∀ h', Gr h h' → R (if q.w.v = x.found.v then .tuple #[vEc { x with over := true, time := x.found.v }, vAc Ac0] else .tuple #[vEc { x with found := ⟨q.w.v, 0, 0⟩, nx := I.f_era_code_announce_1 }, vAc ⟨4, x.mine, W0, ⟨q.w.v, 0, 0⟩⟩]) h') : F_era_code_compare S I (vEc x) (vGo q) h R := by
  unfold F_era_code_compare
  have c := Cx.start0 h
  refine c.nv (cs := [_, _, _, _, _, _, _, _, _]) rfl rfl fun c2_ _ c => ?_
  replace c : Cx _ _ _ [_] := c
  refine c.nv (cs := [_, _, _, _]) rfl rfl fun g3_ _ c => ?_
  replace c : Cx _ _ _ [_, _] := c
  refine c.nv (cs := [_, _, _, _, _, _, _, _, _]) rfl rfl fun v4_ _ c => ?_
  replace c : Cx _ _ _ [_, _, _] := c
  refine c.nv (cs := [_, _, _, _, _, _, _, _]) rfl rfl fun v5_ _ c => ?_
  replace c : Cx _ _ _ [_, _, _, _] := c
  refine En.vb (fa_add _ _ _) ?_
  refine En.vb (fa_add _ _ _) ?_
  refine En.vb (c.vc (i := 1) rfl rfl) ?_
  refine En.vb (fa_add _ _ _) ?_
  refine En.vb (fa_add _ _ _) ?_
  refine En.vb (c.vc (i := 0) rfl rfl) ?_
  refine En.vb bin_eql ?_
  refine brd (fun e => ?_) fun e => ?_
  · refine En.vb (c.vl (i := 0) rfl rfl) ?_
    refine En.vb (fa_add _ _ _) ?_
    refine En.vb (fa_add _ _ _) ?_
    refine En.vb (c.vc (i := 0) rfl rfl) ?_
    refine cs.edone _ _ fun _ g => ?_
    have c := c.more g
    replace c : Cx _ _ _ [_, _, _, _] := c
    refine En.vb rfl ?_
    refine En.vb rfl ?_
    refine c.vw 2 rfl (vs := [_, _, _, _, _, _, _, _, _]) (by exact rfl) (by exact rfl) (by exact rfl) (by exact rfl) fun _ c => ?_
    replace c : Cx _ _ _ [_, _, _, _] := c
    refine c.vw 3 rfl (vs := [_, _, _, _, _, _, _, _]) (by exact rfl) (by exact rfl) (by exact rfl) (by exact rfl) fun _ c => ?_
    replace c : Cx _ _ _ [_, _, _, _] := c
    refine En.vb (c.vl (i := 2) rfl rfl) ?_
    refine En.vb (c.vl (i := 3) rfl rfl) ?_
    first | rw [if_pos e] at hR | rw [if_neg e] at hR
    exact hR _ c.gr
  · refine En.vb (c.vl (i := 0) rfl rfl) ?_
    refine En.vb (c.vl (i := 1) rfl rfl) ?_
    refine cs.eann _ _ fun _ g => ?_
    have c := c.more g
    replace c : Cx _ _ _ [_, _, _, _] := c
    refine En.vb rfl ?_
    refine En.vb rfl ?_
    refine c.vw 2 rfl (vs := [_, _, _, _, _, _, _, _, _]) (by exact rfl) (by exact rfl) (by exact rfl) (by exact rfl) fun _ c => ?_
    replace c : Cx _ _ _ [_, _, _, _] := c
    refine c.vw 3 rfl (vs := [_, _, _, _, _, _, _, _]) (by exact rfl) (by exact rfl) (by exact rfl) (by exact rfl) fun _ c => ?_
    replace c : Cx _ _ _ [_, _, _, _] := c
    refine En.vb (c.vl (i := 2) rfl rfl) ?_
    refine En.vb (c.vl (i := 3) rfl rfl) ?_
    first | rw [if_pos e] at hR | rw [if_neg e] at hR
    exact hR _ c.gr
theorem K_raise (cs : CkB S I) (hb : q.w.v < 1000000000) (h0 : 0 ≤ q.w.v) (hR : ∀ h', Gr h h' → R (if x.tried && q.ok then .tuple #[vEc { x with over := true, time := x.found.v }, vAc Ac0] else .tuple #[vEc { x with tried := true, found := ⟨q.w.v + 1, 0, 0⟩, nx := I.f_era_code_raise }, vAc ⟨6, x.era, q.w, ⟨q.w.v + 1, 0, 0⟩⟩]) h') : F_era_code_raise S I (vEc x) (vGo q) h R := by
  obtain ⟨era, mine, found, time, tried, over, nx⟩ := x
  obtain ⟨w, ok⟩ := q
  cases tried with
  | true =>
    cases ok with
    | true =>
      unfold F_era_code_raise
      have c := Cx.start0 h
      refine c.nv (cs := [_, _, _, _, _, _, _, _, _]) rfl rfl fun c2_ _ c => ?_
      replace c : Cx _ _ _ [_] := c
      refine c.nv (cs := [_, _, _, _]) rfl rfl fun g3_ _ c => ?_
      replace c : Cx _ _ _ [_, _] := c
      refine c.nv (cs := [_, _, _, _, _, _, _, _, _]) rfl rfl fun v4_ _ c => ?_
      replace c : Cx _ _ _ [_, _, _] := c
      refine c.nv (cs := [_, _, _, _, _, _, _, _]) rfl rfl fun v5_ _ c => ?_
      replace c : Cx _ _ _ [_, _, _, _] := c
      refine .here ?_
      refine En.vb (fa_add _ _ _) ?_
      refine En.vb (c.vc (i := 0) rfl rfl) ?_
      refine brt ?_
      refine En.vb (fa_add _ _ _) ?_
      refine En.vb (c.vc (i := 1) rfl rfl) ?_
      refine brt ?_
      refine En.vb (c.vl (i := 0) rfl rfl) ?_
      refine En.vb (fa_add _ _ _) ?_
      refine En.vb (fa_add _ _ _) ?_
      refine En.vb (c.vc (i := 0) rfl rfl) ?_
      refine cs.edone _ _ fun _ g => ?_
      have c := c.more g
      replace c : Cx _ _ _ [_, _, _, _] := c
      refine En.vb rfl ?_
      refine En.vb rfl ?_
      refine c.vw 2 rfl (vs := [_, _, _, _, _, _, _, _, _]) (by exact rfl) (by exact rfl) (by exact rfl) (by exact rfl) fun _ c => ?_
      replace c : Cx _ _ _ [_, _, _, _] := c
      refine c.vw 3 rfl (vs := [_, _, _, _, _, _, _, _]) (by exact rfl) (by exact rfl) (by exact rfl) (by exact rfl) fun _ c => ?_
      replace c : Cx _ _ _ [_, _, _, _] := c
      refine En.vb (c.vl (i := 2) rfl rfl) ?_
      refine En.vb (c.vl (i := 3) rfl rfl) ?_
      exact hR _ c.gr
    | false =>
      unfold F_era_code_raise
      have c := Cx.start0 h
      refine c.nv (cs := [_, _, _, _, _, _, _, _, _]) rfl rfl fun c2_ _ c => ?_
      replace c : Cx _ _ _ [_] := c
      refine c.nv (cs := [_, _, _, _]) rfl rfl fun g3_ _ c => ?_
      replace c : Cx _ _ _ [_, _] := c
      refine c.nv (cs := [_, _, _, _, _, _, _, _, _]) rfl rfl fun v4_ _ c => ?_
      replace c : Cx _ _ _ [_, _, _] := c
      refine c.nv (cs := [_, _, _, _, _, _, _, _]) rfl rfl fun v5_ _ c => ?_
      replace c : Cx _ _ _ [_, _, _, _] := c
      refine .here ?_
      refine En.vb (fa_add _ _ _) ?_
      refine En.vb (c.vc (i := 0) rfl rfl) ?_
      refine brt ?_
      refine En.vb (fa_add _ _ _) ?_
      refine En.vb (c.vc (i := 1) rfl rfl) ?_
      refine brf ?_
      refine En.vb (fa_add _ _ _) ?_
      refine En.vb (fa_add _ _ _) ?_
      refine En.vb (c.vc (i := 1) rfl rfl) ?_
      refine En.vb (addI ⟨by omega, by omega⟩) ?_
      refine En.vb (bldS_ok (ds := [_, _, _]) rfl) ?_
      refine En.vb (fa_add _ _ _) ?_
      refine c.vq 0 rfl (vs := [_]) (ds := [_, _, _, _, _, _, _, _, _]) (by exact rfl) (by exact rfl) (by exact rfl) (by exact rfl) (by exact rfl) fun _ c => ?_
      replace c : Cx _ _ _ [_, _, _, _] := c
      refine And.intro (c.vc (i := 1) rfl rfl) ?_
      refine En.vb (fa_add _ _ _) ?_
      refine c.vq 0 rfl (vs := [_]) (ds := [_, _, _, _, _, _, _, _, _]) (by exact rfl) (by exact rfl) (by exact rfl) (by exact rfl) (by exact rfl) fun _ c => ?_
      replace c : Cx _ _ _ [_, _, _, _] := c
      refine And.intro (c.vc (i := 1) rfl rfl) ?_
      refine En.vb (fa_add _ _ _) ?_
      refine c.vq 0 rfl (vs := [_, _, _]) (ds := [_, _, _, _, _, _, _, _, _]) (by exact rfl) (by exact rfl) (by exact rfl) (by exact rfl) (by exact rfl) fun _ c => ?_
      replace c : Cx _ _ _ [_, _, _, _] := c
      refine En.vb (c.vl (i := 0) rfl rfl) ?_
      refine En.vb (fa_add _ _ _) ?_
      refine En.vb (c.vc (i := 0) rfl rfl) ?_
      refine En.vb (fa_add _ _ _) ?_
      refine En.vb (c.vp (i := 1) (ds := [_, _, _]) rfl rfl rfl) ?_
      refine En.vb (fa_add _ _ _) ?_
      refine En.vb (c.vp (i := 0) (ds := [_, _, _]) rfl rfl rfl) ?_
      refine En.vb (bldS_ok (ds := [_, _, _, _, _, _, _, _]) rfl) ?_
      refine c.vw 2 rfl (vs := [_, _, _, _, _, _, _, _, _]) (by exact rfl) (by exact rfl) (by exact rfl) (by exact rfl) fun _ c => ?_
      replace c : Cx _ _ _ [_, _, _, _] := c
      refine And.intro (c.vp (i := 0) (ds := [_, _, _]) rfl rfl rfl) ?_
      refine And.intro (c.vp (i := 1) (ds := [_, _, _]) rfl rfl rfl) ?_
      refine And.intro (c.vc (i := 0) rfl rfl) ?_
      refine c.vw 3 rfl (vs := [_, _, _, _, _, _, _, _]) (by exact rfl) (by exact rfl) (by exact rfl) (by exact rfl) fun _ c => ?_
      replace c : Cx _ _ _ [_, _, _, _] := c
      refine En.vb (c.vl (i := 2) rfl rfl) ?_
      refine En.vb (c.vl (i := 3) rfl rfl) ?_
      exact hR _ c.gr
  | false =>
    unfold F_era_code_raise
    have c := Cx.start0 h
    refine c.nv (cs := [_, _, _, _, _, _, _, _, _]) rfl rfl fun c2_ _ c => ?_
    replace c : Cx _ _ _ [_] := c
    refine c.nv (cs := [_, _, _, _]) rfl rfl fun g3_ _ c => ?_
    replace c : Cx _ _ _ [_, _] := c
    refine c.nv (cs := [_, _, _, _, _, _, _, _, _]) rfl rfl fun v4_ _ c => ?_
    replace c : Cx _ _ _ [_, _, _] := c
    refine c.nv (cs := [_, _, _, _, _, _, _, _]) rfl rfl fun v5_ _ c => ?_
    replace c : Cx _ _ _ [_, _, _, _] := c
    refine .here ?_
    refine En.vb (fa_add _ _ _) ?_
    refine En.vb (c.vc (i := 0) rfl rfl) ?_
    refine brf ?_
    refine brf ?_
    refine En.vb (fa_add _ _ _) ?_
    refine En.vb (fa_add _ _ _) ?_
    refine En.vb (c.vc (i := 1) rfl rfl) ?_
    refine En.vb (addI ⟨by omega, by omega⟩) ?_
    refine En.vb (bldS_ok (ds := [_, _, _]) rfl) ?_
    refine En.vb (fa_add _ _ _) ?_
    refine c.vq 0 rfl (vs := [_]) (ds := [_, _, _, _, _, _, _, _, _]) (by exact rfl) (by exact rfl) (by exact rfl) (by exact rfl) (by exact rfl) fun _ c => ?_
    replace c : Cx _ _ _ [_, _, _, _] := c
    refine And.intro (c.vc (i := 1) rfl rfl) ?_
    refine En.vb (fa_add _ _ _) ?_
    refine c.vq 0 rfl (vs := [_]) (ds := [_, _, _, _, _, _, _, _, _]) (by exact rfl) (by exact rfl) (by exact rfl) (by exact rfl) (by exact rfl) fun _ c => ?_
    replace c : Cx _ _ _ [_, _, _, _] := c
    refine And.intro (c.vc (i := 1) rfl rfl) ?_
    refine En.vb (fa_add _ _ _) ?_
    refine c.vq 0 rfl (vs := [_, _, _]) (ds := [_, _, _, _, _, _, _, _, _]) (by exact rfl) (by exact rfl) (by exact rfl) (by exact rfl) (by exact rfl) fun _ c => ?_
    replace c : Cx _ _ _ [_, _, _, _] := c
    refine En.vb (c.vl (i := 0) rfl rfl) ?_
    refine En.vb (fa_add _ _ _) ?_
    refine En.vb (c.vc (i := 0) rfl rfl) ?_
    refine En.vb (fa_add _ _ _) ?_
    refine En.vb (c.vp (i := 1) (ds := [_, _, _]) rfl rfl rfl) ?_
    refine En.vb (fa_add _ _ _) ?_
    refine En.vb (c.vp (i := 0) (ds := [_, _, _]) rfl rfl rfl) ?_
    refine En.vb (bldS_ok (ds := [_, _, _, _, _, _, _, _]) rfl) ?_
    refine c.vw 2 rfl (vs := [_, _, _, _, _, _, _, _, _]) (by exact rfl) (by exact rfl) (by exact rfl) (by exact rfl) fun _ c => ?_
    replace c : Cx _ _ _ [_, _, _, _] := c
    refine And.intro (c.vp (i := 0) (ds := [_, _, _]) rfl rfl rfl) ?_
    refine And.intro (c.vp (i := 1) (ds := [_, _, _]) rfl rfl rfl) ?_
    refine And.intro (c.vc (i := 0) rfl rfl) ?_
    refine c.vw 3 rfl (vs := [_, _, _, _, _, _, _, _]) (by exact rfl) (by exact rfl) (by exact rfl) (by exact rfl) fun _ c => ?_
    replace c : Cx _ _ _ [_, _, _, _] := c
    refine En.vb (c.vl (i := 2) rfl rfl) ?_
    refine En.vb (c.vl (i := 3) rfl rfl) ?_
    exact hR _ c.gr
theorem K_raiseT (cs : CkB S I) {gw : W3} {era mine : Int} {fd : W3} {tm : Int} {nx : Nat} (hR : ∀ h', Gr h h' → R (.tuple #[vEc ⟨era, mine, fd, fd.v, true, true, nx⟩, vAc Ac0]) h') : F_era_code_raise S I (vEc ⟨era, mine, fd, tm, true, false, nx⟩) (vGo ⟨gw, true⟩) h R := by
  unfold F_era_code_raise
  have c := Cx.start0 h
  refine c.nv (cs := [_, _, _, _, _, _, _, _, _]) rfl rfl fun c2_ _ c => ?_
  replace c : Cx _ _ _ [_] := c
  refine c.nv (cs := [_, _, _, _]) rfl rfl fun g3_ _ c => ?_
  replace c : Cx _ _ _ [_, _] := c
  refine c.nv (cs := [_, _, _, _, _, _, _, _, _]) rfl rfl fun v4_ _ c => ?_
  replace c : Cx _ _ _ [_, _, _] := c
  refine c.nv (cs := [_, _, _, _, _, _, _, _]) rfl rfl fun v5_ _ c => ?_
  replace c : Cx _ _ _ [_, _, _, _] := c
  refine .here ?_
  refine En.vb (fa_add _ _ _) ?_
  refine En.vb (c.vc (i := 0) rfl rfl) ?_
  refine brt ?_
  refine En.vb (fa_add _ _ _) ?_
  refine En.vb (c.vc (i := 1) rfl rfl) ?_
  refine brt ?_
  refine En.vb (c.vl (i := 0) rfl rfl) ?_
  refine En.vb (fa_add _ _ _) ?_
  refine En.vb (fa_add _ _ _) ?_
  refine En.vb (c.vc (i := 0) rfl rfl) ?_
  refine cs.edone _ _ fun _ g => ?_
  have c := c.more g
  replace c : Cx _ _ _ [_, _, _, _] := c
  refine En.vb rfl ?_
  refine En.vb rfl ?_
  refine c.vw 2 rfl (vs := [_, _, _, _, _, _, _, _, _]) (by exact rfl) (by exact rfl) (by exact rfl) (by exact rfl) fun _ c => ?_
  replace c : Cx _ _ _ [_, _, _, _] := c
  refine c.vw 3 rfl (vs := [_, _, _, _, _, _, _, _]) (by exact rfl) (by exact rfl) (by exact rfl) (by exact rfl) fun _ c => ?_
  replace c : Cx _ _ _ [_, _, _, _] := c
  refine En.vb (c.vl (i := 2) rfl rfl) ?_
  refine En.vb (c.vl (i := 3) rfl rfl) ?_
  exact hR _ c.gr
theorem K_Enter1 (cs : CkA S I) (hR : ∀ h', Gr h h' → R (.tuple #[vEc { x with nx := I.f_era_code_announce }, vAc ⟨5, x.era, W0, W0⟩]) h') : F_era_Enter_1 S I (vEc x) (vGo q) h R := by
  unfold F_era_Enter_1
  have c := Cx.start0 h
  refine c.nv (cs := [_, _, _, _, _, _, _, _, _]) rfl rfl fun c2_ _ c => ?_
  replace c : Cx _ _ _ [_] := c
  refine c.nv (cs := [_, _, _, _]) rfl rfl fun v3_ _ c => ?_
  replace c : Cx _ _ _ [_, _] := c
  refine c.nv (cs := [_, _, _, _, _, _, _, _, _]) rfl rfl fun v4_ _ c => ?_
  replace c : Cx _ _ _ [_, _, _] := c
  refine c.nv (cs := [_, _, _, _, _, _, _, _]) rfl rfl fun v5_ _ c => ?_
  replace c : Cx _ _ _ [_, _, _, _] := c
  refine En.vb (c.vl (i := 0) rfl rfl) ?_
  refine cs.elook _ _ fun _ g => ?_
  have c := c.more g
  replace c : Cx _ _ _ [_, _, _, _] := c
  refine En.vb rfl ?_
  refine En.vb rfl ?_
  refine c.vw 2 rfl (vs := [_, _, _, _, _, _, _, _, _]) (by exact rfl) (by exact rfl) (by exact rfl) (by exact rfl) fun _ c => ?_
  replace c : Cx _ _ _ [_, _, _, _] := c
  refine c.vw 3 rfl (vs := [_, _, _, _, _, _, _, _]) (by exact rfl) (by exact rfl) (by exact rfl) (by exact rfl) fun _ c => ?_
  replace c : Cx _ _ _ [_, _, _, _] := c
  refine En.vb (c.vl (i := 2) rfl rfl) ?_
  refine En.vb (c.vl (i := 3) rfl rfl) ?_
  exact hR _ c.gr
theorem K_Leave1 (hR : ∀ h', Gr h h' → R (.tuple #[vEc { x with nx := I.f_era_Leave_1_1 }, vAc ⟨4, x.mine, W0, W0⟩]) h') : F_era_Leave_1 S I (vEc x) (vGo q) h R := by
  unfold F_era_Leave_1
  have c := Cx.start0 h
  refine c.nv (cs := [_, _, _, _, _, _, _, _, _]) rfl rfl fun c2_ _ c => ?_
  replace c : Cx _ _ _ [_] := c
  refine c.nv (cs := [_, _, _, _]) rfl rfl fun v3_ _ c => ?_
  replace c : Cx _ _ _ [_, _] := c
  refine c.nv (cs := [_, _, _, _, _, _, _, _, _]) rfl rfl fun v4_ _ c => ?_
  replace c : Cx _ _ _ [_, _, _] := c
  refine c.nv (cs := [_, _, _, _, _, _, _, _]) rfl rfl fun v5_ _ c => ?_
  replace c : Cx _ _ _ [_, _, _, _] := c
  refine En.vb (fa_add _ _ _) ?_
  refine c.vq 0 rfl (vs := [_]) (ds := [_, _, _, _, _, _, _, _, _]) (by exact rfl) (by exact rfl) (by exact rfl) (by exact rfl) (by exact rfl) fun _ c => ?_
  replace c : Cx _ _ _ [_, _, _, _] := c
  refine En.vb (c.vl (i := 0) rfl rfl) ?_
  refine En.vb (fa_add _ _ _) ?_
  refine En.vb (c.vc (i := 0) rfl rfl) ?_
  refine En.vb (bldS_ok (ds := [_, _, _, _, _, _, _, _]) rfl) ?_
  refine c.vw 2 rfl (vs := [_, _, _, _, _, _, _, _, _]) (by exact rfl) (by exact rfl) (by exact rfl) (by exact rfl) fun _ c => ?_
  replace c : Cx _ _ _ [_, _, _, _] := c
  refine And.intro (c.vc (i := 0) rfl rfl) ?_
  refine c.vw 3 rfl (vs := [_, _, _, _, _, _, _, _]) (by exact rfl) (by exact rfl) (by exact rfl) (by exact rfl) fun _ c => ?_
  replace c : Cx _ _ _ [_, _, _, _] := c
  refine En.vb (c.vl (i := 2) rfl rfl) ?_
  refine En.vb (c.vl (i := 3) rfl rfl) ?_
  exact hR _ c.gr
theorem K_Leave11 (cs : CkA S I) (hR : ∀ h', Gr h h' → R (.tuple #[vEc { x with over := true, time := 0 }, vAc Ac0]) h') : F_era_Leave_1_1 S I (vEc x) (vGo q) h R := by
  unfold F_era_Leave_1_1
  have c := Cx.start0 h
  refine c.nv (cs := [_, _, _, _, _, _, _, _, _]) rfl rfl fun c2_ _ c => ?_
  replace c : Cx _ _ _ [_] := c
  refine c.nv (cs := [_, _, _, _]) rfl rfl fun v3_ _ c => ?_
  replace c : Cx _ _ _ [_, _] := c
  refine c.nv (cs := [_, _, _, _, _, _, _, _, _]) rfl rfl fun v4_ _ c => ?_
  replace c : Cx _ _ _ [_, _, _] := c
  refine c.nv (cs := [_, _, _, _, _, _, _, _]) rfl rfl fun v5_ _ c => ?_
  replace c : Cx _ _ _ [_, _, _, _] := c
  refine En.vb (c.vl (i := 0) rfl rfl) ?_
  refine cs.edone _ _ fun _ g => ?_
  have c := c.more g
  replace c : Cx _ _ _ [_, _, _, _] := c
  refine En.vb rfl ?_
  refine En.vb rfl ?_
  refine c.vw 2 rfl (vs := [_, _, _, _, _, _, _, _, _]) (by exact rfl) (by exact rfl) (by exact rfl) (by exact rfl) fun _ c => ?_
  replace c : Cx _ _ _ [_, _, _, _] := c
  refine c.vw 3 rfl (vs := [_, _, _, _, _, _, _, _]) (by exact rfl) (by exact rfl) (by exact rfl) (by exact rfl) fun _ c => ?_
  replace c : Cx _ _ _ [_, _, _, _] := c
  refine En.vb (c.vl (i := 2) rfl rfl) ?_
  refine En.vb (c.vl (i := 3) rfl rfl) ?_
  exact hR _ c.gr
theorem K_Advance1 (cs : CkA S I) (hR : ∀ h', Gr h h' → R (.tuple #[vEc { x with nx := I.f_era_code_raise }, vAc ⟨5, x.era, W0, W0⟩]) h') : F_era_Advance_1 S I (vEc x) (vGo q) h R := by
  unfold F_era_Advance_1
  have c := Cx.start0 h
  refine c.nv (cs := [_, _, _, _, _, _, _, _, _]) rfl rfl fun c2_ _ c => ?_
  replace c : Cx _ _ _ [_] := c
  refine c.nv (cs := [_, _, _, _]) rfl rfl fun v3_ _ c => ?_
  replace c : Cx _ _ _ [_, _] := c
  refine c.nv (cs := [_, _, _, _, _, _, _, _, _]) rfl rfl fun v4_ _ c => ?_
  replace c : Cx _ _ _ [_, _, _] := c
  refine c.nv (cs := [_, _, _, _, _, _, _, _]) rfl rfl fun v5_ _ c => ?_
  replace c : Cx _ _ _ [_, _, _, _] := c
  refine En.vb (c.vl (i := 0) rfl rfl) ?_
  refine cs.elook _ _ fun _ g => ?_
  have c := c.more g
  replace c : Cx _ _ _ [_, _, _, _] := c
  refine En.vb rfl ?_
  refine En.vb rfl ?_
  refine c.vw 2 rfl (vs := [_, _, _, _, _, _, _, _, _]) (by exact rfl) (by exact rfl) (by exact rfl) (by exact rfl) fun _ c => ?_
  replace c : Cx _ _ _ [_, _, _, _] := c
  refine c.vw 3 rfl (vs := [_, _, _, _, _, _, _, _]) (by exact rfl) (by exact rfl) (by exact rfl) (by exact rfl) fun _ c => ?_
  replace c : Cx _ _ _ [_, _, _, _] := c
  refine En.vb (c.vl (i := 2) rfl rfl) ?_
  refine En.vb (c.vl (i := 3) rfl rfl) ?_
  exact hR _ c.gr
end
end Go.En
namespace Go.En

variable {S : Sys} {I : Ids} {h h0 h' : Hp} {F F0 : Fp} {R : Value → Hp → Prop} {L : List Res}
theorem if_true_tas (t : TypeId) (z v : Value) : tas t z true (.iface t v) = some (.tuple #[v, .bool true]) := by simp [tas]
section
variable {x y : EC} {g : Nat} {t : Int} {q : Go4} {a : Ac}
theorem K_ecNext (ho : x.over = false) (hc : Pv S x.nx [vEc x, vGo q] (.tuple #[vEc y, vAc a])) (hR : ∀ h', Gr h h' → R (.tuple #[.iface I.t_era_code (vEc y), vAc a, .bool y.over]) h') : F_era_code_Next S I (vEc x) (vGo q) h R := by
  obtain ⟨era, mine, found, time, tried, over, nx⟩ := x
  dsimp only at ho hc
  subst ho
  unfold F_era_code_Next
  have c := Cx.start0 h
  refine c.nv (cs := [_, _, _, _, _, _, _, _, _]) rfl rfl fun c2_ _ c => ?_
  replace c : Cx _ _ _ [_] := c
  refine c.nv (cs := [_, _, _, _]) rfl rfl fun g3_ _ c => ?_
  replace c : Cx _ _ _ [_, _] := c
  refine c.nv (cs := [_, _, _, _, _, _, _, _]) rfl rfl fun v5_ _ c => ?_
  replace c : Cx _ _ _ [_, _, _] := c
  refine En.vb (fa_add _ _ _) ?_
  refine En.vb (c.vc (i := 0) rfl rfl) ?_
  refine brf ?_
  refine En.vb (fa_add _ _ _) ?_
  refine En.vb (c.vc (i := 0) rfl rfl) ?_
  refine En.vb (c.vl (i := 0) rfl rfl) ?_
  refine En.vb (c.vl (i := 1) rfl rfl) ?_
  refine .inl (.inl ⟨_, _, _, rfl, hc _ _ fun _ g => ?_⟩)
  have c := c.more g
  replace c : Cx _ _ _ [_, _, _] := c
  refine En.vb rfl ?_
  refine En.vb rfl ?_
  refine c.nv (cs := [_, _, _, _, _, _, _, _, _]) rfl rfl fun d7_ _ c => ?_
  replace c : Cx _ _ _ [_, _, _, _] := c
  refine c.nv (cs := [_, _, _, _, _, _, _, _]) rfl rfl fun a8_ _ c => ?_
  replace c : Cx _ _ _ [_, _, _, _, _] := c
  refine c.vw 3 rfl (vs := [_, _, _, _, _, _, _, _, _]) (by exact rfl) (by exact rfl) (by exact rfl) (by exact rfl) fun _ c => ?_
  replace c : Cx _ _ _ [_, _, _, _, _] := c
  refine c.vw 4 rfl (vs := [_, _, _, _, _, _, _, _]) (by exact rfl) (by exact rfl) (by exact rfl) (by exact rfl) fun _ c => ?_
  replace c : Cx _ _ _ [_, _, _, _, _] := c
  refine En.vb (c.vl (i := 3) rfl rfl) ?_
  refine En.vb rfl ?_
  refine En.vb (c.vl (i := 4) rfl rfl) ?_
  refine En.vb (fa_add _ _ _) ?_
  refine En.vb (c.vc (i := 3) rfl rfl) ?_
  refine c.vw 2 rfl (vs := [_, _, _, _, _, _, _, _]) (by exact rfl) (by exact rfl) (by exact rfl) (by exact rfl) fun _ c => ?_
  replace c : Cx _ _ _ [_, _, _, _, _] := c
  refine And.intro (c.vc (i := 3) rfl rfl) ?_
  refine En.vb (c.vl (i := 2) rfl rfl) ?_
  exact hR _ c.gr
structure CkC (S : Sys) (I : Ids) : Prop extends CkB S I where
  ecNext : ∀ {x y : EC} {q : Go4} {a : Ac}, x.over = false → Pv S x.nx [vEc x, vGo q] (.tuple #[vEc y, vAc a]) → Pv S I.f_era_code_Next [vEc x, vGo q] (.tuple #[.iface I.t_era_code (vEc y), vAc a, .bool y.over])
  compare : ∀ {x : EC} {q : Go4}, Pv S I.f_era_code_compare [vEc x, vGo q] (if q.w.v = x.found.v then .tuple #[vEc { x with over := true, time := x.found.v }, vAc Ac0] else .tuple #[vEc { x with found := ⟨q.w.v, 0, 0⟩, nx := I.f_era_code_announce_1 }, vAc ⟨4, x.mine, W0, ⟨q.w.v, 0, 0⟩⟩])
  ann1 : ∀ {x : EC} {q : Go4}, Pv S I.f_era_code_announce_1 [vEc x, vGo q] (.tuple #[vEc { x with nx := I.f_era_code_compare }, vAc ⟨5, x.era, W0, W0⟩])
  raise : ∀ {x : EC} {q : Go4}, q.w.v < 1000000000 → 0 ≤ q.w.v → Pv S I.f_era_code_raise [vEc x, vGo q] (if x.tried && q.ok then .tuple #[vEc { x with over := true, time := x.found.v }, vAc Ac0] else .tuple #[vEc { x with tried := true, found := ⟨q.w.v + 1, 0, 0⟩, nx := I.f_era_code_raise }, vAc ⟨6, x.era, q.w, ⟨q.w.v + 1, 0, 0⟩⟩])
  raiseT : ∀ {gw : W3} {era mine : Int} {fd : W3} {tm : Int} {nx : Nat}, Pv S I.f_era_code_raise [vEc ⟨era, mine, fd, tm, true, false, nx⟩, vGo ⟨gw, true⟩] (.tuple #[vEc ⟨era, mine, fd, fd.v, true, true, nx⟩, vAc Ac0])
  ent1 : ∀ {x : EC} {q : Go4}, Pv S I.f_era_Enter_1 [vEc x, vGo q] (.tuple #[vEc { x with nx := I.f_era_code_announce }, vAc ⟨5, x.era, W0, W0⟩])
  lv1 : ∀ {x : EC} {q : Go4}, Pv S I.f_era_Leave_1 [vEc x, vGo q] (.tuple #[vEc { x with nx := I.f_era_Leave_1_1 }, vAc ⟨4, x.mine, W0, W0⟩])
  lv11 : ∀ {x : EC} {q : Go4}, Pv S I.f_era_Leave_1_1 [vEc x, vGo q] (.tuple #[vEc { x with over := true, time := 0 }, vAc Ac0])
  ad1 : ∀ {x : EC} {q : Go4}, Pv S I.f_era_Advance_1 [vEc x, vGo q] (.tuple #[vEc { x with nx := I.f_era_code_raise }, vAc ⟨5, x.era, W0, W0⟩])
end
section
variable {t : Nat}
theorem K_Cell {i : Nat} (cs : CeF S I) (Z : Zs h) (hi : i < 8) (hR : ∀ h', Gr h h' → R (.int .i64 (56 + i)) h') : F_layout_Layout_Cell S I vL (.int .i64 i) h R := by
  have hR : ∀ h', Gr h h' → R (.int .i64 (fromV 3 + i * szf 3 + (0 : Nat))) h' := fun h' g => by
    have e : fromV 3 + i * szf 3 + (0 : Nat) = 56 + (i : Int) := by
      show (56 : Int) + i * 1 + 0 = 56 + i
      omega
    rw [e]; exact hR h' g
  unfold F_layout_Layout_Cell
  have c := Cx.start0 h
  refine c.nv (cs := [_, _, _]) rfl rfl fun l2_ _ c => ?_
  replace c : Cx _ _ _ [_] := c
  refine En.vb (c.vl (i := 0) rfl rfl) ?_
  refine cs.at' (p := 3) (more := 0) (by decide) (by show (i : Int) < 8; omega) (by decide) _ _ (Z.gr c.gr) fun _ g => ?_
  have c := c.more g
  replace c : Cx _ _ _ [_] := c
  exact hR _ c.gr
theorem K_Announce (cs : CeF S I) (Z : Zs h) (ht : 1 ≤ t ∧ t ≤ 3) (hR : ∀ h', Gr h h' → R (.int .i64 (8 * t)) h') : F_layout_Layout_Announce S I vL (.int .i64 t) h R := by
  have hR : ∀ h', Gr h h' → R (.int .i64 (fromV 1 + ((t - 1 : Nat) : Int) * szf 1 + (0 : Nat))) h' := fun h' g => by
    have e : fromV 1 + ((t - 1 : Nat) : Int) * szf 1 + (0 : Nat) = 8 * (t : Int) := by
      show (8 : Int) + ((t - 1 : Nat) : Int) * 8 + 0 = 8 * t
      omega
    rw [e]; exact hR h' g
  have et : ((t : Nat) : Int) - 1 = ((t - 1 : Nat) : Int) := by omega
  unfold F_layout_Layout_Announce
  have c := Cx.start0 h
  refine c.nv (cs := [_, _, _]) rfl rfl fun l2_ _ c => ?_
  replace c : Cx _ _ _ [_] := c
  refine En.vb (c.vl (i := 0) rfl rfl) ?_
  refine En.vb (subI ⟨by omega, by omega⟩) ?_
  rw [et]
  refine cs.at' (p := 1) (more := 0) (by decide) (by show ((t - 1 : Nat) : Int) < 3; omega) (by decide) _ _ (Z.gr c.gr) fun _ g => ?_
  have c := c.more g
  replace c : Cx _ _ _ [_] := c
  exact hR _ c.gr
theorem K_Slot (cs : CeF S I) (Z : Zs h) (ht : 1 ≤ t ∧ t ≤ 3) (hR : ∀ h', Gr h h' → R (.int .i64 (64 + 104 * (t - 1 : Nat))) h') : F_layout_Layout_Slot S I vL (.int .i64 t) h R := by
  have hR : ∀ h', Gr h h' → R (.int .i64 (fromV 4 + ((t - 1 : Nat) : Int) * szf 4 + (0 : Nat))) h' := fun h' g => by
    have e : fromV 4 + ((t - 1 : Nat) : Int) * szf 4 + (0 : Nat) = 64 + 104 * ((t - 1 : Nat) : Int) := by
      show (64 : Int) + ((t - 1 : Nat) : Int) * 104 + 0 = _
      omega
    rw [e]; exact hR h' g
  have et : ((t : Nat) : Int) - 1 = ((t - 1 : Nat) : Int) := by omega
  unfold F_layout_Layout_Slot
  have c := Cx.start0 h
  refine c.nv (cs := [_, _, _]) rfl rfl fun l2_ _ c => ?_
  replace c : Cx _ _ _ [_] := c
  refine En.vb (c.vl (i := 0) rfl rfl) ?_
  refine En.vb (subI ⟨by omega, by omega⟩) ?_
  rw [et]
  refine cs.at' (p := 4) (more := 0) (by decide) (by show ((t - 1 : Nat) : Int) < 3; omega) (by decide) _ _ (Z.gr c.gr) fun _ g => ?_
  have c := c.more g
  replace c : Cx _ _ _ [_] := c
  exact hR _ c.gr
structure CeG (S : Sys) (I : Ids) : Prop extends CeF S I where
  era : Pz S I.f_layout_Layout_Era [vL] (.int .i64 1)
  cell : ∀ {i : Nat}, i < 8 → Pz S I.f_layout_Layout_Cell [vL, .int .i64 i] (.int .i64 (56 + i))
  announce : ∀ {t : Nat}, 1 ≤ t ∧ t ≤ 3 → Pz S I.f_layout_Layout_Announce [vL, .int .i64 t] (.int .i64 (8 * t))
  slot : ∀ {t : Nat}, 1 ≤ t ∧ t ≤ 3 → Pz S I.f_layout_Layout_Slot [vL, .int .i64 t] (.int .i64 (64 + 104 * (t - 1 : Nat)))
theorem K_echeck (cs : CeG S I) (Z : Zs h) (ht : 1 ≤ t ∧ t ≤ 3) (hR : ∀ h', Gr h h' → R (.int .i64 0) h') : F_era_check S I vL (.int .i64 t) h R := by
  unfold F_era_check
  have c := Cx.start0 h
  refine c.nv (cs := [_, _, _]) rfl rfl fun l2_ _ c => ?_
  replace c : Cx _ _ _ [_] := c
  refine En.vb (c.vl (i := 0) rfl rfl) ?_
  refine cs.check _ _ (Z.gr c.gr) fun _ g => ?_
  have c := c.more g
  replace c : Cx _ _ _ [_] := c
  refine En.vb (v := .bool false) rfl ?_
  refine brf ?_
  refine .here ?_
  refine En.vb (k_ltF (by omega)) ?_
  refine brf ?_
  refine En.vb (fa_add _ _ _) ?_
  refine En.vb (c.vc (i := 0) rfl rfl) ?_
  refine En.vb (k_gtF (by show ¬ (3 : Int) < t; omega)) ?_
  refine brf ?_
  exact hR _ c.gr
theorem K_emade {f : Nat} (cs : CeG S I) (Z : Zs h) (ht : t ≤ 3) (hR : ∀ h', Gr h h' → R (.tuple #[.iface I.t_era_code (vEc ⟨1, 8 * t, W0, 0, false, false, f⟩), .int .i64 0]) h') : F_era_made S I vL (.int .i64 t) (fnv f) h R := by
  by_cases h0 : t = 0
  · subst h0
    unfold F_era_made
    have c := Cx.start0 h
    refine c.nv (cs := [_, _, _]) rfl rfl fun l3_ _ c => ?_
    replace c : Cx _ _ _ [_] := c
    refine En.vb (c.vl (i := 0) rfl rfl) ?_
    refine cs.check _ _ (Z.gr c.gr) fun _ g => ?_
    have c := c.more g
    replace c : Cx _ _ _ [_] := c
    refine En.vb (v := .bool false) rfl ?_
    refine brf ?_
    refine En.vb (c.vl (i := 0) rfl rfl) ?_
    refine cs.era _ _ (Z.gr c.gr) fun _ g => ?_
    have c := c.more g
    replace c : Cx _ _ _ [_] := c
    refine En.vb (bldS_ok (ds := [_, _, _, _, _, _, _, _, _]) rfl) ?_
    refine c.nv (cs := [_, _, _, _, _, _, _, _, _]) rfl rfl fun c8_ _ c => ?_
    replace c : Cx _ _ _ [_, _] := c
    refine c.vw 1 rfl (vs := [_, _, _, _, _, _, _, _, _]) (by exact rfl) (by exact rfl) (by exact rfl) (by exact rfl) fun _ c => ?_
    replace c : Cx _ _ _ [_, _] := c
    refine .here ?_
    refine En.vb (v := .bool false) rfl ?_
    refine brf ?_
    refine En.vb (c.vl (i := 1) rfl rfl) ?_
    refine En.vb rfl ?_
    exact hR _ c.gr
  · unfold F_era_made
    have c := Cx.start0 h
    refine c.nv (cs := [_, _, _]) rfl rfl fun l3_ _ c => ?_
    replace c : Cx _ _ _ [_] := c
    refine En.vb (c.vl (i := 0) rfl rfl) ?_
    refine cs.check _ _ (Z.gr c.gr) fun _ g => ?_
    have c := c.more g
    replace c : Cx _ _ _ [_] := c
    refine En.vb (v := .bool false) rfl ?_
    refine brf ?_
    refine En.vb (c.vl (i := 0) rfl rfl) ?_
    refine cs.era _ _ (Z.gr c.gr) fun _ g => ?_
    have c := c.more g
    replace c : Cx _ _ _ [_] := c
    refine En.vb (bldS_ok (ds := [_, _, _, _, _, _, _, _, _]) rfl) ?_
    refine c.nv (cs := [_, _, _, _, _, _, _, _, _]) rfl rfl fun c8_ _ c => ?_
    replace c : Cx _ _ _ [_, _] := c
    refine c.vw 1 rfl (vs := [_, _, _, _, _, _, _, _, _]) (by exact rfl) (by exact rfl) (by exact rfl) (by exact rfl) fun _ c => ?_
    replace c : Cx _ _ _ [_, _] := c
    refine .here ?_
    refine En.vb (k_neT (by omega)) ?_
    refine brt ?_
    refine En.vb (c.vl (i := 0) rfl rfl) ?_
    refine cs.announce (by omega) _ _ (Z.gr c.gr) fun _ g => ?_
    have c := c.more g
    replace c : Cx _ _ _ [_, _] := c
    refine En.vb (fa_add _ _ _) ?_
    refine c.vq 1 rfl (vs := [_]) (ds := [_, _, _, _, _, _, _, _, _]) (by exact rfl) (by exact rfl) (by exact rfl) (by exact rfl) (by exact rfl) fun _ c => ?_
    replace c : Cx _ _ _ [_, _] := c
    refine En.vb (c.vl (i := 1) rfl rfl) ?_
    refine En.vb rfl ?_
    exact hR _ c.gr
structure CeH (S : Sys) (I : Ids) : Prop extends CeG S I where
  echeck : ∀ {t : Nat}, 1 ≤ t ∧ t ≤ 3 → Pz S I.f_era_check [vL, .int .i64 t] (.int .i64 0)
  emade : ∀ {t f : Nat}, t ≤ 3 → Pz S I.f_era_made [vL, .int .i64 t, fnv f] (.tuple #[.iface I.t_era_code (vEc ⟨1, 8 * t, W0, 0, false, false, f⟩), .int .i64 0])
theorem K_Enter (cs : CeH S I) (Z : Zs h) (ht : 1 ≤ t ∧ t ≤ 3) (hR : ∀ h', Gr h h' → R (.tuple #[.iface I.t_era_code (vEc ⟨1, 8 * t, W0, 0, false, false, I.f_era_Enter_1⟩), .int .i64 0]) h') : F_era_Enter S I vL (.int .i64 t) h R := by
  unfold F_era_Enter
  have c := Cx.start0 h
  refine c.nv (cs := [_, _, _]) rfl rfl fun l2_ _ c => ?_
  replace c : Cx _ _ _ [_] := c
  refine En.vb (c.vl (i := 0) rfl rfl) ?_
  refine cs.echeck ht _ _ (Z.gr c.gr) fun _ g => ?_
  have c := c.more g
  replace c : Cx _ _ _ [_] := c
  refine En.vb (v := .bool false) rfl ?_
  refine brf ?_
  refine En.vb (c.vl (i := 0) rfl rfl) ?_
  refine cs.emade ht.2 _ _ (Z.gr c.gr) fun _ g => ?_
  have c := c.more g
  replace c : Cx _ _ _ [_] := c
  refine En.vb rfl ?_
  refine En.vb rfl ?_
  exact hR _ c.gr
theorem K_Leave (cs : CeH S I) (Z : Zs h) (ht : 1 ≤ t ∧ t ≤ 3) (hR : ∀ h', Gr h h' → R (.tuple #[.iface I.t_era_code (vEc ⟨1, 8 * t, W0, 0, false, false, I.f_era_Leave_1⟩), .int .i64 0]) h') : F_era_Leave S I vL (.int .i64 t) h R := by
  unfold F_era_Leave
  have c := Cx.start0 h
  refine c.nv (cs := [_, _, _]) rfl rfl fun l2_ _ c => ?_
  replace c : Cx _ _ _ [_] := c
  refine En.vb (c.vl (i := 0) rfl rfl) ?_
  refine cs.echeck ht _ _ (Z.gr c.gr) fun _ g => ?_
  have c := c.more g
  replace c : Cx _ _ _ [_] := c
  refine En.vb (v := .bool false) rfl ?_
  refine brf ?_
  refine En.vb (c.vl (i := 0) rfl rfl) ?_
  refine cs.emade ht.2 _ _ (Z.gr c.gr) fun _ g => ?_
  have c := c.more g
  replace c : Cx _ _ _ [_] := c
  refine En.vb rfl ?_
  refine En.vb rfl ?_
  exact hR _ c.gr
theorem K_Advance (cs : CeH S I) (Z : Zs h) (hR : ∀ h', Gr h h' → R (.tuple #[.iface I.t_era_code (vEc ⟨1, 0, W0, 0, false, false, I.f_era_Advance_1⟩), .int .i64 0]) h') : F_era_Advance S I vL h R := by
  unfold F_era_Advance
  have c := Cx.start0 h
  refine c.nv (cs := [_, _, _]) rfl rfl fun l1_ _ c => ?_
  replace c : Cx _ _ _ [_] := c
  refine En.vb (c.vl (i := 0) rfl rfl) ?_
  refine cs.emade (t := 0) (by decide) _ _ (Z.gr c.gr) fun _ g => ?_
  have c := c.more g
  replace c : Cx _ _ _ [_] := c
  refine En.vb rfl ?_
  refine En.vb rfl ?_
  exact hR _ c.gr
theorem K_EraOf {x : EC} (ho : x.over = true) (hR : ∀ h', Gr h h' → R (.tuple #[.int .i64 x.time, .bool true]) h') : F_era_Era S I (.iface I.t_era_code (vEc x)) h R := by
  obtain ⟨era, mine, found, time, tried, over, nx⟩ := x
  dsimp only at ho
  subst ho
  unfold F_era_Era
  have c := Cx.start0 h
  refine En.vb (if_true_tas _ _ _) ?_
  refine En.vb rfl ?_
  refine En.vb rfl ?_
  refine c.nv (cs := [_, _, _, _, _, _, _, _, _]) rfl rfl fun x4_ _ c => ?_
  replace c : Cx _ _ _ [_] := c
  refine c.vw 0 rfl (vs := [_, _, _, _, _, _, _, _, _]) (by exact rfl) (by exact rfl) (by exact rfl) (by exact rfl) fun _ c => ?_
  replace c : Cx _ _ _ [_] := c
  refine .here ?_
  refine En.vb (v := .bool false) (rfl) ?_
  refine brf ?_
  refine En.vb (fa_add _ _ _) ?_
  refine En.vb (c.vc (i := 0) rfl rfl) ?_
  refine En.vb rfl ?_
  refine brf ?_
  refine En.vb (fa_add _ _ _) ?_
  refine En.vb (c.vc (i := 0) rfl rfl) ?_
  exact hR _ c.gr
end
end Go.En
namespace Go.En

variable {S : Sys} {I : Ids} {h h0 h' : Hp} {F F0 : Fp} {R : Value → Hp → Prop} {L : List Res} {B B' : Bs}
def mI (x : Int) : Value := .int .i64 x
/-- a map's value in one cell -/
def EM : Enc (Option Nat) := { n := 1, c := fun a => [.map a], len := fun _ => rfl, one := fun a v h => by simp only [List.mem_singleton] at h; subst h; rfl }
def vV (a : Option Nat) : Value := .agg #[.map a]
/-- a map holds the entries -/
def Mo (h : Hp) (a : Option Nat) (ps : List (Int × Int)) : Prop := (a = none ∧ ps = []) ∨ Mp .i64 mI h (.map a) ps
theorem Mo.gr {a : Option Nat} {ps : List (Int × Int)} (H : Mo h a ps) (g : Gr h h') : Mo h' a ps := H.imp id fun m => m.gr g
def at' (ps : List (Int × Int)) (l : Int) : Int := (lookA ps l).getD 0
theorem at_upd (ps : List (Int × Int)) (k x l : Int) : at' (updA ps k x) l = if l = k then x else at' ps l := by
  unfold at'
  rw [lookA_updA]
  split <;> rfl
/-- at least f, nowhere below 0 -/
def Ge (ps : List (Int × Int)) (f : Int → Int) : Prop := ∀ l, 0 ≤ at' ps l ∧ f l ≤ at' ps l
/-- a view -/
def VO (B : Bs) (a : Option Nat) (f : Int → Int) : Prop := ∃ ps, (On B fun h => Mo h a ps) ∧ Ge ps f
theorem VO.le {a : Option Nat} {f : Int → Int} (H : VO B a f) (l : B.le B') : VO B' a f := let ⟨ps, m, g⟩ := H; ⟨ps, m.le l, g⟩
theorem Mo.look {a : Option Nat} {ps : List (Int × Int)} (H : Mo h a ps) (k : Int) : lkm (.int .i64) (.int .i64 0) false (.map a) (.int .i64 k) h = some (.int .i64 (at' ps k)) := by
  rcases H with ⟨rfl, rfl⟩ | m
  · rfl
  · rw [m.look]
    unfold at'
    cases lookA ps k with
    | none => rfl
    | some x => rfl
def vset (f : Int → Int) (l n : Int) : Int → Int := fun k => if k = l then max n (f k) else f k
def vjoin (f g : Int → Int) : Int → Int := fun k => max (f k) (g k)
section
variable {a b : Option Nat} {ps qs : List (Int × Int)} {l n : Int} {f g : Int → Int}
theorem K_mclone (m : Mp .i64 mI h (.map a) ps) (hR : ∀ k h', Cx (fun _ => False) h h' [rMp .i64 mI (.map (some k)) ps] → R (.map (some k)) h') : F_maps_Clone_map_api_Loc_int_api_Loc_int S I (.map a) h R := by
  obtain ⟨r, es, clock, e, hh, he⟩ := m
  injection e with e
  subst e
  unfold F_maps_Clone_map_api_Loc_int_api_Loc_int
  refine En.vb (v := .bool false) rfl ?_
  rw [br_false, vb_some]
  refine En.eb (v := .iface I.t_map_api_Loc_int (.map (some h.size))) (h' := h.push (.map es clock)) (by simp only [mcl, hh]) ?_
  refine En.vb (v := .map (some h.size)) (by simp [tas]) ?_
  refine hR _ _ ((Cx.start0 h).add (F' := fun q => q = h.size) ⟨⟨h.size, es, clock, rfl, by simp, he⟩, fun q => by simp [mblk, eq_comm]⟩ (Ch.push _ _) fun r e => by omega)
theorem K_mclone0 (hR : R (.map none) h) : F_maps_Clone_map_api_Loc_int_api_Loc_int S I (.map none) h R := by
  unfold F_maps_Clone_map_api_Loc_int_api_Loc_int
  refine En.vb (v := .bool true) rfl ?_
  rw [br_true]
  exact hR
structure CfA (S : Sys) (I : Ids) : Prop extends CeG S I where
  mclone : ∀ {a : Option Nat} {ps : List (Int × Int)} {h R}, Mp .i64 mI h (.map a) ps → (∀ k h', Cx (fun _ => False) h h' [rMp .i64 mI (.map (some k)) ps] → R (.map (some k)) h') → S.C I.f_maps_Clone_map_api_Loc_int_api_Loc_int [.map a] h R
  mclone0 : ∀ {h} {R : Value → Hp → Prop}, R (.map none) h → S.C I.f_maps_Clone_map_api_Loc_int_api_Loc_int [.map none] h R
theorem K_vAt (b0 : B.p h) (H : VO B a f) (hR : ∀ h' n, 0 ≤ n → f l ≤ n → Gr h h' → R (.int .i64 n) h') : F_view_View_At S I (vV a) (.int .i64 l) h R := by
  obtain ⟨ps, Hm, hg⟩ := H
  have H := Hm h b0
  unfold F_view_View_At
  have c := Cx.start0 h
  refine c.nv (cs := [_]) rfl rfl fun v2_ _ c => ?_
  replace c : Cx _ _ _ [_] := c
  refine En.vb (fa_add _ _ _) ?_
  refine En.vb (c.vc (i := 0) rfl rfl) ?_
  refine En.vb ((H.gr c.gr).look l) ?_
  exact hR _ _ (hg l).1 (hg l).2 c.gr
theorem K_With (cs : CfA S I) (b0 : B.p h) (H : VO B a f) (h0 : 0 ≤ l ∧ l < 4096) (hn : 0 ≤ n) (hR : ∀ b, Rt B h (fun B => VO B b (vset f l n)) fun h' => R (vV b) h') : F_view_View_With S I (vV a) (.int .i64 l) (.int .i64 n) h R := by
  obtain ⟨ps, Ho, hg⟩ := H
  have Hm := Ho h b0
  by_cases hle : n ≤ at' ps l
  · unfold F_view_View_With
    have c := Cx.start0 h
    refine c.nv (cs := [_]) rfl rfl fun v3_ _ c => ?_
    replace c : Cx _ _ _ [_] := c
    refine c.nv (cs := [_]) rfl rfl fun v6_ _ c => ?_
    replace c : Cx _ _ _ [_, _] := c
    refine .here ?_
    refine En.vb (k_ltF (by omega)) ?_
    refine brf ?_
    refine En.vb (k_geF (by omega)) ?_
    refine brf ?_
    refine En.vb (fa_add _ _ _) ?_
    refine En.vb (c.vc (i := 0) rfl rfl) ?_
    refine En.vb ((Hm.gr c.gr).look l) ?_
    refine En.vb (k_leT hle) ?_
    refine brt ?_
    refine En.vb (c.vl (i := 0) rfl rfl) ?_
    refine c.vw 1 rfl (vs := [_]) (by exact rfl) (by exact rfl) (by exact rfl) (by exact rfl) fun _ c => ?_
    replace c : Cx _ _ _ [_, _] := c
    refine En.vb (c.vl (i := 1) rfl rfl) ?_
    refine (hR a).nil ?_ c.gr
    refine ⟨ps, Ho.le (Bs.le_and _ _), fun x => ?_⟩
    have hx := hg x
    unfold vset
    split
    · rename_i e
      subst e
      omega
    · exact hx
  · have fin : ∀ k h', Cx (fun _ => False) h h' [rMp .i64 mI (.map (some k)) (updA ps l n)] → R (vV (some k)) h' := fun k h' c => by
      refine hR (some k) [rMp .i64 mI (.map (some k)) (updA ps l n)] _ (Cx.pack (L := []) c) ⟨_, (On.mp (i := 0) rfl).imp fun _ m => .inr m, fun x => ?_⟩
      rw [at_upd]
      have hx := hg x
      unfold vset
      split
      · rename_i e
        subst e
        omega
      · exact hx
    rcases Hm with ⟨rfl, rfl⟩ | m
    · unfold F_view_View_With
      have c := Cx.start0 h
      refine c.nv (cs := [_]) rfl rfl fun v3_ _ c => ?_
      replace c : Cx _ _ _ [_] := c
      refine c.nv (cs := [_]) rfl rfl fun v6_ _ c => ?_
      replace c : Cx _ _ _ [_, _] := c
      refine .here ?_
      refine En.vb (k_ltF (by omega)) ?_
      refine brf ?_
      refine En.vb (k_geF (by omega)) ?_
      refine brf ?_
      refine En.vb (fa_add _ _ _) ?_
      refine En.vb (c.vc (i := 0) rfl rfl) ?_
      refine En.vb (v := .int .i64 0) rfl ?_
      refine En.vb (k_leF hle) ?_
      refine brf ?_
      refine En.vb (fa_add _ _ _) ?_
      refine En.vb (c.vc (i := 0) rfl rfl) ?_
      refine cs.mclone0 ?_
      refine .here ?_
      refine En.vb (v := .bool true) (rfl) ?_
      refine brt ?_
      refine c.mmk .i64 mI fun k _ c => ?_
      replace c : Cx _ _ _ [_, _, _] := c
      refine c.mup 2 rfl l n rfl fun _ c => ?_
      replace c : Cx _ _ _ [_, _, _] := c
      refine En.vb (bldS_ok (ds := [_]) rfl) ?_
      refine c.vw 1 rfl (vs := [_]) (by exact rfl) (by exact rfl) (by exact rfl) (by exact rfl) fun _ c => ?_
      replace c : Cx _ _ _ [_, _, _] := c
      refine En.vb (c.vl (i := 1) rfl rfl) ?_
      exact fin k _ (c.pick [2])
    · unfold F_view_View_With
      have c := Cx.start0 h
      refine c.nv (cs := [_]) rfl rfl fun v3_ _ c => ?_
      replace c : Cx _ _ _ [_] := c
      refine c.nv (cs := [_]) rfl rfl fun v6_ _ c => ?_
      replace c : Cx _ _ _ [_, _] := c
      refine .here ?_
      refine En.vb (k_ltF (by omega)) ?_
      refine brf ?_
      refine En.vb (k_geF (by omega)) ?_
      refine brf ?_
      refine En.vb (fa_add _ _ _) ?_
      refine En.vb (c.vc (i := 0) rfl rfl) ?_
      refine En.vb (Mo.look (.inr (m.gr c.gr)) l) ?_
      refine En.vb (k_leF hle) ?_
      refine brf ?_
      refine En.vb (fa_add _ _ _) ?_
      refine En.vb (c.vc (i := 0) rfl rfl) ?_
      refine cs.mclone (m.gr c.gr) fun k _ d => ?_
      have c := c.frame0 d
      replace c : Cx _ _ _ [_, _, _] := c
      refine .here ?_
      refine En.vb (v := .bool false) (rfl) ?_
      refine brf ?_
      refine c.mup 2 rfl l n rfl fun _ c => ?_
      replace c : Cx _ _ _ [_, _, _] := c
      refine En.vb (bldS_ok (ds := [_]) rfl) ?_
      refine c.vw 1 rfl (vs := [_]) (by exact rfl) (by exact rfl) (by exact rfl) (by exact rfl) fun _ c => ?_
      replace c : Cx _ _ _ [_, _, _] := c
      refine En.vb (c.vl (i := 1) rfl rfl) ?_
      exact fin k _ (c.pick [2])
theorem Mp.ln {v : Value} (m : Mp .i64 mI h v ps) : lnM v h = some (.int .i64 ps.length) := by
  obtain ⟨r, es, clock, rfl, hh, he⟩ := m
  have := congrArg List.length he.dat
  simp only [List.length_map, Array.length_toList] at this
  simp only [lnM, hh]
  rw [this]
theorem at_mem {l : Int} : at' ps l = 0 ∨ ∃ (i : Nat) (p : Int × Int), i < ps.length ∧ ps[i]? = some p ∧ p.1 = l ∧ p.2 = at' ps l := by
  unfold at'
  cases e : lookA ps l with
  | none => exact .inl rfl
  | some x =>
    unfold lookA at e
    cases e2 : ps.find? fun p => p.1 == l with
    | none => rw [e2] at e; cases e
    | some p =>
      rw [e2] at e
      simp only [Option.map_some, Option.some.injEq] at e
      obtain ⟨i, hi, rfl⟩ := List.mem_iff_getElem.1 (List.mem_of_find?_eq_some e2)
      have h1 := List.find?_some e2
      exact .inr ⟨i, _, hi, List.getElem?_eq_getElem hi, by simpa using h1, by simpa using e⟩
/-- the pointwise maximum -/
theorem K_Join (cs : CfA S I) (b0 : B.p h) (H : VO B a f) (H2 : VO B b g) (hR : ∀ d, Rt B h (fun B => VO B d (vjoin f g)) fun h' => R (vV d) h') : F_view_Join S I (vV a) (vV b) h R := by
  obtain ⟨qs, Ho, hq⟩ := H
  obtain ⟨ps, Ho2, hp⟩ := H2
  have Hm := Ho h b0
  have Hm2 := Ho2 h b0
  have same : ps.length = 0 → ∀ h', Gr h h' → R (vV a) h' := fun e h' g => (hR a).nil ⟨qs, Ho.le (Bs.le_and _ _), fun x => by
    have h1 := hq x
    have h2 := hp x
    rw [List.length_eq_zero_iff] at e
    subst e
    have : at' [] x = 0 := rfl
    unfold vjoin
    omega⟩ g
  by_cases hz : ps.length = 0
  · have e : lnM (.map b) h = some (.int .i64 ps.length) := by
      rcases Hm2 with ⟨rfl, rfl⟩ | m
      · rfl
      · exact m.ln
    have e : ∀ h', Gr h h' → lnM (.map b) h' = some (.int .i64 ps.length) := fun h' gr => by
      rcases Hm2 with ⟨rfl, rfl⟩ | m
      · rfl
      · exact (m.gr gr).ln
    unfold F_view_Join
    have c := Cx.start0 h
    refine c.nv (cs := [_]) rfl rfl fun a2_ _ c => ?_
    replace c : Cx _ _ _ [_] := c
    refine c.nv (cs := [_]) rfl rfl fun b3_ _ c => ?_
    replace c : Cx _ _ _ [_, _] := c
    refine c.nv (cs := [_]) rfl rfl fun v4_ _ c => ?_
    replace c : Cx _ _ _ [_, _, _] := c
    refine En.vb (fa_add _ _ _) ?_
    refine En.vb (c.vc (i := 1) rfl rfl) ?_
    refine En.vb (e _ c.gr) ?_
    refine En.vb (k_eqT (by omega)) ?_
    refine brt ?_
    refine En.vb (c.vl (i := 0) rfl rfl) ?_
    refine c.vw 2 rfl (vs := [_]) (by exact rfl) (by exact rfl) (by exact rfl) (by exact rfl) fun _ c => ?_
    replace c : Cx _ _ _ [_, _, _] := c
    refine En.vb (c.vl (i := 2) rfl rfl) ?_
    exact same hz _ c.gr
  rcases Hm2 with ⟨rfl, rfl⟩ | m
  · exact absurd rfl hz
  unfold F_view_Join
  have c := Cx.start0 h
  refine c.nv (cs := [_]) rfl rfl fun a2_ _ c => ?_
  replace c : Cx _ _ _ [_] := c
  refine c.nv (cs := [_]) rfl rfl fun b3_ _ c => ?_
  replace c : Cx _ _ _ [_, _] := c
  refine c.nv (cs := [_]) rfl rfl fun v4_ _ c => ?_
  replace c : Cx _ _ _ [_, _, _] := c
  refine En.vb (fa_add _ _ _) ?_
  refine En.vb (c.vc (i := 1) rfl rfl) ?_
  refine En.vb (m.gr c.gr).ln ?_
  refine En.vb (k_eqF (by omega)) ?_
  refine brf ?_
  refine En.vb (fa_add _ _ _) ?_
  refine En.vb (c.vc (i := 1) rfl rfl) ?_
  refine cs.mclone (m.gr c.gr) fun k h4 d => ?_
  have c := c.frame0 d
  replace c : Cx _ _ _ [_, _, _, _] := c
  refine En.vb (fa_add _ _ _) ?_
  refine En.vb (c.vc (i := 0) rfl rfl) ?_
  have fin : ∀ zs h8, Cx (fun _ => False) h h8 [rV a2_ [.map a], rV b3_ [.map b], rV v4_ [.map none], rMp .i64 mI (.map (some k)) zs] → (∀ l, at' qs l ≤ at' zs l ∧ at' ps l ≤ at' zs l) → Vb (bldS [(0, 1)] #[Value.map none] [(0, .map (some k))]) fun v32 => Sb (sto 1 (at0 v4_) v32 h8) fun h10 => Vb (lda 1 (at0 v4_) h10) fun r0 => R r0 h10 := fun zs h8 c hz => by
    refine En.vb (bldS_ok (ds := [_]) rfl) ?_
    refine c.vw 2 rfl (vs := [_]) (by exact rfl) (by exact rfl) (by exact rfl) (by exact rfl) fun _ c => ?_
    refine En.vb (c.vl (i := 2) rfl rfl) ?_
    refine hR (some k) [rMp .i64 mI (.map (some k)) zs] _ (Cx.pack (L := []) (c.pick [3])) ⟨zs, (On.mp (i := 0) rfl).imp fun _ m => .inr m, fun x => ?_⟩
    have h1 := hq x
    have h2 := hp x
    have h3 := hz x
    unfold vjoin
    omega
  rcases Hm with ⟨rfl, rfl⟩ | m2
  · refine En.eb (v := at0 _) (h' := _) (by exact rfl) ?_
    have c := c.more (Ch.push _ (.mapIter none 0 #[] 0))
    refine Lp0.by (fun (_ : Unit) h' => h' = _) (fun _ => 0) () rfl ?_
    rintro _ h5 rfl again _
    refine ⟨_, rfl, .inl ⟨0, #[], 0, by simp, ?_⟩⟩
    refine En.vb (v := .bool false) rfl ?_
    refine brf ?_
    exact fin _ _ c fun l => ⟨(hp l).1, Int.le_refl _⟩
  · obtain ⟨mb, es, clock, e, hh, he⟩ := m2
    injection e with e
    subst e
    have hmb : ∀ {h5 : Hp} {L : List Res}, Cx (fun _ => False) h h5 L → h5[mb]? = some (.map es clock) := fun c => by
      rw [c.gr.same mb (Array.getElem?_eq_some_iff.mp hh).1 fun e => e]; exact hh
    refine En.eb (v := at0 _) (h' := _) (by simp only [rng, mkey, hmb c]; rfl) ?_
    have hs4 := c.gr.size
    have c := c.pushObj (.mapIter (some mb) clock #[] clock)
    obtain ⟨r, hr⟩ : ∃ r, r = h4.size := ⟨_, rfl⟩
    have hne : r ≠ mb := fun e => by
      have h9 := (Array.getElem?_eq_some_iff.mp hh).1
      omega
    rw [← hr] at c ⊢
    obtain ⟨itO, hO⟩ : ∃ itO : List Nat → Obj, itO = fun D => .mapIter (some mb) clock (D.map fun i => ((es.toList[i]?).map (·.born)).getD 0).toArray clock := ⟨_, rfl⟩
    refine Lp0.by (fun (z : List Nat × List (Int × Int)) h' => Cx (fun _ => False) h h' [rV a2_ [.map (some mb)], rV b3_ [.map b], rV v4_ [.map none], rMp .i64 mI (.map (some k)) z.2, rObj r (itO z.1)] ∧ z.1.Nodup ∧ (∀ i ∈ z.1, i < qs.length) ∧ (∀ l, at' ps l ≤ at' z.2 l) ∧ ∀ i ∈ z.1, ∀ p, qs[i]? = some p → p.2 ≤ at' z.2 p.1) (fun z => qs.length - z.1.length) ([], ps) ⟨by rw [hO]; exact c, List.nodup_nil, (fun i hi => by cases hi), (fun l => Int.le_refl _), fun i hi => by cases hi⟩ ?_
    clear c hr
    rintro ⟨D, zs⟩ h6 ⟨c, hnd, hlt, hzp, hzq⟩ again hagain
    dsimp only at *
    have hobj := c.obj (i := 4) rfl
    rw [hO] at hobj
    have it : It .i64 mI h6 r mb qs D := ⟨⟨es, clock, hmb c, he, hobj⟩, hnd, hlt, hne⟩
    refine it.next (fun hall => ?_) fun j p h7 hpj hjD it2 ch hent => ?_
    · refine En.vb (v := .bool false) rfl ?_
      refine brf ?_
      refine fin _ _ (c.pick [0, 1, 2, 3]) fun l => ⟨?_, hzp l⟩
      rcases at_mem (ps := qs) (l := l) with e | ⟨i, p, hi, hpi, rfl, e⟩
      · have h1 := hzp l
        have h2 := (hp l).1
        omega
      · have := hzq i (hall i hi) p hpi
        omega
    · obtain ⟨es2, clock2, e1, e2, e3⟩ := it2.ex
      have c : Cx (fun _ => False) h h7 [rV a2_ [.map (some mb)], rV b3_ [.map b], rV v4_ [.map none], rMp .i64 mI (.map (some k)) zs, rObj r (itO (D ++ [j]))] := by
        obtain ⟨F, ⟨o, hf⟩, up⟩ := c.upd (i := 4) rfl
        have hm7 : h7[mb]? = some (.map es clock) := by
          rw [ch.same mb (Array.getElem?_eq_some_iff.mp (hmb c)).1 fun e => hne e.symm]; exact hmb c
        rw [e1] at hm7
        injection hm7 with hm7
        injection hm7 with q1 q2
        subst q1; subst q2
        exact up (B := rObj r (itO (D ++ [j]))) (F' := F) ⟨by rw [hO]; exact e3, hf⟩ (mv_same (ch.mono fun q _ e => (hf q).2 e))
      refine En.vb (v := .bool true) rfl ?_
      refine brt ?_
      refine En.vb hent ?_
      refine En.vb (v := .int .i64 p.1) rfl (En.vb (v := mI p.2) rfl ?_)
      refine En.vb (Mo.look (.inr (c.mp (i := 3) rfl)) p.1) ?_
      obtain ⟨y, ey, hy1, hy2⟩ : ∃ y : Int, mx (.int .i64 (at' zs p.1)) (mI p.2) = some (.int .i64 y) ∧ at' zs p.1 ≤ y ∧ p.2 ≤ y := by
        refine ⟨_, rfl, ?_, ?_⟩ <;> split <;> omega
      refine En.vb ey ?_
      refine c.mup 3 rfl p.1 y rfl fun h8 c => ?_
      have hDl : (D ++ [j]).length ≤ qs.length := it2.len
      refine hagain (D ++ [j], updA zs p.1 y) _ ⟨c, it2.nodup, it2.lt, (fun l => ?_), fun i hi p' hp' => ?_⟩ (by dsimp only; rw [List.length_append, List.length_singleton] at *; omega)
      · have h1 := hzp l
        rw [at_upd]
        split
        · rename_i e; subst e; omega
        · exact h1
      · rw [at_upd]
        rcases List.mem_append.1 hi with hi | hi
        · have h1 := hzq i hi p' hp'
          split
          · rename_i e; rw [e] at h1; omega
          · exact h1
        · rw [List.mem_singleton] at hi
          subst hi
          rw [hpj] at hp'
          injection hp' with hp'
          subst hp'
          rw [if_pos rfl]; exact hy2
structure CfB (S : Sys) (I : Ids) : Prop extends CfA S I where
  vAt : ∀ {B : Bs} {a : Option Nat} {f : Int → Int} {l : Int} {h R}, B.p h → VO B a f → (∀ h' n, 0 ≤ n → f l ≤ n → Gr h h' → R (.int .i64 n) h') → S.C I.f_view_View_At [vV a, .int .i64 l] h R
  vWith : ∀ {B : Bs} {a : Option Nat} {f : Int → Int} {l n : Int} {h R}, B.p h → VO B a f → (0 ≤ l ∧ l < 4096) → 0 ≤ n → (∀ b, Rt B h (fun B => VO B b (vset f l n)) fun h' => R (vV b) h') → S.C I.f_view_View_With [vV a, .int .i64 l, .int .i64 n] h R
  vJoin : ∀ {B : Bs} {a b : Option Nat} {f g : Int → Int} {h R}, B.p h → VO B a f → VO B b g → (∀ d, Rt B h (fun B => VO B d (vjoin f g)) fun h' => R (vV d) h') → S.C I.f_view_Join [vV a, vV b] h R
end
end Go.En
namespace Go.En

variable {S : Sys} {I : Ids} {h h0 h' : Hp} {F F0 : Fp} {R : Value → Hp → Prop} {L : List Res}
abbrev SH : Type := Option Addr × Nat × Nat
abbrev shV (u : SH) : Value := .slice u.1 u.2.1 u.2.2
theorem Ow.isH {α : Type} {E : Enc α} {v : Value} {xs : List α} (H : Ow E h v xs) : ∃ u : SH, v = shV u := by
  rcases H with ⟨rfl, _⟩ | ⟨r, o, cap, rfl, _⟩
  · exact ⟨(none, 0, 0), rfl⟩
  · exact ⟨(some ⟨r, o, none⟩, xs.length, cap), rfl⟩
/-- a message -/
structure Msg where
  w : W3
  t : Int
  a : Option Nat
def EMs : Enc Msg := { n := 5, c := fun m => [.int .i64 m.w.v, .int .u32 m.w.ver, .int .u32 m.w.ref, .int .i64 m.t, .map m.a], len := fun _ => rfl, one := fun a v h => by simp only [List.mem_cons, List.not_mem_nil, or_false] at h; rcases h with rfl | rfl | rfl | rfl | rfl <;> rfl }
def vMs (m : Msg) : Value := .agg ⟨EMs.c m⟩
abbrev M0 : Msg := ⟨W0, 0, none⟩
def EH1 : Enc SH := { n := 1, c := fun a => [shV a], len := fun _ => rfl, one := fun a v h => by simp only [List.mem_singleton] at h; subst h; rfl }
def vH (u : SH) : Value := .agg ⟨EH1.c u⟩
section
variable {u : SH} {ms : List Msg} {m l : Msg} {w : W3}
theorem bldH (u : SH) : bldS [(0, 1)] #[Value.slice none 0 0] [(0, shV u)] = some (vH u) := by kernel_rfl
theorem bldM1 (w : W3) : bldS [(0, 3), (3, 1), (4, 1)] #[Value.int IntKind.i64 0, Value.int IntKind.u32 0, Value.int IntKind.u32 0, Value.int IntKind.i64 0, Value.map none] [(0, mW w)] = some (vMs ⟨w, 0, none⟩) := by kernel_rfl
theorem bldM3 (w : W3) (t : Int) (a : Option Nat) : bldS [(0, 3), (3, 1), (4, 1)] #[Value.int IntKind.i64 0, Value.int IntKind.u32 0, Value.int IntKind.u32 0, Value.int IntKind.i64 0, Value.map none] [(0, mW w), (1, .int .i64 t), (2, vV a)] = some (vMs ⟨w, t, a⟩) := by kernel_rfl
theorem K_hNew (hR : ∀ u h', Gr h h' → Sl EMs h' (shV u) [⟨w, 0, none⟩] → R (vH u) h') : F_history_New S I (mW w) h R := by
  unfold F_history_New
  refine (Cx.start0 h).nw EW w rfl fun r1 h1 c => ?_
  refine c.nw EH1 (none, 0, 0) rfl fun r2 h2 c => ?_
  rw [show lda 3 (at0 r1) h2 = some (mW w) from (c.va (i := 0) rfl).whole rfl, vb_some, bldM1, vb_some]
  refine c.bsl1 EMs ⟨w, 0, none⟩ rfl rfl fun v h3 c => ?_
  obtain ⟨u, rfl⟩ := (c.sl (i := 2) rfl).isH
  rw [bldH, vb_some]
  refine c.sto 1 rfl u rfl rfl fun h4 c => ?_
  rw [show lda 1 (at0 r2) h4 = some (vH u) from (c.va (i := 1) rfl).whole rfl, vb_some]
  exact hR u _ c.gr (c.sl (i := 2) rfl).sl
theorem K_hLen (H : Sl EMs h (shV u) ms) (hR : ∀ h', Gr h h' → R (.int .i64 ms.length) h') : F_history_History_Len S I (vH u) h R := by
  unfold F_history_History_Len
  refine (Cx.start0 h).nw EH1 u rfl fun r1 h1 c => ?_
  refine (c.va (i := 0) rfl).fld (j := 0) rfl ?_
  rw [(H.gr c.gr).ln, vb_some]
  exact hR _ c.gr
theorem K_hAt {i : Nat} (H : Sl EMs h (shV u) ms) (hm : ms[i]? = some m) (hR : ∀ h', Gr h h' → R (.tuple #[vMs m, .bool true]) h') : F_history_History_At S I (vH u) (.int .i64 i) h R := by
  have hlt := (List.getElem?_eq_some_iff.1 hm).1
  unfold F_history_History_At
  refine (Cx.start0 h).nw EH1 u rfl fun r1 h1 c => ?_
  refine c.nw EMs M0 rfl fun r2 h2 c => ?_
  refine Jn1.at (fun v h' => v = .bool false ∧ h' = h2) ?_ ?_
  · rw [bin_lss, vb_some]
    refine brd (fun e => by omega) fun _ => ?_
    refine (c.va (i := 0) rfl).fld (j := 0) rfl ?_
    rw [(H.gr c.gr).ln, vb_some, bin_geq, vb_some]
    exact ⟨by rw [decide_eq_false]; omega, rfl⟩
  rintro v h3 ⟨rfl, rfl⟩
  rw [br_false]
  refine (c.va (i := 0) rfl).fld (j := 0) rfl ?_
  refine (H.gr c.gr).whole rfl hm rfl ?_
  refine c.sto 1 rfl m rfl rfl fun h4 c => ?_
  rw [show lda 5 (at0 r2) h4 = some (vMs m) from (c.va (i := 1) rfl).whole rfl, vb_some]
  exact hR _ c.gr
structure CfC (S : Sys) (I : Ids) : Prop extends CfB S I where
  hNew : ∀ {w : W3} {h R}, (∀ u h', Gr h h' → Sl EMs h' (shV u) [⟨w, 0, none⟩] → R (vH u) h') → S.C I.f_history_New [mW w] h R
  hLen : ∀ {u : SH} {ms : List Msg} {h R}, Sl EMs h (shV u) ms → (∀ h', Gr h h' → R (.int .i64 ms.length) h') → S.C I.f_history_History_Len [vH u] h R
  hAt : ∀ {u : SH} {ms : List Msg} {m : Msg} {i : Nat} {h R}, Sl EMs h (shV u) ms → ms[i]? = some m → (∀ h', Gr h h' → R (.tuple #[vMs m, .bool true]) h') → S.C I.f_history_History_At [vH u, .int .i64 i] h R
  hClip : ∀ {v : Value} {h R}, F_slices_Clip_history_Message_history_Message S I v h R → S.C I.f_slices_Clip_history_Message_history_Message [v] h R
theorem K_hLast (cs : CfC S I) (H : Sl EMs h (shV u) (ms ++ [l])) (hb : ms.length ≤ 1000000) (hR : ∀ h', Gr h h' → R (vMs l) h') : F_history_History_Last S I (vH u) h R := by
  unfold F_history_History_Last
  refine (Cx.start0 h).nw EH1 u rfl fun r1 h1 c => ?_
  refine c.nw EMs M0 rfl fun r2 h2 c => ?_
  rw [show lda 1 (at0 r1) h2 = some (vH u) from (c.va (i := 0) rfl).whole rfl, vb_some]
  refine (c.va (i := 0) rfl).fld (j := 0) rfl ?_
  rw [(H.gr c.gr).ln, vb_some, List.length_append, List.length_singleton, subI ⟨by omega, by omega⟩, vb_some]
  rw [show ((ms.length + 1 : Nat) : Int) - 1 = (ms.length : Nat) by omega]
  refine cs.hAt (H.gr c.gr) (i := ms.length) (m := l) (by simp) fun h3 g => ?_
  have c := c.more g
  refine ext0t (ext1t ?_)
  refine c.nw EMs M0 rfl fun r3 h4 c => ?_
  refine c.sto 2 rfl l rfl rfl fun h5 c => ?_
  rw [show lda 5 (at0 r3) h5 = some (vMs l) from (c.va (i := 2) rfl).whole rfl, vb_some]
  refine c.sto 1 rfl l rfl rfl fun h6 c => ?_
  rw [show lda 5 (at0 r2) h6 = some (vMs l) from (c.va (i := 1) rfl).whole rfl, vb_some]
  exact hR _ c.gr
theorem K_hAdd (cs : CfC S I) (H : Sl EMs h (shV u) ms) (hb : ms.length ≤ 1000000) (hR : ∀ u' h', Cx (fun _ => False) h h' [rSl EMs (shV u') (ms ++ [m])] → R (vH u') h') : F_history_History_Add S I (vH u) (vMs m) h R := by
  unfold F_history_History_Add
  refine (Cx.start0 h).nw EH1 u rfl fun r1 h1 c => ?_
  refine c.nw EMs m rfl fun r2 h2 c => ?_
  refine c.nw EH1 (none, 0, 0) rfl fun r3 h3 c => ?_
  refine .here ?_
  rw [show fa 0 (at0 r1) = some (.pointer (some ⟨r1, 0 + 0, none⟩)) from fa_add _ _ _, vb_some, show ldc (.pointer (some ⟨r1, 0 + 0, none⟩)) h3 = some (shV u) from (c.va (i := 0) rfl).row.ldc (j := 0) rfl, vb_some, show lda 5 (at0 r2) h3 = some (vMs m) from (c.va (i := 1) rfl).whole rfl, vb_some]
  obtain ⟨a, e, Hc⟩ := H.clip (n := 5) (k := .i64) (k' := .i64) rfl rfl (Nat.le_refl _)
  rw [List.take_length] at e Hc
  have fin : ∀ (v9 : Value) h6, Cx (fun _ => False) h h6 [rVar EH1 r1 u, rVar EMs r2 m, rVar EH1 r3 (none, 0, 0), rSl EMs v9 [m]] → Ap I.t_history_Message #[Value.int IntKind.i64 0, Value.int IntKind.u32 0, Value.int IntKind.u32 0, Value.int IntKind.i64 0, Value.map none] 5 32 (.slice a ms.length ms.length) v9 h6 fun v10 h7 =>
    Vb (bldS [(0, 1)] #[Value.slice none 0 0] [(0, v10)]) fun v11 =>
    Sb (sto 1 (at0 r3) v11 h7) fun h8 => Vb (lda 1 (at0 r3) h8) fun r0 => R r0 h8 := fun v9 h6 c => by
    refine c.apc (Hc.gr c.gr) (c.sl (i := 3) rfl).sl (by simp) rfl rfl (by rw [List.length_singleton]; omega) (by rw [List.length_singleton]; omega) fun v10 h7 c => ?_
    obtain ⟨u', rfl⟩ := (c.sl (i := 4) rfl).isH
    rw [bldH, vb_some]
    refine c.sto 2 rfl u' rfl rfl fun h8 c => ?_
    rw [show lda 1 (at0 r3) h8 = some (vH u') from (c.va (i := 2) rfl).whole rfl, vb_some]
    exact hR u' _ (c.pick [4])
  refine And.intro ?_ ?_
  · refine cs.hClip ?_
    unfold F_slices_Clip_history_Message_history_Message
    rw [(H.gr c.gr).ln, vb_some, vb_some, e, vb_some]
    refine ⟨(c.va (i := 1) rfl).whole rfl, ?_⟩
    refine c.bsl1 EMs m rfl rfl fun v9 h6 c => ?_
    exact fin v9 h6 c
  · refine c.bsl1 EMs m rfl rfl fun v9 h6 c => ?_
    refine ⟨(c.va (i := 0) rfl).row.ldc (j := 0) rfl, ?_⟩
    refine cs.hClip ?_
    unfold F_slices_Clip_history_Message_history_Message
    rw [(H.gr c.gr).ln, vb_some, vb_some, e, vb_some]
    exact fin v9 h6 c
end
end Go.En
