/-
  The readers. (Steps printed by wip/tools/walk.py from EqL.src.)
  Sorting of few numbers; bags of retired blocks. (Steps printed by wip/tools/walk.py from EqM.src.)
  Bags of retired blocks. (Steps printed by wip/tools/walk.py from EqN.src.)
-/
import Derived.Test.YtcepckpfhbcobaaGreatDoorXH
import Derived.Test.YtcepckpfhbcobaaGreatDoorXE
import Derived.Test.YtcepckpfhbcobaaGreatDoorXD
import Derived.Sort.Lot0
namespace Go.En
open Go.Ep

variable {S : Sys} {I : Ids} {h h0 h' : Hp} {F F0 : Fp} {R : Value → Hp → Prop} {L : List Res} {B B' : Bs}
def vRd (t : Nat) (left phase rests : Int) (now : Value) (era found held : Int) : Value := .agg #[.int .i64 3, .int .i64 8, .int .i64 0, .int .i64 t, .int .i64 left, .int .i64 phase, .int .i64 rests, now, .int .i64 era, .int .i64 found, .int .i64 held]
def isFin : RS → Bool
  | .fin => true
  | _ => false
/-- the act that a reader waits for -/
def akR (t : Nat) : RS → Ak
  | .a => .look 1
  | .b f => .put (8 * t) ⟨f, 0, 0⟩ true
  | .c _ => .look 1
  | .d _ => .look 56
  | .e _ _ => .look 1
  | .f _ _ _ => .rest
  | .g => .put (8 * t) W0 true
  | .fin => .rest
/-- what a reader's value is -/
def RV (I : Ids) (t : Nat) (r : Rd) (v : Value) : Prop := (-100 ≤ r.left ∧ r.left ≤ 100) ∧
  match r.st with
  | .a => ∃ rests era found tm tr fd, v = vRd t r.left 0 rests (.iface I.t_era_code (vEc ⟨1, 8 * t, fd, tm, tr, false, I.f_era_code_announce⟩)) era found 0
  | .b f => ∃ rests era found tm tr, v = vRd t r.left 0 rests (.iface I.t_era_code (vEc ⟨1, 8 * t, ⟨f, 0, 0⟩, tm, tr, false, I.f_era_code_announce_1⟩)) era found 0
  | .c f => ∃ rests era found tm tr, v = vRd t r.left 0 rests (.iface I.t_era_code (vEc ⟨1, 8 * t, ⟨f, 0, 0⟩, tm, tr, false, I.f_era_code_compare⟩)) era found 0
  | .d e => ∃ rests found, v = vRd t r.left 1 rests .nilIface e found 0
  | .e e x => ∃ rests, v = vRd t r.left 2 rests .nilIface e x 0
  | .f e x k => v = vRd t r.left 3 k .nilIface e x x ∧ k ≤ 2
  | .g => ∃ rests era found tm tr fd, v = vRd t r.left 4 rests (.iface I.t_era_code (vEc ⟨1, 8 * t, fd, tm, tr, false, I.f_era_Leave_1_1⟩)) era found 0
  | .fin => ∃ phase rests era found now, v = vRd t r.left phase rests now era found 0 ∧ now.oneCell' = true
/-- a reader's step, by the value that it is given -/
def stepV (x : Int) (r : Rd) : Rd :=
  match r.st with
  | .a => { r with st := .b x }
  | .b f => { r with st := .c f }
  | .c f => if x = f then { r with st := .d f } else { r with st := .b x }
  | .d e => { r with st := .e e x }
  | .e e v => if x = e then { r with st := .f e v 2 } else { r with st := .a }
  | .f e v (k + 1) => { r with st := .f e v k }
  | .f _ _ 0 => { r with st := .g }
  | .g => rgo (r.left - 1)
  | .fin => r
structure CrA (S : Sys) (I : Ids) : Prop extends CqC S I, CkC S I, CeH S I where
  enter : ∀ {t : Nat}, 1 ≤ t ∧ t ≤ 3 → Pz S I.f_era_Enter [vL, .int .i64 t] (.tuple #[.iface I.t_era_code (vEc ⟨1, 8 * t, W0, 0, false, false, I.f_era_Enter_1⟩), .int .i64 0])
  leave : ∀ {t : Nat}, 1 ≤ t ∧ t ≤ 3 → Pz S I.f_era_Leave [vL, .int .i64 t] (.tuple #[.iface I.t_era_code (vEc ⟨1, 8 * t, W0, 0, false, false, I.f_era_Leave_1⟩), .int .i64 0])
  advance : Pz S I.f_era_Advance [vL] (.tuple #[.iface I.t_era_code (vEc ⟨1, 0, W0, 0, false, false, I.f_era_Advance_1⟩), .int .i64 0])
  eraOf : ∀ {x : EC}, x.over = true → Pv S I.f_era_Era [.iface I.t_era_code (vEc x)] (.tuple #[.int .i64 x.time, .bool true])
  mtE : I.mt I.t_era_code "Next" = some I.f_era_code_Next
section
variable {t : Nat} {r : Rd} {v : Value} {g : Go4} {left phase rests era found held : Int} {x y : EC} {a : Ac}
theorem K_rrun (cs : CrA S I) (ho : x.over = false) (hc : Pv S x.nx [vEc x, vGo Go0] (.tuple #[vEc y, vAc a])) (hR : ∀ h', Gr h h' → R (.tuple #[.iface I.t_simulcasttop_epochReader (vRd t left phase rests (.iface I.t_era_code (vEc y)) era found held), vAc a, .bool y.over]) h') : F_simulcasttop_epochReader_run S I (vRd t left phase rests .nilIface era found held) (.iface I.t_era_code (vEc x)) (.int .i64 0) h R := by
  unfold F_simulcasttop_epochReader_run
  have c := Cx.start0 h
  refine c.nv (cs := [_, _, _, _, _, _, _, _, _, _, _]) rfl rfl fun r3_ _ c => ?_
  replace c : Cx _ _ _ [_] := c
  refine c.nv (cs := [_, _, _, _, _, _, _, _]) rfl rfl fun v7_ _ c => ?_
  replace c : Cx _ _ _ [_, _] := c
  refine En.vb (v := .bool false) rfl ?_
  refine brf ?_
  refine En.vb (bldS_ok (ds := [_, _, _, _]) rfl) ?_
  refine ⟨_, _, _, rfl, cs.mtE, cs.ecNext (x := x) (y := y) (q := Go0) ho hc _ _ fun _ g => ?_⟩
  have c := c.more g
  replace c : Cx _ _ _ [_, _] := c
  refine En.vb rfl ?_
  refine En.vb rfl ?_
  refine En.vb rfl ?_
  refine c.nv (cs := [_, _, _, _, _, _, _, _]) rfl rfl fun a10_ _ c => ?_
  replace c : Cx _ _ _ [_, _, _] := c
  refine c.vw 2 rfl (vs := [_, _, _, _, _, _, _, _]) (by exact rfl) (by exact rfl) (by exact rfl) (by exact rfl) fun _ c => ?_
  replace c : Cx _ _ _ [_, _, _] := c
  refine En.vb (fa_add _ _ _) ?_
  refine c.vq 0 rfl (vs := [_]) (ds := [_, _, _, _, _, _, _, _, _, _, _]) (by exact rfl) (by exact rfl) (by exact rfl) (by exact rfl) (by exact rfl) fun _ c => ?_
  replace c : Cx _ _ _ [_, _, _] := c
  refine En.vb (c.vl (i := 0) rfl rfl) ?_
  refine En.vb rfl ?_
  refine En.vb (c.vl (i := 2) rfl rfl) ?_
  refine c.vw 1 rfl (vs := [_, _, _, _, _, _, _, _]) (by exact rfl) (by exact rfl) (by exact rfl) (by exact rfl) fun _ c => ?_
  replace c : Cx _ _ _ [_, _, _] := c
  refine En.vb (c.vl (i := 1) rfl rfl) ?_
  exact hR _ c.gr
structure CrB (S : Sys) (I : Ids) : Prop extends CrA S I where
  rrun : ∀ {t : Nat} {left phase rests era found held : Int} {x y : EC} {a : Ac} {h} {R : Value → Hp → Prop}, x.over = false → Pv S x.nx [vEc x, vGo Go0] (.tuple #[vEc y, vAc a]) → (∀ h', Gr h h' → R (.tuple #[.iface I.t_simulcasttop_epochReader (vRd t left phase rests (.iface I.t_era_code (vEc y)) era found held), vAc a, .bool y.over]) h') →
    S.C I.f_simulcasttop_epochReader_run [vRd t left phase rests .nilIface era found held, .iface I.t_era_code (vEc x), .int .i64 0] h R
theorem K_rNext (cs : CrB S I) (Z : Zs h) (ht : 1 ≤ t ∧ t ≤ 3) (H : RV I t r v) (hl : 1 ≤ r.left) (hn : r.st ≠ .fin) (hR : ∀ v', RV I t (stepV g.w.v r) v' → ∀ h', Gr h h' → R (.tuple #[.iface I.t_simulcasttop_epochReader v', vAc (akR t (stepV g.w.v r).st).ac, .bool (isFin (stepV g.w.v r).st)]) h') : F_simulcasttop_epochReader_Next S I v (vGo g) h R := by
  obtain ⟨st, left⟩ := r
  obtain ⟨hb, H⟩ := H
  dsimp only at hb hl
  cases st with
  | a =>
    obtain ⟨rests, era, found, tm, tr, fd, rfl⟩ := H
    unfold F_simulcasttop_epochReader_Next
    have c := Cx.start0 h
    refine c.nv (cs := [_, _, _, _, _, _, _, _, _, _, _]) rfl rfl fun r2_ _ c => ?_
    replace c : Cx _ _ _ [_] := c
    refine c.nv (cs := [_, _, _, _]) rfl rfl fun g3_ _ c => ?_
    replace c : Cx _ _ _ [_, _] := c
    refine c.nv (cs := [_, _, _, _, _, _, _, _]) rfl rfl fun v5_ _ c => ?_
    replace c : Cx _ _ _ [_, _, _] := c
    refine .here ?_
    refine En.vb (fa_add _ _ _) ?_
    refine En.vb (c.vc (i := 0) rfl rfl) ?_
    refine En.vb (v := .bool true) (rfl) ?_
    refine brt ?_
    refine En.vb (fa_add _ _ _) ?_
    refine En.vb (c.vc (i := 0) rfl rfl) ?_
    refine En.vb (c.vl (i := 1) rfl rfl) ?_
    refine ⟨_, _, _, rfl, cs.mtE, cs.ecNext (q := g) rfl cs.eann _ _ fun _ gg => ?_⟩
    have c := c.more gg
    replace c : Cx _ _ _ [_, _, _] := c
    refine En.vb rfl ?_
    refine En.vb rfl ?_
    refine En.vb rfl ?_
    refine c.nv (cs := [_, _, _, _, _, _, _, _]) rfl rfl fun a8_ _ c => ?_
    replace c : Cx _ _ _ [_, _, _, _] := c
    refine c.vw 3 rfl (vs := [_, _, _, _, _, _, _, _]) (by exact rfl) (by exact rfl) (by exact rfl) (by exact rfl) fun _ c => ?_
    replace c : Cx _ _ _ [_, _, _, _] := c
    refine En.vb (fa_add _ _ _) ?_
    refine c.vq 0 rfl (vs := [_]) (ds := [_, _, _, _, _, _, _, _, _, _, _]) (by exact rfl) (by exact rfl) (by exact rfl) (by exact rfl) (by exact rfl) fun _ c => ?_
    replace c : Cx _ _ _ [_, _, _, _] := c
    refine En.vb (v := .bool true) (rfl) ?_
    refine brt ?_
    refine En.vb (c.vl (i := 0) rfl rfl) ?_
    refine En.vb rfl ?_
    refine En.vb (c.vl (i := 3) rfl rfl) ?_
    refine c.vw 2 rfl (vs := [_, _, _, _, _, _, _, _]) (by exact rfl) (by exact rfl) (by exact rfl) (by exact rfl) fun _ c => ?_
    replace c : Cx _ _ _ [_, _, _, _] := c
    refine En.vb (c.vl (i := 2) rfl rfl) ?_
    exact hR _ ⟨hb, _, _, _, _, _, rfl⟩ _ c.gr
  | b f =>
    obtain ⟨rests, era, found, tm, tr, rfl⟩ := H
    unfold F_simulcasttop_epochReader_Next
    have c := Cx.start0 h
    refine c.nv (cs := [_, _, _, _, _, _, _, _, _, _, _]) rfl rfl fun r2_ _ c => ?_
    replace c : Cx _ _ _ [_] := c
    refine c.nv (cs := [_, _, _, _]) rfl rfl fun g3_ _ c => ?_
    replace c : Cx _ _ _ [_, _] := c
    refine c.nv (cs := [_, _, _, _, _, _, _, _]) rfl rfl fun v5_ _ c => ?_
    replace c : Cx _ _ _ [_, _, _] := c
    refine .here ?_
    refine En.vb (fa_add _ _ _) ?_
    refine En.vb (c.vc (i := 0) rfl rfl) ?_
    refine En.vb (v := .bool true) (rfl) ?_
    refine brt ?_
    refine En.vb (fa_add _ _ _) ?_
    refine En.vb (c.vc (i := 0) rfl rfl) ?_
    refine En.vb (c.vl (i := 1) rfl rfl) ?_
    refine ⟨_, _, _, rfl, cs.mtE, cs.ecNext (q := g) rfl cs.ann1 _ _ fun _ gg => ?_⟩
    have c := c.more gg
    replace c : Cx _ _ _ [_, _, _] := c
    refine En.vb rfl ?_
    refine En.vb rfl ?_
    refine En.vb rfl ?_
    refine c.nv (cs := [_, _, _, _, _, _, _, _]) rfl rfl fun a8_ _ c => ?_
    replace c : Cx _ _ _ [_, _, _, _] := c
    refine c.vw 3 rfl (vs := [_, _, _, _, _, _, _, _]) (by exact rfl) (by exact rfl) (by exact rfl) (by exact rfl) fun _ c => ?_
    replace c : Cx _ _ _ [_, _, _, _] := c
    refine En.vb (fa_add _ _ _) ?_
    refine c.vq 0 rfl (vs := [_]) (ds := [_, _, _, _, _, _, _, _, _, _, _]) (by exact rfl) (by exact rfl) (by exact rfl) (by exact rfl) (by exact rfl) fun _ c => ?_
    replace c : Cx _ _ _ [_, _, _, _] := c
    refine En.vb (v := .bool true) (rfl) ?_
    refine brt ?_
    refine En.vb (c.vl (i := 0) rfl rfl) ?_
    refine En.vb rfl ?_
    refine En.vb (c.vl (i := 3) rfl rfl) ?_
    refine c.vw 2 rfl (vs := [_, _, _, _, _, _, _, _]) (by exact rfl) (by exact rfl) (by exact rfl) (by exact rfl) fun _ c => ?_
    replace c : Cx _ _ _ [_, _, _, _] := c
    refine En.vb (c.vl (i := 2) rfl rfl) ?_
    exact hR _ ⟨hb, _, _, _, _, _, rfl⟩ _ c.gr
  | c f =>
    obtain ⟨rests, era, found, tm, tr, rfl⟩ := H
    by_cases e : g.w.v = f
    · have hp : Pv S I.f_era_code_compare [vEc ⟨1, 8 * t, ⟨f, 0, 0⟩, tm, tr, false, I.f_era_code_compare⟩, vGo g] (.tuple #[vEc ⟨1, 8 * t, ⟨f, 0, 0⟩, f, tr, true, I.f_era_code_compare⟩, vAc Ac0]) := by
        have := cs.compare (x := ⟨1, 8 * t, ⟨f, 0, 0⟩, tm, tr, false, I.f_era_code_compare⟩) (q := g)
        rwa [if_pos e] at this
      have es : stepV g.w.v ⟨.c f, left⟩ = ⟨.d f, left⟩ := by
        show (if g.w.v = f then (⟨.d f, left⟩ : Rd) else ⟨.b g.w.v, left⟩) = _
        rw [if_pos e]
      rw [es] at hR
      unfold F_simulcasttop_epochReader_Next
      have c := Cx.start0 h
      refine c.nv (cs := [_, _, _, _, _, _, _, _, _, _, _]) rfl rfl fun r2_ _ c => ?_
      replace c : Cx _ _ _ [_] := c
      refine c.nv (cs := [_, _, _, _]) rfl rfl fun g3_ _ c => ?_
      replace c : Cx _ _ _ [_, _] := c
      refine c.nv (cs := [_, _, _, _, _, _, _, _]) rfl rfl fun v5_ _ c => ?_
      replace c : Cx _ _ _ [_, _, _] := c
      refine .here ?_
      refine En.vb (fa_add _ _ _) ?_
      refine En.vb (c.vc (i := 0) rfl rfl) ?_
      refine En.vb (v := .bool true) (rfl) ?_
      refine brt ?_
      refine En.vb (fa_add _ _ _) ?_
      refine En.vb (c.vc (i := 0) rfl rfl) ?_
      refine En.vb (c.vl (i := 1) rfl rfl) ?_
      refine ⟨_, _, _, rfl, cs.mtE, cs.ecNext (q := g) rfl hp _ _ fun _ gg => ?_⟩
      have c := c.more gg
      replace c : Cx _ _ _ [_, _, _] := c
      refine En.vb rfl ?_
      refine En.vb rfl ?_
      refine En.vb rfl ?_
      refine c.nv (cs := [_, _, _, _, _, _, _, _]) rfl rfl fun a8_ _ c => ?_
      replace c : Cx _ _ _ [_, _, _, _] := c
      refine c.vw 3 rfl (vs := [_, _, _, _, _, _, _, _]) (by exact rfl) (by exact rfl) (by exact rfl) (by exact rfl) fun _ c => ?_
      replace c : Cx _ _ _ [_, _, _, _] := c
      refine En.vb (fa_add _ _ _) ?_
      refine c.vq 0 rfl (vs := [_]) (ds := [_, _, _, _, _, _, _, _, _, _, _]) (by exact rfl) (by exact rfl) (by exact rfl) (by exact rfl) (by exact rfl) fun _ c => ?_
      replace c : Cx _ _ _ [_, _, _, _] := c
      refine En.vb (v := .bool false) (rfl) ?_
      refine brf ?_
      refine cs.eraOf (x := ⟨1, 8 * t, ⟨f, 0, 0⟩, f, tr, true, I.f_era_code_compare⟩) rfl _ _ fun _ gg => ?_
      have c := c.more gg
      replace c : Cx _ _ _ [_, _, _, _] := c
      refine En.vb rfl ?_
      refine En.vb rfl ?_
      refine En.vb (fa_add _ _ _) ?_
      refine c.vq 0 rfl (vs := [_]) (ds := [_, _, _, _, _, _, _, _, _, _, _]) (by exact rfl) (by exact rfl) (by exact rfl) (by exact rfl) (by exact rfl) fun _ c => ?_
      replace c : Cx _ _ _ [_, _, _, _] := c
      refine En.vb (fa_add _ _ _) ?_
      refine c.vq 0 rfl (vs := [_]) (ds := [_, _, _, _, _, _, _, _, _, _, _]) (by exact rfl) (by exact rfl) (by exact rfl) (by exact rfl) (by exact rfl) fun _ c => ?_
      replace c : Cx _ _ _ [_, _, _, _] := c
      refine En.vb (fa_add _ _ _) ?_
      refine En.vb (c.vc (i := 0) rfl rfl) ?_
      refine En.vb (v := .bool true) rfl ?_
      refine brt ?_
      refine En.vb (fa_add _ _ _) ?_
      refine c.vq 0 rfl (vs := [_]) (ds := [_, _, _, _, _, _, _, _, _, _, _]) (by exact rfl) (by exact rfl) (by exact rfl) (by exact rfl) (by exact rfl) fun _ c => ?_
      replace c : Cx _ _ _ [_, _, _, _] := c
      refine En.vb (c.vl (i := 0) rfl rfl) ?_
      refine En.vb rfl ?_
      refine En.vb (fa_add _ _ _) ?_
      refine En.vb (c.vp (i := 0) (ds := [_, _, _]) rfl rfl rfl) ?_
      refine cs.cell (i := 0) (by decide) _ _ (Z.gr c.gr) fun _ g => ?_
      have c := c.more g
      replace c : Cx _ _ _ [_, _, _, _] := c
      refine And.intro (c.vl (i := 0) rfl rfl) ?_
      refine En.vb (bldS_ok (ds := [_, _, _, _, _, _, _, _]) rfl) ?_
      refine c.vw 2 rfl (vs := [_, _, _, _, _, _, _, _]) (by exact rfl) (by exact rfl) (by exact rfl) (by exact rfl) fun _ c => ?_
      replace c : Cx _ _ _ [_, _, _, _] := c
      refine En.vb (c.vl (i := 2) rfl rfl) ?_
      exact hR _ ⟨hb, _, _, rfl⟩ _ c.gr
    · have hp : Pv S I.f_era_code_compare [vEc ⟨1, 8 * t, ⟨f, 0, 0⟩, tm, tr, false, I.f_era_code_compare⟩, vGo g] (.tuple #[vEc ⟨1, 8 * t, ⟨g.w.v, 0, 0⟩, tm, tr, false, I.f_era_code_announce_1⟩, vAc ⟨4, 8 * t, W0, ⟨g.w.v, 0, 0⟩⟩]) := by
        have := cs.compare (x := ⟨1, 8 * t, ⟨f, 0, 0⟩, tm, tr, false, I.f_era_code_compare⟩) (q := g)
        rwa [if_neg e] at this
      have es : stepV g.w.v ⟨.c f, left⟩ = ⟨.b g.w.v, left⟩ := by
        show (if g.w.v = f then (⟨.d f, left⟩ : Rd) else ⟨.b g.w.v, left⟩) = _
        rw [if_neg e]
      rw [es] at hR
      unfold F_simulcasttop_epochReader_Next
      have c := Cx.start0 h
      refine c.nv (cs := [_, _, _, _, _, _, _, _, _, _, _]) rfl rfl fun r2_ _ c => ?_
      replace c : Cx _ _ _ [_] := c
      refine c.nv (cs := [_, _, _, _]) rfl rfl fun g3_ _ c => ?_
      replace c : Cx _ _ _ [_, _] := c
      refine c.nv (cs := [_, _, _, _, _, _, _, _]) rfl rfl fun v5_ _ c => ?_
      replace c : Cx _ _ _ [_, _, _] := c
      refine .here ?_
      refine En.vb (fa_add _ _ _) ?_
      refine En.vb (c.vc (i := 0) rfl rfl) ?_
      refine En.vb (v := .bool true) (rfl) ?_
      refine brt ?_
      refine En.vb (fa_add _ _ _) ?_
      refine En.vb (c.vc (i := 0) rfl rfl) ?_
      refine En.vb (c.vl (i := 1) rfl rfl) ?_
      refine ⟨_, _, _, rfl, cs.mtE, cs.ecNext (q := g) rfl hp _ _ fun _ gg => ?_⟩
      have c := c.more gg
      replace c : Cx _ _ _ [_, _, _] := c
      refine En.vb rfl ?_
      refine En.vb rfl ?_
      refine En.vb rfl ?_
      refine c.nv (cs := [_, _, _, _, _, _, _, _]) rfl rfl fun a8_ _ c => ?_
      replace c : Cx _ _ _ [_, _, _, _] := c
      refine c.vw 3 rfl (vs := [_, _, _, _, _, _, _, _]) (by exact rfl) (by exact rfl) (by exact rfl) (by exact rfl) fun _ c => ?_
      replace c : Cx _ _ _ [_, _, _, _] := c
      refine En.vb (fa_add _ _ _) ?_
      refine c.vq 0 rfl (vs := [_]) (ds := [_, _, _, _, _, _, _, _, _, _, _]) (by exact rfl) (by exact rfl) (by exact rfl) (by exact rfl) (by exact rfl) fun _ c => ?_
      replace c : Cx _ _ _ [_, _, _, _] := c
      refine En.vb (v := .bool true) (rfl) ?_
      refine brt ?_
      refine En.vb (c.vl (i := 0) rfl rfl) ?_
      refine En.vb rfl ?_
      refine En.vb (c.vl (i := 3) rfl rfl) ?_
      refine c.vw 2 rfl (vs := [_, _, _, _, _, _, _, _]) (by exact rfl) (by exact rfl) (by exact rfl) (by exact rfl) fun _ c => ?_
      replace c : Cx _ _ _ [_, _, _, _] := c
      refine En.vb (c.vl (i := 2) rfl rfl) ?_
      exact hR _ ⟨hb, _, _, _, _, _, rfl⟩ _ c.gr
  | d e =>
    obtain ⟨rests, found, rfl⟩ := H
    unfold F_simulcasttop_epochReader_Next
    have c := Cx.start0 h
    refine c.nv (cs := [_, _, _, _, _, _, _, _, _, _, _]) rfl rfl fun r2_ _ c => ?_
    replace c : Cx _ _ _ [_] := c
    refine c.nv (cs := [_, _, _, _]) rfl rfl fun g3_ _ c => ?_
    replace c : Cx _ _ _ [_, _] := c
    refine c.nv (cs := [_, _, _, _, _, _, _, _]) rfl rfl fun v5_ _ c => ?_
    replace c : Cx _ _ _ [_, _, _] := c
    refine .here ?_
    refine En.vb (fa_add _ _ _) ?_
    refine En.vb (c.vc (i := 0) rfl rfl) ?_
    refine En.vb (v := .bool false) (rfl) ?_
    refine brf ?_
    refine .here ?_
    refine En.vb (fa_add _ _ _) ?_
    refine En.vb (c.vc (i := 0) rfl rfl) ?_
    refine En.vb (v := .bool false) rfl ?_
    refine brf ?_
    refine En.vb (v := .bool true) rfl ?_
    refine brt ?_
    refine En.vb (fa_add _ _ _) ?_
    refine En.vb (fa_add _ _ _) ?_
    refine En.vb (c.vc (i := 1) rfl rfl) ?_
    refine En.vb (fa_add _ _ _) ?_
    refine c.vq 0 rfl (vs := [_]) (ds := [_, _, _, _, _, _, _, _, _, _, _]) (by exact rfl) (by exact rfl) (by exact rfl) (by exact rfl) (by exact rfl) fun _ c => ?_
    replace c : Cx _ _ _ [_, _, _] := c
    refine En.vb (fa_add _ _ _) ?_
    refine c.vq 0 rfl (vs := [_]) (ds := [_, _, _, _, _, _, _, _, _, _, _]) (by exact rfl) (by exact rfl) (by exact rfl) (by exact rfl) (by exact rfl) fun _ c => ?_
    replace c : Cx _ _ _ [_, _, _] := c
    refine En.vb (c.vl (i := 0) rfl rfl) ?_
    refine En.vb rfl ?_
    refine En.vb (fa_add _ _ _) ?_
    refine En.vb (c.vp (i := 0) (ds := [_, _, _]) rfl rfl rfl) ?_
    refine cs.era _ _ (Z.gr c.gr) fun _ g => ?_
    have c := c.more g
    replace c : Cx _ _ _ [_, _, _] := c
    refine And.intro (c.vl (i := 0) rfl rfl) ?_
    refine En.vb (bldS_ok (ds := [_, _, _, _, _, _, _, _]) rfl) ?_
    refine c.vw 2 rfl (vs := [_, _, _, _, _, _, _, _]) (by exact rfl) (by exact rfl) (by exact rfl) (by exact rfl) fun _ c => ?_
    replace c : Cx _ _ _ [_, _, _] := c
    refine En.vb (c.vl (i := 2) rfl rfl) ?_
    exact hR _ ⟨hb, _, rfl⟩ _ c.gr
  | e e x =>
    obtain ⟨rests, rfl⟩ := H
    by_cases ee : g.w.v = e
    · have es : stepV g.w.v ⟨.e e x, left⟩ = ⟨.f e x 2, left⟩ := by
        show (if g.w.v = e then (⟨.f e x 2, left⟩ : Rd) else ⟨.a, left⟩) = _
        rw [if_pos ee]
      rw [es] at hR
      unfold F_simulcasttop_epochReader_Next
      have c := Cx.start0 h
      refine c.nv (cs := [_, _, _, _, _, _, _, _, _, _, _]) rfl rfl fun r2_ _ c => ?_
      replace c : Cx _ _ _ [_] := c
      refine c.nv (cs := [_, _, _, _]) rfl rfl fun g3_ _ c => ?_
      replace c : Cx _ _ _ [_, _] := c
      refine c.nv (cs := [_, _, _, _, _, _, _, _]) rfl rfl fun v5_ _ c => ?_
      replace c : Cx _ _ _ [_, _, _] := c
      refine .here ?_
      refine En.vb (fa_add _ _ _) ?_
      refine En.vb (c.vc (i := 0) rfl rfl) ?_
      refine En.vb (v := .bool false) (rfl) ?_
      refine brf ?_
      refine .here ?_
      refine En.vb (fa_add _ _ _) ?_
      refine En.vb (c.vc (i := 0) rfl rfl) ?_
      refine En.vb (v := .bool false) rfl ?_
      refine brf ?_
      refine En.vb (v := .bool false) rfl ?_
      refine brf ?_
      refine En.vb (v := .bool true) rfl ?_
      refine brt ?_
      refine En.vb (fa_add _ _ _) ?_
      refine En.vb (fa_add _ _ _) ?_
      refine En.vb (c.vc (i := 1) rfl rfl) ?_
      refine En.vb (fa_add _ _ _) ?_
      refine En.vb (c.vc (i := 0) rfl rfl) ?_
      refine En.vb (k_neF ee) ?_
      refine brf ?_
      refine En.vb (fa_add _ _ _) ?_
      refine En.vb (c.vc (i := 0) rfl rfl) ?_
      refine En.vb (fa_add _ _ _) ?_
      refine c.vq 0 rfl (vs := [_]) (ds := [_, _, _, _, _, _, _, _, _, _, _]) (by exact rfl) (by exact rfl) (by exact rfl) (by exact rfl) (by exact rfl) fun _ c => ?_
      replace c : Cx _ _ _ [_, _, _] := c
      refine En.vb (fa_add _ _ _) ?_
      refine c.vq 0 rfl (vs := [_]) (ds := [_, _, _, _, _, _, _, _, _, _, _]) (by exact rfl) (by exact rfl) (by exact rfl) (by exact rfl) (by exact rfl) fun _ c => ?_
      replace c : Cx _ _ _ [_, _, _] := c
      refine En.vb (fa_add _ _ _) ?_
      refine c.vq 0 rfl (vs := [_]) (ds := [_, _, _, _, _, _, _, _, _, _, _]) (by exact rfl) (by exact rfl) (by exact rfl) (by exact rfl) (by exact rfl) fun _ c => ?_
      replace c : Cx _ _ _ [_, _, _] := c
      refine En.vb (fa_add _ _ _) ?_
      refine En.vb (c.vc (i := 0) rfl rfl) ?_
      refine En.vb (v := .bool true) rfl ?_
      refine brt ?_
      refine En.vb (fa_add _ _ _) ?_
      refine En.vb (c.vc (i := 0) rfl rfl) ?_
      refine En.vb (subI ⟨by omega, by omega⟩) ?_
      refine En.vb (fa_add _ _ _) ?_
      refine c.vq 0 rfl (vs := [_]) (ds := [_, _, _, _, _, _, _, _, _, _, _]) (by exact rfl) (by exact rfl) (by exact rfl) (by exact rfl) (by exact rfl) fun _ c => ?_
      replace c : Cx _ _ _ [_, _, _] := c
      refine En.vb (c.vl (i := 0) rfl rfl) ?_
      refine En.vb rfl ?_
      refine En.vb (bldS_ok (ds := [_, _, _, _, _, _, _, _]) rfl) ?_
      refine c.vw 2 rfl (vs := [_, _, _, _, _, _, _, _]) (by exact rfl) (by exact rfl) (by exact rfl) (by exact rfl) fun _ c => ?_
      replace c : Cx _ _ _ [_, _, _] := c
      refine En.vb (c.vl (i := 2) rfl rfl) ?_
      exact hR _ ⟨hb, rfl, Nat.le_refl _⟩ _ c.gr
    · have es : stepV g.w.v ⟨.e e x, left⟩ = ⟨.a, left⟩ := by
        show (if g.w.v = e then (⟨.f e x 2, left⟩ : Rd) else ⟨.a, left⟩) = _
        rw [if_neg ee]
      rw [es] at hR
      unfold F_simulcasttop_epochReader_Next
      have c := Cx.start0 h
      refine c.nv (cs := [_, _, _, _, _, _, _, _, _, _, _]) rfl rfl fun r2_ _ c => ?_
      replace c : Cx _ _ _ [_] := c
      refine c.nv (cs := [_, _, _, _]) rfl rfl fun g3_ _ c => ?_
      replace c : Cx _ _ _ [_, _] := c
      refine c.nv (cs := [_, _, _, _, _, _, _, _]) rfl rfl fun v5_ _ c => ?_
      replace c : Cx _ _ _ [_, _, _] := c
      refine .here ?_
      refine En.vb (fa_add _ _ _) ?_
      refine En.vb (c.vc (i := 0) rfl rfl) ?_
      refine En.vb (v := .bool false) (rfl) ?_
      refine brf ?_
      refine .here ?_
      refine En.vb (fa_add _ _ _) ?_
      refine En.vb (c.vc (i := 0) rfl rfl) ?_
      refine En.vb (v := .bool false) rfl ?_
      refine brf ?_
      refine En.vb (v := .bool false) rfl ?_
      refine brf ?_
      refine En.vb (v := .bool true) rfl ?_
      refine brt ?_
      refine En.vb (fa_add _ _ _) ?_
      refine En.vb (fa_add _ _ _) ?_
      refine En.vb (c.vc (i := 1) rfl rfl) ?_
      refine En.vb (fa_add _ _ _) ?_
      refine En.vb (c.vc (i := 0) rfl rfl) ?_
      refine En.vb (k_neT ee) ?_
      refine brt ?_
      refine En.vb (fa_add _ _ _) ?_
      refine c.vq 0 rfl (vs := [_]) (ds := [_, _, _, _, _, _, _, _, _, _, _]) (by exact rfl) (by exact rfl) (by exact rfl) (by exact rfl) (by exact rfl) fun _ c => ?_
      replace c : Cx _ _ _ [_, _, _] := c
      refine En.vb (c.vl (i := 0) rfl rfl) ?_
      refine En.vb (fa_add _ _ _) ?_
      refine En.vb (c.vp (i := 0) (ds := [_, _, _]) rfl rfl rfl) ?_
      refine En.vb (fa_add _ _ _) ?_
      refine En.vb (c.vc (i := 0) rfl rfl) ?_
      refine cs.enter ht _ _ (Z.gr c.gr) fun _ g => ?_
      have c := c.more g
      replace c : Cx _ _ _ [_, _, _] := c
      refine And.intro (c.vl (i := 0) rfl rfl) ?_
      refine En.vb rfl ?_
      refine En.vb rfl ?_
      refine cs.rrun (t := t) (x := ⟨1, 8 * t, W0, 0, false, false, I.f_era_Enter_1⟩) rfl cs.ent1 fun _ g => ?_
      have c := c.more g
      replace c : Cx _ _ _ [_, _, _] := c
      refine En.vb rfl ?_
      refine En.vb rfl ?_
      refine En.vb rfl ?_
      refine c.vw 2 rfl (vs := [_, _, _, _, _, _, _, _]) (by exact rfl) (by exact rfl) (by exact rfl) (by exact rfl) fun _ c => ?_
      replace c : Cx _ _ _ [_, _, _] := c
      refine En.vb (c.vl (i := 2) rfl rfl) ?_
      exact hR _ ⟨hb, _, _, _, _, _, _, rfl⟩ _ c.gr
  | f e x k =>
    obtain ⟨rfl, hk⟩ := H
    cases k with
    | succ k =>
      have ek : (((k + 1 : Nat) : Int)) - 1 = (k : Int) := by omega
      unfold F_simulcasttop_epochReader_Next
      have c := Cx.start0 h
      refine c.nv (cs := [_, _, _, _, _, _, _, _, _, _, _]) rfl rfl fun r2_ _ c => ?_
      replace c : Cx _ _ _ [_] := c
      refine c.nv (cs := [_, _, _, _]) rfl rfl fun g3_ _ c => ?_
      replace c : Cx _ _ _ [_, _] := c
      refine c.nv (cs := [_, _, _, _, _, _, _, _]) rfl rfl fun v5_ _ c => ?_
      replace c : Cx _ _ _ [_, _, _] := c
      refine .here ?_
      refine En.vb (fa_add _ _ _) ?_
      refine En.vb (c.vc (i := 0) rfl rfl) ?_
      refine En.vb (v := .bool false) (rfl) ?_
      refine brf ?_
      refine .here ?_
      refine En.vb (fa_add _ _ _) ?_
      refine En.vb (c.vc (i := 0) rfl rfl) ?_
      refine En.vb (v := .bool false) rfl ?_
      refine brf ?_
      refine En.vb (v := .bool false) rfl ?_
      refine brf ?_
      refine En.vb (v := .bool false) rfl ?_
      refine brf ?_
      refine En.vb (fa_add _ _ _) ?_
      refine En.vb (c.vc (i := 0) rfl rfl) ?_
      refine En.vb (k_gtT (by omega)) ?_
      refine brt ?_
      refine En.vb (fa_add _ _ _) ?_
      refine En.vb (c.vc (i := 0) rfl rfl) ?_
      refine En.vb (subI ⟨by omega, by omega⟩) ?_
      rw [ek]
      refine En.vb (fa_add _ _ _) ?_
      refine c.vq 0 rfl (vs := [_]) (ds := [_, _, _, _, _, _, _, _, _, _, _]) (by exact rfl) (by exact rfl) (by exact rfl) (by exact rfl) (by exact rfl) fun _ c => ?_
      replace c : Cx _ _ _ [_, _, _] := c
      refine En.vb (c.vl (i := 0) rfl rfl) ?_
      refine En.vb rfl ?_
      refine En.vb (bldS_ok (ds := [_, _, _, _, _, _, _, _]) rfl) ?_
      refine c.vw 2 rfl (vs := [_, _, _, _, _, _, _, _]) (by exact rfl) (by exact rfl) (by exact rfl) (by exact rfl) fun _ c => ?_
      replace c : Cx _ _ _ [_, _, _] := c
      refine En.vb (c.vl (i := 2) rfl rfl) ?_
      exact hR _ ⟨hb, rfl, by omega⟩ _ c.gr
    | zero =>
      unfold F_simulcasttop_epochReader_Next
      have c := Cx.start0 h
      refine c.nv (cs := [_, _, _, _, _, _, _, _, _, _, _]) rfl rfl fun r2_ _ c => ?_
      replace c : Cx _ _ _ [_] := c
      refine c.nv (cs := [_, _, _, _]) rfl rfl fun g3_ _ c => ?_
      replace c : Cx _ _ _ [_, _] := c
      refine c.nv (cs := [_, _, _, _, _, _, _, _]) rfl rfl fun v5_ _ c => ?_
      replace c : Cx _ _ _ [_, _, _] := c
      refine .here ?_
      refine En.vb (fa_add _ _ _) ?_
      refine En.vb (c.vc (i := 0) rfl rfl) ?_
      refine En.vb (v := .bool false) (rfl) ?_
      refine brf ?_
      refine .here ?_
      refine En.vb (fa_add _ _ _) ?_
      refine En.vb (c.vc (i := 0) rfl rfl) ?_
      refine En.vb (v := .bool false) rfl ?_
      refine brf ?_
      refine En.vb (v := .bool false) rfl ?_
      refine brf ?_
      refine En.vb (v := .bool false) rfl ?_
      refine brf ?_
      refine En.vb (fa_add _ _ _) ?_
      refine En.vb (c.vc (i := 0) rfl rfl) ?_
      refine En.vb (v := .bool false) rfl ?_
      refine brf ?_
      refine En.vb (fa_add _ _ _) ?_
      refine c.vq 0 rfl (vs := [_]) (ds := [_, _, _, _, _, _, _, _, _, _, _]) (by exact rfl) (by exact rfl) (by exact rfl) (by exact rfl) (by exact rfl) fun _ c => ?_
      replace c : Cx _ _ _ [_, _, _] := c
      refine En.vb (fa_add _ _ _) ?_
      refine c.vq 0 rfl (vs := [_]) (ds := [_, _, _, _, _, _, _, _, _, _, _]) (by exact rfl) (by exact rfl) (by exact rfl) (by exact rfl) (by exact rfl) fun _ c => ?_
      replace c : Cx _ _ _ [_, _, _] := c
      refine En.vb (c.vl (i := 0) rfl rfl) ?_
      refine En.vb (fa_add _ _ _) ?_
      refine En.vb (c.vp (i := 0) (ds := [_, _, _]) rfl rfl rfl) ?_
      refine En.vb (fa_add _ _ _) ?_
      refine En.vb (c.vc (i := 0) rfl rfl) ?_
      refine cs.leave ht _ _ (Z.gr c.gr) fun _ g => ?_
      have c := c.more g
      replace c : Cx _ _ _ [_, _, _] := c
      refine And.intro (c.vl (i := 0) rfl rfl) ?_
      refine En.vb rfl ?_
      refine En.vb rfl ?_
      refine cs.rrun (t := t) (x := ⟨1, 8 * t, W0, 0, false, false, I.f_era_Leave_1⟩) rfl cs.lv1 fun _ g => ?_
      have c := c.more g
      replace c : Cx _ _ _ [_, _, _] := c
      refine En.vb rfl ?_
      refine En.vb rfl ?_
      refine En.vb rfl ?_
      refine c.vw 2 rfl (vs := [_, _, _, _, _, _, _, _]) (by exact rfl) (by exact rfl) (by exact rfl) (by exact rfl) fun _ c => ?_
      replace c : Cx _ _ _ [_, _, _] := c
      refine En.vb (c.vl (i := 2) rfl rfl) ?_
      exact hR _ ⟨hb, _, _, _, _, _, _, rfl⟩ _ c.gr
  | g =>
    obtain ⟨rests, era, found, tm, tr, fd, rfl⟩ := H
    by_cases hl0 : left - 1 ≤ 0
    · have es : stepV g.w.v ⟨.g, left⟩ = ⟨.fin, left - 1⟩ := by
        show rgo (left - 1) = _
        rw [rgo, if_pos hl0]
      rw [es] at hR
      unfold F_simulcasttop_epochReader_Next
      have c := Cx.start0 h
      refine c.nv (cs := [_, _, _, _, _, _, _, _, _, _, _]) rfl rfl fun r2_ _ c => ?_
      replace c : Cx _ _ _ [_] := c
      refine c.nv (cs := [_, _, _, _]) rfl rfl fun g3_ _ c => ?_
      replace c : Cx _ _ _ [_, _] := c
      refine c.nv (cs := [_, _, _, _, _, _, _, _]) rfl rfl fun v5_ _ c => ?_
      replace c : Cx _ _ _ [_, _, _] := c
      refine .here ?_
      refine En.vb (fa_add _ _ _) ?_
      refine En.vb (c.vc (i := 0) rfl rfl) ?_
      refine En.vb (v := .bool true) (rfl) ?_
      refine brt ?_
      refine En.vb (fa_add _ _ _) ?_
      refine En.vb (c.vc (i := 0) rfl rfl) ?_
      refine En.vb (c.vl (i := 1) rfl rfl) ?_
      refine ⟨_, _, _, rfl, cs.mtE, cs.ecNext (q := g) rfl cs.lv11 _ _ fun _ gg => ?_⟩
      have c := c.more gg
      replace c : Cx _ _ _ [_, _, _] := c
      refine En.vb rfl ?_
      refine En.vb rfl ?_
      refine En.vb rfl ?_
      refine c.nv (cs := [_, _, _, _, _, _, _, _]) rfl rfl fun a8_ _ c => ?_
      replace c : Cx _ _ _ [_, _, _, _] := c
      refine c.vw 3 rfl (vs := [_, _, _, _, _, _, _, _]) (by exact rfl) (by exact rfl) (by exact rfl) (by exact rfl) fun _ c => ?_
      replace c : Cx _ _ _ [_, _, _, _] := c
      refine En.vb (fa_add _ _ _) ?_
      refine c.vq 0 rfl (vs := [_]) (ds := [_, _, _, _, _, _, _, _, _, _, _]) (by exact rfl) (by exact rfl) (by exact rfl) (by exact rfl) (by exact rfl) fun _ c => ?_
      replace c : Cx _ _ _ [_, _, _, _] := c
      refine En.vb (v := .bool false) (rfl) ?_
      refine brf ?_
      refine cs.eraOf (x := ⟨1, 8 * t, fd, 0, tr, true, I.f_era_Leave_1_1⟩) rfl _ _ fun _ gg => ?_
      have c := c.more gg
      replace c : Cx _ _ _ [_, _, _, _] := c
      refine En.vb rfl ?_
      refine En.vb rfl ?_
      refine En.vb (fa_add _ _ _) ?_
      refine c.vq 0 rfl (vs := [_]) (ds := [_, _, _, _, _, _, _, _, _, _, _]) (by exact rfl) (by exact rfl) (by exact rfl) (by exact rfl) (by exact rfl) fun _ c => ?_
      replace c : Cx _ _ _ [_, _, _, _] := c
      refine En.vb (fa_add _ _ _) ?_
      refine c.vq 0 rfl (vs := [_]) (ds := [_, _, _, _, _, _, _, _, _, _, _]) (by exact rfl) (by exact rfl) (by exact rfl) (by exact rfl) (by exact rfl) fun _ c => ?_
      replace c : Cx _ _ _ [_, _, _, _] := c
      refine En.vb (fa_add _ _ _) ?_
      refine En.vb (c.vc (i := 0) rfl rfl) ?_
      refine En.vb (v := .bool false) rfl ?_
      refine brf ?_
      refine En.vb (fa_add _ _ _) ?_
      refine c.vq 0 rfl (vs := [_]) (ds := [_, _, _, _, _, _, _, _, _, _, _]) (by exact rfl) (by exact rfl) (by exact rfl) (by exact rfl) (by exact rfl) fun _ c => ?_
      replace c : Cx _ _ _ [_, _, _, _] := c
      refine En.vb (fa_add _ _ _) ?_
      refine En.vb (c.vc (i := 0) rfl rfl) ?_
      refine En.vb (subI (a := left) (b := 1) ⟨by omega, by omega⟩) ?_
      refine En.vb (fa_add _ _ _) ?_
      refine c.vq 0 rfl (vs := [_]) (ds := [_, _, _, _, _, _, _, _, _, _, _]) (by exact rfl) (by exact rfl) (by exact rfl) (by exact rfl) (by exact rfl) fun _ c => ?_
      replace c : Cx _ _ _ [_, _, _, _] := c
      refine .here ?_
      refine En.vb (fa_add _ _ _) ?_
      refine En.vb (c.vc (i := 0) rfl rfl) ?_
      refine En.vb (v := .bool true) rfl ?_
      refine brt ?_
      refine En.vb (fa_add _ _ _) ?_
      refine En.vb (c.vc (i := 0) rfl rfl) ?_
      refine En.vb (k_leT hl0) ?_
      refine brt ?_
      refine En.vb (c.vl (i := 0) rfl rfl) ?_
      refine En.vb rfl ?_
      refine En.vb (bldS_ok (ds := [_, _, _, _, _, _, _, _]) rfl) ?_
      refine c.vw 2 rfl (vs := [_, _, _, _, _, _, _, _]) (by exact rfl) (by exact rfl) (by exact rfl) (by exact rfl) fun _ c => ?_
      replace c : Cx _ _ _ [_, _, _, _] := c
      refine En.vb (c.vl (i := 2) rfl rfl) ?_
      exact hR _ ⟨⟨by show -100 ≤ left - 1; omega, by show left - 1 ≤ 100; omega⟩, _, _, _, _, _, rfl, rfl⟩ _ c.gr
    · have es : stepV g.w.v ⟨.g, left⟩ = ⟨.a, left - 1⟩ := by
        show rgo (left - 1) = _
        rw [rgo, if_neg hl0]
      rw [es] at hR
      unfold F_simulcasttop_epochReader_Next
      have c := Cx.start0 h
      refine c.nv (cs := [_, _, _, _, _, _, _, _, _, _, _]) rfl rfl fun r2_ _ c => ?_
      replace c : Cx _ _ _ [_] := c
      refine c.nv (cs := [_, _, _, _]) rfl rfl fun g3_ _ c => ?_
      replace c : Cx _ _ _ [_, _] := c
      refine c.nv (cs := [_, _, _, _, _, _, _, _]) rfl rfl fun v5_ _ c => ?_
      replace c : Cx _ _ _ [_, _, _] := c
      refine .here ?_
      refine En.vb (fa_add _ _ _) ?_
      refine En.vb (c.vc (i := 0) rfl rfl) ?_
      refine En.vb (v := .bool true) (rfl) ?_
      refine brt ?_
      refine En.vb (fa_add _ _ _) ?_
      refine En.vb (c.vc (i := 0) rfl rfl) ?_
      refine En.vb (c.vl (i := 1) rfl rfl) ?_
      refine ⟨_, _, _, rfl, cs.mtE, cs.ecNext (q := g) rfl cs.lv11 _ _ fun _ gg => ?_⟩
      have c := c.more gg
      replace c : Cx _ _ _ [_, _, _] := c
      refine En.vb rfl ?_
      refine En.vb rfl ?_
      refine En.vb rfl ?_
      refine c.nv (cs := [_, _, _, _, _, _, _, _]) rfl rfl fun a8_ _ c => ?_
      replace c : Cx _ _ _ [_, _, _, _] := c
      refine c.vw 3 rfl (vs := [_, _, _, _, _, _, _, _]) (by exact rfl) (by exact rfl) (by exact rfl) (by exact rfl) fun _ c => ?_
      replace c : Cx _ _ _ [_, _, _, _] := c
      refine En.vb (fa_add _ _ _) ?_
      refine c.vq 0 rfl (vs := [_]) (ds := [_, _, _, _, _, _, _, _, _, _, _]) (by exact rfl) (by exact rfl) (by exact rfl) (by exact rfl) (by exact rfl) fun _ c => ?_
      replace c : Cx _ _ _ [_, _, _, _] := c
      refine En.vb (v := .bool false) (rfl) ?_
      refine brf ?_
      refine cs.eraOf (x := ⟨1, 8 * t, fd, 0, tr, true, I.f_era_Leave_1_1⟩) rfl _ _ fun _ gg => ?_
      have c := c.more gg
      replace c : Cx _ _ _ [_, _, _, _] := c
      refine En.vb rfl ?_
      refine En.vb rfl ?_
      refine En.vb (fa_add _ _ _) ?_
      refine c.vq 0 rfl (vs := [_]) (ds := [_, _, _, _, _, _, _, _, _, _, _]) (by exact rfl) (by exact rfl) (by exact rfl) (by exact rfl) (by exact rfl) fun _ c => ?_
      replace c : Cx _ _ _ [_, _, _, _] := c
      refine En.vb (fa_add _ _ _) ?_
      refine c.vq 0 rfl (vs := [_]) (ds := [_, _, _, _, _, _, _, _, _, _, _]) (by exact rfl) (by exact rfl) (by exact rfl) (by exact rfl) (by exact rfl) fun _ c => ?_
      replace c : Cx _ _ _ [_, _, _, _] := c
      refine En.vb (fa_add _ _ _) ?_
      refine En.vb (c.vc (i := 0) rfl rfl) ?_
      refine En.vb (v := .bool false) rfl ?_
      refine brf ?_
      refine En.vb (fa_add _ _ _) ?_
      refine c.vq 0 rfl (vs := [_]) (ds := [_, _, _, _, _, _, _, _, _, _, _]) (by exact rfl) (by exact rfl) (by exact rfl) (by exact rfl) (by exact rfl) fun _ c => ?_
      replace c : Cx _ _ _ [_, _, _, _] := c
      refine En.vb (fa_add _ _ _) ?_
      refine En.vb (c.vc (i := 0) rfl rfl) ?_
      refine En.vb (subI (a := left) (b := 1) ⟨by omega, by omega⟩) ?_
      refine En.vb (fa_add _ _ _) ?_
      refine c.vq 0 rfl (vs := [_]) (ds := [_, _, _, _, _, _, _, _, _, _, _]) (by exact rfl) (by exact rfl) (by exact rfl) (by exact rfl) (by exact rfl) fun _ c => ?_
      replace c : Cx _ _ _ [_, _, _, _] := c
      refine .here ?_
      refine En.vb (fa_add _ _ _) ?_
      refine En.vb (c.vc (i := 0) rfl rfl) ?_
      refine En.vb (v := .bool true) rfl ?_
      refine brt ?_
      refine En.vb (fa_add _ _ _) ?_
      refine En.vb (c.vc (i := 0) rfl rfl) ?_
      refine En.vb (k_leF hl0) ?_
      refine brf ?_
      refine En.vb (c.vl (i := 0) rfl rfl) ?_
      refine En.vb (fa_add _ _ _) ?_
      refine En.vb (c.vp (i := 0) (ds := [_, _, _]) rfl rfl rfl) ?_
      refine En.vb (fa_add _ _ _) ?_
      refine En.vb (c.vc (i := 0) rfl rfl) ?_
      refine cs.enter ht _ _ (Z.gr c.gr) fun _ g => ?_
      have c := c.more g
      replace c : Cx _ _ _ [_, _, _, _] := c
      refine And.intro (c.vl (i := 0) rfl rfl) ?_
      refine En.vb rfl ?_
      refine En.vb rfl ?_
      refine cs.rrun (t := t) (x := ⟨1, 8 * t, W0, 0, false, false, I.f_era_Enter_1⟩) rfl cs.ent1 fun _ g => ?_
      have c := c.more g
      replace c : Cx _ _ _ [_, _, _, _] := c
      refine En.vb rfl ?_
      refine En.vb rfl ?_
      refine En.vb rfl ?_
      refine c.vw 2 rfl (vs := [_, _, _, _, _, _, _, _]) (by exact rfl) (by exact rfl) (by exact rfl) (by exact rfl) fun _ c => ?_
      replace c : Cx _ _ _ [_, _, _, _] := c
      refine En.vb (c.vl (i := 2) rfl rfl) ?_
      exact hR _ ⟨⟨by show -100 ≤ left - 1; omega, by show left - 1 ≤ 100; omega⟩, _, _, _, _, _, _, rfl⟩ _ c.gr
  | fin => exact absurd rfl hn
/-- a reader's beginning -/
theorem K_rStart (cs : CrB S I) (Z : Zs h) (ht : 1 ≤ t ∧ t ≤ 3) (hb : 0 ≤ left ∧ left ≤ 6) (hR : ∀ v', RV I t (rgo left) v' → ∀ h', Gr h h' → R (.tuple #[.iface I.t_simulcasttop_epochReader v', vAc (akR t (rgo left).st).ac, .bool (isFin (rgo left).st)]) h') : F_simulcasttop_epochReader_Next S I (vRd t left 0 0 .nilIface 0 0 0) (vGo Go0) h R := by
  by_cases hl0 : left ≤ 0
  · rw [rgo, if_pos hl0] at hR
    unfold F_simulcasttop_epochReader_Next
    have c := Cx.start0 h
    refine c.nv (cs := [_, _, _, _, _, _, _, _, _, _, _]) rfl rfl fun r2_ _ c => ?_
    replace c : Cx _ _ _ [_] := c
    refine c.nv (cs := [_, _, _, _]) rfl rfl fun g3_ _ c => ?_
    replace c : Cx _ _ _ [_, _] := c
    refine c.nv (cs := [_, _, _, _, _, _, _, _]) rfl rfl fun v5_ _ c => ?_
    replace c : Cx _ _ _ [_, _, _] := c
    refine .here ?_
    refine En.vb (fa_add _ _ _) ?_
    refine En.vb (c.vc (i := 0) rfl rfl) ?_
    refine En.vb (v := .bool false) (rfl) ?_
    refine brf ?_
    refine .here ?_
    refine En.vb (fa_add _ _ _) ?_
    refine En.vb (c.vc (i := 0) rfl rfl) ?_
    refine En.vb (v := .bool true) rfl ?_
    refine brt ?_
    refine En.vb (fa_add _ _ _) ?_
    refine En.vb (c.vc (i := 0) rfl rfl) ?_
    refine En.vb (k_leT hl0) ?_
    refine brt ?_
    refine En.vb (c.vl (i := 0) rfl rfl) ?_
    refine En.vb rfl ?_
    refine En.vb (bldS_ok (ds := [_, _, _, _, _, _, _, _]) rfl) ?_
    refine c.vw 2 rfl (vs := [_, _, _, _, _, _, _, _]) (by exact rfl) (by exact rfl) (by exact rfl) (by exact rfl) fun _ c => ?_
    replace c : Cx _ _ _ [_, _, _] := c
    refine En.vb (c.vl (i := 2) rfl rfl) ?_
    exact hR _ ⟨⟨by show -100 ≤ left; omega, by show left ≤ 100; omega⟩, _, _, _, _, _, rfl, rfl⟩ _ c.gr
  · rw [rgo, if_neg hl0] at hR
    unfold F_simulcasttop_epochReader_Next
    have c := Cx.start0 h
    refine c.nv (cs := [_, _, _, _, _, _, _, _, _, _, _]) rfl rfl fun r2_ _ c => ?_
    replace c : Cx _ _ _ [_] := c
    refine c.nv (cs := [_, _, _, _]) rfl rfl fun g3_ _ c => ?_
    replace c : Cx _ _ _ [_, _] := c
    refine c.nv (cs := [_, _, _, _, _, _, _, _]) rfl rfl fun v5_ _ c => ?_
    replace c : Cx _ _ _ [_, _, _] := c
    refine .here ?_
    refine En.vb (fa_add _ _ _) ?_
    refine En.vb (c.vc (i := 0) rfl rfl) ?_
    refine En.vb (v := .bool false) (rfl) ?_
    refine brf ?_
    refine .here ?_
    refine En.vb (fa_add _ _ _) ?_
    refine En.vb (c.vc (i := 0) rfl rfl) ?_
    refine En.vb (v := .bool true) rfl ?_
    refine brt ?_
    refine En.vb (fa_add _ _ _) ?_
    refine En.vb (c.vc (i := 0) rfl rfl) ?_
    refine En.vb (k_leF hl0) ?_
    refine brf ?_
    refine En.vb (c.vl (i := 0) rfl rfl) ?_
    refine En.vb (fa_add _ _ _) ?_
    refine En.vb (c.vp (i := 0) (ds := [_, _, _]) rfl rfl rfl) ?_
    refine En.vb (fa_add _ _ _) ?_
    refine En.vb (c.vc (i := 0) rfl rfl) ?_
    refine cs.enter ht _ _ (Z.gr c.gr) fun _ g => ?_
    have c := c.more g
    replace c : Cx _ _ _ [_, _, _] := c
    refine And.intro (c.vl (i := 0) rfl rfl) ?_
    refine En.vb rfl ?_
    refine En.vb rfl ?_
    refine cs.rrun (t := t) (x := ⟨1, 8 * t, W0, 0, false, false, I.f_era_Enter_1⟩) rfl cs.ent1 fun _ g => ?_
    have c := c.more g
    replace c : Cx _ _ _ [_, _, _] := c
    refine En.vb rfl ?_
    refine En.vb rfl ?_
    refine En.vb rfl ?_
    refine c.vw 2 rfl (vs := [_, _, _, _, _, _, _, _]) (by exact rfl) (by exact rfl) (by exact rfl) (by exact rfl) fun _ c => ?_
    replace c : Cx _ _ _ [_, _, _] := c
    refine En.vb (c.vl (i := 2) rfl rfl) ?_
    exact hR _ ⟨⟨by show -100 ≤ left; omega, by show left ≤ 100; omega⟩, _, _, _, _, _, _, rfl⟩ _ c.gr
end
end Go.En
namespace Go.En
open Go.Ep Go.Sort

variable {S : Sys} {I : Ids} {h h0 h' : Hp} {F F0 : Fp} {R : Value → Hp → Prop} {L : List Res} {B B' : Bs}
/-! ### Few numbers sorted -/
def srt (l : List Int) : List Int := (insertionSort ltInt l.toArray 0 l.length).toList
theorem swp_size (d : Array Int) (x y : Nat) : (swp d x y).size = d.size := by unfold swp; simp
theorem swp_perm {d : Array Int} {x y : Nat} (hx : x < d.size) (hy : y < d.size) : (swp d x y).toList.Perm d.toList := by
  unfold swp
  rw [Array.toList_setIfInBounds, Array.toList_setIfInBounds]
  have := perm_set_set d.toList x y (by simpa using hx) (by simpa using hy)
  rwa [show d.toList[x]'(by simpa using hx) = d[x]! by rw [getElem!_pos d x hx]; simp, show d.toList[y]'(by simpa using hy) = d[y]! by rw [getElem!_pos d y hy]; simp] at this
theorem insInner_perm (a : Nat) : ∀ (j : Nat) (d : Array Int), j < d.size → (insInner ltInt a j d).toList.Perm d.toList ∧ (insInner ltInt a j d).size = d.size
  | 0, d, _ => ⟨.refl _, rfl⟩
  | j + 1, d, h => by
    unfold insInner
    split
    · obtain ⟨h1, h2⟩ := insInner_perm a j (swp d (j + 1) j) (by rw [swp_size]; omega)
      exact ⟨h1.trans (swp_perm h (by omega)), h2.trans (swp_size ..)⟩
    · exact ⟨.refl _, rfl⟩
theorem insOuter_perm (a b : Nat) : ∀ (n i : Nat) (d : Array Int), b - i = n → b ≤ d.size → (insOuter ltInt a b i d).toList.Perm d.toList
  | 0, i, d, hn, _ => by
    unfold insOuter
    rw [if_neg (by omega)]
  | n + 1, i, d, hn, hb => by
    unfold insOuter
    rw [if_pos (by omega)]
    obtain ⟨h1, h2⟩ := insInner_perm a i d (by omega)
    exact (insOuter_perm a b n (i + 1) _ (by omega) (by rw [h2]; exact hb)).trans h1
theorem srt_perm (l : List Int) : (srt l).Perm l := by
  have := insOuter_perm 0 l.length _ 1 l.toArray rfl (by simp)
  simpa [srt, insertionSort] using this
abbrev rD (v : Value) (d : Array Int) : Res := rSl EI1 v d.toList
theorem dget {d : Array Int} {n : Nat} (h : n < d.size) : d.toList[n]? = some d[n]! := by
  rw [Array.getElem?_toList, getElem!_pos d n h, Array.getElem?_eq_getElem h]
theorem Cx.rd {v : Value} {d : Array Int} (c : Cx F0 h0 h L) (i : Nat) (hi : L[i]? = some (rD v d)) {z : Int} {n : Nat} {q : IntKind} (hz : z = n) (hn : n < d.size) {k : Value → Prop} (hk : k (.int .i64 d[n]!)) :
    Vb (ixs 1 v (.int q z)) fun p => Vb (ldc p h) k := (c.sl hi).sl.one rfl (dget hn) hz rfl hk
theorem Cx.wr {α : Type} {E : Enc α} {v : Value} {xs : List α} (c : Cx F0 h0 h L) (i : Nat) (hi : L[i]? = some (rSl E v xs)) {z : Int} {n : Nat} {q : IntKind} (hz : z = n) (hn : n < xs.length) (y : α) (h1 : E.n = 1) {w : Value} (hw : E.c y = [w]) {k : Hp → Prop}
    (hk : ∀ h', Cx F0 h0 h' (L.set i (rSl E v (xs.set n y))) → k h') : Vb (ixs 1 v (.int q z)) fun p => Sb (En.sto 1 p w h) k := by
  obtain ⟨F, ⟨o, hf⟩, up⟩ := c.upd hi
  exact o.set1 hn y h1.symm h1 hz hw fun h' o' ch => hk h' (up (F' := F) ⟨o', hf⟩ (mv_same (ch.mono fun q _ e => (hf q).2 e)))
theorem swp_list (d : Array Int) (x y : Nat) : (swp d x y).toList = (d.toList.set x d[y]!).set y d[x]! := by
  unfold swp; rw [Array.toList_setIfInBounds, Array.toList_setIfInBounds]
/-- two elements are exchanged -/
theorem Cx.swp {v : Value} {d : Array Int} (c : Cx F0 h0 h L) (i : Nat) (hi : L[i]? = some (rD v d)) {zx zy : Int} {x y : Nat} (hzx : zx = x) (hzy : zy = y) (hx : x < d.size) (hy : y < d.size) {k : Hp → Prop}
    (hk : ∀ h', Cx F0 h0 h' (L.set i (rD v (Go.Sort.swp d x y))) → k h') :
    Vb (ixs 1 v (.int .i64 zy)) fun p => Vb (ldc p h) fun a => Vb (ixs 1 v (.int .i64 zx)) fun q => Vb (ldc q h) fun b => Vb (ixs 1 v (.int .i64 zx)) fun r => Sb (En.sto 1 r a h) fun h4 => Vb (ixs 1 v (.int .i64 zy)) fun t => Sb (En.sto 1 t b h4) k := by
  refine c.rd i hi hzy hy (c.rd i hi hzx hx ?_)
  refine c.wr i hi hzx (by simpa using hx) d[y]! rfl rfl fun h1 c1 => ?_
  have hi1 : (L.set i (rSl EI1 v (d.toList.set x d[y]!)))[i]? = some (rSl EI1 v (d.toList.set x d[y]!)) := by
    rw [List.getElem?_set_self (List.getElem?_eq_some_iff.1 hi).1]
  refine c1.wr i hi1 hzy (by simpa using hy) d[x]! rfl rfl fun h2 c2 => hk h2 ?_
  rw [List.set_set] at c2
  unfold rD
  rw [swp_list]
  exact c2
theorem K_isNaN {x : Int} (hR : R (.bool false) h) : F_cmp_isNaN_int S I (.int .i64 x) h R := by
  unfold F_cmp_isNaN_int
  exact En.vb (neI _) hR
structure CtA (S : Sys) (I : Ids) : Prop extends CrB S I where
  nan : ∀ {x : Int} {h} {R : Value → Hp → Prop}, R (.bool false) h → S.C I.f_cmp_isNaN_int [.int .i64 x] h R
theorem K_Less (cs : CtA S I) {x y : Int} (hR : R (.bool (ltInt x y)) h) : F_cmp_Less_int S I (.int .i64 x) (.int .i64 y) h R := by
  unfold F_cmp_Less_int
  have c := Cx.start0 h
  refine .here ?_
  refine cs.nan ?_
  refine brf ?_
  refine En.vb bin_lss ?_
  exact hR
theorem K_Len64 {x : Nat} (hx : x < 4) (hR : ∀ k, R (.int .i64 k) h) : F_math_bits_Len64 S I (.int .u64 x) h R := by
  unfold F_math_bits_Len64
  have c := Cx.start0 h
  refine .here ?_
  refine En.vb (k_geF (by omega)) ?_
  refine brf ?_
  refine .here ?_
  refine En.vb (k_geF (by omega)) ?_
  refine brf ?_
  refine .here ?_
  refine En.vb (k_geF (by omega)) ?_
  refine brf ?_
  obtain rfl | rfl | rfl | rfl : x = 0 ∨ x = 1 ∨ x = 2 ∨ x = 3 := by omega
  · exact En.vb (v := .int .u8 0) rfl (En.vb (v := .int .u8 0) (by kernel_rfl) (En.vb (v := .int .i64 0) rfl (En.vb (bin_addw _ _) (hR _))))
  · exact En.vb (v := .int .u8 1) rfl (En.vb (v := .int .u8 1) (by kernel_rfl) (En.vb (v := .int .i64 1) rfl (En.vb (bin_addw _ _) (hR _))))
  · exact En.vb (v := .int .u8 2) rfl (En.vb (v := .int .u8 2) (by kernel_rfl) (En.vb (v := .int .i64 2) rfl (En.vb (bin_addw _ _) (hR _))))
  · exact En.vb (v := .int .u8 3) rfl (En.vb (v := .int .u8 2) (by kernel_rfl) (En.vb (v := .int .i64 2) rfl (En.vb (bin_addw _ _) (hR _))))
structure CtB (S : Sys) (I : Ids) : Prop extends CtA S I where
  less : ∀ {x y : Int} {h} {R : Value → Hp → Prop}, R (.bool (ltInt x y)) h → S.C I.f_cmp_Less_int [.int .i64 x, .int .i64 y] h R
  len64 : ∀ {x : Nat} {h} {R : Value → Hp → Prop}, x < 4 → (∀ k, R (.int .i64 k) h) → S.C I.f_math_bits_Len64 [.int .u64 x] h R
theorem K_Len {x : Nat} (cs : CtB S I) (hx : x < 4) (hR : ∀ k, R (.int .i64 k) h) : F_math_bits_Len S I (.int .u64 x) h R := by
  unfold F_math_bits_Len
  exact cs.len64 hx fun k => hR k
theorem K_insertion {v : Value} {d : Array Int} {a b : Nat} (cs : CtB S I) (hab : a ≤ b) (hb : b ≤ d.size) (hN : d.size ≤ 1000000) (c : Cx F h0 h [rD v d]) (hR : ∀ h', Cx F h0 h' [rD v (insertionSort ltInt d a b)] → R (.tuple #[]) h') :
    F_slices_insertionSortOrdered_int S I v (.int .i64 a) (.int .i64 b) h R := by
  unfold F_slices_insertionSortOrdered_int
  refine En.vb (inc (by omega)) ?_
  refine Lp1.by (fun (x : Nat × Array Int) u h' => u = .int .i64 x.1 ∧ a + 1 ≤ x.1 ∧ x.2.size = d.size ∧ insOuter ltInt a b x.1 x.2 = insertionSort ltInt d a b ∧ Cx F h0 h' [rD v x.2]) (fun x => b - x.1) (a + 1, d) ⟨rfl, Nat.le_refl _, rfl, rfl, c⟩ ?_
  rintro ⟨i, e⟩ u h1 ⟨rfl, hi, hs, hout, c⟩ again hagain
  dsimp only at *
  refine En.vb bin_lss ?_
  refine brd (fun h2 => ?_) fun h2 => ?_
  · rw [insOuter, if_pos (by omega)] at hout
    refine Lp1.by (fun (x : Nat × Array Int) u h' => u = .int .i64 x.1 ∧ x.1 ≤ i ∧ x.2.size = d.size ∧ insOuter ltInt a b (i + 1) (insInner ltInt a x.1 x.2) = insertionSort ltInt d a b ∧ Cx F h0 h' [rD v x.2]) (fun x => x.1) (i, e) ⟨rfl, Nat.le_refl _, hs, hout, c⟩ ?_
    rintro ⟨j, e⟩ u h3 ⟨rfl, hj, hs, hin, c⟩ again2 hagain2
    dsimp only at *
    have stop : ∀ h', insInner ltInt a j e = e → Cx F h0 h' [rD v e] → again (.int .i64 (i + 1 : Nat)) h' := by
      intro h' e1 c
      rw [e1] at hin
      exact hagain (i + 1, e) _ _ ⟨rfl, by omega, hs, hin, c⟩ (by omega)
    refine .here ?_
    refine En.vb bin_gtr ?_
    refine brd (fun h4 => ?_) fun h4 => ?_
    · obtain ⟨j, rfl⟩ : ∃ j', j = j' + 1 := ⟨j - 1, by omega⟩
      refine c.rd 0 rfl (n := j + 1) rfl (by omega) ?_
      refine En.vb (subI ⟨by omega, by omega⟩) ?_
      refine c.rd 0 rfl (n := j) (by omega) (by omega) ?_
      refine cs.less ?_
      cases hlt : ltInt e[j + 1]! e[j]! with
      | true =>
        refine brt ?_
        refine En.vb (subI ⟨by omega, by omega⟩) ?_
        refine En.vb (subI ⟨by omega, by omega⟩) ?_
        refine c.swp 0 rfl (zx := ((j + 1 : Nat) : Int)) (zy := ((j + 1 : Nat) : Int) - 1) (x := j + 1) (y := j) rfl (by omega) (by omega) (by omega) fun h6 c => ?_
        refine En.vb (subI ⟨by omega, by omega⟩) ?_
        refine hagain2 (j, Go.Sort.swp e (j + 1) j) _ _ ⟨by congr 1; omega, by omega, by rw [swp_size, hs], ?_, c⟩ (by omega)
        rw [insInner, if_pos (by simp [hlt]; omega)] at hin
        exact hin
      | false =>
        refine brf ?_
        refine En.vb (inc (by omega)) ?_
        exact stop h3 (by rw [insInner, if_neg (by simp [hlt])]) c
    · refine brf ?_
      refine En.vb (inc (by omega)) ?_
      refine stop h3 ?_ c
      cases j with
      | zero => rfl
      | succ j => rw [insInner, if_neg (by simp; omega)]
  · rw [insOuter, if_neg (by omega)] at hout
    rw [← hout] at hR
    exact hR _ c
structure CtC (S : Sys) (I : Ids) : Prop extends CtB S I where
  len : ∀ {x : Nat} {h} {R : Value → Hp → Prop}, x < 4 → (∀ k, R (.int .i64 k) h) → S.C I.f_math_bits_Len [.int .u64 x] h R
  ins : ∀ {v : Value} {d : Array Int} {a b : Nat} {F : Fp} {h0 h R}, a ≤ b → b ≤ d.size → d.size ≤ 1000000 → Cx F h0 h [rD v d] → (∀ h', Cx F h0 h' [rD v (insertionSort ltInt d a b)] → R (.tuple #[]) h') → S.C I.f_slices_insertionSortOrdered_int [v, .int .i64 a, .int .i64 b] h R
theorem K_pdq {v k : Value} {d : Array Int} (cs : CtC S I) (hN : d.size < 4) (c : Cx F h0 h [rD v d]) (hR : ∀ h', Cx F h0 h' [rD v (insertionSort ltInt d 0 d.size)] → R (.tuple #[]) h') : F_slices_pdqsortOrdered_int S I v (.int .i64 0) (.int .i64 d.size) k h R := by
  unfold F_slices_pdqsortOrdered_int
  refine Lp5.by (fun (_ : Unit) u w x y z h' => u = .int .i64 0 ∧ w = .int .i64 d.size ∧ Cx F h0 h' [rD v d]) (fun _ => 0) () ⟨rfl, rfl, c⟩ ?_
  rintro _ u w x y z h1 ⟨rfl, rfl, c⟩ again _
  refine En.vb (subI ⟨by omega, by omega⟩) ?_
  refine En.vb (k_leT (by omega)) ?_
  refine brt ?_
  exact cs.ins (a := 0) (Nat.zero_le _) (Nat.le_refl _) (by omega) c fun h2 c => hR h2 c
structure CtD (S : Sys) (I : Ids) : Prop extends CtC S I where
  pdq : ∀ {v k : Value} {d : Array Int} {F : Fp} {h0 h R}, d.size < 4 → Cx F h0 h [rD v d] → (∀ h', Cx F h0 h' [rD v (insertionSort ltInt d 0 d.size)] → R (.tuple #[]) h') → S.C I.f_slices_pdqsortOrdered_int [v, .int .i64 0, .int .i64 d.size, k] h R
theorem K_Sort {v : Value} {l : List Int} (cs : CtD S I) (hN : l.length < 4) (c : Cx F h0 h [rSl EI1 v l]) (hR : ∀ h', Cx F h0 h' [rSl EI1 v (srt l)] → R (.tuple #[]) h') : F_slices_Sort_int_int S I v h R := by
  unfold F_slices_Sort_int_int
  refine En.vb (c.sl (i := 0) rfl).sl.ln ?_
  refine En.vb (v := .int .u64 l.length) (by
    show some (Value.int IntKind.u64 (IntKind.u64.wrap (l.length : Int))) = _
    simp only [IntKind.wrap, IntKind.bits, IntKind.signed]
    simp
    omega) ?_
  refine cs.len hN fun k => ?_
  have e : ((l.length : Nat) : Int) = (l.toArray.size : Nat) := by simp
  rw [e]
  refine cs.pdq (d := l.toArray) (by simpa using hN) c fun h2 c => hR h2 ?_
  have : srt l = (insertionSort ltInt l.toArray 0 l.toArray.size).toList := by unfold srt; simp
  rw [this]
  exact c
end Go.En
namespace Go.En
open Go.Ep

variable {S : Sys} {I : Ids} {h h0 h' : Hp} {F F0 : Fp} {R : Value → Hp → Prop} {L : List Res} {B B' : Bs}
def EIt : Enc Ep.It := { n := 3, c := fun x => [.int .i64 x.b, .int .i64 x.birth, .int .i64 x.ret], len := fun _ => rfl, one := fun a v h => by simp only [List.mem_cons, List.not_mem_nil, or_false] at h; rcases h with rfl | rfl | rfl <;> rfl }
def vIt (x : Ep.It) : Value := .agg #[.int .i64 x.b, .int .i64 x.birth, .int .i64 x.ret]
def vBg (u : SH) : Value := .agg #[shV u]
section
variable {it : Ep.It} {its : List Ep.It} {e z : Int} {u : SH} {seen : List Int} {v f : Value} {p : Int → Bool} {q : Ep.It → Bool} {r : Nat}
theorem K_lives (hR : ∀ h', Gr h h' → R (.bool (lives it e)) h') : F_reclaim_Item_lives S I (vIt it) (.int .i64 e) h R := by
  have h0 : ¬ e ≠ 0 → ∀ h', Gr h h' → R (.bool false) h' := fun h1 h' g => by
    have := hR h' g
    rwa [show lives it e = false by unfold lives; simp; intro h2; exact absurd h2 h1] at this
  have h1 : e ≠ 0 → ¬ it.birth ≤ e → ∀ h', Gr h h' → R (.bool false) h' := fun h1 h2 h' g => by
    have := hR h' g
    rwa [show lives it e = false by unfold lives; simp; intro _ h3; exact absurd h3 h2] at this
  have h2 : e ≠ 0 → it.birth ≤ e → ∀ h', Gr h h' → R (.bool (decide (e ≤ it.ret))) h' := fun h1 h2 h' g => by
    have := hR h' g
    rwa [show lives it e = decide (e ≤ it.ret) by unfold lives; simp [h1, h2]] at this
  unfold F_reclaim_Item_lives
  have c := Cx.start0 h
  refine c.nv (cs := [_, _, _]) rfl rfl fun i2_ _ c => ?_
  replace c : Cx _ _ _ [_] := c
  refine .here ?_
  refine En.vb bin_neq ?_
  refine brd (fun e6 => ?_) fun e6 => ?_
  · refine En.vb (fa_add _ _ _) ?_
    refine En.vb (c.vc (i := 0) rfl rfl) ?_
    refine En.vb bin_geq ?_
    refine brd (fun e11 => ?_) fun e11 => ?_
    · refine En.vb (fa_add _ _ _) ?_
      refine En.vb (c.vc (i := 0) rfl rfl) ?_
      refine En.vb bin_leq ?_
      first | exact h2 e6 e11 _ c.gr | exact h1 e6 e11 _ c.gr | exact h0 e6 _ c.gr
    · first | exact h2 e6 e11 _ c.gr | exact h1 e6 e11 _ c.gr | exact h0 e6 _ c.gr
  · first | exact h2 e6 e11 _ c.gr | exact h1 e6 e11 _ c.gr | exact h0 e6 _ c.gr
theorem K_ret1 (hl : ∀ h', Gr h h' → ldc (.pointer (some ⟨r, 0 + 0, none⟩)) h' = some (.int .i64 z)) (hR : ∀ h', Gr h h' → R (.bool (decide (it.b = z))) h') : F_reclaim_Bag_Retire_1 S I (vIt it) (at0 r) h R := by
  unfold F_reclaim_Bag_Retire_1
  have c := Cx.start0 h
  refine c.nv (cs := [_, _, _]) rfl rfl fun o2_ _ c => ?_
  replace c : Cx _ _ _ [_] := c
  refine En.vb (fa_add _ _ _) ?_
  refine En.vb (c.vc (i := 0) rfl rfl) ?_
  refine En.vb (fa_add _ _ _) ?_
  refine En.vb (hl _ c.gr) ?_
  refine En.vb bin_eql ?_
  exact hR _ c.gr
/-- a function's value that tells p of each element -/
def Tells {α : Type} (S : Sys) (I : Ids) (f : Value) (w : α → Value) (p : α → Bool) (xs : List α) (h : Hp) : Prop :=
  ∀ h' x (R : Value → Hp → Prop), Gr h h' → x ∈ xs → (∀ h'', Gr h' h'' → R (.bool (p x)) h'') → Cw S.C S.Y I.mt f [w x] h' R
theorem any_take {α : Type} {p : α → Bool} {xs : List α} {i : Nat} {x : α} (hx : xs[i]? = some x) (hp : ∀ y ∈ xs.take i, p y = false) (h : p x = false) : ∀ y ∈ xs.take (i + 1), p y = false := by
  intro y hy
  rw [List.take_add_one, hx, Option.toList_some, List.mem_append, List.mem_singleton] at hy
  rcases hy with hy | rfl
  · exact hp y hy
  · exact h
theorem K_idxI (hs : Sl EI1 h v seen) (hf : Tells S I f (fun x => .int .i64 x) p seen h) (hl : seen.length ≤ 1000000) (hR : ∀ h' z, Gr h h' → decide ((0 : Int) ≤ z) = seen.any p → R (.int .i64 z) h') : F_slices_IndexFunc_int64_int64 S I v f h R := by
  unfold F_slices_IndexFunc_int64_int64
  refine En.vb hs.ln ?_
  refine Lp1.by (fun (i : Nat) a h' => a = .int .i64 i ∧ i ≤ seen.length ∧ (∀ y ∈ seen.take i, p y = false) ∧ Gr h h') (fun i => seen.length - i) 0 ⟨rfl, Nat.zero_le _, (fun y hy => by simp at hy), .refl _ _⟩ ?_
  rintro i _ h1 ⟨rfl, hi, hp, g⟩ again hagain
  refine En.vb bin_lss ?_
  refine brd (fun e => ?_) fun e => ?_
  · have hx := List.getElem?_eq_getElem (l := seen) (i := i) (by omega)
    generalize seen[i]'(by omega) = x at hx
    refine (hs.gr g).one rfl hx rfl (u := .int .i64 x) rfl ?_
    refine hf _ x _ g (List.mem_of_getElem? hx) fun h2 g2 => ?_
    cases hpx : p x with
    | true => exact brt (hR _ _ (g.trans g2) (by rw [decide_eq_true (Int.natCast_nonneg i)]; exact (List.any_eq_true.2 ⟨x, List.mem_of_getElem? hx, hpx⟩).symm))
    | false =>
      refine brf ?_
      refine En.vb (inc (by omega)) ?_
      exact hagain (i + 1) _ _ ⟨rfl, by omega, any_take hx hp hpx, g.trans g2⟩ (by omega)
  · refine hR _ _ g ?_
    rw [decide_eq_false (by omega)]
    symm
    rw [List.take_of_length_le (by omega)] at hp
    exact List.any_eq_false.2 fun y hy => by rw [hp y hy]; simp
theorem K_idxT (hs : Sl EIt h v its) (hf : Tells S I f vIt q its h) (hl : its.length ≤ 1000000) (hR : ∀ h' z, Gr h h' → decide ((0 : Int) ≤ z) = its.any q → R (.int .i64 z) h') : F_slices_IndexFunc_reclaim_Item_reclaim_Item S I v f h R := by
  unfold F_slices_IndexFunc_reclaim_Item_reclaim_Item
  refine En.vb hs.ln ?_
  refine Lp1.by (fun (i : Nat) a h' => a = .int .i64 i ∧ i ≤ its.length ∧ (∀ y ∈ its.take i, q y = false) ∧ Gr h h') (fun i => its.length - i) 0 ⟨rfl, Nat.zero_le _, (fun y hy => by simp at hy), .refl _ _⟩ ?_
  rintro i _ h1 ⟨rfl, hi, hp, g⟩ again hagain
  refine En.vb bin_lss ?_
  refine brd (fun e => ?_) fun e => ?_
  · have hx := List.getElem?_eq_getElem (l := its) (i := i) (by omega)
    generalize its[i]'(by omega) = x at hx
    refine (hs.gr g).whole rfl hx rfl ?_
    refine hf _ x _ g (List.mem_of_getElem? hx) fun h2 g2 => ?_
    cases hpx : q x with
    | true => exact brt (hR _ _ (g.trans g2) (by rw [decide_eq_true (Int.natCast_nonneg i)]; exact (List.any_eq_true.2 ⟨x, List.mem_of_getElem? hx, hpx⟩).symm))
    | false =>
      refine brf ?_
      refine En.vb (inc (by omega)) ?_
      exact hagain (i + 1) _ _ ⟨rfl, by omega, any_take hx hp hpx, g.trans g2⟩ (by omega)
  · refine hR _ _ g ?_
    rw [decide_eq_false (by omega)]
    symm
    rw [List.take_of_length_le (by omega)] at hp
    exact List.any_eq_false.2 fun y hy => by rw [hp y hy]; simp
structure CtE (S : Sys) (I : Ids) : Prop extends CtD S I where
  sort : ∀ {v : Value} {l : List Int} {F : Fp} {h0 h R}, l.length < 4 → Cx F h0 h [rSl EI1 v l] → (∀ h', Cx F h0 h' [rSl EI1 v (srt l)] → R (.tuple #[]) h') → S.C I.f_slices_Sort_int_int [v] h R
  lives : ∀ {it : Ep.It} {e : Int} {h} {R : Value → Hp → Prop}, (∀ h', Gr h h' → R (.bool (lives it e)) h') → S.C I.f_reclaim_Item_lives [vIt it, .int .i64 e] h R
  ret1 : ∀ {it : Ep.It} {r : Nat} {z : Int} {h} {R : Value → Hp → Prop}, (∀ h', Gr h h' → ldc (.pointer (some ⟨r, 0 + 0, none⟩)) h' = some (.int .i64 z)) → (∀ h', Gr h h' → R (.bool (decide (it.b = z))) h') → S.C I.f_reclaim_Bag_Retire_1 [vIt it, at0 r] h R
  idxI : ∀ {v f : Value} {seen : List Int} {p : Int → Bool} {h R}, Sl EI1 h v seen → Tells S I f (fun x => .int .i64 x) p seen h → seen.length ≤ 1000000 → (∀ h' z, Gr h h' → decide ((0 : Int) ≤ z) = seen.any p → R (.int .i64 z) h') → S.C I.f_slices_IndexFunc_int64_int64 [v, f] h R
  idxT : ∀ {v f : Value} {its : List Ep.It} {q : Ep.It → Bool} {h R}, Sl EIt h v its → Tells S I f vIt q its h → its.length ≤ 1000000 → (∀ h' z, Gr h h' → decide ((0 : Int) ≤ z) = its.any q → R (.int .i64 z) h') → S.C I.f_slices_IndexFunc_reclaim_Item_reclaim_Item [v, f] h R
theorem K_conI (cs : CtE S I) (hs : Sl EI1 h v seen) (hf : Tells S I f (fun x => .int .i64 x) p seen h) (hl : seen.length ≤ 1000000) (hR : ∀ h', Gr h h' → R (.bool (seen.any p)) h') : F_slices_ContainsFunc_int64_int64 S I v f h R := by
  unfold F_slices_ContainsFunc_int64_int64
  refine cs.idxI hs hf hl fun h' z g e => ?_
  refine En.vb bin_geq ?_
  rw [e]
  exact hR _ g
theorem K_conT (cs : CtE S I) (hs : Sl EIt h v its) (hf : Tells S I f vIt q its h) (hl : its.length ≤ 1000000) (hR : ∀ h', Gr h h' → R (.bool (its.any q)) h') : F_slices_ContainsFunc_reclaim_Item_reclaim_Item S I v f h R := by
  unfold F_slices_ContainsFunc_reclaim_Item_reclaim_Item
  refine cs.idxT hs hf hl fun h' z g e => ?_
  refine En.vb bin_geq ?_
  rw [e]
  exact hR _ g
theorem K_cloneIt {v : Value} {us : List Ep.It} (hs : Sl EIt h v us) (hl : us.length ≤ 1000000) (hR : ∀ u h', Cx (fun _ => False) h h' [rSl EIt (shV u) us] → R (shV u) h') : F_slices_Clone_reclaim_Item_reclaim_Item S I v h R := by
  unfold F_slices_Clone_reclaim_Item_reclaim_Item
  exact clone_ok hs rfl rfl (by omega) (by omega) hR
structure CtF (S : Sys) (I : Ids) : Prop extends CtE S I where
  conI : ∀ {v f : Value} {seen : List Int} {p : Int → Bool} {h R}, Sl EI1 h v seen → Tells S I f (fun x => .int .i64 x) p seen h → seen.length ≤ 1000000 → (∀ h', Gr h h' → R (.bool (seen.any p)) h') → S.C I.f_slices_ContainsFunc_int64_int64 [v, f] h R
  conT : ∀ {v f : Value} {its : List Ep.It} {q : Ep.It → Bool} {h R}, Sl EIt h v its → Tells S I f vIt q its h → its.length ≤ 1000000 → (∀ h', Gr h h' → R (.bool (its.any q)) h') → S.C I.f_slices_ContainsFunc_reclaim_Item_reclaim_Item [v, f] h R
  cloneIt : ∀ {v : Value} {us : List Ep.It} {h R}, Sl EIt h v us → us.length ≤ 1000000 → (∀ u h', Cx (fun _ => False) h h' [rSl EIt (shV u) us] → R (shV u) h') → S.C I.f_slices_Clone_reclaim_Item_reclaim_Item [v] h R
theorem K_way (cs : CtF S I) (hs : Sl EI1 h v seen) (hl : seen.length ≤ 1000000) (hR : ∀ h', Gr h h' → R (.bool (way seen it)) h') : F_reclaim_Item_way S I (vIt it) v (.slice none 0 0) h R := by
  have hnil : ∀ h', Sl EI1 h' (.slice none 0 0) [] := fun h' => ⟨none, 0, rfl, Nat.le_refl _, (fun _ => rfl), fun i x hx => nil_get hx⟩
  have hw : way seen it = seen.any (Go.Ep.lives it) := rfl
  rw [hw] at hR
  unfold F_reclaim_Item_way
  have c := Cx.start0 h
  refine c.nv (cs := [_, _, _]) rfl rfl fun i3_ _ c => ?_
  replace c : Cx _ _ _ [_] := c
  refine .here ?_
  refine En.vb (c.vl (i := 0) rfl rfl) ?_
  refine En.vb rfl ?_
  refine cs.conI (p := Go.Ep.lives it) (hs.gr c.gr) (fun h' x R _ _ hR => .inl (.inl ⟨_, _, _, rfl, cs.lives (it := it) hR⟩)) hl fun _ g => ?_
  have c := c.more g
  replace c : Cx _ _ _ [_] := c
  refine En.br (fun e10 => ?_) fun e10 => ?_
  · first | (rw [e10] at hR; exact hR _ c.gr)
  · refine En.vb (c.vl (i := 0) rfl rfl) ?_
    refine En.vb rfl ?_
    refine cs.conI (p := fun _ => false) (hnil _) (fun h' x R _ hx _ => by cases hx) (Nat.zero_le _) fun _ g => ?_
    have c := c.more g
    replace c : Cx _ _ _ [_] := c
    first | (rw [e10] at hR; exact hR _ c.gr)
theorem K_Retire (cs : CtF S I) (hs : Sl EIt h (shV u) its) (hl : its.length ≤ 1000000) (hb : 0 ≤ it.b ∧ it.b < 64) (hbi : 0 ≤ it.birth ∧ it.birth ≤ it.ret) (hn : ∀ x ∈ its, x.b ≠ it.b) (hR : ∀ u' h', Cx (fun _ => False) h h' [rSl EIt (shV u') (its ++ [it])] → R (.tuple #[vBg u', .int .i64 0]) h') : F_reclaim_Bag_Retire S I (vBg u) (vIt it) h R := by
  have hany : its.any (fun x => decide (x.b = it.b)) = false := List.any_eq_false.2 fun y hy => by simpa using hn y hy
  unfold F_reclaim_Bag_Retire
  have c := Cx.start0 h
  refine c.nv (cs := [_]) rfl rfl fun b2_ _ c => ?_
  replace c : Cx _ _ _ [_] := c
  refine c.nv (cs := [_, _, _]) rfl rfl fun i3_ _ c => ?_
  replace c : Cx _ _ _ [_, _] := c
  refine c.nv (cs := [_]) rfl rfl fun v4_ _ c => ?_
  replace c : Cx _ _ _ [_, _, _] := c
  refine .here ?_
  refine En.vb (fa_add _ _ _) ?_
  refine En.vb (c.vc (i := 1) rfl rfl) ?_
  refine En.vb (k_ltF (by omega)) ?_
  refine brf ?_
  refine En.vb (fa_add _ _ _) ?_
  refine En.vb (c.vc (i := 1) rfl rfl) ?_
  refine En.vb (k_geF (by omega)) ?_
  refine brf ?_
  refine .here ?_
  refine En.vb (fa_add _ _ _) ?_
  refine En.vb (c.vc (i := 1) rfl rfl) ?_
  refine En.vb (k_ltF (by omega)) ?_
  refine brf ?_
  refine En.vb (fa_add _ _ _) ?_
  refine En.vb (c.vc (i := 1) rfl rfl) ?_
  refine En.vb (fa_add _ _ _) ?_
  refine En.vb (c.vc (i := 1) rfl rfl) ?_
  refine En.vb (k_gtF (by omega)) ?_
  refine brf ?_
  refine En.vb (fa_add _ _ _) ?_
  refine En.vb (c.vc (i := 0) rfl rfl) ?_
  refine En.vb rfl ?_
  refine cs.conT (q := fun x => decide (x.b = it.b)) (hs.gr c.gr) (fun h' x R g _ hR => .inl (.inl ⟨_, _, _, rfl, cs.ret1 (it := x) (z := it.b) (fun h'' g2 => ((c.more g).more g2).vc (i := 1) rfl rfl) hR⟩)) hl fun _ g => ?_
  have c := c.more g
  rw [hany]
  replace c : Cx _ _ _ [_, _, _] := c
  refine brf ?_
  refine .here ?_
  refine En.vb (fa_add _ _ _) ?_
  refine En.vb (c.vc (i := 0) rfl rfl) ?_
  refine En.vb (c.vl (i := 1) rfl rfl) ?_
  refine And.intro ?_ ?_
  · refine cs.cloneIt (hs.gr c.gr) hl fun s _ d => ?_
    have c := c.frame0 d
    replace c : Cx _ _ _ [_, _, _, _] := c
    refine And.intro (c.vl (i := 1) rfl rfl) ?_
    refine c.bsl1 EIt it rfl rfl fun v38 _ c => ?_
    replace c : Cx _ _ _ [_, _, _, _, _] := c
    refine c.ap 3 rfl (c.sl (i := 4) rfl).sl rfl rfl (by simp only [List.length_singleton]; omega) (by simp only [List.length_singleton]; omega) fun v39 _ c => ?_
    obtain ⟨u', rfl⟩ := (c.sl (i := 3) rfl).isH
    replace c : Cx _ _ _ [_, _, _, _, _] := c
    refine En.vb (bldS_ok (ds := [_]) rfl) ?_
    refine c.vw 2 rfl (vs := [_]) (by exact rfl) (by exact rfl) (by exact rfl) (by exact rfl) fun _ c => ?_
    replace c : Cx _ _ _ [_, _, _, _, _] := c
    refine En.vb (c.vl (i := 2) rfl rfl) ?_
    exact hR u' _ (c.pick [3])
  · refine c.bsl1 EIt it rfl rfl fun v38 _ c => ?_
    replace c : Cx _ _ _ [_, _, _, _] := c
    refine And.intro (c.vc (i := 0) rfl rfl) ?_
    refine cs.cloneIt (hs.gr c.gr) hl fun s _ d => ?_
    have c := c.frame0 d
    replace c : Cx _ _ _ [_, _, _, _, _] := c
    refine c.ap 4 rfl (c.sl (i := 3) rfl).sl rfl rfl (by simp only [List.length_singleton]; omega) (by simp only [List.length_singleton]; omega) fun v39 _ c => ?_
    obtain ⟨u', rfl⟩ := (c.sl (i := 4) rfl).isH
    replace c : Cx _ _ _ [_, _, _, _, _] := c
    refine En.vb (bldS_ok (ds := [_]) rfl) ?_
    refine c.vw 2 rfl (vs := [_]) (by exact rfl) (by exact rfl) (by exact rfl) (by exact rfl) fun _ c => ?_
    replace c : Cx _ _ _ [_, _, _, _, _] := c
    refine En.vb (c.vl (i := 2) rfl rfl) ?_
    exact hR u' _ (c.pick [4])
theorem K_bLen (hs : Sl EIt h (shV u) its) (hR : ∀ h', Gr h h' → R (.int .i64 its.length) h') : F_reclaim_Bag_Len S I (vBg u) h R := by
  unfold F_reclaim_Bag_Len
  have c := Cx.start0 h
  refine c.nv (cs := [_]) rfl rfl fun b1_ _ c => ?_
  replace c : Cx _ _ _ [_] := c
  refine En.vb (fa_add _ _ _) ?_
  refine En.vb (c.vc (i := 0) rfl rfl) ?_
  refine En.vb (hs.gr c.gr).ln ?_
  exact hR _ c.gr
structure CtG (S : Sys) (I : Ids) : Prop extends CtF S I where
  way : ∀ {v : Value} {seen : List Int} {it : Ep.It} {h R}, Sl EI1 h v seen → seen.length ≤ 1000000 → (∀ h', Gr h h' → R (.bool (way seen it)) h') → S.C I.f_reclaim_Item_way [vIt it, v, .slice none 0 0] h R
theorem filter_take {α : Type} {p : α → Bool} {xs : List α} {i : Nat} {x : α} (hx : xs[i]? = some x) : (xs.take (i + 1)).filter p = (xs.take i).filter p ++ (if p x then [x] else []) := by
  rw [List.take_add_one, hx, Option.toList_some, List.filter_append]
  congr 1
  cases h : p x <;> simp [h]
theorem K_Sweep (cs : CtG S I) (hs : Sl EIt h (shV u) its) (ha : Sl EI1 h v seen) (hl : its.length < 4) (hsl : seen.length ≤ 1000000) (hR : ∀ u' g' h', Cx (fun _ => False) h h' [rSl EIt (shV u') (its.filter (way seen)), rSl EI1 (shV g') (srt ((its.filter fun i => !way seen i).map (·.b)))] → R (.tuple #[vBg u', shV g']) h') : F_reclaim_Bag_Sweep S I (vBg u) v (.slice none 0 0) h R := by
  unfold F_reclaim_Bag_Sweep
  have c := Cx.start0 h
  refine c.nv (cs := [_]) rfl rfl fun b3_ _ c => ?_
  replace c : Cx _ _ _ [_] := c
  refine c.nv (cs := [_]) rfl rfl fun v6_ _ c => ?_
  replace c : Cx _ _ _ [_, _] := c
  refine En.vb (fa_add _ _ _) ?_
  refine En.vb (c.vc (i := 0) rfl rfl) ?_
  refine En.vb (hs.gr c.gr).ln ?_
  refine Lp3.by (fun (i : Nat) a b z h' => z = .int .i64 i ∧ i ≤ its.length ∧ ∃ ua ub : SH, a = shV ua ∧ b = shV ub ∧ Cx (fun _ => False) h h' [rV b3_ [shV u], rV v6_ [.slice none 0 0], rSl EIt (shV ua) ((its.take i).filter (way seen)), rSl EI1 (shV ub) (((its.take i).filter fun i => !way seen i).map (·.b))]) (fun i => its.length - i) 0 ⟨rfl, Nat.zero_le _, (none, 0, 0), (none, 0, 0), rfl, rfl, (c.nil EIt).nil EI1⟩ ?_
  rintro i _ _ _ h3 ⟨rfl, hi, ua, ub, rfl, rfl, c⟩ again hagain
  have hlk : ((its.take i).filter (Go.Ep.way seen)).length ≤ 4 := Nat.le_trans (List.length_filter_le ..) (by rw [List.length_take]; omega)
  have hlg : (((its.take i).filter fun i => !Go.Ep.way seen i).map (·.b)).length ≤ 3 := by rw [List.length_map]; exact Nat.le_trans (List.length_filter_le ..) (by rw [List.length_take]; omega)
  replace c : Cx _ _ _ [_, _, _, _] := c
  refine En.vb bin_lss ?_
  refine brd (fun e16 => ?_) fun e16 => ?_
  · refine .here ?_
    have hx := List.getElem?_eq_getElem (l := its) (i := i) (by omega)
    generalize its[i]'(by omega) = x at hx
    refine (hs.gr c.gr).whole rfl hx rfl ?_
    refine c.nv (cs := [_, _, _]) rfl rfl fun i11_ _ c => ?_
    replace c : Cx _ _ _ [_, _, _, _, _] := c
    refine c.vw 4 rfl (vs := [_, _, _]) (by exact rfl) (by exact rfl) (by exact rfl) (by exact rfl) fun _ c => ?_
    replace c : Cx _ _ _ [_, _, _, _, _] := c
    refine En.vb (c.vl (i := 4) rfl rfl) ?_
    refine cs.way (it := x) (ha.gr c.gr) hsl fun _ g => ?_
    have c := c.more g
    replace c : Cx _ _ _ [_, _, _, _, _] := c
    refine En.br (fun e22 => ?_) fun e22 => ?_
    · refine En.vb (c.vl (i := 4) rfl rfl) ?_
      refine c.bsl1 EIt x rfl rfl fun v25 _ c => ?_
      replace c : Cx _ _ _ [_, _, _, _, _, _] := c
      refine c.ap 2 rfl (c.sl (i := 5) rfl).sl rfl rfl (by simp only [List.length_singleton]; omega) (by simp only [List.length_singleton]; omega) fun v26 _ c => ?_
      obtain ⟨u', rfl⟩ := (c.sl (i := 2) rfl).isH
      replace c : Cx _ _ _ [_, _, _, _, _, _] := c
      refine En.vb (inc (by omega)) ?_
      refine hagain (i + 1) _ _ _ _ ⟨rfl, by omega, _, _, rfl, rfl, ?_⟩ (by omega)
      rw [filter_take hx, filter_take hx, e22]
      first | (simp only [Bool.not_true, Bool.false_eq_true, if_false, if_true, List.append_nil]; exact c.pick [0, 1, 2, 3]) | (simp only [Bool.not_false, Bool.false_eq_true, if_false, if_true, List.append_nil, List.map_append, List.map_cons, List.map_nil]; exact c.pick [0, 1, 2, 3])
    · refine En.vb (fa_add _ _ _) ?_
      refine En.vb (c.vc (i := 4) rfl rfl) ?_
      refine c.bsl1 EI1 x.b rfl rfl fun v30 _ c => ?_
      replace c : Cx _ _ _ [_, _, _, _, _, _] := c
      refine c.ap 3 rfl (c.sl (i := 5) rfl).sl rfl rfl (by simp only [List.length_singleton]; omega) (by simp only [List.length_singleton]; omega) fun v31 _ c => ?_
      obtain ⟨u', rfl⟩ := (c.sl (i := 3) rfl).isH
      replace c : Cx _ _ _ [_, _, _, _, _, _] := c
      refine En.vb (inc (by omega)) ?_
      refine hagain (i + 1) _ _ _ _ ⟨rfl, by omega, _, _, rfl, rfl, ?_⟩ (by omega)
      rw [filter_take hx, filter_take hx, e22]
      first | (simp only [Bool.not_true, Bool.false_eq_true, if_false, if_true, List.append_nil]; exact c.pick [0, 1, 2, 3]) | (simp only [Bool.not_false, Bool.false_eq_true, if_false, if_true, List.append_nil, List.map_append, List.map_cons, List.map_nil]; exact c.pick [0, 1, 2, 3])
  · obtain rfl : i = its.length := by omega
    rw [List.take_of_length_le (Nat.le_refl _)] at c hlg
    obtain ⟨F, c1, up⟩ := c.frame (i := 3) rfl
    refine cs.sort (by omega) c1 fun _ c2 => ?_
    have c := up (M := []) c2
    replace c : Cx _ _ _ [_, _, _, _] := c
    refine En.vb (bldS_ok (ds := [_]) rfl) ?_
    refine c.vw 1 rfl (vs := [_]) (by exact rfl) (by exact rfl) (by exact rfl) (by exact rfl) fun _ c => ?_
    replace c : Cx _ _ _ [_, _, _, _] := c
    refine En.vb (c.vl (i := 1) rfl rfl) ?_
    exact hR ua ub _ (c.pick [2, 3])
end
end Go.En
