/-
  The writer: its parts. (Steps printed by wip/tools/walk.py from EqO.src.)
  The writer: its steps. (Steps printed by wip/tools/walk.py from EqP.src.)
-/
import Derived.Test.YtcepckpfhbcobaaGreatDoorXI
namespace Go.En
open Go.Ep

variable {S : Sys} {I : Ids} {h h0 h' : Hp} {F F0 : Fp} {R : Value → Hp → Prop} {L : List Res} {B B' : Bs}
def EU8 : Enc Int := { n := 1, c := fun i => [.int .u8 i], len := fun _ => rfl, one := fun a v h => by simp only [List.mem_singleton] at h; subst h; rfl }
def vWc (ops : SH) (phase : Int) (now : Value) (bag free : SH) (g0 g1 g2 g3 b0 b1 b2 b3 rv rver rref : Int) (old : Int) (seen : SH) : Value :=
  .agg #[.int .i64 3, .int .i64 8, .int .i64 0, shV ops, .int .i64 phase, now, shV bag, shV free, .int .i64 g0, .int .i64 g1, .int .i64 g2, .int .i64 g3, .int .i64 b0, .int .i64 b1, .int .i64 b2, .int .i64 b3, .int .i64 rv, .int .u32 rver, .int .u32 rref, .int .i64 old, shV seen, .bool false]
def vWr (ops : SH) (phase : Int) (now : Value) (bag free : SH) (g b : Int → Int) (root : W3) (old : Int) (seen : SH) : Value :=
  .agg #[.int .i64 3, .int .i64 8, .int .i64 0, shV ops, .int .i64 phase, now, shV bag, shV free, .int .i64 (g 0), .int .i64 (g 1), .int .i64 (g 2), .int .i64 (g 3), .int .i64 (b 0), .int .i64 (b 1), .int .i64 (b 2), .int .i64 (b 3), .int .i64 root.v, .int .u32 root.ver, .int .u32 root.ref, .int .i64 old, shV seen, .bool false]
/-- the slices of a writer, and what it keeps of the block that was replaced -/
structure WF where
  ops : SH
  bag : SH
  free : SH
  seen : SH
  old : Int
def nowW (I : Ids) : WS → Value
  | .adv1 => .iface I.t_era_code (vEc ⟨1, 0, W0, 0, false, false, I.f_era_code_raise⟩)
  | .adv2 f => .iface I.t_era_code (vEc ⟨1, 0, ⟨f, 0, 0⟩, 0, true, false, I.f_era_code_raise⟩)
  | _ => .nilIface
def phW : WS → Int
  | .w1 => 1
  | .w2 _ => 2
  | .w3 _ => 3
  | .w4 _ => 4
  | _ => 0
/-- the act that a writer waits for -/
def akW (w : Wr) : Ak :=
  match w.st with
  | .adv1 => .look 1
  | .adv2 f => .swap 1 ⟨f - 1, 0, 0⟩ ⟨f, 0, 0⟩
  | .w1 => .look 1
  | .w2 _ => .swap 56 ⟨val w.cur (w.gen w.cur), w.rver - 1, 0⟩ ⟨w.rv, w.rver, 0⟩
  | .w3 _ => .look 1
  | .w4 s => .look (8 * (s.length + 1))
  | .fin => .rest
def isFinW : WS → Bool
  | .fin => true
  | _ => false
def vWs (I : Ids) (f : WF) (w : Wr) : Value := vWr f.ops (phW w.st) (nowW I w.st) f.bag f.free w.gen w.birth ⟨w.rv, w.rver, 0⟩ f.old f.seen
/-- what a writer's value is, with its slices -/
structure WO' (B : Bs) (f : WF) (w : Wr) : Prop where
  ops : On B fun h => Sl EU8 h (shV f.ops) w.ops
  bag : On B fun h => Sl EIt h (shV f.bag) w.bag
  free : On B fun h => Sl EI1 h (shV f.free) w.free
  seen : ∀ s, w.st = .w4 s → On B fun h => Sl EI1 h (shV f.seen) s
  o2 : ∀ b, w.st = .w2 b → f.old = w.cur
  o3 : ∀ o, w.st = .w3 o → f.old = o
  nn : ∀ o ∈ w.ops, 0 ≤ o
theorem WO'.le {f : WF} {w : Wr} (H : WO' B f w) (l : B.le B') : WO' B' f w := ⟨H.ops.le l, H.bag.le l, H.free.le l, fun s h => (H.seen s h).le l, H.o2, H.o3, H.nn⟩
section
variable {ops bag free seen : SH} {phase old : Int} {g b : Int → Int} {root : W3} {at' : Int}
theorem K_wlook {p0 g0 g1 g2 g3 b0 b1 b2 b3 rv rver rref : Int} (hR : ∀ h', Gr h h' → R (.tuple #[.iface I.t_simulcasttop_epochWriter (vWc ops phase .nilIface bag free g0 g1 g2 g3 b0 b1 b2 b3 rv rver rref old seen), vAc ⟨5, at', W0, W0⟩, .bool false]) h') : F_simulcasttop_epochWriter_look S I (vWc ops p0 .nilIface bag free g0 g1 g2 g3 b0 b1 b2 b3 rv rver rref old seen) (.int .i64 phase) (.int .i64 at') h R := by
  unfold F_simulcasttop_epochWriter_look
  have c := Cx.start0 h
  refine c.nv (cs := [_, _, _, _, _, _, _, _, _, _, _, _, _, _, _, _, _, _, _, _, _, _]) rfl rfl fun w3_ _ c => ?_
  replace c : Cx _ _ _ [_] := c
  refine c.nv (cs := [_, _, _, _, _, _, _, _]) rfl rfl fun v7_ _ c => ?_
  replace c : Cx _ _ _ [_, _] := c
  refine En.vb (fa_add _ _ _) ?_
  refine c.vq 0 rfl (vs := [_]) (ds := [_, _, _, _, _, _, _, _, _, _, _, _, _, _, _, _, _, _, _, _, _, _]) (by exact rfl) (by exact rfl) (by exact rfl) (by exact rfl) (by exact rfl) fun _ c => ?_
  replace c : Cx _ _ _ [_, _] := c
  refine En.vb (c.vl (i := 0) rfl rfl) ?_
  refine En.vb rfl ?_
  refine En.vb (bldS_ok (ds := [_, _, _, _, _, _, _, _]) rfl) ?_
  refine c.vw 1 rfl (vs := [_, _, _, _, _, _, _, _]) (by exact rfl) (by exact rfl) (by exact rfl) (by exact rfl) fun _ c => ?_
  replace c : Cx _ _ _ [_, _] := c
  refine En.vb (c.vl (i := 1) rfl rfl) ?_
  exact hR _ c.gr
theorem K_eval {b' g' : Int} (hb : 0 ≤ b' ∧ b' < 4) (hg : 0 ≤ g' ∧ g' ≤ 100000) (hR : R (.int .i64 (val b' g')) h) : F_simulcasttop_epochValue S I (.int .i64 b') (.int .i64 g') h R := by
  unfold F_simulcasttop_epochValue
  refine En.vb (v := .int .i64 (g' * 16)) (by rw [bin_mul, wr64 ⟨by omega, by omega⟩]) ?_
  refine En.vb (addI ⟨by omega, by omega⟩) ?_
  refine En.vb (addI ⟨by omega, by omega⟩) ?_
  exact hR
structure CuA (S : Sys) (I : Ids) : Prop extends CtG S I where
  wlook : ∀ {ops bag free seen : SH} {phase old : Int} {g0 g1 g2 g3 b0 b1 b2 b3 rv rver rref : Int} {at' p0 : Int} {h} {R : Value → Hp → Prop}, (∀ h', Gr h h' → R (.tuple #[.iface I.t_simulcasttop_epochWriter (vWc ops phase .nilIface bag free g0 g1 g2 g3 b0 b1 b2 b3 rv rver rref old seen), vAc ⟨5, at', W0, W0⟩, .bool false]) h') →
    S.C I.f_simulcasttop_epochWriter_look [vWc ops p0 .nilIface bag free g0 g1 g2 g3 b0 b1 b2 b3 rv rver rref old seen, .int .i64 phase, .int .i64 at'] h R
  eval : ∀ {b' g' : Int} {h} {R : Value → Hp → Prop}, (0 ≤ b' ∧ b' < 4) → (0 ≤ g' ∧ g' ≤ 100000) → R (.int .i64 (val b' g')) h → S.C I.f_simulcasttop_epochValue [.int .i64 b', .int .i64 g'] h R
/-- the next operation begins -/
theorem K_wbegin (cs : CuA S I) (Z : Zs h) {w : Wr} {f : WF} {p0 : Int} (hn : ∀ o ∈ w.ops, 0 ≤ o) (ho : Sl EU8 h (shV f.ops) w.ops) (hf : Sl EI1 h (shV f.free) w.free) (hR : ∀ f' h', f'.ops = f.ops → f'.bag = f.bag → f'.free = f.free → f'.old = f.old → (∀ s, w.go.st = .w4 s → f'.seen = (none, 0, 0) ∧ s = []) → Gr h h' → R (.tuple #[.iface I.t_simulcasttop_epochWriter (vWs I f' w.go), vAc (akW w.go).ac, .bool (isFinW w.go.st)]) h') :
    F_simulcasttop_epochWriter_begin S I (vWr f.ops p0 .nilIface f.bag f.free w.gen w.birth ⟨w.rv, w.rver, 0⟩ f.old f.seen) h R := by
  obtain ⟨st, ops, bag, free, gen, birth, rv, rver, cur⟩ := w
  dsimp only at hn ho hf
  cases ops with
  | nil =>
    have e : (⟨st, [], bag, free, gen, birth, rv, rver, cur⟩ : Wr).go = ⟨.fin, [], bag, free, gen, birth, rv, rver, cur⟩ := rfl
    rw [e] at hR
    unfold F_simulcasttop_epochWriter_begin
    have c := Cx.start0 h
    refine c.nv (cs := [_, _, _, _, _, _, _, _, _, _, _, _, _, _, _, _, _, _, _, _, _, _]) rfl rfl fun w1_ _ c => ?_
    replace c : Cx _ _ _ [_] := c
    refine c.nv (cs := [_, _, _, _, _, _, _, _]) rfl rfl fun v3_ _ c => ?_
    replace c : Cx _ _ _ [_, _] := c
    refine En.vb (fa_add _ _ _) ?_
    refine c.vq 0 rfl (vs := [_]) (ds := [_, _, _, _, _, _, _, _, _, _, _, _, _, _, _, _, _, _, _, _, _, _]) (by exact rfl) (by exact rfl) (by exact rfl) (by exact rfl) (by exact rfl) fun _ c => ?_
    replace c : Cx _ _ _ [_, _] := c
    refine En.vb (fa_add _ _ _) ?_
    refine En.vb (c.vc (i := 0) rfl rfl) ?_
    refine En.vb (ho.gr c.gr).ln ?_
    refine En.vb (v := .bool true) rfl ?_
    refine brt ?_
    refine En.vb (c.vl (i := 0) rfl rfl) ?_
    refine En.vb rfl ?_
    refine En.vb (bldS_ok (ds := [_, _, _, _, _, _, _, _]) rfl) ?_
    refine c.vw 1 rfl (vs := [_, _, _, _, _, _, _, _]) (by exact rfl) (by exact rfl) (by exact rfl) (by exact rfl) fun _ c => ?_
    replace c : Cx _ _ _ [_, _] := c
    refine En.vb (c.vl (i := 1) rfl rfl) ?_
    exact hR f _ rfl rfl rfl rfl (fun s h => by cases h) c.gr
  | cons o os =>
    have ho0 := hn o (List.mem_cons_self ..)
    by_cases h3 : o % 3 = 0
    · have e : (⟨st, o :: os, bag, free, gen, birth, rv, rver, cur⟩ : Wr).go = ⟨.adv1, o :: os, bag, free, gen, birth, rv, rver, cur⟩ := by
        unfold Wr.go
        dsimp only
        rw [if_pos h3]
      rw [e] at hR
      unfold F_simulcasttop_epochWriter_begin
      have c := Cx.start0 h
      refine c.nv (cs := [_, _, _, _, _, _, _, _, _, _, _, _, _, _, _, _, _, _, _, _, _, _]) rfl rfl fun w1_ _ c => ?_
      replace c : Cx _ _ _ [_] := c
      refine c.nv (cs := [_, _, _, _, _, _, _, _]) rfl rfl fun v3_ _ c => ?_
      replace c : Cx _ _ _ [_, _] := c
      refine En.vb (fa_add _ _ _) ?_
      refine c.vq 0 rfl (vs := [_]) (ds := [_, _, _, _, _, _, _, _, _, _, _, _, _, _, _, _, _, _, _, _, _, _]) (by exact rfl) (by exact rfl) (by exact rfl) (by exact rfl) (by exact rfl) fun _ c => ?_
      replace c : Cx _ _ _ [_, _] := c
      refine En.vb (fa_add _ _ _) ?_
      refine En.vb (c.vc (i := 0) rfl rfl) ?_
      refine En.vb (ho.gr c.gr).ln ?_
      refine En.vb (k_eqF (by rw [List.length_cons]; omega)) ?_
      refine brf ?_
      refine En.vb (fa_add _ _ _) ?_
      refine En.vb (c.vc (i := 0) rfl rfl) ?_
      refine (ho.gr c.gr).one (i := 0) rfl rfl rfl (u := .int .u8 o) rfl ?_
      refine En.vb (remI ho0 (by decide)) ?_
      refine En.vb (k_eqT h3) ?_
      refine brt ?_
      refine En.vb (fa_add _ _ _) ?_
      refine En.vb (c.vp (i := 0) (ds := [_, _, _]) rfl rfl rfl) ?_
      refine cs.advance _ _ (Z.gr c.gr) fun _ g => ?_
      have c := c.more g
      replace c : Cx _ _ _ [_, _] := c
      refine En.vb rfl ?_
      refine En.vb rfl ?_
      refine En.vb (v := .bool false) rfl ?_
      refine brf ?_
      refine En.vb (bldS_ok (ds := [_, _, _, _]) rfl) ?_
      refine ⟨_, _, _, rfl, cs.mtE, cs.ecNext (x := ⟨1, 0, W0, 0, false, false, I.f_era_Advance_1⟩) (q := Go0) rfl cs.ad1 _ _ fun _ g => ?_⟩
      have c := c.more g
      replace c : Cx _ _ _ [_, _] := c
      refine En.vb rfl ?_
      refine En.vb rfl ?_
      refine En.vb rfl ?_
      refine c.nv (cs := [_, _, _, _, _, _, _, _]) rfl rfl fun a8_ _ c => ?_
      replace c : Cx _ _ _ [_, _, _] := c
      refine c.vw 2 rfl (vs := [_, _, _, _, _, _, _, _]) (by exact rfl) (by exact rfl) (by exact rfl) (by exact rfl) fun _ c => ?_
      replace c : Cx _ _ _ [_, _, _] := c
      refine En.vb (fa_add _ _ _) ?_
      refine c.vq 0 rfl (vs := [_]) (ds := [_, _, _, _, _, _, _, _, _, _, _, _, _, _, _, _, _, _, _, _, _, _]) (by exact rfl) (by exact rfl) (by exact rfl) (by exact rfl) (by exact rfl) fun _ c => ?_
      replace c : Cx _ _ _ [_, _, _] := c
      refine En.vb (c.vl (i := 0) rfl rfl) ?_
      refine En.vb rfl ?_
      refine En.vb (c.vl (i := 2) rfl rfl) ?_
      refine c.vw 1 rfl (vs := [_, _, _, _, _, _, _, _]) (by exact rfl) (by exact rfl) (by exact rfl) (by exact rfl) fun _ c => ?_
      replace c : Cx _ _ _ [_, _, _] := c
      refine En.vb (c.vl (i := 1) rfl rfl) ?_
      exact hR f _ rfl rfl rfl rfl (fun s h => by cases h) c.gr
    · cases free with
      | nil =>
        have e : (⟨st, o :: os, bag, [], gen, birth, rv, rver, cur⟩ : Wr).go = ⟨.w4 [], o :: os, bag, [], gen, birth, rv, rver, cur⟩ := by
          unfold Wr.go
          dsimp only
          rw [if_neg h3]
        rw [e] at hR
        unfold F_simulcasttop_epochWriter_begin
        have c := Cx.start0 h
        refine c.nv (cs := [_, _, _, _, _, _, _, _, _, _, _, _, _, _, _, _, _, _, _, _, _, _]) rfl rfl fun w1_ _ c => ?_
        replace c : Cx _ _ _ [_] := c
        refine c.nv (cs := [_, _, _, _, _, _, _, _]) rfl rfl fun v3_ _ c => ?_
        replace c : Cx _ _ _ [_, _] := c
        refine En.vb (fa_add _ _ _) ?_
        refine c.vq 0 rfl (vs := [_]) (ds := [_, _, _, _, _, _, _, _, _, _, _, _, _, _, _, _, _, _, _, _, _, _]) (by exact rfl) (by exact rfl) (by exact rfl) (by exact rfl) (by exact rfl) fun _ c => ?_
        replace c : Cx _ _ _ [_, _] := c
        refine En.vb (fa_add _ _ _) ?_
        refine En.vb (c.vc (i := 0) rfl rfl) ?_
        refine En.vb (ho.gr c.gr).ln ?_
        refine En.vb (k_eqF (by rw [List.length_cons]; omega)) ?_
        refine brf ?_
        refine En.vb (fa_add _ _ _) ?_
        refine En.vb (c.vc (i := 0) rfl rfl) ?_
        refine (ho.gr c.gr).one (i := 0) rfl rfl rfl (u := .int .u8 o) rfl ?_
        refine En.vb (remI ho0 (by decide)) ?_
        refine En.vb (k_eqF h3) ?_
        refine brf ?_
        refine En.vb (fa_add _ _ _) ?_
        refine En.vb (c.vc (i := 0) rfl rfl) ?_
        refine En.vb (hf.gr c.gr).ln ?_
        refine En.vb (v := .bool true) rfl ?_
        refine brt ?_
        refine En.vb (fa_add _ _ _) ?_
        refine c.vq 0 rfl (vs := [_]) (ds := [_, _, _, _, _, _, _, _, _, _, _, _, _, _, _, _, _, _, _, _, _, _]) (by exact rfl) (by exact rfl) (by exact rfl) (by exact rfl) (by exact rfl) fun _ c => ?_
        replace c : Cx _ _ _ [_, _] := c
        refine En.vb (c.vl (i := 0) rfl rfl) ?_
        refine En.vb (fa_add _ _ _) ?_
        refine En.vb (c.vp (i := 0) (ds := [_, _, _]) rfl rfl rfl) ?_
        refine cs.announce (t := 1) (by decide) _ _ (Z.gr c.gr) fun _ g => ?_
        have c := c.more g
        replace c : Cx _ _ _ [_, _] := c
        refine And.intro (c.vl (i := 0) rfl rfl) ?_
        refine cs.wlook (seen := (none, 0, 0)) fun _ g => ?_
        have c := c.more g
        replace c : Cx _ _ _ [_, _] := c
        refine En.vb rfl ?_
        refine En.vb rfl ?_
        refine En.vb rfl ?_
        refine c.vw 1 rfl (vs := [_, _, _, _, _, _, _, _]) (by exact rfl) (by exact rfl) (by exact rfl) (by exact rfl) fun _ c => ?_
        replace c : Cx _ _ _ [_, _] := c
        refine En.vb (c.vl (i := 1) rfl rfl) ?_
        exact hR { f with seen := (none, 0, 0) } _ rfl rfl rfl rfl (fun s h => by cases h; exact ⟨rfl, rfl⟩) c.gr
      | cons fb fr =>
        have e : (⟨st, o :: os, bag, fb :: fr, gen, birth, rv, rver, cur⟩ : Wr).go = ⟨.w1, o :: os, bag, fb :: fr, gen, birth, rv, rver, cur⟩ := by
          unfold Wr.go
          dsimp only
          rw [if_neg h3]
        rw [e] at hR
        unfold F_simulcasttop_epochWriter_begin
        have c := Cx.start0 h
        refine c.nv (cs := [_, _, _, _, _, _, _, _, _, _, _, _, _, _, _, _, _, _, _, _, _, _]) rfl rfl fun w1_ _ c => ?_
        replace c : Cx _ _ _ [_] := c
        refine c.nv (cs := [_, _, _, _, _, _, _, _]) rfl rfl fun v3_ _ c => ?_
        replace c : Cx _ _ _ [_, _] := c
        refine En.vb (fa_add _ _ _) ?_
        refine c.vq 0 rfl (vs := [_]) (ds := [_, _, _, _, _, _, _, _, _, _, _, _, _, _, _, _, _, _, _, _, _, _]) (by exact rfl) (by exact rfl) (by exact rfl) (by exact rfl) (by exact rfl) fun _ c => ?_
        replace c : Cx _ _ _ [_, _] := c
        refine En.vb (fa_add _ _ _) ?_
        refine En.vb (c.vc (i := 0) rfl rfl) ?_
        refine En.vb (ho.gr c.gr).ln ?_
        refine En.vb (k_eqF (by rw [List.length_cons]; omega)) ?_
        refine brf ?_
        refine En.vb (fa_add _ _ _) ?_
        refine En.vb (c.vc (i := 0) rfl rfl) ?_
        refine (ho.gr c.gr).one (i := 0) rfl rfl rfl (u := .int .u8 o) rfl ?_
        refine En.vb (remI ho0 (by decide)) ?_
        refine En.vb (k_eqF h3) ?_
        refine brf ?_
        refine En.vb (fa_add _ _ _) ?_
        refine En.vb (c.vc (i := 0) rfl rfl) ?_
        refine En.vb (hf.gr c.gr).ln ?_
        refine En.vb (k_eqF (by rw [List.length_cons]; omega)) ?_
        refine brf ?_
        refine En.vb (c.vl (i := 0) rfl rfl) ?_
        refine En.vb (fa_add _ _ _) ?_
        refine En.vb (c.vp (i := 0) (ds := [_, _, _]) rfl rfl rfl) ?_
        refine cs.era _ _ (Z.gr c.gr) fun _ g => ?_
        have c := c.more g
        replace c : Cx _ _ _ [_, _] := c
        refine And.intro (c.vl (i := 0) rfl rfl) ?_
        refine cs.wlook fun _ g => ?_
        have c := c.more g
        replace c : Cx _ _ _ [_, _] := c
        refine En.vb rfl ?_
        refine En.vb rfl ?_
        refine En.vb rfl ?_
        refine c.vw 1 rfl (vs := [_, _, _, _, _, _, _, _]) (by exact rfl) (by exact rfl) (by exact rfl) (by exact rfl) fun _ c => ?_
        replace c : Cx _ _ _ [_, _] := c
        refine En.vb (c.vl (i := 1) rfl rfl) ?_
        exact hR f _ rfl rfl rfl rfl (fun s h => by cases h) c.gr
end
end Go.En
namespace Go.En
open Go.Ep

variable {S : Sys} {I : Ids} {h h0 h' : Hp} {F F0 : Fp} {R : Value → Hp → Prop} {L : List Res} {B B' : Bs}
section
variable {α : Type} {E : Enc α} {v : Value} {xs ys : List α}
theorem On.tail (H : On B fun h => Sl E h v xs) (b0 : B.p h) {n : Nat} (hn : n = E.n) (hl : 1 ≤ xs.length) : ∃ u : SH, slc n v (some (.int .i64 1)) none none = some (shV u) ∧ On B fun h => Sl E h (shV u) xs.tail := by
  obtain ⟨w, e, hw, _⟩ := (H h b0).sub hn (lo := some (.int .i64 1)) (hi := none) (l := 1) (.inr ⟨_, _, rfl, rfl⟩) (.inl ⟨rfl, rfl⟩) hl (Nat.le_refl _)
  obtain ⟨a, cap, ew, _⟩ := id hw
  rw [List.take_length, List.drop_one] at ew
  refine ⟨(a, xs.tail.length, cap), by rw [e, ew], fun h'' b => ?_⟩
  obtain ⟨w2, e2, hw2, _⟩ := (H h'' b).sub hn (lo := some (.int .i64 1)) (hi := none) (l := 1) (.inr ⟨_, _, rfl, rfl⟩) (.inl ⟨rfl, rfl⟩) hl (Nat.le_refl _)
  rw [e] at e2
  injection e2 with e2
  subst e2
  rw [List.take_length, List.drop_one] at hw2
  rw [show shV (a, xs.tail.length, cap) = w from ew.symm]; exact hw2
/-- appended to a slice that is full, if only nothing -/
theorem Cx.apz (c : Cx F0 h0 h L) {a : Option Addr} {x : Value} (hs : Sl E h (.slice a xs.length xs.length) xs) (hx : Sl E h x ys) {e : TypeId} {zero : Array Value} {n bytes : Nat} (hn : n = E.n) (hz : zero.size = E.n) (hb : (xs.length + ys.length) * bytes ≤ 140737488355328) (hl : xs.length + ys.length ≤ 9223372036854775807) {k : Value → Hp → Prop}
    (hz0 : ys = [] → k (.slice a xs.length xs.length) h) (hk : ∀ v' h', Cx F0 h0 h' (L ++ [rSl E v' (xs ++ ys)]) → k v' h') : Ap e zero n bytes (.slice a xs.length xs.length) x h k := by
  cases ys with
  | nil =>
    obtain ⟨xa, xc, ex, hxc, hxn, hxr⟩ := id hx
    have hxrow := hx.row (n := 0 * n) (by rw [hn]; simp)
    refine ⟨a, xs.length, xs.length, xa, 0, xc, [], rfl, ex, by simpa using hxrow, fun _ => ?_, fun hlt => by omega⟩
    cases a with
    | none => exact hz0 rfl
    | some a => exact ⟨h, rfl, hz0 rfl⟩
  | cons y ys => exact c.apc hs hx (by simp) hn hz hb hl hk
theorem addU {a b : Int} (h : 0 ≤ a + b ∧ a + b < 4294967296) : bin .add (.int .u32 a) (.int .u32 b) = some (.int .u32 (a + b)) := by
  rw [bin_add]
  have : IntKind.u32.wrap (a + b) = a + b := by simp only [IntKind.wrap, IntKind.bits, IntKind.signed]; simp; omega
  rw [this]
end
theorem K_clipI {v u : Value} {us : List Int} (hs : Sl EI1 h v us) (e : slc 1 v none (some (.int .i64 us.length)) (some (.int .i64 us.length)) = some u) (hR : R u h) : F_slices_Clip_int_int S I v h R := by
  unfold F_slices_Clip_int_int
  exact clip_ok hs e hR
theorem K_clipI64 {v u : Value} {us : List Int} (hs : Sl EI1 h v us) (e : slc 1 v none (some (.int .i64 us.length)) (some (.int .i64 us.length)) = some u) (hR : R u h) : F_slices_Clip_int64_int64 S I v h R := by
  unfold F_slices_Clip_int64_int64
  exact clip_ok hs e hR
structure CuB (S : Sys) (I : Ids) : Prop extends CuA S I where
  wbegin : ∀ {w : Wr} {f : WF} {p0 : Int} {h R}, Zs h → (∀ o ∈ w.ops, 0 ≤ o) → Sl EU8 h (shV f.ops) w.ops → Sl EI1 h (shV f.free) w.free → (∀ f' h', f'.ops = f.ops → f'.bag = f.bag → f'.free = f.free → f'.old = f.old → (∀ s, w.go.st = .w4 s → f'.seen = (none, 0, 0) ∧ s = []) → Gr h h' → R (.tuple #[.iface I.t_simulcasttop_epochWriter (vWs I f' w.go), vAc (akW w.go).ac, .bool (isFinW w.go.st)]) h') →
    S.C I.f_simulcasttop_epochWriter_begin [vWr f.ops p0 .nilIface f.bag f.free w.gen w.birth ⟨w.rv, w.rver, 0⟩ f.old f.seen] h R
  clipI : ∀ {v u : Value} {us : List Int} {h} {R : Value → Hp → Prop}, Sl EI1 h v us → slc 1 v none (some (.int .i64 us.length)) (some (.int .i64 us.length)) = some u → R u h → S.C I.f_slices_Clip_int_int [v] h R
  clipI64 : ∀ {v u : Value} {us : List Int} {h} {R : Value → Hp → Prop}, Sl EI1 h v us → slc 1 v none (some (.int .i64 us.length)) (some (.int .i64 us.length)) = some u → R u h → S.C I.f_slices_Clip_int64_int64 [v] h R
  retire : ∀ {u : SH} {its : List Ep.It} {it : Ep.It} {h R}, Sl EIt h (shV u) its → its.length ≤ 1000000 → (0 ≤ it.b ∧ it.b < 64) → (0 ≤ it.birth ∧ it.birth ≤ it.ret) → (∀ x ∈ its, x.b ≠ it.b) → (∀ u' h', Cx (fun _ => False) h h' [rSl EIt (shV u') (its ++ [it])] → R (.tuple #[vBg u', .int .i64 0]) h') → S.C I.f_reclaim_Bag_Retire [vBg u, vIt it] h R
  sweep : ∀ {u : SH} {its : List Ep.It} {v : Value} {seen : List Int} {h R}, Sl EIt h (shV u) its → Sl EI1 h v seen → its.length < 4 → seen.length ≤ 1000000 → (∀ u' g' h', Cx (fun _ => False) h h' [rSl EIt (shV u') (its.filter (Go.Ep.way seen)), rSl EI1 (shV g') (srt ((its.filter fun i => !Go.Ep.way seen i).map (·.b)))] → R (.tuple #[vBg u', shV g']) h') → S.C I.f_reclaim_Bag_Sweep [vBg u, v, .slice none 0 0] h R
/-- what the writer's step is given -/
def GivesW (m : Wm) (w : Wr) (g : Go4) : Prop :=
  match w.st with
  | .adv1 => g = ⟨⟨m.era, 0, 0⟩, true⟩
  | .adv2 _ => g.ok = true
  | .w1 => g.w.v = m.era
  | .w2 _ => g.ok = true
  | .w3 _ => g.w.v = m.era
  | .w4 s => g.w.v = m.ann (s.length + 1)
  | .fin => False
/-- the numbers stay small -/
structure Sm (m : Wm) (w : Wr) : Prop where
  era : m.era ≤ 10000
  ver : 0 ≤ w.rver ∧ w.rver ≤ 10000
  gen : ∀ b, 0 ≤ w.gen b ∧ w.gen b ≤ 10000
section
variable {m : Wm} {w : Wr} {f : WF} {g : Go4}
theorem K_w_adv (cs : CuB S I) (b0 : B.p h) (hZ : On B Zs) (H : WO' B f w) (W : WI m w) (O : Go.Ep.WO w) (Q : Sm m w) (hg : GivesW m w g) (hst : w.st = .adv1 ∨ ∃ z, w.st = .adv2 z)
    (hR : ∀ f', Rt B h (fun B => WO' B f' (stepW srt m w).2) fun h' => R (.tuple #[.iface I.t_simulcasttop_epochWriter (vWs I f' (stepW srt m w).2), vAc (akW (stepW srt m w).2).ac, .bool (isFinW (stepW srt m w).2.st)]) h') : F_simulcasttop_epochWriter_Next S I (vWs I f w) (vGo g) h R := by
  obtain ⟨st, ops, bag, free, gen, birth, rv, rver, cur⟩ := w
  have hera := W.era
  have hera2 := Q.era
  rcases hst with rfl | ⟨z, rfl⟩
  · obtain rfl : g = ⟨⟨m.era, 0, 0⟩, true⟩ := hg
    have ee : m.era + 1 - 1 = m.era := by omega
    have hp := cs.raise (x := ⟨1, 0, W0, 0, false, false, I.f_era_code_raise⟩) (q := ⟨⟨m.era, 0, 0⟩, true⟩) (by dsimp only; omega) (by dsimp only; omega)
    have fin : ∀ h', Gr h h' → R (.tuple #[.iface I.t_simulcasttop_epochWriter (vWs I f ⟨.adv2 (m.era + 1), ops, bag, free, gen, birth, rv, rver, cur⟩), vAc ⟨6, 1, ⟨m.era, 0, 0⟩, ⟨m.era + 1, 0, 0⟩⟩, .bool false]) h' := fun h' gr => by
      have := (hR f).nil (h' := h') ⟨(H.ops).le (Bs.le_and _ _), (H.bag).le (Bs.le_and _ _), (H.free).le (Bs.le_and _ _), (fun s h => by cases h), (fun s h => by cases h), (fun s h => by cases h), H.nn⟩ gr
      have e2 : (akW (stepW srt m ⟨.adv1, ops, bag, free, gen, birth, rv, rver, cur⟩).2).ac = ⟨6, 1, ⟨m.era, 0, 0⟩, ⟨m.era + 1, 0, 0⟩⟩ := by
        show (⟨6, 1, ⟨m.era + 1 - 1, 0, 0⟩, ⟨m.era + 1, 0, 0⟩⟩ : Ac) = _
        rw [ee]
      rw [e2] at this
      exact this
    unfold F_simulcasttop_epochWriter_Next
    have c := Cx.start0 h
    refine c.nv (cs := [_, _, _, _, _, _, _, _, _, _, _, _, _, _, _, _, _, _, _, _, _, _]) rfl rfl fun w2_ _ c => ?_
    replace c : Cx _ _ _ [_] := c
    refine c.nv (cs := [_, _, _, _]) rfl rfl fun g3_ _ c => ?_
    replace c : Cx _ _ _ [_, _] := c
    refine c.nv (cs := [_, _, _, _, _, _, _, _]) rfl rfl fun v5_ _ c => ?_
    replace c : Cx _ _ _ [_, _, _] := c
    refine En.vb (fa_add _ _ _) ?_
    refine En.vb (c.vc (i := 0) rfl rfl) ?_
    refine En.vb (v := .bool true) (rfl) ?_
    refine brt ?_
    refine En.vb (fa_add _ _ _) ?_
    refine En.vb (c.vc (i := 0) rfl rfl) ?_
    refine En.vb (c.vl (i := 1) rfl rfl) ?_
    refine ⟨_, _, _, rfl, cs.mtE, cs.ecNext (x := ⟨1, 0, W0, 0, false, false, I.f_era_code_raise⟩) (y := ⟨1, 0, ⟨m.era + 1, 0, 0⟩, 0, true, false, I.f_era_code_raise⟩) (q := ⟨⟨m.era, 0, 0⟩, true⟩) rfl hp _ _ fun _ gg => ?_⟩
    have c := c.more gg
    replace c : Cx _ _ _ [_, _, _] := c
    refine En.vb rfl ?_
    refine En.vb rfl ?_
    refine En.vb rfl ?_
    refine c.nv (cs := [_, _, _, _, _, _, _, _]) rfl rfl fun a8_ _ c => ?_
    replace c : Cx _ _ _ [_, _, _, _] := c
    refine c.vw 3 rfl (vs := [_, _, _, _, _, _, _, _]) (by exact rfl) (by exact rfl) (by exact rfl) (by exact rfl) fun _ c => ?_
    replace c : Cx _ _ _ [_, _, _, _] := c
    refine En.vb (fa_add _ _ _) ?_
    refine c.vq 0 rfl (vs := [_]) (ds := [_, _, _, _, _, _, _, _, _, _, _, _, _, _, _, _, _, _, _, _, _, _]) (by exact rfl) (by exact rfl) (by exact rfl) (by exact rfl) (by exact rfl) fun _ c => ?_
    replace c : Cx _ _ _ [_, _, _, _] := c
    refine En.vb (v := .bool true) (rfl) ?_
    refine brt ?_
    refine En.vb (c.vl (i := 0) rfl rfl) ?_
    refine En.vb rfl ?_
    refine En.vb (c.vl (i := 3) rfl rfl) ?_
    refine c.vw 2 rfl (vs := [_, _, _, _, _, _, _, _]) (by exact rfl) (by exact rfl) (by exact rfl) (by exact rfl) fun _ c => ?_
    replace c : Cx _ _ _ [_, _, _, _] := c
    refine En.vb (c.vl (i := 2) rfl rfl) ?_
    exact fin _ c.gr
  · obtain ⟨gw, gok⟩ := g
    obtain rfl : gok = true := hg
    have ho : ops ≠ [] := O (by simp)
    obtain ⟨u, eu, hu⟩ := H.ops.tail b0 (n := 1) rfl (by cases ops with
      | nil => exact absurd rfl ho
      | cons a l => simp)
    have hp : Pv S I.f_era_code_raise [vEc ⟨1, 0, ⟨z, 0, 0⟩, 0, true, false, I.f_era_code_raise⟩, vGo ⟨gw, true⟩] (.tuple #[vEc ⟨1, 0, ⟨z, 0, 0⟩, z, true, true, I.f_era_code_raise⟩, vAc Ac0]) := fun h R hR => cs.raiseT h R hR
    have fin : ∀ f' h', f'.ops = u → f'.bag = f.bag → f'.free = f.free → f'.old = f.old → (∀ s, (Wr.go ⟨.adv2 z, ops.tail, bag, free, gen, birth, rv, rver, cur⟩).st = .w4 s → f'.seen = (none, 0, 0) ∧ s = []) → Gr h h' → R (.tuple #[.iface I.t_simulcasttop_epochWriter (vWs I f' (Wr.go ⟨.adv2 z, ops.tail, bag, free, gen, birth, rv, rver, cur⟩)), vAc (akW (Wr.go ⟨.adv2 z, ops.tail, bag, free, gen, birth, rv, rver, cur⟩)).ac, .bool (isFinW (Wr.go ⟨.adv2 z, ops.tail, bag, free, gen, birth, rv, rver, cur⟩).st)]) h' := fun f' h' e1 e2 e3 e4 e5 gr => by
      refine (hR f').nil (h' := h') ?_ gr
      obtain ⟨s, es, G⟩ := go_eq ⟨.adv2 z, ops.tail, bag, free, gen, birth, rv, rver, cur⟩
      have ew : (stepW srt m ⟨.adv2 z, ops, bag, free, gen, birth, rv, rver, cur⟩).2 = Wr.go ⟨.adv2 z, ops.tail, bag, free, gen, birth, rv, rver, cur⟩ := rfl
      rw [ew]
      rw [es] at e5 ⊢
      refine ⟨by rw [e1]; exact hu.le (Bs.le_and _ _), by rw [e2]; exact H.bag.le (Bs.le_and _ _), by rw [e3]; exact H.free.le (Bs.le_and _ _), fun s' hs' => ?_, (fun b hb => absurd hb (G.n2 b)), (fun b hb => absurd hb (G.n3 b)), fun o hoo => H.nn o (List.mem_of_mem_tail hoo)⟩
      obtain ⟨e6, rfl⟩ := e5 s' hs'
      rw [e6]
      exact fun h b => ⟨none, 0, rfl, Nat.le_refl _, (fun _ => rfl), fun i x hx => nil_get hx⟩
    unfold F_simulcasttop_epochWriter_Next
    have c := Cx.start0 h
    refine c.nv (cs := [_, _, _, _, _, _, _, _, _, _, _, _, _, _, _, _, _, _, _, _, _, _]) rfl rfl fun w2_ _ c => ?_
    replace c : Cx _ _ _ [_] := c
    refine c.nv (cs := [_, _, _, _]) rfl rfl fun g3_ _ c => ?_
    replace c : Cx _ _ _ [_, _] := c
    refine c.nv (cs := [_, _, _, _, _, _, _, _]) rfl rfl fun v5_ _ c => ?_
    replace c : Cx _ _ _ [_, _, _] := c
    refine En.vb (fa_add _ _ _) ?_
    refine En.vb (c.vc (i := 0) rfl rfl) ?_
    refine En.vb (v := .bool true) (rfl) ?_
    refine brt ?_
    refine En.vb (fa_add _ _ _) ?_
    refine En.vb (c.vc (i := 0) rfl rfl) ?_
    refine En.vb (c.vl (i := 1) rfl rfl) ?_
    refine ⟨_, _, _, rfl, cs.mtE, cs.ecNext (x := ⟨1, 0, ⟨z, 0, 0⟩, 0, true, false, I.f_era_code_raise⟩) (y := ⟨1, 0, ⟨z, 0, 0⟩, z, true, true, I.f_era_code_raise⟩) (q := ⟨gw, true⟩) rfl hp _ _ fun _ gg => ?_⟩
    have c := c.more gg
    replace c : Cx _ _ _ [_, _, _] := c
    refine En.vb rfl ?_
    refine En.vb rfl ?_
    refine En.vb rfl ?_
    refine c.nv (cs := [_, _, _, _, _, _, _, _]) rfl rfl fun a8_ _ c => ?_
    replace c : Cx _ _ _ [_, _, _, _] := c
    refine c.vw 3 rfl (vs := [_, _, _, _, _, _, _, _]) (by exact rfl) (by exact rfl) (by exact rfl) (by exact rfl) fun _ c => ?_
    replace c : Cx _ _ _ [_, _, _, _] := c
    refine En.vb (fa_add _ _ _) ?_
    refine c.vq 0 rfl (vs := [_]) (ds := [_, _, _, _, _, _, _, _, _, _, _, _, _, _, _, _, _, _, _, _, _, _]) (by exact rfl) (by exact rfl) (by exact rfl) (by exact rfl) (by exact rfl) fun _ c => ?_
    replace c : Cx _ _ _ [_, _, _, _] := c
    refine En.vb (v := .bool false) (rfl) ?_
    refine brf ?_
    refine En.vb (fa_add _ _ _) ?_
    refine En.vb (c.vc (i := 0) rfl rfl) ?_
    refine En.vb eu ?_
    refine En.vb (fa_add _ _ _) ?_
    refine c.vq 0 rfl (vs := [_]) (ds := [_, _, _, _, _, _, _, _, _, _, _, _, _, _, _, _, _, _, _, _, _, _]) (by exact rfl) (by exact rfl) (by exact rfl) (by exact rfl) (by exact rfl) fun _ c => ?_
    replace c : Cx _ _ _ [_, _, _, _] := c
    refine En.vb (fa_add _ _ _) ?_
    refine c.vq 0 rfl (vs := [_]) (ds := [_, _, _, _, _, _, _, _, _, _, _, _, _, _, _, _, _, _, _, _, _, _]) (by exact rfl) (by exact rfl) (by exact rfl) (by exact rfl) (by exact rfl) fun _ c => ?_
    replace c : Cx _ _ _ [_, _, _, _] := c
    refine En.vb (c.vl (i := 0) rfl rfl) ?_
    refine cs.wbegin (w := ⟨.adv2 z, ops.tail, bag, free, gen, birth, rv, rver, cur⟩) (f := ⟨u, f.bag, f.free, f.seen, f.old⟩) (hZ _ (B.up b0 c.gr)) (fun o hoo => H.nn o (List.mem_of_mem_tail hoo)) (hu _ (B.up b0 c.gr)) (H.free _ (B.up b0 c.gr)) fun f' _ e1 e2 e3 e4 e5 gr => ?_
    have c := c.more gr
    replace c : Cx _ _ _ [_, _, _, _] := c
    refine En.vb rfl ?_
    refine En.vb rfl ?_
    refine En.vb rfl ?_
    refine c.vw 2 rfl (vs := [_, _, _, _, _, _, _, _]) (by exact rfl) (by exact rfl) (by exact rfl) (by exact rfl) fun _ c => ?_
    replace c : Cx _ _ _ [_, _, _, _] := c
    refine En.vb (c.vl (i := 2) rfl rfl) ?_
    exact fin f' _ e1 e2 e3 e4 e5 c.gr
theorem K_w_1 (cs : CuB S I) (b0 : B.p h) (hZ : On B Zs) (H : WO' B f w) (W : WI m w) (Q : Sm m w) (hg : GivesW m w g) (hst : w.st = .w1)
    (hR : ∀ f', Rt B h (fun B => WO' B f' (stepW srt m w).2) fun h' => R (.tuple #[.iface I.t_simulcasttop_epochWriter (vWs I f' (stepW srt m w).2), vAc (akW (stepW srt m w).2).ac, .bool (isFinW (stepW srt m w).2.st)]) h') : F_simulcasttop_epochWriter_Next S I (vWs I f w) (vGo g) h R := by
  have hne := W.w1 hst
  have hN := W.nodup
  have hrt := W.rt
  have hown := W.own fun b hb => by rw [hst] at hb; cases hb
  have hcur : 0 ≤ w.cur ∧ w.cur < 4 := W.mem4 (List.mem_cons_self ..)
  have hgen := Q.gen
  have hver := Q.ver
  have hbi := W.bi
  have hera := Q.era
  obtain ⟨st, ops, bag, free, gen, birth, rv, rver, cur⟩ := w
  dsimp only at hst hne hN hrt hown hcur hgen hver hbi
  subst hst
  obtain ⟨⟨gv, gver, gref⟩, gok⟩ := g
  obtain rfl : gv = m.era := hg
  cases free with
  | nil => exact absurd rfl hne
  | cons b fr =>
    have hb4 : 0 ≤ b ∧ b < 4 := W.mem4 (by simp [extra])
    have hcb : cur ≠ b := fun e => by
      rw [e] at hN
      exact (List.nodup_cons.1 hN).1 (by simp [extra])
    have hrv : rv = val cur (gen cur) := by rw [hown.1]; exact hrt
    obtain ⟨u, eu, hu⟩ := H.free.tail b0 (n := 1) rfl (by simp)
    have hcg := hgen cur
    have e16 : (rv - 1) % 16 = cur := by
      rw [hrv]
      unfold val
      omega
    have eac : (akW (stepW srt m ⟨.w1, ops, bag, b :: fr, gen, birth, rv, rver, cur⟩).2).ac = ⟨6, 56, ⟨rv, rver, 0⟩, ⟨val b (gen b + 1), rver + 1, 0⟩⟩ := by
      show (⟨6, 56, ⟨val cur (setI gen b (gen b + 1) cur), rver + 1 - 1, 0⟩, ⟨val b (gen b + 1), rver + 1, 0⟩⟩ : Ac) = _
      rw [show setI gen b (gen b + 1) cur = gen cur from if_neg hcb, ← hrv, show rver + 1 - 1 = rver by omega]
    have hgb := hgen b
    have fin : ∀ h', Gr h h' → R (.tuple #[.iface I.t_simulcasttop_epochWriter (vWs I ⟨f.ops, f.bag, u, f.seen, cur⟩ ⟨.w2 b, ops, bag, fr, setI gen b (gen b + 1), setI birth b m.era, val b (gen b + 1), rver + 1, cur⟩), vAc ⟨6, 56, ⟨rv, rver, 0⟩, ⟨val b (gen b + 1), rver + 1, 0⟩⟩, .bool false]) h' := fun h' gr => by
      have := (hR ⟨f.ops, f.bag, u, f.seen, cur⟩).nil (h' := h') ⟨H.ops.le (Bs.le_and _ _), H.bag.le (Bs.le_and _ _), hu.le (Bs.le_and _ _), (fun s h => by cases h), (fun b' hb' => rfl), (fun s h => by cases h), H.nn⟩ gr
      rw [eac] at this
      exact this
    clear eac hR
    have e4 : b = 0 ∨ b = 1 ∨ b = 2 ∨ b = 3 := by omega
    have hfr := H.free
    rcases e4 with rfl | rfl | rfl | rfl
    · unfold F_simulcasttop_epochWriter_Next
      have c := Cx.start0 h
      refine c.nv (cs := [_, _, _, _, _, _, _, _, _, _, _, _, _, _, _, _, _, _, _, _, _, _]) rfl rfl fun w2_ _ c => ?_
      replace c : Cx _ _ _ [_] := c
      refine c.nv (cs := [_, _, _, _]) rfl rfl fun g3_ _ c => ?_
      replace c : Cx _ _ _ [_, _] := c
      refine c.nv (cs := [_, _, _, _, _, _, _, _]) rfl rfl fun v5_ _ c => ?_
      replace c : Cx _ _ _ [_, _, _] := c
      refine En.vb (fa_add _ _ _) ?_
      refine En.vb (c.vc (i := 0) rfl rfl) ?_
      refine En.vb (v := .bool false) (rfl) ?_
      refine brf ?_
      refine En.vb (fa_add _ _ _) ?_
      refine En.vb (c.vc (i := 0) rfl rfl) ?_
      refine En.vb (v := .bool false) rfl ?_
      refine brf ?_
      refine En.vb (v := .bool true) rfl ?_
      refine brt ?_
      refine En.vb (fa_add _ _ _) ?_
      refine En.vb (c.vc (i := 0) rfl rfl) ?_
      refine (hfr _ (B.up b0 c.gr)).one (i := 0) rfl rfl rfl (u := .int .i64 0) rfl ?_
      refine En.vb (fa_add _ _ _) ?_
      refine En.vb (c.vc (i := 0) rfl rfl) ?_
      refine En.vb eu ?_
      refine En.vb (fa_add _ _ _) ?_
      refine c.vq 0 rfl (vs := [_]) (ds := [_, _, _, _, _, _, _, _, _, _, _, _, _, _, _, _, _, _, _, _, _, _]) (by exact rfl) (by exact rfl) (by exact rfl) (by exact rfl) (by exact rfl) fun _ c => ?_
      replace c : Cx _ _ _ [_, _, _] := c
      refine En.vb (fa_add _ _ _) ?_
      refine En.vb (ixa_at (i := 0) rfl (by decide) _) ?_
      refine En.vb (c.vc (i := 0) rfl rfl) ?_
      refine En.vb (addI (a := gen 0) (b := 1) ⟨by omega, by omega⟩) ?_
      refine En.vb (fa_add _ _ _) ?_
      refine En.vb (ixa_at (i := 0) rfl (by decide) _) ?_
      refine c.vq 0 rfl (vs := [_]) (ds := [_, _, _, _, _, _, _, _, _, _, _, _, _, _, _, _, _, _, _, _, _, _]) (by exact rfl) (by exact rfl) (by exact rfl) (by exact rfl) (by exact rfl) fun _ c => ?_
      replace c : Cx _ _ _ [_, _, _] := c
      refine En.vb (fa_add _ _ _) ?_
      refine En.vb (fa_add _ _ _) ?_
      refine En.vb (c.vc (i := 1) rfl rfl) ?_
      refine En.vb (fa_add _ _ _) ?_
      refine En.vb (ixa_at (i := 0) rfl (by decide) _) ?_
      refine c.vq 0 rfl (vs := [_]) (ds := [_, _, _, _, _, _, _, _, _, _, _, _, _, _, _, _, _, _, _, _, _, _]) (by exact rfl) (by exact rfl) (by exact rfl) (by exact rfl) (by exact rfl) fun _ c => ?_
      replace c : Cx _ _ _ [_, _, _] := c
      refine En.vb (fa_add _ _ _) ?_
      refine En.vb (c.vp (i := 0) (ds := [_, _, _]) rfl rfl rfl) ?_
      refine c.nv (cs := [_, _, _]) rfl rfl fun old11_ _ c => ?_
      replace c : Cx _ _ _ [_, _, _, _] := c
      refine c.vw 3 rfl (vs := [_, _, _]) (by exact rfl) (by exact rfl) (by exact rfl) (by exact rfl) fun _ c => ?_
      replace c : Cx _ _ _ [_, _, _, _] := c
      refine En.vb (fa_add _ _ _) ?_
      refine En.vb (c.vc (i := 3) rfl rfl) ?_
      refine En.vb (subI (a := rv) (b := 1) ⟨by rw [hrv]; unfold val; omega, by rw [hrv]; unfold val; omega⟩) ?_
      refine En.vb (remI (a := rv - 1) (by rw [hrv]; unfold val; omega) (by decide)) ?_
      rw [e16]
      refine En.vb (fa_add _ _ _) ?_
      refine c.vq 0 rfl (vs := [_]) (ds := [_, _, _, _, _, _, _, _, _, _, _, _, _, _, _, _, _, _, _, _, _, _]) (by exact rfl) (by exact rfl) (by exact rfl) (by exact rfl) (by exact rfl) fun _ c => ?_
      replace c : Cx _ _ _ [_, _, _, _] := c
      refine En.vb (fa_add _ _ _) ?_
      refine En.vb (ixa_at (i := 0) rfl (by decide) _) ?_
      refine En.vb (c.vc (i := 0) rfl rfl) ?_
      refine En.vb (fa_add _ _ _) ?_
      refine En.vb (c.vc (i := 3) rfl rfl) ?_
      refine En.vb (addU (a := rver) (b := 1) ⟨by omega, by omega⟩) ?_
      refine cs.eval (b' := 0) (g' := gen 0 + 1) (by decide) ⟨by omega, by omega⟩ ?_
      refine And.intro (c.vc (i := 3) rfl rfl) ?_
      refine En.vb (bldS_ok (ds := [_, _, _]) rfl) ?_
      refine En.vb (fa_add _ _ _) ?_
      refine c.vq 0 rfl (vs := [_, _, _]) (ds := [_, _, _, _, _, _, _, _, _, _, _, _, _, _, _, _, _, _, _, _, _, _]) (by exact rfl) (by exact rfl) (by exact rfl) (by exact rfl) (by exact rfl) fun _ c => ?_
      replace c : Cx _ _ _ [_, _, _, _] := c
      refine En.vb (fa_add _ _ _) ?_
      refine c.vq 0 rfl (vs := [_]) (ds := [_, _, _, _, _, _, _, _, _, _, _, _, _, _, _, _, _, _, _, _, _, _]) (by exact rfl) (by exact rfl) (by exact rfl) (by exact rfl) (by exact rfl) fun _ c => ?_
      replace c : Cx _ _ _ [_, _, _, _] := c
      refine En.vb (c.vl (i := 0) rfl rfl) ?_
      refine En.vb rfl ?_
      refine En.vb (fa_add _ _ _) ?_
      refine En.vb (c.vp (i := 0) (ds := [_, _, _]) rfl rfl rfl) ?_
      refine En.vb (c.vl (i := 3) rfl rfl) ?_
      refine En.vb (fa_add _ _ _) ?_
      refine En.vb (c.vp (i := 0) (ds := [_, _, _]) rfl rfl rfl) ?_
      refine cs.cell (i := 0) (by decide) _ _ (hZ _ (B.up b0 c.gr)) fun _ g => ?_
      have c := c.more g
      replace c : Cx _ _ _ [_, _, _, _] := c
      refine And.intro (c.vp (i := 0) (ds := [_, _, _]) rfl rfl rfl) ?_
      refine And.intro (c.vl (i := 3) rfl rfl) ?_
      refine And.intro (c.vl (i := 0) rfl rfl) ?_
      refine En.vb (bldS_ok (ds := [_, _, _, _, _, _, _, _]) rfl) ?_
      refine c.vw 2 rfl (vs := [_, _, _, _, _, _, _, _]) (by exact rfl) (by exact rfl) (by exact rfl) (by exact rfl) fun _ c => ?_
      replace c : Cx _ _ _ [_, _, _, _] := c
      refine En.vb (c.vl (i := 2) rfl rfl) ?_
      exact fin _ c.gr
    · unfold F_simulcasttop_epochWriter_Next
      have c := Cx.start0 h
      refine c.nv (cs := [_, _, _, _, _, _, _, _, _, _, _, _, _, _, _, _, _, _, _, _, _, _]) rfl rfl fun w2_ _ c => ?_
      replace c : Cx _ _ _ [_] := c
      refine c.nv (cs := [_, _, _, _]) rfl rfl fun g3_ _ c => ?_
      replace c : Cx _ _ _ [_, _] := c
      refine c.nv (cs := [_, _, _, _, _, _, _, _]) rfl rfl fun v5_ _ c => ?_
      replace c : Cx _ _ _ [_, _, _] := c
      refine En.vb (fa_add _ _ _) ?_
      refine En.vb (c.vc (i := 0) rfl rfl) ?_
      refine En.vb (v := .bool false) (rfl) ?_
      refine brf ?_
      refine En.vb (fa_add _ _ _) ?_
      refine En.vb (c.vc (i := 0) rfl rfl) ?_
      refine En.vb (v := .bool false) rfl ?_
      refine brf ?_
      refine En.vb (v := .bool true) rfl ?_
      refine brt ?_
      refine En.vb (fa_add _ _ _) ?_
      refine En.vb (c.vc (i := 0) rfl rfl) ?_
      refine (hfr _ (B.up b0 c.gr)).one (i := 0) rfl rfl rfl (u := .int .i64 1) rfl ?_
      refine En.vb (fa_add _ _ _) ?_
      refine En.vb (c.vc (i := 0) rfl rfl) ?_
      refine En.vb eu ?_
      refine En.vb (fa_add _ _ _) ?_
      refine c.vq 0 rfl (vs := [_]) (ds := [_, _, _, _, _, _, _, _, _, _, _, _, _, _, _, _, _, _, _, _, _, _]) (by exact rfl) (by exact rfl) (by exact rfl) (by exact rfl) (by exact rfl) fun _ c => ?_
      replace c : Cx _ _ _ [_, _, _] := c
      refine En.vb (fa_add _ _ _) ?_
      refine En.vb (ixa_at (i := 1) rfl (by decide) _) ?_
      refine En.vb (c.vc (i := 0) rfl rfl) ?_
      refine En.vb (addI (a := gen 1) (b := 1) ⟨by omega, by omega⟩) ?_
      refine En.vb (fa_add _ _ _) ?_
      refine En.vb (ixa_at (i := 1) rfl (by decide) _) ?_
      refine c.vq 0 rfl (vs := [_]) (ds := [_, _, _, _, _, _, _, _, _, _, _, _, _, _, _, _, _, _, _, _, _, _]) (by exact rfl) (by exact rfl) (by exact rfl) (by exact rfl) (by exact rfl) fun _ c => ?_
      replace c : Cx _ _ _ [_, _, _] := c
      refine En.vb (fa_add _ _ _) ?_
      refine En.vb (fa_add _ _ _) ?_
      refine En.vb (c.vc (i := 1) rfl rfl) ?_
      refine En.vb (fa_add _ _ _) ?_
      refine En.vb (ixa_at (i := 1) rfl (by decide) _) ?_
      refine c.vq 0 rfl (vs := [_]) (ds := [_, _, _, _, _, _, _, _, _, _, _, _, _, _, _, _, _, _, _, _, _, _]) (by exact rfl) (by exact rfl) (by exact rfl) (by exact rfl) (by exact rfl) fun _ c => ?_
      replace c : Cx _ _ _ [_, _, _] := c
      refine En.vb (fa_add _ _ _) ?_
      refine En.vb (c.vp (i := 0) (ds := [_, _, _]) rfl rfl rfl) ?_
      refine c.nv (cs := [_, _, _]) rfl rfl fun old11_ _ c => ?_
      replace c : Cx _ _ _ [_, _, _, _] := c
      refine c.vw 3 rfl (vs := [_, _, _]) (by exact rfl) (by exact rfl) (by exact rfl) (by exact rfl) fun _ c => ?_
      replace c : Cx _ _ _ [_, _, _, _] := c
      refine En.vb (fa_add _ _ _) ?_
      refine En.vb (c.vc (i := 3) rfl rfl) ?_
      refine En.vb (subI (a := rv) (b := 1) ⟨by rw [hrv]; unfold val; omega, by rw [hrv]; unfold val; omega⟩) ?_
      refine En.vb (remI (a := rv - 1) (by rw [hrv]; unfold val; omega) (by decide)) ?_
      rw [e16]
      refine En.vb (fa_add _ _ _) ?_
      refine c.vq 0 rfl (vs := [_]) (ds := [_, _, _, _, _, _, _, _, _, _, _, _, _, _, _, _, _, _, _, _, _, _]) (by exact rfl) (by exact rfl) (by exact rfl) (by exact rfl) (by exact rfl) fun _ c => ?_
      replace c : Cx _ _ _ [_, _, _, _] := c
      refine En.vb (fa_add _ _ _) ?_
      refine En.vb (ixa_at (i := 1) rfl (by decide) _) ?_
      refine En.vb (c.vc (i := 0) rfl rfl) ?_
      refine En.vb (fa_add _ _ _) ?_
      refine En.vb (c.vc (i := 3) rfl rfl) ?_
      refine En.vb (addU (a := rver) (b := 1) ⟨by omega, by omega⟩) ?_
      refine cs.eval (b' := 1) (g' := gen 1 + 1) (by decide) ⟨by omega, by omega⟩ ?_
      refine And.intro (c.vc (i := 3) rfl rfl) ?_
      refine En.vb (bldS_ok (ds := [_, _, _]) rfl) ?_
      refine En.vb (fa_add _ _ _) ?_
      refine c.vq 0 rfl (vs := [_, _, _]) (ds := [_, _, _, _, _, _, _, _, _, _, _, _, _, _, _, _, _, _, _, _, _, _]) (by exact rfl) (by exact rfl) (by exact rfl) (by exact rfl) (by exact rfl) fun _ c => ?_
      replace c : Cx _ _ _ [_, _, _, _] := c
      refine En.vb (fa_add _ _ _) ?_
      refine c.vq 0 rfl (vs := [_]) (ds := [_, _, _, _, _, _, _, _, _, _, _, _, _, _, _, _, _, _, _, _, _, _]) (by exact rfl) (by exact rfl) (by exact rfl) (by exact rfl) (by exact rfl) fun _ c => ?_
      replace c : Cx _ _ _ [_, _, _, _] := c
      refine En.vb (c.vl (i := 0) rfl rfl) ?_
      refine En.vb rfl ?_
      refine En.vb (fa_add _ _ _) ?_
      refine En.vb (c.vp (i := 0) (ds := [_, _, _]) rfl rfl rfl) ?_
      refine En.vb (c.vl (i := 3) rfl rfl) ?_
      refine En.vb (fa_add _ _ _) ?_
      refine En.vb (c.vp (i := 0) (ds := [_, _, _]) rfl rfl rfl) ?_
      refine cs.cell (i := 0) (by decide) _ _ (hZ _ (B.up b0 c.gr)) fun _ g => ?_
      have c := c.more g
      replace c : Cx _ _ _ [_, _, _, _] := c
      refine And.intro (c.vp (i := 0) (ds := [_, _, _]) rfl rfl rfl) ?_
      refine And.intro (c.vl (i := 3) rfl rfl) ?_
      refine And.intro (c.vl (i := 0) rfl rfl) ?_
      refine En.vb (bldS_ok (ds := [_, _, _, _, _, _, _, _]) rfl) ?_
      refine c.vw 2 rfl (vs := [_, _, _, _, _, _, _, _]) (by exact rfl) (by exact rfl) (by exact rfl) (by exact rfl) fun _ c => ?_
      replace c : Cx _ _ _ [_, _, _, _] := c
      refine En.vb (c.vl (i := 2) rfl rfl) ?_
      exact fin _ c.gr
    · unfold F_simulcasttop_epochWriter_Next
      have c := Cx.start0 h
      refine c.nv (cs := [_, _, _, _, _, _, _, _, _, _, _, _, _, _, _, _, _, _, _, _, _, _]) rfl rfl fun w2_ _ c => ?_
      replace c : Cx _ _ _ [_] := c
      refine c.nv (cs := [_, _, _, _]) rfl rfl fun g3_ _ c => ?_
      replace c : Cx _ _ _ [_, _] := c
      refine c.nv (cs := [_, _, _, _, _, _, _, _]) rfl rfl fun v5_ _ c => ?_
      replace c : Cx _ _ _ [_, _, _] := c
      refine En.vb (fa_add _ _ _) ?_
      refine En.vb (c.vc (i := 0) rfl rfl) ?_
      refine En.vb (v := .bool false) (rfl) ?_
      refine brf ?_
      refine En.vb (fa_add _ _ _) ?_
      refine En.vb (c.vc (i := 0) rfl rfl) ?_
      refine En.vb (v := .bool false) rfl ?_
      refine brf ?_
      refine En.vb (v := .bool true) rfl ?_
      refine brt ?_
      refine En.vb (fa_add _ _ _) ?_
      refine En.vb (c.vc (i := 0) rfl rfl) ?_
      refine (hfr _ (B.up b0 c.gr)).one (i := 0) rfl rfl rfl (u := .int .i64 2) rfl ?_
      refine En.vb (fa_add _ _ _) ?_
      refine En.vb (c.vc (i := 0) rfl rfl) ?_
      refine En.vb eu ?_
      refine En.vb (fa_add _ _ _) ?_
      refine c.vq 0 rfl (vs := [_]) (ds := [_, _, _, _, _, _, _, _, _, _, _, _, _, _, _, _, _, _, _, _, _, _]) (by exact rfl) (by exact rfl) (by exact rfl) (by exact rfl) (by exact rfl) fun _ c => ?_
      replace c : Cx _ _ _ [_, _, _] := c
      refine En.vb (fa_add _ _ _) ?_
      refine En.vb (ixa_at (i := 2) rfl (by decide) _) ?_
      refine En.vb (c.vc (i := 0) rfl rfl) ?_
      refine En.vb (addI (a := gen 2) (b := 1) ⟨by omega, by omega⟩) ?_
      refine En.vb (fa_add _ _ _) ?_
      refine En.vb (ixa_at (i := 2) rfl (by decide) _) ?_
      refine c.vq 0 rfl (vs := [_]) (ds := [_, _, _, _, _, _, _, _, _, _, _, _, _, _, _, _, _, _, _, _, _, _]) (by exact rfl) (by exact rfl) (by exact rfl) (by exact rfl) (by exact rfl) fun _ c => ?_
      replace c : Cx _ _ _ [_, _, _] := c
      refine En.vb (fa_add _ _ _) ?_
      refine En.vb (fa_add _ _ _) ?_
      refine En.vb (c.vc (i := 1) rfl rfl) ?_
      refine En.vb (fa_add _ _ _) ?_
      refine En.vb (ixa_at (i := 2) rfl (by decide) _) ?_
      refine c.vq 0 rfl (vs := [_]) (ds := [_, _, _, _, _, _, _, _, _, _, _, _, _, _, _, _, _, _, _, _, _, _]) (by exact rfl) (by exact rfl) (by exact rfl) (by exact rfl) (by exact rfl) fun _ c => ?_
      replace c : Cx _ _ _ [_, _, _] := c
      refine En.vb (fa_add _ _ _) ?_
      refine En.vb (c.vp (i := 0) (ds := [_, _, _]) rfl rfl rfl) ?_
      refine c.nv (cs := [_, _, _]) rfl rfl fun old11_ _ c => ?_
      replace c : Cx _ _ _ [_, _, _, _] := c
      refine c.vw 3 rfl (vs := [_, _, _]) (by exact rfl) (by exact rfl) (by exact rfl) (by exact rfl) fun _ c => ?_
      replace c : Cx _ _ _ [_, _, _, _] := c
      refine En.vb (fa_add _ _ _) ?_
      refine En.vb (c.vc (i := 3) rfl rfl) ?_
      refine En.vb (subI (a := rv) (b := 1) ⟨by rw [hrv]; unfold val; omega, by rw [hrv]; unfold val; omega⟩) ?_
      refine En.vb (remI (a := rv - 1) (by rw [hrv]; unfold val; omega) (by decide)) ?_
      rw [e16]
      refine En.vb (fa_add _ _ _) ?_
      refine c.vq 0 rfl (vs := [_]) (ds := [_, _, _, _, _, _, _, _, _, _, _, _, _, _, _, _, _, _, _, _, _, _]) (by exact rfl) (by exact rfl) (by exact rfl) (by exact rfl) (by exact rfl) fun _ c => ?_
      replace c : Cx _ _ _ [_, _, _, _] := c
      refine En.vb (fa_add _ _ _) ?_
      refine En.vb (ixa_at (i := 2) rfl (by decide) _) ?_
      refine En.vb (c.vc (i := 0) rfl rfl) ?_
      refine En.vb (fa_add _ _ _) ?_
      refine En.vb (c.vc (i := 3) rfl rfl) ?_
      refine En.vb (addU (a := rver) (b := 1) ⟨by omega, by omega⟩) ?_
      refine cs.eval (b' := 2) (g' := gen 2 + 1) (by decide) ⟨by omega, by omega⟩ ?_
      refine And.intro (c.vc (i := 3) rfl rfl) ?_
      refine En.vb (bldS_ok (ds := [_, _, _]) rfl) ?_
      refine En.vb (fa_add _ _ _) ?_
      refine c.vq 0 rfl (vs := [_, _, _]) (ds := [_, _, _, _, _, _, _, _, _, _, _, _, _, _, _, _, _, _, _, _, _, _]) (by exact rfl) (by exact rfl) (by exact rfl) (by exact rfl) (by exact rfl) fun _ c => ?_
      replace c : Cx _ _ _ [_, _, _, _] := c
      refine En.vb (fa_add _ _ _) ?_
      refine c.vq 0 rfl (vs := [_]) (ds := [_, _, _, _, _, _, _, _, _, _, _, _, _, _, _, _, _, _, _, _, _, _]) (by exact rfl) (by exact rfl) (by exact rfl) (by exact rfl) (by exact rfl) fun _ c => ?_
      replace c : Cx _ _ _ [_, _, _, _] := c
      refine En.vb (c.vl (i := 0) rfl rfl) ?_
      refine En.vb rfl ?_
      refine En.vb (fa_add _ _ _) ?_
      refine En.vb (c.vp (i := 0) (ds := [_, _, _]) rfl rfl rfl) ?_
      refine En.vb (c.vl (i := 3) rfl rfl) ?_
      refine En.vb (fa_add _ _ _) ?_
      refine En.vb (c.vp (i := 0) (ds := [_, _, _]) rfl rfl rfl) ?_
      refine cs.cell (i := 0) (by decide) _ _ (hZ _ (B.up b0 c.gr)) fun _ g => ?_
      have c := c.more g
      replace c : Cx _ _ _ [_, _, _, _] := c
      refine And.intro (c.vp (i := 0) (ds := [_, _, _]) rfl rfl rfl) ?_
      refine And.intro (c.vl (i := 3) rfl rfl) ?_
      refine And.intro (c.vl (i := 0) rfl rfl) ?_
      refine En.vb (bldS_ok (ds := [_, _, _, _, _, _, _, _]) rfl) ?_
      refine c.vw 2 rfl (vs := [_, _, _, _, _, _, _, _]) (by exact rfl) (by exact rfl) (by exact rfl) (by exact rfl) fun _ c => ?_
      replace c : Cx _ _ _ [_, _, _, _] := c
      refine En.vb (c.vl (i := 2) rfl rfl) ?_
      exact fin _ c.gr
    · unfold F_simulcasttop_epochWriter_Next
      have c := Cx.start0 h
      refine c.nv (cs := [_, _, _, _, _, _, _, _, _, _, _, _, _, _, _, _, _, _, _, _, _, _]) rfl rfl fun w2_ _ c => ?_
      replace c : Cx _ _ _ [_] := c
      refine c.nv (cs := [_, _, _, _]) rfl rfl fun g3_ _ c => ?_
      replace c : Cx _ _ _ [_, _] := c
      refine c.nv (cs := [_, _, _, _, _, _, _, _]) rfl rfl fun v5_ _ c => ?_
      replace c : Cx _ _ _ [_, _, _] := c
      refine En.vb (fa_add _ _ _) ?_
      refine En.vb (c.vc (i := 0) rfl rfl) ?_
      refine En.vb (v := .bool false) (rfl) ?_
      refine brf ?_
      refine En.vb (fa_add _ _ _) ?_
      refine En.vb (c.vc (i := 0) rfl rfl) ?_
      refine En.vb (v := .bool false) rfl ?_
      refine brf ?_
      refine En.vb (v := .bool true) rfl ?_
      refine brt ?_
      refine En.vb (fa_add _ _ _) ?_
      refine En.vb (c.vc (i := 0) rfl rfl) ?_
      refine (hfr _ (B.up b0 c.gr)).one (i := 0) rfl rfl rfl (u := .int .i64 3) rfl ?_
      refine En.vb (fa_add _ _ _) ?_
      refine En.vb (c.vc (i := 0) rfl rfl) ?_
      refine En.vb eu ?_
      refine En.vb (fa_add _ _ _) ?_
      refine c.vq 0 rfl (vs := [_]) (ds := [_, _, _, _, _, _, _, _, _, _, _, _, _, _, _, _, _, _, _, _, _, _]) (by exact rfl) (by exact rfl) (by exact rfl) (by exact rfl) (by exact rfl) fun _ c => ?_
      replace c : Cx _ _ _ [_, _, _] := c
      refine En.vb (fa_add _ _ _) ?_
      refine En.vb (ixa_at (i := 3) rfl (by decide) _) ?_
      refine En.vb (c.vc (i := 0) rfl rfl) ?_
      refine En.vb (addI (a := gen 3) (b := 1) ⟨by omega, by omega⟩) ?_
      refine En.vb (fa_add _ _ _) ?_
      refine En.vb (ixa_at (i := 3) rfl (by decide) _) ?_
      refine c.vq 0 rfl (vs := [_]) (ds := [_, _, _, _, _, _, _, _, _, _, _, _, _, _, _, _, _, _, _, _, _, _]) (by exact rfl) (by exact rfl) (by exact rfl) (by exact rfl) (by exact rfl) fun _ c => ?_
      replace c : Cx _ _ _ [_, _, _] := c
      refine En.vb (fa_add _ _ _) ?_
      refine En.vb (fa_add _ _ _) ?_
      refine En.vb (c.vc (i := 1) rfl rfl) ?_
      refine En.vb (fa_add _ _ _) ?_
      refine En.vb (ixa_at (i := 3) rfl (by decide) _) ?_
      refine c.vq 0 rfl (vs := [_]) (ds := [_, _, _, _, _, _, _, _, _, _, _, _, _, _, _, _, _, _, _, _, _, _]) (by exact rfl) (by exact rfl) (by exact rfl) (by exact rfl) (by exact rfl) fun _ c => ?_
      replace c : Cx _ _ _ [_, _, _] := c
      refine En.vb (fa_add _ _ _) ?_
      refine En.vb (c.vp (i := 0) (ds := [_, _, _]) rfl rfl rfl) ?_
      refine c.nv (cs := [_, _, _]) rfl rfl fun old11_ _ c => ?_
      replace c : Cx _ _ _ [_, _, _, _] := c
      refine c.vw 3 rfl (vs := [_, _, _]) (by exact rfl) (by exact rfl) (by exact rfl) (by exact rfl) fun _ c => ?_
      replace c : Cx _ _ _ [_, _, _, _] := c
      refine En.vb (fa_add _ _ _) ?_
      refine En.vb (c.vc (i := 3) rfl rfl) ?_
      refine En.vb (subI (a := rv) (b := 1) ⟨by rw [hrv]; unfold val; omega, by rw [hrv]; unfold val; omega⟩) ?_
      refine En.vb (remI (a := rv - 1) (by rw [hrv]; unfold val; omega) (by decide)) ?_
      rw [e16]
      refine En.vb (fa_add _ _ _) ?_
      refine c.vq 0 rfl (vs := [_]) (ds := [_, _, _, _, _, _, _, _, _, _, _, _, _, _, _, _, _, _, _, _, _, _]) (by exact rfl) (by exact rfl) (by exact rfl) (by exact rfl) (by exact rfl) fun _ c => ?_
      replace c : Cx _ _ _ [_, _, _, _] := c
      refine En.vb (fa_add _ _ _) ?_
      refine En.vb (ixa_at (i := 3) rfl (by decide) _) ?_
      refine En.vb (c.vc (i := 0) rfl rfl) ?_
      refine En.vb (fa_add _ _ _) ?_
      refine En.vb (c.vc (i := 3) rfl rfl) ?_
      refine En.vb (addU (a := rver) (b := 1) ⟨by omega, by omega⟩) ?_
      refine cs.eval (b' := 3) (g' := gen 3 + 1) (by decide) ⟨by omega, by omega⟩ ?_
      refine And.intro (c.vc (i := 3) rfl rfl) ?_
      refine En.vb (bldS_ok (ds := [_, _, _]) rfl) ?_
      refine En.vb (fa_add _ _ _) ?_
      refine c.vq 0 rfl (vs := [_, _, _]) (ds := [_, _, _, _, _, _, _, _, _, _, _, _, _, _, _, _, _, _, _, _, _, _]) (by exact rfl) (by exact rfl) (by exact rfl) (by exact rfl) (by exact rfl) fun _ c => ?_
      replace c : Cx _ _ _ [_, _, _, _] := c
      refine En.vb (fa_add _ _ _) ?_
      refine c.vq 0 rfl (vs := [_]) (ds := [_, _, _, _, _, _, _, _, _, _, _, _, _, _, _, _, _, _, _, _, _, _]) (by exact rfl) (by exact rfl) (by exact rfl) (by exact rfl) (by exact rfl) fun _ c => ?_
      replace c : Cx _ _ _ [_, _, _, _] := c
      refine En.vb (c.vl (i := 0) rfl rfl) ?_
      refine En.vb rfl ?_
      refine En.vb (fa_add _ _ _) ?_
      refine En.vb (c.vp (i := 0) (ds := [_, _, _]) rfl rfl rfl) ?_
      refine En.vb (c.vl (i := 3) rfl rfl) ?_
      refine En.vb (fa_add _ _ _) ?_
      refine En.vb (c.vp (i := 0) (ds := [_, _, _]) rfl rfl rfl) ?_
      refine cs.cell (i := 0) (by decide) _ _ (hZ _ (B.up b0 c.gr)) fun _ g => ?_
      have c := c.more g
      replace c : Cx _ _ _ [_, _, _, _] := c
      refine And.intro (c.vp (i := 0) (ds := [_, _, _]) rfl rfl rfl) ?_
      refine And.intro (c.vl (i := 3) rfl rfl) ?_
      refine And.intro (c.vl (i := 0) rfl rfl) ?_
      refine En.vb (bldS_ok (ds := [_, _, _, _, _, _, _, _]) rfl) ?_
      refine c.vw 2 rfl (vs := [_, _, _, _, _, _, _, _]) (by exact rfl) (by exact rfl) (by exact rfl) (by exact rfl) fun _ c => ?_
      replace c : Cx _ _ _ [_, _, _, _] := c
      refine En.vb (c.vl (i := 2) rfl rfl) ?_
      exact fin _ c.gr
theorem K_w_2 (cs : CuB S I) (b0 : B.p h) (hZ : On B Zs) (H : WO' B f w) {b : Int} (hg : GivesW m w g) (hst : w.st = .w2 b)
    (hR : ∀ f', Rt B h (fun B => WO' B f' (stepW srt m w).2) fun h' => R (.tuple #[.iface I.t_simulcasttop_epochWriter (vWs I f' (stepW srt m w).2), vAc (akW (stepW srt m w).2).ac, .bool (isFinW (stepW srt m w).2.st)]) h') : F_simulcasttop_epochWriter_Next S I (vWs I f w) (vGo g) h R := by
  obtain ⟨st, ops, bag, free, gen, birth, rv, rver, cur⟩ := w
  dsimp only at hst
  subst hst
  obtain ⟨gw, gok⟩ := g
  obtain rfl : gok = true := hg
  have ho := H.o2 b rfl
  have fin : ∀ h', Gr h h' → R (.tuple #[.iface I.t_simulcasttop_epochWriter (vWs I f ⟨.w3 cur, ops, bag, free, gen, birth, rv, rver, b⟩), vAc ⟨5, 1, W0, W0⟩, .bool false]) h' := fun h' gr =>
    (hR f).nil (h' := h') ⟨H.ops.le (Bs.le_and _ _), H.bag.le (Bs.le_and _ _), H.free.le (Bs.le_and _ _), (fun s h => by cases h), (fun s h => by cases h), (fun o h => by injection h with h; rw [← h]; exact ho), H.nn⟩ gr
  unfold F_simulcasttop_epochWriter_Next
  have c := Cx.start0 h
  refine c.nv (cs := [_, _, _, _, _, _, _, _, _, _, _, _, _, _, _, _, _, _, _, _, _, _]) rfl rfl fun w2_ _ c => ?_
  replace c : Cx _ _ _ [_] := c
  refine c.nv (cs := [_, _, _, _]) rfl rfl fun g3_ _ c => ?_
  replace c : Cx _ _ _ [_, _] := c
  refine c.nv (cs := [_, _, _, _, _, _, _, _]) rfl rfl fun v5_ _ c => ?_
  replace c : Cx _ _ _ [_, _, _] := c
  refine En.vb (fa_add _ _ _) ?_
  refine En.vb (c.vc (i := 0) rfl rfl) ?_
  refine En.vb (v := .bool false) (rfl) ?_
  refine brf ?_
  refine En.vb (fa_add _ _ _) ?_
  refine En.vb (c.vc (i := 0) rfl rfl) ?_
  refine En.vb (v := .bool false) rfl ?_
  refine brf ?_
  refine En.vb (v := .bool false) rfl ?_
  refine brf ?_
  refine En.vb (v := .bool true) rfl ?_
  refine brt ?_
  refine En.vb (fa_add _ _ _) ?_
  refine En.vb (c.vc (i := 1) rfl rfl) ?_
  refine En.vb (v := .bool false) (rfl) ?_
  refine brf ?_
  refine En.vb (c.vl (i := 0) rfl rfl) ?_
  refine En.vb (fa_add _ _ _) ?_
  refine En.vb (c.vp (i := 0) (ds := [_, _, _]) rfl rfl rfl) ?_
  refine cs.era _ _ (hZ _ (B.up b0 c.gr)) fun _ g => ?_
  have c := c.more g
  replace c : Cx _ _ _ [_, _, _] := c
  refine And.intro (c.vl (i := 0) rfl rfl) ?_
  refine cs.wlook fun _ g => ?_
  have c := c.more g
  replace c : Cx _ _ _ [_, _, _] := c
  refine En.vb rfl ?_
  refine En.vb rfl ?_
  refine En.vb rfl ?_
  refine c.vw 2 rfl (vs := [_, _, _, _, _, _, _, _]) (by exact rfl) (by exact rfl) (by exact rfl) (by exact rfl) fun _ c => ?_
  replace c : Cx _ _ _ [_, _, _] := c
  refine En.vb (c.vl (i := 2) rfl rfl) ?_
  exact fin _ c.gr
theorem K_w_3 (cs : CuB S I) (b0 : B.p h) (hZ : On B Zs) (H : WO' B f w) (W : WI m w) (Q : Sm m w) {o : Int} (hg : GivesW m w g) (hst : w.st = .w3 o)
    (hR : ∀ f', Rt B h (fun B => WO' B f' (stepW srt m w).2) fun h' => R (.tuple #[.iface I.t_simulcasttop_epochWriter (vWs I f' (stepW srt m w).2), vAc (akW (stepW srt m w).2).ac, .bool (isFinW (stepW srt m w).2.st)]) h') : F_simulcasttop_epochWriter_Next S I (vWs I f w) (vGo g) h R := by
  have hN := W.nodup
  have hlen := W.part.length_eq
  have ho4 : 0 ≤ o ∧ o < 4 := W.mem4 (by rw [hst]; simp [extra])
  have hbi := W.bi o
  obtain ⟨st, ops, bag, free, gen, birth, rv, rver, cur⟩ := w
  dsimp only at hst hN hbi hlen
  subst hst
  obtain ⟨⟨gv, gver, gref⟩, gok⟩ := g
  obtain rfl : gv = m.era := hg
  have hob : f.old = o := H.o3 o rfl
  have hbl : bag.length ≤ 3 := by
    simp [extra] at hlen
    omega
  have hno : ∀ x ∈ bag, x.b ≠ o := fun x hx e => by
    have h2 := (List.nodup_cons.1 hN).2
    simp only [extra, List.singleton_append] at h2
    exact (List.nodup_cons.1 h2).1 (List.mem_append_left _ (List.mem_map.2 ⟨x, hx, e⟩))
  obtain ⟨fops, fbag, ffree, fseen, fold⟩ := f
  dsimp only at hob
  subst hob
  have fin : ∀ u' h', Cx (fun _ => False) h h' [rSl EIt (shV u') (bag ++ [(⟨fold, birth fold, m.era⟩ : Ep.It)])] → R (.tuple #[.iface I.t_simulcasttop_epochWriter (vWs I ⟨fops, u', ffree, (none, 0, 0), fold⟩ ⟨.w4 [], ops, bag ++ [(⟨fold, birth fold, m.era⟩ : Ep.It)], free, gen, birth, rv, rver, cur⟩), vAc ⟨5, 8, W0, W0⟩, .bool false]) h' := fun u' h' c =>
    hR ⟨fops, u', ffree, (none, 0, 0), fold⟩ [rSl EIt (shV u') (bag ++ [(⟨fold, birth fold, m.era⟩ : Ep.It)])] h' (Cx.pack (L := []) c) ⟨H.ops.le (Bs.le_and _ _), On.sl (i := 0) rfl, H.free.le (Bs.le_and _ _), (fun s h => by injection h with h; subst h; exact fun h b => ⟨none, 0, rfl, Nat.le_refl _, (fun _ => rfl), fun i x hx => nil_get hx⟩), (fun s h => by cases h), (fun o h => by cases h), H.nn⟩
  clear hR
  have hbg := H.bag
  have e4 : fold = 0 ∨ fold = 1 ∨ fold = 2 ∨ fold = 3 := by omega
  clear H W
  rcases e4 with rfl | rfl | rfl | rfl
  · unfold F_simulcasttop_epochWriter_Next
    have c := Cx.start0 h
    refine c.nv (cs := [_, _, _, _, _, _, _, _, _, _, _, _, _, _, _, _, _, _, _, _, _, _]) rfl rfl fun w2_ _ c => ?_
    replace c : Cx _ _ _ [_] := c
    refine c.nv (cs := [_, _, _, _]) rfl rfl fun g3_ _ c => ?_
    replace c : Cx _ _ _ [_, _] := c
    refine c.nv (cs := [_, _, _, _, _, _, _, _]) rfl rfl fun v5_ _ c => ?_
    replace c : Cx _ _ _ [_, _, _] := c
    refine En.vb (fa_add _ _ _) ?_
    refine En.vb (c.vc (i := 0) rfl rfl) ?_
    refine En.vb (v := .bool false) (rfl) ?_
    refine brf ?_
    refine En.vb (fa_add _ _ _) ?_
    refine En.vb (c.vc (i := 0) rfl rfl) ?_
    refine En.vb (v := .bool false) rfl ?_
    refine brf ?_
    refine En.vb (v := .bool false) rfl ?_
    refine brf ?_
    refine En.vb (v := .bool false) rfl ?_
    refine brf ?_
    refine En.vb (v := .bool true) rfl ?_
    refine brt ?_
    refine .here ?_
    refine En.vb (fa_add _ _ _) ?_
    refine En.vb (c.vp (i := 0) (ds := [_]) rfl rfl rfl) ?_
    refine En.vb (fa_add _ _ _) ?_
    refine En.vb (c.vc (i := 0) rfl rfl) ?_
    refine En.vb (fa_add _ _ _) ?_
    refine En.vb (c.vc (i := 0) rfl rfl) ?_
    refine En.vb (fa_add _ _ _) ?_
    refine En.vb (ixa_at (i := 0) rfl (by decide) _) ?_
    refine En.vb (c.vc (i := 0) rfl rfl) ?_
    refine En.vb (fa_add _ _ _) ?_
    refine En.vb (fa_add _ _ _) ?_
    refine En.vb (c.vc (i := 1) rfl rfl) ?_
    refine En.vb (bldS_ok (ds := [_, _, _]) rfl) ?_
    refine And.intro ?_ ?_
    · refine cs.retire (its := bag) (it := ⟨0, birth 0, m.era⟩) (hbg _ (B.up b0 c.gr)) (by omega) ⟨by dsimp only; omega, by dsimp only; omega⟩ ⟨hbi.1, hbi.2⟩ hno fun u' _ d => ?_
      have c := c.frame0 d
      replace c : Cx _ _ _ [_, _, _, _] := c
      refine En.vb rfl ?_
      refine En.vb rfl ?_
      refine c.nv (cs := [_]) rfl rfl fun bag12_1_ _ c => ?_
      replace c : Cx _ _ _ [_, _, _, _, _] := c
      refine c.vw 4 rfl (vs := [_]) (by exact rfl) (by exact rfl) (by exact rfl) (by exact rfl) fun _ c => ?_
      replace c : Cx _ _ _ [_, _, _, _, _] := c
      refine En.vb (v := .bool false) rfl ?_
      refine brf ?_
      refine En.vb (c.vl (i := 4) rfl rfl) ?_
      refine En.vb (fa_add _ _ _) ?_
      refine c.vq 0 rfl (vs := [_]) (ds := [_, _, _, _, _, _, _, _, _, _, _, _, _, _, _, _, _, _, _, _, _, _]) (by exact rfl) (by exact rfl) (by exact rfl) (by exact rfl) (by exact rfl) fun _ c => ?_
      replace c : Cx _ _ _ [_, _, _, _, _] := c
      refine En.vb (fa_add _ _ _) ?_
      refine c.vq 0 rfl (vs := [_]) (ds := [_, _, _, _, _, _, _, _, _, _, _, _, _, _, _, _, _, _, _, _, _, _]) (by exact rfl) (by exact rfl) (by exact rfl) (by exact rfl) (by exact rfl) fun _ c => ?_
      replace c : Cx _ _ _ [_, _, _, _, _] := c
      refine En.vb (c.vl (i := 0) rfl rfl) ?_
      refine En.vb (fa_add _ _ _) ?_
      refine En.vb (c.vp (i := 0) (ds := [_, _, _]) rfl rfl rfl) ?_
      refine cs.announce (t := 1) (by decide) _ _ (hZ _ (B.up b0 c.gr)) fun _ g => ?_
      have c := c.more g
      replace c : Cx _ _ _ [_, _, _, _, _] := c
      refine And.intro (c.vl (i := 0) rfl rfl) ?_
      refine cs.wlook (seen := (none, 0, 0)) fun _ g => ?_
      have c := c.more g
      replace c : Cx _ _ _ [_, _, _, _, _] := c
      refine En.vb rfl ?_
      refine En.vb rfl ?_
      refine En.vb rfl ?_
      refine c.vw 2 rfl (vs := [_, _, _, _, _, _, _, _]) (by exact rfl) (by exact rfl) (by exact rfl) (by exact rfl) fun _ c => ?_
      replace c : Cx _ _ _ [_, _, _, _, _] := c
      refine En.vb (c.vl (i := 2) rfl rfl) ?_
      exact fin u' _ (c.pick [3])
    · refine c.nv (cs := [_]) rfl rfl fun bag12_2_ _ c => ?_
      replace c : Cx _ _ _ [_, _, _, _] := c
      refine And.intro (c.vc (i := 1) rfl rfl) ?_
      refine And.intro (c.vc (i := 0) rfl rfl) ?_
      refine And.intro (c.vc (i := 0) rfl rfl) ?_
      refine And.intro (c.vc (i := 0) rfl rfl) ?_
      refine And.intro (c.vp (i := 0) (ds := [_]) rfl rfl rfl) ?_
      refine cs.retire (its := bag) (it := ⟨0, birth 0, m.era⟩) (hbg _ (B.up b0 c.gr)) (by omega) ⟨by dsimp only; omega, by dsimp only; omega⟩ ⟨hbi.1, hbi.2⟩ hno fun u' _ d => ?_
      have c := c.frame0 d
      replace c : Cx _ _ _ [_, _, _, _, _] := c
      refine En.vb rfl ?_
      refine En.vb rfl ?_
      refine c.vw 3 rfl (vs := [_]) (by exact rfl) (by exact rfl) (by exact rfl) (by exact rfl) fun _ c => ?_
      replace c : Cx _ _ _ [_, _, _, _, _] := c
      refine En.vb (v := .bool false) rfl ?_
      refine brf ?_
      refine En.vb (c.vl (i := 3) rfl rfl) ?_
      refine En.vb (fa_add _ _ _) ?_
      refine c.vq 0 rfl (vs := [_]) (ds := [_, _, _, _, _, _, _, _, _, _, _, _, _, _, _, _, _, _, _, _, _, _]) (by exact rfl) (by exact rfl) (by exact rfl) (by exact rfl) (by exact rfl) fun _ c => ?_
      replace c : Cx _ _ _ [_, _, _, _, _] := c
      refine En.vb (fa_add _ _ _) ?_
      refine c.vq 0 rfl (vs := [_]) (ds := [_, _, _, _, _, _, _, _, _, _, _, _, _, _, _, _, _, _, _, _, _, _]) (by exact rfl) (by exact rfl) (by exact rfl) (by exact rfl) (by exact rfl) fun _ c => ?_
      replace c : Cx _ _ _ [_, _, _, _, _] := c
      refine En.vb (c.vl (i := 0) rfl rfl) ?_
      refine En.vb (fa_add _ _ _) ?_
      refine En.vb (c.vp (i := 0) (ds := [_, _, _]) rfl rfl rfl) ?_
      refine cs.announce (t := 1) (by decide) _ _ (hZ _ (B.up b0 c.gr)) fun _ g => ?_
      have c := c.more g
      replace c : Cx _ _ _ [_, _, _, _, _] := c
      refine And.intro (c.vl (i := 0) rfl rfl) ?_
      refine cs.wlook (seen := (none, 0, 0)) fun _ g => ?_
      have c := c.more g
      replace c : Cx _ _ _ [_, _, _, _, _] := c
      refine En.vb rfl ?_
      refine En.vb rfl ?_
      refine En.vb rfl ?_
      refine c.vw 2 rfl (vs := [_, _, _, _, _, _, _, _]) (by exact rfl) (by exact rfl) (by exact rfl) (by exact rfl) fun _ c => ?_
      replace c : Cx _ _ _ [_, _, _, _, _] := c
      refine En.vb (c.vl (i := 2) rfl rfl) ?_
      exact fin u' _ (c.pick [4])
  · unfold F_simulcasttop_epochWriter_Next
    have c := Cx.start0 h
    refine c.nv (cs := [_, _, _, _, _, _, _, _, _, _, _, _, _, _, _, _, _, _, _, _, _, _]) rfl rfl fun w2_ _ c => ?_
    replace c : Cx _ _ _ [_] := c
    refine c.nv (cs := [_, _, _, _]) rfl rfl fun g3_ _ c => ?_
    replace c : Cx _ _ _ [_, _] := c
    refine c.nv (cs := [_, _, _, _, _, _, _, _]) rfl rfl fun v5_ _ c => ?_
    replace c : Cx _ _ _ [_, _, _] := c
    refine En.vb (fa_add _ _ _) ?_
    refine En.vb (c.vc (i := 0) rfl rfl) ?_
    refine En.vb (v := .bool false) (rfl) ?_
    refine brf ?_
    refine En.vb (fa_add _ _ _) ?_
    refine En.vb (c.vc (i := 0) rfl rfl) ?_
    refine En.vb (v := .bool false) rfl ?_
    refine brf ?_
    refine En.vb (v := .bool false) rfl ?_
    refine brf ?_
    refine En.vb (v := .bool false) rfl ?_
    refine brf ?_
    refine En.vb (v := .bool true) rfl ?_
    refine brt ?_
    refine .here ?_
    refine En.vb (fa_add _ _ _) ?_
    refine En.vb (c.vp (i := 0) (ds := [_]) rfl rfl rfl) ?_
    refine En.vb (fa_add _ _ _) ?_
    refine En.vb (c.vc (i := 0) rfl rfl) ?_
    refine En.vb (fa_add _ _ _) ?_
    refine En.vb (c.vc (i := 0) rfl rfl) ?_
    refine En.vb (fa_add _ _ _) ?_
    refine En.vb (ixa_at (i := 1) rfl (by decide) _) ?_
    refine En.vb (c.vc (i := 0) rfl rfl) ?_
    refine En.vb (fa_add _ _ _) ?_
    refine En.vb (fa_add _ _ _) ?_
    refine En.vb (c.vc (i := 1) rfl rfl) ?_
    refine En.vb (bldS_ok (ds := [_, _, _]) rfl) ?_
    refine And.intro ?_ ?_
    · refine cs.retire (its := bag) (it := ⟨1, birth 1, m.era⟩) (hbg _ (B.up b0 c.gr)) (by omega) ⟨by dsimp only; omega, by dsimp only; omega⟩ ⟨hbi.1, hbi.2⟩ hno fun u' _ d => ?_
      have c := c.frame0 d
      replace c : Cx _ _ _ [_, _, _, _] := c
      refine En.vb rfl ?_
      refine En.vb rfl ?_
      refine c.nv (cs := [_]) rfl rfl fun bag12_1_ _ c => ?_
      replace c : Cx _ _ _ [_, _, _, _, _] := c
      refine c.vw 4 rfl (vs := [_]) (by exact rfl) (by exact rfl) (by exact rfl) (by exact rfl) fun _ c => ?_
      replace c : Cx _ _ _ [_, _, _, _, _] := c
      refine En.vb (v := .bool false) rfl ?_
      refine brf ?_
      refine En.vb (c.vl (i := 4) rfl rfl) ?_
      refine En.vb (fa_add _ _ _) ?_
      refine c.vq 0 rfl (vs := [_]) (ds := [_, _, _, _, _, _, _, _, _, _, _, _, _, _, _, _, _, _, _, _, _, _]) (by exact rfl) (by exact rfl) (by exact rfl) (by exact rfl) (by exact rfl) fun _ c => ?_
      replace c : Cx _ _ _ [_, _, _, _, _] := c
      refine En.vb (fa_add _ _ _) ?_
      refine c.vq 0 rfl (vs := [_]) (ds := [_, _, _, _, _, _, _, _, _, _, _, _, _, _, _, _, _, _, _, _, _, _]) (by exact rfl) (by exact rfl) (by exact rfl) (by exact rfl) (by exact rfl) fun _ c => ?_
      replace c : Cx _ _ _ [_, _, _, _, _] := c
      refine En.vb (c.vl (i := 0) rfl rfl) ?_
      refine En.vb (fa_add _ _ _) ?_
      refine En.vb (c.vp (i := 0) (ds := [_, _, _]) rfl rfl rfl) ?_
      refine cs.announce (t := 1) (by decide) _ _ (hZ _ (B.up b0 c.gr)) fun _ g => ?_
      have c := c.more g
      replace c : Cx _ _ _ [_, _, _, _, _] := c
      refine And.intro (c.vl (i := 0) rfl rfl) ?_
      refine cs.wlook (seen := (none, 0, 0)) fun _ g => ?_
      have c := c.more g
      replace c : Cx _ _ _ [_, _, _, _, _] := c
      refine En.vb rfl ?_
      refine En.vb rfl ?_
      refine En.vb rfl ?_
      refine c.vw 2 rfl (vs := [_, _, _, _, _, _, _, _]) (by exact rfl) (by exact rfl) (by exact rfl) (by exact rfl) fun _ c => ?_
      replace c : Cx _ _ _ [_, _, _, _, _] := c
      refine En.vb (c.vl (i := 2) rfl rfl) ?_
      exact fin u' _ (c.pick [3])
    · refine c.nv (cs := [_]) rfl rfl fun bag12_2_ _ c => ?_
      replace c : Cx _ _ _ [_, _, _, _] := c
      refine And.intro (c.vc (i := 1) rfl rfl) ?_
      refine And.intro (c.vc (i := 0) rfl rfl) ?_
      refine And.intro (c.vc (i := 0) rfl rfl) ?_
      refine And.intro (c.vc (i := 0) rfl rfl) ?_
      refine And.intro (c.vp (i := 0) (ds := [_]) rfl rfl rfl) ?_
      refine cs.retire (its := bag) (it := ⟨1, birth 1, m.era⟩) (hbg _ (B.up b0 c.gr)) (by omega) ⟨by dsimp only; omega, by dsimp only; omega⟩ ⟨hbi.1, hbi.2⟩ hno fun u' _ d => ?_
      have c := c.frame0 d
      replace c : Cx _ _ _ [_, _, _, _, _] := c
      refine En.vb rfl ?_
      refine En.vb rfl ?_
      refine c.vw 3 rfl (vs := [_]) (by exact rfl) (by exact rfl) (by exact rfl) (by exact rfl) fun _ c => ?_
      replace c : Cx _ _ _ [_, _, _, _, _] := c
      refine En.vb (v := .bool false) rfl ?_
      refine brf ?_
      refine En.vb (c.vl (i := 3) rfl rfl) ?_
      refine En.vb (fa_add _ _ _) ?_
      refine c.vq 0 rfl (vs := [_]) (ds := [_, _, _, _, _, _, _, _, _, _, _, _, _, _, _, _, _, _, _, _, _, _]) (by exact rfl) (by exact rfl) (by exact rfl) (by exact rfl) (by exact rfl) fun _ c => ?_
      replace c : Cx _ _ _ [_, _, _, _, _] := c
      refine En.vb (fa_add _ _ _) ?_
      refine c.vq 0 rfl (vs := [_]) (ds := [_, _, _, _, _, _, _, _, _, _, _, _, _, _, _, _, _, _, _, _, _, _]) (by exact rfl) (by exact rfl) (by exact rfl) (by exact rfl) (by exact rfl) fun _ c => ?_
      replace c : Cx _ _ _ [_, _, _, _, _] := c
      refine En.vb (c.vl (i := 0) rfl rfl) ?_
      refine En.vb (fa_add _ _ _) ?_
      refine En.vb (c.vp (i := 0) (ds := [_, _, _]) rfl rfl rfl) ?_
      refine cs.announce (t := 1) (by decide) _ _ (hZ _ (B.up b0 c.gr)) fun _ g => ?_
      have c := c.more g
      replace c : Cx _ _ _ [_, _, _, _, _] := c
      refine And.intro (c.vl (i := 0) rfl rfl) ?_
      refine cs.wlook (seen := (none, 0, 0)) fun _ g => ?_
      have c := c.more g
      replace c : Cx _ _ _ [_, _, _, _, _] := c
      refine En.vb rfl ?_
      refine En.vb rfl ?_
      refine En.vb rfl ?_
      refine c.vw 2 rfl (vs := [_, _, _, _, _, _, _, _]) (by exact rfl) (by exact rfl) (by exact rfl) (by exact rfl) fun _ c => ?_
      replace c : Cx _ _ _ [_, _, _, _, _] := c
      refine En.vb (c.vl (i := 2) rfl rfl) ?_
      exact fin u' _ (c.pick [4])
  · unfold F_simulcasttop_epochWriter_Next
    have c := Cx.start0 h
    refine c.nv (cs := [_, _, _, _, _, _, _, _, _, _, _, _, _, _, _, _, _, _, _, _, _, _]) rfl rfl fun w2_ _ c => ?_
    replace c : Cx _ _ _ [_] := c
    refine c.nv (cs := [_, _, _, _]) rfl rfl fun g3_ _ c => ?_
    replace c : Cx _ _ _ [_, _] := c
    refine c.nv (cs := [_, _, _, _, _, _, _, _]) rfl rfl fun v5_ _ c => ?_
    replace c : Cx _ _ _ [_, _, _] := c
    refine En.vb (fa_add _ _ _) ?_
    refine En.vb (c.vc (i := 0) rfl rfl) ?_
    refine En.vb (v := .bool false) (rfl) ?_
    refine brf ?_
    refine En.vb (fa_add _ _ _) ?_
    refine En.vb (c.vc (i := 0) rfl rfl) ?_
    refine En.vb (v := .bool false) rfl ?_
    refine brf ?_
    refine En.vb (v := .bool false) rfl ?_
    refine brf ?_
    refine En.vb (v := .bool false) rfl ?_
    refine brf ?_
    refine En.vb (v := .bool true) rfl ?_
    refine brt ?_
    refine .here ?_
    refine En.vb (fa_add _ _ _) ?_
    refine En.vb (c.vp (i := 0) (ds := [_]) rfl rfl rfl) ?_
    refine En.vb (fa_add _ _ _) ?_
    refine En.vb (c.vc (i := 0) rfl rfl) ?_
    refine En.vb (fa_add _ _ _) ?_
    refine En.vb (c.vc (i := 0) rfl rfl) ?_
    refine En.vb (fa_add _ _ _) ?_
    refine En.vb (ixa_at (i := 2) rfl (by decide) _) ?_
    refine En.vb (c.vc (i := 0) rfl rfl) ?_
    refine En.vb (fa_add _ _ _) ?_
    refine En.vb (fa_add _ _ _) ?_
    refine En.vb (c.vc (i := 1) rfl rfl) ?_
    refine En.vb (bldS_ok (ds := [_, _, _]) rfl) ?_
    refine And.intro ?_ ?_
    · refine cs.retire (its := bag) (it := ⟨2, birth 2, m.era⟩) (hbg _ (B.up b0 c.gr)) (by omega) ⟨by dsimp only; omega, by dsimp only; omega⟩ ⟨hbi.1, hbi.2⟩ hno fun u' _ d => ?_
      have c := c.frame0 d
      replace c : Cx _ _ _ [_, _, _, _] := c
      refine En.vb rfl ?_
      refine En.vb rfl ?_
      refine c.nv (cs := [_]) rfl rfl fun bag12_1_ _ c => ?_
      replace c : Cx _ _ _ [_, _, _, _, _] := c
      refine c.vw 4 rfl (vs := [_]) (by exact rfl) (by exact rfl) (by exact rfl) (by exact rfl) fun _ c => ?_
      replace c : Cx _ _ _ [_, _, _, _, _] := c
      refine En.vb (v := .bool false) rfl ?_
      refine brf ?_
      refine En.vb (c.vl (i := 4) rfl rfl) ?_
      refine En.vb (fa_add _ _ _) ?_
      refine c.vq 0 rfl (vs := [_]) (ds := [_, _, _, _, _, _, _, _, _, _, _, _, _, _, _, _, _, _, _, _, _, _]) (by exact rfl) (by exact rfl) (by exact rfl) (by exact rfl) (by exact rfl) fun _ c => ?_
      replace c : Cx _ _ _ [_, _, _, _, _] := c
      refine En.vb (fa_add _ _ _) ?_
      refine c.vq 0 rfl (vs := [_]) (ds := [_, _, _, _, _, _, _, _, _, _, _, _, _, _, _, _, _, _, _, _, _, _]) (by exact rfl) (by exact rfl) (by exact rfl) (by exact rfl) (by exact rfl) fun _ c => ?_
      replace c : Cx _ _ _ [_, _, _, _, _] := c
      refine En.vb (c.vl (i := 0) rfl rfl) ?_
      refine En.vb (fa_add _ _ _) ?_
      refine En.vb (c.vp (i := 0) (ds := [_, _, _]) rfl rfl rfl) ?_
      refine cs.announce (t := 1) (by decide) _ _ (hZ _ (B.up b0 c.gr)) fun _ g => ?_
      have c := c.more g
      replace c : Cx _ _ _ [_, _, _, _, _] := c
      refine And.intro (c.vl (i := 0) rfl rfl) ?_
      refine cs.wlook (seen := (none, 0, 0)) fun _ g => ?_
      have c := c.more g
      replace c : Cx _ _ _ [_, _, _, _, _] := c
      refine En.vb rfl ?_
      refine En.vb rfl ?_
      refine En.vb rfl ?_
      refine c.vw 2 rfl (vs := [_, _, _, _, _, _, _, _]) (by exact rfl) (by exact rfl) (by exact rfl) (by exact rfl) fun _ c => ?_
      replace c : Cx _ _ _ [_, _, _, _, _] := c
      refine En.vb (c.vl (i := 2) rfl rfl) ?_
      exact fin u' _ (c.pick [3])
    · refine c.nv (cs := [_]) rfl rfl fun bag12_2_ _ c => ?_
      replace c : Cx _ _ _ [_, _, _, _] := c
      refine And.intro (c.vc (i := 1) rfl rfl) ?_
      refine And.intro (c.vc (i := 0) rfl rfl) ?_
      refine And.intro (c.vc (i := 0) rfl rfl) ?_
      refine And.intro (c.vc (i := 0) rfl rfl) ?_
      refine And.intro (c.vp (i := 0) (ds := [_]) rfl rfl rfl) ?_
      refine cs.retire (its := bag) (it := ⟨2, birth 2, m.era⟩) (hbg _ (B.up b0 c.gr)) (by omega) ⟨by dsimp only; omega, by dsimp only; omega⟩ ⟨hbi.1, hbi.2⟩ hno fun u' _ d => ?_
      have c := c.frame0 d
      replace c : Cx _ _ _ [_, _, _, _, _] := c
      refine En.vb rfl ?_
      refine En.vb rfl ?_
      refine c.vw 3 rfl (vs := [_]) (by exact rfl) (by exact rfl) (by exact rfl) (by exact rfl) fun _ c => ?_
      replace c : Cx _ _ _ [_, _, _, _, _] := c
      refine En.vb (v := .bool false) rfl ?_
      refine brf ?_
      refine En.vb (c.vl (i := 3) rfl rfl) ?_
      refine En.vb (fa_add _ _ _) ?_
      refine c.vq 0 rfl (vs := [_]) (ds := [_, _, _, _, _, _, _, _, _, _, _, _, _, _, _, _, _, _, _, _, _, _]) (by exact rfl) (by exact rfl) (by exact rfl) (by exact rfl) (by exact rfl) fun _ c => ?_
      replace c : Cx _ _ _ [_, _, _, _, _] := c
      refine En.vb (fa_add _ _ _) ?_
      refine c.vq 0 rfl (vs := [_]) (ds := [_, _, _, _, _, _, _, _, _, _, _, _, _, _, _, _, _, _, _, _, _, _]) (by exact rfl) (by exact rfl) (by exact rfl) (by exact rfl) (by exact rfl) fun _ c => ?_
      replace c : Cx _ _ _ [_, _, _, _, _] := c
      refine En.vb (c.vl (i := 0) rfl rfl) ?_
      refine En.vb (fa_add _ _ _) ?_
      refine En.vb (c.vp (i := 0) (ds := [_, _, _]) rfl rfl rfl) ?_
      refine cs.announce (t := 1) (by decide) _ _ (hZ _ (B.up b0 c.gr)) fun _ g => ?_
      have c := c.more g
      replace c : Cx _ _ _ [_, _, _, _, _] := c
      refine And.intro (c.vl (i := 0) rfl rfl) ?_
      refine cs.wlook (seen := (none, 0, 0)) fun _ g => ?_
      have c := c.more g
      replace c : Cx _ _ _ [_, _, _, _, _] := c
      refine En.vb rfl ?_
      refine En.vb rfl ?_
      refine En.vb rfl ?_
      refine c.vw 2 rfl (vs := [_, _, _, _, _, _, _, _]) (by exact rfl) (by exact rfl) (by exact rfl) (by exact rfl) fun _ c => ?_
      replace c : Cx _ _ _ [_, _, _, _, _] := c
      refine En.vb (c.vl (i := 2) rfl rfl) ?_
      exact fin u' _ (c.pick [4])
  · unfold F_simulcasttop_epochWriter_Next
    have c := Cx.start0 h
    refine c.nv (cs := [_, _, _, _, _, _, _, _, _, _, _, _, _, _, _, _, _, _, _, _, _, _]) rfl rfl fun w2_ _ c => ?_
    replace c : Cx _ _ _ [_] := c
    refine c.nv (cs := [_, _, _, _]) rfl rfl fun g3_ _ c => ?_
    replace c : Cx _ _ _ [_, _] := c
    refine c.nv (cs := [_, _, _, _, _, _, _, _]) rfl rfl fun v5_ _ c => ?_
    replace c : Cx _ _ _ [_, _, _] := c
    refine En.vb (fa_add _ _ _) ?_
    refine En.vb (c.vc (i := 0) rfl rfl) ?_
    refine En.vb (v := .bool false) (rfl) ?_
    refine brf ?_
    refine En.vb (fa_add _ _ _) ?_
    refine En.vb (c.vc (i := 0) rfl rfl) ?_
    refine En.vb (v := .bool false) rfl ?_
    refine brf ?_
    refine En.vb (v := .bool false) rfl ?_
    refine brf ?_
    refine En.vb (v := .bool false) rfl ?_
    refine brf ?_
    refine En.vb (v := .bool true) rfl ?_
    refine brt ?_
    refine .here ?_
    refine En.vb (fa_add _ _ _) ?_
    refine En.vb (c.vp (i := 0) (ds := [_]) rfl rfl rfl) ?_
    refine En.vb (fa_add _ _ _) ?_
    refine En.vb (c.vc (i := 0) rfl rfl) ?_
    refine En.vb (fa_add _ _ _) ?_
    refine En.vb (c.vc (i := 0) rfl rfl) ?_
    refine En.vb (fa_add _ _ _) ?_
    refine En.vb (ixa_at (i := 3) rfl (by decide) _) ?_
    refine En.vb (c.vc (i := 0) rfl rfl) ?_
    refine En.vb (fa_add _ _ _) ?_
    refine En.vb (fa_add _ _ _) ?_
    refine En.vb (c.vc (i := 1) rfl rfl) ?_
    refine En.vb (bldS_ok (ds := [_, _, _]) rfl) ?_
    refine And.intro ?_ ?_
    · refine cs.retire (its := bag) (it := ⟨3, birth 3, m.era⟩) (hbg _ (B.up b0 c.gr)) (by omega) ⟨by dsimp only; omega, by dsimp only; omega⟩ ⟨hbi.1, hbi.2⟩ hno fun u' _ d => ?_
      have c := c.frame0 d
      replace c : Cx _ _ _ [_, _, _, _] := c
      refine En.vb rfl ?_
      refine En.vb rfl ?_
      refine c.nv (cs := [_]) rfl rfl fun bag12_1_ _ c => ?_
      replace c : Cx _ _ _ [_, _, _, _, _] := c
      refine c.vw 4 rfl (vs := [_]) (by exact rfl) (by exact rfl) (by exact rfl) (by exact rfl) fun _ c => ?_
      replace c : Cx _ _ _ [_, _, _, _, _] := c
      refine En.vb (v := .bool false) rfl ?_
      refine brf ?_
      refine En.vb (c.vl (i := 4) rfl rfl) ?_
      refine En.vb (fa_add _ _ _) ?_
      refine c.vq 0 rfl (vs := [_]) (ds := [_, _, _, _, _, _, _, _, _, _, _, _, _, _, _, _, _, _, _, _, _, _]) (by exact rfl) (by exact rfl) (by exact rfl) (by exact rfl) (by exact rfl) fun _ c => ?_
      replace c : Cx _ _ _ [_, _, _, _, _] := c
      refine En.vb (fa_add _ _ _) ?_
      refine c.vq 0 rfl (vs := [_]) (ds := [_, _, _, _, _, _, _, _, _, _, _, _, _, _, _, _, _, _, _, _, _, _]) (by exact rfl) (by exact rfl) (by exact rfl) (by exact rfl) (by exact rfl) fun _ c => ?_
      replace c : Cx _ _ _ [_, _, _, _, _] := c
      refine En.vb (c.vl (i := 0) rfl rfl) ?_
      refine En.vb (fa_add _ _ _) ?_
      refine En.vb (c.vp (i := 0) (ds := [_, _, _]) rfl rfl rfl) ?_
      refine cs.announce (t := 1) (by decide) _ _ (hZ _ (B.up b0 c.gr)) fun _ g => ?_
      have c := c.more g
      replace c : Cx _ _ _ [_, _, _, _, _] := c
      refine And.intro (c.vl (i := 0) rfl rfl) ?_
      refine cs.wlook (seen := (none, 0, 0)) fun _ g => ?_
      have c := c.more g
      replace c : Cx _ _ _ [_, _, _, _, _] := c
      refine En.vb rfl ?_
      refine En.vb rfl ?_
      refine En.vb rfl ?_
      refine c.vw 2 rfl (vs := [_, _, _, _, _, _, _, _]) (by exact rfl) (by exact rfl) (by exact rfl) (by exact rfl) fun _ c => ?_
      replace c : Cx _ _ _ [_, _, _, _, _] := c
      refine En.vb (c.vl (i := 2) rfl rfl) ?_
      exact fin u' _ (c.pick [3])
    · refine c.nv (cs := [_]) rfl rfl fun bag12_2_ _ c => ?_
      replace c : Cx _ _ _ [_, _, _, _] := c
      refine And.intro (c.vc (i := 1) rfl rfl) ?_
      refine And.intro (c.vc (i := 0) rfl rfl) ?_
      refine And.intro (c.vc (i := 0) rfl rfl) ?_
      refine And.intro (c.vc (i := 0) rfl rfl) ?_
      refine And.intro (c.vp (i := 0) (ds := [_]) rfl rfl rfl) ?_
      refine cs.retire (its := bag) (it := ⟨3, birth 3, m.era⟩) (hbg _ (B.up b0 c.gr)) (by omega) ⟨by dsimp only; omega, by dsimp only; omega⟩ ⟨hbi.1, hbi.2⟩ hno fun u' _ d => ?_
      have c := c.frame0 d
      replace c : Cx _ _ _ [_, _, _, _, _] := c
      refine En.vb rfl ?_
      refine En.vb rfl ?_
      refine c.vw 3 rfl (vs := [_]) (by exact rfl) (by exact rfl) (by exact rfl) (by exact rfl) fun _ c => ?_
      replace c : Cx _ _ _ [_, _, _, _, _] := c
      refine En.vb (v := .bool false) rfl ?_
      refine brf ?_
      refine En.vb (c.vl (i := 3) rfl rfl) ?_
      refine En.vb (fa_add _ _ _) ?_
      refine c.vq 0 rfl (vs := [_]) (ds := [_, _, _, _, _, _, _, _, _, _, _, _, _, _, _, _, _, _, _, _, _, _]) (by exact rfl) (by exact rfl) (by exact rfl) (by exact rfl) (by exact rfl) fun _ c => ?_
      replace c : Cx _ _ _ [_, _, _, _, _] := c
      refine En.vb (fa_add _ _ _) ?_
      refine c.vq 0 rfl (vs := [_]) (ds := [_, _, _, _, _, _, _, _, _, _, _, _, _, _, _, _, _, _, _, _, _, _]) (by exact rfl) (by exact rfl) (by exact rfl) (by exact rfl) (by exact rfl) fun _ c => ?_
      replace c : Cx _ _ _ [_, _, _, _, _] := c
      refine En.vb (c.vl (i := 0) rfl rfl) ?_
      refine En.vb (fa_add _ _ _) ?_
      refine En.vb (c.vp (i := 0) (ds := [_, _, _]) rfl rfl rfl) ?_
      refine cs.announce (t := 1) (by decide) _ _ (hZ _ (B.up b0 c.gr)) fun _ g => ?_
      have c := c.more g
      replace c : Cx _ _ _ [_, _, _, _, _] := c
      refine And.intro (c.vl (i := 0) rfl rfl) ?_
      refine cs.wlook (seen := (none, 0, 0)) fun _ g => ?_
      have c := c.more g
      replace c : Cx _ _ _ [_, _, _, _, _] := c
      refine En.vb rfl ?_
      refine En.vb rfl ?_
      refine En.vb rfl ?_
      refine c.vw 2 rfl (vs := [_, _, _, _, _, _, _, _]) (by exact rfl) (by exact rfl) (by exact rfl) (by exact rfl) fun _ c => ?_
      replace c : Cx _ _ _ [_, _, _, _, _] := c
      refine En.vb (c.vl (i := 2) rfl rfl) ?_
      exact fin u' _ (c.pick [4])
theorem K_w_4 (cs : CuB S I) (b0 : B.p h) (hZ : On B Zs) (H : WO' B f w) (W : WI m w) (O : Go.Ep.WO w) (Q : Sm m w) {s : List Int} (hg : GivesW m w g) (hst : w.st = .w4 s)
    (hR : ∀ f', Rt B h (fun B => WO' B f' (stepW srt m w).2) fun h' => R (.tuple #[.iface I.t_simulcasttop_epochWriter (vWs I f' (stepW srt m w).2), vAc (akW (stepW srt m w).2).ac, .bool (isFinW (stepW srt m w).2.st)]) h') : F_simulcasttop_epochWriter_Next S I (vWs I f w) (vGo g) h R := by
  have hlen := W.part.length_eq
  have hs2 := W.seen s hst
  obtain ⟨st, ops, bag, free, gen, birth, rv, rver, cur⟩ := w
  dsimp only at hst hlen
  subst hst
  obtain ⟨⟨gv, gver, gref⟩, gok⟩ := g
  obtain rfl : gv = m.ann (s.length + 1) := hg
  have hbl : bag.length + free.length ≤ 3 := by
    simp [extra] at hlen
    omega
  have ho : ops ≠ [] := O (by simp)
  have hse := H.seen s rfl
  obtain ⟨u, eu, hu⟩ := H.ops.tail b0 (n := 1) rfl (by cases ops with
    | nil => exact absurd rfl ho
    | cons a l => simp)
  obtain ⟨sa, es, Hs⟩ := (hse h b0).clipped (n := 1) rfl
  obtain ⟨fa, ef, Hf⟩ := (H.free h b0).clipped (n := 1) rfl
  have hFc : On B fun h => Sl EI1 h (.slice fa free.length free.length) free := fun h'' b'' => by
    obtain ⟨fa2, ef2, Hf2⟩ := (H.free h'' b'').clipped (n := 1) rfl
    rw [ef] at ef2
    injection ef2 with ef2
    rw [ef2]; exact Hf2
  by_cases hl : s.length + 1 < 3
  · have ew : (stepW srt m ⟨.w4 s, ops, bag, free, gen, birth, rv, rver, cur⟩).2 = ⟨.w4 (s ++ [m.ann (s.length + 1)]), ops, bag, free, gen, birth, rv, rver, cur⟩ := by
      show (if s.length + 1 < 3 then (m, (⟨.w4 (s ++ [m.ann (s.length + 1)]), ops, bag, free, gen, birth, rv, rver, cur⟩ : Wr)) else _).2 = _
      rw [if_pos hl]
    rw [ew] at hR
    have e8 : (8 : Int) * ((s ++ [m.ann (s.length + 1)]).length + 1 : Nat) = ((8 * ((s ++ [m.ann (s.length + 1)]).length + 1) : Nat) : Int) := by omega
    have fin : ∀ u' h', Cx (fun _ => False) h h' [rSl EI1 (shV u') (s ++ [m.ann (s.length + 1)])] → R (.tuple #[.iface I.t_simulcasttop_epochWriter (vWs I { f with seen := u' } ⟨.w4 (s ++ [m.ann (s.length + 1)]), ops, bag, free, gen, birth, rv, rver, cur⟩), vAc ⟨5, (8 : Int) * ((s ++ [m.ann (s.length + 1)]).length + 1 : Nat), W0, W0⟩, .bool false]) h' := fun u' h' c => by
      have := hR { f with seen := u' } [rSl EI1 (shV u') (s ++ [m.ann (s.length + 1)])] h' (Cx.pack (L := []) c) ⟨H.ops.le (Bs.le_and _ _), H.bag.le (Bs.le_and _ _), H.free.le (Bs.le_and _ _), (fun s' h => by injection h with h; subst h; exact On.sl (i := 0) rfl), (fun s h => by cases h), (fun o h => by cases h), H.nn⟩
      rw [e8]
      exact this
    have hll : (s ++ [m.ann (s.length + 1)]).length = s.length + 1 := by rw [List.length_append, List.length_singleton]
    have e11 : ((s ++ [m.ann (s.length + 1)]).length : Int) + 1 = (((s ++ [m.ann (s.length + 1)]).length + 1 : Nat) : Int) := by omega
    unfold F_simulcasttop_epochWriter_Next
    have c := Cx.start0 h
    refine c.nv (cs := [_, _, _, _, _, _, _, _, _, _, _, _, _, _, _, _, _, _, _, _, _, _]) rfl rfl fun w2_ _ c => ?_
    replace c : Cx _ _ _ [_] := c
    refine c.nv (cs := [_, _, _, _]) rfl rfl fun g3_ _ c => ?_
    replace c : Cx _ _ _ [_, _] := c
    refine c.nv (cs := [_, _, _, _, _, _, _, _]) rfl rfl fun v5_ _ c => ?_
    replace c : Cx _ _ _ [_, _, _] := c
    refine En.vb (fa_add _ _ _) ?_
    refine En.vb (c.vc (i := 0) rfl rfl) ?_
    refine En.vb (v := .bool false) (rfl) ?_
    refine brf ?_
    refine En.vb (fa_add _ _ _) ?_
    refine En.vb (c.vc (i := 0) rfl rfl) ?_
    refine En.vb (v := .bool false) rfl ?_
    refine brf ?_
    refine En.vb (v := .bool false) rfl ?_
    refine brf ?_
    refine En.vb (v := .bool false) rfl ?_
    refine brf ?_
    refine En.vb (v := .bool false) rfl ?_
    refine brf ?_
    refine .here ?_
    refine En.vb (fa_add _ _ _) ?_
    refine En.vb (c.vc (i := 0) rfl rfl) ?_
    refine En.vb (fa_add _ _ _) ?_
    refine En.vb (fa_add _ _ _) ?_
    refine En.vb (c.vc (i := 1) rfl rfl) ?_
    refine And.intro ?_ ?_
    · refine cs.clipI64 (hse _ (B.up b0 c.gr)) es ?_
      refine And.intro (c.vc (i := 1) rfl rfl) ?_
      refine c.bsl1 EI1 (m.ann (s.length + 1)) rfl rfl fun v165 _ c => ?_
      replace c : Cx _ _ _ [_, _, _, _] := c
      refine c.apc (Hs.gr c.gr) (c.sl (i := 3) rfl).sl (by simp) rfl rfl (by rw [List.length_singleton]; omega) (by rw [List.length_singleton]; omega) fun v166 _ c => ?_
      obtain ⟨u', rfl⟩ := (c.sl (i := 4) rfl).isH
      replace c : Cx _ _ _ [_, _, _, _, _] := c
      refine En.vb (fa_add _ _ _) ?_
      refine c.vq 0 rfl (vs := [_]) (ds := [_, _, _, _, _, _, _, _, _, _, _, _, _, _, _, _, _, _, _, _, _, _]) (by exact rfl) (by exact rfl) (by exact rfl) (by exact rfl) (by exact rfl) fun _ c => ?_
      replace c : Cx _ _ _ [_, _, _, _, _] := c
      refine En.vb (fa_add _ _ _) ?_
      refine En.vb (c.vc (i := 0) rfl rfl) ?_
      refine En.vb (c.sl (i := 4) rfl).sl.ln ?_
      refine En.vb (fa_add _ _ _) ?_
      refine En.vb (fa_add _ _ _) ?_
      refine En.vb (c.vc (i := 0) rfl rfl) ?_
      refine En.vb (k_ltT (by show ((s ++ [m.ann (s.length + 1)]).length : Int) < 3; omega)) ?_
      refine brt ?_
      refine En.vb (c.vl (i := 0) rfl rfl) ?_
      refine En.vb (fa_add _ _ _) ?_
      refine En.vb (c.vp (i := 0) (ds := [_, _, _]) rfl rfl rfl) ?_
      refine En.vb (fa_add _ _ _) ?_
      refine En.vb (c.vc (i := 0) rfl rfl) ?_
      refine En.vb (c.sl (i := 4) rfl).sl.ln ?_
      refine En.vb (addI ⟨by omega, by omega⟩) ?_
      rw [e11]
      refine cs.announce (by omega) _ _ (hZ _ (B.up b0 c.gr)) fun _ g => ?_
      have c := c.more g
      replace c : Cx _ _ _ [_, _, _, _, _] := c
      refine And.intro (c.vl (i := 0) rfl rfl) ?_
      refine cs.wlook fun _ g => ?_
      have c := c.more g
      replace c : Cx _ _ _ [_, _, _, _, _] := c
      refine En.vb rfl ?_
      refine En.vb rfl ?_
      refine En.vb rfl ?_
      refine c.vw 2 rfl (vs := [_, _, _, _, _, _, _, _]) (by exact rfl) (by exact rfl) (by exact rfl) (by exact rfl) fun _ c => ?_
      replace c : Cx _ _ _ [_, _, _, _, _] := c
      refine En.vb (c.vl (i := 2) rfl rfl) ?_
      exact fin u' _ (c.pick [4])
    · refine c.bsl1 EI1 (m.ann (s.length + 1)) rfl rfl fun v165 _ c => ?_
      replace c : Cx _ _ _ [_, _, _, _] := c
      refine And.intro (c.vc (i := 0) rfl rfl) ?_
      refine cs.clipI64 (hse _ (B.up b0 c.gr)) es ?_
      refine c.apc (Hs.gr c.gr) (c.sl (i := 3) rfl).sl (by simp) rfl rfl (by rw [List.length_singleton]; omega) (by rw [List.length_singleton]; omega) fun v166 _ c => ?_
      obtain ⟨u', rfl⟩ := (c.sl (i := 4) rfl).isH
      replace c : Cx _ _ _ [_, _, _, _, _] := c
      refine En.vb (fa_add _ _ _) ?_
      refine c.vq 0 rfl (vs := [_]) (ds := [_, _, _, _, _, _, _, _, _, _, _, _, _, _, _, _, _, _, _, _, _, _]) (by exact rfl) (by exact rfl) (by exact rfl) (by exact rfl) (by exact rfl) fun _ c => ?_
      replace c : Cx _ _ _ [_, _, _, _, _] := c
      refine En.vb (fa_add _ _ _) ?_
      refine En.vb (c.vc (i := 0) rfl rfl) ?_
      refine En.vb (c.sl (i := 4) rfl).sl.ln ?_
      refine En.vb (fa_add _ _ _) ?_
      refine En.vb (fa_add _ _ _) ?_
      refine En.vb (c.vc (i := 0) rfl rfl) ?_
      refine En.vb (k_ltT (by show ((s ++ [m.ann (s.length + 1)]).length : Int) < 3; omega)) ?_
      refine brt ?_
      refine En.vb (c.vl (i := 0) rfl rfl) ?_
      refine En.vb (fa_add _ _ _) ?_
      refine En.vb (c.vp (i := 0) (ds := [_, _, _]) rfl rfl rfl) ?_
      refine En.vb (fa_add _ _ _) ?_
      refine En.vb (c.vc (i := 0) rfl rfl) ?_
      refine En.vb (c.sl (i := 4) rfl).sl.ln ?_
      refine En.vb (addI ⟨by omega, by omega⟩) ?_
      rw [e11]
      refine cs.announce (by omega) _ _ (hZ _ (B.up b0 c.gr)) fun _ g => ?_
      have c := c.more g
      replace c : Cx _ _ _ [_, _, _, _, _] := c
      refine And.intro (c.vl (i := 0) rfl rfl) ?_
      refine cs.wlook fun _ g => ?_
      have c := c.more g
      replace c : Cx _ _ _ [_, _, _, _, _] := c
      refine En.vb rfl ?_
      refine En.vb rfl ?_
      refine En.vb rfl ?_
      refine c.vw 2 rfl (vs := [_, _, _, _, _, _, _, _]) (by exact rfl) (by exact rfl) (by exact rfl) (by exact rfl) fun _ c => ?_
      replace c : Cx _ _ _ [_, _, _, _, _] := c
      refine En.vb (c.vl (i := 2) rfl rfl) ?_
      exact fin u' _ (c.pick [4])
  · have ew : (stepW srt m ⟨.w4 s, ops, bag, free, gen, birth, rv, rver, cur⟩).2 = Wr.go (Wr.sweep srt ⟨.w4 s, ops, bag, free, gen, birth, rv, rver, cur⟩ (s ++ [m.ann (s.length + 1)])) := by
      show (if s.length + 1 < 3 then (m, (⟨.w4 (s ++ [m.ann (s.length + 1)]), ops, bag, free, gen, birth, rv, rver, cur⟩ : Wr)) else (m, Wr.go (Wr.sweep srt ⟨.w4 s, ops, bag, free, gen, birth, rv, rver, cur⟩ (s ++ [m.ann (s.length + 1)])))).2 = _
      rw [if_neg hl]
    rw [ew] at hR
    clear ew
    have hll : (s ++ [m.ann (s.length + 1)]).length = s.length + 1 := by rw [List.length_append, List.length_singleton]
    obtain ⟨sn, hsn⟩ : ∃ sn, sn = s ++ [m.ann (s.length + 1)] := ⟨_, rfl⟩
    rw [← hsn] at hR hll
    have hgl : (srt ((bag.filter fun i => !Go.Ep.way sn i).map (·.b))).length ≤ 3 := by
      rw [(srt_perm _).length_eq, List.length_map]
      exact Nat.le_trans (List.length_filter_le ..) (by omega)
    have fin : ∀ (u' ufr : SH) (M : List Res) (f' : WF) h', (∃ i, M[i]? = some (rSl EIt (shV u') (bag.filter (Go.Ep.way sn)))) → (On (B.and M) fun h => Sl EI1 h (shV ufr) (free ++ srt ((bag.filter fun i => !Go.Ep.way sn i).map (·.b)))) → f'.ops = u → f'.bag = u' → f'.free = ufr → f'.old = f.old → (∀ s', (Wr.go (Wr.sweep srt ⟨.w4 s, ops, bag, free, gen, birth, rv, rver, cur⟩ sn)).st = .w4 s' → f'.seen = (none, 0, 0) ∧ s' = []) → Cx (fun _ => False) h h' M → R (.tuple #[.iface I.t_simulcasttop_epochWriter (vWs I f' (Wr.go (Wr.sweep srt ⟨.w4 s, ops, bag, free, gen, birth, rv, rver, cur⟩ sn))), vAc (akW (Wr.go (Wr.sweep srt ⟨.w4 s, ops, bag, free, gen, birth, rv, rver, cur⟩ sn))).ac, .bool (isFinW (Wr.go (Wr.sweep srt ⟨.w4 s, ops, bag, free, gen, birth, rv, rver, cur⟩ sn)).st)]) h' := fun u' ufr M f' h' hi hi2 e1 e2 e3 e4 e5 c => by
      obtain ⟨i1, hi1⟩ := hi
      refine hR f' M h' (Cx.pack (L := []) c) ?_
      obtain ⟨st', es', G⟩ := go_eq (Wr.sweep srt ⟨.w4 s, ops, bag, free, gen, birth, rv, rver, cur⟩ sn)
      rw [es'] at e5 ⊢
      refine ⟨by rw [e1]; exact hu.le (Bs.le_and _ _), by rw [e2]; exact On.sl hi1, by rw [e3]; exact hi2, fun s' hs' => ?_, (fun b hb => absurd hb (G.n2 b)), (fun b hb => absurd hb (G.n3 b)), fun o hoo => H.nn o (List.mem_of_mem_tail hoo)⟩
      obtain ⟨e6, rfl⟩ := e5 s' hs'
      rw [e6]
      exact fun h b => ⟨none, 0, rfl, Nat.le_refl _, (fun _ => rfl), fun i x hx => nil_get hx⟩
    unfold F_simulcasttop_epochWriter_Next
    have c := Cx.start0 h
    refine c.nv (cs := [_, _, _, _, _, _, _, _, _, _, _, _, _, _, _, _, _, _, _, _, _, _]) rfl rfl fun w2_ _ c => ?_
    replace c : Cx _ _ _ [_] := c
    refine c.nv (cs := [_, _, _, _]) rfl rfl fun g3_ _ c => ?_
    replace c : Cx _ _ _ [_, _] := c
    refine c.nv (cs := [_, _, _, _, _, _, _, _]) rfl rfl fun v5_ _ c => ?_
    replace c : Cx _ _ _ [_, _, _] := c
    refine En.vb (fa_add _ _ _) ?_
    refine En.vb (c.vc (i := 0) rfl rfl) ?_
    refine En.vb (v := .bool false) (rfl) ?_
    refine brf ?_
    refine En.vb (fa_add _ _ _) ?_
    refine En.vb (c.vc (i := 0) rfl rfl) ?_
    refine En.vb (v := .bool false) rfl ?_
    refine brf ?_
    refine En.vb (v := .bool false) rfl ?_
    refine brf ?_
    refine En.vb (v := .bool false) rfl ?_
    refine brf ?_
    refine En.vb (v := .bool false) rfl ?_
    refine brf ?_
    refine .here ?_
    refine En.vb (fa_add _ _ _) ?_
    refine En.vb (c.vc (i := 0) rfl rfl) ?_
    refine En.vb (fa_add _ _ _) ?_
    refine En.vb (fa_add _ _ _) ?_
    refine En.vb (c.vc (i := 1) rfl rfl) ?_
    refine And.intro ?_ ?_
    · refine cs.clipI64 (hse _ (B.up b0 c.gr)) es ?_
      refine And.intro (c.vc (i := 1) rfl rfl) ?_
      refine c.bsl1 EI1 (m.ann (s.length + 1)) rfl rfl fun v165 _ c => ?_
      replace c : Cx _ _ _ [_, _, _, _] := c
      refine c.apc (Hs.gr c.gr) (c.sl (i := 3) rfl).sl (by simp) rfl rfl (by rw [List.length_singleton]; omega) (by rw [List.length_singleton]; omega) fun v166 _ c => ?_
      rw [← hsn] at c
      obtain ⟨u9, rfl⟩ := (c.sl (i := 4) rfl).isH
      replace c : Cx _ _ _ [_, _, _, _, _] := c
      refine En.vb (fa_add _ _ _) ?_
      refine c.vq 0 rfl (vs := [_]) (ds := [_, _, _, _, _, _, _, _, _, _, _, _, _, _, _, _, _, _, _, _, _, _]) (by exact rfl) (by exact rfl) (by exact rfl) (by exact rfl) (by exact rfl) fun _ c => ?_
      replace c : Cx _ _ _ [_, _, _, _, _] := c
      refine En.vb (fa_add _ _ _) ?_
      refine En.vb (c.vc (i := 0) rfl rfl) ?_
      refine En.vb (c.sl (i := 4) rfl).sl.ln ?_
      refine En.vb (fa_add _ _ _) ?_
      refine En.vb (fa_add _ _ _) ?_
      refine En.vb (c.vc (i := 0) rfl rfl) ?_
      refine En.vb (k_ltF (by show ¬ ((sn.length : Int) < 3); omega)) ?_
      refine brf ?_
      refine En.vb (fa_add _ _ _) ?_
      refine En.vb (c.vp (i := 0) (ds := [_]) rfl rfl rfl) ?_
      refine En.vb (fa_add _ _ _) ?_
      refine En.vb (c.vc (i := 0) rfl rfl) ?_
      refine cs.sweep (its := bag) (seen := sn) (H.bag _ (B.up b0 c.gr)) (c.sl (i := 4) rfl).sl (by omega) (by omega) fun u' g' _ d => ?_
      have c := c.frame0 d
      replace c : Cx _ _ _ [_, _, _, _, _, _, _] := c
      refine En.vb rfl ?_
      refine En.vb rfl ?_
      refine c.nv (cs := [_]) rfl rfl fun bag14_ _ c => ?_
      replace c : Cx _ _ _ [_, _, _, _, _, _, _, _] := c
      refine c.vw 7 rfl (vs := [_]) (by exact rfl) (by exact rfl) (by exact rfl) (by exact rfl) fun _ c => ?_
      replace c : Cx _ _ _ [_, _, _, _, _, _, _, _] := c
      refine En.vb (c.vl (i := 7) rfl rfl) ?_
      refine En.vb (fa_add _ _ _) ?_
      refine En.vb (c.vc (i := 0) rfl rfl) ?_
      refine En.vb (fa_add _ _ _) ?_
      refine En.vb (c.vc (i := 0) rfl rfl) ?_
      refine En.vb eu ?_
      refine En.vb (fa_add _ _ _) ?_
      refine cs.clipI (H.free _ (B.up b0 c.gr)) ef ?_
      refine And.intro (c.vc (i := 0) rfl rfl) ?_
      refine And.intro (c.vl (i := 7) rfl rfl) ?_
      refine c.apz (xs := free) (ys := srt ((bag.filter fun i => !Go.Ep.way sn i).map (·.b))) (hFc _ (B.up b0 c.gr)) (c.sl (i := 6) rfl).sl rfl rfl (by omega) (by omega) ?_ ?_
      · intro hnil
        have hfree : On (B.and [rSl EIt (shV u') (bag.filter (Go.Ep.way sn))]) fun h => Sl EI1 h (.slice fa free.length free.length) (free ++ srt ((bag.filter fun i => !Go.Ep.way sn i).map (·.b))) := by
          rw [hnil, List.append_nil]
          exact hFc.le (Bs.le_and _ _)
        obtain ⟨uf, euf, hfu⟩ : ∃ uf : SH, shV uf = .slice fa free.length free.length ∧ On (B.and [rSl EIt (shV u') (bag.filter (Go.Ep.way sn))]) fun h => Sl EI1 h (shV uf) (free ++ srt ((bag.filter fun i => !Go.Ep.way sn i).map (·.b))) := ⟨(fa, free.length, free.length), rfl, hfree⟩
        rw [← euf]
        refine And.intro (c.vc (i := 0) rfl rfl) ?_
        refine And.intro (c.vl (i := 7) rfl rfl) ?_
        refine c.vq 0 rfl (vs := [_]) (ds := [_, _, _, _, _, _, _, _, _, _, _, _, _, _, _, _, _, _, _, _, _, _]) (by exact rfl) (by exact rfl) (by exact rfl) (by exact rfl) (by exact rfl) fun _ c => ?_
        replace c : Cx _ _ _ [_, _, _, _, _, _, _, _] := c
        refine En.vb (fa_add _ _ _) ?_
        refine c.vq 0 rfl (vs := [_]) (ds := [_, _, _, _, _, _, _, _, _, _, _, _, _, _, _, _, _, _, _, _, _, _]) (by exact rfl) (by exact rfl) (by exact rfl) (by exact rfl) (by exact rfl) fun _ c => ?_
        replace c : Cx _ _ _ [_, _, _, _, _, _, _, _] := c
        refine En.vb (fa_add _ _ _) ?_
        refine c.vq 0 rfl (vs := [_]) (ds := [_, _, _, _, _, _, _, _, _, _, _, _, _, _, _, _, _, _, _, _, _, _]) (by exact rfl) (by exact rfl) (by exact rfl) (by exact rfl) (by exact rfl) fun _ c => ?_
        replace c : Cx _ _ _ [_, _, _, _, _, _, _, _] := c
        refine En.vb (c.vl (i := 0) rfl rfl) ?_
        refine cs.wbegin (w := Wr.sweep srt ⟨.w4 s, ops, bag, free, gen, birth, rv, rver, cur⟩ sn) (f := ⟨u, u', uf, u9, f.old⟩) (hZ _ (B.up b0 c.gr)) (fun o hoo => H.nn o (List.mem_of_mem_tail hoo)) (hu _ (B.up b0 c.gr)) ?_ fun f' _ e1 e2 e3 e4 e5 gr => ?_
        · first | exact hfu _ ⟨B.up b0 c.gr, (Cx.one c 5 rfl).unstar.elim fun F p => ⟨F, p.1⟩⟩ | exact (c.sl (i := 8) rfl).sl
        have c := c.more gr
        replace c : Cx _ _ _ [_, _, _, _, _, _, _, _] := c
        refine En.vb rfl ?_
        refine En.vb rfl ?_
        refine En.vb rfl ?_
        refine c.vw 2 rfl (vs := [_, _, _, _, _, _, _, _]) (by exact rfl) (by exact rfl) (by exact rfl) (by exact rfl) fun _ c => ?_
        replace c : Cx _ _ _ [_, _, _, _, _, _, _, _] := c
        refine En.vb (c.vl (i := 2) rfl rfl) ?_
        first | exact fin u' uf [rSl EIt (shV u') (bag.filter (Go.Ep.way sn))] f' _ ⟨0, rfl⟩ hfu e1 e2 e3 e4 e5 (c.pick [5]) | exact fin u' uf [rSl EIt (shV u') (bag.filter (Go.Ep.way sn)), rSl EI1 (shV uf) (free ++ srt ((bag.filter fun i => !Go.Ep.way sn i).map (·.b)))] f' _ ⟨0, rfl⟩ (On.sl (i := 1) rfl) e1 e2 e3 e4 e5 (c.pick [5, 8])
      · intro v200 _ c
        obtain ⟨uf, rfl⟩ := (c.sl (i := 8) rfl).isH
        replace c : Cx _ _ _ [_, _, _, _, _, _, _, _, _] := c
        refine And.intro (c.vc (i := 0) rfl rfl) ?_
        refine And.intro (c.vl (i := 7) rfl rfl) ?_
        refine c.vq 0 rfl (vs := [_]) (ds := [_, _, _, _, _, _, _, _, _, _, _, _, _, _, _, _, _, _, _, _, _, _]) (by exact rfl) (by exact rfl) (by exact rfl) (by exact rfl) (by exact rfl) fun _ c => ?_
        replace c : Cx _ _ _ [_, _, _, _, _, _, _, _, _] := c
        refine En.vb (fa_add _ _ _) ?_
        refine c.vq 0 rfl (vs := [_]) (ds := [_, _, _, _, _, _, _, _, _, _, _, _, _, _, _, _, _, _, _, _, _, _]) (by exact rfl) (by exact rfl) (by exact rfl) (by exact rfl) (by exact rfl) fun _ c => ?_
        replace c : Cx _ _ _ [_, _, _, _, _, _, _, _, _] := c
        refine En.vb (fa_add _ _ _) ?_
        refine c.vq 0 rfl (vs := [_]) (ds := [_, _, _, _, _, _, _, _, _, _, _, _, _, _, _, _, _, _, _, _, _, _]) (by exact rfl) (by exact rfl) (by exact rfl) (by exact rfl) (by exact rfl) fun _ c => ?_
        replace c : Cx _ _ _ [_, _, _, _, _, _, _, _, _] := c
        refine En.vb (c.vl (i := 0) rfl rfl) ?_
        refine cs.wbegin (w := Wr.sweep srt ⟨.w4 s, ops, bag, free, gen, birth, rv, rver, cur⟩ sn) (f := ⟨u, u', uf, u9, f.old⟩) (hZ _ (B.up b0 c.gr)) (fun o hoo => H.nn o (List.mem_of_mem_tail hoo)) (hu _ (B.up b0 c.gr)) ?_ fun f' _ e1 e2 e3 e4 e5 gr => ?_
        · first | exact hfu _ ⟨B.up b0 c.gr, (Cx.one c 5 rfl).unstar.elim fun F p => ⟨F, p.1⟩⟩ | exact (c.sl (i := 8) rfl).sl
        have c := c.more gr
        replace c : Cx _ _ _ [_, _, _, _, _, _, _, _, _] := c
        refine En.vb rfl ?_
        refine En.vb rfl ?_
        refine En.vb rfl ?_
        refine c.vw 2 rfl (vs := [_, _, _, _, _, _, _, _]) (by exact rfl) (by exact rfl) (by exact rfl) (by exact rfl) fun _ c => ?_
        replace c : Cx _ _ _ [_, _, _, _, _, _, _, _, _] := c
        refine En.vb (c.vl (i := 2) rfl rfl) ?_
        first | exact fin u' uf [rSl EIt (shV u') (bag.filter (Go.Ep.way sn))] f' _ ⟨0, rfl⟩ hfu e1 e2 e3 e4 e5 (c.pick [5]) | exact fin u' uf [rSl EIt (shV u') (bag.filter (Go.Ep.way sn)), rSl EI1 (shV uf) (free ++ srt ((bag.filter fun i => !Go.Ep.way sn i).map (·.b)))] f' _ ⟨0, rfl⟩ (On.sl (i := 1) rfl) e1 e2 e3 e4 e5 (c.pick [5, 8])
    · refine c.bsl1 EI1 (m.ann (s.length + 1)) rfl rfl fun v165 _ c => ?_
      replace c : Cx _ _ _ [_, _, _, _] := c
      refine And.intro (c.vc (i := 0) rfl rfl) ?_
      refine cs.clipI64 (hse _ (B.up b0 c.gr)) es ?_
      refine c.apc (Hs.gr c.gr) (c.sl (i := 3) rfl).sl (by simp) rfl rfl (by rw [List.length_singleton]; omega) (by rw [List.length_singleton]; omega) fun v166 _ c => ?_
      rw [← hsn] at c
      obtain ⟨u9, rfl⟩ := (c.sl (i := 4) rfl).isH
      replace c : Cx _ _ _ [_, _, _, _, _] := c
      refine En.vb (fa_add _ _ _) ?_
      refine c.vq 0 rfl (vs := [_]) (ds := [_, _, _, _, _, _, _, _, _, _, _, _, _, _, _, _, _, _, _, _, _, _]) (by exact rfl) (by exact rfl) (by exact rfl) (by exact rfl) (by exact rfl) fun _ c => ?_
      replace c : Cx _ _ _ [_, _, _, _, _] := c
      refine En.vb (fa_add _ _ _) ?_
      refine En.vb (c.vc (i := 0) rfl rfl) ?_
      refine En.vb (c.sl (i := 4) rfl).sl.ln ?_
      refine En.vb (fa_add _ _ _) ?_
      refine En.vb (fa_add _ _ _) ?_
      refine En.vb (c.vc (i := 0) rfl rfl) ?_
      refine En.vb (k_ltF (by show ¬ ((sn.length : Int) < 3); omega)) ?_
      refine brf ?_
      refine En.vb (fa_add _ _ _) ?_
      refine En.vb (c.vp (i := 0) (ds := [_]) rfl rfl rfl) ?_
      refine En.vb (fa_add _ _ _) ?_
      refine En.vb (c.vc (i := 0) rfl rfl) ?_
      refine cs.sweep (its := bag) (seen := sn) (H.bag _ (B.up b0 c.gr)) (c.sl (i := 4) rfl).sl (by omega) (by omega) fun u' g' _ d => ?_
      have c := c.frame0 d
      replace c : Cx _ _ _ [_, _, _, _, _, _, _] := c
      refine En.vb rfl ?_
      refine En.vb rfl ?_
      refine c.nv (cs := [_]) rfl rfl fun bag14_ _ c => ?_
      replace c : Cx _ _ _ [_, _, _, _, _, _, _, _] := c
      refine c.vw 7 rfl (vs := [_]) (by exact rfl) (by exact rfl) (by exact rfl) (by exact rfl) fun _ c => ?_
      replace c : Cx _ _ _ [_, _, _, _, _, _, _, _] := c
      refine En.vb (c.vl (i := 7) rfl rfl) ?_
      refine En.vb (fa_add _ _ _) ?_
      refine En.vb (c.vc (i := 0) rfl rfl) ?_
      refine En.vb (fa_add _ _ _) ?_
      refine En.vb (c.vc (i := 0) rfl rfl) ?_
      refine En.vb eu ?_
      refine En.vb (fa_add _ _ _) ?_
      refine cs.clipI (H.free _ (B.up b0 c.gr)) ef ?_
      refine And.intro (c.vc (i := 0) rfl rfl) ?_
      refine And.intro (c.vl (i := 7) rfl rfl) ?_
      refine c.apz (xs := free) (ys := srt ((bag.filter fun i => !Go.Ep.way sn i).map (·.b))) (hFc _ (B.up b0 c.gr)) (c.sl (i := 6) rfl).sl rfl rfl (by omega) (by omega) ?_ ?_
      · intro hnil
        have hfree : On (B.and [rSl EIt (shV u') (bag.filter (Go.Ep.way sn))]) fun h => Sl EI1 h (.slice fa free.length free.length) (free ++ srt ((bag.filter fun i => !Go.Ep.way sn i).map (·.b))) := by
          rw [hnil, List.append_nil]
          exact hFc.le (Bs.le_and _ _)
        obtain ⟨uf, euf, hfu⟩ : ∃ uf : SH, shV uf = .slice fa free.length free.length ∧ On (B.and [rSl EIt (shV u') (bag.filter (Go.Ep.way sn))]) fun h => Sl EI1 h (shV uf) (free ++ srt ((bag.filter fun i => !Go.Ep.way sn i).map (·.b))) := ⟨(fa, free.length, free.length), rfl, hfree⟩
        rw [← euf]
        refine And.intro (c.vc (i := 0) rfl rfl) ?_
        refine And.intro (c.vl (i := 7) rfl rfl) ?_
        refine c.vq 0 rfl (vs := [_]) (ds := [_, _, _, _, _, _, _, _, _, _, _, _, _, _, _, _, _, _, _, _, _, _]) (by exact rfl) (by exact rfl) (by exact rfl) (by exact rfl) (by exact rfl) fun _ c => ?_
        replace c : Cx _ _ _ [_, _, _, _, _, _, _, _] := c
        refine En.vb (fa_add _ _ _) ?_
        refine c.vq 0 rfl (vs := [_]) (ds := [_, _, _, _, _, _, _, _, _, _, _, _, _, _, _, _, _, _, _, _, _, _]) (by exact rfl) (by exact rfl) (by exact rfl) (by exact rfl) (by exact rfl) fun _ c => ?_
        replace c : Cx _ _ _ [_, _, _, _, _, _, _, _] := c
        refine En.vb (fa_add _ _ _) ?_
        refine c.vq 0 rfl (vs := [_]) (ds := [_, _, _, _, _, _, _, _, _, _, _, _, _, _, _, _, _, _, _, _, _, _]) (by exact rfl) (by exact rfl) (by exact rfl) (by exact rfl) (by exact rfl) fun _ c => ?_
        replace c : Cx _ _ _ [_, _, _, _, _, _, _, _] := c
        refine En.vb (c.vl (i := 0) rfl rfl) ?_
        refine cs.wbegin (w := Wr.sweep srt ⟨.w4 s, ops, bag, free, gen, birth, rv, rver, cur⟩ sn) (f := ⟨u, u', uf, u9, f.old⟩) (hZ _ (B.up b0 c.gr)) (fun o hoo => H.nn o (List.mem_of_mem_tail hoo)) (hu _ (B.up b0 c.gr)) ?_ fun f' _ e1 e2 e3 e4 e5 gr => ?_
        · first | exact hfu _ ⟨B.up b0 c.gr, (Cx.one c 5 rfl).unstar.elim fun F p => ⟨F, p.1⟩⟩ | exact (c.sl (i := 8) rfl).sl
        have c := c.more gr
        replace c : Cx _ _ _ [_, _, _, _, _, _, _, _] := c
        refine En.vb rfl ?_
        refine En.vb rfl ?_
        refine En.vb rfl ?_
        refine c.vw 2 rfl (vs := [_, _, _, _, _, _, _, _]) (by exact rfl) (by exact rfl) (by exact rfl) (by exact rfl) fun _ c => ?_
        replace c : Cx _ _ _ [_, _, _, _, _, _, _, _] := c
        refine En.vb (c.vl (i := 2) rfl rfl) ?_
        first | exact fin u' uf [rSl EIt (shV u') (bag.filter (Go.Ep.way sn))] f' _ ⟨0, rfl⟩ hfu e1 e2 e3 e4 e5 (c.pick [5]) | exact fin u' uf [rSl EIt (shV u') (bag.filter (Go.Ep.way sn)), rSl EI1 (shV uf) (free ++ srt ((bag.filter fun i => !Go.Ep.way sn i).map (·.b)))] f' _ ⟨0, rfl⟩ (On.sl (i := 1) rfl) e1 e2 e3 e4 e5 (c.pick [5, 8])
      · intro v200 _ c
        obtain ⟨uf, rfl⟩ := (c.sl (i := 8) rfl).isH
        replace c : Cx _ _ _ [_, _, _, _, _, _, _, _, _] := c
        refine And.intro (c.vc (i := 0) rfl rfl) ?_
        refine And.intro (c.vl (i := 7) rfl rfl) ?_
        refine c.vq 0 rfl (vs := [_]) (ds := [_, _, _, _, _, _, _, _, _, _, _, _, _, _, _, _, _, _, _, _, _, _]) (by exact rfl) (by exact rfl) (by exact rfl) (by exact rfl) (by exact rfl) fun _ c => ?_
        replace c : Cx _ _ _ [_, _, _, _, _, _, _, _, _] := c
        refine En.vb (fa_add _ _ _) ?_
        refine c.vq 0 rfl (vs := [_]) (ds := [_, _, _, _, _, _, _, _, _, _, _, _, _, _, _, _, _, _, _, _, _, _]) (by exact rfl) (by exact rfl) (by exact rfl) (by exact rfl) (by exact rfl) fun _ c => ?_
        replace c : Cx _ _ _ [_, _, _, _, _, _, _, _, _] := c
        refine En.vb (fa_add _ _ _) ?_
        refine c.vq 0 rfl (vs := [_]) (ds := [_, _, _, _, _, _, _, _, _, _, _, _, _, _, _, _, _, _, _, _, _, _]) (by exact rfl) (by exact rfl) (by exact rfl) (by exact rfl) (by exact rfl) fun _ c => ?_
        replace c : Cx _ _ _ [_, _, _, _, _, _, _, _, _] := c
        refine En.vb (c.vl (i := 0) rfl rfl) ?_
        refine cs.wbegin (w := Wr.sweep srt ⟨.w4 s, ops, bag, free, gen, birth, rv, rver, cur⟩ sn) (f := ⟨u, u', uf, u9, f.old⟩) (hZ _ (B.up b0 c.gr)) (fun o hoo => H.nn o (List.mem_of_mem_tail hoo)) (hu _ (B.up b0 c.gr)) ?_ fun f' _ e1 e2 e3 e4 e5 gr => ?_
        · first | exact hfu _ ⟨B.up b0 c.gr, (Cx.one c 5 rfl).unstar.elim fun F p => ⟨F, p.1⟩⟩ | exact (c.sl (i := 8) rfl).sl
        have c := c.more gr
        replace c : Cx _ _ _ [_, _, _, _, _, _, _, _, _] := c
        refine En.vb rfl ?_
        refine En.vb rfl ?_
        refine En.vb rfl ?_
        refine c.vw 2 rfl (vs := [_, _, _, _, _, _, _, _]) (by exact rfl) (by exact rfl) (by exact rfl) (by exact rfl) fun _ c => ?_
        replace c : Cx _ _ _ [_, _, _, _, _, _, _, _, _] := c
        refine En.vb (c.vl (i := 2) rfl rfl) ?_
        first | exact fin u' uf [rSl EIt (shV u') (bag.filter (Go.Ep.way sn))] f' _ ⟨0, rfl⟩ hfu e1 e2 e3 e4 e5 (c.pick [5]) | exact fin u' uf [rSl EIt (shV u') (bag.filter (Go.Ep.way sn)), rSl EI1 (shV uf) (free ++ srt ((bag.filter fun i => !Go.Ep.way sn i).map (·.b)))] f' _ ⟨0, rfl⟩ (On.sl (i := 1) rfl) e1 e2 e3 e4 e5 (c.pick [5, 8])
end
end Go.En
