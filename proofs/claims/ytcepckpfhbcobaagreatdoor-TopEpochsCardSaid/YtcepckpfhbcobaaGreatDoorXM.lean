/-
  What a reader holds is safe: the check. (Steps printed by wip/tools/walk.py from EqS.src.)
  The example; the law Epochs. (Steps printed by wip/tools/walk.py from EqT.src.)
  The law Epochs. (Steps printed by wip/tools/walk.py from EqU.src.)
-/
import Derived.Test.YtcepckpfhbcobaaGreatDoorXL
namespace Go.En
open Go.Ep

variable {S : Sys} {I : Ids} {h h0 h' : Hp} {F F0 : Fp} {R : Value → Hp → Prop} {L : List Res} {B B' : Bs}
section
variable {v : Value} {xs : List Int} {z : Int}
theorem K_Index (hs : Sl EI1 h v xs) (hl : xs.length ≤ 1000000) (hR : ∀ y, decide ((0 : Int) ≤ y) = decide (z ∈ xs) → R (.int .i64 y) h) : F_slices_Index_int_int S I v (.int .i64 z) h R := by
  unfold F_slices_Index_int_int
  refine En.vb hs.ln ?_
  refine Lp1.by (fun (i : Nat) a h' => a = .int .i64 i ∧ i ≤ xs.length ∧ (∀ y ∈ xs.take i, y ≠ z) ∧ h' = h) (fun i => xs.length - i) 0 ⟨rfl, Nat.zero_le _, (fun y hy => by simp at hy), rfl⟩ ?_
  rintro i _ h1 ⟨rfl, hi, hp, rfl⟩ again hagain
  refine En.vb bin_lss ?_
  refine brd (fun e => ?_) fun e => ?_
  · have hx := List.getElem?_eq_getElem (l := xs) (i := i) (by omega)
    generalize xs[i]'(by omega) = x at hx
    refine hs.one rfl hx rfl (u := .int .i64 x) rfl ?_
    refine En.vb bin_eql ?_
    refine brd (fun e2 => ?_) fun e2 => ?_
    · subst e2
      exact hR _ (by rw [decide_eq_true (Int.natCast_nonneg i), decide_eq_true (List.mem_of_getElem? hx)])
    · refine En.vb (inc (by omega)) ?_
      refine hagain (i + 1) _ _ ⟨rfl, by omega, fun y hy => ?_, rfl⟩ (by omega)
      rw [List.take_add_one, hx, Option.toList_some, List.mem_append, List.mem_singleton] at hy
      rcases hy with hy | rfl
      · exact hp y hy
      · exact fun e3 => e2 e3.symm
  · refine hR _ ?_
    rw [decide_eq_false (by omega), decide_eq_false]
    rw [List.take_of_length_le (by omega)] at hp
    exact fun hm => hp z hm rfl
structure CwA (S : Sys) (I : Ids) : Prop extends CvB S I where
  index : ∀ {v : Value} {xs : List Int} {z : Int} {h} {R : Value → Hp → Prop}, Sl EI1 h v xs → xs.length ≤ 1000000 → (∀ y, decide ((0 : Int) ≤ y) = decide (z ∈ xs) → R (.int .i64 y) h) → S.C I.f_slices_Index_int_int [v, .int .i64 z] h R
theorem K_Contains (cs : CwA S I) (hs : Sl EI1 h v xs) (hl : xs.length ≤ 1000000) (hR : R (.bool (decide (z ∈ xs))) h) : F_slices_Contains_int_int S I v (.int .i64 z) h R := by
  unfold F_slices_Contains_int_int
  refine cs.index hs hl fun y e => ?_
  refine En.vb bin_geq ?_
  rw [e]
  exact hR
structure CwB (S : Sys) (I : Ids) : Prop extends CwA S I where
  contains : ∀ {v : Value} {xs : List Int} {z : Int} {h} {R : Value → Hp → Prop}, Sl EI1 h v xs → xs.length ≤ 1000000 → R (.bool (decide (z ∈ xs))) h → S.C I.f_slices_Contains_int_int [v, .int .i64 z] h R
end
/-- a writer's cells -/
def cWs (I : Ids) (f : WF) (w : Wr) : List Value := [.int .i64 3, .int .i64 8, .int .i64 0, shV f.ops, .int .i64 (phW w.st), nowW I w.st, shV f.bag, shV f.free, .int .i64 (w.gen 0), .int .i64 (w.gen 1), .int .i64 (w.gen 2), .int .i64 (w.gen 3), .int .i64 (w.birth 0), .int .i64 (w.birth 1), .int .i64 (w.birth 2), .int .i64 (w.birth 3), .int .i64 w.rv, .int .u32 w.rver, .int .u32 0, .int .i64 f.old, shV f.seen, .bool false]
theorem nowW_one (I : Ids) (st : WS) : (nowW I st).oneCell' = true := by cases st <;> rfl
theorem cWs_one (I : Ids) (f : WF) (w : Wr) : ones (cWs I f w) = true := by
  unfold ones cWs
  simp only [List.all_cons, List.all_nil, nowW_one, Bool.and_true, Bool.true_and]
  rfl
theorem heldBy_form {t : Nat} {r : Rd} {v : Value} (H : RV I t r v) : ∃ left ph rests now era found, v = vRd t left ph rests now era found (heldBy r) ∧ now.oneCell' = true := by
  obtain ⟨_, H⟩ := H
  obtain ⟨st, left⟩ := r
  cases st with
  | a => obtain ⟨_, _, _, _, _, _, rfl⟩ := H; exact ⟨_, _, _, _, _, _, rfl, rfl⟩
  | b f => obtain ⟨_, _, _, _, _, rfl⟩ := H; exact ⟨_, _, _, _, _, _, rfl, rfl⟩
  | c f => obtain ⟨_, _, _, _, _, rfl⟩ := H; exact ⟨_, _, _, _, _, _, rfl, rfl⟩
  | d e => obtain ⟨_, _, rfl⟩ := H; exact ⟨_, _, _, _, _, _, rfl, rfl⟩
  | e e x => obtain ⟨_, rfl⟩ := H; exact ⟨_, _, _, _, _, _, rfl, rfl⟩
  | f e x k => obtain ⟨rfl, _⟩ := H; exact ⟨_, _, _, _, _, _, rfl, rfl⟩
  | g => obtain ⟨_, _, _, _, _, _, rfl⟩ := H; exact ⟨_, _, _, _, _, _, rfl, rfl⟩
  | fin => obtain ⟨_, _, _, _, _, rfl, h⟩ := H; exact ⟨_, _, _, _, _, _, rfl, h⟩
def cRd (t : Nat) (left phase rests : Int) (now : Value) (era found held : Int) : List Value := [.int .i64 3, .int .i64 8, .int .i64 0, .int .i64 t, .int .i64 left, .int .i64 phase, .int .i64 rests, now, .int .i64 era, .int .i64 found, .int .i64 held]
theorem cRd_one {t : Nat} {left phase rests : Int} {now : Value} {era found held : Int} (h : now.oneCell' = true) : ones (cRd t left phase rests now era found held) = true := by
  unfold ones cRd
  simp only [List.all_cons, List.all_nil, h, Bool.and_true, Bool.true_and]
  rfl
theorem cTk_ones (x : Tk) : ones (cTk x) = true := List.all_eq_true.2 fun v hv => cTk_one x v hv
section
variable {k q : Nat} {w : WV} {s : Ep.St}
theorem K_eSafe (cs : CwB S I) (b0 : B.p h) (H : XW I B k q w s) (hR : ∀ h', Gr h h' → R (.bool true) h') : F_simulcasttop_epochSafe S I (vWd w) h R := by
  obtain ⟨z, p, mc, f, vx, vy, s1, s2, s3, g1, g2, g3, a, bb, c0, d, e1, e2, e3, e4, e5, e6⟩ := H
  obtain ⟨lx, phx, rsx, nwx, erx, fox, rfl, ox⟩ := heldBy_form e1
  obtain ⟨ly, phy, rsy, nwy, ery, foy, rfl, oy⟩ := heldBy_form e2
  have sx := p.si.x.safe p.si.w
  have sy := p.si.y.safe p.si.w
  have hfl : s.w.free.length ≤ 4 := by
    have := p.si.w.part.length_eq
    simp at this
    omega
  have hgen := p.sm.gen
  obtain ⟨ut, eut, hut⟩ := a.ts.tail b0 (n := 11) rfl (by simp)
  have sf : ∀ (i : Nat) (tk : Tk), ([tkR I 2 s.x (vRd 2 lx phx rsx nwx erx fox (heldBy s.x)) s2, tkR I 3 s.y (vRd 3 ly phy rsy nwy ery foy (heldBy s.y)) s3] : List Tk)[i]? = some tk → ∃ (t : Nat) (left ph rests : Int) (now : Value) (era found held : Int) (dn : Bool) (act : Ac) (ss : SH), tk = ⟨I.t_simulcasttop_epochReader, vRd t left ph rests now era found held, dn, act, ss⟩ ∧ now.oneCell' = true ∧ (held = 0 ∨ ∃ b, 0 ≤ b ∧ b < 4 ∧ held = val b (s.w.gen b) ∧ b ∉ s.w.free) := fun i tk hi => by
    match i, hi with
    | 0, hi => injection hi with hi; subst hi; exact ⟨_, _, _, _, _, _, _, _, _, _, _, rfl, ox, sx⟩
    | 1, hi => injection hi with hi; subst hi; exact ⟨_, _, _, _, _, _, _, _, _, _, _, rfl, oy, sy⟩
    | i + 2, hi => exact nil_get (j := i) hi
  unfold F_simulcasttop_epochSafe
  have c := Cx.start0 h
  refine c.nv (cs := [_, _, _, _, _, _, _, _, _]) rfl rfl fun x1_ _ c => ?_
  replace c : Cx _ _ _ [_] := c
  refine En.vb (fa_add _ _ _) ?_
  refine En.vb (c.vc (i := 0) rfl rfl) ?_
  refine (a.ts _ (B.up b0 c.gr)).whole (i := 0) rfl rfl rfl ?_
  refine cs.tCode (x := tkW I f s.w s1) fun _ g => ?_
  have c := c.more g
  replace c : Cx _ _ _ [_] := c
  refine En.vb (if_true_tas _ _ _) ?_
  refine En.vb rfl ?_
  refine En.vb rfl ?_
  refine c.nv (cs := [_, _, _, _, _, _, _, _, _, _, _, _, _, _, _, _, _, _, _, _, _, _]) rfl rfl fun w3_ _ c => ?_
  replace c : Cx _ _ _ [_, _] := c
  refine c.vw 1 rfl (vs := cWs I f s.w) rfl (cWs_one _ _ _) rfl rfl fun _ c => ?_
  replace c : Cx _ _ _ [_, _] := c
  refine .here ?_
  refine En.vb (v := .bool false) (rfl) ?_
  refine brf ?_
  refine En.vb (fa_add _ _ _) ?_
  refine En.vb (c.vc (i := 1) rfl rfl) ?_
  refine brf ?_
  refine En.vb (fa_add _ _ _) ?_
  refine En.vb (c.vc (i := 0) rfl rfl) ?_
  refine En.vb eut ?_
  refine En.vb (hut _ (B.up b0 c.gr)).ln ?_
  refine Lp1.by (fun (i : Nat) u h' => u = .int .i64 i ∧ i ≤ 2 ∧ Cx (fun _ => False) h h' [rV x1_ (cWd w), rV w3_ (cWs I f s.w)]) (fun i => 2 - i) 0 ⟨rfl, by decide, c⟩ ?_
  rintro i _ h6 ⟨rfl, hi, c⟩ again hagain
  refine En.vb bin_lss ?_
  refine brd (fun e31 => ?_) fun e31 => ?_
  · refine .here ?_
    obtain ⟨tk, htk⟩ : ∃ tk, ([tkR I 2 s.x (vRd 2 lx phx rsx nwx erx fox (heldBy s.x)) s2, tkR I 3 s.y (vRd 3 ly phy rsy nwy ery foy (heldBy s.y)) s3] : List Tk)[i]? = some tk := ⟨_, List.getElem?_eq_getElem (by have e31 : (i : Int) < 2 := e31; show i < 2; omega)⟩
    obtain ⟨t, left, ph, rests, now, era, found, held, dn, act, ss, rfl, on, sh⟩ := sf i tk htk
    refine (hut _ (B.up b0 c.gr)).whole (x := ⟨I.t_simulcasttop_epochReader, vRd t left ph rests now era found held, dn, act, ss⟩) rfl htk rfl ?_
    refine c.nv (cs := [_, _, _, _, _, _, _, _, _, _, _]) rfl rfl fun t6_ _ c => ?_
    replace c : Cx _ _ _ [_, _, _] := c
    refine c.vw 2 rfl (vs := cTk ⟨I.t_simulcasttop_epochReader, vRd t left ph rests now era found held, dn, act, ss⟩) rfl (cTk_ones _) rfl rfl fun _ c => ?_
    replace c : Cx _ _ _ [_, _, _] := c
    refine En.vb (c.vl (i := 2) rfl rfl) ?_
    refine cs.tCode (x := ⟨I.t_simulcasttop_epochReader, vRd t left ph rests now era found held, dn, act, ss⟩) fun _ g => ?_
    have c := c.more g
    replace c : Cx _ _ _ [_, _, _] := c
    refine En.vb (if_true_tas _ _ _) ?_
    refine En.vb rfl ?_
    refine En.vb rfl ?_
    refine c.nv (cs := [_, _, _, _, _, _, _, _, _, _, _]) rfl rfl fun r7_ _ c => ?_
    replace c : Cx _ _ _ [_, _, _, _] := c
    refine c.vw 3 rfl (vs := cRd t left ph rests now era found held) rfl (cRd_one on) rfl rfl fun _ c => ?_
    replace c : Cx _ _ _ [_, _, _, _] := c
    refine En.vb (v := .bool false) (rfl) ?_
    refine brf ?_
    refine En.vb (fa_add _ _ _) ?_
    refine En.vb (c.vc (i := 3) rfl rfl) ?_
    refine En.vb bin_eql ?_
    refine brd (fun e44 => ?_) fun e44 => ?_
    · refine En.vb (inc (by omega)) ?_
      exact hagain (i + 1) _ _ ⟨rfl, by have e31 : (i : Int) < 2 := e31; omega, c.pick [0, 1]⟩ (by have e31 : (i : Int) < 2 := e31; omega)
    · refine En.vb (fa_add _ _ _) ?_
      refine En.vb (c.vc (i := 3) rfl rfl) ?_
      obtain ⟨b, hb0, hb4, rfl, hbf⟩ := sh.resolve_left e44
      have hgb := hgen b
      have eh : val b (s.w.gen b) = s.w.gen b * 16 + b + 1 := rfl
      refine En.vb (subI (a := val b (s.w.gen b)) (b := 1) ⟨by omega, by omega⟩) ?_
      refine En.vb (remI (a := val b (s.w.gen b) - 1) (b := 16) (by omega) (by decide)) ?_
      rw [show (val b (s.w.gen b) - 1) % 16 = b by omega]
      refine En.vb (fa_add _ _ _) ?_
      refine En.vb (c.vc (i := 3) rfl rfl) ?_
      refine En.vb (subI (a := val b (s.w.gen b)) (b := 1) ⟨by omega, by omega⟩) ?_
      refine En.vb (quoI (a := val b (s.w.gen b) - 1) (b := 16) ⟨by omega, by omega⟩ (by decide)) ?_
      rw [show (val b (s.w.gen b) - 1) / 16 = s.w.gen b by omega]
      refine .here ?_
      refine En.vb (fa_add _ _ _) ?_
      refine En.vb (ixa_at (i := b.toNat) (by omega) (by omega) _) ?_
      have hcell : (cWs I f s.w)[0 + 8 + b.toNat]? = some (.int .i64 (s.w.gen b)) := by
        obtain rfl | rfl | rfl | rfl : b = 0 ∨ b = 1 ∨ b = 2 ∨ b = 3 := by omega
        all_goals rfl
      refine En.vb (c.vc (i := 1) rfl hcell) ?_
      refine En.vb (k_neF rfl) ?_
      refine brf ?_
      refine En.vb (fa_add _ _ _) ?_
      refine En.vb (c.vc (i := 1) rfl rfl) ?_
      refine cs.contains (d.free _ (B.up b0 c.gr)) (by omega) ?_
      rw [decide_eq_false hbf]
      refine brf ?_
      refine En.vb (inc (by omega)) ?_
      exact hagain (i + 1) _ _ ⟨rfl, by have e31 : (i : Int) < 2 := e31; omega, c.pick [0, 1]⟩ (by have e31 : (i : Int) < 2 := e31; omega)
  · exact hR _ c.gr
end
end Go.En
namespace Go.En
open Go.Ep

variable {S : Sys} {I : Ids} {h h0 h' : Hp} {F F0 : Fp} {R : Value → Hp → Prop} {L : List Res} {B B' : Bs}
/-! ### The example -/
def srt1 : List Int → List Int
  | [] => []
  | [x] => [x]
  | l => srt l
theorem srt_eq : srt = srt1 := by
  funext l
  match l with
  | [] => exact List.perm_nil.1 (srt_perm [])
  | [x] => exact List.perm_singleton.1 (srt_perm [x])
  | a :: b :: l => rfl
def nxA (f : List Int → List Int) (p : Ep.St × Nat) : Ep.St × Nat := (stepS f 1 p.1, p.2 + 1)
def dnA (p : Ep.St × Nat) : Bool := isFinW p.1.w.st
def endA (f : List Int → List Int) : Ep.St × Nat := runA dnA (nxA f) 100 (sOf [1, 0, 1] (0 % 6) (0 % 6), 0)
theorem endA1 : (decide ((endA srt1).2 = 14) && dnA (endA srt1) && decide ((endA srt1).1.m.rv = 19) && decide ((endA srt1).1.w.free.length = 3) && decide ((endA srt1).1.w.bag.length = 0)) = true := by kernel_rfl
theorem endA_ok : (endA srt).2 = 14 ∧ dnA (endA srt) = true ∧ (endA srt).1.m.rv = 19 ∧ (endA srt).1.w.free.length = 3 ∧ (endA srt).1.w.bag.length = 0 := by
  rw [srt_eq]
  have := endA1
  simp only [Bool.and_eq_true, decide_eq_true_eq] at this
  obtain ⟨⟨⟨⟨a, b⟩, c⟩, d⟩, e⟩ := this
  exact ⟨a, b, c, d, e⟩
structure CxA (S : Sys) (I : Ids) : Prop extends CwB S I where
  eSafe : ∀ {B : Bs} {k q : Nat} {w : WV} {s : Ep.St} {h R}, B.p h → XW I B k q w s → (∀ h', Gr h h' → R (.bool true) h') → S.C I.f_simulcasttop_epochSafe [vWd w] h R
  eWorld : ∀ {B : Bs} {ops : List Int} {uo : SH} {a b : Int} {h R}, B.p h → On B Zs → (On B fun h => Sl EU8 h (shV uo) ops) → (∀ o ∈ ops, 0 ≤ o) → ops.length ≤ 12 → (0 ≤ a ∧ a < 256) → (0 ≤ b ∧ b < 256) → (∀ w, Rt B h (fun B => XW I B 1 0 w (sOf ops (a % 6) (b % 6))) fun h' => R (.tuple #[vWd w, .bool true]) h') →
    S.C I.f_simulcasttop_epochWorld [shV uo, .agg #[.int .u8 a, .int .u8 b]] h R
  alone : ∀ {σ : Type} {done : σ → Bool} {next : σ → σ} {W : Bs → WV → σ → Prop} {B : Bs} {w : WV} {t : Nat} {h R}, (∀ {B B' : Bs}, B.le B' → ∀ {w s}, W B w s → W B' w s) → ∀ {k : Nat}, k ≤ 1000000 → 1 ≤ t →
    (∀ {B : Bs} {w s}, W B w s → ∃ T mc tks gss tk, WO B T w mc tks gss ∧ tks.length ≤ 8 ∧ tks[t - 1]? = some tk ∧ tk.dn = done s) →
    (∀ {B : Bs} {w s} h R, B.p h → W B w s → done s = false → (∀ w', Rt B h (fun B => W B w' (next s)) fun h' => R (.tuple #[vWd w', .bool true]) h') → S.C I.f_task_World_Step [vWd w, vPk 0 t 0] h R) →
    (∀ {B : Bs} {w s} h R, B.p h → W B w s → done s = true → (∀ h', Gr h h' → R (.tuple #[vWd w, .bool false]) h') → S.C I.f_task_World_Step [vWd w, vPk 0 t 0] h R) →
    ∀ {s : σ}, B.p h → W B w s → (∀ w', Rt B h (fun B => W B w' (runA done next k s)) fun h' => R (.tuple #[vWd w', .bool (done (runA done next k s))]) h') → S.C I.f_task_World_Alone [vWd w, .int .i64 t, .int .i64 k] h R
  bLen : ∀ {u : SH} {its : List Ep.It} {h} {R : Value → Hp → Prop}, Sl EIt h (shV u) its → (∀ h', Gr h h' → R (.int .i64 its.length) h') → S.C I.f_reclaim_Bag_Len [vBg u] h R
/-- a task that has ended takes no step -/
theorem X_no (cs : CwB S I) {k q : Nat} {w : WV} {s : Ep.St} {z ch : Int} (b0 : B.p h) (H : XW I B k q w s) (h1 : z = 1 → s.w.st = .fin) (h2 : z = 2 → s.x.st = .fin) (h3 : z = 3 → s.y.st = .fin) (hR : ∀ h', Gr h h' → R (.tuple #[vWd w, .bool false]) h') : S.C I.f_task_World_Step [vWd w, vPk 0 z ch] h R := by
  obtain ⟨_, _, mc, f, vx, vy, s1, s2, s3, g1, g2, g3, a, bb, _⟩ := H
  refine cs.StepNo b0 a bb (by decide) (by show 3 ≤ 8; decide) ?_ hR
  by_cases hz : 1 ≤ z ∧ z ≤ 3
  · refine .inl fun t ht e => ?_
    subst e
    obtain rfl | rfl | rfl : t = 1 ∨ t = 2 ∨ t = 3 := by omega
    · exact ⟨_, rfl, finW_iff.2 (h1 rfl)⟩
    · exact ⟨_, rfl, fin_iff.2 (h2 rfl)⟩
    · exact ⟨_, rfl, fin_iff.2 (h3 rfl)⟩
  · exact .inr hz
theorem K_eAwake (cs : CxA S I) (Z : Zs h) (hR : ∀ h', Gr h h' → R (.bool true) h') : F_simulcasttop_epochAwake S I h R := by
  obtain ⟨z1, z2, z3, z4, z5⟩ := endA_ok
  have hZ : On (Bs.of h) Zs := fun h' g => Z.gr g
  have o3 : ∀ o ∈ ([1, 0, 1] : List Int), (0 : Int) ≤ o := by decide
  unfold F_simulcasttop_epochAwake
  have c := Cx.start0 h
  refine c.bslN EU8 [1, 0, 1] [.int .u8 1, .int .u8 0, .int .u8 1] rfl rfl rfl (fun u hu => by simp only [List.mem_cons, List.not_mem_nil, or_false] at hu; rcases hu with rfl | rfl | rfl <;> rfl) rfl fun ad _ c => ?_
  obtain ⟨uo, huo⟩ : ∃ u : SH, shV u = .slice (some ad) 3 3 := ⟨(some ad, 3, 3), rfl⟩
  rw [← huo] at c ⊢
  replace c : Cx _ _ _ [_] := c
  refine En.vb (v := .agg #[.int .u8 0, .int .u8 0]) (by kernel_rfl) ?_
  refine cs.eWorld (B := (Bs.of h).and [rSl EU8 (shV uo) [1, 0, 1]]) (a := 0) (b := 0) ⟨c.gr, (Cx.pack (L := []) (c.pick [0])).get (i := 0) rfl⟩ (hZ.le (Bs.le_and _ _)) (On.sl (i := 0) rfl) o3 (by decide) (by decide) (by decide) fun w M _ d ok => ?_
  have c := c.frame0 d
  replace c : Cx _ _ _ [_, _] := c
  refine En.vb rfl ?_
  refine En.vb rfl ?_
  refine c.nv (cs := [_, _, _, _, _, _, _, _, _]) rfl rfl fun x1_ _ c => ?_
  replace c : Cx _ _ _ [_, _, _] := c
  refine c.vw 2 rfl (vs := [_, _, _, _, _, _, _, _, _]) (by exact rfl) (by exact rfl) (by exact rfl) (by exact rfl) fun _ c => ?_
  replace c : Cx _ _ _ [_, _, _] := c
  refine En.vb (c.vl (i := 2) rfl rfl) ?_
  refine cs.alone (σ := Ep.St × Nat) (done := dnA) (next := nxA srt) (W := fun B w p => XW I B (p.2 + 1) p.2 w p.1 ∧ p.2 + muW p.1.w ≤ 1000) (B := ((Bs.of h).and [rSl EU8 (shV uo) [1, 0, 1]]).and M) (t := 1) (k := 100) (s := (sOf [1, 0, 1] (0 % 6) (0 % 6), 0)) ?_ (by decide) (Nat.le_refl 1) ?_ ?_ ?_ ⟨⟨c.gr, (Cx.pack (L := []) (c.pick [0])).get (i := 0) rfl⟩, c.get (i := 1) rfl⟩ ⟨ok, ?_⟩ fun w' N _ d ok2 => ?_
  · intro B B' l w p hp
    exact ⟨hp.1.le l, hp.2⟩
  · intro B w p hp
    obtain ⟨_, _, mc, f, vx, vy, s1, s2, s3, g1, g2, g3, a, _⟩ := hp.1
    exact ⟨_, _, _, _, _, a, by show 3 ≤ 8; decide, rfl, rfl⟩
  · intro B w p h R b hp hd hR
    have hn : p.1.w.st ≠ .fin := fun e => by
      have := finW_iff.2 e
      unfold dnA at hd
      rw [this] at hd
      cases hd
    have h3 := muW_lt (srt := srt) (m := p.1.m) hp.1.pi.wo hp.1.pi.si.w hn
    refine X_step1 cs.toCvA b hp.1 (by have := hp.2; omega) hn fun w' M h' cx ok => hR w' M h' cx ⟨ok, ?_⟩
    show p.2 + 1 + muW (stepS srt 1 p.1).w ≤ 1000
    have e : (stepS srt 1 p.1).w = (stepW srt p.1.m p.1.w).2 := congrArg Ep.St.w (if_pos rfl)
    rw [e]
    have := hp.2
    omega
  · intro B w p h R b hp hd hR
    exact X_no cs.toCwB b hp.1 (fun _ => finW_iff.1 hd) (fun e => by cases e) (fun e => by cases e) hR
  · show 0 + muW (w0 [1, 0, 1]) ≤ 1000
    have := go_mu (wOf [1, 0, 1])
    have e : muW (w0 [1, 0, 1]) ≤ 16 * 3 + 8 := this
    omega
  have c := c.frame0 d
  have hdn : dnA (runA dnA (nxA srt) 100 (sOf [1, 0, 1] (0 % 6) (0 % 6), 0)) = true := z2
  rw [hdn]
  have ok2 : XW I ((((Bs.of h).and [rSl EU8 (shV uo) [1, 0, 1]]).and M).and N) ((endA srt).2 + 1) (endA srt).2 w' (endA srt).1 := ok2.1
  rw [z1] at ok2
  have bN := fun {h' : Hp} {r1 : Nat} {cs1 : List Value} {L : List Res} (c : Cx (fun _ => False) h h' (rSl EU8 (shV uo) [1, 0, 1] :: rStar M :: rV r1 cs1 :: rStar N :: L)) => (show ((((Bs.of h).and [rSl EU8 (shV uo) [1, 0, 1]]).and M).and N).p h' from ⟨⟨⟨c.gr, (Cx.pack (L := []) (c.pick [0])).get (i := 0) rfl⟩, c.get (i := 1) rfl⟩, c.get (i := 3) rfl⟩)
  obtain ⟨_, _, mc, f, vx, vy, s1, s2, s3, g1, g2, g3, a, bb, c0, d0, _, _, e3, e4, _⟩ := ok2
  replace c : Cx _ _ _ [_, _, _, _] := c
  refine En.vb rfl ?_
  refine En.vb rfl ?_
  refine c.vw 2 rfl (vs := [_, _, _, _, _, _, _, _, _]) (by exact rfl) (by exact rfl) (by exact rfl) (by exact rfl) fun _ c => ?_
  replace c : Cx _ _ _ [_, _, _, _] := c
  refine .here ?_
  refine En.vb (v := .bool false) (rfl) ?_
  refine brf ?_
  refine En.vb (v := .bool false) (rfl) ?_
  refine brf ?_
  refine En.vb (fa_add _ _ _) ?_
  refine En.vb (c.vc (i := 2) rfl rfl) ?_
  refine (a.ts _ (bN c)).whole (i := 0) rfl rfl rfl ?_
  refine cs.tSteps (x := tkW I f (endA srt).1.w s1) (gs := g1) (bN c) (a.gs 0 _ _ rfl rfl) fun _ g => ?_
  have c := c.more g
  replace c : Cx _ _ _ [_, _, _, _] := c
  refine En.vb (k_neF (by omega)) ?_
  refine brf ?_
  refine En.vb (fa_add _ _ _) ?_
  refine En.vb (c.vc (i := 2) rfl rfl) ?_
  refine (a.ts _ (bN c)).whole (i := 0) rfl rfl rfl ?_
  refine cs.tCode (x := tkW I f (endA srt).1.w s1) fun _ g => ?_
  have c := c.more g
  replace c : Cx _ _ _ [_, _, _, _] := c
  refine En.vb (if_true_tas _ _ _) ?_
  refine En.vb rfl ?_
  refine En.vb (v := .bool true) (rfl) ?_
  refine c.nv (cs := [_, _, _, _, _, _, _, _, _, _, _, _, _, _, _, _, _, _, _, _, _, _]) rfl rfl fun w4_ _ c => ?_
  replace c : Cx _ _ _ [_, _, _, _, _] := c
  refine c.vw 4 rfl (vs := cWs I f (endA srt).1.w) rfl (cWs_one _ _ _) rfl rfl fun _ c => ?_
  replace c : Cx _ _ _ [_, _, _, _, _] := c
  refine .here ?_
  refine En.vb (fa_add _ _ _) ?_
  refine En.vb (c.vp (i := 2) (ds := [_, _, _, _, _, _, _]) rfl rfl rfl) ?_
  refine En.vb (fa_add _ _ _) ?_
  refine En.vb (c.vp (i := 4) (ds := [_, _, _]) rfl rfl rfl) ?_
  refine And.intro ?_ ?_
  · refine cs.cell (i := 0) (by decide) _ _ (Z.gr c.gr) fun _ g => ?_
    have c := c.more g
    replace c : Cx _ _ _ [_, _, _, _, _] := c
    refine And.intro (c.vp (i := 2) (ds := [_, _, _, _, _, _, _]) rfl rfl rfl) ?_
    refine And.intro ?_ ?_
    · refine cs.kWord (v := w'.m) (i := 56) (bN c) a.ko bb (by decide) (by decide) fun _ g => ?_
      have c := c.more g
      rw [c0.root]
      replace c : Cx _ _ _ [_, _, _, _, _] := c
      refine En.vb rfl ?_
      refine En.vb rfl ?_
      refine c.nv (cs := [_, _, _]) rfl rfl fun v6_1_ _ c => ?_
      replace c : Cx _ _ _ [_, _, _, _, _, _] := c
      refine c.vw 5 rfl (vs := [_, _, _]) (by exact rfl) (by exact rfl) (by exact rfl) (by exact rfl) fun _ c => ?_
      replace c : Cx _ _ _ [_, _, _, _, _, _] := c
      refine .here ?_
      refine brt ?_
      refine En.vb (fa_add _ _ _) ?_
      refine En.vb (c.vc (i := 5) rfl rfl) ?_
      refine En.vb (k_eqT z3) ?_
      refine brt ?_
      refine En.vb (fa_add _ _ _) ?_
      refine En.vb (c.vc (i := 4) rfl rfl) ?_
      refine En.vb (d0.free _ (bN c)).ln ?_
      refine En.vb (k_eqT (by omega)) ?_
      refine brt ?_
      refine En.vb (fa_add _ _ _) ?_
      refine En.vb (c.vp (i := 4) (ds := [_]) rfl rfl rfl) ?_
      refine cs.bLen (d0.bag _ (bN c)) fun _ g => ?_
      have c := c.more g
      replace c : Cx _ _ _ [_, _, _, _, _, _] := c
      refine En.vb (k_eqT (by omega)) ?_
      exact hR _ c.gr
    · refine c.nv (cs := [_, _, _]) rfl rfl fun v6_2_ _ c => ?_
      replace c : Cx _ _ _ [_, _, _, _, _, _] := c
      refine And.intro (c.vp (i := 2) (ds := [_, _, _, _, _, _, _]) rfl rfl rfl) ?_
      refine cs.kWord (v := w'.m) (i := 56) (bN c) a.ko bb (by decide) (by decide) fun _ g => ?_
      have c := c.more g
      rw [c0.root]
      replace c : Cx _ _ _ [_, _, _, _, _, _] := c
      refine En.vb rfl ?_
      refine En.vb rfl ?_
      refine c.vw 5 rfl (vs := [_, _, _]) (by exact rfl) (by exact rfl) (by exact rfl) (by exact rfl) fun _ c => ?_
      replace c : Cx _ _ _ [_, _, _, _, _, _] := c
      refine .here ?_
      refine brt ?_
      refine En.vb (fa_add _ _ _) ?_
      refine En.vb (c.vc (i := 5) rfl rfl) ?_
      refine En.vb (k_eqT z3) ?_
      refine brt ?_
      refine En.vb (fa_add _ _ _) ?_
      refine En.vb (c.vc (i := 4) rfl rfl) ?_
      refine En.vb (d0.free _ (bN c)).ln ?_
      refine En.vb (k_eqT (by omega)) ?_
      refine brt ?_
      refine En.vb (fa_add _ _ _) ?_
      refine En.vb (c.vp (i := 4) (ds := [_]) rfl rfl rfl) ?_
      refine cs.bLen (d0.bag _ (bN c)) fun _ g => ?_
      have c := c.more g
      replace c : Cx _ _ _ [_, _, _, _, _, _] := c
      refine En.vb (k_eqT (by omega)) ?_
      exact hR _ c.gr
  · refine c.nv (cs := [_, _, _]) rfl rfl fun v6_3_ _ c => ?_
    replace c : Cx _ _ _ [_, _, _, _, _, _] := c
    refine And.intro (c.vp (i := 4) (ds := [_, _, _]) rfl rfl rfl) ?_
    refine And.intro (c.vp (i := 2) (ds := [_, _, _, _, _, _, _]) rfl rfl rfl) ?_
    refine cs.cell (i := 0) (by decide) _ _ (Z.gr c.gr) fun _ g => ?_
    have c := c.more g
    replace c : Cx _ _ _ [_, _, _, _, _, _] := c
    refine And.intro (c.vp (i := 2) (ds := [_, _, _, _, _, _, _]) rfl rfl rfl) ?_
    refine cs.kWord (v := w'.m) (i := 56) (bN c) a.ko bb (by decide) (by decide) fun _ g => ?_
    have c := c.more g
    rw [c0.root]
    replace c : Cx _ _ _ [_, _, _, _, _, _] := c
    refine En.vb rfl ?_
    refine En.vb rfl ?_
    refine c.vw 5 rfl (vs := [_, _, _]) (by exact rfl) (by exact rfl) (by exact rfl) (by exact rfl) fun _ c => ?_
    replace c : Cx _ _ _ [_, _, _, _, _, _] := c
    refine .here ?_
    refine brt ?_
    refine En.vb (fa_add _ _ _) ?_
    refine En.vb (c.vc (i := 5) rfl rfl) ?_
    refine En.vb (k_eqT z3) ?_
    refine brt ?_
    refine En.vb (fa_add _ _ _) ?_
    refine En.vb (c.vc (i := 4) rfl rfl) ?_
    refine En.vb (d0.free _ (bN c)).ln ?_
    refine En.vb (k_eqT (by omega)) ?_
    refine brt ?_
    refine En.vb (fa_add _ _ _) ?_
    refine En.vb (c.vp (i := 4) (ds := [_]) rfl rfl rfl) ?_
    refine cs.bLen (d0.bag _ (bN c)) fun _ g => ?_
    have c := c.more g
    replace c : Cx _ _ _ [_, _, _, _, _, _] := c
    refine En.vb (k_eqT (by omega)) ?_
    exact hR _ c.gr
end Go.En
namespace Go.En
open Go.Ep

variable {S : Sys} {I : Ids} {h h0 h' : Hp} {F F0 : Fp} {R : Value → Hp → Prop} {L : List Res} {B B' : Bs}
abbrev Pk : Type := Int × Int × Int
def EPk : Enc Pk := { n := 3, c := fun x => [.int .i64 x.1, .int .i64 x.2.1, .int .i64 x.2.2], len := fun _ => rfl, one := fun a v h => by simp only [List.mem_cons, List.not_mem_nil, or_false] at h; rcases h with rfl | rfl | rfl <;> rfl }
/-- how far thread t is from its end -/
def muT (t : Nat) (s : Ep.St) : Nat := if t = 1 then muW s.w else if t = 2 then muR s.m s.x else muR s.m s.y
def finT (t : Nat) (s : Ep.St) : Bool := if t = 1 then isFinW s.w.st else if t = 2 then isFin s.x.st else isFin s.y.st
section
variable {k q t : Nat} {w : WV} {s : Ep.St} {z ch : Int}
theorem XW.up (H : XW I B k q w s) {k' : Nat} (hk : k ≤ k') : XW I B k' q w s := by
  obtain ⟨a, b, mc, f, vx, vy, s1, s2, s3, g1, g2, g3, c, d, e, i, j, l, m, n, o, p⟩ := H
  exact ⟨a, b, mc, f, vx, vy, s1, s2, s3, g1, g2, g3, c, d.up hk, e, i, j, l, m, by omega, by omega, by omega⟩
/-- a thread that has not ended takes a step -/
theorem X_step (cs : CxA S I) (b0 : B.p h) (H : XW I B k q w s) (hk : k ≤ 900000) (ht : 1 ≤ t ∧ t ≤ 3) (hn : finT t s = false) (hR : ∀ w', Rt B h (fun B => ∃ q' s', XW I B (k + 1) q' w' s' ∧ muT t s' < muT t s) fun h' => R (.tuple #[vWd w', .bool true]) h') : S.C I.f_task_World_Step [vWd w, vPk 0 t ch] h R := by
  have pi := H.pi
  obtain rfl | rfl | rfl : t = 1 ∨ t = 2 ∨ t = 3 := by omega
  · have hn1 : s.w.st ≠ .fin := fun e => by
      have e2 : finT 1 s = isFinW s.w.st := rfl
      rw [e2, finW_iff.2 e] at hn
      cases hn
    refine X_step1 cs.toCvA b0 H hk hn1 fun w' M h' cx ok => hR w' M h' cx ⟨_, _, ok, ?_⟩
    have e : (stepS srt 1 s).w = (stepW srt s.m s.w).2 := congrArg Ep.St.w (if_pos rfl)
    show muW (stepS srt 1 s).w < muW s.w
    rw [e]
    exact muW_lt pi.wo pi.si.w hn1
  · have hn1 : s.x.st ≠ .fin := fun e => by
      have e2 : finT 2 s = isFin s.x.st := rfl
      rw [e2, fin_iff.2 e] at hn
      cases hn
    refine X_step2 cs.toCvA b0 H hk hn1 fun w' M h' cx ok => hR w' M h' cx ⟨_, _, ok, ?_⟩
    have e : stepS srt 2 s = { s with m := (stepR 2 s.m s.x).1, x := (stepR 2 s.m s.x).2 } := by
      unfold stepS
      rw [if_neg (by decide), if_pos rfl]
    rw [e]
    exact muR_lt pi.si.x hn1
  · have hn1 : s.y.st ≠ .fin := fun e => by
      have e2 : finT 3 s = isFin s.y.st := rfl
      rw [e2, fin_iff.2 e] at hn
      cases hn
    refine X_step3 cs.toCvA b0 H hk hn1 fun w' M h' cx ok => hR w' M h' cx ⟨_, _, ok, ?_⟩
    have e : stepS srt 3 s = { s with m := (stepR 3 s.m s.y).1, y := (stepR 3 s.m s.y).2 } := by
      unfold stepS
      rw [if_neg (by decide), if_neg (by decide)]
    rw [e]
    exact muR_lt pi.si.y hn1
/-- any pick of a step -/
theorem X_any (cs : CxA S I) (b0 : B.p h) (H : XW I B k q w s) (hk : k ≤ 900000) (hR : ∀ w' d, Rt B h (fun B => ∃ q' s', XW I B (k + 1) q' w' s') fun h' => R (.tuple #[vWd w', .bool d]) h') : S.C I.f_task_World_Step [vWd w, vPk 0 z ch] h R := by
  by_cases hz : ∃ t : Nat, z = t ∧ (1 ≤ t ∧ t ≤ 3) ∧ finT t s = false
  · obtain ⟨t, rfl, ht, hn⟩ := hz
    exact X_step cs b0 H hk ht hn fun w' M h' cx ⟨q', s', x, _⟩ => hR w' true M h' cx ⟨q', s', x⟩
  · have key : ∀ t : Nat, z = t → (1 ≤ t ∧ t ≤ 3) → finT t s = true := fun t e ht => by
      cases hf : finT t s with
      | true => rfl
      | false => exact absurd ⟨t, e, ht, hf⟩ hz
    refine X_no cs.toCwB b0 H (fun e => finW_iff.1 (key 1 e (by decide))) (fun e => fin_iff.1 (key 2 e (by decide))) (fun e => fin_iff.1 (key 3 e (by decide))) fun h' g => ?_
    exact (hR w false).nil ⟨q, s, (H.le (Bs.le_and _ _)).up (Nat.le_succ _)⟩ g
theorem XW.mu (H : XW I B k q w s) (ht : 1 ≤ t ∧ t ≤ 3) : muT t s ≤ 1700 := by
  have pi := H.pi
  obtain ⟨_, _, _, _, _, _, _, _, _, _, _, _, _, _, _, _, e1, e2, _⟩ := H
  have hm : ∀ r : Rd, r.left ≤ 100 → (∀ f, r.st = f → True) → (∀ e v k, r.st = .f e v k → k ≤ 2) → muR s.m r ≤ 1700 := fun r hr _ hk => by
    obtain ⟨st, left⟩ := r
    dsimp only at hr hk
    have h1 : left.toNat ≤ 100 := by omega
    unfold muR
    cases st with
    | a => dsimp only; omega
    | b f => dsimp only; split <;> omega
    | c f => dsimp only; split <;> omega
    | d e => dsimp only; split <;> omega
    | e e v => dsimp only; split <;> omega
    | f e v k => have := hk e v k rfl; dsimp only; omega
    | g => dsimp only; omega
    | fin => dsimp only; omega
  have hk : ∀ (t : Nat) (r : Rd) (v : Value), RV I t r v → ∀ e x k, r.st = .f e x k → k ≤ 2 := fun t r v hv e x k hst => by
    obtain ⟨_, hv⟩ := hv
    rw [hst] at hv
    exact hv.2
  obtain rfl | rfl | rfl : t = 1 ∨ t = 2 ∨ t = 3 := by omega
  · have := pi.cn.era
    have := pi.si.w.era
    show muW s.w ≤ 1700
    omega
  · exact hm s.x e1.1.2 (fun _ _ => trivial) (hk _ _ _ e1)
  · exact hm s.y e2.1.2 (fun _ _ => trivial) (hk _ _ _ e2)
theorem XW.task (H : XW I B k q w s) (ht : 1 ≤ t ∧ t ≤ 3) : ∃ tks tk, (On B fun h => Sl ETk h (shV w.ts) tks) ∧ tks[t - 1]? = some tk ∧ tk.dn = finT t s := by
  obtain ⟨_, _, mc, f, vx, vy, s1, s2, s3, g1, g2, g3, a, _⟩ := H
  obtain rfl | rfl | rfl : t = 1 ∨ t = 2 ∨ t = 3 := by omega
  · exact ⟨_, _, a.ts, rfl, rfl⟩
  · exact ⟨_, _, a.ts, rfl, rfl⟩
  · exact ⟨_, _, a.ts, rfl, rfl⟩
end
structure CyA (S : Sys) (I : Ids) : Prop extends CxA S I where
  eAwake : ∀ {h} {R : Value → Hp → Prop}, Zs h → (∀ h', Gr h h' → R (.bool true) h') → S.C I.f_simulcasttop_epochAwake [] h R
def tN : Nat → Nat
  | 0 => 2
  | 1 => 3
  | _ => 1
set_option maxHeartbeats 1600000 in
theorem L_TopEpochs (cs : CyA S I) (Z : Zs h) {ops : List Int} {pks : List Pk} {uo : SH} {vp : Value} {a b : Int} (ho : Sl EU8 h (shV uo) ops) (hp : Sl EPk h vp pks) (hn : ∀ o ∈ ops, 0 ≤ o) (ha : 0 ≤ a ∧ a < 256) (hb : 0 ≤ b ∧ b < 256) (hR : ∀ h', Gr h h' → R (.bool true) h') : F_simulcasttop_TopEpochs S I (shV uo) (.agg #[.int .u8 a, .int .u8 b]) vp h R := by
  have hZ : On (Bs.of h) Zs := fun h' g => Z.gr g
  have hO : On (Bs.of h) fun h => Sl EU8 h (shV uo) ops := fun h' g => ho.gr g
  obtain ⟨B, hB⟩ : ∃ B : Bs, B = Bs.of h := ⟨_, rfl⟩
  have b0 : B.p h := by rw [hB]; exact Ch.refl _ _
  rw [← hB] at hZ hO
  clear hB
  have bM := fun {h' : Hp} {r1 : Nat} {cs1 : List Value} {r2 : Nat} {cs2 : List Value} {M L : List Res} (c : Cx (fun _ => False) h h' (rV r1 cs1 :: rV r2 cs2 :: rStar M :: L)) => (show (B.and M).p h' from ⟨B.up b0 c.gr, c.get (i := 2) rfl⟩)
  by_cases hb12 : (12 : Int) < ops.length
  · unfold F_simulcasttop_TopEpochs
    have c := Cx.start0 h
    refine c.nv (cs := [_, _]) rfl rfl fun reads4_ _ c => ?_
    replace c : Cx _ _ _ [_] := c
    refine cs.eAwake (Z.gr c.gr) fun _ g => ?_
    have c := c.more g
    replace c : Cx _ _ _ [_] := c
    refine En.vb (v := .bool false) (rfl) ?_
    refine brf ?_
    refine .here ?_
    refine En.vb (ho.gr c.gr).ln ?_
    refine En.vb (k_gtT hb12) ?_
    refine brt ?_
    refine brt ?_
    exact hR _ c.gr
  by_cases hb250 : (250 : Int) < pks.length
  · unfold F_simulcasttop_TopEpochs
    have c := Cx.start0 h
    refine c.nv (cs := [_, _]) rfl rfl fun reads4_ _ c => ?_
    replace c : Cx _ _ _ [_] := c
    refine cs.eAwake (Z.gr c.gr) fun _ g => ?_
    have c := c.more g
    replace c : Cx _ _ _ [_] := c
    refine En.vb (v := .bool false) (rfl) ?_
    refine brf ?_
    refine .here ?_
    refine En.vb (ho.gr c.gr).ln ?_
    refine En.vb (k_gtF hb12) ?_
    refine brf ?_
    refine En.vb (hp.gr c.gr).ln ?_
    refine En.vb (k_gtT hb250) ?_
    refine brt ?_
    exact hR _ c.gr
  unfold F_simulcasttop_TopEpochs
  have c := Cx.start0 h
  refine c.nv (cs := [_, _]) rfl rfl fun reads4_ _ c => ?_
  replace c : Cx _ _ _ [_] := c
  refine cs.eAwake (Z.gr c.gr) fun _ g => ?_
  have c := c.more g
  replace c : Cx _ _ _ [_] := c
  refine En.vb (v := .bool false) (rfl) ?_
  refine brf ?_
  refine .here ?_
  refine En.vb (ho.gr c.gr).ln ?_
  refine En.vb (k_gtF hb12) ?_
  refine brf ?_
  refine En.vb (hp.gr c.gr).ln ?_
  refine En.vb (k_gtF hb250) ?_
  refine brf ?_
  refine En.vb (c.vl (i := 0) rfl rfl) ?_
  refine cs.eWorld (B.up b0 c.gr) hZ hO hn (by omega) ha hb fun w M _ d ok => ?_
  have c := c.frame0 d
  replace c : Cx _ _ _ [_, _] := c
  refine En.vb rfl ?_
  refine En.vb rfl ?_
  refine c.nv (cs := [_, _, _, _, _, _, _, _, _]) rfl rfl fun x7_ _ c => ?_
  replace c : Cx _ _ _ [_, _, _] := c
  refine c.vw 2 rfl (vs := [_, _, _, _, _, _, _, _, _]) (by exact rfl) (by exact rfl) (by exact rfl) (by exact rfl) fun _ c => ?_
  replace c : Cx _ _ _ [_, _, _] := c
  refine En.vb (v := .bool false) (rfl) ?_
  refine brf ?_
  refine En.vb (hp.gr c.gr).ln ?_
  have c := c.pick [0, 2, 1]
  refine Lp1.by (fun (i : Nat) u h' => u = .int .i64 i ∧ i ≤ pks.length ∧ ∃ w M q s, Cx (fun _ => False) h h' [rV reads4_ [.int .u8 a, .int .u8 b], rV x7_ (cWd w), rStar M] ∧ XW I (B.and M) (i + 1) q w s) (fun i => pks.length - i) 0 ⟨rfl, Nat.zero_le _, w, M, _, _, c, ok⟩ ?_
  clear ok c
  rintro i _ h7 ⟨rfl, hi, w, M, q, s, c, ok⟩ again hagain
  replace c : Cx _ _ _ [_, _, _] := c
  refine En.vb bin_lss ?_
  refine brd (fun e39 => ?_) fun e39 => ?_
  · refine .here ?_
    have hpk := List.getElem?_eq_getElem (l := pks) (i := i) (by omega)
    generalize pks[i]'(by omega) = pk at hpk
    obtain ⟨pk1, pk2, pk3⟩ := pk
    refine (hp.gr c.gr).whole rfl hpk rfl ?_
    refine c.nv (cs := [_, _, _]) rfl rfl fun p10_ _ c => ?_
    replace c : Cx _ _ _ [_, _, _, _] := c
    refine c.vw 3 rfl (vs := [_, _, _]) (by exact rfl) (by exact rfl) (by exact rfl) (by exact rfl) fun _ c => ?_
    replace c : Cx _ _ _ [_, _, _, _] := c
    refine En.vb (fa_add _ _ _) ?_
    refine En.vb (c.vc (i := 3) rfl rfl) ?_
    refine En.vb bin_neq ?_
    refine brd (fun e44 => ?_) fun e44 => ?_
    · refine En.vb (inc (by omega)) ?_
      exact hagain (i + 1) _ _ ⟨rfl, by omega, w, M, q, s, c.pick [0, 1, 2], ok.up (Nat.le_succ _)⟩ (by omega)
    · refine En.vb (c.vl (i := 1) rfl rfl) ?_
      refine En.vb (c.vl (i := 3) rfl rfl) ?_
      obtain rfl : pk1 = 0 := Classical.byContradiction e44
      refine X_any cs.toCxA (z := pk2) (ch := pk3) (bM c) ok (by omega) fun w' dd N _ d ok2 => ?_
      have c := c.frame0 d
      replace c : Cx _ _ _ [_, _, _, _, _] := c
      refine En.vb rfl ?_
      refine En.vb rfl ?_
      refine c.vw 1 rfl (vs := [_, _, _, _, _, _, _, _, _]) (by exact rfl) (by exact rfl) (by exact rfl) (by exact rfl) fun _ c => ?_
      replace c : Cx _ _ _ [_, _, _, _, _] := c
      refine En.vb (c.vl (i := 1) rfl rfl) ?_
      obtain ⟨q', s', ok2⟩ := ok2
      refine cs.eSafe (B := (B.and M).and N) ⟨bM c, c.get (i := 4) rfl⟩ ok2 fun _ g => ?_
      have c := c.more g
      replace c : Cx _ _ _ [_, _, _, _, _] := c
      refine En.vb (v := .bool false) (rfl) ?_
      refine brf ?_
      refine En.vb (inc (by omega)) ?_
      exact hagain (i + 1) _ _ ⟨rfl, by omega, w', [rStar M, rStar N], q', s', Cx.pack (L := [_, _]) (c.pick [0, 1, 2, 4]), ok2.le Bs.le2⟩ (by omega)
  · refine c.bslN EI1 [2, 3, 1] [.int .i64 2, .int .i64 3, .int .i64 1] rfl rfl rfl (fun u hu => by simp only [List.mem_cons, List.not_mem_nil, or_false] at hu; rcases hu with rfl | rfl | rfl <;> rfl) rfl fun ad _ c => ?_
    obtain ⟨uth, huth⟩ : ∃ u : SH, shV u = .slice (some ad) 3 3 := ⟨(some ad, 3, 3), rfl⟩
    rw [← huth] at c ⊢
    replace c : Cx _ _ _ [_, _, _, _] := c
    refine En.vb (c.sl (i := 3) rfl).sl.ln ?_
    refine Lp1.by (fun (j : Nat) u h' => u = .int .i64 j ∧ j ≤ 3 ∧ ∃ w M q s, Cx (fun _ => False) h h' [rV reads4_ [.int .u8 a, .int .u8 b], rV x7_ (cWd w), rStar M, rSl EI1 (shV uth) [2, 3, 1]] ∧ XW I (B.and M) (251 + 2000 * j) q w s ∧ (j = 3 → s.w.st = .fin)) (fun j => 3 - j) 0 ⟨rfl, by decide, w, M, q, s, c, ok.up (by omega), fun e => by cases e⟩ ?_
    clear ok c
    rintro j _ h15 ⟨rfl, hj, w, M, q, s, c, ok, hfin⟩ again hagain
    refine En.vb bin_lss ?_
    refine brd (fun e58 => ?_) fun e58 => ?_
    · have e58 : (j : Int) < 3 := e58
      have hth : ([2, 3, 1] : List Int)[j]? = some ((tN j : Nat) : Int) := by
        obtain rfl | rfl | rfl : j = 0 ∨ j = 1 ∨ j = 2 := by omega
        all_goals rfl
      have htn : 1 ≤ tN j ∧ tN j ≤ 3 := by
        obtain rfl | rfl | rfl : j = 0 ∨ j = 1 ∨ j = 2 := by omega
        all_goals decide
      refine (c.sl (i := 3) rfl).sl.one rfl hth rfl (u := .int .i64 ((tN j : Nat) : Int)) rfl ?_
      refine Lp1.by (fun (n : Nat) u h' => u = .int .i64 n ∧ ∃ w M q s, Cx (fun _ => False) h h' [rV reads4_ [.int .u8 a, .int .u8 b], rV x7_ (cWd w), rStar M, rSl EI1 (shV uth) [2, 3, 1]] ∧ XW I (B.and M) (251 + 2000 * j + n) q w s ∧ n + muT (tN j) s ≤ 1700) (fun n => 2000 - n) 0 ⟨rfl, w, M, q, s, c, ok, by have := ok.mu htn; omega⟩ ?_
      clear ok c hfin
      rintro n _ h16 ⟨rfl, w, M, q, s, c, ok, hmu⟩ again3 hagain3
      obtain ⟨tks, tk, hts, htk, hdn⟩ := ok.task htn
      have et : ((tN j : Nat) : Int) - 1 = ((tN j - 1 : Nat) : Int) := by omega
      refine En.vb (fa_add _ _ _) ?_
      refine En.vb (c.vc (i := 1) rfl rfl) ?_
      refine En.vb (subI ⟨by omega, by omega⟩) ?_
      rw [et]
      refine (hts _ (bM c)).whole rfl htk rfl ?_
      refine cs.tDone (x := tk) fun _ g => ?_
      rw [hdn]
      have c := c.more g
      replace c : Cx _ _ _ [_, _, _, _] := c
      refine En.vb (v := .bool !(finT (tN j) s)) rfl ?_
      refine En.br (fun e68 => ?_) fun e68 => ?_
      · refine En.vb (c.vl (i := 1) rfl rfl) ?_
        refine En.vb (bldS_ok (ds := [_, _, _]) rfl) ?_
        refine X_step cs.toCxA (t := tN j) (ch := 0) (bM c) ok (by omega) htn (by simpa using e68) fun w' N _ d ok2 => ?_
        have c := c.frame0 d
        replace c : Cx _ _ _ [_, _, _, _, _] := c
        refine En.vb rfl ?_
        refine En.vb rfl ?_
        refine c.vw 1 rfl (vs := [_, _, _, _, _, _, _, _, _]) (by exact rfl) (by exact rfl) (by exact rfl) (by exact rfl) fun _ c => ?_
        replace c : Cx _ _ _ [_, _, _, _, _] := c
        refine .here ?_
        refine En.vb (k_gtF (by omega)) ?_
        refine brf ?_
        refine En.vb (c.vl (i := 1) rfl rfl) ?_
        obtain ⟨q', s', ok2, hlt⟩ := ok2
        refine cs.eSafe (B := (B.and M).and N) ⟨bM c, c.get (i := 4) rfl⟩ ok2 fun _ g => ?_
        have c := c.more g
        replace c : Cx _ _ _ [_, _, _, _, _] := c
        refine En.vb rfl ?_
        refine brf ?_
        refine En.vb (inc (by omega)) ?_
        exact hagain3 (n + 1) _ _ ⟨rfl, w', [rStar M, rStar N], q', s', (Cx.pack (L := [_, _, _]) (c.pick [0, 1, 3, 2, 4])).pick [0, 1, 3, 2], ok2.le Bs.le2, by omega⟩ (by omega)
      · refine En.vb (inc (by omega)) ?_
        refine hagain (j + 1) _ _ ⟨rfl, by omega, w, M, q, s, c.pick [0, 1, 2, 3], ok.up (by omega), fun e => ?_⟩ (by omega)
        obtain rfl : j = 2 := by omega
        have e68 : finT (tN 2) s = true := by simpa using e68
        exact finW_iff.1 e68
    · refine En.vb (fa_add _ _ _) ?_
      refine En.vb (c.vc (i := 1) rfl rfl) ?_
      obtain ⟨_, pi, mc, f, vx, vy, s1, s2, s3, g1, g2, g3, aw, bb, _, d0, _⟩ := ok
      have hj3 : j = 3 := by have e58 : ¬ (j : Int) < 3 := e58; omega
      have hlast := pi.si.w.last (hfin hj3)
      have hwy : s.w.bag.filter (Go.Ep.way [0, 0, 0]) = [] := List.filter_eq_nil_iff.2 fun x _ => by rw [way0]; simp
      refine (aw.ts _ (bM c)).whole (i := 0) rfl rfl rfl ?_
      refine cs.tCode (x := tkW I f s.w s1) fun _ g => ?_
      have c := c.more g
      replace c : Cx _ _ _ [_, _, _, _] := c
      refine En.vb (if_true_tas _ _ _) ?_
      refine En.vb rfl ?_
      refine En.vb rfl ?_
      refine c.nv (cs := [_, _, _, _, _, _, _, _, _, _, _, _, _, _, _, _, _, _, _, _, _, _]) rfl rfl fun w14_ _ c => ?_
      replace c : Cx _ _ _ [_, _, _, _, _] := c
      refine c.vw 4 rfl (vs := cWs I f s.w) rfl (cWs_one _ _ _) rfl rfl fun _ c => ?_
      replace c : Cx _ _ _ [_, _, _, _, _] := c
      refine En.vb (fa_add _ _ _) ?_
      refine En.vb (c.vp (i := 4) (ds := [_]) rfl rfl rfl) ?_
      refine c.bslN EI1 [0, 0, 0] [.int .i64 0, .int .i64 0, .int .i64 0] rfl rfl rfl (fun u hu => by simp only [List.mem_cons, List.not_mem_nil, or_false] at hu; rcases hu with rfl | rfl | rfl <;> rfl) rfl fun ad2 _ c => ?_
      obtain ⟨uz, huz⟩ : ∃ u : SH, shV u = .slice (some ad2) 3 3 := ⟨(some ad2, 3, 3), rfl⟩
      rw [← huz] at c ⊢
      replace c : Cx _ _ _ [_, _, _, _, _, _] := c
      refine cs.sweep (its := s.w.bag) (seen := [0, 0, 0]) (d0.bag _ (bM c)) (c.sl (i := 5) rfl).sl (by omega) (by decide) fun u' g' _ d => ?_
      rw [hwy] at d
      have c := c.frame0 d
      replace c : Cx _ _ _ [_, _, _, _, _, _, _, _] := c
      refine En.vb rfl ?_
      refine En.vb rfl ?_
      refine c.nv (cs := [_]) rfl rfl fun left16_ _ c => ?_
      replace c : Cx _ _ _ [_, _, _, _, _, _, _, _, _] := c
      refine c.vw 8 rfl (vs := [_]) (by exact rfl) (by exact rfl) (by exact rfl) (by exact rfl) fun _ c => ?_
      replace c : Cx _ _ _ [_, _, _, _, _, _, _, _, _] := c
      refine .here ?_
      refine En.vb (c.vl (i := 8) rfl rfl) ?_
      refine cs.bLen (its := []) (c.sl (i := 6) rfl).sl fun _ g => ?_
      have c := c.more g
      replace c : Cx _ _ _ [_, _, _, _, _, _, _, _, _] := c
      refine En.vb (v := .bool true) rfl ?_
      refine brt ?_
      refine En.vb (fa_add _ _ _) ?_
      refine En.vb (c.vp (i := 4) (ds := [_]) rfl rfl rfl) ?_
      refine En.vb (fa_add _ _ _) ?_
      refine En.vb (c.vc (i := 4) rfl rfl) ?_
      refine En.vb (d0.free _ (bM c)).ln ?_
      refine cs.bLen (d0.bag _ (bM c)) fun _ g => ?_
      have c := c.more g
      replace c : Cx _ _ _ [_, _, _, _, _, _, _, _, _] := c
      refine And.intro (c.vc (i := 4) rfl rfl) ?_
      refine En.vb (addI ⟨by omega, by omega⟩) ?_
      refine En.vb (k_eqT (by omega)) ?_
      exact hR _ c.gr
end Go.En
