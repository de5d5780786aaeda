/-
  The world of a writer and two readers, and its steps. (Steps printed by wip/tools/walk.py from EqQ.src.)
  The world's beginning; what is checked. (Steps printed by wip/tools/walk.py from EqR.src.)
-/
import Derived.Test.YtcepckpfhbcobaaGreatDoorXK
namespace Go.En
open Go.Ep

variable {S : Sys} {I : Ids} {h h0 h' : Hp} {F F0 : Fp} {R : Value → Hp → Prop} {L : List Res} {B B' : Bs}
/-! ### Words -/
section
variable {T n b t i j : Nat} {m : Mc} {w : W3}
theorem top_fnd (m : Me) (t i q : Nat) (x : AM) (jn : Bool) (j : Nat) : (m.fnd t i q x jn).top j = m.top j := rfl
theorem top_add (m : Me) (hi : i < m.hs.length) (t : Nat) (w : W3) (wl : Bool) (j : Nat) : ((m.add t i w wl).top j).w = if j = i then w else (m.top j).w := by
  unfold Me.top Me.at Me.add
  dsimp only
  rw [List.getD_eq_getElem?_getD, List.getElem?_set]
  by_cases e : i = j
  · subst e
    rw [if_pos rfl, if_pos hi, if_pos rfl, Option.getD_some, List.getLast?_append]
    rfl
  · rw [if_neg e, if_neg fun h => e h.symm, List.getD_eq_getElem?_getD]
theorem top_look (m : Mc) (t i j : Nat) : (m.look t i).me.top j = m.me.top j := rfl
theorem top_put (k : Kk T n b m) (hi : i < n) (t : Nat) (w : W3) (wl : Bool) (j : Nat) : ((m.put t i w wl).me.top j).w = if j = i then w else (m.me.top j).w :=
  top_add m.me (by rw [k.me.hs]; exact hi) t w wl j
theorem top_swap (k : Kk T n b m) (hi : i < n) (t : Nat) (old new : W3) (j : Nat) (e : (m.me.top i).w = old) : ((m.swap t i old new).me.top j).w = if j = i then new else (m.me.top j).w := by
  unfold Mc.swap Me.swp
  rw [if_pos e]
  dsimp only
  rw [top_add]
  · rw [top_fnd]
  · show i < m.me.hs.length
    rw [k.me.hs]; exact hi
end
/-- the words that matter, in a memory -/
structure WMm (me : Me) (m : Wm) : Prop where
  era : (me.top 1).w = ⟨m.era, 0, 0⟩
  ann : ∀ t, 1 ≤ t → t ≤ 3 → (me.top (8 * t)).w.v = m.ann t
  root : (me.top 56).w = ⟨m.rv, m.rver, 0⟩
/-! ### What stands all along -/
structure Cn (s : Ep.St) : Prop where
  era : s.m.era + muW s.w ≤ 1000
  ver : 0 ≤ s.w.rver ∧ s.w.rver + muW s.w ≤ 1000
  gen : ∀ b, 0 ≤ s.w.gen b ∧ s.w.gen b + muW s.w ≤ 1000
structure PI (s : Ep.St) : Prop where
  si : SI s
  wo : Go.Ep.WO s.w
  cn : Cn s
theorem PI.sm {s : Ep.St} (P : PI s) : Sm s.m s.w := ⟨by have := P.cn.era; omega, by have := P.cn.ver; omega, fun b => by have := P.cn.gen b; omega⟩
theorem go_same (w : Wr) : w.go.rver = w.rver ∧ w.go.gen = w.gen := by
  obtain ⟨s, e, _⟩ := go_eq w
  rw [e]; exact ⟨rfl, rfl⟩
theorem stepW_num {m : Wm} {w : Wr} (W : WI m w) : (stepW srt m w).1.era ≤ m.era + 1 ∧ (w.rver ≤ (stepW srt m w).2.rver ∧ (stepW srt m w).2.rver ≤ w.rver + 1) ∧ ∀ b, w.gen b ≤ (stepW srt m w).2.gen b ∧ (stepW srt m w).2.gen b ≤ w.gen b + 1 := by
  obtain ⟨st, ops, bag, free, gen, birth, rv, rver, cur⟩ := w
  cases st with
  | adv1 => exact ⟨by show m.era ≤ _; omega, ⟨Int.le_refl _, by show rver ≤ rver + 1; omega⟩, fun b => ⟨Int.le_refl _, by show gen b ≤ gen b + 1; omega⟩⟩
  | adv2 f =>
    have := W.adv f rfl
    have e := go_same (⟨.adv2 f, ops.tail, bag, free, gen, birth, rv, rver, cur⟩ : Wr)
    refine ⟨by show f ≤ _; omega, ?_, fun b => ?_⟩
    · show rver ≤ (Wr.go _).rver ∧ (Wr.go _).rver ≤ rver + 1
      rw [e.1]; dsimp only; omega
    · show gen b ≤ (Wr.go _).gen b ∧ (Wr.go _).gen b ≤ gen b + 1
      rw [e.2]; dsimp only; omega
  | w1 =>
    cases free with
    | nil => exact ⟨by show m.era ≤ _; omega, ⟨Int.le_refl _, by show rver ≤ rver + 1; omega⟩, fun b => ⟨Int.le_refl _, by show gen b ≤ gen b + 1; omega⟩⟩
    | cons z fr =>
      refine ⟨by show m.era ≤ _; omega, ⟨by show rver ≤ rver + 1; omega, Int.le_refl _⟩, fun b => ?_⟩
      show gen b ≤ setI gen z (gen z + 1) b ∧ setI gen z (gen z + 1) b ≤ gen b + 1
      unfold setI
      split
      · rename_i e; subst e; omega
      · omega
  | w2 b => exact ⟨by show m.era ≤ _; omega, ⟨Int.le_refl _, by show rver ≤ rver + 1; omega⟩, fun b => ⟨Int.le_refl _, by show gen b ≤ gen b + 1; omega⟩⟩
  | w3 o => exact ⟨by show m.era ≤ _; omega, ⟨Int.le_refl _, by show rver ≤ rver + 1; omega⟩, fun b => ⟨Int.le_refl _, by show gen b ≤ gen b + 1; omega⟩⟩
  | w4 s =>
    unfold stepW
    dsimp only
    split
    · exact ⟨by show m.era ≤ _; omega, ⟨Int.le_refl _, by show rver ≤ rver + 1; omega⟩, fun b => ⟨Int.le_refl _, by show gen b ≤ gen b + 1; omega⟩⟩
    · have e := go_same (Wr.sweep srt ⟨.w4 s, ops, bag, free, gen, birth, rv, rver, cur⟩ (s ++ [m.ann (s.length + 1)]))
      refine ⟨by show m.era ≤ _; omega, ?_, fun b => ?_⟩
      · rw [e.1]; show rver ≤ rver ∧ rver ≤ rver + 1; omega
      · rw [e.2]; show gen b ≤ gen b ∧ gen b ≤ gen b + 1; omega
  | fin => exact ⟨by show m.era ≤ _; omega, ⟨Int.le_refl _, by show rver ≤ rver + 1; omega⟩, fun b => ⟨Int.le_refl _, by show gen b ≤ gen b + 1; omega⟩⟩
theorem PI.step1 {s : Ep.St} (P : PI s) (hn : s.w.st ≠ .fin) : PI (stepS srt 1 s) := by
  have h1 := stepS_I srt_perm P.si 1
  have h2 := stepW_WO (srt := srt) (m := s.m) P.wo P.si.w
  have h3 := muW_lt (srt := srt) (m := s.m) P.wo P.si.w hn
  obtain ⟨a, b, c⟩ := stepW_num P.si.w
  have e : stepS srt 1 s = { s with m := (stepW srt s.m s.w).1, w := (stepW srt s.m s.w).2 } := if_pos rfl
  rw [e] at h1 ⊢
  refine ⟨h1, h2, ?_, ?_, fun q => ?_⟩
  · have := P.cn.era
    show (stepW srt s.m s.w).1.era + muW (stepW srt s.m s.w).2 ≤ 1000
    omega
  · have := P.cn.ver
    show 0 ≤ (stepW srt s.m s.w).2.rver ∧ (stepW srt s.m s.w).2.rver + muW (stepW srt s.m s.w).2 ≤ 1000
    omega
  · have := P.cn.gen q
    have := c q
    show 0 ≤ (stepW srt s.m s.w).2.gen q ∧ (stepW srt s.m s.w).2.gen q + muW (stepW srt s.m s.w).2 ≤ 1000
    omega
theorem PI.step2 {s : Ep.St} (P : PI s) : PI (stepS srt 2 s) := by
  have h1 := stepS_I srt_perm P.si 2
  have e : stepS srt 2 s = { s with m := (stepR 2 s.m s.x).1, x := (stepR 2 s.m s.x).2 } := by
    unfold stepS
    rw [if_neg (by decide), if_pos rfl]
  rw [e] at h1 ⊢
  refine ⟨h1, P.wo, ?_, P.cn.ver, P.cn.gen⟩
  show (stepR 2 s.m s.x).1.era + muW s.w ≤ 1000
  rw [stepR_era]
  exact P.cn.era
theorem PI.step3 {s : Ep.St} (P : PI s) : PI (stepS srt 3 s) := by
  have h1 := stepS_I srt_perm P.si 3
  have e : stepS srt 3 s = { s with m := (stepR 3 s.m s.y).1, y := (stepR 3 s.m s.y).2 } := by
    unfold stepS
    rw [if_neg (by decide), if_neg (by decide)]
  rw [e] at h1 ⊢
  refine ⟨h1, P.wo, ?_, P.cn.ver, P.cn.gen⟩
  show (stepR 3 s.m s.y).1.era + muW s.w ≤ 1000
  rw [stepR_era]
  exact P.cn.era
/-- the value that a reader is given -/
def givR (m : Wm) : RS → Int
  | .d _ => m.rv
  | _ => m.era
theorem stepR_V (t : Nat) (m : Wm) (r : Rd) : (stepR t m r).2 = stepV (givR m r.st) r := by
  obtain ⟨st, left⟩ := r
  cases st with
  | a => rfl
  | b f => rfl
  | c f =>
    show (if m.era = f then (m, (⟨.d f, left⟩ : Rd)) else (m, ⟨.b m.era, left⟩)).2 = if m.era = f then ⟨.d f, left⟩ else ⟨.b m.era, left⟩
    split <;> rfl
  | d e => rfl
  | e e v =>
    show (if m.era = e then (m, (⟨.f e v 2, left⟩ : Rd)) else (m, ⟨.a, left⟩)).2 = if m.era = e then ⟨.f e v 2, left⟩ else ⟨.a, left⟩
    split <;> rfl
  | f e v k => cases k <;> rfl
  | g => rfl
  | fin => rfl
/-! ### The writer's and the readers' acts -/
section
variable {n b t : Nat} {mc : Mc} {m : Wm} {w : Wr} {r : Rd}
/-- a writer's act: what it is given, and the words behind it -/
theorem actW (k : Kk 3 376 b mc) (M : WMm mc.me m) (W : WI m w) (hn : w.st ≠ .fin) : (akW w).ok 376 ∧ GivesW m w (mc.act 1 (akW w)).2 ∧ WMm (mc.act 1 (akW w)).1.me (stepW srt m w).1 := by
  have hW := W
  obtain ⟨st, ops, bag, free, gen, birth, rv, rver, cur⟩ := w
  cases st with
  | adv1 => exact ⟨by show 1 < 376; decide, by show (⟨(mc.me.top 1).w, true⟩ : Go4) = _; rw [M.era], M.era, M.ann, M.root⟩
  | adv2 f =>
    have hf := W.adv f rfl
    have e : (mc.me.top 1).w = ⟨f - 1, 0, 0⟩ := by rw [M.era, hf]; congr 1; omega
    refine ⟨by show 1 < 376; decide, decide_eq_true e, ?_, fun t h1 h2 => ?_, ?_⟩
    · exact (top_swap k (by decide) 1 ⟨f - 1, 0, 0⟩ ⟨f, 0, 0⟩ 1 e).trans (if_pos rfl)
    · have := top_swap k (i := 1) (by decide) 1 ⟨f - 1, 0, 0⟩ ⟨f, 0, 0⟩ (8 * t) e
      rw [if_neg (by omega)] at this
      exact (congrArg W3.v this).trans (M.ann t h1 h2)
    · exact (top_swap k (by decide) 1 ⟨f - 1, 0, 0⟩ ⟨f, 0, 0⟩ 56 e).trans ((if_neg (by decide)).trans M.root)
  | w1 =>
    refine ⟨by show 1 < 376; decide, by show (mc.me.top 1).w.v = _; rw [M.era], ?_⟩
    cases free with
    | nil => exact ⟨M.era, M.ann, M.root⟩
    | cons b fr => exact ⟨M.era, M.ann, M.root⟩
  | w2 bb =>
    have e : (mc.me.top 56).w = ⟨val cur (gen cur), rver - 1, 0⟩ := by
      rw [M.root, W.rt]
      have := (W.new bb rfl).2
      congr 1
      dsimp only at this
      omega
    refine ⟨by show 56 < 376; decide, decide_eq_true e, ?_, fun t h1 h2 => ?_, ?_⟩
    · exact (top_swap k (by decide) 1 ⟨val cur (gen cur), rver - 1, 0⟩ ⟨rv, rver, 0⟩ 1 e).trans ((if_neg (by decide)).trans M.era)
    · have := top_swap k (i := 56) (by decide) 1 ⟨val cur (gen cur), rver - 1, 0⟩ ⟨rv, rver, 0⟩ (8 * t) e
      rw [if_neg (by omega)] at this
      exact (congrArg W3.v this).trans (M.ann t h1 h2)
    · exact (top_swap k (by decide) 1 ⟨val cur (gen cur), rver - 1, 0⟩ ⟨rv, rver, 0⟩ 56 e).trans (if_pos rfl)
  | w3 o => exact ⟨by show 1 < 376; decide, by show (mc.me.top 1).w.v = _; rw [M.era], M.era, M.ann, M.root⟩
  | w4 s =>
    have hs := W.seen s rfl
    refine ⟨by show 8 * (s.length + 1) < 376; omega, M.ann _ (by omega) (by omega), ?_⟩
    unfold stepW
    dsimp only
    split <;> exact ⟨M.era, M.ann, M.root⟩
  | fin => exact absurd rfl hn
theorem actR (k : Kk 3 376 b mc) (M : WMm mc.me m) (ht : t = 2 ∨ t = 3) (hn : r.st ≠ .fin) : (akR t r.st).ok 376 ∧ stepV (mc.act t (akR t r.st)).2.w.v r = (stepR t m r).2 ∧ WMm (mc.act t (akR t r.st)).1.me (stepR t m r).1 := by
  obtain ⟨st, left⟩ := r
  rw [stepR_V]
  have he : (mc.me.top 1).w.v = m.era := by rw [M.era]
  have put : ∀ x, WMm (mc.put t (8 * t) ⟨x, 0, 0⟩ true).me (m.say t x) := fun x => by
    refine ⟨?_, fun u h1 h2 => ?_, ?_⟩
    · exact (top_put k (by omega) t ⟨x, 0, 0⟩ true 1).trans ((if_neg (by omega)).trans M.era)
    · have := top_put k (i := 8 * t) (by omega) t ⟨x, 0, 0⟩ true (8 * u)
      refine (congrArg W3.v this).trans ?_
      show (if 8 * u = 8 * t then (⟨x, 0, 0⟩ : W3) else (mc.me.top (8 * u)).w).v = if u = t then x else m.ann u
      by_cases e : u = t
      · rw [if_pos (by omega), if_pos e]
      · rw [if_neg (by omega), if_neg e]; exact M.ann u h1 h2
    · exact (top_put k (by omega) t ⟨x, 0, 0⟩ true 56).trans ((if_neg (by omega)).trans M.root)
  cases st with
  | a => exact ⟨by show 1 < 376; decide, by show stepV (mc.me.top 1).w.v _ = _; rw [he]; rfl, M.era, M.ann, M.root⟩
  | b f => exact ⟨by show 8 * t < 376; omega, rfl, put f⟩
  | c f =>
    refine ⟨by show 1 < 376; decide, by show stepV (mc.me.top 1).w.v _ = _; rw [he]; rfl, ?_⟩
    unfold stepR
    dsimp only
    split <;> exact ⟨M.era, M.ann, M.root⟩
  | d e => exact ⟨by show 56 < 376; decide, by show stepV (mc.me.top 56).w.v _ = _; rw [M.root]; rfl, M.era, M.ann, M.root⟩
  | e e v =>
    refine ⟨by show 1 < 376; decide, by show stepV (mc.me.top 1).w.v _ = _; rw [he]; rfl, ?_⟩
    unfold stepR
    dsimp only
    split <;> exact ⟨M.era, M.ann, M.root⟩
  | f e v k => cases k <;> exact ⟨trivial, rfl, M.era, M.ann, M.root⟩
  | g => exact ⟨by show 8 * t < 376; omega, rfl, put 0⟩
  | fin => exact absurd rfl hn
end
/-! ### The world -/
abbrev tkW (I : Ids) (f : WF) (w : Wr) (s : SH) : Tk := ⟨I.t_simulcasttop_epochWriter, vWs I f w, isFinW w.st, (akW w).ac, s⟩
abbrev tkR (I : Ids) (t : Nat) (r : Rd) (v : Value) (s : SH) : Tk := ⟨I.t_simulcasttop_epochReader, v, isFin r.st, (akR t r.st).ac, s⟩
/-- a world, in the state s; at most k messages a place and k results a task; the writer has taken q steps -/
structure XW (I : Ids) (B : Bs) (k q : Nat) (w : WV) (s : Ep.St) : Prop where
  z : On B Zs
  pi : PI s
  ex : ∃ mc f vx vy s1 s2 s3 g1 g2 g3, WO B 3 w mc [tkW I f s.w s1, tkR I 2 s.x vx s2, tkR I 3 s.y vy s3] [g1, g2, g3] ∧ Kk 3 376 k mc ∧ WMm mc.me s.m ∧ WO' B f s.w ∧ RV I 2 s.x vx ∧ RV I 3 s.y vy ∧ g1.length = q ∧ g1.length ≤ k ∧ g2.length ≤ k ∧ g3.length ≤ k
theorem XW.le {k q : Nat} {w : WV} {s : Ep.St} (H : XW I B k q w s) (l : B.le B') : XW I B' k q w s := by
  obtain ⟨z, p, mc, f, vx, vy, s1, s2, s3, g1, g2, g3, a, b, c, d, e⟩ := H
  exact ⟨z.le l, p, mc, f, vx, vy, s1, s2, s3, g1, g2, g3, a.le l, b, c, d.le l, e⟩
theorem finW_iff {w : Wr} : isFinW w.st = true ↔ w.st = .fin := by cases w.st <;> simp [isFinW]
theorem fin_iff {r : Rd} : isFin r.st = true ↔ r.st = .fin := by cases r.st <;> simp [isFin]
theorem akW_fin {w : Wr} : (if isFinW w.st then Ac0 else (akW w).ac) = (akW w).ac := by
  obtain ⟨st, ops, bag, free, gen, birth, rv, rver, cur⟩ := w
  cases st <;> rfl
theorem akR_fin {t : Nat} {r : Rd} : (if isFin r.st then Ac0 else (akR t r.st).ac) = (akR t r.st).ac := by
  obtain ⟨st, left⟩ := r
  cases st <;> rfl
structure CvA (S : Sys) (I : Ids) : Prop extends CuB S I where
  wNext : ∀ {B : Bs} {f : WF} {m : Wm} {w : Wr} {g : Go4} {h R}, B.p h → On B Zs → WO' B f w → WI m w → Go.Ep.WO w → Sm m w → GivesW m w g → (∀ f', Rt B h (fun B => WO' B f' (stepW srt m w).2) fun h' => R (.tuple #[.iface I.t_simulcasttop_epochWriter (vWs I f' (stepW srt m w).2), vAc (akW (stepW srt m w).2).ac, .bool (isFinW (stepW srt m w).2.st)]) h') →
    S.C I.f_simulcasttop_epochWriter_Next [vWs I f w, vGo g] h R
  rNext : ∀ {t : Nat} {r : Rd} {v : Value} {g : Go4} {h R}, Zs h → (1 ≤ t ∧ t ≤ 3) → RV I t r v → 1 ≤ r.left → r.st ≠ .fin → (∀ v', RV I t (stepV g.w.v r) v' → ∀ h', Gr h h' → R (.tuple #[.iface I.t_simulcasttop_epochReader v', vAc (akR t (stepV g.w.v r).st).ac, .bool (isFin (stepV g.w.v r).st)]) h') →
    S.C I.f_simulcasttop_epochReader_Next [v, vGo g] h R
  mtW : I.mt I.t_simulcasttop_epochWriter "Next" = some I.f_simulcasttop_epochWriter_Next
  mtR : I.mt I.t_simulcasttop_epochReader "Next" = some I.f_simulcasttop_epochReader_Next
  Step : ∀ {B : Bs} {T n b t : Nat} {w : WV} {mc : Mc} {tks : List Tk} {gss : List (List Go4)} {tk : Tk} {gs : List Go4} {h R}, B.p h → WO B T w mc tks gss → Kk T n b mc → b ≤ 900000 → tks.length ≤ T → 1 ≤ t → tks[t - 1]? = some tk → gss[t - 1]? = some gs → gs.length ≤ 900000 → tk.dn = false → ∀ {a : Ak}, tk.act = a.ac → a.ok n →
    ∀ {f : Nat}, I.mt tk.t "Next" = some f → ∀ {Q : Bs → Value → Ac → Bool → Prop}, (∀ {B B' : Bs}, B.le B' → ∀ {v a d}, Q B v a d → Q B' v a d) → (∀ B', B.le B' → Nxt S B' f tk.t tk.v (mc.act t a).2 Q) → ∀ {ch : Int},
    (∀ w', Rt B h (fun B => ∃ v' a' d s', Q B v' a' d ∧ WO B T w' (mc.act t a).1 (tks.set (t - 1) ⟨tk.t, v', d, if d then Ac0 else a', s'⟩) (gss.set (t - 1) (gs ++ [(mc.act t a).2]))) fun h' => R (.tuple #[vWd w', .bool true]) h') → S.C I.f_task_World_Step [vWd w, vPk 0 t ch] h R
  StepNo : ∀ {B : Bs} {T n b : Nat} {w : WV} {mc : Mc} {tks : List Tk} {gss : List (List Go4)} {z ch : Int} {h R}, B.p h → WO B T w mc tks gss → Kk T n b mc → 1 ≤ T → tks.length ≤ 8 → ((∀ t : Nat, 1 ≤ t → z = t → ∃ tk, tks[t - 1]? = some tk ∧ tk.dn = true) ∨ ¬ (1 ≤ z ∧ z ≤ tks.length)) → (∀ h', Gr h h' → R (.tuple #[vWd w, .bool false]) h') →
    S.C I.f_task_World_Step [vWd w, vPk 0 z ch] h R
theorem K_wNext (cs : CuB S I) {f : WF} {m : Wm} {w : Wr} {g : Go4} (b0 : B.p h) (hZ : On B Zs) (H : WO' B f w) (W : WI m w) (O : Go.Ep.WO w) (Q : Sm m w) (hg : GivesW m w g) (hR : ∀ f', Rt B h (fun B => WO' B f' (stepW srt m w).2) fun h' => R (.tuple #[.iface I.t_simulcasttop_epochWriter (vWs I f' (stepW srt m w).2), vAc (akW (stepW srt m w).2).ac, .bool (isFinW (stepW srt m w).2.st)]) h') : F_simulcasttop_epochWriter_Next S I (vWs I f w) (vGo g) h R := by
  cases hst : w.st with
  | adv1 => exact K_w_adv cs b0 hZ H W O Q hg (.inl hst) hR
  | adv2 z => exact K_w_adv cs b0 hZ H W O Q hg (.inr ⟨z, hst⟩) hR
  | w1 => exact K_w_1 cs b0 hZ H W Q hg hst hR
  | w2 b => exact K_w_2 cs b0 hZ H hg hst hR
  | w3 o => exact K_w_3 cs b0 hZ H W Q hg hst hR
  | w4 s => exact K_w_4 cs b0 hZ H W O Q hg hst hR
  | fin => unfold GivesW at hg; rw [hst] at hg; exact hg.elim
section
variable {k q : Nat} {w : WV} {s : Ep.St} {ch : Int}
/-- a step of the writer -/
theorem X_step1 (cs : CvA S I) (b0 : B.p h) (H : XW I B k q w s) (hk : k ≤ 900000) (hn : s.w.st ≠ .fin) (hR : ∀ w', Rt B h (fun B => XW I B (k + 1) (q + 1) w' (stepS srt 1 s)) fun h' => R (.tuple #[vWd w', .bool true]) h') : S.C I.f_task_World_Step [vWd w, vPk 0 (1 : Nat) ch] h R := by
  obtain ⟨z, p, mc, f, vx, vy, s1, s2, s3, g1, g2, g3, a, bb, c, d, e1, e2, e3, e4, e5, e6⟩ := H
  obtain ⟨h1, h2, h3⟩ := actW bb c p.si.w hn
  have hd : (tkW I f s.w s1).dn = false := by
    cases hf : isFinW s.w.st with
    | false => exact hf
    | true => exact absurd (finW_iff.1 hf) hn
  refine cs.Step (tk := tkW I f s.w s1) (gs := g1) (a := akW s.w) b0 a bb hk (Nat.le_refl 3) (Nat.le_refl 1) rfl rfl (by omega) hd rfl h1 cs.mtW (Q := fun B v' a' dn => ∃ f', v' = vWs I f' (stepW srt s.m s.w).2 ∧ WO' B f' (stepW srt s.m s.w).2 ∧ a' = (akW (stepW srt s.m s.w).2).ac ∧ dn = isFinW (stepW srt s.m s.w).2.st) (by intro _ _ l _ _ _ hq; obtain ⟨f', x1, x2, x3⟩ := hq; exact ⟨f', x1, x2.le l, x3⟩) (fun B' l h R b0 hR => ?_) fun w' M h' cx ok => hR w' M h' cx ?_
  · exact cs.wNext b0 (z.le l) (d.le l) p.si.w p.wo p.sm h2 fun f' M h' cx ok => hR _ _ _ M h' cx ⟨f', rfl, ok, rfl, rfl⟩
  · obtain ⟨v', a', dn, s', ⟨f', rfl, x2, rfl, rfl⟩, x4⟩ := ok
    rw [akW_fin] at x4
    have e : stepS srt 1 s = { s with m := (stepW srt s.m s.w).1, w := (stepW srt s.m s.w).2 } := if_pos rfl
    refine ⟨z.le (Bs.le_and _ _), p.step1 hn, ?_⟩
    rw [e]
    exact ⟨_, f', vx, vy, s', s2, s3, _, g2, g3, x4, bb.act h1, h3, x2, e1, e2, by rw [List.length_append, List.length_singleton, e3], by rw [List.length_append, List.length_singleton]; omega, by omega, by omega⟩
theorem X_step2 (cs : CvA S I) (b0 : B.p h) (H : XW I B k q w s) (hk : k ≤ 900000) (hn : s.x.st ≠ .fin) (hR : ∀ w', Rt B h (fun B => XW I B (k + 1) q w' (stepS srt 2 s)) fun h' => R (.tuple #[vWd w', .bool true]) h') : S.C I.f_task_World_Step [vWd w, vPk 0 (2 : Nat) ch] h R := by
  obtain ⟨z, p, mc, f, vx, vy, s1, s2, s3, g1, g2, g3, a, bb, c, d, e1, e2, e3, e4, e5, e6⟩ := H
  obtain ⟨h1, h2, h3⟩ := actR (r := s.x) bb c (.inl rfl) hn
  have hd : (tkR I 2 s.x vx s2).dn = false := by
    cases hf : isFin s.x.st with
    | false => exact hf
    | true => exact absurd (fin_iff.1 hf) hn
  refine cs.Step (tk := tkR I 2 s.x vx s2) (gs := g2) (a := akR 2 s.x.st) b0 a bb hk (Nat.le_refl 3) (by decide) rfl rfl (by omega) hd rfl h1 cs.mtR (Q := fun B v' a' dn => RV I 2 (stepR 2 s.m s.x).2 v' ∧ a' = (akR 2 (stepR 2 s.m s.x).2.st).ac ∧ dn = isFin (stepR 2 s.m s.x).2.st) (by intro _ _ l _ _ _ hq; exact hq) (fun B' l h R b0 hR => ?_) fun w' M h' cx ok => hR w' M h' cx ?_
  · refine cs.rNext (z h (l h b0)) (by decide) e1 (p.si.x.2 hn) hn fun v' hv h' gr => ?_
    rw [h2] at hv ⊢
    exact (hR v' _ _).nil ⟨hv, rfl, rfl⟩ gr
  · obtain ⟨v', a', dn, s', ⟨x2, rfl, rfl⟩, x4⟩ := ok
    rw [akR_fin] at x4
    have e : stepS srt 2 s = { s with m := (stepR 2 s.m s.x).1, x := (stepR 2 s.m s.x).2 } := by
      unfold stepS
      rw [if_neg (by decide), if_pos rfl]
    refine ⟨z.le (Bs.le_and _ _), p.step2, ?_⟩
    rw [e]
    exact ⟨_, f, v', vy, s1, s', s3, g1, _, g3, x4, bb.act h1, h3, d.le (Bs.le_and _ _), x2, e2, e3, by omega, by rw [List.length_append, List.length_singleton]; omega, by omega⟩
theorem X_step3 (cs : CvA S I) (b0 : B.p h) (H : XW I B k q w s) (hk : k ≤ 900000) (hn : s.y.st ≠ .fin) (hR : ∀ w', Rt B h (fun B => XW I B (k + 1) q w' (stepS srt 3 s)) fun h' => R (.tuple #[vWd w', .bool true]) h') : S.C I.f_task_World_Step [vWd w, vPk 0 (3 : Nat) ch] h R := by
  obtain ⟨z, p, mc, f, vx, vy, s1, s2, s3, g1, g2, g3, a, bb, c, d, e1, e2, e3, e4, e5, e6⟩ := H
  obtain ⟨h1, h2, h3⟩ := actR (r := s.y) bb c (.inr rfl) hn
  have hd : (tkR I 3 s.y vy s3).dn = false := by
    cases hf : isFin s.y.st with
    | false => exact hf
    | true => exact absurd (fin_iff.1 hf) hn
  refine cs.Step (tk := tkR I 3 s.y vy s3) (gs := g3) (a := akR 3 s.y.st) b0 a bb hk (Nat.le_refl 3) (by decide) rfl rfl (by omega) hd rfl h1 cs.mtR (Q := fun B v' a' dn => RV I 3 (stepR 3 s.m s.y).2 v' ∧ a' = (akR 3 (stepR 3 s.m s.y).2.st).ac ∧ dn = isFin (stepR 3 s.m s.y).2.st) (by intro _ _ l _ _ _ hq; exact hq) (fun B' l h R b0 hR => ?_) fun w' M h' cx ok => hR w' M h' cx ?_
  · refine cs.rNext (z h (l h b0)) (by decide) e2 (p.si.y.2 hn) hn fun v' hv h' gr => ?_
    rw [h2] at hv ⊢
    exact (hR v' _ _).nil ⟨hv, rfl, rfl⟩ gr
  · obtain ⟨v', a', dn, s', ⟨x2, rfl, rfl⟩, x4⟩ := ok
    rw [akR_fin] at x4
    have e : stepS srt 3 s = { s with m := (stepR 3 s.m s.y).1, y := (stepR 3 s.m s.y).2 } := by
      unfold stepS
      rw [if_neg (by decide), if_neg (by decide)]
    refine ⟨z.le (Bs.le_and _ _), p.step3, ?_⟩
    rw [e]
    exact ⟨_, f, vx, v', s1, s2, s', g1, g2, _, x4, bb.act h1, h3, d.le (Bs.le_and _ _), e1, x2, e3, by omega, by omega, by rw [List.length_append, List.length_singleton]; omega⟩
end
end Go.En
namespace Go.En
open Go.Ep

variable {S : Sys} {I : Ids} {h h0 h' : Hp} {F F0 : Fp} {R : Value → Hp → Prop} {L : List Res} {B B' : Bs}
/-- the first words, as far as it matters -/
structure Fw (ws : List W3) : Prop where
  len : ws.length = 376
  era : ws[1]? = some ⟨1, 0, 0⟩
  ann : ws[8]? = some W0 ∧ ws[16]? = some W0 ∧ ws[24]? = some W0
theorem Fw.set {ws : List W3} (H : Fw ws) {p : Nat} (hp : 56 ≤ p) (w : W3) : Fw (ws.set p w) := by
  obtain ⟨a, b, c, d, e⟩ := H
  refine ⟨by rw [List.length_set]; exact a, ?_, ?_, ?_, ?_⟩ <;> rw [List.getElem?_set_ne (by omega)] <;> assumption
theorem Fw.start : Fw ((List.replicate 376 W0).set 1 ⟨1, 0, 0⟩) := by
  refine ⟨by rw [List.length_set, List.length_replicate], ?_, ?_, ?_, ?_⟩
  · rw [List.getElem?_set_self (by rw [List.length_replicate]; decide)]
  all_goals rw [List.getElem?_set_ne (by decide), List.getElem?_replicate, if_pos (by decide)]
theorem K_First (cs : CvA S I) (Z : Zs h) (hR : ∀ u ws h', Fw ws → Cx (fun _ => False) h h' [rSl EW (shV u) ws] → R (shV u) h') : F_layout_Layout_First S I vL h R := by
  have h1 : (List.replicate 376 W0)[1]? = some W0 := by rw [List.getElem?_replicate, if_pos (by decide)]
  unfold F_layout_Layout_First
  have c := Cx.start0 h
  refine c.nv (cs := [_, _, _]) rfl rfl fun l1_ _ c => ?_
  replace c : Cx _ _ _ [_] := c
  refine En.vb (c.vl (i := 0) rfl rfl) ?_
  refine cs.right _ _ (Z.gr c.gr) fun _ g => ?_
  have c := c.more g
  replace c : Cx _ _ _ [_] := c
  refine En.vb (v := .bool false) (rfl) ?_
  refine brf ?_
  refine En.vb (c.vl (i := 0) rfl rfl) ?_
  refine cs.size _ _ (Z.gr c.gr) fun _ g => ?_
  have c := c.more g
  replace c : Cx _ _ _ [_] := c
  refine c.mksl EW W0 (n := 376) rfl rfl rfl (by decide) (by decide) fun ad _ c => ?_
  obtain ⟨u, hu⟩ : ∃ u : SH, shV u = .slice (some ad) 376 376 := ⟨(some ad, 376, 376), rfl⟩
  rw [← hu] at c ⊢
  replace c : Cx _ _ _ [_, _] := c
  refine En.vb (c.vl (i := 0) rfl rfl) ?_
  refine cs.era _ _ (Z.gr c.gr) fun _ g => ?_
  have c := c.more g
  replace c : Cx _ _ _ [_, _] := c
  refine c.setf 1 rfl (p := 1) h1 ⟨1, 0, 0⟩ rfl rfl (j := 0) rfl (by decide) rfl fun _ c => ?_
  replace c : Cx _ _ _ [_, _] := c
  refine Lp1.by (fun (i : Nat) z h' => z = .int .i64 ((i + 1 : Nat) : Int) ∧ i ≤ 3 ∧ ∃ ws, Fw ws ∧ Cx (fun _ => False) h h' [rV l1_ [.int .i64 3, .int .i64 8, .int .i64 0], rSl EW (shV u) ws]) (fun i => 3 - i) 0 ⟨rfl, by decide, _, Fw.start, c⟩ ?_
  rintro i _ h7 ⟨rfl, hi, ws, hF, c⟩ again hagain
  refine En.vb (fa_add _ _ _) ?_
  refine En.vb (c.vc (i := 0) rfl rfl) ?_
  refine En.vb bin_leq ?_
  refine brd (fun e20 => ?_) fun e20 => ?_
  · refine En.vb (c.vl (i := 0) rfl rfl) ?_
    refine cs.slot (t := i + 1) (by omega) _ _ (Z.gr c.gr) fun _ g => ?_
    have c := c.more g
    have hF2 := hF.len
    have hx := List.getElem?_eq_getElem (l := ws) (i := 64 + 104 * i) (by omega)
    generalize ws[64 + 104 * i]'(by omega) = x at hx
    rw [show (64 : Int) + 104 * ((i + 1 - 1 : Nat) : Int) = ((64 + 104 * i : Nat) : Int) by omega]
    replace c : Cx _ _ _ [_, _] := c
    refine c.setf 1 rfl hx { x with v := 2 } rfl rfl (j := 0) rfl (by decide) rfl fun _ c => ?_
    replace c : Cx _ _ _ [_, _] := c
    refine En.vb (inc (by omega)) ?_
    exact hagain (i + 1) _ _ ⟨rfl, by omega, _, hF.set (by omega) _, c⟩ (by omega)
  · refine En.vb (fa_add _ _ _) ?_
    refine En.vb (c.vc (i := 0) rfl rfl) ?_
    refine Lp1.by (fun (_ : Unit) z h' => z = .int .i64 0 ∧ Cx (fun _ => False) h h' [rV l1_ [.int .i64 3, .int .i64 8, .int .i64 0], rSl EW (shV u) ws]) (fun _ => 0) () ⟨rfl, c⟩ ?_
    rintro _ _ h10 ⟨rfl, c⟩ again hagain
    refine En.vb (v := .bool false) rfl ?_
    refine brf ?_
    exact hR u ws _ hF (c.pick [1])
/-! ### Beginnings -/
def wOf (ops : List Int) : Wr := ⟨.fin, ops, [], [1, 2, 3], fun b => if b = 0 then 1 else 0, fun b => if b = 0 then 1 else 0, 17, 0, 0⟩
def qW (I : Ids) (ops : List Int) (B : Bs) (v' : Value) (a' : Ac) (dn : Bool) : Prop := ∃ f', v' = vWs I f' (w0 ops) ∧ WO' B f' (w0 ops) ∧ a' = (akW (w0 ops)).ac ∧ dn = isFinW (w0 ops).st
def qR (I : Ids) (t : Nat) (left : Int) (v' : Value) (a' : Ac) (dn : Bool) : Prop := RV I t (rgo left) v' ∧ a' = (akR t (rgo left).st).ac ∧ dn = isFin (rgo left).st
section
variable {ops : List Int} {uo uf : SH}
theorem K_wStart (cs : CvA S I) (b0 : B.p h) (hZ : On B Zs) (ho : On B fun h => Sl EU8 h (shV uo) ops) (hf : On B fun h => Sl EI1 h (shV uf) [1, 2, 3]) (hn : ∀ o ∈ ops, 0 ≤ o) (hR : ∀ v' a' d, Rt B h (fun B => qW I ops B v' a' d) fun h' => R (.tuple #[.iface I.t_simulcasttop_epochWriter v', vAc a', .bool d]) h') : F_simulcasttop_epochWriter_Next S I (vWs I ⟨uo, (none, 0, 0), uf, (none, 0, 0), 0⟩ (wOf ops)) (vGo Go0) h R := by
  have fin : ∀ f' h', f'.ops = uo → f'.bag = (none, 0, 0) → f'.free = uf → f'.old = 0 → (∀ s, (w0 ops).st = .w4 s → f'.seen = (none, 0, 0) ∧ s = []) → Gr h h' → R (.tuple #[.iface I.t_simulcasttop_epochWriter (vWs I f' (w0 ops)), vAc (akW (w0 ops)).ac, .bool (isFinW (w0 ops).st)]) h' := fun f' h' e1 e2 e3 e4 e5 gr => by
    refine (hR _ _ _).nil (h' := h') ⟨f', rfl, ?_, rfl, rfl⟩ gr
    obtain ⟨s, es, G⟩ := go_eq (wOf ops)
    have ew : w0 ops = (wOf ops).go := rfl
    rw [ew] at e5 ⊢
    rw [es] at e5 ⊢
    refine ⟨by rw [e1]; exact ho.le (Bs.le_and _ _), by rw [e2]; exact fun h b => ⟨none, 0, rfl, Nat.le_refl _, (fun _ => rfl), fun i x hx => nil_get hx⟩, by rw [e3]; exact hf.le (Bs.le_and _ _), fun s' hs' => ?_, (fun b hb => absurd hb (G.n2 b)), (fun b hb => absurd hb (G.n3 b)), hn⟩
    obtain ⟨e6, rfl⟩ := e5 s' hs'
    rw [e6]
    exact fun h b => ⟨none, 0, rfl, Nat.le_refl _, (fun _ => rfl), fun i x hx => nil_get hx⟩
  unfold F_simulcasttop_epochWriter_Next
  have c := Cx.start0 h
  refine c.nv (cs := [_, _, _, _, _, _, _, _, _, _, _, _, _, _, _, _, _, _, _, _, _, _]) rfl rfl fun w2_ _ c => ?_
  replace c : Cx _ _ _ [_] := c
  refine c.nv (cs := [_, _, _, _]) rfl rfl fun g3_ _ c => ?_
  replace c : Cx _ _ _ [_, _] := c
  refine c.nv (cs := [_, _, _, _, _, _, _, _]) rfl rfl fun v5_ _ c => ?_
  replace c : Cx _ _ _ [_, _, _] := c
  refine En.vb (fa_add _ _ _) ?_
  refine En.vb (c.vc (i := 0) rfl rfl) ?_
  refine En.vb (v := .bool false) (rfl) ?_
  refine brf ?_
  refine En.vb (fa_add _ _ _) ?_
  refine En.vb (c.vc (i := 0) rfl rfl) ?_
  refine En.vb (v := .bool true) rfl ?_
  refine brt ?_
  refine En.vb (c.vl (i := 0) rfl rfl) ?_
  refine cs.wbegin (w := wOf ops) (f := ⟨uo, (none, 0, 0), uf, (none, 0, 0), 0⟩) (hZ _ (B.up b0 c.gr)) hn (ho _ (B.up b0 c.gr)) (hf _ (B.up b0 c.gr)) fun f' _ e1 e2 e3 e4 e5 gr => ?_
  have c := c.more gr
  replace c : Cx _ _ _ [_, _, _] := c
  refine En.vb rfl ?_
  refine En.vb rfl ?_
  refine En.vb rfl ?_
  refine c.vw 2 rfl (vs := [_, _, _, _, _, _, _, _]) (by exact rfl) (by exact rfl) (by exact rfl) (by exact rfl) fun _ c => ?_
  replace c : Cx _ _ _ [_, _, _] := c
  refine En.vb (c.vl (i := 2) rfl rfl) ?_
  exact fin f' _ e1 e2 e3 e4 e5 c.gr
structure CvB (S : Sys) (I : Ids) : Prop extends CvA S I where
  first : ∀ {h R}, Zs h → (∀ u ws h', Fw ws → Cx (fun _ => False) h h' [rSl EW (shV u) ws] → R (shV u) h') → S.C I.f_layout_Layout_First [vL] h R
  wStart : ∀ {B : Bs} {ops : List Int} {uo uf : SH} {h R}, B.p h → On B Zs → (On B fun h => Sl EU8 h (shV uo) ops) → (On B fun h => Sl EI1 h (shV uf) [1, 2, 3]) → (∀ o ∈ ops, 0 ≤ o) → (∀ v' a' d, Rt B h (fun B => qW I ops B v' a' d) fun h' => R (.tuple #[.iface I.t_simulcasttop_epochWriter v', vAc a', .bool d]) h') →
    S.C I.f_simulcasttop_epochWriter_Next [vWs I ⟨uo, (none, 0, 0), uf, (none, 0, 0), 0⟩ (wOf ops), vGo Go0] h R
  rStart : ∀ {t : Nat} {left : Int} {h R}, Zs h → (1 ≤ t ∧ t ≤ 3) → (0 ≤ left ∧ left ≤ 6) → (∀ v', RV I t (rgo left) v' → ∀ h', Gr h h' → R (.tuple #[.iface I.t_simulcasttop_epochReader v', vAc (akR t (rgo left).st).ac, .bool (isFin (rgo left).st)]) h') → S.C I.f_simulcasttop_epochReader_Next [vRd t left 0 0 .nilIface 0 0 0, vGo Go0] h R
  kNew : ∀ {T : Nat} {ws : List W3} {v : SH} {h R}, Sl EW h (shV v) ws → (1 ≤ T ∧ T ≤ 8) → (1 ≤ ws.length ∧ ws.length ≤ 4096) → (∀ v M h', Cx (fun _ => False) h h' [rStar M] → (∀ B : Bs, KO (B.and M) T v ⟨Me.new T ws, Li.new ws⟩) → R (.tuple #[vMc v, .int .i64 0]) h') → S.C I.f_machine_New [.int .i64 T, shV v] h R
  make : ∀ {B : Bs} {T n b : Nat} {mc : Mc} {v : MV} {s : SH} {cds : List (TypeId × Value)} {h R}, B.p h → KO B T v mc → Kk T n b mc → (On B fun h => Sl EIf h (shV s) cds) → cds.length ≤ T → ∀ {Q : Nat → Bs → Value → Ac → Bool → Prop}, (∀ {j} {B B' : Bs}, B.le B' → ∀ {v a d}, Q j B v a d → Q j B' v a d) →
    (∀ (j : Nat) (c : TypeId × Value), cds[j]? = some c → ∃ f, I.mt c.1 "Next" = some f ∧ ∀ B', B.le B' → Nxt S B' f c.1 c.2 Go0 (Q j)) →
    (∀ w tks, tks.length = cds.length → Rt B h (fun B => Beg Q B cds tks ∧ WO B T w mc tks (List.replicate cds.length [])) fun h' => R (.tuple #[vWd w, .int .i64 0]) h') → S.C I.f_task_Make [vMc v, shV s] h R
theorem top_new (T : Nat) {ws : List W3} {i : Nat} {w : W3} (h : ws[i]? = some w) : ((Me.new T ws).top i).w = w := by
  unfold Me.top Me.at Me.new
  dsimp only
  rw [List.getD_eq_getElem?_getD, List.getElem?_map, h]
  rfl
theorem len3 {α : Type} : ∀ {l : List α}, l.length = 3 → ∃ a b c, l = [a, b, c]
  | [a, b, c], _ => ⟨a, b, c, rfl⟩
/-- the beginning's state -/
def sOf (ops : List Int) (a b : Int) : Ep.St := ⟨m0, w0 ops, rgo a, rgo b⟩
theorem sOf_PI (hl : ops.length ≤ 12) (a b : Int) : PI (sOf ops a b) := by
  have h1 := go_mu (wOf ops)
  have h1 : muW (w0 ops) ≤ 16 * ops.length + 8 := h1
  have e := go_same (wOf ops)
  refine ⟨s0_I ops a b, go_WO _, ⟨?_, ?_, fun q => ?_⟩⟩
  · show (1 : Int) + muW (w0 ops) ≤ 1000
    omega
  · show 0 ≤ (wOf ops).go.rver ∧ (wOf ops).go.rver + muW (w0 ops) ≤ 1000
    rw [e.1]
    show (0 : Int) ≤ 0 ∧ (0 : Int) + muW (w0 ops) ≤ 1000
    omega
  · show 0 ≤ (wOf ops).go.gen q ∧ (wOf ops).go.gen q + muW (w0 ops) ≤ 1000
    rw [e.2]
    show 0 ≤ (if q = 0 then (1 : Int) else 0) ∧ (if q = 0 then (1 : Int) else 0) + muW (w0 ops) ≤ 1000
    split <;> omega
set_option maxHeartbeats 3200000 in
theorem K_eWorld (cs : CvB S I) (b0 : B.p h) (hZ : On B Zs) (ho : On B fun h => Sl EU8 h (shV uo) ops) (hn : ∀ o ∈ ops, 0 ≤ o) (hl : ops.length ≤ 12) {a b : Int} (ha : 0 ≤ a ∧ a < 256) (hb : 0 ≤ b ∧ b < 256) (hR : ∀ w, Rt B h (fun B => XW I B 1 0 w (sOf ops (a % 6) (b % 6))) fun h' => R (.tuple #[vWd w, .bool true]) h') : F_simulcasttop_epochWorld S I (shV uo) (.agg #[.int .u8 a, .int .u8 b]) h R := by
  have ha6 : 0 ≤ a % 6 ∧ a % 6 ≤ 6 := by omega
  have hb6 : 0 ≤ b % 6 ∧ b % 6 ≤ 6 := by omega
  unfold F_simulcasttop_epochWorld
  have c := Cx.start0 h
  refine c.nv (cs := [_, _]) rfl rfl fun reads3_ _ c => ?_
  replace c : Cx _ _ _ [_] := c
  refine c.nv (cs := [_, _, _, _, _, _, _, _, _]) rfl rfl fun v4_ _ c => ?_
  replace c : Cx _ _ _ [_, _] := c
  refine En.vb (bldS_ok (ds := [_, _, _]) rfl) ?_
  refine c.nv (cs := [_, _, _]) rfl rfl fun l6_ _ c => ?_
  replace c : Cx _ _ _ [_, _, _] := c
  refine c.vw 2 rfl (vs := [_, _, _]) (by exact rfl) (by exact rfl) (by exact rfl) (by exact rfl) fun _ c => ?_
  replace c : Cx _ _ _ [_, _, _] := c
  refine En.vb (c.vl (i := 2) rfl rfl) ?_
  refine cs.first (hZ _ (B.up b0 c.gr)) fun ufw ws _ hF d => ?_
  have c := c.frame0 d
  replace c : Cx _ _ _ [_, _, _, _] := c
  refine En.vb (c.sl (i := 3) rfl).sl.ln ?_
  refine En.vb (k_eqF (by rw [hF.len]; decide)) ?_
  refine brf ?_
  refine Jn1.at (fun z h' => ∃ r uf, z = at0 r ∧ Cx (fun _ => False) h h' [rV reads3_ [.int .u8 a, .int .u8 b], rV v4_ [.slice none 0 0, .slice none 0 0, .slice none 0 0, .slice none 0 0, .map none, .slice none 0 0, .int .i64 0, .slice none 0 0, .slice none 0 0], rV l6_ [.int .i64 3, .int .i64 8, .int .i64 0], rSl EW (shV ufw) ws, rV r [.int .i64 3, .int .i64 8, .int .i64 0, shV uo, .int .i64 0, .nilIface, .slice none 0 0, shV uf, .int .i64 0, .int .i64 0, .int .i64 0, .int .i64 0, .int .i64 0, .int .i64 0, .int .i64 0, .int .i64 0, .int .i64 17, .int .u32 0, .int .u32 0, .int .i64 0, .slice none 0 0, .bool false], rSl EI1 (shV uf) [1, 2, 3]]) ?_ ?_
  · refine En.vb (c.vl (i := 2) rfl rfl) ?_
    refine And.intro ?_ ?_
    · refine c.bslN EI1 [1, 2, 3] [.int .i64 1, .int .i64 2, .int .i64 3] rfl rfl rfl (fun u hu => by simp only [List.mem_cons, List.not_mem_nil, or_false] at hu; rcases hu with rfl | rfl | rfl <;> rfl) rfl fun ad _ c => ?_
      obtain ⟨uf, huf⟩ : ∃ u : SH, shV u = .slice (some ad) 3 3 := ⟨(some ad, 3, 3), rfl⟩
      rw [← huf] at c ⊢
      replace c : Cx _ _ _ [_, _, _, _, _] := c
      refine And.intro (c.vl (i := 2) rfl rfl) ?_
      refine And.intro ?_ ?_
      · refine cs.eval (b' := 0) (g' := 1) (by decide) (by decide) ?_
        refine And.intro (c.vl (i := 2) rfl rfl) ?_
        refine En.vb (bldS_ok (ds := [_, _, _]) rfl) ?_
        refine En.vb (bldS_ok (ds := [_, _, _, _, _, _, _, _, _, _, _, _, _, _, _, _, _, _, _, _, _, _]) rfl) ?_
        refine c.nv (cs := [_, _, _, _, _, _, _, _, _, _, _, _, _, _, _, _, _, _, _, _, _, _]) rfl rfl fun w8_1_ _ c => ?_
        replace c : Cx _ _ _ [_, _, _, _, _, _] := c
        refine And.intro (c.vl (i := 2) rfl rfl) ?_
        refine c.vw 5 rfl (vs := [_, _, _, _, _, _, _, _, _, _, _, _, _, _, _, _, _, _, _, _, _, _]) (by exact rfl) (by exact rfl) (by exact rfl) (by exact rfl) fun _ c => ?_
        replace c : Cx _ _ _ [_, _, _, _, _, _] := c
        exact ⟨_, uf, rfl, c.pick [0, 1, 2, 3, 5, 4]⟩
      · refine c.nv (cs := [_, _, _, _, _, _, _, _, _, _, _, _, _, _, _, _, _, _, _, _, _, _]) rfl rfl fun w8_2_ _ c => ?_
        replace c : Cx _ _ _ [_, _, _, _, _, _] := c
        refine And.intro (c.vl (i := 2) rfl rfl) ?_
        refine cs.eval (b' := 0) (g' := 1) (by decide) (by decide) ?_
        refine And.intro (c.vl (i := 2) rfl rfl) ?_
        refine En.vb (bldS_ok (ds := [_, _, _]) rfl) ?_
        refine En.vb (bldS_ok (ds := [_, _, _, _, _, _, _, _, _, _, _, _, _, _, _, _, _, _, _, _, _, _]) rfl) ?_
        refine c.vw 5 rfl (vs := [_, _, _, _, _, _, _, _, _, _, _, _, _, _, _, _, _, _, _, _, _, _]) (by exact rfl) (by exact rfl) (by exact rfl) (by exact rfl) fun _ c => ?_
        replace c : Cx _ _ _ [_, _, _, _, _, _] := c
        exact ⟨_, uf, rfl, c.pick [0, 1, 2, 3, 5, 4]⟩
    · refine And.intro ?_ ?_
      · refine cs.eval (b' := 0) (g' := 1) (by decide) (by decide) ?_
        refine And.intro (c.vl (i := 2) rfl rfl) ?_
        refine En.vb (bldS_ok (ds := [_, _, _]) rfl) ?_
        refine And.intro ?_ ?_
        · refine c.bslN EI1 [1, 2, 3] [.int .i64 1, .int .i64 2, .int .i64 3] rfl rfl rfl (fun u hu => by simp only [List.mem_cons, List.not_mem_nil, or_false] at hu; rcases hu with rfl | rfl | rfl <;> rfl) rfl fun ad _ c => ?_
          obtain ⟨uf, huf⟩ : ∃ u : SH, shV u = .slice (some ad) 3 3 := ⟨(some ad, 3, 3), rfl⟩
          rw [← huf] at c ⊢
          replace c : Cx _ _ _ [_, _, _, _, _] := c
          refine And.intro (c.vl (i := 2) rfl rfl) ?_
          refine En.vb (bldS_ok (ds := [_, _, _, _, _, _, _, _, _, _, _, _, _, _, _, _, _, _, _, _, _, _]) rfl) ?_
          refine c.nv (cs := [_, _, _, _, _, _, _, _, _, _, _, _, _, _, _, _, _, _, _, _, _, _]) rfl rfl fun w8_3_ _ c => ?_
          replace c : Cx _ _ _ [_, _, _, _, _, _] := c
          refine And.intro (c.vl (i := 2) rfl rfl) ?_
          refine c.vw 5 rfl (vs := [_, _, _, _, _, _, _, _, _, _, _, _, _, _, _, _, _, _, _, _, _, _]) (by exact rfl) (by exact rfl) (by exact rfl) (by exact rfl) fun _ c => ?_
          replace c : Cx _ _ _ [_, _, _, _, _, _] := c
          exact ⟨_, uf, rfl, c.pick [0, 1, 2, 3, 5, 4]⟩
        · refine c.nv (cs := [_, _, _, _, _, _, _, _, _, _, _, _, _, _, _, _, _, _, _, _, _, _]) rfl rfl fun w8_4_ _ c => ?_
          replace c : Cx _ _ _ [_, _, _, _, _] := c
          refine And.intro (c.vl (i := 2) rfl rfl) ?_
          refine c.bslN EI1 [1, 2, 3] [.int .i64 1, .int .i64 2, .int .i64 3] rfl rfl rfl (fun u hu => by simp only [List.mem_cons, List.not_mem_nil, or_false] at hu; rcases hu with rfl | rfl | rfl <;> rfl) rfl fun ad _ c => ?_
          obtain ⟨uf, huf⟩ : ∃ u : SH, shV u = .slice (some ad) 3 3 := ⟨(some ad, 3, 3), rfl⟩
          rw [← huf] at c ⊢
          replace c : Cx _ _ _ [_, _, _, _, _, _] := c
          refine And.intro (c.vl (i := 2) rfl rfl) ?_
          refine En.vb (bldS_ok (ds := [_, _, _, _, _, _, _, _, _, _, _, _, _, _, _, _, _, _, _, _, _, _]) rfl) ?_
          refine c.vw 4 rfl (vs := [_, _, _, _, _, _, _, _, _, _, _, _, _, _, _, _, _, _, _, _, _, _]) (by exact rfl) (by exact rfl) (by exact rfl) (by exact rfl) fun _ c => ?_
          replace c : Cx _ _ _ [_, _, _, _, _, _] := c
          exact ⟨_, uf, rfl, c.pick [0, 1, 2, 3, 4, 5]⟩
      · refine c.nv (cs := [_, _, _, _, _, _, _, _, _, _, _, _, _, _, _, _, _, _, _, _, _, _]) rfl rfl fun w8_5_ _ c => ?_
        replace c : Cx _ _ _ [_, _, _, _, _] := c
        refine And.intro (c.vl (i := 2) rfl rfl) ?_
        refine And.intro ?_ ?_
        · refine c.bslN EI1 [1, 2, 3] [.int .i64 1, .int .i64 2, .int .i64 3] rfl rfl rfl (fun u hu => by simp only [List.mem_cons, List.not_mem_nil, or_false] at hu; rcases hu with rfl | rfl | rfl <;> rfl) rfl fun ad _ c => ?_
          obtain ⟨uf, huf⟩ : ∃ u : SH, shV u = .slice (some ad) 3 3 := ⟨(some ad, 3, 3), rfl⟩
          rw [← huf] at c ⊢
          replace c : Cx _ _ _ [_, _, _, _, _, _] := c
          refine And.intro (c.vl (i := 2) rfl rfl) ?_
          refine cs.eval (b' := 0) (g' := 1) (by decide) (by decide) ?_
          refine And.intro (c.vl (i := 2) rfl rfl) ?_
          refine En.vb (bldS_ok (ds := [_, _, _]) rfl) ?_
          refine En.vb (bldS_ok (ds := [_, _, _, _, _, _, _, _, _, _, _, _, _, _, _, _, _, _, _, _, _, _]) rfl) ?_
          refine c.vw 4 rfl (vs := [_, _, _, _, _, _, _, _, _, _, _, _, _, _, _, _, _, _, _, _, _, _]) (by exact rfl) (by exact rfl) (by exact rfl) (by exact rfl) fun _ c => ?_
          replace c : Cx _ _ _ [_, _, _, _, _, _] := c
          exact ⟨_, uf, rfl, c.pick [0, 1, 2, 3, 4, 5]⟩
        · refine cs.eval (b' := 0) (g' := 1) (by decide) (by decide) ?_
          refine And.intro (c.vl (i := 2) rfl rfl) ?_
          refine En.vb (bldS_ok (ds := [_, _, _]) rfl) ?_
          refine c.bslN EI1 [1, 2, 3] [.int .i64 1, .int .i64 2, .int .i64 3] rfl rfl rfl (fun u hu => by simp only [List.mem_cons, List.not_mem_nil, or_false] at hu; rcases hu with rfl | rfl | rfl <;> rfl) rfl fun ad _ c => ?_
          obtain ⟨uf, huf⟩ : ∃ u : SH, shV u = .slice (some ad) 3 3 := ⟨(some ad, 3, 3), rfl⟩
          rw [← huf] at c ⊢
          replace c : Cx _ _ _ [_, _, _, _, _, _] := c
          refine And.intro (c.vl (i := 2) rfl rfl) ?_
          refine En.vb (bldS_ok (ds := [_, _, _, _, _, _, _, _, _, _, _, _, _, _, _, _, _, _, _, _, _, _]) rfl) ?_
          refine c.vw 4 rfl (vs := [_, _, _, _, _, _, _, _, _, _, _, _, _, _, _, _, _, _, _, _, _, _]) (by exact rfl) (by exact rfl) (by exact rfl) (by exact rfl) fun _ c => ?_
          replace c : Cx _ _ _ [_, _, _, _, _, _] := c
          exact ⟨_, uf, rfl, c.pick [0, 1, 2, 3, 4, 5]⟩
  · rintro _ h7 ⟨r8, uf, rfl, c⟩
    replace c : Cx _ _ _ [_, _, _, _, _, _] := c
    refine En.vb (fa_add _ _ _) ?_
    refine En.vb (ixa_at (i := 0) rfl (by decide) _) ?_
    refine c.vq 4 rfl (vs := [_]) (ds := [_, _, _, _, _, _, _, _, _, _, _, _, _, _, _, _, _, _, _, _, _, _]) (by exact rfl) (by exact rfl) (by exact rfl) (by exact rfl) (by exact rfl) fun _ c => ?_
    replace c : Cx _ _ _ [_, _, _, _, _, _] := c
    refine En.vb (fa_add _ _ _) ?_
    refine En.vb (ixa_at (i := 0) rfl (by decide) _) ?_
    refine c.vq 4 rfl (vs := [_]) (ds := [_, _, _, _, _, _, _, _, _, _, _, _, _, _, _, _, _, _, _, _, _, _]) (by exact rfl) (by exact rfl) (by exact rfl) (by exact rfl) (by exact rfl) fun _ c => ?_
    replace c : Cx _ _ _ [_, _, _, _, _, _] := c
    refine En.vb (c.vl (i := 2) rfl rfl) ?_
    refine En.vb (fa_add _ _ _) ?_
    refine En.vb (c.vp (i := 4) (ds := [_, _, _]) rfl rfl rfl) ?_
    refine cs.cell (i := 0) (by decide) _ _ (hZ _ (B.up b0 c.gr)) fun _ g => ?_
    have c := c.more g
    replace c : Cx _ _ _ [_, _, _, _, _, _] := c
    refine And.intro (c.vp (i := 4) (ds := [_, _, _]) rfl rfl rfl) ?_
    refine c.seti 3 rfl (j := 56) (by rw [hF.len]; decide) ⟨17, 0, 0⟩ rfl rfl rfl fun _ c => ?_
    replace c : Cx _ _ _ [_, _, _, _, _, _] := c
    refine cs.kNew (T := 3) (c.sl (i := 3) rfl).sl (by decide) (by rw [List.length_set, hF.len]; decide) fun mv M _ d ok => ?_
    have c := c.frame0 d
    replace c : Cx _ _ _ [_, _, _, _, _, _, _] := c
    refine En.vb rfl ?_
    refine En.vb rfl ?_
    refine c.nv (cs := [_, _, _, _, _, _, _]) rfl rfl fun m9_ _ c => ?_
    replace c : Cx _ _ _ [_, _, _, _, _, _, _, _] := c
    refine c.vw 7 rfl (vs := [_, _, _, _, _, _, _]) (by exact rfl) (by exact rfl) (by exact rfl) (by exact rfl) fun _ c => ?_
    replace c : Cx _ _ _ [_, _, _, _, _, _, _, _] := c
    refine En.vb (c.vl (i := 7) rfl rfl) ?_
    refine En.vb (c.vl (i := 4) rfl rfl) ?_
    refine En.vb rfl ?_
    refine En.vb (c.vl (i := 2) rfl rfl) ?_
    refine En.vb (ixa_at (i := 0) rfl (by decide) _) ?_
    refine En.vb (c.vc (i := 0) rfl rfl) ?_
    refine En.vb (remI ha.1 (by decide)) ?_
    refine En.vb (v := .int .i64 (a % 6)) (by rw [cvi_int, wr64 ⟨by omega, by omega⟩]) ?_
    refine En.vb (bldS_ok (ds := [_, _, _, _, _, _, _, _, _, _, _]) rfl) ?_
    refine En.vb rfl ?_
    refine En.vb (c.vl (i := 2) rfl rfl) ?_
    refine En.vb (ixa_at (i := 1) rfl (by decide) _) ?_
    refine En.vb (c.vc (i := 0) rfl rfl) ?_
    refine En.vb (remI hb.1 (by decide)) ?_
    refine En.vb (v := .int .i64 (b % 6)) (by rw [cvi_int, wr64 ⟨by omega, by omega⟩]) ?_
    refine En.vb (bldS_ok (ds := [_, _, _, _, _, _, _, _, _, _, _]) rfl) ?_
    refine En.vb rfl ?_
    refine c.bslN EIf [(I.t_simulcasttop_epochWriter, vWs I ⟨uo, (none, 0, 0), uf, (none, 0, 0), 0⟩ (wOf ops)), (I.t_simulcasttop_epochReader, vRd 2 (a % 6) 0 0 .nilIface 0 0 0), (I.t_simulcasttop_epochReader, vRd 3 (b % 6) 0 0 .nilIface 0 0 0)] [.iface I.t_simulcasttop_epochWriter (vWs I ⟨uo, (none, 0, 0), uf, (none, 0, 0), 0⟩ (wOf ops)), .iface I.t_simulcasttop_epochReader (vRd 2 (a % 6) 0 0 .nilIface 0 0 0), .iface I.t_simulcasttop_epochReader (vRd 3 (b % 6) 0 0 .nilIface 0 0 0)] rfl rfl rfl (fun u hu => by simp only [List.mem_cons, List.not_mem_nil, or_false] at hu; rcases hu with rfl | rfl | rfl <;> rfl) rfl fun ad _ c => ?_
    obtain ⟨uc, huc⟩ : ∃ u : SH, shV u = .slice (some ad) 3 3 := ⟨(some ad, 3, 3), rfl⟩
    rw [← huc] at c ⊢
    replace c : Cx _ _ _ [_, _, _, _, _, _, _, _, _] := c
    have cM := c.pick [6, 8, 5]
    replace cM : Cx _ _ _ [rStar M, rSl EIf (shV uc) [(I.t_simulcasttop_epochWriter, vWs I ⟨uo, (none, 0, 0), uf, (none, 0, 0), 0⟩ (wOf ops)), (I.t_simulcasttop_epochReader, vRd 2 (a % 6) 0 0 .nilIface 0 0 0), (I.t_simulcasttop_epochReader, vRd 3 (b % 6) 0 0 .nilIface 0 0 0)], rSl EI1 (shV uf) [1, 2, 3]] := cM
    generalize hMs : [rStar M, rSl EIf (shV uc) [(I.t_simulcasttop_epochWriter, vWs I ⟨uo, (none, 0, 0), uf, (none, 0, 0), 0⟩ (wOf ops)), (I.t_simulcasttop_epochReader, vRd 2 (a % 6) 0 0 .nilIface 0 0 0), (I.t_simulcasttop_epochReader, vRd 3 (b % 6) 0 0 .nilIface 0 0 0)], rSl EI1 (shV uf) [1, 2, 3]] = Ms at cM
    replace hMs := hMs.symm
    have bM : (B.and Ms).p _ := ⟨B.up b0 cM.gr, (Cx.pack (L := []) cM).get (i := 0) rfl⟩
    have lM : (B.and M).le (B.and Ms) := Bs.le_at (i := 0) (by rw [hMs]; rfl)
    have oC : On (B.and Ms) fun h => Sl EIf h (shV uc) [(I.t_simulcasttop_epochWriter, vWs I ⟨uo, (none, 0, 0), uf, (none, 0, 0), 0⟩ (wOf ops)), (I.t_simulcasttop_epochReader, vRd 2 (a % 6) 0 0 .nilIface 0 0 0), (I.t_simulcasttop_epochReader, vRd 3 (b % 6) 0 0 .nilIface 0 0 0)] := On.sl (i := 1) (by rw [hMs]; rfl)
    have oF : On (B.and Ms) fun h => Sl EI1 h (shV uf) [1, 2, 3] := On.sl (i := 2) (by rw [hMs]; rfl)
    have zM := hZ.le (Bs.le_and B Ms)
    refine cs.make (v := mv) (mc := ⟨Me.new 3 (ws.set 56 ⟨17, 0, 0⟩), Li.new (ws.set 56 ⟨17, 0, 0⟩)⟩) bM ((ok B).le lM) (Kk.new (by decide) (by rw [List.length_set, hF.len]; decide)) oC (Nat.le_refl 3) (Q := fun j B v a' d => (j = 0 → qW I ops B v a' d) ∧ (j = 1 → qR I 2 (a % 6) v a' d) ∧ (j = 2 → qR I 3 (b % 6) v a' d)) ?_ ?_ fun w tks htl N _ dd ok2 => ?_
    · intro j B B' l v a' d hq
      refine ⟨fun e => ?_, hq.2⟩
      obtain ⟨f', x1, x2, x3⟩ := hq.1 e
      exact ⟨f', x1, x2.le l, x3⟩
    · intro j cd hj
      match j, hj with
      | 0, hj =>
        injection hj with hj
        subst hj
        exact ⟨_, cs.mtW, fun B' l h R b0 hR => cs.wStart b0 (zM.le l) ((ho.le (Bs.le_and _ _)).le l) (oF.le l) hn fun v' a' d M h' cx q => hR v' a' d M h' cx ⟨fun _ => q, (fun e => by cases e), fun e => by cases e⟩⟩
      | 1, hj =>
        injection hj with hj
        subst hj
        exact ⟨_, cs.mtR, fun B' l h R b0 hR => cs.rStart (zM h (l h b0)) (by decide) ha6 fun v' hv h' g => (hR _ _ _).nil ⟨(fun e => by cases e), (fun _ => ⟨hv, rfl, rfl⟩), fun e => by cases e⟩ g⟩
      | 2, hj =>
        injection hj with hj
        subst hj
        exact ⟨_, cs.mtR, fun B' l h R b0 hR => cs.rStart (zM h (l h b0)) (by decide) hb6 fun v' hv h' g => (hR _ _ _).nil ⟨(fun e => by cases e), (fun e => by cases e), fun _ => ⟨hv, rfl, rfl⟩⟩ g⟩
      | j + 3, hj => exact nil_get (j := j) hj
    have c := c.frame0 dd
    replace c : Cx _ _ _ [_, _, _, _, _, _, _, _, _, _] := c
    refine En.vb rfl ?_
    refine En.vb rfl ?_
    refine c.nv (cs := [_, _, _, _, _, _, _, _, _]) rfl rfl fun x11_ _ c => ?_
    replace c : Cx _ _ _ [_, _, _, _, _, _, _, _, _, _, _] := c
    refine c.vw 10 rfl (vs := [_, _, _, _, _, _, _, _, _]) (by exact rfl) (by exact rfl) (by exact rfl) (by exact rfl) fun _ c => ?_
    replace c : Cx _ _ _ [_, _, _, _, _, _, _, _, _, _, _] := c
    refine .here ?_
    refine En.vb (c.vl (i := 10) rfl rfl) ?_
    refine En.vb (v := .bool true) rfl ?_
    refine brt ?_
    refine En.vb bin_eql ?_
    refine c.vw 1 rfl (vs := [_, _, _, _, _, _, _, _, _]) (by exact rfl) (by exact rfl) (by exact rfl) (by exact rfl) fun _ c => ?_
    replace c : Cx _ _ _ [_, _, _, _, _, _, _, _, _, _, _] := c
    refine En.vb (c.vl (i := 1) rfl rfl) ?_
    have fin : XW I (B.and [rStar Ms, rStar N]) 1 0 w (sOf ops (a % 6) (b % 6)) := by
      obtain ⟨hB, hW⟩ := ok2
      obtain ⟨t1, t2, t3, rfl⟩ := len3 htl
      focus
        obtain ⟨a1, c1, h1, h2, ⟨h3, _⟩, h4, h5⟩ := hB 0 t1 rfl
        obtain ⟨a2, c2, k1, k2, ⟨_, k3, _⟩, k4, k5⟩ := hB 1 t2 rfl
        obtain ⟨a3, c3, l1, l2, ⟨_, _, l3⟩, l4, l5⟩ := hB 2 t3 rfl
        injection h1 with h1; injection k1 with k1; injection l1 with l1
        subst h1 k1 l1
        obtain ⟨t1t, t1v, t1d, t1a, t1s⟩ := t1
        obtain ⟨t2t, t2v, t2d, t2a, t2s⟩ := t2
        obtain ⟨t3t, t3v, t3d, t3a, t3s⟩ := t3
        dsimp only at h2 h3 h4 h5 k2 k3 k4 k5 l2 l3 l4 l5
        obtain ⟨f', x1, x2, x3, x4⟩ := h3 rfl
        obtain ⟨y1, y2, y3⟩ := k3 rfl
        obtain ⟨z1, z2, z3⟩ := l3 rfl
        subst x3 x4 y2 y3 z2 z3
        subst h2 k2 l2
        replace h4 : t1a = (akW (w0 ops)).ac := h4.trans akW_fin
        replace k4 : t2a = (akR 2 (rgo (a % 6)).st).ac := k4.trans akR_fin
        replace l4 : t3a = (akR 3 (rgo (b % 6)).st).ac := l4.trans akR_fin
        subst h4 k4 l4
        subst h5 k5 l5 x1
        have lN : ((B.and Ms).and N).le (B.and [rStar Ms, rStar N]) := Bs.le2
        have hF2 := hF.set (p := 56) (Nat.le_refl _) ⟨17, 0, 0⟩
        have hM : WMm (Me.new 3 (ws.set 56 ⟨17, 0, 0⟩)) m0 := by
          refine ⟨top_new 3 (i := 1) (w := ⟨1, 0, 0⟩) hF2.era, fun t g1 g2 => ?_, top_new 3 (i := 56) (w := ⟨17, 0, 0⟩) (by rw [List.getElem?_set_self (by rw [hF.len]; decide)])⟩
          show ((Me.new 3 (ws.set 56 ⟨17, 0, 0⟩)).top (8 * t)).w.v = 0
          obtain rfl | rfl | rfl : t = 1 ∨ t = 2 ∨ t = 3 := by omega
          · exact congrArg W3.v (top_new 3 (i := 8) (w := W0) hF2.ann.1)
          · exact congrArg W3.v (top_new 3 (i := 16) (w := W0) hF2.ann.2.1)
          · exact congrArg W3.v (top_new 3 (i := 24) (w := W0) hF2.ann.2.2)
        have hK : Kk 3 376 1 ⟨Me.new 3 (ws.set 56 ⟨17, 0, 0⟩), Li.new (ws.set 56 ⟨17, 0, 0⟩)⟩ := by
          have := Kk.new (T := 3) (ws := ws.set 56 ⟨17, 0, 0⟩) (by decide) (by rw [hF2.len]; decide)
          rw [hF2.len] at this
          exact this
        exact ⟨hZ.le (Bs.le_and _ _), sOf_PI hl _ _, ⟨Me.new 3 (ws.set 56 ⟨17, 0, 0⟩), Li.new (ws.set 56 ⟨17, 0, 0⟩)⟩, f', t2v, t3v, (none, 0, 0), (none, 0, 0), (none, 0, 0), [], [], [], hW.le lN, hK, hM, x2.le lN, y1, z1, rfl, Nat.zero_le _, Nat.zero_le _, Nat.zero_le _⟩
    subst hMs
    have c6 := c.pick [9, 6, 8, 5]
    replace c6 : Cx _ _ _ ([_] ++ [_, _, _]) := c6
    exact hR w [rStar _, rStar N] _ (Cx.pack (L := []) (c6.pack.pick [1, 0])) fin
end
end Go.En
