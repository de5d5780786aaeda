/-
  Layer 33: the law Broken.
-/
import Derived.Test.YtalhmlnmbgpleaaDoorYE
namespace Go.En
open Prog Spc Go.Sort

variable {S : Sys} {I : Ids} {h h0 h' : Hp} {F F0 : Fp} {R : Value → Hp → Prop} {L : List Res} {s : Value} {σ τ : Spc}
def EH33 : Enc SH := { n := 1, c := fun a => [shV a], len := fun _ => rfl, one := fun a v h => by simp only [List.mem_singleton] at h; subst h; rfl }
section
variable {n v a : Int} {m : Int → Int} {ps qs : List (Int × W3)} {V : Int} {j : Nat}
theorem WoR.set {N : Nat} {w : W3} (H : WoR N ps m V) (ha : 0 ≤ a ∧ a < (N : Int)) (hv : R64 w.v) (h0 : w.ref = 0) (h1 : 0 ≤ w.ver ∧ w.ver ≤ V) : WoR N (updA ps a w) (upd m a w.v) V := by
  refine ⟨nodup_updA _ _ H.nd, fun b => ?_, fun b u hu => ?_, fun b hb => ?_, fun b => ?_⟩
  · rw [lookA_updA]
    split
    · rename_i e
      subst e
      exact ⟨fun _ => ha, fun _ => rfl⟩
    · exact H.dom b
  · rw [lookA_updA] at hu
    unfold upd
    split at hu
    · rename_i e
      injection hu with hu
      subst hu
      rw [if_pos e]
      exact ⟨rfl, h0, h1⟩
    · rename_i e
      rw [if_neg e]
      exact H.val b u hu
  · unfold upd
    split
    · rename_i e
      subst e
      exact absurd ha hb
    · exact H.out b hb
  · unfold upd
    split
    · exact hv
    · exact H.rg b
theorem push_wild (W : WoR 192 ps m V) (hn : 0 ≤ n ∧ n ≤ 16) (hj : j = 0 ∨ j = 1) (hv : R64 v) : wp (sPush (p33 n) (rt j) v) (newS ps) fun e σ' => Good 192 ps σ' ∧ (e ≠ 0 → σ'.pu = []) := by
  have hr := r33_j hn hj
  refine Prog.wp_mono (wp_gd W.gd (wp_cost cost_sPush (wd_sPush (A := D33) W.gd.wf (p33_D hn) hr.D hv W.rd33.pl))) ?_
  rintro e σ' ⟨g, _, _, hc, H, he⟩
  have hen := H.en rfl W.sm33.dom
  have hl := H.len
  refine ⟨⟨g, H.kn.trans W.kn, hen, .inl (Nat.le_trans hc (by show 0 + 14 ≤ 32; decide)), Nat.le_trans hl (by show 0 + 12 ≤ 1000000; decide)⟩, fun h => he h hen⟩
theorem pop_wild (W : WoR 192 ps m V) (hn : 0 ≤ n ∧ n ≤ 16) (hj : j = 0 ∨ j = 1) : wp (sPop (p33 n) (rt j)) (newS ps) fun e σ' => Good 192 ps σ' ∧ (e.2 ≠ 0 → σ'.pu = []) := by
  have hr := r33_j hn hj
  refine Prog.wp_mono (wp_gd W.gd (wp_cost cost_sPop (wd_sPop (A := D33) W.gd.wf (p33_D hn) hr.D W.rd33.pl))) ?_
  rintro e σ' ⟨g, _, _, hc, H, he⟩
  have hen := H.en rfl W.sm33.dom
  have hl := H.len
  refine ⟨⟨g, H.kn.trans W.kn, hen, .inl (Nat.le_trans hc (by show 0 + 13 ≤ 32; decide)), Nat.le_trans hl (by show 0 + 12 ≤ 1000000; decide)⟩, fun h => he h hen⟩
theorem Good.same (H : Good 192 ps σ) (W : WoR 192 ps m V) (hp : σ.pu = []) : σ.vw = m := by
  funext b
  rw [vw_old (by rw [hp]; rfl), H.kn]
  have := W.sm33.vw b
  rw [vw_old (by rfl), W.kn] at this
  exact this
end
structure CsS10' (S : Sys) (I : Ids) : Prop extends CsS9' S I where
  ubrk1 : ∀ {s a b c d : Value} {h K}, F_simulcastlaw33_StackBroken_1 S I s a b c d h K → S.C I.f_simulcastlaw33_StackBroken_1 [s, a, b, c, d] h K
  ubrk2 : ∀ {s a b c d : Value} {h K}, F_simulcastlaw33_StackBroken_2 S I s a b c d h K → S.C I.f_simulcastlaw33_StackBroken_2 [s, a, b, c, d] h K
section
variable {n v a b : Int} {ps : List (Int × W3)} {m : Int → Int} {V : Int} {wv : Value} {K : Value → Hp → Prop} {rc rp rr re rw_ rf : Nat} {X : Res} {j : Nat} {cc : C33}
theorem K_broken1 (cs : CsS10' S I) (hc : cc.ok) (hn : 0 ≤ n ∧ n ≤ 16) (hj : j = 0 ∨ j = 1) (W : WoR 192 ps m V)
    (c : Cx F h0 h [rMp .i64 mW wv ps, rSpace s (newS ps), rVar ECs rc cc, rVar EPl rp (p33 n), rVar EI1 rr (rt j), rVar EI1 re b, X])
    (hk : ∀ σ' e h2, Good 192 ps σ' → (e ≠ 0 → σ'.pu = []) → Cx F h0 h2 [rMp .i64 mW wv ps, rSpace s σ', rVar ECs rc cc, rVar EPl rp (p33 n), rVar EI1 rr (rt j), rVar EI1 re e, X] → K (.tuple #[]) h2) :
    F_simulcastlaw33_StackBroken_1 S I s (at0 rc) (at0 rp) (at0 rr) (at0 re) h K := by
  have hd := hc.d
  unfold F_simulcastlaw33_StackBroken_1
  refine (c.va (i := 2) rfl).fld (j := 0) rfl ?_
  rw [show bin .rem (.int .u8 cc.d) (.int .u8 3) = some (.int .u8 (cc.d % 3)) by rw [bin_rem (by omega), Int.tmod_eq_emod_of_nonneg hd.1], vb_some, bin_lss, vb_some]
  refine brd (fun e => ?_) fun e => ?_
  · rw [plA (i := 3) c rfl, vb_some, (c.va (i := 4) rfl).one rfl, vb_some]
    refine (c.va (i := 2) rfl).fld (j := 2) rfl ?_
    refine c.last (cs.spush rt_le) 1 rfl (push_wild W hn hj hc.v) fun e σ2 h3 c ⟨hg, hq⟩ => ?_
    refine c.sto1 5 rfl e rfl rfl fun h4 c => ?_
    exact hk σ2 e h4 hg hq c
  · rw [plA (i := 3) c rfl, vb_some, (c.va (i := 4) rfl).one rfl, vb_some]
    refine c.last (cs.spop rt_le) 1 rfl (pop_wild W hn hj) fun e σ2 h3 c ⟨hg, hq⟩ => ?_
    unfold uE
    refine ext0t (ext1t ?_)
    refine c.sto1 5 rfl e.2 rfl rfl fun h4 c => ?_
    exact hk σ2 e.2 h4 hg hq c
theorem K_broken2 (cs : CsS10' S I) (hn : 0 ≤ n ∧ n ≤ 16) (hj : j = 0 ∨ j = 1) (W : WoR 192 ps m V) {u0 : SH}
    (c : Cx F h0 h [rMp .i64 mW wv ps, rSpace s (newS ps), rVar EPl rp (p33 n), rVar EI1 rr (rt j), rVar EH33 rw_ u0, rVar EI1 rf b, X])
    (hk : ∀ σ' u h2, Rd33 ps m σ' → Cx F h0 h2 [rMp .i64 mW wv ps, rSpace s σ', rVar EPl rp (p33 n), rVar EI1 rr (rt j), rVar EH33 rw_ u, rVar EI1 rf (if (lstM (p33 n) m (p33 n).nodes.toNat (m (rt j)) []).isSome then 0 else 24), X, rSl EI1 (shV u) ((lstM (p33 n) m (p33 n).nodes.toNat (m (rt j)) []).getD [])] → K (.tuple #[]) h2) :
    F_simulcastlaw33_StackBroken_2 S I s (at0 rp) (at0 rr) (at0 rw_) (at0 rf) h K := by
  have hr := r33_j hn hj
  have r0 := hr.D 0 (by omega) (by omega)
  rw [Int.add_zero] at r0
  unfold F_simulcastlaw33_StackBroken_2
  rw [plA (i := 2) c rfl, vb_some, (c.va (i := 3) rfl).one rfl, vb_some]
  obtain ⟨F1, c1, up⟩ := c.frame (i := 1) rfl
  refine cs.swalk (p := p33 n) rt_le ⟨hn.1, by show n ≤ 1000; omega⟩ c1 (W.rd33.wp (Q := fun o => o = lstM (p33 n) m (p33 n).nodes.toNat (m (rt j)) []) (Prog.wp_mono (wp_sWalkM W.sm33 (p33_D hn) r0) fun _ _ h => ⟨h.2, h.1⟩)) fun r σ1 v h1 M c1 ⟨R1, er⟩ => ?_
  subst er
  have c := up c1
  clear c1 up
  refine ext0t (ext1t ?_)
  obtain ⟨u, rfl⟩ := (c.sl (i := 7) rfl).isH
  refine c.sto1 4 rfl u rfl rfl fun h2 c => ?_
  refine c.sto1 5 rfl (if (lstM (p33 n) m (p33 n).nodes.toNat (m (rt j)) []).isSome then 0 else 24) rfl rfl fun h3 c => ?_
  exact hk σ1 u h3 R1 (c.pick [0, 1, 2, 3, 4, 5, 6, 7])
theorem K_ext (H : WoR 192 ps m V) {m' : Int → Int} (e : ∀ a, m a = m' a) : WoR 192 ps m' V := by
  have : m = m' := funext e
  exact this ▸ H
def vals33 (us : List Int) (i : Nat) : Int → Int := fun a => if 0 ≤ a ∧ a < (i : Int) then us.getD a.toNat 0 else 0
variable {b1 : Value} {us : List Int}
set_option maxRecDepth 4000 in
set_option maxHeartbeats 3200000 in
theorem L_StackBroken (cs : CsS10' S I) (s1 : Sl EI1 h b1 us) (w1 : ∀ y ∈ us, R64 y) (hn0 : 0 ≤ n ∧ n ≤ 255) (hc : cc.ok) (hRt : Rt (fun _ => False) h) (hR : ∀ h', Gr h h' → R (.bool true) h') : F_simulcastlaw33_StackBroken S I b1 (.int .u8 n) (vCs cc) h R := by
  unfold F_simulcastlaw33_StackBroken
  refine (Cx.start0 h).nw ECs cc rfl fun rc h1 c => ?_
  rw [s1.ln, vb_some, bin_gtr, vb_some]
  refine brd (fun _ => cs.awake (hRt.gr c.gr) fun h4 g => hR h4 (c.more g).gr) fun hlen => ?_
  refine cs.fresh fun k h2 c2 => ?_
  have c := c.frame0 c2
  clear c2
  rw [vb_some]
  refine Lp1.by (fun (z : Nat × List (Int × W3)) v h' => v = .int .i64 z.1 ∧ z.1 ≤ us.length ∧ WoR 192 z.2 (vals33 us z.1) 192 ∧ Cx (fun _ => False) h h' [rVar ECs rc cc, rMp .i64 mW (.map (some k)) z.2]) (fun z => us.length - z.1) (0, knF (fun _ => W0) 192)
    ⟨rfl, Nat.zero_le _, K_ext (WoR.fresh.le (by decide)) fun a => by unfold vals33; rw [if_neg (by dsimp only; omega)], c⟩ ?_
  clear c
  rintro ⟨i, ps⟩ v h3 ⟨rfl, hi, W, c⟩ again hagain
  dsimp only at *
  rw [bin_lss, vb_some]
  refine brd (fun hlt => ?_) fun hge => ?_
  · have hlt : i < us.length := by omega
    have hx : us[i]? = some us[i] := List.getElem?_eq_getElem hlt
    have hok := w1 us[i] (List.getElem_mem _)
    generalize us[i] = u at *
    refine (s1.gr c.gr).one rfl hx rfl rfl ?_
    rw [show cvi .u32 (.int .i64 (i : Int)) = some (.int .u32 (i : Int)) by
      rw [cvi_int]
      congr 2
      simp only [IntKind.wrap, IntKind.bits, IntKind.signed]
      simp
      omega, vb_some]
    refine En.vb (v := mW ⟨u, (i : Int), 0⟩) (by kernel_rfl) ?_
    refine c.mup 1 rfl (i : Int) (⟨u, (i : Int), 0⟩ : W3) rfl fun h4 c => ?_
    rw [bin_add, vb_some, wrS (by omega)]
    refine hagain (i + 1, _) _ _ ⟨rfl, by dsimp only; omega, ?_, c⟩ (by dsimp only; omega)
    refine K_ext (W.set (a := (i : Int)) (w := ⟨u, (i : Int), 0⟩) ⟨by omega, by omega⟩ hok rfl ⟨by dsimp only; omega, by dsimp only; omega⟩) fun a => ?_
    unfold upd vals33
    dsimp only
    by_cases e : a = (i : Int)
    · rw [if_pos e, if_pos (by omega), e]
      simp [List.getD, hx]
    · rw [if_neg e]
      by_cases e2 : 0 ≤ a ∧ a < (i : Int)
      · rw [if_pos e2, if_pos (by omega)]
      · rw [if_neg e2, if_neg (by omega)]
  clear hagain again hge
  generalize vals33 us i = m at *
  have hnn : 0 ≤ n % 17 ∧ n % 17 ≤ 16 := by omega
  refine cs.nodes hn0 fun h4 g => ?_
  have c := c.more g
  generalize n % 17 = n at *
  obtain ⟨j, hj, ej, ej'⟩ := modj hc
  have hrj := r33_j hnn hj
  refine c.nw EPl ⟨0, 0, 0⟩ rfl fun rp h5 c => ?_
  refine c.sto 2 rfl (p33 n) rfl rfl fun h6 c => ?_
  refine (c.va (i := 0) rfl).fld (j := 1) rfl ?_
  rw [remj hc, vb_some, ej]
  refine (c.toRt hRt).get hj rfl ?_
  refine c.nw EI1 0 rfl fun rr h7 c => ?_
  refine c.sto1 3 rfl (rt j) rfl rfl fun h8 c => ?_
  refine c.nw EI1 0 rfl fun re h9 c => ?_
  refine c.nw EI1 0 rfl fun rf h10 c => ?_
  refine c.nw EH33 (none, 0, 0) rfl fun rw_ h11 c => ?_
  rw [vb_some]
  have c := Cx.pack (L := [rMp .i64 mW (.map (some k)) ps, rVar ECs rc cc, rVar EPl rp (p33 n), rVar EI1 rr (rt j), rVar EI1 re 0]) (M := [rVar EH33 rw_ (none, 0, 0), rVar EI1 rf 0]) (c.pick [1, 0, 2, 3, 4, 6, 5])
  refine cs.done (G := fun L' σ' => ∃ e, Good 192 ps σ' ∧ (e ≠ 0 → σ'.pu = []) ∧ L' = [rVar ECs rc cc, rVar EPl rp (p33 n), rVar EI1 rr (rt j), rVar EI1 re e, rStar [rVar EH33 rw_ (none, 0, 0), rVar EI1 rf 0]])
    (by decide) W (by decide) (fun L' σ' ⟨_, hg, _⟩ => hg) c (fun s h1 K c kk => ?_) fun L' σ' ps' nv ev h10 ⟨e, hg, he, eL⟩ W' c => ?_
  · exact .inl ⟨_, _, _, rfl, cs.ubrk1 (K_broken1 cs hc hnn hj W c fun σ' e h2 hg hq c => kk _ σ' h2 ⟨e, hg, hq, rfl⟩ c)⟩
  subst eL
  refine ext3 ?_
  rw [vb_some]
  have c := Cx.unpack (L := [rMp .i64 mW (.map (some k)) ps, rMp .i64 mW nv ps', rVar EPl rp (p33 n), rVar EI1 rr (rt j), rVar EI1 re e]) (M := [rVar EH33 rw_ (none, 0, 0), rVar EI1 rf 0]) (c.pick [0, 1, 4, 5, 6, 7])
  have c := Cx.pack (L := [rMp .i64 mW (.map (some k)) ps, rVar EPl rp (p33 n), rVar EI1 rr (rt j), rVar EH33 rw_ (none, 0, 0), rVar EI1 rf 0]) (M := [rMp .i64 mW nv ps', rVar EI1 re e]) (c.pick [0, 2, 3, 5, 6, 1, 4])
  obtain ⟨ro, hro⟩ : ∃ ro, ro = lstM (p33 n) m (p33 n).nodes.toNat (m (rt j)) [] := ⟨_, rfl⟩
  refine cs.done (G := fun L' σ' => ∃ u, Rd33 ps m σ' ∧ L' = [rVar EPl rp (p33 n), rVar EI1 rr (rt j), rVar EH33 rw_ u, rVar EI1 rf (if ro.isSome then 0 else 24), rStar [rMp .i64 mW nv ps', rVar EI1 re e], rSl EI1 (shV u) (ro.getD [])])
    (by decide) W (by decide) (fun L' σ' ⟨_, hg, _⟩ => hg.good W) c (fun s h1 K c kk => ?_) fun L' σ'' ps'' nv2 ev2 h12 ⟨u, hg2, eL⟩ W'' c => ?_
  · exact .inl ⟨_, _, _, rfl, cs.ubrk2 (K_broken2 cs hnn hj W c fun σ' u h2 hg c => kk _ σ' h2 ⟨u, hg, rfl⟩ (by rw [hro]; exact c))⟩
  subst eL
  clear W''
  refine ext3 ?_
  have c := Cx.unpack (L := [rMp .i64 mW (.map (some k)) ps, rVar EPl rp (p33 n), rVar EI1 rr (rt j), rVar EH33 rw_ u, rVar EI1 rf (if ro.isSome then 0 else 24), rSl EI1 (shV u) (ro.getD [])]) (M := [rMp .i64 mW nv ps', rVar EI1 re e]) (c.pick [0, 3, 4, 5, 6, 8, 7])
  have c : Cx (fun _ => False) h h12 [rMp .i64 mW nv ps', rMp .i64 mW (.map (some k)) ps, rVar EPl rp (p33 n), rVar EI1 rr (rt j), rVar EH33 rw_ u, rVar EI1 rf (if ro.isSome then 0 else 24), rSl EI1 (shV u) (ro.getD []), rVar EI1 re e] := c.pick [6, 0, 1, 2, 3, 4, 5, 7]
  refine Jn1.at (fun v h' => v = .bool false ∧ Cx (fun _ => False) h h' [rMp .i64 mW (.map (some k)) ps, rVar EPl rp (p33 n), rVar EI1 rr (rt j), rVar EH33 rw_ u, rVar EI1 rf (if ro.isSome then 0 else 24), rSl EI1 (shV u) (ro.getD [])]) ?_ ?_
  · rw [uno_nb, vb_some, Bool.not_true, br_false, vb_some, br_false, (c.va (i := 7) rfl).one rfl, vb_some, bin_neq, vb_some]
    refine brd (fun h => ?_) fun h => ⟨rfl, c.pick [1, 2, 3, 4, 5, 6]⟩
    rw [hg.same W (he h)] at W'
    have c := c.pick [1, 0, 2, 3, 4, 5, 6]
    refine cs.alike W W' c fun h13 c => ?_
    rw [uno_nb, vb_some]
    exact ⟨rfl, c.pick [0, 2, 3, 4, 5, 6]⟩
  clear c hg he W' hg2
  rintro v h13 ⟨rfl, c⟩
  rw [br_false, (c.va (i := 2) rfl).one rfl, vb_some, (c.mp (i := 0) rfl).look, vb_some]
  have lk : ∀ a, D33 a → ∃ w, lookA ps a = some w ∧ w.v = m a := fun a ha => by
    obtain ⟨w, hw⟩ := Option.isSome_iff_exists.1 ((W.dom a).2 ⟨ha.1, ha.2⟩)
    exact ⟨w, hw, (W.val a w hw).1⟩
  have r0 := hrj.D 0 (by omega) (by omega)
  rw [Int.add_zero] at r0
  obtain ⟨w, hw, hv⟩ := lk _ r0
  rw [hw]
  refine En.vb (show fdc 0 (mW w) = some (.int .i64 w.v) from rfl) ?_
  rw [hv]
  have c := c.nil EI1
  have hD := p33_D hnn
  refine Lp3.by (fun (z : Nat × Int × List Int × Bool) wv v q h' => v = .int .i64 z.2.1 ∧ q = .bool z.2.2.2 ∧ R64 z.2.1 ∧ (z.2.2.2 = false → (z.2.2.1.length : Int) + z.1 = n ∧ ro = lstM (p33 n) m z.1 z.2.1 z.2.2.1) ∧ (z.2.2.2 = true → ro = none) ∧
      Cx (fun _ => False) h h' [rMp .i64 mW (.map (some k)) ps, rVar EPl rp (p33 n), rVar EI1 rr (rt j), rVar EH33 rw_ u, rVar EI1 rf (if ro.isSome then 0 else 24), rSl EI1 (shV u) (ro.getD []), rSl EI1 wv z.2.2.1]) (fun z => if z.2.2.2 then 0 else z.1 + 1)
    (n.toNat, m (rt j), [], false) ⟨rfl, rfl, W.rg _, (fun _ => ⟨by dsimp only; rw [List.length_nil]; omega, hro⟩), (fun h => by cases h), c⟩ ?_
  clear c
  rintro ⟨kk, a, acc, lost⟩ wv v q h14 ⟨rfl, rfl, hra, hf, ht, c⟩ again hagain
  dsimp only at *
  have exit : (lost = true ∨ a = 0) → Br (.bool lost) (Jn1 (fun v6 h23 => R v6 h23) fun J3 =>
                    Vb (ldc (at0 rf) h14) fun v120 =>
                    Vb (bin .eql v120 (Value.int IntKind.i64 24)) fun v121 =>
                    Br v121 (
                      Vb (ldc (at0 rw_) h14) fun v123 =>
                      Vb (lnS v123) fun v124 =>
                      Vb (bin .eql v124 (Value.int IntKind.i64 0)) fun v125 =>
                      Br v125 (
                        S.C I.f_simulcastlaw33_awake [] h14 fun v128 h24 =>
                        J3 v128 h24) (
                        J3 (Value.bool false) h14)) (
                      J3 (Value.bool false) h14)) (
                    Jn1 (fun v6_1 h25 =>
                        R v6_1 h25) fun J4 =>
                    Vb (ldc (at0 rf) h14) fun v130 =>
                    Vb (bin .eql v130 (Value.int IntKind.i64 0)) fun v131 =>
                    Br v131 (
                      Vb (ldc (at0 rw_) h14) fun v133 =>
                      S.C I.f_slices_Equal_int64_int64 [v133, wv] h14 fun v135 h26 =>
                      Br v135 (
                        S.C I.f_simulcastlaw33_awake [] h26 fun v138 h27 =>
                        J4 v138 h27) (
                        J4 (Value.bool false) h26)) (
                      J4 (Value.bool false) h14)) := fun hx => by
    cases lost with
    | true =>
      have er := ht rfl
      rw [er] at c
      rw [br_true]
      refine .here ?_
      rw [(c.va (i := 4) rfl).one rfl, vb_some]
      refine En.vb (v := .bool true) rfl ?_
      rw [br_true, (c.va (i := 3) rfl).one rfl, vb_some, (c.sl (i := 5) rfl).sl.ln, vb_some]
      refine En.vb (v := .bool true) rfl ?_
      rw [br_true]
      exact cs.awake (hRt.gr c.gr) fun h4 g => hR h4 (c.more g).gr
    | false =>
      have ea : a = 0 := hx.resolve_left (by simp)
      obtain ⟨hl, er⟩ := hf rfl
      have er : ro = some acc := by
        rw [er]
        cases kk with
        | zero => unfold lstM; rw [if_pos ea]
        | succ kk => unfold lstM; rw [if_pos ea]
      rw [er] at c
      rw [br_false]
      refine .here ?_
      rw [(c.va (i := 4) rfl).one rfl, vb_some]
      refine En.vb (v := .bool true) rfl ?_
      rw [br_true, (c.va (i := 3) rfl).one rfl, vb_some]
      refine cs.equal (l := acc) (c.sl (i := 5) rfl).sl (c.sl (i := 6) rfl).sl (by omega) ?_
      rw [br_true]
      exact cs.awake (hRt.gr c.gr) fun h4 g => hR h4 (c.more g).gr
  refine .here ?_
  rw [bin_neq, vb_some]
  refine brd (fun hne => ?_) fun heq => ?_
  · rw [uno_nb, vb_some]
    cases lost with
    | true => exact exit (.inl rfl)
    | false =>
      obtain ⟨hl, er⟩ := hf rfl
      show Br (.bool true) _ _
      rw [br_true, plA (i := 1) c rfl, vb_some]
      refine c.pur (cs.node hra) fun h15 c => ?_
      unfold vN
      refine ext0t (ext1t ?_)
      refine .here ?_
      rw [uno_nb, vb_some]
      have toLost : ro = none → again wv (.int .i64 a) (.bool true) h15 := fun e0 => hagain (kk, a, acc, true) _ _ _ _ ⟨rfl, rfl, hra, (fun h => by cases h), fun _ => e0, c⟩ (by simp)
      cases hno : (p33 n).node a with
      | none =>
        rw [Option.isSome_none, Bool.not_false, br_true]
        show Br (.bool true) _ _
        rw [br_true]
        refine toLost ?_
        rw [er]
        cases kk with
        | zero => unfold lstM; rw [if_neg hne]
        | succ kk => unfold lstM; rw [if_neg hne, hno, if_neg (by simp)]
      | some nd =>
        rw [Option.isSome_some, Bool.not_true, br_false, (c.sl (i := 6) rfl).sl.ln, vb_some]
        refine (c.va (i := 1) rfl).fld (j := 2) rfl ?_
        show Vb (bin .geq (.int .i64 (acc.length : Int)) (.int .i64 n)) _
        rw [bin_geq, vb_some]
        refine brd (fun hge => ?_) fun hlt => ?_
        · refine toLost ?_
          rw [er]
          have ek : kk = 0 := by omega
          subst ek
          unfold lstM; rw [if_neg hne]
        · obtain ⟨kk, rfl⟩ : ∃ k', kk = k' + 1 := ⟨kk - 1, by omega⟩
          have hN := node_isN (p := p33 n) (x := a) (by rw [hno]; rfl)
          have d0 := hD.n a hN 0 (by omega) (by omega)
          rw [Int.add_zero] at d0
          have d1 := hD.n a hN 1 (by omega) (by omega)
          obtain ⟨w0, hw0, hv0⟩ := lk _ d0
          obtain ⟨w1', hw1, hv1⟩ := lk _ d1
          have hd1 := d1.1
          have hd2 := d1.2
          refine En.vb (addI ⟨by omega, by omega⟩) ?_
          rw [(c.mp (i := 0) rfl).look, vb_some, hw1]
          refine En.vb (show fdc 0 (mW w1') = some (.int .i64 w1'.v) from rfl) ?_
          rw [hv1]
          refine c.app1 6 rfl (m (a + 1)) rfl rfl rfl (by omega) (by omega) fun w2 h16 c => ?_
          rw [(c.mp (i := 0) rfl).look, vb_some, hw0]
          refine En.vb (show fdc 0 (mW w0) = some (.int .i64 w0.v) from rfl) ?_
          rw [hv0]
          refine hagain (kk, m a, acc ++ [m (a + 1)], false) _ _ _ _ ⟨rfl, rfl, W.rg _, (fun _ => ⟨by dsimp only; rw [List.length_append, List.length_singleton]; omega, ?_⟩), (fun h => by cases h), c⟩ (by simp)
          rw [er]
          show lstM (p33 n) m (kk + 1) a acc = _
          rw [lstM, if_neg hne, hno, if_pos (by rfl)]
  · exact exit (.inr (by omega))
end
end Go.En
