/-
  Layer 33: how many words are read; a push and a pop behind other reads.
-/
import Derived.Test.YtalhmlnmbgpleaaDoorYD
namespace Go.En
open Prog Spc Go.Sort

variable {S : Sys} {I : Ids} {h h0 h' : Hp} {F F0 : Fp} {R : Value → Hp → Prop} {L : List Res} {s : Value} {σ τ : Spc}
section
variable {α : Type} {k : Nat} {p : Pl} {root v : Int}
theorem cost_mk {q : Int → Prog α} (h : ∀ v, costLe k (q v)) : costLe k (mk >>= q) := h
theorem cost_sMore {q : Unit → Prog α} {x : Int} (h : costLe k (q ())) : costLe (k + 4) (sMore root x >>= q) := by
  show costLe (k + 4) (gt (root + 1) >>= fun v => pt (root + 1) (w64 (v + x)) >>= fun _ => gt (root + 7) >>= fun v => pt (root + 7) (w64 (v + x)) >>= q)
  exact cost_gt fun _ => cost_pt (cost_gt fun _ => cost_pt h)
theorem cost_un {q : Unit → Prog α} {e m : Int} (h : costLe k (q ())) : costLe k (dUn e m >>= q) := by
  unfold dUn
  split <;> exact h
theorem cost_sPush : costLe 14 (sPush p root v) := by
  unfold sPush
  refine cost_mk fun m => ?_
  refine costLe.bind (m := 8) (fun t => ?_) cost_take
  refine cost_ite (cost_un trivial) ?_
  refine cost_gt fun _ => cost_pt (cost_pt (cost_pt ?_))
  exact cost_sMore (cost_un trivial)
theorem cost_sPop : costLe 13 (sPop p root) := by
  unfold sPop
  refine cost_mk fun m => ?_
  refine cost_gt fun a => ?_
  refine cost_ite (cost_un trivial) (cost_ite ?_ (cost_un trivial))
  refine cost_gt fun _ => cost_gt fun _ => ?_
  refine costLe.bind (m := 5) (fun e => ?_) cost_give
  exact cost_ite (cost_un trivial) (cost_pt (cost_sMore (cost_un trivial)))
end
section
variable {n r r' v : Int} {m : Int → Int} {vs vs' : List Int} {ps : List (Int × W3)} {V : Int}
theorem Two.left (hn : 0 ≤ n ∧ n ≤ 16) (H : Two n r r' m vs vs') (S : Sm D33 σ σ m 0) : wp (pLeft (p33 n)) σ fun e σ' => Sm D33 σ σ' m 0 ∧ e = n - vs.length - vs'.length := by
  obtain ⟨fr, out, P, hc⟩ := H.full
  have hD := p33_D hn
  have g := P.good
  have h1 : out ≤ n := P.out1
  have e1 : m (1 + 1) = out := P.outE
  have e2 : m (1 + 2) = fr.length := P.frE
  have hl := H.len
  unfold pLeft
  rw [if_pos g]
  refine wp_get S (hD.r 2 (by omega) (by omega)) fun σ1 S1 => ?_
  refine wp_get S1 (hD.r 1 (by omega) (by omega)) fun σ2 S2 => ?_
  refine ⟨S2, ?_⟩
  show max (w64 (w64 (m (1 + 2) + n) - m (1 + 1))) 0 = _
  have e3 : w64 ((fr.length : Int) + n) = fr.length + n := w64_R ⟨by omega, by omega⟩
  have e4 : w64 ((fr.length : Int) + n - out) = fr.length + n - out := w64_R ⟨by omega, by omega⟩
  rw [e1, e2, e3, e4]
  omega
/-- a space on a world that is only read, little -/
theorem Rd33.pl (H : Rd33 ps m σ) : σ.pu.length + 12 ≤ big := by rw [H.pu]; show 0 + 12 ≤ big; decide
theorem Rd33.fin {σ' : Spc} {m' : Int → Int} {c : Nat} (H : Rd33 ps m σ) (W : WoR 192 ps m V) (g : Gd σ') (S' : Sm D33 σ σ' m' c) (hc : c ≤ 1000) (hr : σ'.rd.length ≤ 32) : Good 192 ps σ' := by
  refine ⟨g, S'.kn.trans (H.sm.kn.trans W.kn), S'.en, .inl hr, ?_⟩
  have := S'.len
  rw [H.pu, List.length_nil] at this
  omega
theorem push_from (H : Rd33 ps m σ) (hl : σ.rd.length ≤ 8) (W : WoR 192 ps m V) (hr : R33 n r r') (T : Two n r r' m vs vs') (hv : R64 v) : wp (sPush (p33 n) r v) σ fun e σ' => Good 192 ps σ' ∧
    ((e = 0 ∧ (vs.length : Int) + vs'.length < n ∧ Two n r r' σ'.vw (v :: vs) vs') ∨ (e = 9 ∧ n ≤ (vs.length : Int) + vs'.length ∧ σ'.vw = m)) := by
  refine Prog.wp_mono (wp_gd H.gd (wp_cost cost_sPush (T.push hr H.sm.fresh hv H.pl))) ?_
  rintro e σ' ⟨g, _, _, hc, m', S', hq⟩
  have hm : σ'.vw = m' := funext S'.vw
  rw [hm]
  exact ⟨H.fin W g S' (by decide) (by omega), hq⟩
theorem pop_from (H : Rd33 ps m σ) (hl : σ.rd.length ≤ 8) (W : WoR 192 ps m V) (hr : R33 n r r') (T : Two n r r' m vs vs') : wp (sPop (p33 n) r) σ fun e σ' => Good 192 ps σ' ∧ e = topV vs ∧ Two n r r' σ'.vw vs.tail vs' := by
  refine Prog.wp_mono (wp_gd H.gd (wp_cost cost_sPop (T.pop hr H.sm.fresh H.pl))) ?_
  rintro e σ' ⟨g, _, _, hc, m', S', he, hq⟩
  have hm : σ'.vw = m' := funext S'.vw
  rw [hm]
  exact ⟨H.fin W g S' (by decide) (by omega), he, hq⟩
end
theorem WoR.le {N : Nat} {ps : List (Int × W3)} {m : Int → Int} {V V' : Int} (H : WoR N ps m V) (h : V ≤ V') : WoR N ps m V' := ⟨H.nd, H.dom, fun a w hw => let ⟨h1, h2, h3, h4⟩ := H.val a w hw; ⟨h1, h2, h3, by omega⟩, H.out, H.rg⟩
structure CsS9' (S : Sys) (I : Ids) : Prop extends CsS8' S I where
  uturns1 : ∀ {s a b c d : Value} {h K}, F_simulcastlaw33_StackTurns_1 S I s a b c d h K → S.C I.f_simulcastlaw33_StackTurns_1 [s, a, b, c, d] h K
  uturns2 : ∀ {s a b c : Value} {h K}, F_simulcastlaw33_StackTurns_2 S I s a b c h K → S.C I.f_simulcastlaw33_StackTurns_2 [s, a, b, c] h K
section
variable {x : X33} {n v a b : Int} {ps : List (Int × W3)} {m : Int → Int} {V : Int} {wv : Value} {vs vs' : List Int} {K : Value → Hp → Prop} {rx rl rv re : Nat} {X : Res}
theorem K_turns1 (cs : CsS9' S I) (hp : x.p = p33 n) (hn : 0 ≤ n ∧ n ≤ 16) (W : WoR 192 ps m V) (T : Two n (rt 0) (rt 1) m vs vs') (hv : R64 v) (hRt : Rt F h0)
    (c : Cx F h0 h [rMp .i64 mW wv ps, rSpace s (newS ps), rVar ESt rx x, rVar EI1 rl a, rVar EI1 rv v, rVar EI1 re b, X])
    (hk : ∀ σ' e h2, Good 192 ps σ' → ((e = 0 ∧ (vs.length : Int) + vs'.length < n ∧ Two n (rt 0) (rt 1) σ'.vw (v :: vs) vs') ∨ (e = 9 ∧ n ≤ (vs.length : Int) + vs'.length ∧ σ'.vw = m)) →
      Cx F h0 h2 [rMp .i64 mW wv ps, rSpace s σ', rVar ESt rx x, rVar EI1 rl (n - vs.length - vs'.length), rVar EI1 rv v, rVar EI1 re e, X] → K (.tuple #[]) h2) :
    F_simulcastlaw33_StackTurns_1 S I s (at0 rx) (at0 rl) (at0 rv) (at0 re) h K := by
  have hr := r33_j hn (.inl rfl : (0 : Nat) = 0 ∨ (0 : Nat) = 1)
  unfold F_simulcastlaw33_StackTurns_1
  refine c.getP (i := 2) rfl ?_
  rw [hp]
  have g0 := W.rd33
  refine c.last cs.left 1 rfl (wp_cost cost_left (g0.wp (Q := fun e => e = n - vs.length - vs'.length) (T.left hn g0.sm))) fun e σ1 h1 c ⟨hl, R1, ee⟩ => ?_
  subst ee
  have hl : σ1.rd.length ≤ 8 := Nat.le_trans hl (by show 0 + 2 ≤ 8; decide)
  refine c.sto1 3 rfl (n - vs.length - vs'.length) rfl rfl fun h2 c => ?_
  refine c.getP (i := 2) rfl ?_
  rw [hp]
  refine (c.toRt hRt).get (j := 0) (.inl rfl) rfl ?_
  rw [(c.va (i := 4) rfl).one rfl, vb_some]
  refine c.last (cs.spush rt_le) 1 rfl (push_from R1 hl W hr T hv) fun e σ2 h3 c ⟨hg, hq⟩ => ?_
  refine c.sto1 5 rfl e rfl rfl fun h4 c => ?_
  exact hk σ2 e h4 hg hq c
theorem K_turns2 (cs : CsS9' S I) (hp : x.p = p33 n) (hn : 0 ≤ n ∧ n ≤ 16) (W : WoR 192 ps m V) (T : Two n (rt 0) (rt 1) m vs vs') (hRt : Rt F h0)
    (c : Cx F h0 h [rMp .i64 mW wv ps, rSpace s (newS ps), rVar ESt rx x, rVar EI1 rv a, rVar EI1 re b, X])
    (hk : ∀ σ' h2, Good 192 ps σ' → Two n (rt 0) (rt 1) σ'.vw vs.tail vs' → Cx F h0 h2 [rMp .i64 mW wv ps, rSpace s σ', rVar ESt rx x, rVar EI1 rv (topV vs).1, rVar EI1 re (topV vs).2, X] → K (.tuple #[]) h2) :
    F_simulcastlaw33_StackTurns_2 S I s (at0 rx) (at0 rv) (at0 re) h K := by
  have hr := r33_j hn (.inl rfl : (0 : Nat) = 0 ∨ (0 : Nat) = 1)
  unfold F_simulcastlaw33_StackTurns_2
  refine c.getP (i := 2) rfl ?_
  rw [hp]
  refine (c.toRt hRt).get (j := 0) (.inl rfl) rfl ?_
  refine c.last (cs.spop rt_le) 1 rfl (pop_from W.rd33 (Nat.zero_le _) W hr T) fun e σ2 h3 c ⟨hg, ee, T'⟩ => ?_
  subst ee
  unfold uE
  refine ext0t (ext1t ?_)
  refine c.sto1 3 rfl (topV vs).1 rfl rfl fun h4 c => ?_
  refine c.sto1 4 rfl (topV vs).2 rfl rfl fun h5 c => ?_
  exact hk σ2 h5 hg T' c
end
end Go.En
