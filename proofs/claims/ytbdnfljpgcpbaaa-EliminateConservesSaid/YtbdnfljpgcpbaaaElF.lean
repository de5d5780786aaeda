/-
  Layer 53: Apply and Fast, and the reference's.
-/
import Derived.Test.YtbdnfljpgcpbaaaElE
namespace Go.En
variable {S : Sys} {I : Ids} {h : Hp} {R : Value → Hp → Prop}

structure Cs3 (S : Sys) (I : Ids) : Prop extends Cs2 S I where
  cApply : ∀ {h R s o xs}, Ow EI h s xs → xs.length ≤ 1000000 → (∀ v h', Ow EI h' v (appl xs o).1 → Ch (fun r => blk s = some r) h h' → Nw h s v → R (.tuple #[v, .agg ⟨EA.c (appl xs o).2⟩]) h') → S.C I.f_eliminate_apply [s, .agg ⟨EO.c o⟩] h R

theorem K_Apply (C : Cs3 S I) {s l : Value} {st : List Int} {xs : List Op} (hs : Sl EI h s st) (hl : Sl EO h l xs) (hb : st.length ≤ 1000) (hb2 : xs.length ≤ 1000)
    (hR : ∀ a b h', Ow EI h' a (appAll st xs).1 → Ow EA h' b (appAll st xs).2 → Gr h h' → Fs h a → Fs h b → Dj a b → R (.tuple #[a, b]) h') : F_eliminate_Apply S I s l h R := by
  unfold F_eliminate_Apply
  refine C.cClone hs (by omega) fun o1 h1 oo g1 f1 => ?_
  refine vb hl.ln ?_
  refine .by (fun (i : Nat) a b v h' => i ≤ xs.length ∧ v = .int .i64 i ∧ Ow EI h' a (appAll st (xs.take i)).1 ∧ Ow EA h' b (appAll st (xs.take i)).2 ∧ Gr h h' ∧ Fs h a ∧ Fs h b ∧ Dj a b) (fun i => xs.length - i) 0
    ⟨by omega, rfl, by simpa [appAll] using oo, by simpa [appAll] using Ow.nil, g1, f1, .nil _, .nil' _⟩ ?_
  rintro i a b v h' ⟨hi, rfl, oa, ob, hg, fa, fb, hd⟩ again hagain
  rw [bin_lss, vb_some]
  refine brd (fun h2 => ?_) fun h2 => ?_
  · have hi' : i < xs.length := by omega
    obtain ⟨n1, n2⟩ := appAll_len (xs.take i) st
    rw [List.length_take] at n1 n2
    refine (hl.gr hg).whole rfl (idx_get hi') rfl ?_
    refine nwset (E := EO) ⟨0, false, 0⟩ xs[i] rfl rfl rfl fun h3 hv g3 => ?_
    refine vb (hv.whole rfl) ?_
    refine C.cApply (oa.gr g3) (by omega) fun a' h5 oa' c5 n5 => ?_
    simp only [ext0', ext1', vb_some]
    have ob5 := (ob.gr g3).other c5 hd.symm
    refine nwset (E := EA) (0, 0) (appl (appAll st (xs.take i)).1 xs[i]).2 rfl rfl rfl fun h6 hv6 g6 => ?_
    refine vb (hv6.whole rfl) ?_
    have ge : Gr h h6 := ((hg.trans g3).write c5 fa).trans g6
    have fa' : Fs h a' := fa.next (hg.trans g3) n5
    have d5 : Dj a' b := hd.next (fun r e => (ob.gr g3).lt e) n5
    refine app1 (E := EA) (x := (appl (appAll st (xs.take i)).1 xs[i]).2) (ob5.gr g6) rfl rfl rfl (by omega) (by omega) fun b' h7 q1 q2 q3 => ?_
    refine vb (inc (n := i) (by omega)) ?_
    refine hagain (i + 1) _ _ _ _ ⟨by omega, rfl, ?_, ?_, ge.write q2 fb, fa', fb.next ge q3, (d5.symm.next (fun r e => (oa'.gr g6).lt e) q3).symm⟩ (by omega)
    · rw [appAll_take hi']; exact (oa'.gr g6).other q2 d5
    · rw [appAll_take hi']; exact q1
  · have : i = xs.length := by omega
    subst this
    rw [List.take_length] at oa ob
    exact hR _ _ _ oa ob hg fa fb hd

theorem K_refApply {s l : Value} {st : List Int} {xs : List Op} (hs : Sl EI h s st) (hl : Sl EO h l xs) (hb : st.length ≤ 1000) (hb2 : xs.length ≤ 1000)
    (hR : ∀ a b h', Ow EI h' a (appAll st xs).1 → Ow EA h' b (appAll st xs).2 → Gr h h' → Fs h a → Fs h b → Dj a b → R (.tuple #[a, b]) h') : F_simulcastref53_Apply S I s l h R := by
  unfold F_simulcastref53_Apply
  refine apw (E := EI) .nil hs rfl rfl (by simp; omega) (by simp; omega) fun o1 h1 oo c1 n1 => ?_
  have g1 : Gr h h1 := c1.mono fun r _ e => by simp [blk] at e
  have f1 : Fs h o1 := fun r e => (n1 r e).elim (fun e => by simp [blk] at e) id
  refine .by (fun (i : Nat) a b v h' => i ≤ xs.length ∧ v = .int .i64 i ∧ Ow EI h' a (appAll st (xs.take i)).1 ∧ Ow EA h' b (appAll st (xs.take i)).2 ∧ Gr h h' ∧ Fs h a ∧ Fs h b ∧ Dj a b) (fun i => xs.length - i) 0
    ⟨by omega, rfl, by simpa [appAll] using oo, by simpa [appAll] using Ow.nil, g1, f1, .nil _, .nil' _⟩ ?_
  rintro i a b v h' ⟨hi, rfl, oa, ob, hg, fa, fb, hd⟩ again hagain
  refine vb hl.ln ?_
  rw [bin_lss, vb_some]
  refine brd (fun h2 => ?_) fun h2 => ?_
  · have hi' : i < xs.length := by omega
    obtain ⟨n1, n2⟩ := appAll_len (xs.take i) st
    rw [List.length_take] at n1 n2
    refine .at (fun a b h' => Ow EI h' a (appAll st (xs.take (i + 1))).1 ∧ Ow EA h' b (appAll st (xs.take (i + 1))).2 ∧ Gr h h' ∧ Fs h a ∧ Fs h b ∧ Dj a b) ?_ ?_
    · rw [appAll_take hi']
      generalize (appAll st (xs.take i)).1 = s0 at *
      generalize (appAll st (xs.take i)).2 = b0 at *
      refine (hl.gr hg).fld rfl (idx_get hi') rfl rfl ?_
      refine br (fun hp => ?_) fun hp => ?_
      · have ea : appl s0 xs[i] = (s0 ++ [xs[i].v], (0, xs[i].v)) := by simp [appl, hp]
        rw [ea]
        refine (hl.gr hg).fld rfl (idx_get hi') rfl rfl ?_
        refine app1 (E := EI) (x := xs[i].v) oa rfl rfl rfl (by omega) (by omega) fun a' h3 p1 p2 p3 => ?_
        have g3 := hg.write p2 fa
        have ob3 := ob.other p2 hd.symm
        have d3 : Dj a' b := hd.next (fun r e => ob.lt e) p3
        refine (hl.gr g3).fld rfl (idx_get hi') rfl rfl ?_
        refine vb (v := .agg ⟨EA.c (0, xs[i].v)⟩) rfl ?_
        refine app1 (E := EA) (x := (0, xs[i].v)) ob3 rfl rfl rfl (by omega) (by omega) fun b' h4 q1 q2 q3 => ?_
        exact ⟨p1.other q2 d3, q1, g3.write q2 fb, fa.next hg p3, fb.next g3 q3, (d3.symm.next (fun r e => p1.lt e) q3).symm⟩
      · refine vb oa.sl.ln ?_
        rw [bin_eql, vb_some]
        refine brd (fun h0 => ?_) fun h0 => ?_
        · have : s0 = [] := List.length_eq_zero_iff.mp (by omega)
          subst this
          have ea : appl [] xs[i] = ([], (8, 0)) := by simp [appl, hp]
          rw [ea]
          refine vb (v := .agg ⟨EA.c (8, 0)⟩) rfl ?_
          refine app1 (E := EA) (x := (8, 0)) ob rfl rfl rfl (by omega) (by omega) fun b' h4 q1 q2 q3 => ?_
          exact ⟨oa.other q2 hd, q1, hg.write q2 fb, fa, fb.next hg q3, (hd.symm.next (fun r e => oa.lt e) q3).symm⟩
        · have hpos : 0 < s0.length := by omega
          have e1 : bin .sub (.int .i64 s0.length) (.int .i64 1) = some (.int .i64 (s0.length - 1 : Nat)) := by
            rw [bin_sub, wr64 (by omega)]; congr 2; omega
          have hlast : s0[s0.length - 1]? = some s0[s0.length - 1] := idx_get (by omega)
          have ea : appl s0 xs[i] = (s0.take (s0.length - 1), (0, s0[s0.length - 1])) := by
            unfold appl
            rw [if_neg (by simp [hp]), List.getLast?_eq_getElem?, hlast]
          rw [ea]
          refine vb oa.sl.ln (vb e1 (oa.sl.one rfl hlast rfl rfl ?_))
          refine vb (v := .agg ⟨EA.c (0, s0[s0.length - 1])⟩) rfl ?_
          refine app1 (E := EA) (x := (0, s0[s0.length - 1])) ob rfl rfl rfl (by omega) (by omega) fun b' h4 q1 q2 q3 => ?_
          have oa4 := oa.other q2 hd
          obtain ⟨w, ew, ow, bw⟩ := oa4.sub (n := 1) rfl (hi := some (.int .i64 (s0.length - 1 : Nat))) (u := s0.length - 1) (.inr ⟨_, _, rfl, rfl⟩) (by omega)
          refine vb oa4.sl.ln (vb e1 (vb ew ?_))
          refine ⟨ow, q1, hg.write q2 fb, fun r e => fa r (bw ▸ e), fb.next hg q3, fun r e => ?_⟩
          exact (hd.symm.next (fun r e => oa.lt e) q3).symm r (bw ▸ e)
    · rintro a b h'' ⟨p1, p2, p3, p4, p5, p6⟩
      refine vb (inc (n := i) (by omega)) ?_
      exact hagain (i + 1) _ _ _ _ ⟨by omega, rfl, p1, p2, p3, p4, p5, p6⟩ (by omega)
  · have : i = xs.length := by omega
    subst this
    rw [List.take_length] at oa ob
    exact hR _ _ _ oa ob hg fa fb hd
end Go.En
