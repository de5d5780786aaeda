/-
  Layer 53: the reference's Pairs, and Order.
-/
import Derived.Test.YtbdnfljpgcpbaaaElC
namespace Go.En
variable {S : Sys} {I : Ids} {h : Hp} {R : Value → Hp → Prop}

theorem zip_fst {α β : Type} : ∀ (a : List α) (b : List β), a.take (min a.length b.length) = (a.zip b).map (·.1)
  | [], _ => by simp
  | _ :: _, [] => by simp
  | x :: a, y :: b => by
    have := zip_fst a b
    simp only [List.length_cons, List.zip_cons_cons, List.map_cons, ← this]
    rw [show min (a.length + 1) (b.length + 1) = min a.length b.length + 1 by omega]; rfl
theorem zip_snd {α β : Type} : ∀ (a : List α) (b : List β), b.take (min a.length b.length) = (a.zip b).map (·.2)
  | [], _ => by simp
  | _ :: _, [] => by simp
  | x :: a, y :: b => by
    have := zip_snd a b
    simp only [List.length_cons, List.zip_cons_cons, List.map_cons, ← this]
    rw [show min (a.length + 1) (b.length + 1) = min a.length b.length + 1 by omega]; rfl
theorem fst_pairs (xs : List Op) : (pushes xs).take (pairs xs).length = (pairs xs).map (·.1) := by rw [len_pairs]; exact zip_fst _ _
theorem snd_pairs (xs : List Op) : (pops xs).take (pairs xs).length = (pairs xs).map (·.2) := by rw [len_pairs]; exact zip_snd _ _

theorem K_refPairs (C : Cs S I) {l : Value} {xs : List Op} (hl : Sl EO h l xs) (hb : xs.length ≤ 1000) (hR : ∀ a b r h', Sl EN h' a ((pairs xs).map (·.1)) → Sl EN h' b ((pairs xs).map (·.2)) → Sl EN h' r (others xs) → Gr h h' → Fs h a → Fs h b → Fs h r → R (.tuple #[a, b, r]) h') :
    F_simulcastref53_Pairs S I l h R := by
  unfold F_simulcastref53_Pairs
  have hlen : ∀ (f : Nat → Bool) (i : Nat), ((List.range i).filter f).length ≤ i := fun f i => by have := List.length_filter_le f (List.range i); rw [List.length_range] at this; exact this
  refine .by (fun (i : Nat) a b v h' => i ≤ xs.length ∧ v = .int .i64 i ∧ Ow EN h' a ((List.range i).filter (isPush xs)) ∧ Ow EN h' b ((List.range i).filter (isPop xs)) ∧ Gr h h' ∧ Fs h a ∧ Fs h b ∧ Dj a b)
    (fun i => xs.length - i) 0 ⟨by omega, rfl, by simpa using Ow.nil, by simpa using Ow.nil, .refl _ _, .nil _, .nil _, .nil _⟩ ?_
  rintro i a b v h' ⟨hi, rfl, oa, ob, hg, fa, fb, hd⟩ again hagain
  refine vb hl.ln ?_
  rw [bin_lss, vb_some]
  refine brd (fun h2 => ?_) fun h2 => ?_
  · have hi' : i < xs.length := by omega
    refine .at (fun a' b' h'' => Ow EN h'' a' ((List.range (i + 1)).filter (isPush xs)) ∧ Ow EN h'' b' ((List.range (i + 1)).filter (isPop xs)) ∧ Gr h h'' ∧ Fs h a' ∧ Fs h b' ∧ Dj a' b') ?_ ?_
    · refine .at (fun a' h'' => Ow EN h'' a' ((List.range (i + 1)).filter (isPush xs)) ∧ Ow EN h'' b ((List.range i).filter (isPop xs)) ∧ Gr h h'' ∧ Fs h a' ∧ Dj a' b) ?_ ?_
      · refine .at (fun v h'' => h'' = h' ∧ v = .bool (isPush xs i)) ?_ ?_
        · refine C.first (hl.gr hg) hi' hb ?_
          refine br (fun h3 => ?_) fun h3 => ?_
          · refine (hl.gr hg).fld rfl (idx_get hi') rfl rfl ?_
            exact ⟨rfl, by rw [isPush, h3, idx_get hi']; rfl⟩
          · exact ⟨rfl, by rw [isPush, h3]; rfl⟩
        · rintro v h'' ⟨rfl, rfl⟩
          refine br (fun h3 => ?_) fun h3 => ?_
          · have := hlen (isPush xs) i
            refine app1 (E := EN) (x := i) oa rfl rfl rfl (by omega) (by omega) fun a' h3' q1 q2 q3 => ?_
            exact ⟨by rw [filter_step, h3]; exact q1, ob.other q2 hd.symm, hg.write q2 fa, fa.next hg q3, hd.next (fun r e => ob.lt e) q3⟩
          · exact ⟨by rw [filter_step, h3]; simpa using oa, ob, hg, fa, hd⟩
      · rintro a' h3 ⟨oa, ob, hg, fa, hd⟩
        refine .at (fun v h'' => h'' = h3 ∧ v = .bool (isPop xs i)) ?_ ?_
        · refine C.first (hl.gr hg) hi' hb ?_
          refine br (fun h3 => ?_) fun h3 => ?_
          · refine (hl.gr hg).fld rfl (idx_get hi') rfl rfl ?_
            rw [uno_not, vb_some]
            exact ⟨rfl, by rw [isPop, h3, idx_get hi']; rfl⟩
          · exact ⟨rfl, by rw [isPop, h3]; rfl⟩
        · rintro v h'' ⟨rfl, rfl⟩
          refine br (fun h3 => ?_) fun h3 => ?_
          · have := hlen (isPop xs) i
            refine app1 (E := EN) (x := i) ob rfl rfl rfl (by omega) (by omega) fun b' h3' q1 q2 q3 => ?_
            exact ⟨oa.other q2 hd, by rw [filter_step, h3]; exact q1, hg.write q2 fb, fa, fb.next hg q3, (hd.symm.next (fun r e => oa.lt e) q3).symm⟩
          · exact ⟨oa, by rw [filter_step, h3]; simpa using ob, hg, fa, fb, hd⟩
    · rintro a' b' h'' ⟨p1, p2, p3, p4, p5, p6⟩
      refine vb (inc (n := i) (by omega)) ?_
      exact hagain (i + 1) _ _ _ _ ⟨by omega, rfl, p1, p2, p3, p4, p5, p6⟩ (by omega)
  · have : i = xs.length := by omega
    subst this
    have sa : Sl EN h' a (pushes xs) := oa.sl
    have sb : Sl EN h' b (pops xs) := ob.sl
    refine vb sa.ln ?_
    have hn := len_pairs xs
    have l1 := len_pushes xs
    have l2 := len_pops xs
    refine .at (fun v h'' => h'' = h' ∧ v = .int .i64 (pairs xs).length) ?_ ?_
    · refine vb sb.ln ?_
      rw [bin_lss, vb_some]
      refine brd (fun h3 => ?_) fun h3 => ?_
      · refine vb sb.ln ?_
        exact ⟨rfl, by congr 1; omega⟩
      · exact ⟨rfl, by congr 1; omega⟩
    rintro v h'' ⟨rfl, rfl⟩
    obtain ⟨pa, ea, ga, ba⟩ := sa.sub (n := 1) rfl (lo := none) (l := 0) (.inl ⟨rfl, rfl⟩) (u := (pairs xs).length) (.inr ⟨.i64, _, rfl, rfl⟩) (by omega) (by omega)
    obtain ⟨pb, eb', gb, bb⟩ := sb.sub (n := 1) rfl (lo := none) (l := 0) (.inl ⟨rfl, rfl⟩) (u := (pairs xs).length) (.inr ⟨.i64, _, rfl, rfl⟩) (by omega) (by omega)
    refine vb ea (vb eb' ?_)
    rw [List.drop_zero, fst_pairs] at ga
    rw [List.drop_zero, snd_pairs] at gb
    refine .by (fun (i : Nat) r v h3 => i ≤ xs.length ∧ v = .int .i64 i ∧ Ow EN h3 r ((List.range i).filter fun j => !paired xs j) ∧ Gr h'' h3 ∧ Fs h'' r) (fun i => xs.length - i) 0 ⟨by omega, rfl, by simpa using Ow.nil, .refl _ _, .nil _⟩ ?_
    rintro i r v h3 ⟨hi, rfl, hr, hg2, hfr⟩ again hagain
    refine vb hl.ln ?_
    rw [bin_lss, vb_some]
    refine brd (fun h4 => ?_) fun h4 => ?_
    · have hi' : i < xs.length := by omega
      refine .at (fun r' h3 => Ow EN h3 r' ((List.range (i + 1)).filter fun j => !paired xs j) ∧ Gr h'' h3 ∧ Fs h'' r') ?_ ?_
      · refine .by (fun (k : Nat) b v h5 => k ≤ (pairs xs).length ∧ v = .int .i64 k ∧ h5 = h3 ∧ b = .bool (((pairs xs).take k).any fun p => p.1 == i || p.2 == i)) (fun k => (pairs xs).length - k) 0 ⟨by omega, rfl, rfl, by simp⟩ ?_
        rintro k bv v h5 ⟨hk, rfl, rfl, rfl⟩ again2 hagain2
        rw [bin_lss, vb_some]
        refine brd (fun h6 => ?_) fun h6 => ?_
        · have hk' : k < (pairs xs).length := by omega
          refine .at (fun v h6 => h6 = h5 ∧ v = .bool (((pairs xs).take (k + 1)).any fun p => p.1 == i || p.2 == i)) ?_ ?_
          · have ht : ((pairs xs).take (k + 1)).any (fun p => p.1 == i || p.2 == i) = (((pairs xs).take k).any (fun p => p.1 == i || p.2 == i) || ((pairs xs)[k].1 == i || (pairs xs)[k].2 == i)) := by
              rw [List.take_add_one, idx_get hk', List.any_append]; simp
            have g1 : ((pairs xs).map (·.1))[k]? = some (pairs xs)[k].1 := by rw [List.getElem?_map, idx_get hk']; rfl
            have g2 : ((pairs xs).map (·.2))[k]? = some (pairs xs)[k].2 := by rw [List.getElem?_map, idx_get hk']; rfl
            have hbe : ∀ q : Nat, (q == i) = decide ((q : Int) = (i : Int)) := fun q => by
              rw [Bool.eq_iff_iff, beq_iff_eq, decide_eq_true_iff]; omega
            refine br (fun h7 => ?_) fun h7 => ?_
            · rw [br_true]
              exact ⟨rfl, by rw [ht, h7]; rfl⟩
            · refine (ga.gr hg2).one rfl g1 rfl rfl ?_
              rw [bin_eql, vb_some]
              refine brd (fun h8 => ?_) fun h8 => ?_
              · exact ⟨rfl, by rw [ht, hbe, decide_eq_true h8]; simp⟩
              · refine (gb.gr hg2).one rfl g2 rfl rfl ?_
                rw [bin_eql, vb_some]
                exact ⟨rfl, by rw [ht, hbe, hbe, decide_eq_false h8, h7]; rfl⟩
          · rintro v h6 ⟨rfl, rfl⟩
            refine vb (inc (n := k) (by omega)) ?_
            exact hagain2 (k + 1) _ _ _ ⟨by omega, rfl, rfl, rfl⟩ (by omega)
        · have : k = (pairs xs).length := by omega
          subst this
          rw [List.take_length, uno_not, vb_some]
          have hp : ((pairs xs).any fun p => p.1 == i || p.2 == i) = paired xs i := rfl
          rw [hp]
          refine br (fun h7 => ?_) fun h7 => ?_
          · have := hlen (fun j => !paired xs j) i
            refine app1 (E := EN) (x := i) hr rfl rfl rfl (by omega) (by omega) fun r' h8 q1 q2 q3 => ?_
            exact ⟨by rw [filter_step, h7]; exact q1, hg2.write q2 hfr, hfr.next hg2 q3⟩
          · exact ⟨by rw [filter_step, h7]; simpa using hr, hg2, hfr⟩
      · rintro r' h3 ⟨p1, p2, p3⟩
        refine vb (inc (n := i) (by omega)) ?_
        exact hagain (i + 1) _ _ _ ⟨by omega, rfl, p1, p2, p3⟩ (by omega)
    · have : i = xs.length := by omega
      subst this
      exact hR _ _ _ _ (ga.gr hg2) (gb.gr hg2) hr.sl (hg.trans hg2) (fun r e => fa r (ba ▸ e)) (fun r e => fb r (bb ▸ e)) (hfr.old hg)
end Go.En
