/-
  Layer 53: Pairs and Order, and the reference's.
-/
import Derived.Test.YtbdnfljpgcpbaaaElB
namespace Go.En
variable {S : Sys} {I : Ids} {h : Hp} {R : Value → Hp → Prop}

theorem mn_nat {k : IntKind} {a b : Nat} : mn (.int k a) (.int k b) = some (.int k (min a b : Nat)) := by
  simp only [mn, Option.some.injEq, Value.int.injEq, true_and]
  split <;> omega

/-- what the contracts of callees say (statements about S) -/
structure Cs (S : Sys) (I : Ids) : Prop where
  firsts : ∀ {h R l xs}, Sl EO h l xs → xs.length ≤ 1000 → (∀ a b h', Ow EN h' a (pushes xs) → Ow EN h' b (pops xs) → Gr h h' → Fs h a → Fs h b → R (.tuple #[a, b]) h') → S.C I.f_eliminate_firsts [l] h R
  first : ∀ {h R l xs} {i : Nat}, Sl EO h l xs → i < xs.length → xs.length ≤ 1000 → R (.bool (isF xs i)) h → S.C I.f_simulcastref53_first [l, .int .i64 i] h R

theorem len_pushes (xs : List Op) : (pushes xs).length ≤ xs.length := by have := List.length_filter_le (isPush xs) (List.range xs.length); rw [List.length_range] at this; exact this
theorem len_pops (xs : List Op) : (pops xs).length ≤ xs.length := by have := List.length_filter_le (isPop xs) (List.range xs.length); rw [List.length_range] at this; exact this
theorem len_pairs (xs : List Op) : (pairs xs).length = min (pushes xs).length (pops xs).length := by simp [pairs]
theorem len_others (xs : List Op) : (others xs).length ≤ xs.length := by have := List.length_filter_le (fun i => !paired xs i) (List.range xs.length); rw [List.length_range] at this; exact this
theorem pairs_get {xs : List Op} {i : Nat} (h : i < (pairs xs).length) : ∃ a b, (pushes xs)[i]? = some a ∧ (pops xs)[i]? = some b ∧ (pairs xs)[i]? = some (a, b) := by
  rw [len_pairs] at h
  have h1 : i < (pushes xs).length := by omega
  have h2 : i < (pops xs).length := by omega
  refine ⟨_, _, idx_get h1, idx_get h2, ?_⟩
  unfold pairs
  rw [List.getElem?_zip_eq_some]
  exact ⟨idx_get h1, idx_get h2⟩

def inP (ps : List (Nat × Nat)) (k : Int) : Bool := ps.any fun p => (p.1 : Int) == k || (p.2 : Int) == k
theorem inP_paired (xs : List Op) (i : Nat) : inP (pairs xs) i = paired xs i := by
  unfold inP paired
  congr 1
  funext p
  have e : ∀ a : Nat, ((a : Int) == (i : Int)) = (a == i) := fun a => by
    by_cases h : a = i
    · subst h; simp
    · have : ¬ (a : Int) = i := by omega
      rw [beq_eq_false_iff_ne.mpr this, beq_eq_false_iff_ne.mpr h]
  rw [e, e]

theorem K_Pairs (C : Cs S I) {l : Value} {xs : List Op} (hl : Sl EO h l xs) (hb : xs.length ≤ 1000) (hR : ∀ p r h', Ow EP h' p (pairs xs) → Ow EN h' r (others xs) → Gr h h' → Fs h p → Fs h r → Dj p r → R (.tuple #[p, r]) h') : F_eliminate_Pairs S I l h R := by
  unfold F_eliminate_Pairs
  refine C.firsts hl hb fun a b hf oa ob gf fa fb => ?_
  simp only [ext0', ext1', vb_some]
  refine eb rfl (vb oa.sl.ln (vb ob.sl.ln ?_))
  rw [mn_nat, vb_some]
  have hn := len_pairs xs
  rw [← hn]
  have l1 := len_pushes xs
  have l2 := len_pops xs
  have hg1 := Ch.push hf (.map #[] 0)
  have hm1 : Mp .i64 mb (hf.push (.map #[] 0)) (.map (some hf.size)) [] := Mp.new
  generalize hf.push (.map #[] 0) = h1 at *
  have hsz1 : hf.size < h1.size := hm1.lt (r := hf.size) rfl
  refine .by (fun (i : Nat) o v h' => i ≤ (pairs xs).length ∧ v = .int .i64 i ∧ Ow EP h' o ((pairs xs).take i) ∧ Gr hf h' ∧ h1.size ≤ h'.size ∧ Fs h1 o ∧
      ∃ ps, Mp .i64 mb h' (.map (some hf.size)) ps ∧ ∀ k, ((lookA ps k).getD false) = inP ((pairs xs).take i) k) (fun i => (pairs xs).length - i) 0 ⟨by omega, rfl, by simpa using Ow.nil, hg1, Nat.le_refl _, .nil _, [], hm1, fun k => by simp [lookA, inP]⟩ ?_
  rintro i o v h' ⟨hi, rfl, ho, hg, hsz, hfo, ps, hm, hps⟩ again hagain
  simp only [bin_lss, vb_some]
  refine brd (fun h2 => ?_) fun h2 => ?_
  · have hi' : i < (pairs xs).length := by omega
    obtain ⟨x, y, e1, e2, e3⟩ := pairs_get hi'
    have sa := oa.sl.gr hg
    have sb := ob.sl.gr hg
    refine sa.one rfl e1 rfl rfl (sb.one rfl e2 rfl rfl ?_)
    refine vb (v := .agg #[.int .i64 x, .int .i64 y]) rfl ?_
    refine app1 (E := EP) (x := (x, y)) ho rfl rfl rfl (by simp; omega) (by simp; omega) fun o' h3 q1 q2 q3 => ?_
    have hnm : ∀ {q : Value}, Fs h1 q → ∀ r, blk q = some r → ¬ mblk (.map (some hf.size)) = some r := fun f r e e2 => by
      simp only [mblk, Option.some.injEq] at e2; have := f r e; omega
    have hg3 : Gr hf h3 := hg.write q2 (hfo.old hg1)
    have hfo' : Fs h1 o' := fun r e => (q3 r e).elim (hfo r) fun l => by omega
    have hm3 := hm.ch q2 (fun r e e2 => hnm hfo r e2 e)
    refine (oa.sl.gr hg3).one rfl e1 rfl rfl ((ob.sl.gr hg3).one rfl e2 rfl rfl ?_)
    refine hm3.entry x true false fun h5 hm5 hc5 => ?_
    refine hm5.entry y true false fun h7 hm7 hc7 => ?_
    have hy : ∀ r, mblk (.map (some hf.size)) = some r → hf.size ≤ r := fun r e => by simp only [mblk, Option.some.injEq] at e; omega
    refine vb (inc (n := i) (by omega)) ?_
    refine hagain (i + 1) _ _ _ ⟨by omega, rfl, ?_, (hg3.young hc5 hy).young hc7 hy, ?_, hfo', _, hm7, fun k => ?_⟩ (by omega)
    · rw [List.take_add_one, e3]
      exact (q1.ch hc5 (hnm hfo')).ch hc7 (hnm hfo')
    · have := q2.size; have := hc5.size; have := hc7.size; omega
    · rw [lookA_updA, lookA_updA, List.take_add_one, e3]
      unfold inP
      rw [List.any_append]
      have := hps k
      unfold inP at this
      by_cases k1 : k = y
      · subst k1; simp
      · by_cases k2 : k = x
        · subst k2; simp
        · rw [if_neg k1, if_neg k2, this]
          have t1 : ((x : Int) == k) = false := by simpa using fun e => k2 e.symm
          have t2 : ((y : Int) == k) = false := by simpa using fun e => k1 e.symm
          simp [t1, t2]
  · have : i = (pairs xs).length := by omega
    subst this
    rw [List.take_length] at ho
    have hps' : ∀ j : Nat, ((lookA ps j).getD false) = paired xs j := fun j => by rw [hps, List.take_length, inP_paired]
    refine vb hl.ln ?_
    have hlen := len_others xs
    refine .by (fun (i : Nat) r v h'' => i ≤ xs.length ∧ v = .int .i64 i ∧ Ow EN h'' r ((List.range i).filter fun j => !paired xs j) ∧ Gr h' h'' ∧ Fs h' r) (fun i => xs.length - i) 0 ⟨by omega, rfl, by simpa using Ow.nil, .refl _ _, .nil _⟩ ?_
    rintro i r v h'' ⟨hi, rfl, hr, hg2, hfr⟩ again hagain
    simp only [bin_lss, vb_some]
    refine brd (fun h4 => ?_) fun h4 => ?_
    · have hi' : i < xs.length := by omega
      refine .at (fun r' h3 => Ow EN h3 r' ((List.range (i + 1)).filter fun j => !paired xs j) ∧ Gr h' h3 ∧ Fs h' r') ?_ ?_
      · refine vb (hm.gr hg2).look ?_
        have hlk : (((lookA ps i).map mb).getD (.bool false)) = .bool (paired xs i) := by
          rw [← hps']; cases lookA ps i <;> rfl
        rw [hlk, uno_not, vb_some]
        refine br (fun h5 => ?_) fun h5 => ?_
        · refine app1 (E := EN) (x := i) hr rfl rfl rfl (by have := List.length_filter_le (fun j => !paired xs j) (List.range i); simp at this; omega) (by have := List.length_filter_le (fun j => !paired xs j) (List.range i); simp at this; omega) fun r' h6 q1 q2 q3 => ?_
          refine ⟨?_, hg2.write q2 hfr, hfr.next hg2 q3⟩
          rw [filter_step, h5]; exact q1
        · refine ⟨?_, hg2, hfr⟩
          rw [filter_step, h5]; simpa using hr
      · rintro r' h3 ⟨p1, p2, p3⟩
        refine vb (inc (n := i) (by omega)) ?_
        exact hagain (i + 1) _ _ _ ⟨by omega, rfl, p1, p2, p3⟩ (by omega)
    · have : i = xs.length := by omega
      subst this
      refine hR _ _ _ (ho.gr hg2) hr ((gf.trans hg).trans hg2) (hfo.old (gf.trans hg1)) ?_ ?_
      · exact hfr.old (gf.trans hg)
      · exact (Dj.fresh hfr fun r e => ho.lt e).symm
end Go.En
