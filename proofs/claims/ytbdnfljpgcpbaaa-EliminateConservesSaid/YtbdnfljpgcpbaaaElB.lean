/-
  Layer 53: the first operations of the threads and the pairs.
-/
import Derived.Test.YtbdnfljpgcpbaaaElA
namespace Go.En

/-- no earlier operation has the thread of the i-th -/
def isF (l : List Op) (i : Nat) : Bool :=
  match l[i]? with
  | some o => (l.take i).all fun p => p.t != o.t
  | none => false
def isPush (l : List Op) (i : Nat) : Bool := isF l i && (l[i]?.any Op.p)
def isPop (l : List Op) (i : Nat) : Bool := isF l i && (l[i]?.any fun o => !o.p)
def pushes (l : List Op) : List Nat := (List.range l.length).filter (isPush l)
def pops (l : List Op) : List Nat := (List.range l.length).filter (isPop l)
def pairs (l : List Op) : List (Nat × Nat) := (pushes l).zip (pops l)
def paired (l : List Op) (i : Nat) : Bool := (pairs l).any fun p => p.1 == i || p.2 == i
def others (l : List Op) : List Nat := (List.range l.length).filter fun i => !paired l i

theorem filter_step (f : Nat → Bool) (i : Nat) : (List.range (i + 1)).filter f = (List.range i).filter f ++ (if f i then [i] else []) := by
  rw [List.range_succ, List.filter_append]; cases h : f i <;> simp [h]

variable {S : Sys} {I : Ids} {h : Hp} {R : Value → Hp → Prop}

theorem K_first {l : Value} {xs : List Op} {i : Nat} (hl : Sl EO h l xs) (hi : i < xs.length) (hb : xs.length ≤ 1000) (hR : R (.bool (isF xs i)) h) : F_simulcastref53_first S I l (.int .i64 i) h R := by
  unfold F_simulcastref53_first
  refine .by (fun (k : Nat) v h' => k ≤ i ∧ v = .int .i64 k ∧ h' = h ∧ (xs.take k).all (fun p => p.t != xs[i].t) = true) (fun k => i - k) 0 ⟨by omega, rfl, rfl, by simp⟩ ?_
  rintro k v h' ⟨hk, rfl, rfl, ha⟩ again hagain
  simp only [go_sem]
  have hF : isF xs i = (xs.take i).all (fun p => p.t != xs[i].t) := by unfold isF; rw [idx_get hi]
  refine brd (fun h1 => ?_) fun h1 => ?_
  · have hk1 : k < xs.length := by omega
    refine hl.fld rfl (idx_get hk1) rfl rfl (hl.fld rfl (idx_get hi) rfl rfl ?_)
    simp only [go_sem]
    refine brd (fun h2 => ?_) fun h2 => ?_
    · have : isF xs i = false := by
        rw [hF, List.all_eq_false]
        exact ⟨xs[k], List.mem_take_iff_getElem.mpr ⟨k, by omega, rfl⟩, by simp [h2]⟩
      rw [this] at hR; exact hR
    · refine hagain (k + 1) _ _ ⟨by omega, by rw [wrS (by omega)], rfl, ?_⟩ (by omega)
      rw [List.take_add_one, idx_get hk1, List.all_append, ha]
      simp [h2]
  · have : k = i := by omega
    subst this
    rw [hF, ha] at hR; exact hR

def mb (b : Bool) : Value := .bool b

theorem K_firsts {l : Value} {xs : List Op} (hl : Sl EO h l xs) (hb : xs.length ≤ 1000) (hR : ∀ a b h', Ow EN h' a (pushes xs) → Ow EN h' b (pops xs) → Gr h h' → Fs h a → Fs h b → R (.tuple #[a, b]) h') : F_eliminate_firsts S I l h R := by
  unfold F_eliminate_firsts
  refine eb rfl (vb hl.ln ?_)
  have hg1 := Ch.push h (.map #[] 0)
  have hm1 : Mp .i64 mb (h.push (.map #[] 0)) (.map (some h.size)) [] := Mp.new
  generalize h.push (.map #[] 0) = h1 at *
  refine .by (fun (i : Nat) a b v h' => i ≤ xs.length ∧ v = .int .i64 i ∧ Ow EN h' a ((List.range i).filter (isPush xs)) ∧ Ow EN h' b ((List.range i).filter (isPop xs)) ∧ Gr h h' ∧ h1.size ≤ h'.size ∧ Fs h1 a ∧ Fs h1 b ∧ Dj a b ∧
      ∃ ps, Mp .i64 mb h' (.map (some h.size)) ps ∧ ∀ k, ((lookA ps k).getD false) = (xs.take i).any fun p => p.t == k) (fun i => xs.length - i) 0 ⟨by omega, rfl, by simpa using Ow.nil, by simpa using Ow.nil, hg1, Nat.le_refl _, .nil _, .nil _, .nil _, [], hm1, fun k => by simp [lookA]⟩ ?_
  rintro i a b v h' ⟨hi, rfl, hoa, hob, hg, hsz, hfa, hfb, hd, ps, hm, hps⟩ again hagain
  simp only [go_sem]
  refine brd (fun h2 => ?_) fun h2 => ?_
  · have hi' : i < xs.length := by omega
    have hsz1 : h.size < h1.size := by have := hm1.lt (r := h.size) rfl; exact this
    refine .at (fun a' b' h'' => Ow EN h'' a' ((List.range (i + 1)).filter (isPush xs)) ∧ Ow EN h'' b' ((List.range (i + 1)).filter (isPop xs)) ∧ Gr h h'' ∧ h1.size ≤ h''.size ∧ Fs h1 a' ∧ Fs h1 b' ∧ Dj a' b' ∧
      ∃ ps, Mp .i64 mb h'' (.map (some h.size)) ps ∧ ∀ k, ((lookA ps k).getD false) = (xs.take (i + 1)).any fun p => p.t == k) ?_ ?_
    · refine (hl.gr hg).whole rfl (idx_get hi') rfl ?_
      refine nwset (E := EO) ⟨0, false, 0⟩ xs[i] rfl rfl rfl fun h3 hv hg3 => ?_
      refine hv.fld (j := 0) rfl ?_
      refine vb (hm.gr hg3).look ?_
      have hF : isF xs i = !((xs.take i).any fun p => p.t == xs[i].t) := by
        unfold isF; rw [idx_get hi']
        simp only [List.not_any_eq_all_not]; rfl
      have hlk : (((lookA ps xs[i].t).map mb).getD (.bool false)) = .bool (!isF xs i) := by
        rw [hF, Bool.not_not, ← hps]; cases lookA ps xs[i].t <;> rfl
      rw [hlk]
      have htk : ∀ k, ((xs.take (i + 1)).any fun p => p.t == k) = (((xs.take i).any fun p => p.t == k) || xs[i].t == k) := by
        intro k; rw [List.take_add_one, idx_get hi', List.any_append]; simp
      have hgs : h1.size ≤ h3.size := Nat.le_trans hsz hg3.size
      refine br (fun h4 => ?_) fun h4 => ?_
      · have hF0 : isF xs i = false := by simpa using h4
        refine ⟨?_, ?_, hg.trans hg3, hgs, hfa, hfb, hd, ps, hm.gr hg3, fun k => ?_⟩
        · rw [filter_step, isPush, hF0]; simpa using hoa.gr hg3
        · rw [filter_step, isPop, hF0]; simpa using hob.gr hg3
        · rw [hps, htk]
          by_cases hk : xs[i].t = k
          · subst hk
            rw [hF] at hF0
            simp only [Bool.not_eq_false'] at hF0
            rw [hF0]; rfl
          · simp [hk]
      · have hF1 : isF xs i = true := by simpa using h4
        refine hv.fld (j := 0) rfl ?_
        refine (hm.gr hg3).mup xs[i].t true rfl fun h5 hm5 hc5 => ?_
        have hnm : ∀ {q : Value}, Fs h1 q → ∀ r, blk q = some r → ¬ mblk (.map (some h.size)) = some r := fun f r e e2 => by
          simp only [mblk, Option.some.injEq] at e2; have := f r e; omega
        have hc5' : Gr h h5 := Gr.young (hg.trans hg3) hc5 fun r e => by simp only [mblk, Option.some.injEq] at e; omega
        have hoa5 := (hoa.gr hg3).ch hc5 (hnm hfa)
        have hob5 := (hob.gr hg3).ch hc5 (hnm hfb)
        have hv5 : Va EO h5 h'.size xs[i] := hv.ch hc5 (fun e => by simp only [mblk, Option.some.injEq] at e; omega)
        have hps5 : ∀ k, ((lookA (updA ps xs[i].t true) k).getD false) = (xs.take (i + 1)).any fun p => p.t == k := by
          intro k
          rw [lookA_updA, htk]
          by_cases hk : k = xs[i].t
          · subst hk; simp
          · rw [if_neg hk, hps]
            have : (xs[i].t == k) = false := by simpa using fun e => hk e.symm
            rw [this, Bool.or_false]
        have hs5 : h1.size ≤ h5.size := Nat.le_trans hgs hc5.size
        refine hv5.fld (j := 1) rfl ?_
        refine br (fun h6 => ?_) fun h6 => ?_
        · refine app1 (x := i) hoa5 rfl rfl rfl (by have := List.length_filter_le (isPush xs) (List.range i); simp at this; omega) (by have := List.length_filter_le (isPush xs) (List.range i); simp at this; omega) fun a' h7 q1 q2 q3 => ?_
          refine ⟨?_, ?_, hc5'.write q2 (hfa.old hg1), Nat.le_trans hs5 q2.size, ?_, hfb, hd.next (fun r e => hob5.lt e) q3, _, hm5.ch q2 (fun r e e2 => hnm hfa r e2 e), hps5⟩
          · rw [filter_step, isPush, hF1, idx_get hi']; simpa [h6] using q1
          · rw [filter_step, isPop, hF1, idx_get hi']; simpa [h6] using hob5.other q2 hd.symm
          · exact fun r e => (q3 r e).elim (hfa r) fun l => by omega
        · refine app1 (x := i) hob5 rfl rfl rfl (by have := List.length_filter_le (isPop xs) (List.range i); simp at this; omega) (by have := List.length_filter_le (isPop xs) (List.range i); simp at this; omega) fun b' h7 q1 q2 q3 => ?_
          refine ⟨?_, ?_, hc5'.write q2 (hfb.old hg1), Nat.le_trans hs5 q2.size, hfa, ?_, (hd.symm.next (fun r e => hoa5.lt e) q3).symm, _, hm5.ch q2 (fun r e e2 => hnm hfb r e2 e), hps5⟩
          · rw [filter_step, isPush, hF1, idx_get hi']; simpa [h6] using hoa5.other q2 hd
          · rw [filter_step, isPop, hF1, idx_get hi']; simpa [h6] using q1
          · exact fun r e => (q3 r e).elim (hfb r) fun l => by omega
    · rintro a' b' h'' ⟨p1, p2, p3, p4, p5, p6, p7, p8⟩
      exact hagain (i + 1) _ _ _ _ ⟨by omega, by rw [wrS (by omega)], p1, p2, p3, p4, p5, p6, p7, p8⟩ (by omega)
  · have : i = xs.length := by omega
    subst this
    exact hR _ _ _ hoa hob hg (hfa.old hg1) (hfb.old hg1)
end Go.En
