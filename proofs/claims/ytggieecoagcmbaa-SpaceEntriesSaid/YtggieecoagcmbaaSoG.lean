/-
  slices.Sort: the recursion; the whole.
-/
import Derived.Test.YtggieecoagcmbaaSoF
namespace Go.En
open Prog Spc Go.Sort

variable {S : Sys} {I : Ids} {h h0 h' : Hp} {F F0 : Fp} {R : Value → Hp → Prop} {L : List Res}

structure CsS7 (S : Sys) (I : Ids) : Prop extends CsS0 S I where
  insertion : ∀ {v : Value} {d : Array Int} {a b : Nat} {F h0 h R}, a ≤ b → b ≤ d.size → d.size ≤ 1000000 → Cx F h0 h [rD v d] → (∀ h', Cx F h0 h' [rD v (insertionSort ltInt d a b)] → R (.tuple #[]) h') →
    S.C I.f_slices_insertionSortOrdered_api_Loc [v, .int .i64 a, .int .i64 b] h R
  heapS : ∀ {v : Value} {d : Array Int} {a b : Nat} {F h0 h R}, a ≤ b → b ≤ d.size → d.size ≤ 1000000 → Cx F h0 h [rD v d] → (∀ h', Cx F h0 h' [rD v (heapSort ltInt d a b)] → R (.tuple #[]) h') →
    S.C I.f_slices_heapSortOrdered_api_Loc [v, .int .i64 a, .int .i64 b] h R
  reverse : ∀ {v : Value} {d : Array Int} {a b : Nat} {F h0 h R}, a < b → b ≤ d.size → d.size ≤ 1000000 → Cx F h0 h [rD v d] → (∀ h', Cx F h0 h' [rD v (reverseRange d a b)] → R (.tuple #[]) h') →
    S.C I.f_slices_reverseRangeOrdered_api_Loc [v, .int .i64 a, .int .i64 b] h R
  partIns : ∀ {v : Value} {d : Array Int} {a b : Nat} {F h0 h R}, a < b → b ≤ d.size → d.size ≤ 1000000 → Cx F h0 h [rD v d] →
    (∀ h', Cx F h0 h' [rD v (partialInsertionSort ltInt d a b).1] → R (.bool (partialInsertionSort ltInt d a b).2) h') →
    S.C I.f_slices_partialInsertionSortOrdered_api_Loc [v, .int .i64 a, .int .i64 b] h R
  part : ∀ {v : Value} {d : Array Int} {a b pivot : Nat} {F h0 h R}, a ≤ pivot → pivot < b → b ≤ d.size → d.size ≤ 1000000 → Cx F h0 h [rD v d] →
    (∀ h', Cx F h0 h' [rD v (partition ltInt d a b pivot).2.2] → R (.tuple #[.int .i64 (partition ltInt d a b pivot).1, .bool (partition ltInt d a b pivot).2.1]) h') →
    S.C I.f_slices_partitionOrdered_api_Loc [v, .int .i64 a, .int .i64 b, .int .i64 pivot] h R
  partEq : ∀ {v : Value} {d : Array Int} {a b pivot : Nat} {F h0 h R}, a ≤ pivot → pivot < b → b ≤ d.size → d.size ≤ 1000000 → Cx F h0 h [rD v d] →
    (∀ h', Cx F h0 h' [rD v (partitionEqual ltInt d a b pivot).2] → R (.int .i64 (partitionEqual ltInt d a b pivot).1) h') →
    S.C I.f_slices_partitionEqualOrdered_api_Loc [v, .int .i64 a, .int .i64 b, .int .i64 pivot] h R
  choose : ∀ {v : Value} {d : Array Int} {a b : Nat} {F h0 h R}, a < b → b ≤ d.size → d.size ≤ 1000000 → Cx F h0 h [rD v d] →
    (∀ (x : Nat) (t : Int) h', a ≤ x → x < b → (t = 0 ∨ t = 1 ∨ t = 2) → Cx F h0 h' [rD v d] → R (.tuple #[.int .i64 x, .int .i64 t]) h') →
    S.C I.f_slices_choosePivotOrdered_api_Loc [v, .int .i64 a, .int .i64 b] h R
  breakP : ∀ {v : Value} {d : Array Int} {a b : Nat} {F h0 h R}, a < b → b ≤ d.size → d.size ≤ 1000000 → Cx F h0 h [rD v d] →
    (∀ e h', PermIn a b d e → Cx F h0 h' [rD v e] → R (.tuple #[]) h') →
    S.C I.f_slices_breakPatternsOrdered_api_Loc [v, .int .i64 a, .int .i64 b] h R
  pdq1 : ∀ {x y z w h R}, F_slices_pdqsortOrdered_api_Loc S I x y z w h R → S.C I.f_slices_pdqsortOrdered_api_Loc [x, y, z, w] h R

/-- what the recursion is to show -/
def PdqOk (S : Sys) (I : Ids) (n : Nat) : Prop := ∀ {v : Value} {d : Array Int} {a b l : Nat} {F h0 h R}, b - a < n → a ≤ b → b ≤ d.size → d.size ≤ 1000000 → l ≤ 1000000 → Below ltInt a b d → Cx F h0 h [rD v d] →
  (∀ e h', PermIn a b d e → SortedIn ltInt a b e → Cx F h0 h' [rD v e] → R (.tuple #[]) h') → F_slices_pdqsortOrdered_api_Loc S I v (.int .i64 a) (.int .i64 b) (.int .i64 l) h R
theorem pdq_step {n : Nat} (cs : CsS7 S I) (ih : PdqOk S I n) : PdqOk S I (n + 1) := by
  intro v d a0 b0 l0 F h0 h R hn hab0 hb0 hN hl hB0 c hR
  unfold F_slices_pdqsortOrdered_api_Loc
  refine Lp5.by (fun (x : Nat × Nat × Nat × Bool × Bool × Array Int) u1 u2 u3 u4 u5 h' => u1 = .int .i64 x.1 ∧ u2 = .int .i64 x.2.1 ∧ u3 = .int .i64 x.2.2.1 ∧ u4 = .bool x.2.2.2.1 ∧ u5 = .bool x.2.2.2.2.1 ∧
      x.1 ≤ x.2.1 ∧ x.2.1 ≤ d.size ∧ x.2.1 - x.1 < n + 1 ∧ x.2.2.1 ≤ 1000000 ∧ x.2.2.2.2.2.size = d.size ∧ Below ltInt x.1 x.2.1 x.2.2.2.2.2 ∧
      (∀ r, PermIn x.1 x.2.1 x.2.2.2.2.2 r → SortedIn ltInt x.1 x.2.1 r → PermIn a0 b0 d r ∧ SortedIn ltInt a0 b0 r) ∧ Cx F h0 h' [rD v x.2.2.2.2.2])
    (fun x => x.2.1 - x.1) (a0, b0, l0, true, true, d) ⟨rfl, rfl, rfl, rfl, rfl, hab0, hb0, hn, hl, rfl, hB0, fun r h1 h2 => ⟨h1, h2⟩, c⟩ ?_
  clear hn hab0 hb0 hl hB0 c
  rintro ⟨a, b, l, wb, wp, e⟩ u1 u2 u3 u4 u5 h1 ⟨rfl, rfl, rfl, rfl, rfl, hab, hb, hn, hl, hs, hB, fin, c⟩ again hagain
  dsimp only at *
  rw [bin_sub, vb_some, wr64 (n := (b : Int) - a) (by omega), bin_leq, vb_some]
  refine brd (fun h12 => ?_) fun h12 => ?_
  · refine cs.insertion hab (by omega) (by omega) c fun h2 c => ?_
    obtain ⟨p1, p2⟩ := insertionSort_holds swo_ltInt e a b hab (by omega)
    obtain ⟨q1, q2⟩ := fin _ p1 p2
    exact hR _ _ q1 q2 c
  rw [bin_eql, vb_some]
  refine brd (fun hl0 => ?_) fun hl0 => ?_
  · refine cs.heapS hab (by omega) (by omega) c fun h2 c => ?_
    obtain ⟨p1, p2⟩ := heapSort_holds swo_ltInt e a b hab (by omega)
    obtain ⟨q1, q2⟩ := fin _ p1 p2
    exact hR _ _ q1 q2 c
  have hab : a < b := by omega
  -- the patterns are broken, perhaps
  refine Jn1.at (fun u h' => ∃ (l2 : Nat) (e1 : Array Int), u = .int .i64 l2 ∧ l2 ≤ 1000000 ∧ PermIn a b e e1 ∧ Cx F h0 h' [rD v e1]) ?_ ?_
  · cases wb with
    | false =>
      simp only [go_sem]
      refine cs.breakP hab (by omega) (by omega) c fun e1 h2 p c => ?_
      rw [wr64 (n := (l : Int) - 1) (by omega)]
      exact ⟨l - 1, e1, by congr 1; omega, by omega, p, c⟩
    | true =>
      simp only [go_sem]
      exact ⟨l, e, rfl, hl, permIn_refl _ _ _, c⟩
  clear c hl0 hl
  rintro u h2 ⟨l, e1, rfl, hl, p1, c⟩
  have hs1 := p1.1
  refine cs.choose hab (by omega) (by omega) c fun x t h3 hx1 hx2 ht c => ?_
  refine ext0t (ext1t ?_)
  refine Jn2.at (fun u w h' => ∃ (p : Nat) (t : Int) (e2 : Array Int), u = .int .i64 p ∧ w = .int .i64 t ∧ a ≤ p ∧ p < b ∧ PermIn a b e e2 ∧ Cx F h0 h' [rD v e2]) ?_ ?_
  · rw [bin_eql, vb_some]
    refine brd (fun h8 => ?_) fun h8 => ?_
    · refine cs.reverse hab (by omega) (by omega) c fun h4 c => ?_
      rw [bin_sub, vb_some, wr64 (n := (b : Int) - 1) (by omega), bin_sub, vb_some, wr64 (n := (x : Int) - a) (by omega), bin_sub, vb_some, wr64 (by omega)]
      exact ⟨b - 1 - (x - a), 1, _, by congr 1; omega, rfl, by omega, by omega, permIn_trans _ _ _ a b p1 (reverseRange_holds e1 a b (by omega) (by omega)), c⟩
    · exact ⟨x, t, e1, rfl, rfl, hx1, hx2, p1, c⟩
  clear c hx1 hx2 ht p1 hs1
  rintro u w h4 ⟨p, t, e2, rfl, rfl, hp1, hp2, p2, c⟩
  have hs2 := p2.1
  have B2 := hB.perm (by omega) p2
  refine Jn0.at (fun h' => ∃ e3 : Array Int, PermIn a b e e3 ∧ Cx F h0 h' [rD v e3]) ?_ ?_
  · refine Jn1.at (fun u h' => (∃ bb : Bool, u = .bool bb) ∧ Cx F h0 h' [rD v e2]) ?_ ?_
    · cases wb with
      | false => exact ⟨⟨_, rfl⟩, c⟩
      | true =>
        cases wp with
        | false => exact ⟨⟨_, rfl⟩, c⟩
        | true =>
          rw [br_true, br_true, bin_eql, vb_some]
          exact ⟨⟨_, rfl⟩, c⟩
    · rintro u h5 ⟨⟨bb, rfl⟩, c⟩
      cases bb with
      | false => exact ⟨e2, p2, c⟩
      | true =>
        rw [br_true]
        refine cs.partIns hab (by omega) (by omega) c fun h6 c => ?_
        obtain ⟨q1, q2⟩ := partialInsertionSort_holds swo_ltInt e2 a b hab (by omega) B2
        generalize partialInsertionSort ltInt e2 a b = y at *
        obtain ⟨e3, ok⟩ := y
        dsimp only at *
        have q3 := permIn_trans _ _ _ a b p2 q1
        cases ok with
        | true =>
          rw [br_true]
          obtain ⟨r1, r2⟩ := fin _ q3 (q2 rfl)
          exact hR _ _ r1 r2 c
        | false => exact ⟨e3, q3, c⟩
  clear c B2 hs2 p2
  rintro h5 ⟨e3, p3, c⟩
  have hs3 := p3.1
  have B3 := hB.perm (by omega) p3
  refine Jn1.at (fun u h' => ∃ bb : Bool, u = .bool bb ∧ (bb = true → 0 < a ∧ ltInt e3[a - 1]! e3[p]! = false) ∧ Cx F h0 h' [rD v e3]) ?_ ?_
  · rw [bin_gtr, vb_some]
    refine brd (fun h8 => ?_) fun h8 => ?_
    · rw [bin_sub, vb_some, wr64 (n := (a : Int) - 1) (by omega)]
      refine c.rd 0 rfl (n := a - 1) (by omega) (by omega) ?_
      refine c.rd 0 rfl (n := p) rfl (by omega) ?_
      refine c.pur cs.less fun h6 c => ?_
      simp only [go_sem]
      exact ⟨_, rfl, fun hh => ⟨by omega, by simpa using hh⟩, c⟩
    · exact ⟨false, rfl, (fun hh => by cases hh), c⟩
  clear c
  rintro u h6 ⟨bb, rfl, hbb, c⟩
  cases bb with
  | true =>
    rw [br_true]
    obtain ⟨ha0, hnl⟩ := hbb rfl
    refine cs.partEq hp1 hp2 (by omega) (by omega) c fun h7 c => ?_
    obtain ⟨m1, m2, ms, mB, mfin⟩ := round_eq swo_ltInt (partitionEqual_holds ltInt) ha0 hp1 hp2 (by omega) B3 hnl (mid := (partitionEqual ltInt e3 a b p).1) (d4 := (partitionEqual ltInt e3 a b p).2) rfl
    generalize partitionEqual ltInt e3 a b p = y at *
    obtain ⟨mid, e4⟩ := y
    dsimp only at *
    refine hagain (mid, b, l, wb, wp, e4) _ _ _ _ _ _ ⟨rfl, rfl, rfl, rfl, rfl, m2, hb, by dsimp only; omega, hl, by dsimp only; omega, mB, fun r r1 r2 => ?_, c⟩ (by dsimp only; omega)
    obtain ⟨q1, q2⟩ := mfin r r1 r2
    exact fin r (permIn_trans _ _ _ a b p3 q1) q2
  | false =>
    rw [br_false]
    refine cs.part hp1 hp2 (by omega) (by omega) c fun h7 c => ?_
    refine ext0t (ext1t ?_)
    obtain ⟨m1, m2, ms, mBa, mBr, mL, mR⟩ := round_part swo_ltInt (partition_holds ltInt) hp1 hp2 (by omega) B3 (mid := (partition ltInt e3 a b p).1) (ap := (partition ltInt e3 a b p).2.1) (d4 := (partition ltInt e3 a b p).2.2) rfl
    generalize partition ltInt e3 a b p = y at *
    obtain ⟨mid, ap, e4⟩ := y
    dsimp only at *
    rw [bin_sub, vb_some, wr64 (n := (mid : Int) - a) (by omega), bin_sub, vb_some, wr64 (n := (b : Int) - mid) (by omega), bin_quo (by omega), vb_some, bin_lss, vb_some]
    refine brd (fun h8 => ?_) fun h8 => ?_
    · rw [bin_geq, vb_some]
      refine cs.pdq1 (ih (by omega) m1 (by omega) (by omega) hl mBa c fun e5 h8 r1 r2 c => ?_)
      obtain ⟨hB5, hfin5⟩ := mL _ r1 r2
      have hs5 := r1.1
      rw [bin_add, vb_some, wrS (by omega)]
      refine hagain (mid + 1, b, l, _, ap, e5) _ _ _ _ _ _ ⟨rfl, rfl, rfl, rfl, rfl, by dsimp only; omega, hb, by dsimp only; omega, hl, by dsimp only; omega, hB5, fun r r1 r2 => ?_, c⟩ (by dsimp only; omega)
      obtain ⟨q1, q2⟩ := hfin5 r r1 r2
      exact fin r (permIn_trans _ _ _ a b p3 q1) q2
    · rw [bin_geq, vb_some, bin_add, vb_some, wrS (by omega)]
      refine cs.pdq1 (ih (a := mid + 1) (by omega) (by omega) (by omega) (by omega) hl mBr c fun e5 h8 r1 r2 c => ?_)
      obtain ⟨hB5, hfin5⟩ := mR _ r1 r2
      have hs5 := r1.1
      refine hagain (a, mid, l, _, ap, e5) _ _ _ _ _ _ ⟨rfl, rfl, rfl, rfl, rfl, by dsimp only; omega, by dsimp only; omega, by dsimp only; omega, hl, by dsimp only; omega, hB5, fun r r1 r2 => ?_, c⟩ (by dsimp only; omega)
      obtain ⟨q1, q2⟩ := hfin5 r r1 r2
      exact fin r (permIn_trans _ _ _ a b p3 q1) q2
theorem pdq_all (cs : CsS7 S I) : ∀ n, PdqOk S I n
  | 0 => fun hn => absurd hn (Nat.not_lt_zero _)
  | n + 1 => pdq_step cs (pdq_all cs n)

/-- the sorted list -/
abbrev sorted (xs : List Int) : List Int := xs.mergeSort (fun x y => decide (x ≤ y))
structure CsS8 (S : Sys) (I : Ids) : Prop where
  len : ∀ {x : Nat} {h R}, x ≤ 1000000 → (∀ k, Bits x k → R (.int .i64 (k : Nat)) h) → S.C I.f_math_bits_Len [.int .u64 x] h R
  pdq : ∀ {v : Value} {d : Array Int} {a b l : Nat} {F h0 h R}, a ≤ b → b ≤ d.size → d.size ≤ 1000000 → l ≤ 1000000 → Below ltInt a b d → Cx F h0 h [rD v d] →
    (∀ e h', PermIn a b d e → SortedIn ltInt a b e → Cx F h0 h' [rD v e] → R (.tuple #[]) h') → S.C I.f_slices_pdqsortOrdered_api_Loc [v, .int .i64 a, .int .i64 b, .int .i64 l] h R
theorem K_Sort {v : Value} {xs : List Int} (cs : CsS8 S I) (hN : xs.length ≤ 1000000) (c : Cx F h0 h [rSl EI1 v xs]) (hR : ∀ h', Cx F h0 h' [rSl EI1 v (sorted xs)] → R (.tuple #[]) h') :
    F_slices_Sort_api_Loc_api_Loc S I v h R := by
  unfold F_slices_Sort_api_Loc_api_Loc
  rw [Sl.ln (c.sl (i := 0) rfl).sl, vb_some, cvi_int, vb_some, wu64 (by omega)]
  refine cs.len hN fun k hk => ?_
  have c' : Cx F h0 h [rD v xs.toArray] := c
  refine cs.pdq (a := 0) (b := xs.length) (d := xs.toArray) (Nat.zero_le _) (by simp) (by simpa using hN) (by have := bits_le hk hN; omega) (.inl rfl) c' fun e h' p s c => ?_
  have key := sorted_unique_holds swo_ltInt (fun x y h1 h2 => by simp only [ltInt, decide_eq_false_iff_not] at h1 h2; omega) xs.toArray e (by simpa using p) (by simpa using s)
  unfold rD at c
  rw [key] at c
  refine hR _ ?_
  have e1 : (fun x y : Int => !ltInt y x) = fun x y => decide (x ≤ y) := by
    funext x y
    show (!decide (y < x)) = decide (x ≤ y)
    by_cases h : x ≤ y
    · have h' : ¬ y < x := by omega
      simp [h, h']
    · have h' : y < x := by omega
      simp [h, h']
  rw [e1] at c
  exact c
end Go.En
