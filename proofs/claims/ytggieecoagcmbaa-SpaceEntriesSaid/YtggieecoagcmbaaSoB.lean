/-
  slices.Sort: the heap, the reversal, the partitions.
-/
import Derived.Test.YtggieecoagcmbaaSoA
namespace Go.En
open Prog Spc Go.Sort

variable {S : Sys} {I : Ids} {h h0 h' : Hp} {F F0 : Fp} {R : Value → Hp → Prop} {L : List Res}

theorem siftDown_size (lt : Int → Int → Bool) (hi first : Nat) : ∀ (root : Nat) (d : Array Int), (siftDown lt hi first root d).size = d.size := by
  intro root d
  fun_induction siftDown lt hi first root d with
  | case1 => rfl
  | case2 => rfl
  | case3 _ _ _ _ _ _ ih => rw [ih, swp_size]
  | case4 => rfl
  | case5 => rfl
  | case6 _ _ _ _ _ ih => rw [ih, swp_size]

theorem K_sift {v : Value} {d : Array Int} {lo hi first : Nat} (cs : CsS0 S I) (hl : lo ≤ 1000000) (hb : first + hi ≤ d.size) (hN : d.size ≤ 1000000) (c : Cx F h0 h [rD v d]) (hR : ∀ h', Cx F h0 h' [rD v (siftDown ltInt hi first lo d)] → R (.tuple #[]) h') :
    F_slices_siftDownOrdered_api_Loc S I v (.int .i64 lo) (.int .i64 hi) (.int .i64 first) h R := by
  unfold F_slices_siftDownOrdered_api_Loc
  refine Lp1.by (fun (x : Nat × Array Int) u h' => u = .int .i64 x.1 ∧ x.1 ≤ 1000000 ∧ x.2.size = d.size ∧ siftDown ltInt hi first x.1 x.2 = siftDown ltInt hi first lo d ∧ Cx F h0 h' [rD v x.2]) (fun x => hi - x.1) (lo, d) ⟨rfl, hl, rfl, rfl, c⟩ ?_
  rintro ⟨r, e⟩ u h1 ⟨rfl, hr, hs, hout, c⟩ again hagain
  dsimp only at *
  simp only [go_sem]
  rw [wr64 (n := 2 * (r : Int)) (by omega), wr64 (n := 2 * (r : Int) + 1) (by omega)]
  refine brd (fun h2 => ?_) fun h2 => ?_
  · rw [siftDown, dif_pos (by omega)] at hout
    rw [← hout] at hR
    exact hR _ c
  · rw [wr64 (n := 2 * (r : Int) + 1 + 1) (by omega), wr64 (n := (first : Int) + (2 * (r : Int) + 1)) (by omega), wr64 (n := (first : Int) + (2 * (r : Int) + 1) + 1) (by omega), wr64 (n := (first : Int) + (r : Int)) (by omega)]
    rw [siftDown, dif_neg (by omega)] at hout
    refine Jn1.at (fun u h' => ∃ ch : Nat, u = .int .i64 ch ∧ ch < hi ∧ r < ch ∧ ch ≤ 2 * r + 2 ∧ (if !ltInt e[first + r]! e[first + ch]! then e else siftDown ltInt hi first ch (Go.Sort.swp e (first + r) (first + ch))) = siftDown ltInt hi first lo d ∧ Cx F h0 h' [rD v e]) ?_ ?_
    · have one : ∀ h', Cx F h0 h' [rD v e] → (2 * r + 1 + 1 < hi && ltInt e[first + (2 * r + 1)]! e[first + (2 * r + 1) + 1]!) = false → ∃ ch : Nat, Value.int .i64 (2 * (r : Int) + 1) = .int .i64 ch ∧ ch < hi ∧ r < ch ∧ ch ≤ 2 * r + 2 ∧ (if !ltInt e[first + r]! e[first + ch]! then e else siftDown ltInt hi first ch (Go.Sort.swp e (first + r) (first + ch))) = siftDown ltInt hi first lo d ∧ Cx F h0 h' [rD v e] := by
        intro h' c hc
        rw [if_neg (by rw [hc]; simp)] at hout
        exact ⟨2 * r + 1, by congr 1, by omega, by omega, by omega, hout, c⟩
      refine .here ?_
      refine brd (fun h3 => ?_) fun h3 => ?_
      · refine c.rd 0 rfl (n := first + (2 * r + 1)) (by omega) (by omega) ?_
        refine c.rd 0 rfl (n := first + (2 * r + 1) + 1) (by omega) (by omega) ?_
        refine c.pur cs.less fun h4 c => ?_
        cases hlt : ltInt e[first + (2 * r + 1)]! e[first + (2 * r + 1) + 1]! with
        | true =>
          simp only [go_sem]
          have hc : (2 * r + 1 + 1 < hi && ltInt e[first + (2 * r + 1)]! e[first + (2 * r + 1) + 1]!) = true := by rw [hlt]; simp; omega
          rw [if_pos hc] at hout
          refine ⟨2 * r + 2, by congr 1, by omega, by omega, by omega, ?_, c⟩
          rw [← hout]
          split
          · rfl
          · rw [dif_pos (by omega)]
        | false =>
          simp only [go_sem]
          exact one _ c (by rw [hlt]; simp)
      · exact one _ c (by simp; omega)
    · rintro u h3 ⟨ch, rfl, hch, hrc, hc2, hout, c⟩
      refine c.rd 0 rfl (n := first + r) (by omega) (by omega) ?_
      simp only [go_sem]
      rw [wr64 (n := (first : Int) + (ch : Int)) (by omega)]
      refine c.rd 0 rfl (n := first + ch) (by omega) (by omega) ?_
      refine c.pur cs.less fun h4 c => ?_
      cases hlt : ltInt e[first + r]! e[first + ch]! with
      | false =>
        simp only [go_sem, Bool.not_false]
        rw [hlt, if_pos (by simp)] at hout
        rw [← hout] at hR
        exact hR _ c
      | true =>
        simp only [go_sem, Bool.not_true]
        rw [hlt, if_neg (by simp)] at hout
        refine c.swp 0 rfl (zx := (first : Int) + (r : Int)) (zy := (first : Int) + (ch : Int)) (x := first + r) (y := first + ch) (by omega) (by omega) (by omega) (by omega) fun h6 c => ?_
        exact hagain (ch, Go.Sort.swp e (first + r) (first + ch)) _ _ ⟨rfl, by omega, by rw [swp_size, hs], hout, c⟩ (by omega)

structure CsS1 (S : Sys) (I : Ids) : Prop extends CsS0 S I where
  sift : ∀ {v : Value} {d : Array Int} {lo hi first : Nat} {F h0 h R}, lo ≤ 1000000 → first + hi ≤ d.size → d.size ≤ 1000000 → Cx F h0 h [rD v d] → (∀ h', Cx F h0 h' [rD v (siftDown ltInt hi first lo d)] → R (.tuple #[]) h') →
    S.C I.f_slices_siftDownOrdered_api_Loc [v, .int .i64 lo, .int .i64 hi, .int .i64 first] h R

theorem K_heapSort {v : Value} {d : Array Int} {a b : Nat} (cs : CsS1 S I) (hab : a ≤ b) (hb : b ≤ d.size) (hN : d.size ≤ 1000000) (c : Cx F h0 h [rD v d]) (hR : ∀ h', Cx F h0 h' [rD v (heapSort ltInt d a b)] → R (.tuple #[]) h') :
    F_slices_heapSortOrdered_api_Loc S I v (.int .i64 a) (.int .i64 b) h R := by
  unfold F_slices_heapSortOrdered_api_Loc
  simp only [go_sem]
  rw [wr64 (n := (b : Int) - a) (by omega), wr64 (n := (b : Int) - a - 1) (by omega), bin_quo (by omega)]
  simp only [go_sem]
  have ediv : IntKind.i64.wrap (((b : Int) - a - 1).tdiv 2) = (((b - a - 1) / 2 + 1 : Nat) : Int) - 1 := by
    rcases Nat.eq_zero_or_pos (b - a) with h0 | h0
    · have : (b : Int) - a - 1 = -1 := by omega
      rw [this]
      have e2 : b - a - 1 = 0 := by omega
      rw [e2]; rfl
    · rw [Int.tdiv_eq_ediv_of_nonneg (by omega), wr64 (by omega)]; omega
  rw [ediv]
  have eba : (b : Int) - a = ((b - a : Nat) : Int) := by omega
  rw [eba]
  refine Lp1.by (fun (x : Nat × Array Int) u h' => u = .int .i64 ((x.1 : Int) - 1) ∧ x.1 ≤ 1000000 ∧ x.2.size = d.size ∧ heapPop ltInt a (b - a) (heapBuild ltInt (b - a) a x.1 x.2) = heapSort ltInt d a b ∧ Cx F h0 h' [rD v x.2]) (fun x => x.1) ((b - a - 1) / 2 + 1, d) ⟨rfl, by omega, rfl, rfl, c⟩ ?_
  rintro ⟨k, e⟩ u h1 ⟨rfl, hk, hs, hout, c⟩ again hagain
  dsimp only at *
  simp only [go_sem]
  refine brd (fun h2 => ?_) fun h2 => ?_
  · obtain ⟨k, rfl⟩ : ∃ k', k = k' + 1 := ⟨k - 1, by omega⟩
    have ek : ((k + 1 : Nat) : Int) - 1 = (k : Nat) := by omega
    rw [ek]
    refine cs.sift (by omega) (by omega) (by omega) c fun h3 c => ?_
    rw [wr64 (n := (k : Int) - 1) (by omega)]
    exact hagain (k, siftDown ltInt (b - a) a k e) _ _ ⟨rfl, by omega, by rw [siftDown_size, hs], hout, c⟩ (by omega)
  · have hk0 : k = 0 := by omega
    subst hk0
    rw [heapBuild] at hout
    refine Lp1.by (fun (x : Nat × Array Int) u h' => u = .int .i64 ((x.1 : Int) - 1) ∧ x.1 ≤ b - a ∧ x.2.size = d.size ∧ heapPop ltInt a x.1 x.2 = heapSort ltInt d a b ∧ Cx F h0 h' [rD v x.2]) (fun x => x.1) (b - a, e) ⟨rfl, by dsimp only; omega, hs, hout, c⟩ ?_
    rintro ⟨k, e⟩ u h3 ⟨rfl, hk, hs, hout, c⟩ again2 hagain2
    dsimp only at *
    simp only [go_sem]
    refine brd (fun h4 => ?_) fun h4 => ?_
    · obtain ⟨k, rfl⟩ : ∃ k', k = k' + 1 := ⟨k - 1, by omega⟩
      have ek : ((k + 1 : Nat) : Int) - 1 = (k : Nat) := by omega
      rw [ek, wr64 (n := (a : Int) + (k : Int)) (by omega)]
      refine c.swp 0 rfl (zx := (a : Int)) (zy := (a : Int) + (k : Int)) (x := a) (y := a + k) rfl (by omega) (by omega) (by omega) fun h5 c => ?_
      refine cs.sift (lo := 0) (by omega) (by rw [swp_size]; omega) (by rw [swp_size]; omega) c fun h6 c => ?_
      rw [wr64 (n := (k : Int) - 1) (by omega)]
      exact hagain2 (k, siftDown ltInt k a 0 (Go.Sort.swp e a (a + k))) _ _ ⟨rfl, by omega, by rw [siftDown_size, swp_size, hs], hout, c⟩ (by omega)
    · have hk0 : k = 0 := by omega
      subst hk0
      rw [heapPop] at hout
      rw [← hout] at hR
      exact hR _ c

theorem K_reverse {v : Value} {d : Array Int} {a b : Nat} (hab : a < b) (hb : b ≤ d.size) (hN : d.size ≤ 1000000) (c : Cx F h0 h [rD v d]) (hR : ∀ h', Cx F h0 h' [rD v (reverseRange d a b)] → R (.tuple #[]) h') :
    F_slices_reverseRangeOrdered_api_Loc S I v (.int .i64 a) (.int .i64 b) h R := by
  unfold F_slices_reverseRangeOrdered_api_Loc
  simp only [go_sem]
  rw [wr64 (n := (b : Int) - 1) (by omega)]
  refine Lp2.by (fun (x : Nat × Nat × Array Int) u w h' => u = .int .i64 x.1 ∧ w = .int .i64 x.2.1 ∧ x.1 ≤ b ∧ x.2.1 < b ∧ x.2.2.size = d.size ∧ reverseLoop x.1 x.2.1 x.2.2 = reverseRange d a b ∧ Cx F h0 h' [rD v x.2.2]) (fun x => x.2.1 - x.1) (a, b - 1, d) ⟨rfl, by dsimp only; congr 1; omega, by dsimp only; omega, by dsimp only; omega, rfl, rfl, c⟩ ?_
  rintro ⟨i, j, e⟩ u w h1 ⟨rfl, rfl, hi, hj, hs, hout, c⟩ again hagain
  dsimp only at *
  simp only [go_sem]
  rw [reverseLoop] at hout
  refine brd (fun h2 => ?_) fun h2 => ?_
  · rw [if_pos (by omega)] at hout
    refine c.swp 0 rfl (zx := (i : Int)) (zy := (j : Int)) (x := i) (y := j) rfl rfl (by omega) (by omega) fun h5 c => ?_
    rw [wrS (by omega), wr64 (n := (j : Int) - 1) (by omega)]
    exact hagain (i + 1, j - 1, Go.Sort.swp e i j) _ _ _ ⟨rfl, by dsimp only; congr 1; omega, by dsimp only; omega, by dsimp only; omega, by rw [swp_size, hs], hout, c⟩ (by dsimp only; omega)
  · rw [if_neg (by omega)] at hout
    rw [← hout] at hR
    exact hR _ c
end Go.En
