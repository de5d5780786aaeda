/-
  slices.Sort: the partial insertion; the pivot; the patterns.
-/
import Derived.Test.YtggieecoagcmbaaSoC
namespace Go.En
open Prog Spc Go.Sort

variable {S : Sys} {I : Ids} {h h0 h' : Hp} {F F0 : Fp} {R : Value → Hp → Prop} {L : List Res}

theorem shiftDown_size (lt : Int → Int → Bool) : ∀ (j : Nat) (d : Array Int), (shiftDown lt j d).size = d.size
  | 0, d => rfl
  | j + 1, d => by rw [shiftDown]; split; rfl; rw [shiftDown_size lt j, swp_size]
theorem shiftUp_size (lt : Int → Int → Bool) (b : Nat) : ∀ (j : Nat) (d : Array Int), (shiftUp lt b j d).size = d.size := by
  intro j d
  fun_induction shiftUp lt b j d with
  | case1 => rfl
  | case2 _ _ _ _ ih => rw [ih, swp_size]
  | case3 => rfl
theorem scanSorted_go {d : Array Int} {b i : Nat} (h : i < b) (hp : ltInt d[i]! d[i - 1]! = false) : scanSorted ltInt d b i = scanSorted ltInt d b (i + 1) := by
  rw [scanSorted, if_pos (by simp [h, hp])]
theorem scanSorted_stop {d : Array Int} {b i : Nat} (h : ¬ (i < b ∧ ltInt d[i]! d[i - 1]! = false)) : scanSorted ltInt d b i = i := by
  rw [scanSorted, if_neg (by simpa using h)]

theorem K_partIns {v : Value} {d : Array Int} {a b : Nat} (cs : CsS0 S I) (hab : a < b) (hb : b ≤ d.size) (hN : d.size ≤ 1000000) (c : Cx F h0 h [rD v d])
    (hR : ∀ h', Cx F h0 h' [rD v (partialInsertionSort ltInt d a b).1] → R (.bool (partialInsertionSort ltInt d a b).2) h') :
    F_slices_partialInsertionSortOrdered_api_Loc S I v (.int .i64 a) (.int .i64 b) h R := by
  unfold F_slices_partialInsertionSortOrdered_api_Loc
  rw [bin_add, vb_some, wrS (by omega)]
  unfold partialInsertionSort at hR
  generalize hpi : partialIns ltInt a b 5 (a + 1) d = PI at *
  refine Lp2.by (fun (x : Nat × Nat × Array Int) u w h' => u = .int .i64 x.2.1 ∧ w = .int .i64 ((5 - x.1 : Nat) : Int) ∧ x.1 ≤ 5 ∧ a + 1 ≤ x.2.1 ∧ x.2.1 ≤ b ∧ x.2.2.size = d.size ∧ partialIns ltInt a b x.1 x.2.1 x.2.2 = PI ∧ Cx F h0 h' [rD v x.2.2]) (fun x => x.1) (5, a + 1, d) ⟨rfl, rfl, Nat.le_refl _, Nat.le_refl _, by dsimp only; omega, rfl, hpi, c⟩ ?_
  clear hpi
  rintro ⟨s, i, e⟩ u w h1 ⟨rfl, rfl, hs5, hi1, hi2, hes, hpi, c⟩ again hagain
  dsimp only at *
  simp only [go_sem]
  refine brd (fun h2 => ?_) fun h2 => ?_
  · obtain ⟨s, rfl⟩ : ∃ s', s = s' + 1 := ⟨s - 1, by omega⟩
    rw [wrS (by omega)]
    rw [partialIns] at hpi
    dsimp only at hpi
    -- the next step
    refine Jn1.at (fun u h' => ∃ (i2 : Nat) (e2 : Array Int), u = .int .i64 i2 ∧ a + 1 ≤ i2 ∧ i2 ≤ b ∧ e2.size = d.size ∧ partialIns ltInt a b s i2 e2 = PI ∧ Cx F h0 h' [rD v e2]) ?_ ?_
    · refine Lp1.by (fun (x : Nat) u h' => u = .int .i64 x ∧ i ≤ x ∧ x ≤ b ∧ scanSorted ltInt e b x = scanSorted ltInt e b i ∧ Cx F h0 h' [rD v e]) (fun x => b - x) i ⟨rfl, Nat.le_refl _, hi2, rfl, c⟩ ?_
      rintro x u g1 ⟨rfl, hlo, hhi, hsc, c⟩ again1 hagain1
      refine Jn1.at (fun u h' => Cx F h0 h' [rD v e] ∧ ∃ bb : Bool, u = .bool bb ∧ (bb = true ↔ (x < b ∧ ltInt e[x]! e[x - 1]! = false))) ?_ ?_
      · simp only [go_sem]
        refine brd (fun hc => ?_) fun hc => ?_
        · rw [wr64 (n := (x : Int) - 1) (by omega)]
          refine c.rd 0 rfl (n := x) rfl (by omega) ?_
          refine c.rd 0 rfl (n := x - 1) (by omega) (by omega) ?_
          refine c.pur cs.less fun h5 c => ?_
          simp only [go_sem]
          exact ⟨c, _, rfl, ⟨fun hh => ⟨by omega, by simpa using hh⟩, fun hh => by simpa using hh.2⟩⟩
        · exact ⟨c, false, rfl, ⟨(fun hh => by cases hh), fun hh => absurd hh.1 (by omega)⟩⟩
      rintro u g2 ⟨c, bb, rfl, hbb⟩
      cases bb with
      | true =>
        have hh := hbb.1 rfl
        rw [br_true, bin_add, vb_some, wrS (by omega)]
        exact hagain1 (x + 1) _ _ ⟨rfl, by omega, by omega, by rw [← hsc]; exact (scanSorted_go hh.1 hh.2).symm, c⟩ (by omega)
      | false =>
      rw [br_false]
      have hst : scanSorted ltInt e b i = x := by rw [← hsc]; exact scanSorted_stop fun hh => by have := hbb.2 hh; cases this
      rw [hst] at hpi
      simp only [go_sem]
      refine brd (fun hc => ?_) fun hc => ?_
      · rw [if_pos (by omega)] at hpi
        subst hpi
        exact hR _ c
      rw [if_neg (by omega)] at hpi
      rw [wr64 (n := (b : Int) - a) (by omega)]
      refine brd (fun hc2 => ?_) fun hc2 => ?_
      · rw [if_pos (by omega)] at hpi
        subst hpi
        exact hR _ c
      rw [if_neg (by omega)] at hpi
      rw [wr64 (n := (x : Int) - 1) (by omega), wr64 (n := (x : Int) - a) (by omega), wr64 (n := (b : Int) - x) (by omega), wr64 (n := (x : Int) + 1) (by omega)]
      refine c.swp 0 rfl (zx := (x : Int)) (zy := (x : Int) - 1) (x := x) (y := x - 1) rfl (by omega) (by omega) (by omega) fun h6 c => ?_
      have hs1 := swp_size e x (x - 1)
      generalize Go.Sort.swp e x (x - 1) = f at *
      refine Jn0.at (fun h' => Cx F h0 h' [rD v (if x - a ≥ 2 then shiftDown ltInt (x - 1) f else f)]) ?_ ?_
      · refine brd (fun hc3 => ?_) fun hc3 => ?_
        · rw [if_pos (by omega)]
          have ex : (x : Int) - 1 = ((x - 1 : Nat) : Int) := by omega
          rw [ex]
          refine Lp1.by (fun (y : Nat × Array Int) u h' => u = .int .i64 y.1 ∧ y.1 < b ∧ y.2.size = d.size ∧ shiftDown ltInt y.1 y.2 = shiftDown ltInt (x - 1) f ∧ Cx F h0 h' [rD v y.2]) (fun y => y.1) (x - 1, f) ⟨rfl, by dsimp only; omega, by dsimp only; omega, rfl, c⟩ ?_
          rintro ⟨j, g⟩ u g3 ⟨rfl, hj, hgs, hsd, c⟩ again2 hagain2
          dsimp only at *
          simp only [go_sem]
          refine brd (fun hc4 => ?_) fun hc4 => ?_
          · obtain ⟨j, rfl⟩ : ∃ j', j = j' + 1 := ⟨j - 1, by omega⟩
            rw [shiftDown] at hsd
            rw [wr64 (n := ((j + 1 : Nat) : Int) - 1) (by omega)]
            refine c.rd 0 rfl (n := j + 1) rfl (by omega) ?_
            refine c.rd 0 rfl (n := j) (by omega) (by omega) ?_
            refine c.pur cs.less fun h5 c => ?_
            cases hlt : ltInt g[j + 1]! g[j]! with
            | false =>
              simp only [go_sem, Bool.not_false]
              rw [if_pos (by simp [hlt])] at hsd
              rw [← hsd]; exact c
            | true =>
              simp only [go_sem, Bool.not_true]
              rw [if_neg (by simp [hlt])] at hsd
              refine c.swp 0 rfl (zx := ((j + 1 : Nat) : Int)) (zy := ((j + 1 : Nat) : Int) - 1) (x := j + 1) (y := j) rfl (by omega) (by omega) (by omega) fun h7 c => ?_
              exact hagain2 (j, Go.Sort.swp g (j + 1) j) _ _ ⟨by congr 1; omega, by dsimp only; omega, by rw [swp_size, hgs], hsd, c⟩ (by omega)
          · have : j = 0 := by omega
            subst this
            rw [shiftDown] at hsd
            rw [← hsd]; exact c
        · rw [if_neg (by omega)]
          exact c
      · intro h7 c
        have hs2 : (if x - a ≥ 2 then shiftDown ltInt (x - 1) f else f).size = d.size := by split; rw [shiftDown_size]; omega; omega
        generalize (if x - a ≥ 2 then shiftDown ltInt (x - 1) f else f) = f2 at *
        try simp only [go_sem]
        have done : ∀ h', Cx F h0 h' [rD v (if b - x ≥ 2 then shiftUp ltInt b (x + 1) f2 else f2)] → ∃ (i2 : Nat) (e2 : Array Int), Value.int .i64 (x : Int) = .int .i64 i2 ∧ a + 1 ≤ i2 ∧ i2 ≤ b ∧ e2.size = d.size ∧ partialIns ltInt a b s i2 e2 = PI ∧ Cx F h0 h' [rD v e2] := fun h' c =>
          ⟨x, _, rfl, by omega, hhi, by split; rw [shiftUp_size]; exact hs2; exact hs2, hpi, c⟩
        refine brd (fun hc3 => ?_) fun hc3 => ?_
        · rw [if_pos (by omega)] at done
          have ex : (x : Int) + 1 = ((x + 1 : Nat) : Int) := by omega
          rw [ex]
          refine Lp1.by (fun (y : Nat × Array Int) u h' => u = .int .i64 y.1 ∧ 1 ≤ y.1 ∧ y.1 ≤ b ∧ y.2.size = d.size ∧ shiftUp ltInt b y.1 y.2 = shiftUp ltInt b (x + 1) f2 ∧ Cx F h0 h' [rD v y.2]) (fun y => b - y.1) (x + 1, f2) ⟨rfl, by dsimp only; omega, by dsimp only; omega, hs2, rfl, c⟩ ?_
          rintro ⟨j, g⟩ u g3 ⟨rfl, hj0, hj, hgs, hsd, c⟩ again2 hagain2
          dsimp only at *
          simp only [go_sem]
          rw [shiftUp] at hsd
          refine brd (fun hc4 => ?_) fun hc4 => ?_
          · rw [if_pos (by omega)] at hsd
            rw [wr64 (n := (j : Int) - 1) (by omega)]
            refine c.rd 0 rfl (n := j) rfl (by omega) ?_
            refine c.rd 0 rfl (n := j - 1) (by omega) (by omega) ?_
            refine c.pur cs.less fun h5 c => ?_
            cases hlt : ltInt g[j]! g[j - 1]! with
            | false =>
              simp only [go_sem, Bool.not_false]
              rw [if_pos (by simp [hlt])] at hsd
              exact done _ (by rw [← hsd]; exact c)
            | true =>
              simp only [go_sem, Bool.not_true]
              rw [if_neg (by simp [hlt])] at hsd
              refine c.swp 0 rfl (zx := (j : Int)) (zy := (j : Int) - 1) (x := j) (y := j - 1) rfl (by omega) (by omega) (by omega) fun h7 c => ?_
              rw [wrS (by omega)]
              exact hagain2 (j + 1, Go.Sort.swp g j (j - 1)) _ _ ⟨rfl, by dsimp only; omega, by dsimp only; omega, by rw [swp_size, hgs], hsd, c⟩ (by dsimp only; omega)
          · rw [if_neg (by omega)] at hsd
            exact done _ (by rw [← hsd]; exact c)
        · rw [if_neg (by omega)] at done
          exact done _ c
    · rintro u g2 ⟨i2, e2, rfl, h3, h4, h5, h6, c⟩
      exact hagain (s, i2, e2) _ _ _ ⟨rfl, by dsimp only; congr 1; omega, by dsimp only; omega, h3, h4, h5, h6, c⟩ (by omega)
  · have : s = 0 := by omega
    subst this
    rw [partialIns] at hpi
    subst hpi
    exact hR _ c
end Go.En
