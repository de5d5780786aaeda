/-
  slices.Sort: the partitions.
-/
import Derived.Test.YtggieecoagcmbaaSoB
namespace Go.En
open Prog Spc Go.Sort

variable {S : Sys} {I : Ids} {h h0 h' : Hp} {F F0 : Fp} {R : Value → Hp → Prop} {L : List Res}

theorem scanUp_go {p : Int → Bool} {d : Array Int} {i j : Nat} (h : i ≤ j) (hp : p d[i]! = true) : scanUp p d j i = scanUp p d j (i + 1) := by
  rw [scanUp, if_pos (by simp [h, hp])]
theorem scanUp_stop {p : Int → Bool} {d : Array Int} {i j : Nat} (h : ¬ (i ≤ j ∧ p d[i]! = true)) : scanUp p d j i = i := by
  rw [scanUp, if_neg (by simpa using h)]
theorem scanDown_go {p : Int → Bool} {d : Array Int} {i j : Nat} (h : i ≤ j + 1) (hp : p d[j + 1]! = true) : scanDown p d i (j + 1) = scanDown p d i j := by
  rw [scanDown, if_pos (by simp [h, hp])]
theorem scanDown_stop {p : Int → Bool} {d : Array Int} {i j : Nat} (h : ¬ (i ≤ j ∧ p d[j]! = true)) : scanDown p d i j = j := by
  cases j with
  | zero => rfl
  | succ j => rw [scanDown, if_neg (by simpa using h)]

theorem K_partition {v : Value} {d : Array Int} {a b pivot : Nat} (cs : CsS0 S I) (hap : a ≤ pivot) (hpb : pivot < b) (hb : b ≤ d.size) (hN : d.size ≤ 1000000) (c : Cx F h0 h [rD v d])
    (hR : ∀ h', Cx F h0 h' [rD v (partition ltInt d a b pivot).2.2] → R (.tuple #[.int .i64 (partition ltInt d a b pivot).1, .bool (partition ltInt d a b pivot).2.1]) h') :
    F_slices_partitionOrdered_api_Loc S I v (.int .i64 a) (.int .i64 b) (.int .i64 pivot) h R := by
  unfold F_slices_partitionOrdered_api_Loc
  refine c.swp 0 rfl (zx := (a : Int)) (zy := (pivot : Int)) (x := a) (y := pivot) rfl rfl (by omega) (by omega) fun h1 c => ?_
  unfold partition at hR
  dsimp only at hR
  have hes := swp_size d a pivot
  generalize Go.Sort.swp d a pivot = e at *
  rw [bin_add, vb_some, wrS (by omega), bin_sub, vb_some, wr64 (n := (b : Int) - 1) (by omega)]
  have eb : (b : Int) - 1 = ((b - 1 : Nat) : Int) := by omega
  rw [eb]
  refine Lp1.by (fun (x : Nat) u h' => u = .int .i64 x ∧ (a + 1) ≤ x ∧ x ≤ (b - 1) + 1 ∧ scanUp (fun x => ltInt x e[a]!) e (b - 1) x = scanUp (fun x => ltInt x e[a]!) e (b - 1) (a + 1) ∧ Cx F h0 h' [rD v e]) (fun x => (b - 1) + 1 - x) (a + 1) ⟨rfl, Nat.le_refl _, by omega, rfl, c⟩ ?_
  rintro i1 u g1 ⟨rfl, hlo1, hhi1, hsc1, c⟩ again1 hagain1
  refine Jn1.at (fun u h' => Cx F h0 h' [rD v e] ∧ ∃ bb : Bool, u = .bool bb ∧ (bb = true ↔ (i1 ≤ (b - 1) ∧ (fun x => ltInt x e[a]!) e[i1]! = true))) ?_ ?_
  · simp only [go_sem]
    refine brd (fun hc => ?_) fun hc => ?_
    · refine c.rd 0 rfl (n := i1) rfl (by omega) ?_
      refine c.rd 0 rfl (n := a) rfl (by omega) ?_
      refine c.pur cs.less fun h5 c => ?_
      try simp only [go_sem]
      exact ⟨c, _, rfl, ⟨fun hh => ⟨by omega, by simpa using hh⟩, fun hh => by simpa using hh.2⟩⟩
    · exact ⟨c, false, rfl, ⟨(fun hh => by cases hh), fun hh => absurd hh.1 (by omega)⟩⟩
  rintro u g1' ⟨c, b1, rfl, hb1⟩
  cases b1 with
  | true =>
    have hh := hb1.1 rfl
    rw [br_true, bin_add, vb_some, wrS (by omega)]
    exact hagain1 (i1 + 1) _ _ ⟨rfl, by omega, by omega, by rw [← hsc1]; exact (scanUp_go hh.1 hh.2).symm, c⟩ (by omega)
  | false =>
  rw [br_false]
  have hst1 : scanUp (fun x => ltInt x e[a]!) e (b - 1) (a + 1) = i1 := by rw [← hsc1]; exact scanUp_stop fun hh => by have := hb1.2 hh; cases this
  rw [hst1] at hR
  refine Lp1.by (fun (x : Nat) u h' => u = .int .i64 x ∧ x ≤ (b - 1) ∧ i1 ≤ x + 1 ∧ scanDown (fun x => !ltInt x e[a]!) e i1 x = scanDown (fun x => !ltInt x e[a]!) e i1 (b - 1) ∧ Cx F h0 h' [rD v e]) (fun x => x) (b - 1) ⟨rfl, Nat.le_refl _, by omega, rfl, c⟩ ?_
  rintro j2 u g2 ⟨rfl, hhi2, hlo2, hsc2, c⟩ again2 hagain2
  refine Jn1.at (fun u h' => Cx F h0 h' [rD v e] ∧ ∃ bb : Bool, u = .bool bb ∧ (bb = true ↔ (i1 ≤ j2 ∧ (fun x => !ltInt x e[a]!) e[j2]! = true))) ?_ ?_
  · simp only [go_sem]
    refine brd (fun hc => ?_) fun hc => ?_
    · refine c.rd 0 rfl (n := j2) rfl (by omega) ?_
      refine c.rd 0 rfl (n := a) rfl (by omega) ?_
      refine c.pur cs.less fun h5 c => ?_
      try simp only [go_sem]
      exact ⟨c, _, rfl, ⟨fun hh => ⟨by omega, by simpa using hh⟩, fun hh => by simpa using hh.2⟩⟩
    · exact ⟨c, false, rfl, ⟨(fun hh => by cases hh), fun hh => absurd hh.1 (by omega)⟩⟩
  rintro u g2' ⟨c, b2, rfl, hb2⟩
  cases b2 with
  | true =>
    have hh := hb2.1 rfl
    obtain ⟨j, rfl⟩ : ∃ j, j2 = j + 1 := ⟨j2 - 1, by omega⟩
    rw [br_true, bin_sub, vb_some, wr64 (n := ((j + 1 : Nat) : Int) - 1) (by omega)]
    exact hagain2 j _ _ ⟨by congr 1; omega, by omega, by omega, by rw [← hsc2]; exact (scanDown_go hh.1 hh.2).symm, c⟩ (by omega)
  | false =>
  rw [br_false]
  have hst2 : scanDown (fun x => !ltInt x e[a]!) e i1 (b - 1) = j2 := by rw [← hsc2]; exact scanDown_stop fun hh => by have := hb2.2 hh; cases this
  rw [hst2] at hR
  simp only [go_sem]
  refine brd (fun hc => ?_) fun hc => ?_
  · rw [if_pos (by omega)] at hR
    refine c.swp 0 rfl (zx := (j2 : Int)) (zy := (a : Int)) (x := j2) (y := a) rfl rfl (by omega) (by omega) fun h6 c => ?_
    exact hR _ c
  rw [if_neg (by omega)] at hR
  refine c.swp 0 rfl (zx := (i1 : Int)) (zy := (j2 : Int)) (x := i1) (y := j2) rfl rfl (by omega) (by omega) fun h6 c => ?_
  rw [wrS (by omega), wr64 (n := (j2 : Int) - 1) (by omega)]
  have hes2 := swp_size e i1 j2
  generalize Go.Sort.swp e i1 j2 = e2 at *
  have ej : (j2 : Int) - 1 = ((j2 - 1 : Nat) : Int) := by omega
  rw [ej]
  generalize hpl : partLoop ltInt a (i1 + 1) (j2 - 1) e2 = PL at *
  refine Lp2.by (fun (x : Nat × Nat × Array Int) u w h' => u = .int .i64 x.1 ∧ w = .int .i64 x.2.1 ∧ a + 1 ≤ x.1 ∧ x.1 ≤ b ∧ x.2.1 < b ∧ x.1 ≤ x.2.1 + 2 ∧ a ≤ x.2.1 ∧ x.2.2.size = d.size ∧ partLoop ltInt a x.1 x.2.1 x.2.2 = PL ∧ Cx F h0 h' [rD v x.2.2]) (fun x => x.2.1 + 1 - x.1) (i1 + 1, j2 - 1, e2) ⟨rfl, rfl, by dsimp only; omega, by dsimp only; omega, by dsimp only; omega, by dsimp only; omega, by dsimp only; omega, by dsimp only; omega, hpl, c⟩ ?_
  clear hst1 hst2 hsc1 hsc2 hb1 hb2 hlo1 hlo2 hhi1 hhi2 hc hpl ej
  rintro ⟨i, j, f⟩ u w h7 ⟨rfl, rfl, hi, hi2, hj, hij, haj, hfs, hpl, c⟩ again hagain
  dsimp only at *
  rw [partLoop] at hpl
  try dsimp only at hpl
  by_cases hij2 : i ≤ j + 1
  · skip
    refine Lp1.by (fun (x : Nat) u h' => u = .int .i64 x ∧ i ≤ x ∧ x ≤ j + 1 ∧ scanUp (fun x => ltInt x f[a]!) f j x = scanUp (fun x => ltInt x f[a]!) f j i ∧ Cx F h0 h' [rD v f]) (fun x => j + 1 - x) i ⟨rfl, Nat.le_refl _, by omega, rfl, c⟩ ?_
    rintro i3 u g3 ⟨rfl, hlo3, hhi3, hsc3, c⟩ again3 hagain3
    refine Jn1.at (fun u h' => Cx F h0 h' [rD v f] ∧ ∃ bb : Bool, u = .bool bb ∧ (bb = true ↔ (i3 ≤ j ∧ (fun x => ltInt x f[a]!) f[i3]! = true))) ?_ ?_
    · simp only [go_sem]
      refine brd (fun hc => ?_) fun hc => ?_
      · refine c.rd 0 rfl (n := i3) rfl (by omega) ?_
        refine c.rd 0 rfl (n := a) rfl (by omega) ?_
        refine c.pur cs.less fun h5 c => ?_
        try simp only [go_sem]
        exact ⟨c, _, rfl, ⟨fun hh => ⟨by omega, by simpa using hh⟩, fun hh => by simpa using hh.2⟩⟩
      · exact ⟨c, false, rfl, ⟨(fun hh => by cases hh), fun hh => absurd hh.1 (by omega)⟩⟩
    rintro u g3' ⟨c, b3, rfl, hb3⟩
    cases b3 with
    | true =>
      have hh := hb3.1 rfl
      rw [br_true, bin_add, vb_some, wrS (by omega)]
      exact hagain3 (i3 + 1) _ _ ⟨rfl, by omega, by omega, by rw [← hsc3]; exact (scanUp_go hh.1 hh.2).symm, c⟩ (by omega)
    | false =>
    rw [br_false]
    have hst3 : scanUp (fun x => ltInt x f[a]!) f j i = i3 := by rw [← hsc3]; exact scanUp_stop fun hh => by have := hb3.2 hh; cases this
    rw [hst3] at hpl
    refine Lp1.by (fun (x : Nat) u h' => u = .int .i64 x ∧ x ≤ j ∧ i3 ≤ x + 1 ∧ scanDown (fun x => !ltInt x f[a]!) f i3 x = scanDown (fun x => !ltInt x f[a]!) f i3 j ∧ Cx F h0 h' [rD v f]) (fun x => x) j ⟨rfl, Nat.le_refl _, by omega, rfl, c⟩ ?_
    rintro j4 u g4 ⟨rfl, hhi4, hlo4, hsc4, c⟩ again4 hagain4
    refine Jn1.at (fun u h' => Cx F h0 h' [rD v f] ∧ ∃ bb : Bool, u = .bool bb ∧ (bb = true ↔ (i3 ≤ j4 ∧ (fun x => !ltInt x f[a]!) f[j4]! = true))) ?_ ?_
    · simp only [go_sem]
      refine brd (fun hc => ?_) fun hc => ?_
      · refine c.rd 0 rfl (n := j4) rfl (by omega) ?_
        refine c.rd 0 rfl (n := a) rfl (by omega) ?_
        refine c.pur cs.less fun h5 c => ?_
        try simp only [go_sem]
        exact ⟨c, _, rfl, ⟨fun hh => ⟨by omega, by simpa using hh⟩, fun hh => by simpa using hh.2⟩⟩
      · exact ⟨c, false, rfl, ⟨(fun hh => by cases hh), fun hh => absurd hh.1 (by omega)⟩⟩
    rintro u g4' ⟨c, b4, rfl, hb4⟩
    cases b4 with
    | true =>
      have hh := hb4.1 rfl
      obtain ⟨j, rfl⟩ : ∃ j, j4 = j + 1 := ⟨j4 - 1, by omega⟩
      rw [br_true, bin_sub, vb_some, wr64 (n := ((j + 1 : Nat) : Int) - 1) (by omega)]
      exact hagain4 j _ _ ⟨by congr 1; omega, by omega, by omega, by rw [← hsc4]; exact (scanDown_go hh.1 hh.2).symm, c⟩ (by omega)
    | false =>
    rw [br_false]
    have hst4 : scanDown (fun x => !ltInt x f[a]!) f i3 j = j4 := by rw [← hsc4]; exact scanDown_stop fun hh => by have := hb4.2 hh; cases this
    rw [hst4] at hpl
    simp only [go_sem]
    refine brd (fun hc => ?_) fun hc => ?_
    · rw [if_pos (by omega)] at hpl
      subst hpl
      refine c.swp 0 rfl (zx := (j4 : Int)) (zy := (a : Int)) (x := j4) (y := a) rfl rfl (by omega) (by omega) fun h6 c => ?_
      exact hR _ c
    · rw [if_neg (by omega), dif_pos (by omega)] at hpl
      refine c.swp 0 rfl (zx := (i3 : Int)) (zy := (j4 : Int)) (x := i3) (y := j4) rfl rfl (by omega) (by omega) fun h6 c => ?_
      rw [wrS (by omega), wr64 (n := (j4 : Int) - 1) (by omega)]
      exact hagain (i3 + 1, j4 - 1, Go.Sort.swp f i3 j4) _ _ _ ⟨rfl, by dsimp only; congr 1; omega, by dsimp only; omega, by dsimp only; omega, by dsimp only; omega, by dsimp only; omega, by dsimp only; omega, by rw [swp_size, hfs], hpl, c⟩ (by dsimp only; omega)
  · -- the scans are empty
    have e1 : scanUp (fun x => ltInt x f[a]!) f j i = i := scanUp_stop fun hh => by omega
    have e2 : scanDown (fun x => !ltInt x f[a]!) f i j = j := scanDown_stop fun hh => by omega
    rw [e1, e2, if_pos (by omega)] at hpl
    subst hpl
    refine Lp1.by (fun (x : Nat) u h' => x = i ∧ u = .int .i64 i ∧ Cx F h0 h' [rD v f]) (fun x => x) i ⟨rfl, rfl, c⟩ ?_
    rintro x u g1 ⟨rfl, rfl, c⟩ ag hag
    refine .here ?_
    simp only [go_sem]
    refine brF (by omega) ?_
    refine Lp1.by (fun (x' : Nat) u h' => x' = j ∧ u = .int .i64 j ∧ Cx F h0 h' [rD v f]) (fun x => x) j ⟨rfl, rfl, c⟩ ?_
    rintro x' u g2 ⟨rfl, rfl, c⟩ ag2 hag2
    refine .here ?_
    simp only [go_sem]
    refine brF (by omega) ?_
    refine brT (by omega) ?_
    refine c.swp 0 rfl (zx := (x' : Int)) (zy := (a : Int)) (x := x') (y := a) rfl rfl (by omega) (by omega) fun h6 c => ?_
    exact hR _ c

theorem K_partEq {v : Value} {d : Array Int} {a b pivot : Nat} (cs : CsS0 S I) (hap : a ≤ pivot) (hpb : pivot < b) (hb : b ≤ d.size) (hN : d.size ≤ 1000000) (c : Cx F h0 h [rD v d])
    (hR : ∀ h', Cx F h0 h' [rD v (partitionEqual ltInt d a b pivot).2] → R (.int .i64 (partitionEqual ltInt d a b pivot).1) h') :
    F_slices_partitionEqualOrdered_api_Loc S I v (.int .i64 a) (.int .i64 b) (.int .i64 pivot) h R := by
  unfold F_slices_partitionEqualOrdered_api_Loc
  refine c.swp 0 rfl (zx := (a : Int)) (zy := (pivot : Int)) (x := a) (y := pivot) rfl rfl (by omega) (by omega) fun h1 c => ?_
  unfold partitionEqual at hR
  have hes := swp_size d a pivot
  generalize Go.Sort.swp d a pivot = e at *
  rw [bin_add, vb_some, wrS (by omega), bin_sub, vb_some, wr64 (n := (b : Int) - 1) (by omega)]
  have eb : (b : Int) - 1 = ((b - 1 : Nat) : Int) := by omega
  rw [eb]
  generalize hpl : partEqLoop ltInt a (a + 1) (b - 1) e = PL at *
  refine Lp2.by (fun (x : Nat × Nat × Array Int) u w h' => u = .int .i64 x.1 ∧ w = .int .i64 x.2.1 ∧ a + 1 ≤ x.1 ∧ x.1 ≤ b ∧ x.2.1 < b ∧ x.1 ≤ x.2.1 + 2 ∧ a ≤ x.2.1 ∧ x.2.2.size = d.size ∧ partEqLoop ltInt a x.1 x.2.1 x.2.2 = PL ∧ Cx F h0 h' [rD v x.2.2]) (fun x => x.2.1 + 1 - x.1) (a + 1, b - 1, e) ⟨rfl, rfl, by dsimp only; omega, by dsimp only; omega, by dsimp only; omega, by dsimp only; omega, by dsimp only; omega, by dsimp only; omega, hpl, c⟩ ?_
  clear hpl
  rintro ⟨i, j, f⟩ u w h7 ⟨rfl, rfl, hi, hi2, hj, hij, haj, hfs, hpl, c⟩ again hagain
  dsimp only at *
  rw [partEqLoop] at hpl
  try dsimp only at hpl
  by_cases hij2 : i ≤ j + 1
  · skip
    refine Lp1.by (fun (x : Nat) u h' => u = .int .i64 x ∧ i ≤ x ∧ x ≤ j + 1 ∧ scanUp (fun x => !ltInt f[a]! x) f j x = scanUp (fun x => !ltInt f[a]! x) f j i ∧ Cx F h0 h' [rD v f]) (fun x => j + 1 - x) i ⟨rfl, Nat.le_refl _, by omega, rfl, c⟩ ?_
    rintro i3 u g3 ⟨rfl, hlo3, hhi3, hsc3, c⟩ again3 hagain3
    refine Jn1.at (fun u h' => Cx F h0 h' [rD v f] ∧ ∃ bb : Bool, u = .bool bb ∧ (bb = true ↔ (i3 ≤ j ∧ (fun x => !ltInt f[a]! x) f[i3]! = true))) ?_ ?_
    · simp only [go_sem]
      refine brd (fun hc => ?_) fun hc => ?_
      · refine c.rd 0 rfl (n := a) rfl (by omega) ?_
        refine c.rd 0 rfl (n := i3) rfl (by omega) ?_
        refine c.pur cs.less fun h5 c => ?_
        try simp only [go_sem]
        exact ⟨c, _, rfl, ⟨fun hh => ⟨by omega, by simpa using hh⟩, fun hh => by simpa using hh.2⟩⟩
      · exact ⟨c, false, rfl, ⟨(fun hh => by cases hh), fun hh => absurd hh.1 (by omega)⟩⟩
    rintro u g3' ⟨c, b3, rfl, hb3⟩
    cases b3 with
    | true =>
      have hh := hb3.1 rfl
      rw [br_true, bin_add, vb_some, wrS (by omega)]
      exact hagain3 (i3 + 1) _ _ ⟨rfl, by omega, by omega, by rw [← hsc3]; exact (scanUp_go hh.1 hh.2).symm, c⟩ (by omega)
    | false =>
    rw [br_false]
    have hst3 : scanUp (fun x => !ltInt f[a]! x) f j i = i3 := by rw [← hsc3]; exact scanUp_stop fun hh => by have := hb3.2 hh; cases this
    rw [hst3] at hpl
    refine Lp1.by (fun (x : Nat) u h' => u = .int .i64 x ∧ x ≤ j ∧ i3 ≤ x + 1 ∧ scanDown (fun x => ltInt f[a]! x) f i3 x = scanDown (fun x => ltInt f[a]! x) f i3 j ∧ Cx F h0 h' [rD v f]) (fun x => x) j ⟨rfl, Nat.le_refl _, by omega, rfl, c⟩ ?_
    rintro j4 u g4 ⟨rfl, hhi4, hlo4, hsc4, c⟩ again4 hagain4
    refine Jn1.at (fun u h' => Cx F h0 h' [rD v f] ∧ ∃ bb : Bool, u = .bool bb ∧ (bb = true ↔ (i3 ≤ j4 ∧ (fun x => ltInt f[a]! x) f[j4]! = true))) ?_ ?_
    · simp only [go_sem]
      refine brd (fun hc => ?_) fun hc => ?_
      · refine c.rd 0 rfl (n := a) rfl (by omega) ?_
        refine c.rd 0 rfl (n := j4) rfl (by omega) ?_
        refine c.pur cs.less fun h5 c => ?_
        try simp only [go_sem]
        exact ⟨c, _, rfl, ⟨fun hh => ⟨by omega, by simpa using hh⟩, fun hh => by simpa using hh.2⟩⟩
      · exact ⟨c, false, rfl, ⟨(fun hh => by cases hh), fun hh => absurd hh.1 (by omega)⟩⟩
    rintro u g4' ⟨c, b4, rfl, hb4⟩
    cases b4 with
    | true =>
      have hh := hb4.1 rfl
      obtain ⟨j, rfl⟩ : ∃ j, j4 = j + 1 := ⟨j4 - 1, by omega⟩
      rw [br_true, bin_sub, vb_some, wr64 (n := ((j + 1 : Nat) : Int) - 1) (by omega)]
      exact hagain4 j _ _ ⟨by congr 1; omega, by omega, by omega, by rw [← hsc4]; exact (scanDown_go hh.1 hh.2).symm, c⟩ (by omega)
    | false =>
    rw [br_false]
    have hst4 : scanDown (fun x => ltInt f[a]! x) f i3 j = j4 := by rw [← hsc4]; exact scanDown_stop fun hh => by have := hb4.2 hh; cases this
    rw [hst4] at hpl
    simp only [go_sem]
    refine brd (fun hc => ?_) fun hc => ?_
    · rw [if_pos (by omega)] at hpl
      subst hpl
      exact hR _ c
    · rw [if_neg (by omega), dif_pos (by omega)] at hpl
      refine c.swp 0 rfl (zx := (i3 : Int)) (zy := (j4 : Int)) (x := i3) (y := j4) rfl rfl (by omega) (by omega) fun h6 c => ?_
      rw [wrS (by omega), wr64 (n := (j4 : Int) - 1) (by omega)]
      exact hagain (i3 + 1, j4 - 1, Go.Sort.swp f i3 j4) _ _ _ ⟨rfl, by dsimp only; congr 1; omega, by dsimp only; omega, by dsimp only; omega, by dsimp only; omega, by dsimp only; omega, by dsimp only; omega, by rw [swp_size, hfs], hpl, c⟩ (by dsimp only; omega)
  · have e1 : scanUp (fun x => !ltInt f[a]! x) f j i = i := scanUp_stop fun hh => by omega
    have e2 : scanDown (fun x => ltInt f[a]! x) f i j = j := scanDown_stop fun hh => by omega
    rw [e1, e2, if_pos (by omega)] at hpl
    subst hpl
    refine Lp1.by (fun (x : Nat) u h' => x = i ∧ u = .int .i64 i ∧ Cx F h0 h' [rD v f]) (fun x => x) i ⟨rfl, rfl, c⟩ ?_
    rintro x u g1 ⟨rfl, rfl, c⟩ ag hag
    refine .here ?_
    simp only [go_sem]
    refine brF (by omega) ?_
    refine Lp1.by (fun (x' : Nat) u h' => x' = j ∧ u = .int .i64 j ∧ Cx F h0 h' [rD v f]) (fun x => x) j ⟨rfl, rfl, c⟩ ?_
    rintro x' u g2 ⟨rfl, rfl, c⟩ ag2 hag2
    refine .here ?_
    simp only [go_sem]
    refine brF (by omega) ?_
    refine brT (by omega) ?_
    exact hR _ c
end Go.En
