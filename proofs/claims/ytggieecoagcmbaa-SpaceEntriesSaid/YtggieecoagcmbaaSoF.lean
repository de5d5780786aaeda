/-
  slices.Sort: the pivot, the patterns (as far as the whole needs them).
-/
import Derived.Test.YtggieecoagcmbaaSoE
namespace Go.En
open Prog Spc Go.Sort

variable {S : Sys} {I : Ids} {h h0 h' : Hp} {F F0 : Fp} {R : Value → Hp → Prop} {L : List Res}

theorem K_order2 {v : Value} {d : Array Int} {a b r : Nat} {s : Int} (cs : CsS0 S I) (ha : a < d.size) (hb : b < d.size) (c : Cx F h0 h [rD v d, rVar EI1 r s])
    (hR : ∀ (x y : Nat) s' h', (x = a ∧ y = b ∨ x = b ∧ y = a) → Cx F h0 h' [rD v d, rVar EI1 r s'] → R (.tuple #[.int .i64 x, .int .i64 y]) h') :
    F_slices_order2Ordered_api_Loc S I v (.int .i64 a) (.int .i64 b) (at0 r) h R := by
  unfold F_slices_order2Ordered_api_Loc
  refine c.rd 0 rfl (n := b) rfl hb ?_
  refine c.rd 0 rfl (n := a) rfl ha ?_
  refine c.pur cs.less fun h1 c => ?_
  cases hlt : ltInt d[b]! d[a]! with
  | true =>
    rw [br_true]
    refine nckb ?_
    rw [(c.va (i := 1) rfl).one rfl, vb_some, bin_add, vb_some]
    refine nckb ?_
    refine c.sto1 1 rfl _ rfl rfl fun h2 c => ?_
    exact hR b a _ _ (.inr ⟨rfl, rfl⟩) c
  | false =>
    rw [br_false]
    exact hR a b _ _ (.inl ⟨rfl, rfl⟩) c

structure CsS3 (S : Sys) (I : Ids) : Prop extends CsS0 S I where
  order2 : ∀ {v : Value} {d : Array Int} {a b r : Nat} {s : Int} {F h0 h R}, a < d.size → b < d.size → Cx F h0 h [rD v d, rVar EI1 r s] →
    (∀ (x y : Nat) s' h', (x = a ∧ y = b ∨ x = b ∧ y = a) → Cx F h0 h' [rD v d, rVar EI1 r s'] → R (.tuple #[.int .i64 x, .int .i64 y]) h') →
    S.C I.f_slices_order2Ordered_api_Loc [v, .int .i64 a, .int .i64 b, at0 r] h R
theorem ext0t {x y : Value} {k : Value → Prop} (hk : k x) : Vb (ext 0 (.tuple #[x, y])) k := by
  have e : ext 0 (.tuple #[x, y]) = some x := by rfl
  rw [e, vb_some]; exact hk
theorem ext1t {x y : Value} {k : Value → Prop} (hk : k y) : Vb (ext 1 (.tuple #[x, y])) k := by
  have e : ext 1 (.tuple #[x, y]) = some y := by rfl
  rw [e, vb_some]; exact hk
theorem K_median {v : Value} {d : Array Int} {a b e r : Nat} {s : Int} (cs : CsS3 S I) (ha : a < d.size) (hb : b < d.size) (he : e < d.size) (c : Cx F h0 h [rD v d, rVar EI1 r s])
    (hR : ∀ (x : Nat) s' h', (x = a ∨ x = b ∨ x = e) → Cx F h0 h' [rD v d, rVar EI1 r s'] → R (.int .i64 x) h') :
    F_slices_medianOrdered_api_Loc S I v (.int .i64 a) (.int .i64 b) (.int .i64 e) (at0 r) h R := by
  unfold F_slices_medianOrdered_api_Loc
  refine cs.order2 ha hb c fun x1 y1 s1 h1 e1 c => ext0t (ext1t ?_)
  refine cs.order2 (by omega) he c fun x2 y2 s2 h2 e2 c => ext0t (ext1t ?_)
  refine cs.order2 (by omega) (by omega) c fun x3 y3 s3 h3 e3 c => ext0t (ext1t ?_)
  exact hR y3 _ _ (by omega) c
structure CsS4 (S : Sys) (I : Ids) : Prop where
  median : ∀ {v : Value} {d : Array Int} {a b e r : Nat} {s : Int} {F h0 h R}, a < d.size → b < d.size → e < d.size → Cx F h0 h [rD v d, rVar EI1 r s] →
    (∀ (x : Nat) s' h', (x = a ∨ x = b ∨ x = e) → Cx F h0 h' [rD v d, rVar EI1 r s'] → R (.int .i64 x) h') →
    S.C I.f_slices_medianOrdered_api_Loc [v, .int .i64 a, .int .i64 b, .int .i64 e, at0 r] h R
theorem K_medianAdj {v : Value} {d : Array Int} {a r : Nat} {s : Int} (cs : CsS4 S I) (h1 : 1 ≤ a) (ha : a + 1 < d.size) (hN : d.size ≤ 1000000) (c : Cx F h0 h [rD v d, rVar EI1 r s])
    (hR : ∀ (x : Nat) s' h', (x = a - 1 ∨ x = a ∨ x = a + 1) → Cx F h0 h' [rD v d, rVar EI1 r s'] → R (.int .i64 x) h') :
    F_slices_medianAdjacentOrdered_api_Loc S I v (.int .i64 a) (at0 r) h R := by
  unfold F_slices_medianAdjacentOrdered_api_Loc
  rw [bin_sub, vb_some, wr64 (n := (a : Int) - 1) (by omega), bin_add, vb_some, wrS (by omega)]
  rw [show (a : Int) - 1 = ((a - 1 : Nat) : Int) by omega]
  refine cs.median (by omega) (by omega) (by omega) c fun x s' h' hx c => ?_
  exact hR x _ _ hx c
structure CsS5 (S : Sys) (I : Ids) : Prop extends CsS4 S I where
  medianAdj : ∀ {v : Value} {d : Array Int} {a r : Nat} {s : Int} {F h0 h R}, 1 ≤ a → a + 1 < d.size → d.size ≤ 1000000 → Cx F h0 h [rD v d, rVar EI1 r s] →
    (∀ (x : Nat) s' h', (x = a - 1 ∨ x = a ∨ x = a + 1) → Cx F h0 h' [rD v d, rVar EI1 r s'] → R (.int .i64 x) h') →
    S.C I.f_slices_medianAdjacentOrdered_api_Loc [v, .int .i64 a, at0 r] h R
theorem K_choosePivot {v : Value} {d : Array Int} {a b : Nat} (cs : CsS5 S I) (hab : a < b) (hb : b ≤ d.size) (hN : d.size ≤ 1000000) (c : Cx F h0 h [rD v d])
    (hR : ∀ (x : Nat) (t : Int) h', a ≤ x → x < b → (t = 0 ∨ t = 1 ∨ t = 2) → Cx F h0 h' [rD v d] → R (.tuple #[.int .i64 x, .int .i64 t]) h') :
    F_slices_choosePivotOrdered_api_Loc S I v (.int .i64 a) (.int .i64 b) h R := by
  unfold F_slices_choosePivotOrdered_api_Loc
  rw [bin_sub, vb_some, wr64 (n := (b : Int) - a) (by omega)]
  refine c.nw EI1 0 rfl fun r h1 c => ?_
  have hq : ∀ m : Nat, m ≤ 3 → ∀ k : Value → Prop, k (.int .i64 ((a + (b - a) / 4 * m : Nat) : Int)) →
      Vb (bin .quo (.int .i64 ((b : Int) - a)) (.int .i64 4)) fun v18 => Vb (bin .mul v18 (.int .i64 (m : Int))) fun v19 => Vb (bin .add (.int .i64 a) v19) k := by
    intro m hm k hk
    rw [bin_quo (by omega), vb_some]
    have e1 : ((b : Int) - a).tdiv 4 = (((b - a) / 4 : Nat) : Int) := by
      rw [show (b : Int) - a = ((b - a : Nat) : Int) by omega]; exact Int.ofNat_tdiv (b - a) 4
    have hm4 : (b - a) / 4 * m ≤ (b - a) := by
      have := Nat.mul_le_mul_left ((b - a) / 4) hm
      omega
    have e2 : (((b - a) / 4 : Nat) : Int) * (m : Int) = (((b - a) / 4 * m : Nat) : Int) := (Int.natCast_mul ..).symm
    rw [e1, wr64 (by omega), bin_mul, vb_some, e2, wr64 (by omega), bin_add, vb_some, wr64 (by omega)]
    exact hk
  refine hq 1 (by omega) _ ?_
  refine hq 2 (by omega) _ ?_
  refine hq 3 (by omega) _ ?_
  clear hq
  have hq4 : (b - a) / 4 * 4 ≤ b - a := Nat.div_mul_le_self ..
  have hq0 : 8 ≤ b - a → 2 ≤ (b - a) / 4 := fun h => by omega
  have hq1 : 50 ≤ b - a → 12 ≤ (b - a) / 4 := fun h => by omega
  generalize (b - a) / 4 = q at *
  obtain ⟨i, hi⟩ : ∃ i, i = a + q * 1 := ⟨_, rfl⟩
  obtain ⟨j, hj⟩ : ∃ i, i = a + q * 2 := ⟨_, rfl⟩
  obtain ⟨k, hk⟩ : ∃ i, i = a + q * 3 := ⟨_, rfl⟩
  rw [← hi, ← hj, ← hk]
  refine Jn1.at (fun u h' => ∃ (x : Nat) (s : Int), u = .int .i64 x ∧ a ≤ x ∧ x < b ∧ Cx F h0 h' [rD v d, rVar EI1 r s]) ?_ ?_
  · simp only [go_sem]
    refine brd (fun h8 => ?_) fun h8 => ?_
    · refine Jn3.at (fun u w t h' => ∃ (x y z : Nat) (s : Int), u = .int .i64 x ∧ w = .int .i64 y ∧ t = .int .i64 z ∧ a ≤ x ∧ x < b ∧ a ≤ y ∧ y < b ∧ a ≤ z ∧ z < b ∧ Cx F h0 h' [rD v d, rVar EI1 r s]) ?_ ?_
      · refine brd (fun h50 => ?_) fun h50 => ?_
        · have hq1 := hq1 (by omega)
          have r : ∀ y x : Nat, a + 1 ≤ y → y + 1 < b → (x = y - 1 ∨ x = y ∨ x = y + 1) → a ≤ x ∧ x < b := by intro y x h1 h2 h3; omega
          have i1 : a + 1 ≤ i ∧ i + 1 < b := by clear r; omega
          have j1 : a + 1 ≤ j ∧ j + 1 < b := by clear r; omega
          have k1 : a + 1 ≤ k ∧ k + 1 < b := by clear r; omega
          clear hi hj hk hq0 hq1 hq4
          refine cs.medianAdj (by omega) (by omega) hN c fun x1 s1 h1 e1 c => ?_
          have r1 := r _ _ i1.1 i1.2 e1
          clear e1
          refine cs.medianAdj (by omega) (by omega) hN c fun x2 s2 h2 e2 c => ?_
          have r2 := r _ _ j1.1 j1.2 e2
          clear e2
          refine cs.medianAdj (by omega) (by omega) hN c fun x3 s3 h3 e3 c => ?_
          have r3 := r _ _ k1.1 k1.2 e3
          exact ⟨x1, x2, x3, s3, rfl, rfl, rfl, r1.1, r1.2, r2.1, r2.2, r3.1, r3.2, c⟩
        · have hq0 := hq0 (by omega)
          exact ⟨i, j, k, 0, rfl, rfl, rfl, by omega, by omega, by omega, by omega, by omega, by omega, c⟩
      · rintro u w t h' ⟨x, y, z, s, rfl, rfl, rfl, hx1, hx2, hy1, hy2, hz1, hz2, c⟩
        refine cs.median (by omega) (by omega) (by omega) c fun m s' h' hm c => ?_
        exact ⟨m, s', rfl, by omega, by omega, c⟩
    · exact ⟨j, 0, rfl, by omega, by omega, c⟩
  · rintro u h' ⟨x, s, rfl, hx1, hx2, c⟩
    rw [(c.va (i := 1) rfl).one rfl, vb_some]
    have c' := c.drop (L := [rD v d])
    simp only [go_sem]
    refine brd (fun h8 => ?_) fun h8 => ?_
    · exact hR x 1 _ hx1 hx2 (by omega) c'
    · refine brd (fun h8 => ?_) fun h8 => ?_
      · exact hR x 2 _ hx1 hx2 (by omega) c'
      · exact hR x 0 _ hx1 hx2 (by omega) c'

structure CsS6 (S : Sys) (I : Ids) : Prop where
  nextPow : ∀ {x : Nat} {h R}, x ≤ 1000000 → (∀ k, Bits x k → R (.int .u64 ((2 ^ k : Nat) : Int)) h) → S.C I.f_slices_nextPowerOfTwo [.int .i64 x] h R
  xnext : ∀ {r : Nat} {z : Int} {F h0 h R}, Cx F h0 h [rVar EU r z] → (∀ z' h', Cx F h0 h' [rVar EU r z'] → R (.int .u64 z') h') → S.C I.f_slices_xorshift_Next [at0 r] h R
theorem K_breakPatterns {v : Value} {d : Array Int} {a b : Nat} (cs : CsS6 S I) (hab : a < b) (hb : b ≤ d.size) (hN : d.size ≤ 1000000) (c : Cx F h0 h [rD v d])
    (hR : ∀ e h', PermIn a b d e → Cx F h0 h' [rD v e] → R (.tuple #[]) h') :
    F_slices_breakPatternsOrdered_api_Loc S I v (.int .i64 a) (.int .i64 b) h R := by
  unfold F_slices_breakPatternsOrdered_api_Loc
  rw [bin_sub, vb_some, wr64 (n := (b : Int) - a) (by omega), bin_geq, vb_some]
  refine brd (fun h8 => ?_) fun h8 => hR d _ (permIn_refl _ _ _) c
  rw [cvi_int, vb_some, wu64 (by omega)]
  refine c.nw EU 0 rfl fun r h1 c => ?_
  refine c.sto1 1 rfl _ rfl rfl fun h2 c => ?_
  rw [show (b : Int) - a = ((b - a : Nat) : Int) by omega]
  refine cs.nextPow (by omega) fun k hk => ?_
  generalize hl : b - a = l at *
  have hk2 : 2 ^ k ≤ 2 * l := by
    rcases hk with ⟨h, _⟩ | ⟨h1, h2, _⟩
    · omega
    · obtain ⟨k, rfl⟩ : ∃ k', k = k' + 1 := ⟨k - 1, by omega⟩
      rw [Nat.pow_succ]; simp only [Nat.add_sub_cancel] at h2; omega
  have hk0 : 0 < 2 ^ k := Nat.two_pow_pos k
  generalize 2 ^ k = md at *
  have e1 : ((l : Int)).tdiv 4 = ((l / 4 : Nat) : Int) := Int.ofNat_tdiv l 4
  rw [bin_quo (by omega), vb_some, e1, wr64 (n := ((l / 4 : Nat) : Int)) (by omega), bin_mul, vb_some, wr64 (by omega), bin_add, vb_some, wr64 (by omega), bin_sub, vb_some, wr64 (by omega)]
  refine Lp1.by (fun (x : Nat × Array Int) u h' => u = .int .i64 x.1 ∧ a ≤ x.1 ∧ x.1 ≤ a + l / 4 * 2 + 2 ∧ PermIn a b d x.2 ∧ ∃ z, Cx F h0 h' [rD v x.2, rVar EU r z]) (fun x => a + l / 4 * 2 + 2 - x.1) (a + l / 4 * 2 - 1, d) ⟨by congr 1; dsimp only; omega, by dsimp only; omega, by dsimp only; omega, permIn_refl _ _ _, _, c⟩ ?_
  rintro ⟨x, e⟩ u h3 ⟨rfl, hx1, hx2, hp, z, c⟩ again hagain
  dsimp only at *
  rw [vb_some, bin_mul, vb_some, wr64 (by omega), bin_add, vb_some, wr64 (by omega), bin_add, vb_some, wr64 (by omega), bin_leq, vb_some]
  refine brd (fun h5 => ?_) fun h5 => hR e _ hp (c.drop (L := [rD v e]))
  obtain ⟨F1, c1, up⟩ := c.frame (i := 1) rfl
  refine cs.xnext c1 fun z' h4 c2 => ?_
  have c := up (M := []) c2
  rw [bin_sub, vb_some, wu64 (by omega)]
  rw [show (md : Int) - 1 = ((md - 1 : Nat) : Int) by omega]
  obtain ⟨q, eq, hq⟩ := and_le z' (b := md - 1) (by omega)
  refine vb eq ?_
  rw [cvi_int, vb_some, wr64 (by omega)]
  have hes : e.size = d.size := hp.1
  refine Jn1.at (fun u h' => ∃ (o : Nat), u = .int .i64 o ∧ o < l ∧ Cx F h0 h' [rD v e, rVar EU r z']) ?_ ?_
  · rw [bin_geq, vb_some]
    refine brd (fun h6 => ?_) fun h6 => ?_
    · rw [bin_sub, vb_some, wr64 (by omega)]
      exact ⟨q - l, by congr 1; omega, by omega, c⟩
    · exact ⟨q, rfl, by omega, c⟩
  · rintro u h' ⟨o, rfl, ho, c⟩
    rw [bin_add, vb_some, wr64 (n := (a : Int) + o) (by omega), vb_some]
    refine c.swp 0 rfl (zx := (x : Int)) (zy := (a : Int) + o) (x := x) (y := a + o) rfl (by omega) (by omega) (by omega) fun h6 c => ?_
    rw [bin_add, vb_some, wrS (by omega)]
    refine hagain (x + 1, Go.Sort.swp e x (a + o)) _ _ ⟨rfl, by dsimp only; omega, by dsimp only; omega, ?_, z', c⟩ (by dsimp only; omega)
    exact permIn_trans _ _ _ a b hp (swp_permIn e a b x (a + o) hx1 (by omega) (by omega) (by omega) (by omega))
end Go.En
