/-
  slices.Sort: the pivot and the patterns, as far as it matters; the whole.
-/
import Derived.Test.YtggieecoagcmbaaSoD
namespace Go.En
open Prog Spc Go.Sort

variable {S : Sys} {I : Ids} {h h0 h' : Hp} {F F0 : Fp} {R : Value → Hp → Prop} {L : List Res}

/-! ### The number of bits -/
/-- k is the number of bits of x -/
def Bits (x : Nat) (k : Nat) : Prop := (x = 0 ∧ k = 0) ∨ (1 ≤ k ∧ 2 ^ (k - 1) ≤ x ∧ x < 2 ^ k)
instance (x k : Nat) : Decidable (Bits x k) := inferInstanceAs (Decidable (_ ∨ _))
theorem Bits.shift {x k s : Nat} (hx : 2 ^ s ≤ x) (h : Bits (x / 2 ^ s) k) : Bits x (s + k) := by
  have hp : 0 < 2 ^ s := Nat.two_pow_pos s
  rcases h with ⟨h1, _⟩ | ⟨h1, h2, h3⟩
  · have := (Nat.div_eq_zero_iff_lt hp).1 h1; omega
  · refine .inr ⟨by omega, ?_, ?_⟩
    · have := (Nat.le_div_iff_mul_le hp).1 h2
      have e : s + k - 1 = (k - 1) + s := by omega
      rw [e, Nat.pow_add]; exact this
    · have := (Nat.div_lt_iff_lt_mul hp).1 h3
      rw [Nat.add_comm, Nat.pow_add]; exact this
/-- the table -/
def bitTab : List UInt8 := (List.append (List.append [0, 1, 2, 2, 3, 3, 3, 3, 4, 4, 4, 4, 4, 4, 4, 4, 5, 5, 5, 5, 5, 5, 5, 5, 5, 5, 5, 5, 5, 5, 5, 5, 6, 6, 6, 6, 6, 6, 6, 6, 6, 6, 6, 6, 6, 6, 6, 6, 6, 6, 6, 6, 6, 6, 6, 6, 6, 6, 6, 6, 6, 6, 6, 6] [7, 7, 7, 7, 7, 7, 7, 7, 7, 7, 7, 7, 7, 7, 7, 7, 7, 7, 7, 7, 7, 7, 7, 7, 7, 7, 7, 7, 7, 7, 7, 7, 7, 7, 7, 7, 7, 7, 7, 7, 7, 7, 7, 7, 7, 7, 7, 7, 7, 7, 7, 7, 7, 7, 7, 7, 7, 7, 7, 7, 7, 7, 7, 7]) (List.append [8, 8, 8, 8, 8, 8, 8, 8, 8, 8, 8, 8, 8, 8, 8, 8, 8, 8, 8, 8, 8, 8, 8, 8, 8, 8, 8, 8, 8, 8, 8, 8, 8, 8, 8, 8, 8, 8, 8, 8, 8, 8, 8, 8, 8, 8, 8, 8, 8, 8, 8, 8, 8, 8, 8, 8, 8, 8, 8, 8, 8, 8, 8, 8] [8, 8, 8, 8, 8, 8, 8, 8, 8, 8, 8, 8, 8, 8, 8, 8, 8, 8, 8, 8, 8, 8, 8, 8, 8, 8, 8, 8, 8, 8, 8, 8, 8, 8, 8, 8, 8, 8, 8, 8, 8, 8, 8, 8, 8, 8, 8, 8, 8, 8, 8, 8, 8, 8, 8, 8, 8, 8, 8, 8, 8, 8, 8, 8]))
theorem bitTab_ok : ∀ i : Fin 256, ∃ b, bitTab[i.val]? = some b ∧ Bits i.val b.toNat := by
  intro i
  have key : ∀ i : Fin 256, (match bitTab[i.val]? with | some b => decide (Bits i.val b.toNat) | none => false) = true := by decide +kernel
  have := key i
  split at this
  · rename_i b hb; exact ⟨b, hb, by simpa using this⟩
  · cases this
theorem shr_ok {k k' : IntKind} {a s : Nat} {z : Int} (hz : z = s) (hs : s ≤ k.bits) : bin .shr (.int k a) (.int k' z) = some (.int k ((a / 2 ^ s : Nat) : Int)) := by
  subst hz
  simp only [bin]
  rw [if_neg (by omega)]
  congr 2
  have e1 : min (Int.toNat (s : Int)) k.bits = s := by rw [Int.toNat_natCast, Nat.min_eq_left hs]
  have e2 : ((2 : Int) ^ s) = ((2 ^ s : Nat) : Int) := by simp
  rw [e1, e2, Int.fdiv_eq_ediv_of_nonneg _ (Int.natCast_nonneg _)]
  exact (Int.natCast_ediv ..).symm
theorem wu64 {z : Int} (h : 0 ≤ z ∧ z < 18446744073709551616) : IntKind.u64.wrap z = z := by simp only [IntKind.wrap, IntKind.bits, IntKind.signed]; simp; omega

theorem wu8 {z : Int} (h : 0 ≤ z ∧ z < 256) : IntKind.u8.wrap z = z := by simp only [IntKind.wrap, IntKind.bits, IntKind.signed]; simp; omega
theorem idst_ok {l : List UInt8} {y : Nat} {b : UInt8} {k : IntKind} (hb : l[y]? = some b) : idst (.string { data := List.toArray l }) (.int k (y : Int)) = some (.int .u8 b.toNat) := by
  show Option.map _ (if 0 ≤ (y : Int) then _ else none) = _
  rw [if_pos (by omega), Int.toNat_natCast]
  show Option.map _ ((List.toArray l)[y]?) = _
  rw [List.getElem?_toArray, hb]; rfl
theorem K_Len64 {x : Nat} (hx : x ≤ 1000000) (hR : ∀ k, Bits x k → R (.int .i64 (k : Nat)) h) : F_math_bits_Len64 S I (.int .u64 x) h R := by
  unfold F_math_bits_Len64
  simp only [go_sem]
  refine .here (brF (by omega) ?_)
  -- the table's part
  have tab : ∀ (y n : Nat), y < 256 → n ≤ 100 → (∀ k, Bits y k → Bits x (n + k)) →
      Vb (cvi .u8 (.int .u64 y)) fun v21 => Vb (idst (.string { data := List.toArray bitTab }) v21) fun v22 => Vb (cvi .i64 v22) fun v23 => Vb (bin .add (.int .i64 n) v23) fun v24 => R v24 h := by
    intro y n hy hn hb
    obtain ⟨b, hb1, hb2⟩ := bitTab_ok ⟨y, hy⟩
    rw [cvi_int, vb_some, wu8 (by omega), idst_ok hb1, vb_some]
    have hbl : b.toNat < 256 := b.toNat_lt
    rw [cvi_int, vb_some, wr64 (by omega), bin_add, vb_some, wr64 (by omega)]
    have := hR (n + b.toNat) (hb _ hb2)
    exact_mod_cast this
  refine Jn2.at (fun a b h' => h' = h ∧ ∃ y n : Nat, a = .int .u64 y ∧ b = .int .i64 n ∧ y < 65536 ∧ n ≤ 16 ∧ ∀ k, Bits y k → Bits x (n + k)) ?_ ?_
  · simp only [go_sem]
    refine brd (fun h1 => ?_) fun h1 => ?_
    · rw [shr_ok (z := 16) (s := 16) rfl (by decide), vb_some]
      rw [wr64 (n := 0 + 16) (by omega)]
      exact ⟨trivial, x / 2 ^ 16, 16, rfl, rfl, by omega, by omega, fun k hk => Bits.shift (by omega) hk⟩
    · exact ⟨trivial, x, 0, rfl, rfl, by omega, by omega, fun k hk => by rw [Nat.zero_add]; exact hk⟩
  · rintro a b h' ⟨rfl, y, n, rfl, rfl, hy, hn, hk⟩
    refine Jn2.at (fun a b h'' => h'' = h' ∧ ∃ y n : Nat, a = .int .u64 y ∧ b = .int .i64 n ∧ y < 256 ∧ n ≤ 24 ∧ ∀ k, Bits y k → Bits x (n + k)) ?_ ?_
    · simp only [go_sem]
      refine brd (fun h1 => ?_) fun h1 => ?_
      · rw [shr_ok (z := 8) (s := 8) rfl (by decide), vb_some]
        rw [wr64 (n := (n : Int) + 8) (by omega)]
        exact ⟨trivial, y / 2 ^ 8, n + 8, rfl, rfl, by omega, by omega, fun k hk2 => by rw [Nat.add_assoc]; exact hk _ (Bits.shift (by omega) hk2)⟩
      · exact ⟨trivial, y, n, rfl, rfl, by omega, by omega, hk⟩
    · rintro a b h'' ⟨rfl, y, n, rfl, rfl, hy, hn, hk⟩
      exact tab y n hy (by omega) hk

structure CsB0 (S : Sys) (I : Ids) : Prop where
  len64 : ∀ {x : Nat} {h R}, x ≤ 1000000 → (∀ k, Bits x k → R (.int .i64 (k : Nat)) h) → S.C I.f_math_bits_Len64 [.int .u64 x] h R
theorem K_Len {x : Nat} (cs : CsB0 S I) (hx : x ≤ 1000000) (hR : ∀ k, Bits x k → R (.int .i64 (k : Nat)) h) : F_math_bits_Len S I (.int .u64 x) h R := by
  unfold F_math_bits_Len
  first
    | exact cs.len64 hx hR
    | (refine cs.len64 hx fun k hk => ?_; exact hR k hk)
structure CsB1 (S : Sys) (I : Ids) : Prop extends CsB0 S I where
  len : ∀ {x : Nat} {h R}, x ≤ 1000000 → (∀ k, Bits x k → R (.int .i64 (k : Nat)) h) → S.C I.f_math_bits_Len [.int .u64 x] h R
theorem bits_le {x k : Nat} (h : Bits x k) (hx : x ≤ 1000000) : k ≤ 20 := by
  rcases h with ⟨_, h⟩ | ⟨h1, h2, _⟩
  · omega
  · rcases Nat.lt_or_ge 20 k with h | h
    · have : 2 ^ 20 ≤ 2 ^ (k - 1) := Nat.pow_le_pow_right (by omega) (by omega)
      omega
    · exact h
theorem K_nextPow {x : Nat} (cs : CsB1 S I) (hx : x ≤ 1000000) (hR : ∀ k, Bits x k → R (.int .u64 ((2 ^ k : Nat) : Int)) h) : F_slices_nextPowerOfTwo S I (.int .i64 x) h R := by
  unfold F_slices_nextPowerOfTwo
  rw [cvi_int, vb_some, wu64 (by omega)]
  refine cs.len hx fun k hk => ?_
  have hk20 := bits_le hk hx
  have hp : 2 ^ k ≤ 2 ^ 20 := Nat.pow_le_pow_right (by omega) hk20
  have e : bin .shl (.int .u64 1) (.int .i64 (k : Nat)) = some (.int .u64 ((2 ^ k : Nat) : Int)) := by
    simp only [bin]
    rw [if_neg (by omega)]
    have e1 : min (Int.toNat (k : Int)) IntKind.u64.bits = k := by rw [Int.toNat_natCast]; exact Nat.min_eq_left (by show k ≤ 64; omega)
    have e2 : ((2 : Int) ^ k) = ((2 ^ k : Nat) : Int) := by simp
    rw [e1, e2, Int.one_mul, wu64 ⟨Int.natCast_nonneg _, by have : (2 ^ k : Nat) < 18446744073709551616 := by omega
                                                            generalize 2 ^ k = q at this ⊢; omega⟩]
  rw [e, vb_some]
  exact hR k hk

def EU : Enc Int := { n := 1, c := fun i => [.int .u64 i], len := fun _ => rfl, one := fun a v h => by simp only [List.mem_singleton] at h; subst h; rfl }
theorem shl_ex (a : Int) (s : Nat) : ∃ z, bin .shl (.int .u64 a) (.int .u64 (s : Int)) = some (.int .u64 z) := by
  simp only [bin]; rw [if_neg (by omega)]; exact ⟨_, rfl⟩
theorem shr_ex (a : Int) (s : Nat) : ∃ z, bin .shr (.int .u64 a) (.int .u64 (s : Int)) = some (.int .u64 z) := by
  simp only [bin]; rw [if_neg (by omega)]; exact ⟨_, rfl⟩
theorem xor_ex (a b : Int) : ∃ z, bin .xor (.int .u64 a) (.int .u64 b) = some (.int .u64 z) := by
  simp only [bin, if_true]; exact ⟨_, rfl⟩
theorem K_xnext {r : Nat} {z : Int} (c : Cx F h0 h [rVar EU r z]) (hR : ∀ z' h', Cx F h0 h' [rVar EU r z'] → R (.int .u64 z') h') : F_slices_xorshift_Next S I (at0 r) h R := by
  unfold F_slices_xorshift_Next
  refine nckb ?_
  rw [(c.va (i := 0) rfl).one rfl, vb_some]
  refine nckb ?_
  rw [(c.va (i := 0) rfl).one rfl, vb_some]
  obtain ⟨z1, e1⟩ := shl_ex z 13
  obtain ⟨z2, e2⟩ := xor_ex z z1
  refine vb e1 (vb e2 (nckb ?_))
  refine c.sto1 0 rfl z2 rfl rfl fun h1 c => ?_
  refine nckb ?_
  rw [(c.va (i := 0) rfl).one rfl, vb_some]
  refine nckb ?_
  rw [(c.va (i := 0) rfl).one rfl, vb_some]
  obtain ⟨z3, e3⟩ := shr_ex z2 7
  obtain ⟨z4, e4⟩ := xor_ex z2 z3
  refine vb e3 (vb e4 (nckb ?_))
  refine c.sto1 0 rfl z4 rfl rfl fun h1 c => ?_
  refine nckb ?_
  rw [(c.va (i := 0) rfl).one rfl, vb_some]
  refine nckb ?_
  rw [(c.va (i := 0) rfl).one rfl, vb_some]
  obtain ⟨z5, e5⟩ := shl_ex z4 17
  obtain ⟨z6, e6⟩ := xor_ex z4 z5
  refine vb e5 (vb e6 (nckb ?_))
  refine c.sto1 0 rfl z6 rfl rfl fun h1 c => ?_
  refine nckb ?_
  rw [(c.va (i := 0) rfl).one rfl, vb_some]
  exact hR z6 _ c
theorem and_le (a : Int) {b : Nat} (hb : b < 18446744073709551616) : ∃ z : Nat, bin .and (.int .u64 a) (.int .u64 (b : Int)) = some (.int .u64 (z : Int)) ∧ z ≤ b := by
  refine ⟨(BitVec.ofInt 64 a &&& BitVec.ofInt 64 (b : Int)).toNat, ?_, ?_⟩
  · simp only [bin, if_true]
    congr 2
    have h2 : (BitVec.ofInt 64 a &&& BitVec.ofInt 64 (b : Int)).toNat < 18446744073709551616 := (BitVec.ofInt 64 a &&& BitVec.ofInt 64 (b : Int)).isLt
    refine wu64 ⟨Int.natCast_nonneg _, ?_⟩
    show ((BitVec.ofInt 64 a &&& BitVec.ofInt 64 (b : Int)).toNat : Int) < _
    generalize (BitVec.ofInt 64 a &&& BitVec.ofInt 64 (b : Int)).toNat = q at h2 ⊢
    omega
  · rw [BitVec.toNat_and]
    refine Nat.le_trans Nat.and_le_right ?_
    rw [BitVec.toNat_ofInt]
    omega
end Go.En
