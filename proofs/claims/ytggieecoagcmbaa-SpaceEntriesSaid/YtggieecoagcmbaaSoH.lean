/-
  slices.Compact, as Writes needs it.
-/
import Derived.Test.YtggieecoagcmbaaSoG
namespace Go.En
open Prog Spc Go.Sort

variable {S : Sys} {I : Ids} {h h0 h' : Hp} {F F0 : Fp} {R : Value → Hp → Prop} {L : List Res}

/-- runs of equal elements come to one -/
def cpt : List Int → List Int
  | [] => []
  | [a] => [a]
  | a :: b :: l => if a = b then cpt (b :: l) else a :: cpt (b :: l)
theorem cpt_snoc (y : Int) : ∀ (l : List Int) (x : Int), cpt (l ++ [x, y]) = if y = x then cpt (l ++ [x]) else cpt (l ++ [x]) ++ [y]
  | [], x => by
    show cpt [x, y] = _
    simp only [cpt, List.nil_append]
    by_cases h : x = y
    · subst h; simp [cpt]
    · rw [if_neg h, if_neg (fun e => h e.symm)]; rfl
  | [a], x => by
    show cpt [a, x, y] = if y = x then cpt [a, x] else cpt [a, x] ++ [y]
    have := cpt_snoc y [] x
    simp only [List.nil_append] at this
    rw [cpt, this]
    simp only [cpt]
    by_cases h : a = x <;> by_cases h2 : y = x <;> simp [h, h2]
  | a :: b :: l, x => by
    have := cpt_snoc y (b :: l) x
    simp only [List.cons_append] at this ⊢
    rw [cpt, this, cpt]
    by_cases h : a = b <;> by_cases h2 : y = x <;> simp [h, h2]
theorem take_snoc {xs : List Int} {k : Nat} {x : Int} (h : xs[k]? = some x) : xs.take (k + 1) = xs.take k ++ [x] := by
  rw [List.take_add_one, h]; rfl
/-- one more -/
theorem cpt_take {xs : List Int} {k : Nat} {x y : Int} (h1 : xs[k]? = some x) (h2 : xs[k + 1]? = some y) : cpt (xs.take (k + 2)) = if y = x then cpt (xs.take (k + 1)) else cpt (xs.take (k + 1)) ++ [y] := by
  rw [take_snoc h2, take_snoc h1, List.append_assoc]
  exact cpt_snoc y (xs.take k) x
theorem cpt_one {xs : List Int} (h : 1 ≤ xs.length) : cpt (xs.take 1) = xs.take 1 := by
  cases xs with
  | nil => simp at h
  | cons a l => rfl
theorem cpt_mem : ∀ {l : List Int} {x : Int}, x ∈ cpt l ↔ x ∈ l
  | [], x => Iff.rfl
  | [a], x => Iff.rfl
  | a :: b :: l, x => by
    rw [cpt]
    split
    · rename_i h; subst h; rw [cpt_mem]; simp
    · rw [List.mem_cons, cpt_mem, List.mem_cons (a := x) (b := a)]
theorem cpt_sorted : ∀ {l : List Int}, l.Pairwise (· ≤ ·) → (cpt l).Pairwise (· < ·)
  | [], _ => .nil
  | [a], _ => by simp [cpt]
  | a :: b :: l, h => by
    rw [cpt]
    have h2 := List.pairwise_cons.1 h
    split
    · exact cpt_sorted h2.2
    · rename_i hab
      refine List.pairwise_cons.2 ⟨fun x hx => ?_, cpt_sorted h2.2⟩
      rw [cpt_mem] at hx
      have h3 := h2.1 b (by simp)
      rcases List.mem_cons.1 hx with rfl | hx
      · omega
      · have := (List.pairwise_cons.1 h2.2).1 x hx; omega

section
variable {v : Value} {xs : List Int}
/-- the index of a part -/
theorem sub_ix {k : Nat} (o : Ow EI1 h v xs) (hk : k < xs.length) : ∃ w, slc 1 v (some (.int .i64 (k : Nat))) none none = some w ∧ lnS w = some (.int .i64 ((xs.length - k : Nat) : Int)) ∧
    ∀ (j : Nat) {z z' : Int} {q q' : IntKind}, z = j → z' = ((k + j : Nat) : Int) → k + j < xs.length → ixs 1 w (.int q z) = ixs 1 v (.int q' z') := by
  rcases o with ⟨rfl, rfl⟩ | ⟨r, o, cap, rfl, hl, hb, hr, hw⟩
  · simp at hk
  · refine ⟨_, slc_ok (l := k) (u := xs.length) (.inr ⟨_, _, rfl, rfl⟩) (.inl ⟨rfl, rfl⟩) (by omega) hl, rfl, fun j z z' q q' hz hz' hj => ?_⟩
    subst hz hz'
    rw [if_neg (by omega)]
    simp only [ixs, Option.map_some, addN]
    rw [if_pos (by omega), if_pos (by omega)]
    simp only [Int.toNat_natCast, Nat.mul_one]
    congr 4
    omega
/-- the end of a slice is cleared, the front is kept -/
theorem clr_ok {m : Nat} {z : Value} (o : Ow EI1 h v xs) (hm : m < xs.length) (hz : z.oneCell' = true) : ∃ w h' u, slc 1 v (some (.int .i64 (m : Nat))) none none = some w ∧ clrS #[z] w h = some (.tuple #[], h') ∧
    slc 1 v none (some (.int .i64 (m : Nat))) none = some u ∧ Ow EI1 h' u (xs.take m) ∧ blk u = blk v ∧ Ch (fun r => blk v = some r) h h' := by
  obtain ⟨u, e1, o', hb'⟩ := o.sub (n := 1) rfl (hi := some (.int .i64 (m : Nat))) (u := m) (.inr ⟨_, _, rfl, rfl⟩) (by omega)
  rcases o with ⟨rfl, rfl⟩ | ⟨r, o, cap, rfl, hl, hb, hr, hw⟩
  · simp at hm
  have e2 := slc_ok (n := 1) (a := some (⟨r, o, none⟩ : Addr)) (len := xs.length) (cap := cap) (lo := some (.int .i64 (m : Nat))) (hi := none) (l := m) (u := xs.length) (.inr ⟨_, _, rfl, rfl⟩) (.inl ⟨rfl, rfl⟩) (by omega) hl
  rw [if_neg (by omega)] at e2
  simp only [Option.map_some, addN, Nat.mul_one] at e2
  obtain ⟨nn, hnn⟩ : ∃ nn, xs.length - m = nn + 1 := ⟨xs.length - m - 1, by omega⟩
  have hzl : (Builtin.zeroCells #[z] (nn + 1)).toList.length = nn + 1 := by simp [Builtin.zeroCells]
  obtain ⟨h', e3, up⟩ := stores_ok (r := r) (o := o + m) (Builtin.zeroCells #[z] (nn + 1)).toList 0 h (fun v hv => by
      simp only [Builtin.zeroCells, Array.toList_map, List.mem_map] at hv
      obtain ⟨i, _, rfl⟩ := hv
      simp only [List.size_toArray, List.length_cons, List.length_nil, Nat.zero_add, Nat.mod_one]
      exact hz) (fun j hj => by
      rw [hzl] at hj
      have := hw (m + j) (by show _ < cap * 1; omega)
      rw [show o + m + 0 + j = o + (m + j) by omega]; exact this)
  refine ⟨_, h', u, e2, ?_, e1, ?_, hb', up.ch.mono fun x _ e => by subst e; rfl⟩
  · rw [hnn]
    simp only [clrS]
    rw [e3]; rfl
  · have e4 := slc_ok (n := 1) (a := some (⟨r, o, none⟩ : Addr)) (len := xs.length) (cap := cap) (lo := none) (hi := some (.int .i64 (m : Nat))) (l := 0) (u := m) (.inl ⟨rfl, rfl⟩) (.inr ⟨_, _, rfl, rfl⟩) (by omega) (by omega)
    rw [e4] at e1
    have e5 := Option.some.inj e1
    have e6 : (if cap = 0 then some (⟨r, o, none⟩ : Addr) else Option.map (fun a : Addr => a.add (0 * 1)) (some ⟨r, o, none⟩)) = some ⟨r, o, none⟩ := by
      split
      · rfl
      · simp [addN]
    rw [e6] at e5
    subst e5
    refine .inr ⟨r, o, cap, by rw [List.length_take, Nat.min_eq_left (by omega)]; simp, by rw [List.length_take]; omega, by rw [up.size]; exact hb, fun i x hx j u hu => ?_, fun j hj => ?_⟩
    · have hlt := (List.getElem?_eq_some_iff.mp hx).1
      rw [List.length_take] at hlt
      rw [List.getElem?_take_of_lt (by omega)] at hx
      have hj : j < 1 := (List.getElem?_eq_some_iff.mp hu).1
      rw [up.keep _ (fun q hq => by show o + i * 1 + j ≠ _; omega)]
      exact hr i x hx j u hu
    · exact ⟨up.some (hw j hj).1, by rw [up.fz]; exact (hw j hj).2⟩
end

theorem K_Compact {v : Value} {xs : List Int} (hN : xs.length ≤ 1000000) (c : Cx F h0 h [rSl EI1 v xs]) (hR : ∀ u h', Cx F h0 h' [rSl EI1 u (cpt xs)] → R u h') :
    F_slices_Compact_api_Loc_api_Loc S I v h R := by
  unfold F_slices_Compact_api_Loc_api_Loc
  rw [Sl.ln (c.sl (i := 0) rfl).sl, vb_some, bin_lss, vb_some]
  refine brd (fun h2 => ?_) fun h2 => ?_
  · refine hR _ _ ?_
    have : cpt xs = xs := by
      match xs, h2 with
      | [], _ => rfl
      | [a], _ => rfl
      | a :: b :: l, h2 => simp at h2; omega
    rw [this]; exact c
  refine Lp1.by (fun (k : Nat) u h' => u = .int .i64 k ∧ 1 ≤ k ∧ k ≤ xs.length ∧ cpt (xs.take k) = xs.take k ∧ Cx F h0 h' [rSl EI1 v xs]) (fun k => xs.length - k) 1 ⟨rfl, Nat.le_refl _, by omega, cpt_one (by omega), c⟩ ?_
  clear c
  rintro k u h1 ⟨rfl, hk1, hk2, hcp, c⟩ again hagain
  rw [vb_some, bin_lss, vb_some]
  refine brd (fun h3 => ?_) fun h3 => ?_
  · have hx : xs[k]? = some xs[k] := List.getElem?_eq_getElem (by omega)
    have hy : xs[k - 1]? = some xs[k - 1] := List.getElem?_eq_getElem (by omega)
    refine (c.sl (i := 0) rfl).sl.one rfl hx rfl rfl ?_
    rw [bin_sub, vb_some, wr64 (n := (k : Int) - 1) (by omega)]
    refine (c.sl (i := 0) rfl).sl.one rfl hy (by omega) rfl ?_
    have hct := cpt_take (k := k - 1) hy (y := xs[k]) (by rw [show k - 1 + 1 = k by omega]; exact hx)
    rw [show k - 1 + 1 = k by omega, show k - 1 + 2 = k + 1 by omega] at hct
    rw [bin_eql, vb_some]
    refine brd (fun h4 => ?_) fun h4 => ?_
    · rw [if_pos h4] at hct
      obtain ⟨w, e1, e2, e3⟩ := sub_ix (k := k) (c.sl (i := 0) rfl) (by omega)
      refine vb e1 ?_
      refine Lp2.by (fun (x : Nat × Nat × List Int) u1 u2 h' => u1 = .int .i64 x.1 ∧ u2 = .int .i64 x.2.1 ∧ 1 ≤ x.2.1 ∧ k + x.2.1 ≤ xs.length ∧ x.1 < k + x.2.1 ∧ x.2.2.length = xs.length ∧ (∀ j, k + x.2.1 ≤ j + 1 → x.2.2[j]? = xs[j]?) ∧
          x.2.2.take x.1 = cpt (xs.take (k + x.2.1)) ∧ Cx F h0 h' [rSl EI1 v x.2.2]) (fun x => xs.length - x.2.1) (k, 1, xs)
        ⟨rfl, rfl, Nat.le_refl _, by dsimp only; omega, by dsimp only; omega, rfl, fun _ _ => rfl, by dsimp only; rw [hct, hcp], c⟩ ?_
      rintro ⟨m, q, ys⟩ u1 u2 h5 ⟨rfl, rfl, hq1, hq2, hm, hlen, hsame, htk, c⟩ again2 hagain2
      dsimp only at *
      rw [e2, vb_some, bin_lss, vb_some]
      refine brd (fun h6 => ?_) fun h6 => ?_
      · have hkq : k + q < xs.length := by omega
        have ha : xs[k + q]? = some xs[k + q] := List.getElem?_eq_getElem hkq
        have hb : xs[k + q - 1]? = some xs[k + q - 1] := List.getElem?_eq_getElem (by omega)
        have hct2 := cpt_take (k := k + q - 1) hb (y := xs[k + q]) (by rw [show k + q - 1 + 1 = k + q by omega]; exact ha)
        rw [show k + q - 1 + 1 = k + q by omega, show k + q - 1 + 2 = k + (q + 1) by omega] at hct2
        have ha' : ys[k + q]? = some xs[k + q] := by rw [hsame _ (by omega)]; exact ha
        have hb' : ys[k + q - 1]? = some xs[k + q - 1] := by rw [hsame _ (by omega)]; exact hb
        have rda : ∀ K : Value → Prop, K (.int .i64 xs[k + q]) → Vb (ixs 1 w (.int .i64 (q : Nat))) fun p => Vb (ldc p h5) K := fun K hK => by
          rw [e3 q (q' := .i64) rfl rfl hkq]
          exact (c.sl (i := 0) rfl).sl.one rfl ha' rfl rfl hK
        refine Jn1.at (fun u h' => ∃ (m2 : Nat) (zs : List Int), u = .int .i64 m2 ∧ m2 < k + (q + 1) ∧ zs.length = xs.length ∧ (∀ j, k + (q + 1) ≤ j + 1 → zs[j]? = xs[j]?) ∧ zs.take m2 = cpt (xs.take (k + (q + 1))) ∧ Cx F h0 h' [rSl EI1 v zs]) ?_ ?_
        · refine rda _ ?_
          rw [bin_sub, vb_some, wr64 (n := (q : Int) - 1) (by omega)]
          rw [e3 (q - 1) (q' := .i64) (z' := ((k + q - 1 : Nat) : Int)) (by omega) (by omega) (by omega)]
          refine (c.sl (i := 0) rfl).sl.one rfl hb' rfl rfl ?_
          rw [bin_neq, vb_some]
          refine brd (fun h7 => ?_) fun h7 => ?_
          · refine rda _ ?_
            refine c.wr 0 rfl (n := m) rfl (by omega) xs[k + q] rfl rfl fun h8 c => ?_
            rw [bin_add, vb_some, wrS (by omega)]
            refine ⟨m + 1, ys.set m xs[k + q], rfl, by omega, by rw [List.length_set]; exact hlen, fun j hj => ?_, ?_, c⟩
            · rw [List.getElem?_set_ne (by omega)]; exact hsame j (by omega)
            · rw [if_neg h7] at hct2
              rw [hct2, ← htk, take_snoc (x := xs[k + q]) (by rw [List.getElem?_set_self (by omega)]), List.take_set_of_le (Nat.le_refl _)]
          · have h7 : xs[k + q] = xs[k + q - 1] := Decidable.not_not.1 h7
            rw [if_pos h7] at hct2
            exact ⟨m, ys, rfl, by omega, hlen, fun j hj => hsame j (by omega), by rw [hct2]; exact htk, c⟩
        · rintro u h6 ⟨m2, zs, rfl, hm2, hzl, hzs, hzt, c⟩
          rw [bin_add, vb_some, wrS (by omega)]
          exact hagain2 (m2, q + 1, zs) _ _ _ ⟨rfl, rfl, by dsimp only; omega, by dsimp only; omega, hm2, hzl, hzs, hzt, c⟩ (by dsimp only; omega)
      · have hq : k + q = xs.length := by omega
        rw [hq, List.take_length] at htk
        obtain ⟨F1, ⟨o, hf⟩, up⟩ := c.upd (i := 0) rfl
        obtain ⟨w2, h7, u, e4, e5, e6, o', hb, ch⟩ := clr_ok (m := m) (z := .int .i64 0) o (by omega) rfl
        refine vb e4 (eb e5 (vb e6 ?_))
        have c2 := up (F' := F1) (B := rSl EI1 u (ys.take m)) ⟨o', fun q => by rw [hf, hb]⟩ (mv_same (ch.mono fun q _ e => (hf q).2 e))
        rw [htk] at c2
        exact hR _ _ c2
    · rw [if_neg h4] at hct
      rw [bin_add, vb_some, wrS (by omega)]
      refine hagain (k + 1) _ _ ⟨rfl, by omega, by omega, ?_, c⟩ (by omega)
      rw [hct, hcp, take_snoc hx]
  · have : k = xs.length := by omega
    subst this
    rw [List.take_length] at hcp
    refine hR _ _ ?_
    rw [hcp]; exact c
end Go.En
