/-
  slices.SortStableFunc: sorted lists, joined.
  slices.SortStableFunc: ranges exchanged, rotated.
  slices.SortStableFunc: two sorted ranges joined in place.
  slices.SortStableFunc: two sorted ranges joined in place, in general.
  slices.SortStableFunc at no more than 32 elements: a sorted permutation.
-/
import Derived.Test.YtjnpmadojjfkpaaGreatXE
namespace Go.En
open Prog Spc Go.Sort

/-- ascending: no later element is less than an earlier one -/
def Srt (lt : Int → Int → Bool) (l : List Int) : Prop := l.Pairwise fun x y => lt y x = false
section
variable {lt : Int → Int → Bool} {A B A1 A2 B1 B2 C1 C2 X Y : List Int} {x y a b : Int}
theorem lt_asymm (hS : SWO lt) (h : lt x y = true) : lt y x = false := by
  cases hb : lt y x with
  | false => rfl
  | true => have := hS.trans x y x h hb; rw [hS.irrefl] at this; cases this
theorem Srt.lastL (hS : SWO lt) (h : Srt lt (X ++ [x])) : ∀ a ∈ X ++ [x], lt x a = false := fun a ha => by
  rcases List.mem_append.1 ha with h1 | h1
  · exact (List.pairwise_append.1 h).2.2 a h1 x (List.mem_singleton.2 rfl)
  · rw [List.mem_singleton] at h1
    subst h1; exact hS.irrefl _
theorem Srt.headL (hS : SWO lt) (h : Srt lt (x :: X)) : ∀ a ∈ x :: X, lt a x = false := fun a ha => by
  rcases List.mem_cons.1 ha with h1 | h1
  · subst h1; exact hS.irrefl _
  · exact (List.pairwise_cons.1 h).1 a h1
/-- the elements of X lie before those of Y, if the last lies before the first -/
theorem srt_bound (hS : SWO lt) (hX : Srt lt X) (hY : Srt lt Y) (hb : ∀ X' x y Y', X = X' ++ [x] → Y = y :: Y' → lt y x = false) : ∀ a ∈ X, ∀ b ∈ Y, lt b a = false := fun a ha b hb2 => by
  rcases List.eq_nil_or_concat X with rfl | ⟨X', x, rfl⟩
  · cases ha
  cases Y with
  | nil => cases hb2
  | cons y Y' =>
    rw [List.concat_eq_append] at hX ha hb
    have h1 := hX.lastL hS a ha
    have h2 := hY.headL hS b hb2
    have h3 := hb X' x y Y' rfl rfl
    exact hS.ntrans b x a (hS.ntrans b y x h2 h3) h1
theorem Srt.take {n : Nat} (h : Srt lt X) : Srt lt (X.take n) := h.sublist (List.take_sublist _ _)
theorem Srt.drop {n : Nat} (h : Srt lt X) : Srt lt (X.drop n) := h.sublist (List.drop_sublist _ _)
theorem take_last {s : Nat} {X' : List Int} (h : X.take s = X' ++ [x]) (hs : s ≤ X.length) : ∃ s', s = s' + 1 ∧ X[s']? = some x := by
  have hl := congrArg List.length h
  rw [List.length_take, List.length_append, List.length_singleton] at hl
  refine ⟨X'.length, by omega, ?_⟩
  have e : (X.take s)[X'.length]? = some x := by rw [h]; simp
  rw [List.getElem?_take] at e
  split at e
  · exact e
  · cases e
theorem drop_head {s : Nat} {Y' : List Int} (h : X.drop s = y :: Y') : X[s]? = some y := by
  have e : (X.drop s)[0]? = some y := by rw [h]; rfl
  rwa [List.getElem?_drop, Nat.add_zero] at e
/-- the split of two sorted lists -/
theorem split_bound (hS : SWO lt) (hA : Srt lt A) (hB : Srt lt B) {s t : Nat} (hs : s ≤ A.length) (ht : t ≤ B.length) (h1 : ∀ s' x y, s = s' + 1 → A[s']? = some x → B[t]? = some y → lt y x = false) (h2 : ∀ t' x y, t = t' + 1 → A[s]? = some x → B[t']? = some y → lt x y = false) :
    ∀ a ∈ A.take s ++ B.take t, ∀ b ∈ A.drop s ++ B.drop t, lt b a = false := by
  have hAA : ∀ a ∈ A.take s, ∀ b ∈ A.drop s, lt b a = false := by
    have := hA
    unfold Srt at this
    rw [← List.take_append_drop s A, List.pairwise_append] at this
    exact this.2.2
  have hBB : ∀ a ∈ B.take t, ∀ b ∈ B.drop t, lt b a = false := by
    have := hB
    unfold Srt at this
    rw [← List.take_append_drop t B, List.pairwise_append] at this
    exact this.2.2
  have hAB := srt_bound hS hA.take hB.drop fun X' x y Y' e1 e2 => by
    obtain ⟨s', e, hx⟩ := take_last e1 hs
    exact h1 s' x y e hx (drop_head e2)
  have hBA := srt_bound hS hB.take hA.drop fun X' x y Y' e1 e2 => by
    obtain ⟨t', e, hx⟩ := take_last e1 ht
    exact h2 t' y x e (drop_head e2) hx
  intro a ha b hb
  rcases List.mem_append.1 ha with ha | ha <;> rcases List.mem_append.1 hb with hb | hb
  · exact hAA a ha b hb
  · exact hAB a ha b hb
  · exact hBA a ha b hb
  · exact hBB a ha b hb
theorem split_perm {s t : Nat} (p1 : C1.Perm (A.take s ++ B.take t)) (p2 : C2.Perm (A.drop s ++ B.drop t)) : (C1 ++ C2).Perm (A ++ B) := by
  have h := p1.append p2
  refine h.trans ?_
  have e : A ++ B = (A.take s ++ A.drop s) ++ (B.take t ++ B.drop t) := by rw [List.take_append_drop, List.take_append_drop]
  rw [e, List.append_assoc, List.append_assoc]
  refine List.Perm.append_left _ ?_
  rw [← List.append_assoc, ← List.append_assoc]
  exact List.Perm.append_right _ List.perm_append_comm
theorem split_srt (p1 : C1.Perm X) (p2 : C2.Perm Y) (h1 : Srt lt C1) (h2 : Srt lt C2) (hb : ∀ a ∈ X, ∀ b ∈ Y, lt b a = false) : Srt lt (C1 ++ C2) :=
  List.pairwise_append.2 ⟨h1, h2, fun a ha b hb2 => hb a (p1.mem_iff.1 ha) b (p2.mem_iff.1 hb2)⟩
/-- one element, put into a sorted list -/
theorem one_srt (hS : SWO lt) (hB : Srt lt B) {t : Nat} (ht : t ≤ B.length) (h1 : ∀ t' y, t = t' + 1 → B[t']? = some y → lt x y = false) (h2 : ∀ y, B[t]? = some y → lt y x = false) : Srt lt (B.take t ++ x :: B.drop t) := by
  have hb := split_bound (A := [x]) hS (List.pairwise_singleton _ _) hB (s := 0) (Nat.zero_le _) ht (fun s' x y e => by cases e) fun t' x' y e hx hy => by
    simp only [List.getElem?_cons_zero, Option.some.injEq] at hx
    subst hx; exact h1 t' y e hy
  refine List.pairwise_append.2 ⟨hB.take, List.pairwise_cons.2 ⟨fun b hb2 => ?_, hB.drop⟩, fun a ha b hb2 => ?_⟩
  · cases hd : B.drop t with
    | nil => rw [hd] at hb2; cases hb2
    | cons y Y' =>
      rw [hd] at hb2
      have hY : Srt lt (y :: Y') := hd ▸ hB.drop
      exact hS.ntrans b y x (hY.headL hS b hb2) (h2 y (drop_head hd))
  · refine hb a (by simpa using ha) b ?_
    simpa using hb2
end
/-! ### Lists in parts -/
section
variable {P Q : List Int} {x y : Int}
theorem get_mid : (P ++ x :: Q)[P.length]? = some x := by simp
theorem set_mid : (P ++ x :: Q).set P.length y = P ++ y :: Q := by simp
end
end Go.En
namespace Go.En
open Prog Spc Go.Sort

variable {S : Sys} {I : Ids} {h h0 h' : Hp} {F F0 : Fp} {R : Value → Hp → Prop} {L : List Res}
/-- two elements of a list exchanged in memory -/
theorem Cx.xch {v : Value} {d : List Int} {a b : Int} (c : Cx F0 h0 h L) (i : Nat) (hi : L[i]? = some (rSl EI1 v d)) {zx zy : Int} {x y : Nat} (hzx : zx = x) (hzy : zy = y) (hx : d[x]? = some a) (hy : d[y]? = some b) {k : Hp → Prop}
    (hk : ∀ h', Cx F0 h0 h' (L.set i (rSl EI1 v ((d.set x b).set y a))) → k h') :
    Vb (ixs 1 v (.int .i64 zy)) fun p => Vb (ldc p h) fun u => Vb (ixs 1 v (.int .i64 zx)) fun q => Vb (ldc q h) fun w => Vb (ixs 1 v (.int .i64 zx)) fun r => Sb (En.sto 1 r u h) fun h4 => Vb (ixs 1 v (.int .i64 zy)) fun t => Sb (En.sto 1 t w h4) k := by
  have lx := (List.getElem?_eq_some_iff.1 hx).1
  have ly := (List.getElem?_eq_some_iff.1 hy).1
  refine (c.sl hi).sl.one rfl hy hzy rfl ((c.sl hi).sl.one rfl hx hzx rfl ?_)
  refine c.wr i hi hzx lx b rfl rfl fun h1 c1 => ?_
  have hi1 : (L.set i (rSl EI1 v (d.set x b)))[i]? = some (rSl EI1 v (d.set x b)) := by
    rw [List.getElem?_set_self (List.getElem?_eq_some_iff.1 hi).1]
  refine c1.wr i hi1 hzy (by rw [List.length_set]; exact ly) a rfl rfl fun h2 c2 => hk h2 ?_
  rw [List.set_set] at c2
  exact c2
/-- the halves -/
theorem half_ {z : Int} (h0 : 0 ≤ z ∧ z ≤ 4000000000) {k : Value → Prop} (hk : k (.int .i64 (z / 2))) : Vb (cvi .u64 (.int .i64 z)) fun v => Vb (bin .shr v (.int .u64 1)) fun v => Vb (cvi .i64 v) k := by
  obtain ⟨n, rfl⟩ : ∃ n : Nat, z = n := ⟨z.toNat, by omega⟩
  refine En.vb (v := .int .u64 (n : Int)) ?_ ?_
  · rw [cvi_int]
    congr 2
    simp only [IntKind.wrap, IntKind.bits, IntKind.signed]
    simp
    omega
  refine En.vb (shr_ok (z := 1) (s := 1) rfl (by decide)) ?_
  refine En.vb (v := .int .i64 ((n : Int) / 2)) ?_ hk
  rw [cvi_int, wr64 ⟨by omega, by omega⟩]
  congr 2
theorem xch_mid {P M T : List Int} {x y : Int} : ((P ++ x :: M ++ y :: T).set P.length y).set (P.length + 1 + M.length) x = P ++ y :: M ++ x :: T := by
  have e1 : P ++ x :: M ++ y :: T = P ++ x :: (M ++ y :: T) := by simp
  rw [e1, set_mid]
  have e2 : P ++ y :: (M ++ y :: T) = (P ++ y :: M) ++ y :: T := by simp
  have e3 : P.length + 1 + M.length = (P ++ y :: M).length := by simp; omega
  rw [e2, e3, set_mid]
theorem get_l {P Q : List Int} {x : Int} {n : Nat} (h : n = P.length) : (P ++ x :: Q)[n]? = some x := by rw [h]; exact get_mid
section
variable {v fn : Value} {P X M Y T : List Int}
theorem K_swapRange {n : Nat} {za zb : Int} (hX : X.length = n) (hY : Y.length = n) (ha : za = P.length) (hb : zb = P.length + X.length + M.length) (hN : (P ++ X ++ M ++ Y ++ T).length ≤ 1000000) (c : Cx F0 h0 h (rSl EI1 v (P ++ X ++ M ++ Y ++ T) :: L)) (hR : ∀ h', Cx F0 h0 h' (rSl EI1 v (P ++ Y ++ M ++ X ++ T) :: L) → R (.tuple #[]) h') :
    F_slices_swapRangeCmpFunc_api_Loc S I v (.int .i64 za) (.int .i64 zb) (.int .i64 n) fn h R := by
  unfold F_slices_swapRangeCmpFunc_api_Loc
  simp only [List.length_append] at hN
  refine Lp1.by (fun (i : Nat) u h' => u = .int .i64 i ∧ i ≤ n ∧ Cx F0 h0 h' (rSl EI1 v (P ++ Y.take i ++ (X.drop i ++ M ++ X.take i) ++ (Y.drop i ++ T)) :: L)) (fun i => n - i) 0 ⟨rfl, Nat.zero_le _, by simpa using c⟩ ?_
  clear c
  rintro i u h1 ⟨rfl, hi, c⟩ again hagain
  rw [bin_lss, vb_some]
  refine brd (fun e => ?_) fun e => ?_
  · have e : i < n := by omega
    have hx : X.drop i = X[i]'(by omega) :: X.drop (i + 1) := List.drop_eq_getElem_cons (by omega)
    have hy : Y.drop i = Y[i]'(by omega) :: Y.drop (i + 1) := List.drop_eq_getElem_cons (by omega)
    have tx : X.take (i + 1) = X.take i ++ [X[i]'(by omega)] := by rw [List.take_add_one, List.getElem?_eq_getElem (by omega)]; rfl
    have ty : Y.take (i + 1) = Y.take i ++ [Y[i]'(by omega)] := by rw [List.take_add_one, List.getElem?_eq_getElem (by omega)]; rfl
    rw [hx, hy] at c
    generalize X[i]'(by omega) = x at *
    generalize Y[i]'(by omega) = y at *
    have ltx : (X.take i).length = i := by rw [List.length_take]; omega
    have lty : (Y.take i).length = i := by rw [List.length_take]; omega
    have ldx : (X.drop (i + 1)).length = n - (i + 1) := by rw [List.length_drop]; omega
    have ea : bin .add (.int .i64 za) (.int .i64 i) = some (.int .i64 (za + i)) := by rw [bin_add, wr64 ⟨by omega, by omega⟩]
    have eb : bin .add (.int .i64 zb) (.int .i64 i) = some (.int .i64 (zb + i)) := by rw [bin_add, wr64 ⟨by omega, by omega⟩]
    have eL : P ++ Y.take i ++ (x :: X.drop (i + 1) ++ M ++ X.take i) ++ (y :: Y.drop (i + 1) ++ T) = (P ++ Y.take i) ++ x :: (X.drop (i + 1) ++ M ++ X.take i) ++ y :: (Y.drop (i + 1) ++ T) := by simp
    rw [eL] at c
    have l1 : (P ++ Y.take i).length = P.length + i := by rw [List.length_append, lty]
    have l2 : (X.drop (i + 1) ++ M ++ X.take i).length = n - (i + 1) + M.length + i := by rw [List.length_append, List.length_append, ldx, ltx]
    simp only [ea, eb, vb_some]
    refine c.xch 0 rfl (x := (P ++ Y.take i).length) (y := (P ++ Y.take i).length + 1 + (X.drop (i + 1) ++ M ++ X.take i).length) (a := x) (b := y) (by omega) (by omega) ?_ ?_ fun h2 c => ?_
    · have : (P ++ Y.take i) ++ x :: (X.drop (i + 1) ++ M ++ X.take i) ++ y :: (Y.drop (i + 1) ++ T) = (P ++ Y.take i) ++ x :: (X.drop (i + 1) ++ M ++ X.take i ++ y :: (Y.drop (i + 1) ++ T)) := by simp
      rw [this]; exact get_l rfl
    · exact get_l (by simp; omega)
    · rw [xch_mid] at c
      rw [bin_add, vb_some, wrS (by omega)]
      refine hagain (i + 1) _ _ ⟨rfl, by omega, ?_⟩ (by omega)
      rw [tx, ty]
      have : (P ++ Y.take i) ++ y :: (X.drop (i + 1) ++ M ++ X.take i) ++ x :: (Y.drop (i + 1) ++ T) = P ++ (Y.take i ++ [y]) ++ (X.drop (i + 1) ++ M ++ (X.take i ++ [x])) ++ (Y.drop (i + 1) ++ T) := by simp
      rw [← this]; exact c
  · have ei : i = n := by omega
    subst ei
    refine hR _ ?_
    rw [List.take_of_length_le (by omega), List.drop_of_length_le (by omega), List.take_of_length_le (by omega), List.drop_of_length_le (by omega)] at c
    simpa using c
structure CsZ0 (S : Sys) (I : Ids) : Prop where
  swr : ∀ {v fn : Value} {P X M Y T : List Int} {n : Nat} {za zb : Int} {F0 h0 h L R}, X.length = n → Y.length = n → za = P.length → zb = P.length + X.length + M.length → (P ++ X ++ M ++ Y ++ T).length ≤ 1000000 → Cx F0 h0 h (rSl EI1 v (P ++ X ++ M ++ Y ++ T) :: L) → (∀ h', Cx F0 h0 h' (rSl EI1 v (P ++ Y ++ M ++ X ++ T) :: L) → R (.tuple #[]) h') → S.C I.f_slices_swapRangeCmpFunc_api_Loc [v, .int .i64 za, .int .i64 zb, .int .i64 n, fn] h R
theorem K_rotate (cs : CsZ0 S I) {za zm zb : Int} (ha : za = P.length) (hm : zm = P.length + X.length) (hb : zb = P.length + X.length + Y.length) (hX : 0 < X.length) (hY : 0 < Y.length) (hN : (P ++ X ++ Y ++ T).length ≤ 1000000) (c : Cx F0 h0 h (rSl EI1 v (P ++ X ++ Y ++ T) :: L)) (hR : ∀ h', Cx F0 h0 h' (rSl EI1 v (P ++ Y ++ X ++ T) :: L) → R (.tuple #[]) h') :
    F_slices_rotateCmpFunc_api_Loc S I v (.int .i64 za) (.int .i64 zm) (.int .i64 zb) fn h R := by
  unfold F_slices_rotateCmpFunc_api_Loc
  have hN' := hN
  simp only [List.length_append] at hN'
  have e1 : bin .sub (.int .i64 zm) (.int .i64 za) = some (.int .i64 (X.length : Int)) := by rw [bin_sub, wr64 ⟨by omega, by omega⟩]; congr 2; omega
  have e2 : bin .sub (.int .i64 zb) (.int .i64 zm) = some (.int .i64 (Y.length : Int)) := by rw [bin_sub, wr64 ⟨by omega, by omega⟩]; congr 2; omega
  rw [e1, vb_some, e2, vb_some]
  refine Lp2.by (fun (z : List Int × List Int × List Int × List Int) u w h' => u = .int .i64 (z.2.1.length : Int) ∧ w = .int .i64 (z.2.2.1.length : Int) ∧ 0 < z.2.1.length ∧ 0 < z.2.2.1.length ∧ (z.1.length : Int) + z.2.1.length = zm ∧ (z.1 ++ z.2.1 ++ z.2.2.1 ++ z.2.2.2).length ≤ 1000000 ∧ z.1 ++ z.2.2.1 ++ z.2.1 ++ z.2.2.2 = P ++ Y ++ X ++ T ∧ Cx F0 h0 h' (rSl EI1 v (z.1 ++ z.2.1 ++ z.2.2.1 ++ z.2.2.2) :: L)) (fun z => z.2.1.length + z.2.2.1.length) (P, X, Y, T) ⟨rfl, rfl, hX, hY, by dsimp only; omega, hN, rfl, c⟩ ?_
  clear c
  rintro ⟨P, X, Y, T⟩ u w h1 ⟨rfl, rfl, hX, hY, hm, hN, hfin, c⟩ again hagain
  dsimp only at *
  have hN' := hN
  simp only [List.length_append] at hN'
  rw [bin_neq, vb_some]
  have em : bin .sub (.int .i64 zm) (.int .i64 (X.length : Int)) = some (.int .i64 (P.length : Int)) := by rw [bin_sub, wr64 ⟨by omega, by omega⟩]; congr 2; omega
  refine brd (fun e => ?_) fun e => ?_
  · rw [bin_gtr, vb_some]
    refine brd (fun e3 => ?_) fun e3 => ?_
    · -- the left part is longer
      rw [em, vb_some]
      obtain ⟨U, V, rfl, hU⟩ : ∃ U V, X = U ++ V ∧ U.length = Y.length := ⟨X.take Y.length, X.drop Y.length, (List.take_append_drop _ _).symm, by rw [List.length_take]; omega⟩
      have hV : V.length + U.length = (U ++ V).length := by rw [List.length_append]; omega
      have c : Cx F0 h0 h1 (rSl EI1 v (P ++ U ++ V ++ Y ++ T) :: L) := by rw [← List.append_assoc] at c; exact c
      refine cs.swr (P := P) (X := U) (M := V) (Y := Y) (T := T) (n := Y.length) hU rfl rfl (by omega) (by simpa [Nat.add_assoc] using hN) c fun h2 c => ?_
      have e4 : bin .sub (.int .i64 ((U ++ V).length : Int)) (.int .i64 (Y.length : Int)) = some (.int .i64 (V.length : Int)) := by rw [bin_sub, wr64 ⟨by omega, by omega⟩]; congr 2; omega
      rw [e4, vb_some]
      refine hagain (P ++ Y, V, U, T) _ _ _ ⟨rfl, by dsimp only; rw [hU], by dsimp only; omega, by dsimp only; omega, by dsimp only; rw [List.length_append]; omega, by simp only [List.length_append] at *; omega, ?_, c⟩ (by dsimp only; omega)
      rw [← hfin]; simp
    · -- the right part is longer
      have e3 : X.length < Y.length := by omega
      obtain ⟨Y1, Y2, rfl, hU⟩ : ∃ Y1 Y2, Y = Y1 ++ Y2 ∧ Y2.length = X.length := ⟨Y.take (Y.length - X.length), Y.drop (Y.length - X.length), (List.take_append_drop _ _).symm, by rw [List.length_drop]; omega⟩
      have hV : Y1.length + Y2.length = (Y1 ++ Y2).length := by rw [List.length_append]
      have e5 : bin .add (.int .i64 zm) (.int .i64 ((Y1 ++ Y2).length : Int)) = some (.int .i64 (zm + (Y1 ++ Y2).length)) := by rw [bin_add, wr64 ⟨by omega, by omega⟩]
      have e6 : bin .sub (.int .i64 (zm + (Y1 ++ Y2).length)) (.int .i64 (X.length : Int)) = some (.int .i64 (zm + Y1.length)) := by rw [bin_sub, wr64 ⟨by omega, by omega⟩]; congr 2; omega
      rw [em, vb_some, e5, vb_some, e6, vb_some]
      have c : Cx F0 h0 h1 (rSl EI1 v (P ++ X ++ Y1 ++ Y2 ++ T) :: L) := by rw [← List.append_assoc] at c; exact c
      refine cs.swr (P := P) (X := X) (M := Y1) (Y := Y2) (T := T) (n := X.length) rfl hU rfl (by omega) (by simpa [Nat.add_assoc] using hN) c fun h2 c => ?_
      have e4 : bin .sub (.int .i64 ((Y1 ++ Y2).length : Int)) (.int .i64 (X.length : Int)) = some (.int .i64 (Y1.length : Int)) := by rw [bin_sub, wr64 ⟨by omega, by omega⟩]; congr 2; omega
      rw [e4, vb_some]
      refine hagain (P, Y2, Y1, X ++ T) _ _ _ ⟨by dsimp only; rw [hU], rfl, by dsimp only; omega, by dsimp only; omega, by dsimp only; omega, by simp only [List.length_append] at *; omega, ?_, by dsimp only; rw [← List.append_assoc]; exact c⟩ (by dsimp only; omega)
      rw [← hfin]; simp
  · have e : X.length = Y.length := by omega
    rw [em, vb_some]
    have c : Cx F0 h0 h1 (rSl EI1 v (P ++ X ++ [] ++ Y ++ T) :: L) := by simpa using c
    refine cs.swr (P := P) (X := X) (M := []) (Y := Y) (T := T) (n := X.length) rfl e.symm rfl (by simp; omega) (by simpa using hN) c fun h2 c => ?_
    refine hR _ ?_
    rw [← hfin]
    simpa using c
end
end Go.En
namespace Go.En
open Prog Spc Go.Sort

variable {S : Sys} {I : Ids} {h h0 h' : Hp} {F F0 : Fp} {R : Value → Hp → Prop} {L : List Res}
/-- a function that compares elements; it may turn a resource -/
structure CmpOK {α : Type} (S : Sys) (Z : α → Res) (fn : Value) (N : Int → Prop) (lt : Int → Int → Bool) : Prop where
  swo : SWO lt
  call : ∀ {x : α} {a b : Int} {h : Hp} {F : Fp} {R : Value → Hp → Prop}, N a → N b → (Z x).P h F → (∀ x' z h' F', (Z x').P h' F' → Mv F h F' h' → (z < 0 ↔ lt a b = true) → R (.int .i64 z) h') → Cv S.C S.Y fn [.int .i64 a, .int .i64 b] h R
structure CsZ1 (S : Sys) (I : Ids) : Prop extends CsZ0 S I where
  rot : ∀ {v fn : Value} {P X Y T : List Int} {za zm zb : Int} {F0 h0 h L R}, za = P.length → zm = P.length + X.length → zb = P.length + X.length + Y.length → 0 < X.length → 0 < Y.length → (P ++ X ++ Y ++ T).length ≤ 1000000 → Cx F0 h0 h (rSl EI1 v (P ++ X ++ Y ++ T) :: L) → (∀ h', Cx F0 h0 h' (rSl EI1 v (P ++ Y ++ X ++ T) :: L) → R (.tuple #[]) h') → S.C I.f_slices_rotateCmpFunc_api_Loc [v, .int .i64 za, .int .i64 zm, .int .i64 zb, fn] h R
  symm : ∀ {a b c d e : Value} {h R}, F_slices_symMergeCmpFunc_api_Loc S I a b c d e h R → S.C I.f_slices_symMergeCmpFunc_api_Loc [a, b, c, d, e] h R
theorem eqI' {k : IntKind} (a : Int) : bin .eql (.int k a) (.int k a) = some (.bool true) := by rw [bin_eql]; simp
theorem uno_nb' (r : Bool) : uno .not (.bool r) = some (.bool !r) := rfl
theorem subZ {a b : Int} (h : R64 (a - b)) : bin .sub (.int .i64 a) (.int .i64 b) = some (.int .i64 (a - b)) := by rw [bin_sub, wr64 h]
theorem adj1 {P T : List Int} {x y : Int} : ((P ++ x :: y :: T).set P.length y).set (P.length + 1) x = P ++ y :: x :: T := by simp
theorem adj2 {P T : List Int} {x y : Int} : ((P ++ x :: y :: T).set (P.length + 1) x).set P.length y = P ++ y :: x :: T := by
  rw [List.set_comm _ _ (by omega)]; exact adj1
theorem take_s {l : List Int} {n : Nat} (h : n < l.length) : l.take (n + 1) = l.take n ++ [l[n]] := by rw [List.take_add_one, List.getElem?_eq_getElem h]; rfl
section
variable {α : Type} {Z : α → Res} {v fn : Value} {N : Int → Prop} {lt : Int → Int → Bool} {x : α} {P A B T : List Int}
theorem call_ (hc : CmpOK S Z fn N lt) {X : Res} {a b : Int} {K : Value → Hp → Prop} (c : Cx F0 h0 h [X, Z x]) (ha : N a) (hb : N b) (hk : ∀ x' z h', (z < 0 ↔ lt a b = true) → Cx F0 h0 h' [X, Z x'] → K (.int .i64 z) h') : Cv S.C S.Y fn [.int .i64 a, .int .i64 b] h K := by
  obtain ⟨F1, a1, up⟩ := c.upd (i := 1) rfl
  exact hc.call ha hb a1 fun x' z h' F' a' mv hz => hk x' z h' hz (up a' mv)
set_option maxHeartbeats 1600000 in
/-- one element ahead of a sorted range -/
theorem K_symm1 (hc : CmpOK S Z fn N lt) {u : Int} {za zm zb : Int} (ha : za = P.length) (hm : zm = P.length + 1) (hb : zb = P.length + 1 + B.length) (hB : Srt lt B) (hN : (P ++ u :: B ++ T).length ≤ 1000000) (hNu : N u) (hNB : ∀ y ∈ B, N y)
    (c : Cx F0 h0 h [rSl EI1 v (P ++ u :: B ++ T), Z x]) (hR : ∀ x' C h', C.Perm (u :: B) → Srt lt C → Cx F0 h0 h' [rSl EI1 v (P ++ C ++ T), Z x'] → R (.tuple #[]) h') :
    F_slices_symMergeCmpFunc_api_Loc S I v (.int .i64 za) (.int .i64 zm) (.int .i64 zb) fn h R := by
  unfold F_slices_symMergeCmpFunc_api_Loc
  simp only [List.length_append, List.length_cons] at hN
  have e1 : bin .sub (.int .i64 zm) (.int .i64 za) = some (.int .i64 1) := by rw [bin_sub, wr64 ⟨by omega, by omega⟩]; congr 2; omega
  rw [e1, vb_some, eqI', vb_some, br_true]
  refine Lp2.by (fun (z : α × Nat × Nat) w w2 h' => w = .int .i64 (zm + z.2.1) ∧ w2 = .int .i64 (zm + z.2.2) ∧ z.2.1 ≤ z.2.2 ∧ z.2.2 ≤ B.length ∧ (∀ t' y, z.2.1 = t' + 1 → B[t']? = some y → lt y u = true) ∧ (∀ y, B[z.2.2]? = some y → lt y u = false) ∧ Cx F0 h0 h' [rSl EI1 v (P ++ u :: B ++ T), Z z.1]) (fun z => z.2.2 - z.2.1) (x, 0, B.length)
    ⟨by dsimp only; rw [Int.natCast_zero, Int.add_zero], by dsimp only; congr 1; omega, Nat.zero_le _, Nat.le_refl _, (fun t' y e => by cases e), (fun y e => by dsimp only at e; rw [List.getElem?_eq_none (Nat.le_refl _)] at e; cases e), c⟩ ?_
  clear c
  rintro ⟨x, i, j⟩ w w2 h1 ⟨rfl, rfl, hij, hj, hi1, hj1, c⟩ again hagain
  dsimp only at *
  rw [bin_lss, vb_some]
  refine brd (fun e => ?_) fun e => ?_
  · have hij : i < j := by omega
    have e2 : bin .add (.int .i64 (zm + i)) (.int .i64 (zm + j)) = some (.int .i64 (zm + i + (zm + j))) := by rw [bin_add, wr64 ⟨by omega, by omega⟩]
    rw [e2, vb_some]
    refine half_ ⟨by omega, by omega⟩ ?_
    have e3 : (zm + i + (zm + j)) / 2 = zm + ((i + j) / 2 : Nat) := by omega
    rw [e3]
    have hq : (i + j) / 2 < B.length := by omega
    have hx : B[(i + j) / 2]? = some (B[(i + j) / 2]) := List.getElem?_eq_getElem hq
    have hyN := hNB _ (List.getElem_mem hq)
    generalize hg : (i + j) / 2 = q at *
    generalize B[q] = y at *
    have eL : (P ++ u :: B ++ T)[P.length + 1 + q]? = some y := by
      rw [List.append_assoc, List.getElem?_append_right (by omega), show P.length + 1 + q - P.length = q + 1 by omega, List.cons_append, List.getElem?_cons_succ, List.getElem?_append_left hq]; exact hx
    refine (c.sl (i := 0) rfl).sl.one rfl eL (z := zm + q) (by omega) rfl ?_
    refine (c.sl (i := 0) rfl).sl.one rfl (i := P.length) (x := u) (by rw [List.append_assoc]; exact get_mid) ha rfl ?_
    refine call_ hc c hyN hNu fun x' z h2 hz c => ?_
    rw [bin_lss, vb_some]
    refine brd (fun e4 => ?_) fun e4 => ?_
    · rw [show bin .add (.int .i64 (zm + q)) (.int .i64 1) = some (.int .i64 (zm + (q + 1 : Nat))) by rw [bin_add, wr64 ⟨by omega, by omega⟩]; congr 2; omega, vb_some]
      refine hagain (x', q + 1, j) _ _ _ ⟨rfl, rfl, by dsimp only; omega, hj, (fun t' y' e5 e6 => ?_), hj1, c⟩ (by dsimp only; omega)
      have : t' = q := by dsimp only at e5; omega
      subst this
      rw [hx] at e6; injection e6 with e6; subst e6
      exact hz.1 e4
    · refine hagain (x', i, q) _ _ _ ⟨rfl, rfl, by dsimp only; omega, by dsimp only; omega, hi1, (fun y' e6 => ?_), c⟩ (by dsimp only; omega)
      dsimp only at e6
      rw [hx] at e6; injection e6 with e6; subst e6
      cases hl : lt y u with
      | false => rfl
      | true => exact absurd (hz.2 hl) e4
  · have hij : i = j := by omega
    subst hij
    clear hagain again
    have hs := one_srt hc.swo hB hj (fun t' y e1 e2 => lt_asymm hc.swo (hi1 t' y e1 e2)) hj1
    have hp : (B.take i ++ u :: B.drop i).Perm (u :: B) := by
      have := List.perm_middle (a := u) (l₁ := B.take i) (l₂ := B.drop i)
      rwa [List.take_append_drop] at this
    refine Lp1.by (fun (s : Nat) w h' => w = .int .i64 (za + s) ∧ s ≤ i ∧ Cx F0 h0 h' [rSl EI1 v (P ++ (B.take s ++ u :: B.drop s) ++ T), Z x]) (fun s => i - s) 0 ⟨by rw [Int.natCast_zero, Int.add_zero], Nat.zero_le _, by simpa using c⟩ ?_
    clear c
    rintro s w h2 ⟨rfl, hsi, c⟩ again hagain
    have e5 : bin .sub (.int .i64 (zm + i)) (.int .i64 1) = some (.int .i64 (zm + i - 1)) := subZ ⟨by omega, by omega⟩
    rw [e5, vb_some, bin_lss, vb_some]
    refine brd (fun e => ?_) fun e => ?_
    · have hsi : s < i := by omega
      have hd : B.drop s = B[s]'(by omega) :: B.drop (s + 1) := List.drop_eq_getElem_cons (by omega)
      have ht := take_s (l := B) (n := s) (by omega)
      rw [hd] at c
      generalize B[s]'(by omega) = y at *
      have eA : P ++ (B.take s ++ u :: y :: B.drop (s + 1)) ++ T = (P ++ B.take s) ++ u :: y :: (B.drop (s + 1) ++ T) := by simp
      rw [eA] at c
      have lt1 : (P ++ B.take s).length = P.length + s := by rw [List.length_append, List.length_take]; omega
      have e6 : bin .add (.int .i64 (za + s)) (.int .i64 1) = some (.int .i64 (za + (s + 1 : Nat))) := by rw [bin_add, wr64 ⟨by omega, by omega⟩]; congr 2; omega
      simp only [e6, vb_some]
      refine c.xch 0 rfl (x := (P ++ B.take s).length) (y := (P ++ B.take s).length + 1) (a := u) (b := y) (by omega) (by omega) get_mid ?_ fun h3 c => ?_
      · have : (P ++ B.take s) ++ u :: y :: (B.drop (s + 1) ++ T) = ((P ++ B.take s) ++ [u]) ++ y :: (B.drop (s + 1) ++ T) := by simp
        rw [this]; exact get_l (by simp only [List.length_append, List.length_singleton])
      · rw [adj1] at c
        refine hagain (s + 1) _ _ ⟨rfl, by omega, ?_⟩ (by omega)
        rw [ht]
        have : P ++ (B.take s ++ [y] ++ u :: B.drop (s + 1)) ++ T = (P ++ B.take s) ++ y :: u :: (B.drop (s + 1) ++ T) := by simp
        rw [this]; exact c
    · have es : s = i := by omega
      subst es
      exact hR x _ h2 hp hs c
set_option maxHeartbeats 1600000 in
/-- one element behind a sorted range -/
theorem K_symm2 (hc : CmpOK S Z fn N lt) {u : Int} {za zm zb : Int} (ha : za = P.length) (hm : zm = P.length + A.length) (hb : zb = P.length + A.length + 1) (hA : Srt lt A) (hA2 : 2 ≤ A.length) (hN : (P ++ A ++ u :: T).length ≤ 1000000) (hNu : N u) (hNA : ∀ y ∈ A, N y)
    (c : Cx F0 h0 h [rSl EI1 v (P ++ A ++ u :: T), Z x]) (hR : ∀ x' C h', C.Perm (A ++ [u]) → Srt lt C → Cx F0 h0 h' [rSl EI1 v (P ++ C ++ T), Z x'] → R (.tuple #[]) h') :
    F_slices_symMergeCmpFunc_api_Loc S I v (.int .i64 za) (.int .i64 zm) (.int .i64 zb) fn h R := by
  unfold F_slices_symMergeCmpFunc_api_Loc
  simp only [List.length_append, List.length_cons] at hN
  have e1 : bin .sub (.int .i64 zm) (.int .i64 za) = some (.int .i64 (A.length : Int)) := by rw [bin_sub, wr64 ⟨by omega, by omega⟩]; congr 2; omega
  rw [e1, vb_some, bin_eql, vb_some]
  refine brd (fun e => by omega) fun _ => ?_
  have e1' : bin .sub (.int .i64 zb) (.int .i64 zm) = some (.int .i64 1) := by rw [bin_sub, wr64 ⟨by omega, by omega⟩]; congr 2; omega
  rw [e1', vb_some, eqI', vb_some, br_true]
  refine Lp2.by (fun (z : α × Nat × Nat) w w2 h' => w = .int .i64 (za + z.2.1) ∧ w2 = .int .i64 (za + z.2.2) ∧ z.2.1 ≤ z.2.2 ∧ z.2.2 ≤ A.length ∧ (∀ t' y, z.2.1 = t' + 1 → A[t']? = some y → lt u y = false) ∧ (∀ y, A[z.2.2]? = some y → lt u y = true) ∧ Cx F0 h0 h' [rSl EI1 v (P ++ A ++ u :: T), Z z.1]) (fun z => z.2.2 - z.2.1) (x, 0, A.length)
    ⟨by dsimp only; rw [Int.natCast_zero, Int.add_zero], by dsimp only; congr 1; omega, Nat.zero_le _, Nat.le_refl _, (fun t' y e => by cases e), (fun y e => by dsimp only at e; rw [List.getElem?_eq_none (Nat.le_refl _)] at e; cases e), c⟩ ?_
  clear c
  rintro ⟨x, i, j⟩ w w2 h1 ⟨rfl, rfl, hij, hj, hi1, hj1, c⟩ again hagain
  dsimp only at *
  rw [bin_lss, vb_some]
  refine brd (fun e => ?_) fun e => ?_
  · have hij : i < j := by omega
    have e2 : bin .add (.int .i64 (za + i)) (.int .i64 (za + j)) = some (.int .i64 (za + i + (za + j))) := by rw [bin_add, wr64 ⟨by omega, by omega⟩]
    rw [e2, vb_some]
    refine half_ ⟨by omega, by omega⟩ ?_
    have e3 : (za + i + (za + j)) / 2 = za + ((i + j) / 2 : Nat) := by omega
    rw [e3]
    have hq : (i + j) / 2 < A.length := by omega
    have hx : A[(i + j) / 2]? = some (A[(i + j) / 2]) := List.getElem?_eq_getElem hq
    have hyN := hNA _ (List.getElem_mem hq)
    generalize hg : (i + j) / 2 = q at *
    generalize A[q] = y at *
    have eL : (P ++ A ++ u :: T)[P.length + q]? = some y := by
      rw [List.append_assoc, List.getElem?_append_right (by omega), show P.length + q - P.length = q by omega, List.getElem?_append_left hq]; exact hx
    refine (c.sl (i := 0) rfl).sl.one rfl (i := P.length + A.length) (x := u) (get_l (by rw [List.length_append])) hm rfl ?_
    refine (c.sl (i := 0) rfl).sl.one rfl eL (z := za + q) (by omega) rfl ?_
    refine call_ hc c hNu hyN fun x' z h2 hz c => ?_
    rw [bin_lss, vb_some, uno_nb', vb_some]
    cases hl : lt u y with
    | true =>
      rw [decide_eq_true (hz.2 hl), Bool.not_true, br_false]
      refine hagain (x', i, q) _ _ _ ⟨rfl, rfl, by dsimp only; omega, by dsimp only; omega, hi1, (fun y' e6 => ?_), c⟩ (by dsimp only; omega)
      dsimp only at e6
      rw [hx] at e6; injection e6 with e6; subst e6
      exact hl
    | false =>
      rw [decide_eq_false (fun h => by rw [hz.1 h] at hl; cases hl), Bool.not_false, br_true]
      rw [show bin .add (.int .i64 (za + q)) (.int .i64 1) = some (.int .i64 (za + (q + 1 : Nat))) by rw [bin_add, wr64 ⟨by omega, by omega⟩]; congr 2; omega, vb_some]
      refine hagain (x', q + 1, j) _ _ _ ⟨rfl, rfl, by dsimp only; omega, hj, (fun t' y' e5 e6 => ?_), hj1, c⟩ (by dsimp only; omega)
      have : t' = q := by dsimp only at e5; omega
      subst this
      rw [hx] at e6; injection e6 with e6; subst e6
      exact hl
  · have hij : i = j := by omega
    subst hij
    clear hagain again
    have hs := one_srt hc.swo hA hj hi1 (fun y e => lt_asymm hc.swo (hj1 y e))
    have hp : (A.take i ++ u :: A.drop i).Perm (A ++ [u]) := by
      have h1 := List.perm_middle (a := u) (l₁ := A.take i) (l₂ := A.drop i)
      rw [List.take_append_drop] at h1
      exact h1.trans (List.perm_append_comm (l₁ := [u]) (l₂ := A))
    refine Lp1.by (fun (s : Nat) w h' => w = .int .i64 (za + s) ∧ i ≤ s ∧ s ≤ A.length ∧ Cx F0 h0 h' [rSl EI1 v (P ++ (A.take s ++ u :: A.drop s) ++ T), Z x]) (fun s => s) A.length ⟨by congr 1; omega, hj, Nat.le_refl _, by simpa using c⟩ ?_
    clear c
    rintro s w h2 ⟨rfl, hsi, hsA, c⟩ again hagain
    rw [bin_gtr, vb_some]
    refine brd (fun e => ?_) fun e => ?_
    · obtain ⟨s, rfl⟩ : ∃ s', s = s' + 1 := ⟨s - 1, by omega⟩
      have hd : A.drop s = A[s]'(by omega) :: A.drop (s + 1) := List.drop_eq_getElem_cons (by omega)
      have ht := take_s (l := A) (n := s) (by omega)
      rw [ht] at c
      generalize A[s]'(by omega) = y at *
      have eA : P ++ (A.take s ++ [y] ++ u :: A.drop (s + 1)) ++ T = (P ++ A.take s) ++ y :: u :: (A.drop (s + 1) ++ T) := by simp
      rw [eA] at c
      have lt1 : (P ++ A.take s).length = P.length + s := by rw [List.length_append, List.length_take]; omega
      have e6 : bin .sub (.int .i64 (za + (s + 1 : Nat))) (.int .i64 1) = some (.int .i64 (za + s)) := by rw [bin_sub, wr64 ⟨by omega, by omega⟩]; congr 2; omega
      simp only [e6, vb_some]
      refine c.xch 0 rfl (x := (P ++ A.take s).length + 1) (y := (P ++ A.take s).length) (a := u) (b := y) (by omega) (by omega) ?_ get_mid fun h3 c => ?_
      · have : (P ++ A.take s) ++ y :: u :: (A.drop (s + 1) ++ T) = ((P ++ A.take s) ++ [y]) ++ u :: (A.drop (s + 1) ++ T) := by simp
        rw [this]; exact get_l (by simp only [List.length_append, List.length_singleton])
      · rw [adj2] at c
        refine hagain s _ _ ⟨rfl, by omega, by omega, ?_⟩ (by omega)
        rw [hd]
        have : P ++ (A.take s ++ u :: y :: A.drop (s + 1)) ++ T = (P ++ A.take s) ++ u :: y :: (A.drop (s + 1) ++ T) := by simp
        rw [this]; exact c
    · have es : s = i := by omega
      subst es
      exact hR x _ h2 hp hs c
end
end Go.En
namespace Go.En
open Prog Spc Go.Sort

variable {S : Sys} {I : Ids} {h h0 h' : Hp} {F F0 : Fp} {R : Value → Hp → Prop} {L : List Res}
section
variable {α : Type} {Z : α → Res} {v fn : Value} {N : Int → Prop} {lt : Int → Int → Bool} {x : α} {P A B T : List Int}
theorem addZ {a b : Int} (h : R64 (a + b)) : bin .add (.int .i64 a) (.int .i64 b) = some (.int .i64 (a + b)) := by rw [bin_add, wr64 h]
theorem get_a {n : Nat} {y : Int} (h : A[n]? = some y) : (P ++ A ++ B ++ T)[P.length + n]? = some y := by
  have hl := (List.getElem?_eq_some_iff.1 h).1
  rw [List.append_assoc, List.append_assoc, List.getElem?_append_right (by omega), show P.length + n - P.length = n by omega, List.getElem?_append_left hl]; exact h
theorem get_b {n : Nat} {y : Int} (h : B[n]? = some y) : (P ++ A ++ B ++ T)[P.length + A.length + n]? = some y := by
  have hl := (List.getElem?_eq_some_iff.1 h).1
  rw [List.append_assoc, List.getElem?_append_right (by rw [List.length_append]; omega), show P.length + A.length + n - (P ++ A).length = n by rw [List.length_append]; omega, List.getElem?_append_left hl]; exact h
set_option maxHeartbeats 3200000 in
theorem symm_ (cs : CsZ1 S I) (hc : CmpOK S Z fn N lt) : ∀ (f : Nat) (P A B T : List Int) (x : α) (za zm zb : Int) (h : Hp) (R : Value → Hp → Prop), A.length + B.length ≤ f → za = P.length → zm = P.length + A.length → zb = P.length + A.length + B.length → Srt lt A → Srt lt B → 1 ≤ A.length → 1 ≤ B.length → (P ++ A ++ B ++ T).length ≤ 1000000 → (∀ y ∈ A, N y) → (∀ y ∈ B, N y) →
    Cx F0 h0 h [rSl EI1 v (P ++ A ++ B ++ T), Z x] → (∀ x' C h', C.Perm (A ++ B) → Srt lt C → Cx F0 h0 h' [rSl EI1 v (P ++ C ++ T), Z x'] → R (.tuple #[]) h') → S.C I.f_slices_symMergeCmpFunc_api_Loc [v, .int .i64 za, .int .i64 zm, .int .i64 zb, fn] h R
  | 0, P, A, B, T, x, za, zm, zb, h, R, hf, ha, hm, hb, hA, hB, hA1, hB1, hN, hNA, hNB, c, hR => by omega
  | f + 1, P, A, B, T, x, za, zm, zb, h, R, hf, ha, hm, hb, hA, hB, hA1, hB1, hN, hNA, hNB, c, hR => by
    refine cs.symm ?_
    have hN' := hN
    simp only [List.length_append] at hN'
    by_cases hAl : A.length = 1
    · obtain ⟨u, rfl⟩ := List.length_eq_one_iff.1 hAl
      have e : P ++ [u] ++ B ++ T = P ++ u :: B ++ T := by simp
      rw [e] at c hN
      exact K_symm1 hc ha (by rw [hm]; rfl) (by rw [hb]; rfl) hB hN (hNA u (List.mem_singleton.2 rfl)) hNB c hR
    by_cases hBl : B.length = 1
    · obtain ⟨u, rfl⟩ := List.length_eq_one_iff.1 hBl
      have e : P ++ A ++ [u] ++ T = P ++ A ++ u :: T := by simp
      rw [e] at c hN
      exact K_symm2 hc ha hm (by rw [hb]; rfl) hA (by omega) hN (hNB u (List.mem_singleton.2 rfl)) hNA c hR
    unfold F_slices_symMergeCmpFunc_api_Loc
    have e1 : bin .sub (.int .i64 zm) (.int .i64 za) = some (.int .i64 (A.length : Int)) := by rw [bin_sub, wr64 ⟨by omega, by omega⟩]; congr 2; omega
    have e2 : bin .sub (.int .i64 zb) (.int .i64 zm) = some (.int .i64 (B.length : Int)) := by rw [bin_sub, wr64 ⟨by omega, by omega⟩]; congr 2; omega
    rw [e1, vb_some, bin_eql, vb_some]
    refine brd (fun e => by omega) fun _ => ?_
    rw [e2, vb_some, bin_eql, vb_some]
    refine brd (fun e => by omega) fun _ => ?_
    have e3 : bin .add (.int .i64 za) (.int .i64 zb) = some (.int .i64 (za + zb)) := addZ ⟨by omega, by omega⟩
    rw [e3, vb_some]
    refine half_ ⟨by omega, by omega⟩ ?_
    obtain ⟨zd, hzd⟩ : ∃ zd, zd = (za + zb) / 2 := ⟨_, rfl⟩
    rw [← hzd]
    have e4 : bin .add (.int .i64 zd) (.int .i64 zm) = some (.int .i64 (zd + zm)) := addZ ⟨by omega, by omega⟩
    rw [e4, vb_some]
    -- the search's start and end
    refine Jn2.at (fun w w2 h' => ∃ (s0 r0 : Int), w = .int .i64 s0 ∧ w2 = .int .i64 r0 ∧ h' = h ∧ za ≤ s0 ∧ s0 ≤ r0 ∧ r0 ≤ zm ∧ r0 ≤ zd ∧ zd - s0 ≤ zb - zm ∧ (s0 = za ∨ zd - s0 = zb - zm) ∧ (r0 = zm ∨ r0 = zd)) ?_ ?_
    · rw [bin_gtr, vb_some]
      refine brd (fun e => ?_) fun e => ?_
      · have e5 : bin .sub (.int .i64 (zd + zm)) (.int .i64 zb) = some (.int .i64 (zd + zm - zb)) := subZ ⟨by omega, by omega⟩
        rw [e5, vb_some]
        exact ⟨_, _, rfl, rfl, rfl, by omega, by omega, by omega, by omega, by omega, .inr (by omega), .inr rfl⟩
      · exact ⟨_, _, rfl, rfl, rfl, by omega, by omega, by omega, by omega, by omega, .inl rfl, .inl rfl⟩
    rintro w w2 h1 ⟨s0, r0, rfl, rfl, rfl, hs1, hs2, hs3, hs4, hs5, hs6, hs7⟩
    have e6 : bin .sub (.int .i64 (zd + zm)) (.int .i64 1) = some (.int .i64 (zd + zm - 1)) := subZ ⟨by omega, by omega⟩
    rw [e6, vb_some]
    -- how an element of either range is read
    refine Lp2.by (fun (z : α × Int × Int) w w2 h' => w = .int .i64 z.2.1 ∧ w2 = .int .i64 z.2.2 ∧ s0 ≤ z.2.1 ∧ z.2.1 ≤ z.2.2 ∧ z.2.2 ≤ r0 ∧
        (z.2.1 = s0 ∨ ∃ a b, A[(z.2.1 - 1 - za).toNat]? = some a ∧ B[(zd - z.2.1).toNat]? = some b ∧ lt b a = false) ∧ (z.2.2 = r0 ∨ ∃ a b, A[(z.2.2 - za).toNat]? = some a ∧ B[(zd - z.2.2 - 1).toNat]? = some b ∧ lt b a = true) ∧ Cx F0 h0 h' [rSl EI1 v (P ++ A ++ B ++ T), Z z.1]) (fun z => (z.2.2 - z.2.1).toNat) (x, s0, r0)
      ⟨rfl, rfl, Int.le_refl _, hs2, Int.le_refl _, .inl rfl, .inl rfl, c⟩ ?_
    clear c
    rintro ⟨x, s, r⟩ w w2 h2 ⟨rfl, rfl, hs, hsr, hr, hl1, hl2, c⟩ again hagain
    dsimp only at *
    rw [bin_lss, vb_some]
    refine brd (fun e => ?_) fun e => ?_
    · have e7 : bin .add (.int .i64 s) (.int .i64 r) = some (.int .i64 (s + r)) := addZ ⟨by omega, by omega⟩
      rw [e7, vb_some]
      refine half_ ⟨by omega, by omega⟩ ?_
      obtain ⟨q, hq⟩ : ∃ q, q = (s + r) / 2 := ⟨_, rfl⟩
      rw [← hq]
      have hq1 : s ≤ q := by omega
      have hq2 : q < r := by omega
      have e8 : bin .sub (.int .i64 (zd + zm - 1)) (.int .i64 q) = some (.int .i64 (zd + zm - 1 - q)) := subZ ⟨by omega, by omega⟩
      rw [e8, vb_some]
      have ia : (q - za).toNat < A.length := by omega
      have ib : (zd - 1 - q).toNat < B.length := by omega
      have ga : A[(q - za).toNat]? = some (A[(q - za).toNat]) := List.getElem?_eq_getElem ia
      have gb : B[(zd - 1 - q).toNat]? = some (B[(zd - 1 - q).toNat]) := List.getElem?_eq_getElem ib
      have na := hNA _ (List.getElem_mem ia)
      have nb := hNB _ (List.getElem_mem ib)
      generalize A[(q - za).toNat] = a at *
      generalize B[(zd - 1 - q).toNat] = b at *
      refine (c.sl (i := 0) rfl).sl.one rfl (get_b gb) (z := zd + zm - 1 - q) (by omega) rfl ?_
      refine (c.sl (i := 0) rfl).sl.one rfl (get_a ga) (z := q) (by omega) rfl ?_
      refine call_ hc c nb na fun x' z h3 hz c => ?_
      rw [bin_lss, vb_some, uno_nb', vb_some]
      cases hl : lt b a with
      | true =>
        rw [decide_eq_true (hz.2 hl), Bool.not_true, br_false]
        refine hagain (x', s, q) _ _ _ ⟨rfl, rfl, hs, by dsimp only; omega, by dsimp only; omega, hl1, .inr ⟨a, b, ga, ?_, hl⟩, c⟩ (by dsimp only; omega)
        rw [show (zd - (x', s, q).2.2 - 1).toNat = (zd - 1 - q).toNat by dsimp only; omega]; exact gb
      | false =>
        rw [decide_eq_false (fun h => by rw [hz.1 h] at hl; cases hl), Bool.not_false, br_true]
        rw [show bin .add (.int .i64 q) (.int .i64 1) = some (.int .i64 (q + 1)) from addZ ⟨by omega, by omega⟩, vb_some]
        refine hagain (x', q + 1, r) _ _ _ ⟨rfl, rfl, by dsimp only; omega, by dsimp only; omega, hr, .inr ⟨a, b, ?_, ?_, hl⟩, hl2, c⟩ (by dsimp only; omega)
        · rw [show ((x', q + 1, r).2.1 - 1 - za).toNat = (q - za).toNat by dsimp only; omega]; exact ga
        · rw [show (zd - (x', q + 1, r).2.1).toNat = (zd - 1 - q).toNat by dsimp only; omega]; exact gb
    · have e : s = r := by omega
      subst e
      clear hagain again
      have e7 : bin .sub (.int .i64 (zd + zm)) (.int .i64 s) = some (.int .i64 (zd + zm - s)) := subZ ⟨by omega, by omega⟩
      rw [e7, vb_some]
      obtain ⟨ns, hns⟩ : ∃ ns : Nat, (ns : Int) = s - za := ⟨(s - za).toNat, by omega⟩
      obtain ⟨nt, hnt⟩ : ∃ nt : Nat, (nt : Int) = zd - s := ⟨(zd - s).toNat, by omega⟩
      have lA : ns ≤ A.length := by omega
      have lB : nt ≤ B.length := by omega
      have hbd := split_bound hc.swo hA hB lA lB (fun s' a b e8 e9 e10 => by
        rcases hl1 with h | ⟨a', b', h1, h2, h3⟩
        · exfalso
          rcases hs6 with h4 | h4
          · omega
          · rw [List.getElem?_eq_none (by omega)] at e10; cases e10
        · rw [show (s - 1 - za).toNat = s' by omega, e9] at h1
          rw [show (zd - s).toNat = nt by omega, e10] at h2
          injection h1 with h1; injection h2 with h2
          subst h1; subst h2; exact h3) (fun t' a b e8 e9 e10 => by
        rcases hl2 with h | ⟨a', b', h1, h2, h3⟩
        · exfalso
          rcases hs7 with h4 | h4
          · rw [List.getElem?_eq_none (by omega)] at e9; cases e9
          · omega
        · rw [show (s - za).toNat = ns by omega, e9] at h1
          rw [show (zd - s - 1).toNat = t' by omega, e10] at h2
          injection h1 with h1; injection h2 with h2
          subst h1; subst h2; exact lt_asymm hc.swo h3)
      have hA12 : A.take ns ++ A.drop ns = A := List.take_append_drop _ _
      have hB12 : B.take nt ++ B.drop nt = B := List.take_append_drop _ _
      have sA1 := hA.take (n := ns); have sA2 := hA.drop (n := ns); have sB1 := hB.take (n := nt); have sB2 := hB.drop (n := nt)
      have nA1 : ∀ y ∈ A.take ns, N y := fun y hy => hNA y (List.mem_of_mem_take hy)
      have nA2 : ∀ y ∈ A.drop ns, N y := fun y hy => hNA y (List.mem_of_mem_drop hy)
      have nB1 : ∀ y ∈ B.take nt, N y := fun y hy => hNB y (List.mem_of_mem_take hy)
      have nB2 : ∀ y ∈ B.drop nt, N y := fun y hy => hNB y (List.mem_of_mem_drop hy)
      have lA1 : (A.take ns).length = ns := by rw [List.length_take]; omega
      have lA2 : (A.drop ns).length = A.length - ns := List.length_drop
      have lB1 : (B.take nt).length = nt := by rw [List.length_take]; omega
      have lB2 : (B.drop nt).length = B.length - nt := List.length_drop
      have c : Cx F0 h0 h2 [rSl EI1 v (P ++ A.take ns ++ A.drop ns ++ B.take nt ++ B.drop nt ++ T), Z x] := by
        have : P ++ A.take ns ++ A.drop ns ++ B.take nt ++ B.drop nt ++ T = P ++ (A.take ns ++ A.drop ns) ++ (B.take nt ++ B.drop nt) ++ T := by simp only [List.append_assoc]
        rw [this, hA12, hB12]; exact c
      have fin : ∀ x' C1 C2 h', C1.Perm (A.take ns ++ B.take nt) → C2.Perm (A.drop ns ++ B.drop nt) → Srt lt C1 → Srt lt C2 → Cx F0 h0 h' [rSl EI1 v (P ++ C1 ++ C2 ++ T), Z x'] → R (.tuple #[]) h' := fun x' C1 C2 h' p1 p2 h1 h2 c => by
        refine hR x' (C1 ++ C2) h' (split_perm p1 p2) (split_srt p1 p2 h1 h2 hbd) ?_
        rw [← List.append_assoc]; exact c
      clear hR hl1 hl2
      generalize A.take ns = A1 at *
      generalize A.drop ns = A2 at *
      generalize B.take nt = B1 at *
      generalize B.drop nt = B2 at *
      -- turned
      refine Jn0.at (fun h' => Cx F0 h0 h' [rSl EI1 v (P ++ A1 ++ B1 ++ A2 ++ B2 ++ T), Z x]) ?_ ?_
      · refine Jn1.at (fun w h' => w = .bool (decide (s < zm ∧ zm < zd + zm - s)) ∧ h' = h2) ?_ ?_
        · rw [bin_lss, vb_some]
          refine brd (fun e => ?_) fun e => ?_
          · rw [bin_lss, vb_some]
            refine ⟨?_, rfl⟩
            congr 1
            exact decide_eq_decide.2 ⟨fun h => ⟨e, h⟩, fun h => h.2⟩
          · exact ⟨by rw [decide_eq_false fun h => e h.1], rfl⟩
        rintro w h3 ⟨rfl, rfl⟩
        refine brd (fun e => ?_) fun e => ?_
        · have c : Cx F0 h0 h3 (rSl EI1 v ((P ++ A1) ++ A2 ++ B1 ++ (B2 ++ T)) :: [Z x]) := by rw [← List.append_assoc]; exact c
          refine cs.rot (P := P ++ A1) (X := A2) (Y := B1) (T := B2 ++ T) (by rw [List.length_append]; omega) (by rw [List.length_append]; omega) (by rw [List.length_append]; omega) (by omega) (by omega) (by simp only [List.length_append] at *; omega) c fun h4 c => ?_
          rw [← List.append_assoc] at c; exact c
        · have : A2 = [] ∨ B1 = [] := by
            rcases Nat.eq_zero_or_pos A2.length with h | h
            · exact .inl (List.eq_nil_of_length_eq_zero h)
            · exact .inr (List.eq_nil_of_length_eq_zero (by omega))
          rcases this with h | h
          · subst h; simpa using c
          · subst h; simpa using c
      clear c
      intro h3 c
      -- the left part
      refine Jn0.at (fun h' => ∃ x' C1, C1.Perm (A1 ++ B1) ∧ Srt lt C1 ∧ Cx F0 h0 h' [rSl EI1 v (P ++ C1 ++ A2 ++ B2 ++ T), Z x']) ?_ ?_
      · refine Jn1.at (fun w h' => w = .bool (decide (za < s ∧ s < zd)) ∧ h' = h3) ?_ ?_
        · rw [bin_lss, vb_some]
          refine brd (fun e => ?_) fun e => ?_
          · rw [bin_lss, vb_some]
            refine ⟨?_, rfl⟩
            congr 1
            exact decide_eq_decide.2 ⟨fun h => ⟨e, h⟩, fun h => h.2⟩
          · exact ⟨by rw [decide_eq_false fun h => e h.1], rfl⟩
        rintro w h4 ⟨rfl, rfl⟩
        refine brd (fun e => ?_) fun e => ?_
        · have c : Cx F0 h0 h4 [rSl EI1 v (P ++ A1 ++ B1 ++ (A2 ++ B2 ++ T)), Z x] := by
            have : P ++ A1 ++ B1 ++ (A2 ++ B2 ++ T) = P ++ A1 ++ B1 ++ A2 ++ B2 ++ T := by simp only [List.append_assoc]
            rw [this]; exact c
          refine symm_ cs hc f P A1 B1 (A2 ++ B2 ++ T) x za s zd h4 _ (by omega) ha (by omega) (by omega) sA1 sB1 (by omega) (by omega) (by simp only [List.length_append] at *; omega) nA1 nB1 c fun x' C h5 hp hs c => ?_
          refine ⟨x', C, hp, hs, ?_⟩
          have : P ++ C ++ A2 ++ B2 ++ T = P ++ C ++ (A2 ++ B2 ++ T) := by simp only [List.append_assoc]
          rw [this]; exact c
        · refine ⟨x, A1 ++ B1, .refl _, ?_, by rw [← List.append_assoc]; exact c⟩
          rcases Nat.eq_zero_or_pos A1.length with h | h
          · rw [List.eq_nil_of_length_eq_zero h]; exact sB1
          · have : B1 = [] := List.eq_nil_of_length_eq_zero (by omega)
            rw [this, List.append_nil]; exact sA1
      clear c
      rintro h4 ⟨x1, C1, hp1, hs1', c⟩
      -- the right part
      have lC1 : C1.length = ns + nt := by rw [hp1.length_eq, List.length_append]; omega
      refine Jn1.at (fun w h' => w = .bool (decide (zd < zd + zm - s ∧ zd + zm - s < zb)) ∧ h' = h4) ?_ ?_
      · rw [bin_lss, vb_some]
        refine brd (fun e => ?_) fun e => ?_
        · rw [bin_lss, vb_some]
          refine ⟨?_, rfl⟩
          congr 1
          exact decide_eq_decide.2 ⟨fun h => ⟨e, h⟩, fun h => h.2⟩
        · exact ⟨by rw [decide_eq_false fun h => e h.1], rfl⟩
      rintro w h5 ⟨rfl, rfl⟩
      refine brd (fun e => ?_) fun e => ?_
      · refine symm_ cs hc f (P ++ C1) A2 B2 T x1 zd (zd + zm - s) zb h5 _ (by omega) (by rw [List.length_append]; omega) (by rw [List.length_append]; omega) (by rw [List.length_append]; omega) sA2 sB2 (by omega) (by omega) (by simp only [List.length_append] at *; omega) nA2 nB2 c fun x' C h6 hp hs c => ?_
        exact fin x' C1 C h6 hp1 hp hs1' hs c
      · refine fin x1 C1 (A2 ++ B2) h5 hp1 (.refl _) hs1' ?_ (by rw [← List.append_assoc]; exact c)
        rcases Nat.eq_zero_or_pos A2.length with h | h
        · rw [List.eq_nil_of_length_eq_zero h]; exact sB2
        · have : B2 = [] := List.eq_nil_of_length_eq_zero (by omega)
          rw [this, List.append_nil]; exact sA2
end
end Go.En
namespace Go.En
open Prog Spc Go.Sort

variable {S : Sys} {I : Ids} {h h0 h' : Hp} {F F0 : Fp} {R : Value → Hp → Prop} {L : List Res}
theorem swp_in {e : Array Int} {i j : Nat} (hi : i < e.size) (hj : j < e.size) {y : Int} (hy : y ∈ (Go.Sort.swp e i j).toList) : y ∈ e.toList := by
  have h1 : e[i]! ∈ e.toList := List.mem_of_getElem? (dget hi)
  have h2 : e[j]! ∈ e.toList := List.mem_of_getElem? (dget hj)
  rw [swp_list] at hy
  rcases List.mem_or_eq_of_mem_set hy with h | h
  · rcases List.mem_or_eq_of_mem_set h with h | h
    · exact h
    · rw [h]; exact h2
  · rw [h]; exact h1
structure CsZ2 (S : Sys) (I : Ids) : Prop extends CsZ1 S I where
  insc : ∀ {a b c d : Value} {h R}, F_slices_insertionSortCmpFunc_api_Loc S I a b c d h R → S.C I.f_slices_insertionSortCmpFunc_api_Loc [a, b, c, d] h R
  stab : ∀ {a b c : Value} {h R}, F_slices_stableCmpFunc_api_Loc S I a b c h R → S.C I.f_slices_stableCmpFunc_api_Loc [a, b, c] h R
section
variable {α : Type} {Z : α → Res} {v fn : Value} {N : Int → Prop} {lt : Int → Int → Bool} {x : α}
theorem K_insC {d : Array Int} {a b : Nat} (hc : CmpOK S Z fn N lt) (hab : a ≤ b) (hb : b ≤ d.size) (hsz : d.size ≤ 1000000) (hNd : ∀ y ∈ d.toList, N y) (c : Cx F h0 h [rD v d, Z x]) (hR : ∀ x' h', Cx F h0 h' [rD v (insertionSort lt d a b), Z x'] → R (.tuple #[]) h') :
    F_slices_insertionSortCmpFunc_api_Loc S I v (.int .i64 a) (.int .i64 b) fn h R := by
  unfold F_slices_insertionSortCmpFunc_api_Loc
  rw [bin_add, vb_some, wrS (by omega)]
  refine Lp1.by (fun (z : α × Nat × Array Int) u h' => u = .int .i64 z.2.1 ∧ a + 1 ≤ z.2.1 ∧ z.2.2.size = d.size ∧ (∀ y ∈ z.2.2.toList, N y) ∧ insOuter lt a b z.2.1 z.2.2 = insertionSort lt d a b ∧ Cx F h0 h' [rD v z.2.2, Z z.1]) (fun z => b - z.2.1) (x, a + 1, d) ⟨rfl, Nat.le_refl _, rfl, hNd, rfl, c⟩ ?_
  clear c
  rintro ⟨x, i, e⟩ u h1 ⟨rfl, hi, hs, hNe, hout, c⟩ again hagain
  dsimp only at *
  rw [bin_lss, vb_some]
  refine brd (fun h2 => ?_) fun h2 => ?_
  · rw [insOuter, if_pos (by omega)] at hout
    refine Lp1.by (fun (z : α × Nat × Array Int) u h' => u = .int .i64 z.2.1 ∧ z.2.1 ≤ i ∧ z.2.2.size = d.size ∧ (∀ y ∈ z.2.2.toList, N y) ∧ insOuter lt a b (i + 1) (insInner lt a z.2.1 z.2.2) = insertionSort lt d a b ∧ Cx F h0 h' [rD v z.2.2, Z z.1]) (fun z => z.2.1) (x, i, e) ⟨rfl, Nat.le_refl _, hs, hNe, hout, c⟩ ?_
    clear c hout hNe hs e x
    rintro ⟨x, j, e⟩ u h3 ⟨rfl, hj, hs, hNe, hin, c⟩ again2 hagain2
    dsimp only at *
    have stop : ∀ x' h', insInner lt a j e = e → Cx F h0 h' [rD v e, Z x'] → Vb (bin .add (.int .i64 (i : Int)) (.int .i64 1)) fun w => again w h' := by
      intro x' h' e1 c
      rw [bin_add, vb_some, wrS (by omega)]
      rw [e1] at hin
      exact hagain (x', i + 1, e) _ _ ⟨rfl, by dsimp only; omega, hs, hNe, hin, c⟩ (by dsimp only; omega)
    refine Jn1.at (fun w h' => ∃ x', w = .bool (decide (a < j) && lt e[j]! e[j - 1]!) ∧ Cx F h0 h' [rD v e, Z x']) ?_ ?_
    · rw [bin_gtr, vb_some]
      refine brd (fun h4 => ?_) fun h4 => ?_
      · have h4 : a < j := by omega
        refine c.rd 0 rfl (n := j) rfl (by omega) ?_
        rw [bin_sub, vb_some, wr64 (n := (j : Int) - 1) (by omega)]
        refine c.rd 0 rfl (n := j - 1) (by omega) (by omega) ?_
        refine call_ hc c (hNe _ (List.mem_of_getElem? (dget (by omega)))) (hNe _ (List.mem_of_getElem? (dget (by omega)))) fun x' z h5 hz c => ?_
        rw [bin_lss, vb_some]
        refine ⟨x', ?_, c⟩
        rw [decide_eq_true h4, Bool.true_and]
        cases hl : lt e[j]! e[j - 1]! with
        | true => rw [decide_eq_true (hz.2 hl)]
        | false => rw [decide_eq_false fun h => by rw [hz.1 h] at hl; cases hl]
      · exact ⟨x, by rw [decide_eq_false (by omega), Bool.false_and], c⟩
    clear c
    rintro w h5 ⟨x', rfl, c⟩
    cases hb2 : (decide (a < j) && lt e[j]! e[j - 1]!) with
    | true =>
      rw [Bool.and_eq_true, decide_eq_true_eq] at hb2
      rw [br_true]
      obtain ⟨j, rfl⟩ : ∃ j', j = j' + 1 := ⟨j - 1, by omega⟩
      rw [show j + 1 - 1 = j by omega] at hb2
      have e6 : bin .sub (.int .i64 ((j + 1 : Nat) : Int)) (.int .i64 1) = some (.int .i64 (j : Int)) := by rw [bin_sub, wr64 ⟨by omega, by omega⟩]; congr 2; omega
      simp only [e6, vb_some]
      refine c.swp 0 rfl (zx := ((j + 1 : Nat) : Int)) (zy := (j : Int)) (x := j + 1) (y := j) rfl rfl (by omega) (by omega) fun h6 c => ?_
      refine hagain2 (x', j, Go.Sort.swp e (j + 1) j) _ _ ⟨rfl, by dsimp only; omega, by rw [swp_size, hs], fun y hy => hNe y (swp_in (by omega) (by omega) hy), ?_, c⟩ (by dsimp only; omega)
      rw [insInner, if_pos (by rw [hb2.2]; simp; omega)] at hin
      exact hin
    | false =>
      rw [br_false]
      refine stop x' h5 ?_ c
      cases j with
      | zero => rfl
      | succ j =>
        rw [insInner, if_neg]
        intro h
        rw [show j + 1 - 1 = j by omega] at hb2
        simp only [Bool.and_eq_true, decide_eq_true_eq] at h
        rw [h.2, decide_eq_true (by omega)] at hb2
        cases hb2
  · rw [insOuter, if_neg (by omega)] at hout
    rw [← hout] at hR
    exact hR x _ c
theorem srt_of {d : Array Int} {a b : Nat} (h : SortedIn lt a b d) (hb : b ≤ d.size) : Srt lt ((d.toList.take b).drop a) := by
  unfold Srt
  rw [List.pairwise_iff_getElem]
  intro i j hi hj hij
  simp only [List.length_drop, List.length_take, Array.length_toList] at hi hj
  have := h (a + i) (a + j) (by omega) (by omega) (by omega)
  rw [getElem!_pos d (a + i) (by omega), getElem!_pos d (a + j) (by omega)] at this
  simpa using this
theorem perm_of {d d' : Array Int} {a b : Nat} (h : PermIn a b d d') (hb : b ≤ d.size) : d'.toList.Perm d.toList := by
  have h2 := permIn_mono d d' a b 0 d.size (Nat.zero_le _) hb (Nat.le_refl _) h
  obtain ⟨h3, _, h4⟩ := h2
  rw [← h3] at h4
  have e1 : d'.extract 0 d'.size = d' := Array.extract_size
  rw [e1, h3] at h4
  have e2 : d.extract 0 d.size = d := Array.extract_size
  rw [e2] at h4
  exact h4
set_option maxHeartbeats 1600000 in
theorem K_sortC {d : List Int} (cs : CsZ2 S I) (hc : CmpOK S Z fn N lt) (hsz : d.length ≤ 32) (hNd : ∀ y ∈ d, N y) (c : Cx F h0 h [rSl EI1 v d, Z x]) (hR : ∀ x' C h', C.Perm d → Srt lt C → Cx F h0 h' [rSl EI1 v C, Z x'] → R (.tuple #[]) h') :
    F_slices_SortStableFunc_api_Loc_api_Loc S I v fn h R := by
  unfold F_slices_SortStableFunc_api_Loc_api_Loc
  rw [(c.sl (i := 0) rfl).sl.ln, vb_some]
  refine cs.stab ?_
  unfold F_slices_stableCmpFunc_api_Loc
  obtain ⟨d, rfl⟩ : ∃ e : Array Int, d = e.toList := ⟨d.toArray, by simp⟩
  rw [Array.length_toList] at *
  have c : Cx F h0 h [rD v d, Z x] := c
  -- behind the second insertion
  have tail : ∀ (a : Nat) (x : α) (e : Array Int) (h1 : Hp), a ≤ d.size → (a = 0 ∧ d.size < 20 ∨ a = 20) → e.size = d.size → e.toList.Perm d.toList → SortedIn lt 0 a e → Cx F h0 h1 [rD v e, Z x] → S.C I.f_slices_insertionSortCmpFunc_api_Loc [v, .int .i64 (a : Int), .int .i64 (d.size : Int), fn] h1 fun _ h3 =>
      Lp1 (Value.int IntKind.i64 20) h3 fun blockSize6 h4 again1 =>
        Vb (bin .lss blockSize6 (.int .i64 (d.size : Int))) fun v30 =>
        Br v30 (
          Vb (bin .mul (Value.int IntKind.i64 2) blockSize6) fun v32 =>
          Lp2 (Value.int IntKind.i64 0) v32 h4 fun a7_1 b8_1 h5 again2 =>
          Vb (bin .leq b8_1 (.int .i64 (d.size : Int))) fun v35 =>
          Br v35 (
            Vb (bin .add a7_1 blockSize6) fun v40 =>
            S.C I.f_slices_symMergeCmpFunc_api_Loc [v, a7_1, v40, b8_1, fn] h5 fun v43 h6 =>
            Vb (bin .mul (Value.int IntKind.i64 2) blockSize6) fun v47 =>
            Vb (bin .add b8_1 v47) fun v48 =>
            again2 b8_1 v48 h6) (
            Jn0 (fun h7 =>
                Vb (bin .mul blockSize6 (Value.int IntKind.i64 2)) fun v62 =>
                again1 v62 h7) fun J0 =>
            Vb (bin .add a7_1 blockSize6) fun v51 =>
            Vb (bin .lss v51 (.int .i64 (d.size : Int))) fun v54 =>
            Br v54 (
              S.C I.f_slices_symMergeCmpFunc_api_Loc [v, a7_1, v51, .int .i64 (d.size : Int), fn] h5 fun v60 h8 =>
              J0 h8) (
              J0 h5))) (
          R (.tuple #[]) h4) := by
    intro a x e h1 ha hcase hes hep hsrt c
    refine cs.insc ?_
    refine K_insC hc (by omega) (by omega) (by omega) (fun y hy => hNd y (hep.mem_iff.1 hy)) c fun x' h2 c => ?_
    obtain ⟨p2, s2⟩ := insertionSort_holds hc.swo e a d.size ha (by omega)
    have hp2 := perm_of p2 (by omega)
    have sz2 : (insertionSort lt e a d.size).size = d.size := by rw [p2.1, hes]
    have s0 : SortedIn lt 0 a (insertionSort lt e a d.size) := fun i j i0 ij ja => by
      rw [p2.2.1 i (.inl (by omega)), p2.2.1 j (.inl (by omega))]
      exact hsrt i j i0 ij ja
    generalize insertionSort lt e a d.size = g at *
    have hgp : g.toList.Perm d.toList := hp2.trans hep
    by_cases hn : d.size ≤ 20
    · refine Lp1.by (fun (_ : Unit) w h' => w = .int .i64 20 ∧ h' = h2) (fun _ => 0) () ⟨rfl, rfl⟩ ?_
      rintro _ w h3 ⟨rfl, rfl⟩ again1 _
      rw [bin_lss, vb_some]
      refine brd (fun h => by omega) fun _ => ?_
      refine hR x' g.toList h3 hgp ?_ c
      rcases hcase with ⟨ha0, _⟩ | ha20
      · have := srt_of s2 (by omega)
        rw [ha0, List.drop_zero, List.take_of_length_le (by rw [Array.length_toList]; omega)] at this
        exact this
      · have := srt_of s0 (by omega)
        rw [List.drop_zero, List.take_of_length_le (by rw [Array.length_toList]; omega)] at this
        exact this
    · have ha20 : a = 20 := by omega
      subst ha20
      have sA : Srt lt (g.toList.take 20) := by simpa using srt_of s0 (by omega)
      have sB : Srt lt (g.toList.drop 20) := by
        have := srt_of s2 (by omega)
        rwa [List.take_of_length_le (by rw [Array.length_toList]; omega)] at this
      have lA : (g.toList.take 20).length = 20 := by rw [List.length_take, Array.length_toList]; omega
      have lB : (g.toList.drop 20).length = d.size - 20 := by rw [List.length_drop, Array.length_toList]; omega
      have hAB : g.toList.take 20 ++ g.toList.drop 20 = g.toList := List.take_append_drop _ _
      have hNg : ∀ y ∈ g.toList, N y := fun y hy => hNd y (hgp.mem_iff.1 hy)
      refine Lp1.by (fun (z : Bool × α × List Int) w h' => w = .int .i64 (if z.1 then 40 else 20) ∧ (z.1 = false → z.2.2 = g.toList) ∧ (z.1 = true → z.2.2.Perm d.toList ∧ Srt lt z.2.2) ∧ Cx F h0 h' [rSl EI1 v z.2.2, Z z.2.1]) (fun z => if z.1 then 0 else 1) (false, x', g.toList) ⟨rfl, fun _ => rfl, (fun h => by cases h), c⟩ ?_
      clear c
      rintro ⟨t, x2, l⟩ w h3 ⟨rfl, hf, ht, c⟩ again1 hagain1
      dsimp only at *
      cases t with
      | true =>
        rw [if_pos rfl, bin_lss, vb_some]
        refine brd (fun h => by omega) fun _ => ?_
        exact hR x2 l h3 (ht rfl).1 (ht rfl).2 c
      | false =>
        have hl := hf rfl
        subst hl
        rw [if_neg (by simp), bin_lss, vb_some]
        refine brd (fun _ => ?_) fun h => by omega
        rw [show bin .mul (.int .i64 2) (.int .i64 20) = some (.int .i64 40) by rw [bin_mul, wr64 ⟨by decide, by decide⟩]; rfl, vb_some]
        refine Lp2.by (fun (_ : Unit) w w2 h' => w = .int .i64 0 ∧ w2 = .int .i64 40 ∧ h' = h3) (fun _ => 0) () ⟨rfl, rfl, rfl⟩ ?_
        rintro _ w w2 h4 ⟨rfl, rfl, rfl⟩ again2 _
        rw [bin_leq, vb_some]
        refine brd (fun h => by omega) fun _ => ?_
        refine .here ?_
        rw [show bin .add (.int .i64 0) (.int .i64 20) = some (.int .i64 20) by rw [bin_add, wr64 ⟨by decide, by decide⟩]; rfl, vb_some, bin_lss, vb_some]
        refine brd (fun _ => ?_) fun h => by omega
        have c : Cx F h0 h4 [rSl EI1 v ([] ++ g.toList.take 20 ++ g.toList.drop 20 ++ []), Z x2] := by
          rw [List.nil_append, List.append_nil, hAB]; exact c
        refine symm_ cs.toCsZ1 hc _ [] (g.toList.take 20) (g.toList.drop 20) [] x2 0 20 d.size h4 _ (Nat.le_refl _) rfl (by rw [lA]; rfl) (by rw [lA, lB, List.length_nil]; omega) sA sB (by omega) (by omega) (by simp only [List.length_append, List.length_nil]; omega) (fun y hy => hNg y (List.mem_of_mem_take hy)) (fun y hy => hNg y (List.mem_of_mem_drop hy)) c fun x3 C h5 hp hs c => ?_
        rw [List.nil_append, List.append_nil] at c
        rw [hAB] at hp
        rw [show bin .mul (.int .i64 20) (.int .i64 2) = some (.int .i64 40) by rw [bin_mul, wr64 ⟨by decide, by decide⟩]; rfl, vb_some]
        exact hagain1 (true, x3, C) _ _ ⟨rfl, (fun h => by cases h), fun _ => ⟨hp.trans hgp, hs⟩, c⟩ (by simp)
  refine Lp2.by (fun (z : Bool × α × Array Int) w w2 h' => w = .int .i64 (if z.1 then 20 else 0) ∧ w2 = .int .i64 (if z.1 then 40 else 20) ∧ z.2.2.size = d.size ∧ z.2.2.toList.Perm d.toList ∧ (z.1 = true → SortedIn lt 0 20 z.2.2 ∧ 20 ≤ d.size) ∧ Cx F h0 h' [rD v z.2.2, Z z.2.1]) (fun z => if z.1 then 0 else 1) (false, x, d) ⟨rfl, rfl, rfl, .refl _, (fun h => by cases h), c⟩ ?_
  clear c
  rintro ⟨t, x2, e⟩ w w2 h1 ⟨rfl, rfl, hes, hep, ht, c⟩ again hagain
  dsimp only at *
  cases t with
  | false =>
    rw [if_neg (by simp), if_neg (by simp), bin_leq, vb_some]
    refine brd (fun h20 => ?_) fun h20 => ?_
    · refine cs.insc ?_
      refine K_insC (a := 0) (b := 20) hc (by omega) (by omega) (by omega) (fun y hy => hNd y (hep.mem_iff.1 hy)) c fun x' h2 c => ?_
      obtain ⟨p2, s2⟩ := insertionSort_holds hc.swo e 0 20 (by omega) (by omega)
      rw [show bin .add (.int .i64 20) (.int .i64 20) = some (.int .i64 40) by rw [bin_add, wr64 ⟨by decide, by decide⟩]; rfl, vb_some]
      exact hagain (true, x', insertionSort lt e 0 20) _ _ _ ⟨rfl, rfl, by dsimp only; rw [p2.1, hes], (perm_of p2 (by omega)).trans hep, fun _ => ⟨s2, by omega⟩, c⟩ (by simp)
    · exact tail 0 x2 e h1 (Nat.zero_le _) (.inl ⟨rfl, by omega⟩) hes hep (fun i j _ _ h => by omega) c
  | true =>
    obtain ⟨hs, h20⟩ := ht rfl
    rw [if_pos rfl, if_pos rfl, bin_leq, vb_some]
    refine brd (fun h => by omega) fun _ => ?_
    exact tail 20 x2 e h1 h20 (.inr rfl) hes hep hs c
end
end Go.En
