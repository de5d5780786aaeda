/-
  slices.Sort: the data; insertion.
  slices.Sort: the heap, the reversal, the partitions.
  slices.Sort: the partitions.
  slices.Sort: the partial insertion; the pivot; the patterns.
  slices.Sort: the pivot and the patterns, as far as it matters; the whole.
  slices.Sort: the pivot, the patterns (as far as the whole needs them).
  slices.Sort: the recursion; the whole.
  slices.Compact, as Writes needs it.
  Entries and their check.
  Reads, Writes, Entries of a space.
  Spaces over the first n words, their entries; steps in a context.
  What any program keeps of a space; how many words it reads.
  A program on a space that knows less; several resources framed at once.
-/
import Derived.Test.YtjnpmadojjfkpaaGreatXD
import Derived.Sort.AssemblyPlain
import Derived.Test.YtjnpmadojjfkpaaGreatXC
namespace Go.En
open Prog Spc Go.Sort

variable {S : Sys} {I : Ids} {h h0 h' : Hp} {F F0 : Fp} {R : Value → Hp → Prop} {L : List Res}

/-- the data that are sorted -/
abbrev rD (v : Value) (d : Array Int) : Res := rSl EI1 v d.toList
theorem dget {d : Array Int} {n : Nat} (h : n < d.size) : d.toList[n]? = some d[n]! := by
  rw [Array.getElem?_toList, getElem!_pos d n h, Array.getElem?_eq_getElem h]
theorem Cx.rd {v : Value} {d : Array Int} (c : Cx F0 h0 h L) (i : Nat) (hi : L[i]? = some (rD v d)) {z : Int} {n : Nat} {q : IntKind} (hz : z = n) (hn : n < d.size) {k : Value → Prop} (hk : k (.int .i64 d[n]!)) :
    Vb (ixs 1 v (.int q z)) fun p => Vb (ldc p h) k := (c.sl hi).sl.one rfl (dget hn) hz rfl hk
theorem Cx.wr {α : Type} {E : Enc α} {v : Value} {xs : List α} (c : Cx F0 h0 h L) (i : Nat) (hi : L[i]? = some (rSl E v xs)) {z : Int} {n : Nat} {q : IntKind} (hz : z = n) (hn : n < xs.length) (y : α) (h1 : E.n = 1) {w : Value} (hw : E.c y = [w]) {k : Hp → Prop}
    (hk : ∀ h', Cx F0 h0 h' (L.set i (rSl E v (xs.set n y))) → k h') : Vb (ixs 1 v (.int q z)) fun p => Sb (En.sto 1 p w h) k := by
  obtain ⟨F, ⟨o, hf⟩, up⟩ := c.upd hi
  exact o.set1 hn y h1.symm h1 hz hw fun h' o' ch => hk h' (up (F' := F) ⟨o', hf⟩ (mv_same (ch.mono fun q _ e => (hf q).2 e)))
theorem swp_list (d : Array Int) (x y : Nat) : (swp d x y).toList = (d.toList.set x d[y]!).set y d[x]! := by
  unfold swp; rw [Array.toList_setIfInBounds, Array.toList_setIfInBounds]
theorem swp_size (d : Array Int) (x y : Nat) : (swp d x y).size = d.size := by unfold swp; simp
/-- two elements are exchanged -/
theorem Cx.swp {v : Value} {d : Array Int} (c : Cx F0 h0 h L) (i : Nat) (hi : L[i]? = some (rD v d)) {zx zy : Int} {x y : Nat} (hzx : zx = x) (hzy : zy = y) (hx : x < d.size) (hy : y < d.size) {k : Hp → Prop}
    (hk : ∀ h', Cx F0 h0 h' (L.set i (rD v (Go.Sort.swp d x y))) → k h') :
    Vb (ixs 1 v (.int .i64 zy)) fun p => Vb (ldc p h) fun a => Vb (ixs 1 v (.int .i64 zx)) fun q => Vb (ldc q h) fun b => Vb (ixs 1 v (.int .i64 zx)) fun r => Sb (En.sto 1 r a h) fun h4 => Vb (ixs 1 v (.int .i64 zy)) fun t => Sb (En.sto 1 t b h4) k := by
  refine c.rd i hi hzy hy (c.rd i hi hzx hx ?_)
  refine c.wr i hi hzx (by simpa using hx) d[y]! rfl rfl fun h1 c1 => ?_
  have hi1 : (L.set i (rSl EI1 v (d.toList.set x d[y]!)))[i]? = some (rSl EI1 v (d.toList.set x d[y]!)) := by
    rw [List.getElem?_set_self (List.getElem?_eq_some_iff.1 hi).1]
  refine c1.wr i hi1 hzy (by simpa using hy) d[x]! rfl rfl fun h2 c2 => hk h2 ?_
  rw [List.set_set] at c2
  unfold rD
  rw [swp_list]
  exact c2

structure CsS0 (S : Sys) (I : Ids) : Prop where
  less : ∀ {x y : Int}, Pur S I.f_cmp_Less_api_Loc [.int .i64 x, .int .i64 y] (.bool (ltInt x y))
structure CsN (S : Sys) (I : Ids) : Prop where
  nan : ∀ {x : Int}, Pur S I.f_cmp_isNaN_api_Loc [.int .i64 x] (.bool false)
theorem K_isNaN {x : Int} : ∀ h R, Cx (fun _ => False) h h [] → (∀ h' M, Cx (fun _ => False) h h' M → R (.bool false) h') → F_cmp_isNaN_api_Loc S I (.int .i64 x) h R := by
  intro h R c hR
  unfold F_cmp_isNaN_api_Loc
  simp only [go_sem, ne_eq, not_true_eq_false, decide_false]
  exact hR _ _ c
theorem K_Less (cs : CsN S I) {x y : Int} : ∀ h R, Cx (fun _ => False) h h [] → (∀ h' M, Cx (fun _ => False) h h' M → R (.bool (ltInt x y)) h') → F_cmp_Less_api_Loc S I (.int .i64 x) (.int .i64 y) h R := by
  intro h R c hR
  unfold F_cmp_Less_api_Loc
  refine .here ?_
  refine c.pur cs.nan fun h1 c => ?_
  simp only [go_sem]
  exact hR _ _ c

theorem insInner_size (lt : Int → Int → Bool) (a : Nat) : ∀ (j : Nat) (d : Array Int), (insInner lt a j d).size = d.size
  | 0, d => rfl
  | j + 1, d => by unfold insInner; split <;> simp [insInner_size lt a j, swp_size]

theorem K_insertion {v : Value} {d : Array Int} {a b : Nat} (cs : CsS0 S I) (hab : a ≤ b) (hb : b ≤ d.size) (hN : d.size ≤ 1000000) (c : Cx F h0 h [rD v d]) (hR : ∀ h', Cx F h0 h' [rD v (insertionSort ltInt d a b)] → R (.tuple #[]) h') :
    F_slices_insertionSortOrdered_api_Loc S I v (.int .i64 a) (.int .i64 b) h R := by
  unfold F_slices_insertionSortOrdered_api_Loc
  simp only [go_sem]
  rw [wrS (by omega)]
  refine Lp1.by (fun (x : Nat × Array Int) u h' => u = .int .i64 x.1 ∧ a + 1 ≤ x.1 ∧ x.2.size = d.size ∧ insOuter ltInt a b x.1 x.2 = insertionSort ltInt d a b ∧ Cx F h0 h' [rD v x.2]) (fun x => b - x.1) (a + 1, d) ⟨rfl, Nat.le_refl _, rfl, rfl, c⟩ ?_
  rintro ⟨i, e⟩ u h1 ⟨rfl, hi, hs, hout, c⟩ again hagain
  dsimp only at *
  simp only [go_sem]
  refine brd (fun h2 => ?_) fun h2 => ?_
  · rw [insOuter, if_pos (by omega)] at hout
    refine Lp1.by (fun (x : Nat × Array Int) u h' => u = .int .i64 x.1 ∧ x.1 ≤ i ∧ x.2.size = d.size ∧ insOuter ltInt a b (i + 1) (insInner ltInt a x.1 x.2) = insertionSort ltInt d a b ∧ Cx F h0 h' [rD v x.2]) (fun x => x.1) (i, e) ⟨rfl, Nat.le_refl _, hs, hout, c⟩ ?_
    rintro ⟨j, e⟩ u h3 ⟨rfl, hj, hs, hin, c⟩ again2 hagain2
    dsimp only at *
    -- the inner loop is over
    have stop : ∀ h', insInner ltInt a j e = e → Cx F h0 h' [rD v e] → again (.int .i64 (IntKind.i64.wrap ((i : Int) + 1))) h' := by
      intro h' e1 c
      rw [wrS (by omega)]
      rw [e1] at hin
      exact hagain (i + 1, e) _ _ ⟨rfl, by omega, hs, hin, c⟩ (by omega)
    refine .here ?_
    simp only [go_sem]
    refine brd (fun h4 => ?_) fun h4 => ?_
    · obtain ⟨j, rfl⟩ : ∃ j', j = j' + 1 := ⟨j - 1, by omega⟩
      refine c.rd 0 rfl (n := j + 1) rfl (by omega) ?_
      rw [wr64 (n := ((j + 1 : Nat) : Int) - 1) (by omega)]
      refine c.rd 0 rfl (n := j) (by omega) (by omega) ?_
      refine c.pur cs.less fun h5 c => ?_
      cases hlt : ltInt e[j + 1]! e[j]! with
      | true =>
        simp only [go_sem]
        refine c.swp 0 rfl (zx := ((j + 1 : Nat) : Int)) (zy := ((j + 1 : Nat) : Int) - 1) (x := j + 1) (y := j) rfl (by omega) (by omega) (by omega) fun h6 c => ?_
        refine hagain2 (j, Go.Sort.swp e (j + 1) j) _ _ ⟨by congr 1; omega, by omega, by rw [swp_size, hs], ?_, c⟩ (by omega)
        rw [insInner, if_pos (by simp [hlt]; omega)] at hin
        exact hin
      | false =>
        simp only [go_sem]
        exact stop h5 (by rw [insInner, if_neg (by simp [hlt])]) c
    · refine stop h3 ?_ c
      cases j with
      | zero => rfl
      | succ j => rw [insInner, if_neg (by simp; omega)]
  · rw [insOuter, if_neg (by omega)] at hout
    rw [← hout] at hR
    exact hR _ c
end Go.En
namespace Go.En
open Prog Spc Go.Sort

variable {S : Sys} {I : Ids} {h h0 h' : Hp} {F F0 : Fp} {R : Value → Hp → Prop} {L : List Res}

theorem siftDown_size (lt : Int → Int → Bool) (hi first : Nat) : ∀ (root : Nat) (d : Array Int), (siftDown lt hi first root d).size = d.size := by
  intro root d
  fun_induction siftDown lt hi first root d with
  | case1 => rfl
  | case2 => rfl
  | case3 _ _ _ _ _ _ ih => rw [ih, swp_size]
  | case4 => rfl
  | case5 => rfl
  | case6 _ _ _ _ _ ih => rw [ih, swp_size]

theorem K_sift {v : Value} {d : Array Int} {lo hi first : Nat} (cs : CsS0 S I) (hl : lo ≤ 1000000) (hb : first + hi ≤ d.size) (hN : d.size ≤ 1000000) (c : Cx F h0 h [rD v d]) (hR : ∀ h', Cx F h0 h' [rD v (siftDown ltInt hi first lo d)] → R (.tuple #[]) h') :
    F_slices_siftDownOrdered_api_Loc S I v (.int .i64 lo) (.int .i64 hi) (.int .i64 first) h R := by
  unfold F_slices_siftDownOrdered_api_Loc
  refine Lp1.by (fun (x : Nat × Array Int) u h' => u = .int .i64 x.1 ∧ x.1 ≤ 1000000 ∧ x.2.size = d.size ∧ siftDown ltInt hi first x.1 x.2 = siftDown ltInt hi first lo d ∧ Cx F h0 h' [rD v x.2]) (fun x => hi - x.1) (lo, d) ⟨rfl, hl, rfl, rfl, c⟩ ?_
  rintro ⟨r, e⟩ u h1 ⟨rfl, hr, hs, hout, c⟩ again hagain
  dsimp only at *
  simp only [go_sem]
  rw [wr64 (n := 2 * (r : Int)) (by omega), wr64 (n := 2 * (r : Int) + 1) (by omega)]
  refine brd (fun h2 => ?_) fun h2 => ?_
  · rw [siftDown, dif_pos (by omega)] at hout
    rw [← hout] at hR
    exact hR _ c
  · rw [wr64 (n := 2 * (r : Int) + 1 + 1) (by omega), wr64 (n := (first : Int) + (2 * (r : Int) + 1)) (by omega), wr64 (n := (first : Int) + (2 * (r : Int) + 1) + 1) (by omega), wr64 (n := (first : Int) + (r : Int)) (by omega)]
    rw [siftDown, dif_neg (by omega)] at hout
    refine Jn1.at (fun u h' => ∃ ch : Nat, u = .int .i64 ch ∧ ch < hi ∧ r < ch ∧ ch ≤ 2 * r + 2 ∧ (if !ltInt e[first + r]! e[first + ch]! then e else siftDown ltInt hi first ch (Go.Sort.swp e (first + r) (first + ch))) = siftDown ltInt hi first lo d ∧ Cx F h0 h' [rD v e]) ?_ ?_
    · have one : ∀ h', Cx F h0 h' [rD v e] → (2 * r + 1 + 1 < hi && ltInt e[first + (2 * r + 1)]! e[first + (2 * r + 1) + 1]!) = false → ∃ ch : Nat, Value.int .i64 (2 * (r : Int) + 1) = .int .i64 ch ∧ ch < hi ∧ r < ch ∧ ch ≤ 2 * r + 2 ∧ (if !ltInt e[first + r]! e[first + ch]! then e else siftDown ltInt hi first ch (Go.Sort.swp e (first + r) (first + ch))) = siftDown ltInt hi first lo d ∧ Cx F h0 h' [rD v e] := by
        intro h' c hc
        rw [if_neg (by rw [hc]; simp)] at hout
        exact ⟨2 * r + 1, by congr 1, by omega, by omega, by omega, hout, c⟩
      refine .here ?_
      refine brd (fun h3 => ?_) fun h3 => ?_
      · refine c.rd 0 rfl (n := first + (2 * r + 1)) (by omega) (by omega) ?_
        refine c.rd 0 rfl (n := first + (2 * r + 1) + 1) (by omega) (by omega) ?_
        refine c.pur cs.less fun h4 c => ?_
        cases hlt : ltInt e[first + (2 * r + 1)]! e[first + (2 * r + 1) + 1]! with
        | true =>
          simp only [go_sem]
          have hc : (2 * r + 1 + 1 < hi && ltInt e[first + (2 * r + 1)]! e[first + (2 * r + 1) + 1]!) = true := by rw [hlt]; simp; omega
          rw [if_pos hc] at hout
          refine ⟨2 * r + 2, by congr 1, by omega, by omega, by omega, ?_, c⟩
          rw [← hout]
          split
          · rfl
          · rw [dif_pos (by omega)]
        | false =>
          simp only [go_sem]
          exact one _ c (by rw [hlt]; simp)
      · exact one _ c (by simp; omega)
    · rintro u h3 ⟨ch, rfl, hch, hrc, hc2, hout, c⟩
      refine c.rd 0 rfl (n := first + r) (by omega) (by omega) ?_
      simp only [go_sem]
      rw [wr64 (n := (first : Int) + (ch : Int)) (by omega)]
      refine c.rd 0 rfl (n := first + ch) (by omega) (by omega) ?_
      refine c.pur cs.less fun h4 c => ?_
      cases hlt : ltInt e[first + r]! e[first + ch]! with
      | false =>
        simp only [go_sem, Bool.not_false]
        rw [hlt, if_pos (by simp)] at hout
        rw [← hout] at hR
        exact hR _ c
      | true =>
        simp only [go_sem, Bool.not_true]
        rw [hlt, if_neg (by simp)] at hout
        refine c.swp 0 rfl (zx := (first : Int) + (r : Int)) (zy := (first : Int) + (ch : Int)) (x := first + r) (y := first + ch) (by omega) (by omega) (by omega) (by omega) fun h6 c => ?_
        exact hagain (ch, Go.Sort.swp e (first + r) (first + ch)) _ _ ⟨rfl, by omega, by rw [swp_size, hs], hout, c⟩ (by omega)

structure CsS1 (S : Sys) (I : Ids) : Prop extends CsS0 S I where
  sift : ∀ {v : Value} {d : Array Int} {lo hi first : Nat} {F h0 h R}, lo ≤ 1000000 → first + hi ≤ d.size → d.size ≤ 1000000 → Cx F h0 h [rD v d] → (∀ h', Cx F h0 h' [rD v (siftDown ltInt hi first lo d)] → R (.tuple #[]) h') →
    S.C I.f_slices_siftDownOrdered_api_Loc [v, .int .i64 lo, .int .i64 hi, .int .i64 first] h R

theorem K_heapSort {v : Value} {d : Array Int} {a b : Nat} (cs : CsS1 S I) (hab : a ≤ b) (hb : b ≤ d.size) (hN : d.size ≤ 1000000) (c : Cx F h0 h [rD v d]) (hR : ∀ h', Cx F h0 h' [rD v (heapSort ltInt d a b)] → R (.tuple #[]) h') :
    F_slices_heapSortOrdered_api_Loc S I v (.int .i64 a) (.int .i64 b) h R := by
  unfold F_slices_heapSortOrdered_api_Loc
  simp only [go_sem]
  rw [wr64 (n := (b : Int) - a) (by omega), wr64 (n := (b : Int) - a - 1) (by omega), bin_quo (by omega)]
  simp only [go_sem]
  have ediv : IntKind.i64.wrap (((b : Int) - a - 1).tdiv 2) = (((b - a - 1) / 2 + 1 : Nat) : Int) - 1 := by
    rcases Nat.eq_zero_or_pos (b - a) with h0 | h0
    · have : (b : Int) - a - 1 = -1 := by omega
      rw [this]
      have e2 : b - a - 1 = 0 := by omega
      rw [e2]; rfl
    · rw [Int.tdiv_eq_ediv_of_nonneg (by omega), wr64 (by omega)]; omega
  rw [ediv]
  have eba : (b : Int) - a = ((b - a : Nat) : Int) := by omega
  rw [eba]
  refine Lp1.by (fun (x : Nat × Array Int) u h' => u = .int .i64 ((x.1 : Int) - 1) ∧ x.1 ≤ 1000000 ∧ x.2.size = d.size ∧ heapPop ltInt a (b - a) (heapBuild ltInt (b - a) a x.1 x.2) = heapSort ltInt d a b ∧ Cx F h0 h' [rD v x.2]) (fun x => x.1) ((b - a - 1) / 2 + 1, d) ⟨rfl, by omega, rfl, rfl, c⟩ ?_
  rintro ⟨k, e⟩ u h1 ⟨rfl, hk, hs, hout, c⟩ again hagain
  dsimp only at *
  simp only [go_sem]
  refine brd (fun h2 => ?_) fun h2 => ?_
  · obtain ⟨k, rfl⟩ : ∃ k', k = k' + 1 := ⟨k - 1, by omega⟩
    have ek : ((k + 1 : Nat) : Int) - 1 = (k : Nat) := by omega
    rw [ek]
    refine cs.sift (by omega) (by omega) (by omega) c fun h3 c => ?_
    rw [wr64 (n := (k : Int) - 1) (by omega)]
    exact hagain (k, siftDown ltInt (b - a) a k e) _ _ ⟨rfl, by omega, by rw [siftDown_size, hs], hout, c⟩ (by omega)
  · have hk0 : k = 0 := by omega
    subst hk0
    rw [heapBuild] at hout
    refine Lp1.by (fun (x : Nat × Array Int) u h' => u = .int .i64 ((x.1 : Int) - 1) ∧ x.1 ≤ b - a ∧ x.2.size = d.size ∧ heapPop ltInt a x.1 x.2 = heapSort ltInt d a b ∧ Cx F h0 h' [rD v x.2]) (fun x => x.1) (b - a, e) ⟨rfl, by dsimp only; omega, hs, hout, c⟩ ?_
    rintro ⟨k, e⟩ u h3 ⟨rfl, hk, hs, hout, c⟩ again2 hagain2
    dsimp only at *
    simp only [go_sem]
    refine brd (fun h4 => ?_) fun h4 => ?_
    · obtain ⟨k, rfl⟩ : ∃ k', k = k' + 1 := ⟨k - 1, by omega⟩
      have ek : ((k + 1 : Nat) : Int) - 1 = (k : Nat) := by omega
      rw [ek, wr64 (n := (a : Int) + (k : Int)) (by omega)]
      refine c.swp 0 rfl (zx := (a : Int)) (zy := (a : Int) + (k : Int)) (x := a) (y := a + k) rfl (by omega) (by omega) (by omega) fun h5 c => ?_
      refine cs.sift (lo := 0) (by omega) (by rw [swp_size]; omega) (by rw [swp_size]; omega) c fun h6 c => ?_
      rw [wr64 (n := (k : Int) - 1) (by omega)]
      exact hagain2 (k, siftDown ltInt k a 0 (Go.Sort.swp e a (a + k))) _ _ ⟨rfl, by omega, by rw [siftDown_size, swp_size, hs], hout, c⟩ (by omega)
    · have hk0 : k = 0 := by omega
      subst hk0
      rw [heapPop] at hout
      rw [← hout] at hR
      exact hR _ c

theorem K_reverse {v : Value} {d : Array Int} {a b : Nat} (hab : a < b) (hb : b ≤ d.size) (hN : d.size ≤ 1000000) (c : Cx F h0 h [rD v d]) (hR : ∀ h', Cx F h0 h' [rD v (reverseRange d a b)] → R (.tuple #[]) h') :
    F_slices_reverseRangeOrdered_api_Loc S I v (.int .i64 a) (.int .i64 b) h R := by
  unfold F_slices_reverseRangeOrdered_api_Loc
  simp only [go_sem]
  rw [wr64 (n := (b : Int) - 1) (by omega)]
  refine Lp2.by (fun (x : Nat × Nat × Array Int) u w h' => u = .int .i64 x.1 ∧ w = .int .i64 x.2.1 ∧ x.1 ≤ b ∧ x.2.1 < b ∧ x.2.2.size = d.size ∧ reverseLoop x.1 x.2.1 x.2.2 = reverseRange d a b ∧ Cx F h0 h' [rD v x.2.2]) (fun x => x.2.1 - x.1) (a, b - 1, d) ⟨rfl, by dsimp only; congr 1; omega, by dsimp only; omega, by dsimp only; omega, rfl, rfl, c⟩ ?_
  rintro ⟨i, j, e⟩ u w h1 ⟨rfl, rfl, hi, hj, hs, hout, c⟩ again hagain
  dsimp only at *
  simp only [go_sem]
  rw [reverseLoop] at hout
  refine brd (fun h2 => ?_) fun h2 => ?_
  · rw [if_pos (by omega)] at hout
    refine c.swp 0 rfl (zx := (i : Int)) (zy := (j : Int)) (x := i) (y := j) rfl rfl (by omega) (by omega) fun h5 c => ?_
    rw [wrS (by omega), wr64 (n := (j : Int) - 1) (by omega)]
    exact hagain (i + 1, j - 1, Go.Sort.swp e i j) _ _ _ ⟨rfl, by dsimp only; congr 1; omega, by dsimp only; omega, by dsimp only; omega, by rw [swp_size, hs], hout, c⟩ (by dsimp only; omega)
  · rw [if_neg (by omega)] at hout
    rw [← hout] at hR
    exact hR _ c
end Go.En
namespace Go.En
open Prog Spc Go.Sort

variable {S : Sys} {I : Ids} {h h0 h' : Hp} {F F0 : Fp} {R : Value → Hp → Prop} {L : List Res}

theorem scanUp_go {p : Int → Bool} {d : Array Int} {i j : Nat} (h : i ≤ j) (hp : p d[i]! = true) : scanUp p d j i = scanUp p d j (i + 1) := by
  rw [scanUp, if_pos (by simp [h, hp])]
theorem scanUp_stop {p : Int → Bool} {d : Array Int} {i j : Nat} (h : ¬ (i ≤ j ∧ p d[i]! = true)) : scanUp p d j i = i := by
  rw [scanUp, if_neg (by simpa using h)]
theorem scanDown_go {p : Int → Bool} {d : Array Int} {i j : Nat} (h : i ≤ j + 1) (hp : p d[j + 1]! = true) : scanDown p d i (j + 1) = scanDown p d i j := by
  rw [scanDown, if_pos (by simp [h, hp])]
theorem scanDown_stop {p : Int → Bool} {d : Array Int} {i j : Nat} (h : ¬ (i ≤ j ∧ p d[j]! = true)) : scanDown p d i j = j := by
  cases j with
  | zero => rfl
  | succ j => rw [scanDown, if_neg (by simpa using h)]

theorem K_partition {v : Value} {d : Array Int} {a b pivot : Nat} (cs : CsS0 S I) (hap : a ≤ pivot) (hpb : pivot < b) (hb : b ≤ d.size) (hN : d.size ≤ 1000000) (c : Cx F h0 h [rD v d])
    (hR : ∀ h', Cx F h0 h' [rD v (partition ltInt d a b pivot).2.2] → R (.tuple #[.int .i64 (partition ltInt d a b pivot).1, .bool (partition ltInt d a b pivot).2.1]) h') :
    F_slices_partitionOrdered_api_Loc S I v (.int .i64 a) (.int .i64 b) (.int .i64 pivot) h R := by
  unfold F_slices_partitionOrdered_api_Loc
  refine c.swp 0 rfl (zx := (a : Int)) (zy := (pivot : Int)) (x := a) (y := pivot) rfl rfl (by omega) (by omega) fun h1 c => ?_
  unfold partition at hR
  dsimp only at hR
  have hes := swp_size d a pivot
  generalize Go.Sort.swp d a pivot = e at *
  rw [bin_add, vb_some, wrS (by omega), bin_sub, vb_some, wr64 (n := (b : Int) - 1) (by omega)]
  have eb : (b : Int) - 1 = ((b - 1 : Nat) : Int) := by omega
  rw [eb]
  refine Lp1.by (fun (x : Nat) u h' => u = .int .i64 x ∧ (a + 1) ≤ x ∧ x ≤ (b - 1) + 1 ∧ scanUp (fun x => ltInt x e[a]!) e (b - 1) x = scanUp (fun x => ltInt x e[a]!) e (b - 1) (a + 1) ∧ Cx F h0 h' [rD v e]) (fun x => (b - 1) + 1 - x) (a + 1) ⟨rfl, Nat.le_refl _, by omega, rfl, c⟩ ?_
  rintro i1 u g1 ⟨rfl, hlo1, hhi1, hsc1, c⟩ again1 hagain1
  refine Jn1.at (fun u h' => Cx F h0 h' [rD v e] ∧ ∃ bb : Bool, u = .bool bb ∧ (bb = true ↔ (i1 ≤ (b - 1) ∧ (fun x => ltInt x e[a]!) e[i1]! = true))) ?_ ?_
  · simp only [go_sem]
    refine brd (fun hc => ?_) fun hc => ?_
    · refine c.rd 0 rfl (n := i1) rfl (by omega) ?_
      refine c.rd 0 rfl (n := a) rfl (by omega) ?_
      refine c.pur cs.less fun h5 c => ?_
      try simp only [go_sem]
      exact ⟨c, _, rfl, ⟨fun hh => ⟨by omega, by simpa using hh⟩, fun hh => by simpa using hh.2⟩⟩
    · exact ⟨c, false, rfl, ⟨(fun hh => by cases hh), fun hh => absurd hh.1 (by omega)⟩⟩
  rintro u g1' ⟨c, b1, rfl, hb1⟩
  cases b1 with
  | true =>
    have hh := hb1.1 rfl
    rw [br_true, bin_add, vb_some, wrS (by omega)]
    exact hagain1 (i1 + 1) _ _ ⟨rfl, by omega, by omega, by rw [← hsc1]; exact (scanUp_go hh.1 hh.2).symm, c⟩ (by omega)
  | false =>
  rw [br_false]
  have hst1 : scanUp (fun x => ltInt x e[a]!) e (b - 1) (a + 1) = i1 := by rw [← hsc1]; exact scanUp_stop fun hh => by have := hb1.2 hh; cases this
  rw [hst1] at hR
  refine Lp1.by (fun (x : Nat) u h' => u = .int .i64 x ∧ x ≤ (b - 1) ∧ i1 ≤ x + 1 ∧ scanDown (fun x => !ltInt x e[a]!) e i1 x = scanDown (fun x => !ltInt x e[a]!) e i1 (b - 1) ∧ Cx F h0 h' [rD v e]) (fun x => x) (b - 1) ⟨rfl, Nat.le_refl _, by omega, rfl, c⟩ ?_
  rintro j2 u g2 ⟨rfl, hhi2, hlo2, hsc2, c⟩ again2 hagain2
  refine Jn1.at (fun u h' => Cx F h0 h' [rD v e] ∧ ∃ bb : Bool, u = .bool bb ∧ (bb = true ↔ (i1 ≤ j2 ∧ (fun x => !ltInt x e[a]!) e[j2]! = true))) ?_ ?_
  · simp only [go_sem]
    refine brd (fun hc => ?_) fun hc => ?_
    · refine c.rd 0 rfl (n := j2) rfl (by omega) ?_
      refine c.rd 0 rfl (n := a) rfl (by omega) ?_
      refine c.pur cs.less fun h5 c => ?_
      try simp only [go_sem]
      exact ⟨c, _, rfl, ⟨fun hh => ⟨by omega, by simpa using hh⟩, fun hh => by simpa using hh.2⟩⟩
    · exact ⟨c, false, rfl, ⟨(fun hh => by cases hh), fun hh => absurd hh.1 (by omega)⟩⟩
  rintro u g2' ⟨c, b2, rfl, hb2⟩
  cases b2 with
  | true =>
    have hh := hb2.1 rfl
    obtain ⟨j, rfl⟩ : ∃ j, j2 = j + 1 := ⟨j2 - 1, by omega⟩
    rw [br_true, bin_sub, vb_some, wr64 (n := ((j + 1 : Nat) : Int) - 1) (by omega)]
    exact hagain2 j _ _ ⟨by congr 1; omega, by omega, by omega, by rw [← hsc2]; exact (scanDown_go hh.1 hh.2).symm, c⟩ (by omega)
  | false =>
  rw [br_false]
  have hst2 : scanDown (fun x => !ltInt x e[a]!) e i1 (b - 1) = j2 := by rw [← hsc2]; exact scanDown_stop fun hh => by have := hb2.2 hh; cases this
  rw [hst2] at hR
  simp only [go_sem]
  refine brd (fun hc => ?_) fun hc => ?_
  · rw [if_pos (by omega)] at hR
    refine c.swp 0 rfl (zx := (j2 : Int)) (zy := (a : Int)) (x := j2) (y := a) rfl rfl (by omega) (by omega) fun h6 c => ?_
    exact hR _ c
  rw [if_neg (by omega)] at hR
  refine c.swp 0 rfl (zx := (i1 : Int)) (zy := (j2 : Int)) (x := i1) (y := j2) rfl rfl (by omega) (by omega) fun h6 c => ?_
  rw [wrS (by omega), wr64 (n := (j2 : Int) - 1) (by omega)]
  have hes2 := swp_size e i1 j2
  generalize Go.Sort.swp e i1 j2 = e2 at *
  have ej : (j2 : Int) - 1 = ((j2 - 1 : Nat) : Int) := by omega
  rw [ej]
  generalize hpl : partLoop ltInt a (i1 + 1) (j2 - 1) e2 = PL at *
  refine Lp2.by (fun (x : Nat × Nat × Array Int) u w h' => u = .int .i64 x.1 ∧ w = .int .i64 x.2.1 ∧ a + 1 ≤ x.1 ∧ x.1 ≤ b ∧ x.2.1 < b ∧ x.1 ≤ x.2.1 + 2 ∧ a ≤ x.2.1 ∧ x.2.2.size = d.size ∧ partLoop ltInt a x.1 x.2.1 x.2.2 = PL ∧ Cx F h0 h' [rD v x.2.2]) (fun x => x.2.1 + 1 - x.1) (i1 + 1, j2 - 1, e2) ⟨rfl, rfl, by dsimp only; omega, by dsimp only; omega, by dsimp only; omega, by dsimp only; omega, by dsimp only; omega, by dsimp only; omega, hpl, c⟩ ?_
  clear hst1 hst2 hsc1 hsc2 hb1 hb2 hlo1 hlo2 hhi1 hhi2 hc hpl ej
  rintro ⟨i, j, f⟩ u w h7 ⟨rfl, rfl, hi, hi2, hj, hij, haj, hfs, hpl, c⟩ again hagain
  dsimp only at *
  rw [partLoop] at hpl
  try dsimp only at hpl
  by_cases hij2 : i ≤ j + 1
  · skip
    refine Lp1.by (fun (x : Nat) u h' => u = .int .i64 x ∧ i ≤ x ∧ x ≤ j + 1 ∧ scanUp (fun x => ltInt x f[a]!) f j x = scanUp (fun x => ltInt x f[a]!) f j i ∧ Cx F h0 h' [rD v f]) (fun x => j + 1 - x) i ⟨rfl, Nat.le_refl _, by omega, rfl, c⟩ ?_
    rintro i3 u g3 ⟨rfl, hlo3, hhi3, hsc3, c⟩ again3 hagain3
    refine Jn1.at (fun u h' => Cx F h0 h' [rD v f] ∧ ∃ bb : Bool, u = .bool bb ∧ (bb = true ↔ (i3 ≤ j ∧ (fun x => ltInt x f[a]!) f[i3]! = true))) ?_ ?_
    · simp only [go_sem]
      refine brd (fun hc => ?_) fun hc => ?_
      · refine c.rd 0 rfl (n := i3) rfl (by omega) ?_
        refine c.rd 0 rfl (n := a) rfl (by omega) ?_
        refine c.pur cs.less fun h5 c => ?_
        try simp only [go_sem]
        exact ⟨c, _, rfl, ⟨fun hh => ⟨by omega, by simpa using hh⟩, fun hh => by simpa using hh.2⟩⟩
      · exact ⟨c, false, rfl, ⟨(fun hh => by cases hh), fun hh => absurd hh.1 (by omega)⟩⟩
    rintro u g3' ⟨c, b3, rfl, hb3⟩
    cases b3 with
    | true =>
      have hh := hb3.1 rfl
      rw [br_true, bin_add, vb_some, wrS (by omega)]
      exact hagain3 (i3 + 1) _ _ ⟨rfl, by omega, by omega, by rw [← hsc3]; exact (scanUp_go hh.1 hh.2).symm, c⟩ (by omega)
    | false =>
    rw [br_false]
    have hst3 : scanUp (fun x => ltInt x f[a]!) f j i = i3 := by rw [← hsc3]; exact scanUp_stop fun hh => by have := hb3.2 hh; cases this
    rw [hst3] at hpl
    refine Lp1.by (fun (x : Nat) u h' => u = .int .i64 x ∧ x ≤ j ∧ i3 ≤ x + 1 ∧ scanDown (fun x => !ltInt x f[a]!) f i3 x = scanDown (fun x => !ltInt x f[a]!) f i3 j ∧ Cx F h0 h' [rD v f]) (fun x => x) j ⟨rfl, Nat.le_refl _, by omega, rfl, c⟩ ?_
    rintro j4 u g4 ⟨rfl, hhi4, hlo4, hsc4, c⟩ again4 hagain4
    refine Jn1.at (fun u h' => Cx F h0 h' [rD v f] ∧ ∃ bb : Bool, u = .bool bb ∧ (bb = true ↔ (i3 ≤ j4 ∧ (fun x => !ltInt x f[a]!) f[j4]! = true))) ?_ ?_
    · simp only [go_sem]
      refine brd (fun hc => ?_) fun hc => ?_
      · refine c.rd 0 rfl (n := j4) rfl (by omega) ?_
        refine c.rd 0 rfl (n := a) rfl (by omega) ?_
        refine c.pur cs.less fun h5 c => ?_
        try simp only [go_sem]
        exact ⟨c, _, rfl, ⟨fun hh => ⟨by omega, by simpa using hh⟩, fun hh => by simpa using hh.2⟩⟩
      · exact ⟨c, false, rfl, ⟨(fun hh => by cases hh), fun hh => absurd hh.1 (by omega)⟩⟩
    rintro u g4' ⟨c, b4, rfl, hb4⟩
    cases b4 with
    | true =>
      have hh := hb4.1 rfl
      obtain ⟨j, rfl⟩ : ∃ j, j4 = j + 1 := ⟨j4 - 1, by omega⟩
      rw [br_true, bin_sub, vb_some, wr64 (n := ((j + 1 : Nat) : Int) - 1) (by omega)]
      exact hagain4 j _ _ ⟨by congr 1; omega, by omega, by omega, by rw [← hsc4]; exact (scanDown_go hh.1 hh.2).symm, c⟩ (by omega)
    | false =>
    rw [br_false]
    have hst4 : scanDown (fun x => !ltInt x f[a]!) f i3 j = j4 := by rw [← hsc4]; exact scanDown_stop fun hh => by have := hb4.2 hh; cases this
    rw [hst4] at hpl
    simp only [go_sem]
    refine brd (fun hc => ?_) fun hc => ?_
    · rw [if_pos (by omega)] at hpl
      subst hpl
      refine c.swp 0 rfl (zx := (j4 : Int)) (zy := (a : Int)) (x := j4) (y := a) rfl rfl (by omega) (by omega) fun h6 c => ?_
      exact hR _ c
    · rw [if_neg (by omega), dif_pos (by omega)] at hpl
      refine c.swp 0 rfl (zx := (i3 : Int)) (zy := (j4 : Int)) (x := i3) (y := j4) rfl rfl (by omega) (by omega) fun h6 c => ?_
      rw [wrS (by omega), wr64 (n := (j4 : Int) - 1) (by omega)]
      exact hagain (i3 + 1, j4 - 1, Go.Sort.swp f i3 j4) _ _ _ ⟨rfl, by dsimp only; congr 1; omega, by dsimp only; omega, by dsimp only; omega, by dsimp only; omega, by dsimp only; omega, by dsimp only; omega, by rw [swp_size, hfs], hpl, c⟩ (by dsimp only; omega)
  · -- the scans are empty
    have e1 : scanUp (fun x => ltInt x f[a]!) f j i = i := scanUp_stop fun hh => by omega
    have e2 : scanDown (fun x => !ltInt x f[a]!) f i j = j := scanDown_stop fun hh => by omega
    rw [e1, e2, if_pos (by omega)] at hpl
    subst hpl
    refine Lp1.by (fun (x : Nat) u h' => x = i ∧ u = .int .i64 i ∧ Cx F h0 h' [rD v f]) (fun x => x) i ⟨rfl, rfl, c⟩ ?_
    rintro x u g1 ⟨rfl, rfl, c⟩ ag hag
    refine .here ?_
    simp only [go_sem]
    refine brF (by omega) ?_
    refine Lp1.by (fun (x' : Nat) u h' => x' = j ∧ u = .int .i64 j ∧ Cx F h0 h' [rD v f]) (fun x => x) j ⟨rfl, rfl, c⟩ ?_
    rintro x' u g2 ⟨rfl, rfl, c⟩ ag2 hag2
    refine .here ?_
    simp only [go_sem]
    refine brF (by omega) ?_
    refine brT (by omega) ?_
    refine c.swp 0 rfl (zx := (x' : Int)) (zy := (a : Int)) (x := x') (y := a) rfl rfl (by omega) (by omega) fun h6 c => ?_
    exact hR _ c

theorem K_partEq {v : Value} {d : Array Int} {a b pivot : Nat} (cs : CsS0 S I) (hap : a ≤ pivot) (hpb : pivot < b) (hb : b ≤ d.size) (hN : d.size ≤ 1000000) (c : Cx F h0 h [rD v d])
    (hR : ∀ h', Cx F h0 h' [rD v (partitionEqual ltInt d a b pivot).2] → R (.int .i64 (partitionEqual ltInt d a b pivot).1) h') :
    F_slices_partitionEqualOrdered_api_Loc S I v (.int .i64 a) (.int .i64 b) (.int .i64 pivot) h R := by
  unfold F_slices_partitionEqualOrdered_api_Loc
  refine c.swp 0 rfl (zx := (a : Int)) (zy := (pivot : Int)) (x := a) (y := pivot) rfl rfl (by omega) (by omega) fun h1 c => ?_
  unfold partitionEqual at hR
  have hes := swp_size d a pivot
  generalize Go.Sort.swp d a pivot = e at *
  rw [bin_add, vb_some, wrS (by omega), bin_sub, vb_some, wr64 (n := (b : Int) - 1) (by omega)]
  have eb : (b : Int) - 1 = ((b - 1 : Nat) : Int) := by omega
  rw [eb]
  generalize hpl : partEqLoop ltInt a (a + 1) (b - 1) e = PL at *
  refine Lp2.by (fun (x : Nat × Nat × Array Int) u w h' => u = .int .i64 x.1 ∧ w = .int .i64 x.2.1 ∧ a + 1 ≤ x.1 ∧ x.1 ≤ b ∧ x.2.1 < b ∧ x.1 ≤ x.2.1 + 2 ∧ a ≤ x.2.1 ∧ x.2.2.size = d.size ∧ partEqLoop ltInt a x.1 x.2.1 x.2.2 = PL ∧ Cx F h0 h' [rD v x.2.2]) (fun x => x.2.1 + 1 - x.1) (a + 1, b - 1, e) ⟨rfl, rfl, by dsimp only; omega, by dsimp only; omega, by dsimp only; omega, by dsimp only; omega, by dsimp only; omega, by dsimp only; omega, hpl, c⟩ ?_
  clear hpl
  rintro ⟨i, j, f⟩ u w h7 ⟨rfl, rfl, hi, hi2, hj, hij, haj, hfs, hpl, c⟩ again hagain
  dsimp only at *
  rw [partEqLoop] at hpl
  try dsimp only at hpl
  by_cases hij2 : i ≤ j + 1
  · skip
    refine Lp1.by (fun (x : Nat) u h' => u = .int .i64 x ∧ i ≤ x ∧ x ≤ j + 1 ∧ scanUp (fun x => !ltInt f[a]! x) f j x = scanUp (fun x => !ltInt f[a]! x) f j i ∧ Cx F h0 h' [rD v f]) (fun x => j + 1 - x) i ⟨rfl, Nat.le_refl _, by omega, rfl, c⟩ ?_
    rintro i3 u g3 ⟨rfl, hlo3, hhi3, hsc3, c⟩ again3 hagain3
    refine Jn1.at (fun u h' => Cx F h0 h' [rD v f] ∧ ∃ bb : Bool, u = .bool bb ∧ (bb = true ↔ (i3 ≤ j ∧ (fun x => !ltInt f[a]! x) f[i3]! = true))) ?_ ?_
    · simp only [go_sem]
      refine brd (fun hc => ?_) fun hc => ?_
      · refine c.rd 0 rfl (n := a) rfl (by omega) ?_
        refine c.rd 0 rfl (n := i3) rfl (by omega) ?_
        refine c.pur cs.less fun h5 c => ?_
        try simp only [go_sem]
        exact ⟨c, _, rfl, ⟨fun hh => ⟨by omega, by simpa using hh⟩, fun hh => by simpa using hh.2⟩⟩
      · exact ⟨c, false, rfl, ⟨(fun hh => by cases hh), fun hh => absurd hh.1 (by omega)⟩⟩
    rintro u g3' ⟨c, b3, rfl, hb3⟩
    cases b3 with
    | true =>
      have hh := hb3.1 rfl
      rw [br_true, bin_add, vb_some, wrS (by omega)]
      exact hagain3 (i3 + 1) _ _ ⟨rfl, by omega, by omega, by rw [← hsc3]; exact (scanUp_go hh.1 hh.2).symm, c⟩ (by omega)
    | false =>
    rw [br_false]
    have hst3 : scanUp (fun x => !ltInt f[a]! x) f j i = i3 := by rw [← hsc3]; exact scanUp_stop fun hh => by have := hb3.2 hh; cases this
    rw [hst3] at hpl
    refine Lp1.by (fun (x : Nat) u h' => u = .int .i64 x ∧ x ≤ j ∧ i3 ≤ x + 1 ∧ scanDown (fun x => ltInt f[a]! x) f i3 x = scanDown (fun x => ltInt f[a]! x) f i3 j ∧ Cx F h0 h' [rD v f]) (fun x => x) j ⟨rfl, Nat.le_refl _, by omega, rfl, c⟩ ?_
    rintro j4 u g4 ⟨rfl, hhi4, hlo4, hsc4, c⟩ again4 hagain4
    refine Jn1.at (fun u h' => Cx F h0 h' [rD v f] ∧ ∃ bb : Bool, u = .bool bb ∧ (bb = true ↔ (i3 ≤ j4 ∧ (fun x => ltInt f[a]! x) f[j4]! = true))) ?_ ?_
    · simp only [go_sem]
      refine brd (fun hc => ?_) fun hc => ?_
      · refine c.rd 0 rfl (n := a) rfl (by omega) ?_
        refine c.rd 0 rfl (n := j4) rfl (by omega) ?_
        refine c.pur cs.less fun h5 c => ?_
        try simp only [go_sem]
        exact ⟨c, _, rfl, ⟨fun hh => ⟨by omega, by simpa using hh⟩, fun hh => by simpa using hh.2⟩⟩
      · exact ⟨c, false, rfl, ⟨(fun hh => by cases hh), fun hh => absurd hh.1 (by omega)⟩⟩
    rintro u g4' ⟨c, b4, rfl, hb4⟩
    cases b4 with
    | true =>
      have hh := hb4.1 rfl
      obtain ⟨j, rfl⟩ : ∃ j, j4 = j + 1 := ⟨j4 - 1, by omega⟩
      rw [br_true, bin_sub, vb_some, wr64 (n := ((j + 1 : Nat) : Int) - 1) (by omega)]
      exact hagain4 j _ _ ⟨by congr 1; omega, by omega, by omega, by rw [← hsc4]; exact (scanDown_go hh.1 hh.2).symm, c⟩ (by omega)
    | false =>
    rw [br_false]
    have hst4 : scanDown (fun x => ltInt f[a]! x) f i3 j = j4 := by rw [← hsc4]; exact scanDown_stop fun hh => by have := hb4.2 hh; cases this
    rw [hst4] at hpl
    simp only [go_sem]
    refine brd (fun hc => ?_) fun hc => ?_
    · rw [if_pos (by omega)] at hpl
      subst hpl
      exact hR _ c
    · rw [if_neg (by omega), dif_pos (by omega)] at hpl
      refine c.swp 0 rfl (zx := (i3 : Int)) (zy := (j4 : Int)) (x := i3) (y := j4) rfl rfl (by omega) (by omega) fun h6 c => ?_
      rw [wrS (by omega), wr64 (n := (j4 : Int) - 1) (by omega)]
      exact hagain (i3 + 1, j4 - 1, Go.Sort.swp f i3 j4) _ _ _ ⟨rfl, by dsimp only; congr 1; omega, by dsimp only; omega, by dsimp only; omega, by dsimp only; omega, by dsimp only; omega, by dsimp only; omega, by rw [swp_size, hfs], hpl, c⟩ (by dsimp only; omega)
  · have e1 : scanUp (fun x => !ltInt f[a]! x) f j i = i := scanUp_stop fun hh => by omega
    have e2 : scanDown (fun x => ltInt f[a]! x) f i j = j := scanDown_stop fun hh => by omega
    rw [e1, e2, if_pos (by omega)] at hpl
    subst hpl
    refine Lp1.by (fun (x : Nat) u h' => x = i ∧ u = .int .i64 i ∧ Cx F h0 h' [rD v f]) (fun x => x) i ⟨rfl, rfl, c⟩ ?_
    rintro x u g1 ⟨rfl, rfl, c⟩ ag hag
    refine .here ?_
    simp only [go_sem]
    refine brF (by omega) ?_
    refine Lp1.by (fun (x' : Nat) u h' => x' = j ∧ u = .int .i64 j ∧ Cx F h0 h' [rD v f]) (fun x => x) j ⟨rfl, rfl, c⟩ ?_
    rintro x' u g2 ⟨rfl, rfl, c⟩ ag2 hag2
    refine .here ?_
    simp only [go_sem]
    refine brF (by omega) ?_
    refine brT (by omega) ?_
    exact hR _ c
end Go.En
namespace Go.En
open Prog Spc Go.Sort

variable {S : Sys} {I : Ids} {h h0 h' : Hp} {F F0 : Fp} {R : Value → Hp → Prop} {L : List Res}

theorem shiftDown_size (lt : Int → Int → Bool) : ∀ (j : Nat) (d : Array Int), (shiftDown lt j d).size = d.size
  | 0, d => rfl
  | j + 1, d => by rw [shiftDown]; split; rfl; rw [shiftDown_size lt j, swp_size]
theorem shiftUp_size (lt : Int → Int → Bool) (b : Nat) : ∀ (j : Nat) (d : Array Int), (shiftUp lt b j d).size = d.size := by
  intro j d
  fun_induction shiftUp lt b j d with
  | case1 => rfl
  | case2 _ _ _ _ ih => rw [ih, swp_size]
  | case3 => rfl
theorem scanSorted_go {d : Array Int} {b i : Nat} (h : i < b) (hp : ltInt d[i]! d[i - 1]! = false) : scanSorted ltInt d b i = scanSorted ltInt d b (i + 1) := by
  rw [scanSorted, if_pos (by simp [h, hp])]
theorem scanSorted_stop {d : Array Int} {b i : Nat} (h : ¬ (i < b ∧ ltInt d[i]! d[i - 1]! = false)) : scanSorted ltInt d b i = i := by
  rw [scanSorted, if_neg (by simpa using h)]

theorem K_partIns {v : Value} {d : Array Int} {a b : Nat} (cs : CsS0 S I) (hab : a < b) (hb : b ≤ d.size) (hN : d.size ≤ 1000000) (c : Cx F h0 h [rD v d])
    (hR : ∀ h', Cx F h0 h' [rD v (partialInsertionSort ltInt d a b).1] → R (.bool (partialInsertionSort ltInt d a b).2) h') :
    F_slices_partialInsertionSortOrdered_api_Loc S I v (.int .i64 a) (.int .i64 b) h R := by
  unfold F_slices_partialInsertionSortOrdered_api_Loc
  rw [bin_add, vb_some, wrS (by omega)]
  unfold partialInsertionSort at hR
  generalize hpi : partialIns ltInt a b 5 (a + 1) d = PI at *
  refine Lp2.by (fun (x : Nat × Nat × Array Int) u w h' => u = .int .i64 x.2.1 ∧ w = .int .i64 ((5 - x.1 : Nat) : Int) ∧ x.1 ≤ 5 ∧ a + 1 ≤ x.2.1 ∧ x.2.1 ≤ b ∧ x.2.2.size = d.size ∧ partialIns ltInt a b x.1 x.2.1 x.2.2 = PI ∧ Cx F h0 h' [rD v x.2.2]) (fun x => x.1) (5, a + 1, d) ⟨rfl, rfl, Nat.le_refl _, Nat.le_refl _, by dsimp only; omega, rfl, hpi, c⟩ ?_
  clear hpi
  rintro ⟨s, i, e⟩ u w h1 ⟨rfl, rfl, hs5, hi1, hi2, hes, hpi, c⟩ again hagain
  dsimp only at *
  simp only [go_sem]
  refine brd (fun h2 => ?_) fun h2 => ?_
  · obtain ⟨s, rfl⟩ : ∃ s', s = s' + 1 := ⟨s - 1, by omega⟩
    rw [wrS (by omega)]
    rw [partialIns] at hpi
    dsimp only at hpi
    -- the next step
    refine Jn1.at (fun u h' => ∃ (i2 : Nat) (e2 : Array Int), u = .int .i64 i2 ∧ a + 1 ≤ i2 ∧ i2 ≤ b ∧ e2.size = d.size ∧ partialIns ltInt a b s i2 e2 = PI ∧ Cx F h0 h' [rD v e2]) ?_ ?_
    · refine Lp1.by (fun (x : Nat) u h' => u = .int .i64 x ∧ i ≤ x ∧ x ≤ b ∧ scanSorted ltInt e b x = scanSorted ltInt e b i ∧ Cx F h0 h' [rD v e]) (fun x => b - x) i ⟨rfl, Nat.le_refl _, hi2, rfl, c⟩ ?_
      rintro x u g1 ⟨rfl, hlo, hhi, hsc, c⟩ again1 hagain1
      refine Jn1.at (fun u h' => Cx F h0 h' [rD v e] ∧ ∃ bb : Bool, u = .bool bb ∧ (bb = true ↔ (x < b ∧ ltInt e[x]! e[x - 1]! = false))) ?_ ?_
      · simp only [go_sem]
        refine brd (fun hc => ?_) fun hc => ?_
        · rw [wr64 (n := (x : Int) - 1) (by omega)]
          refine c.rd 0 rfl (n := x) rfl (by omega) ?_
          refine c.rd 0 rfl (n := x - 1) (by omega) (by omega) ?_
          refine c.pur cs.less fun h5 c => ?_
          simp only [go_sem]
          exact ⟨c, _, rfl, ⟨fun hh => ⟨by omega, by simpa using hh⟩, fun hh => by simpa using hh.2⟩⟩
        · exact ⟨c, false, rfl, ⟨(fun hh => by cases hh), fun hh => absurd hh.1 (by omega)⟩⟩
      rintro u g2 ⟨c, bb, rfl, hbb⟩
      cases bb with
      | true =>
        have hh := hbb.1 rfl
        rw [br_true, bin_add, vb_some, wrS (by omega)]
        exact hagain1 (x + 1) _ _ ⟨rfl, by omega, by omega, by rw [← hsc]; exact (scanSorted_go hh.1 hh.2).symm, c⟩ (by omega)
      | false =>
      rw [br_false]
      have hst : scanSorted ltInt e b i = x := by rw [← hsc]; exact scanSorted_stop fun hh => by have := hbb.2 hh; cases this
      rw [hst] at hpi
      simp only [go_sem]
      refine brd (fun hc => ?_) fun hc => ?_
      · rw [if_pos (by omega)] at hpi
        subst hpi
        exact hR _ c
      rw [if_neg (by omega)] at hpi
      rw [wr64 (n := (b : Int) - a) (by omega)]
      refine brd (fun hc2 => ?_) fun hc2 => ?_
      · rw [if_pos (by omega)] at hpi
        subst hpi
        exact hR _ c
      rw [if_neg (by omega)] at hpi
      rw [wr64 (n := (x : Int) - 1) (by omega), wr64 (n := (x : Int) - a) (by omega), wr64 (n := (b : Int) - x) (by omega), wr64 (n := (x : Int) + 1) (by omega)]
      refine c.swp 0 rfl (zx := (x : Int)) (zy := (x : Int) - 1) (x := x) (y := x - 1) rfl (by omega) (by omega) (by omega) fun h6 c => ?_
      have hs1 := swp_size e x (x - 1)
      generalize Go.Sort.swp e x (x - 1) = f at *
      refine Jn0.at (fun h' => Cx F h0 h' [rD v (if x - a ≥ 2 then shiftDown ltInt (x - 1) f else f)]) ?_ ?_
      · refine brd (fun hc3 => ?_) fun hc3 => ?_
        · rw [if_pos (by omega)]
          have ex : (x : Int) - 1 = ((x - 1 : Nat) : Int) := by omega
          rw [ex]
          refine Lp1.by (fun (y : Nat × Array Int) u h' => u = .int .i64 y.1 ∧ y.1 < b ∧ y.2.size = d.size ∧ shiftDown ltInt y.1 y.2 = shiftDown ltInt (x - 1) f ∧ Cx F h0 h' [rD v y.2]) (fun y => y.1) (x - 1, f) ⟨rfl, by dsimp only; omega, by dsimp only; omega, rfl, c⟩ ?_
          rintro ⟨j, g⟩ u g3 ⟨rfl, hj, hgs, hsd, c⟩ again2 hagain2
          dsimp only at *
          simp only [go_sem]
          refine brd (fun hc4 => ?_) fun hc4 => ?_
          · obtain ⟨j, rfl⟩ : ∃ j', j = j' + 1 := ⟨j - 1, by omega⟩
            rw [shiftDown] at hsd
            rw [wr64 (n := ((j + 1 : Nat) : Int) - 1) (by omega)]
            refine c.rd 0 rfl (n := j + 1) rfl (by omega) ?_
            refine c.rd 0 rfl (n := j) (by omega) (by omega) ?_
            refine c.pur cs.less fun h5 c => ?_
            cases hlt : ltInt g[j + 1]! g[j]! with
            | false =>
              simp only [go_sem, Bool.not_false]
              rw [if_pos (by simp [hlt])] at hsd
              rw [← hsd]; exact c
            | true =>
              simp only [go_sem, Bool.not_true]
              rw [if_neg (by simp [hlt])] at hsd
              refine c.swp 0 rfl (zx := ((j + 1 : Nat) : Int)) (zy := ((j + 1 : Nat) : Int) - 1) (x := j + 1) (y := j) rfl (by omega) (by omega) (by omega) fun h7 c => ?_
              exact hagain2 (j, Go.Sort.swp g (j + 1) j) _ _ ⟨by congr 1; omega, by dsimp only; omega, by rw [swp_size, hgs], hsd, c⟩ (by omega)
          · have : j = 0 := by omega
            subst this
            rw [shiftDown] at hsd
            rw [← hsd]; exact c
        · rw [if_neg (by omega)]
          exact c
      · intro h7 c
        have hs2 : (if x - a ≥ 2 then shiftDown ltInt (x - 1) f else f).size = d.size := by split; rw [shiftDown_size]; omega; omega
        generalize (if x - a ≥ 2 then shiftDown ltInt (x - 1) f else f) = f2 at *
        try simp only [go_sem]
        have done : ∀ h', Cx F h0 h' [rD v (if b - x ≥ 2 then shiftUp ltInt b (x + 1) f2 else f2)] → ∃ (i2 : Nat) (e2 : Array Int), Value.int .i64 (x : Int) = .int .i64 i2 ∧ a + 1 ≤ i2 ∧ i2 ≤ b ∧ e2.size = d.size ∧ partialIns ltInt a b s i2 e2 = PI ∧ Cx F h0 h' [rD v e2] := fun h' c =>
          ⟨x, _, rfl, by omega, hhi, by split; rw [shiftUp_size]; exact hs2; exact hs2, hpi, c⟩
        refine brd (fun hc3 => ?_) fun hc3 => ?_
        · rw [if_pos (by omega)] at done
          have ex : (x : Int) + 1 = ((x + 1 : Nat) : Int) := by omega
          rw [ex]
          refine Lp1.by (fun (y : Nat × Array Int) u h' => u = .int .i64 y.1 ∧ 1 ≤ y.1 ∧ y.1 ≤ b ∧ y.2.size = d.size ∧ shiftUp ltInt b y.1 y.2 = shiftUp ltInt b (x + 1) f2 ∧ Cx F h0 h' [rD v y.2]) (fun y => b - y.1) (x + 1, f2) ⟨rfl, by dsimp only; omega, by dsimp only; omega, hs2, rfl, c⟩ ?_
          rintro ⟨j, g⟩ u g3 ⟨rfl, hj0, hj, hgs, hsd, c⟩ again2 hagain2
          dsimp only at *
          simp only [go_sem]
          rw [shiftUp] at hsd
          refine brd (fun hc4 => ?_) fun hc4 => ?_
          · rw [if_pos (by omega)] at hsd
            rw [wr64 (n := (j : Int) - 1) (by omega)]
            refine c.rd 0 rfl (n := j) rfl (by omega) ?_
            refine c.rd 0 rfl (n := j - 1) (by omega) (by omega) ?_
            refine c.pur cs.less fun h5 c => ?_
            cases hlt : ltInt g[j]! g[j - 1]! with
            | false =>
              simp only [go_sem, Bool.not_false]
              rw [if_pos (by simp [hlt])] at hsd
              exact done _ (by rw [← hsd]; exact c)
            | true =>
              simp only [go_sem, Bool.not_true]
              rw [if_neg (by simp [hlt])] at hsd
              refine c.swp 0 rfl (zx := (j : Int)) (zy := (j : Int) - 1) (x := j) (y := j - 1) rfl (by omega) (by omega) (by omega) fun h7 c => ?_
              rw [wrS (by omega)]
              exact hagain2 (j + 1, Go.Sort.swp g j (j - 1)) _ _ ⟨rfl, by dsimp only; omega, by dsimp only; omega, by rw [swp_size, hgs], hsd, c⟩ (by dsimp only; omega)
          · rw [if_neg (by omega)] at hsd
            exact done _ (by rw [← hsd]; exact c)
        · rw [if_neg (by omega)] at done
          exact done _ c
    · rintro u g2 ⟨i2, e2, rfl, h3, h4, h5, h6, c⟩
      exact hagain (s, i2, e2) _ _ _ ⟨rfl, by dsimp only; congr 1; omega, by dsimp only; omega, h3, h4, h5, h6, c⟩ (by omega)
  · have : s = 0 := by omega
    subst this
    rw [partialIns] at hpi
    subst hpi
    exact hR _ c
end Go.En
namespace Go.En
open Prog Spc Go.Sort

variable {S : Sys} {I : Ids} {h h0 h' : Hp} {F F0 : Fp} {R : Value → Hp → Prop} {L : List Res}

/-! ### The number of bits -/
/-- k is the number of bits of x -/
def Bits (x : Nat) (k : Nat) : Prop := (x = 0 ∧ k = 0) ∨ (1 ≤ k ∧ 2 ^ (k - 1) ≤ x ∧ x < 2 ^ k)
instance (x k : Nat) : Decidable (Bits x k) := inferInstanceAs (Decidable (_ ∨ _))
theorem Bits.shift {x k s : Nat} (hx : 2 ^ s ≤ x) (h : Bits (x / 2 ^ s) k) : Bits x (s + k) := by
  have hp : 0 < 2 ^ s := Nat.two_pow_pos s
  rcases h with ⟨h1, _⟩ | ⟨h1, h2, h3⟩
  · have := (Nat.div_eq_zero_iff_lt hp).1 h1; omega
  · refine .inr ⟨by omega, ?_, ?_⟩
    · have := (Nat.le_div_iff_mul_le hp).1 h2
      have e : s + k - 1 = (k - 1) + s := by omega
      rw [e, Nat.pow_add]; exact this
    · have := (Nat.div_lt_iff_lt_mul hp).1 h3
      rw [Nat.add_comm, Nat.pow_add]; exact this
/-- the table -/
def bitTab : List UInt8 := (List.append (List.append [0, 1, 2, 2, 3, 3, 3, 3, 4, 4, 4, 4, 4, 4, 4, 4, 5, 5, 5, 5, 5, 5, 5, 5, 5, 5, 5, 5, 5, 5, 5, 5, 6, 6, 6, 6, 6, 6, 6, 6, 6, 6, 6, 6, 6, 6, 6, 6, 6, 6, 6, 6, 6, 6, 6, 6, 6, 6, 6, 6, 6, 6, 6, 6] [7, 7, 7, 7, 7, 7, 7, 7, 7, 7, 7, 7, 7, 7, 7, 7, 7, 7, 7, 7, 7, 7, 7, 7, 7, 7, 7, 7, 7, 7, 7, 7, 7, 7, 7, 7, 7, 7, 7, 7, 7, 7, 7, 7, 7, 7, 7, 7, 7, 7, 7, 7, 7, 7, 7, 7, 7, 7, 7, 7, 7, 7, 7, 7]) (List.append [8, 8, 8, 8, 8, 8, 8, 8, 8, 8, 8, 8, 8, 8, 8, 8, 8, 8, 8, 8, 8, 8, 8, 8, 8, 8, 8, 8, 8, 8, 8, 8, 8, 8, 8, 8, 8, 8, 8, 8, 8, 8, 8, 8, 8, 8, 8, 8, 8, 8, 8, 8, 8, 8, 8, 8, 8, 8, 8, 8, 8, 8, 8, 8] [8, 8, 8, 8, 8, 8, 8, 8, 8, 8, 8, 8, 8, 8, 8, 8, 8, 8, 8, 8, 8, 8, 8, 8, 8, 8, 8, 8, 8, 8, 8, 8, 8, 8, 8, 8, 8, 8, 8, 8, 8, 8, 8, 8, 8, 8, 8, 8, 8, 8, 8, 8, 8, 8, 8, 8, 8, 8, 8, 8, 8, 8, 8, 8]))
theorem bitTab_ok : ∀ i : Fin 256, ∃ b, bitTab[i.val]? = some b ∧ Bits i.val b.toNat := by
  intro i
  have key : ∀ i : Fin 256, (match bitTab[i.val]? with | some b => decide (Bits i.val b.toNat) | none => false) = true := by decide +kernel
  have := key i
  split at this
  · rename_i b hb; exact ⟨b, hb, by simpa using this⟩
  · cases this
theorem shr_ok {k k' : IntKind} {a s : Nat} {z : Int} (hz : z = s) (hs : s ≤ k.bits) : bin .shr (.int k a) (.int k' z) = some (.int k ((a / 2 ^ s : Nat) : Int)) := by
  subst hz
  simp only [bin]
  rw [if_neg (by omega)]
  congr 2
  have e1 : min (Int.toNat (s : Int)) k.bits = s := by rw [Int.toNat_natCast, Nat.min_eq_left hs]
  have e2 : ((2 : Int) ^ s) = ((2 ^ s : Nat) : Int) := by simp
  rw [e1, e2, Int.fdiv_eq_ediv_of_nonneg _ (Int.natCast_nonneg _)]
  exact (Int.natCast_ediv ..).symm
theorem wu64 {z : Int} (h : 0 ≤ z ∧ z < 18446744073709551616) : IntKind.u64.wrap z = z := by simp only [IntKind.wrap, IntKind.bits, IntKind.signed]; simp; omega

theorem wu8 {z : Int} (h : 0 ≤ z ∧ z < 256) : IntKind.u8.wrap z = z := by simp only [IntKind.wrap, IntKind.bits, IntKind.signed]; simp; omega
theorem idst_ok {l : List UInt8} {y : Nat} {b : UInt8} {k : IntKind} (hb : l[y]? = some b) : idst (.string { data := List.toArray l }) (.int k (y : Int)) = some (.int .u8 b.toNat) := by
  show Option.map _ (if 0 ≤ (y : Int) then _ else none) = _
  rw [if_pos (by omega), Int.toNat_natCast]
  show Option.map _ ((List.toArray l)[y]?) = _
  rw [List.getElem?_toArray, hb]; rfl
theorem K_Len64 {x : Nat} (hx : x ≤ 1000000) (hR : ∀ k, Bits x k → R (.int .i64 (k : Nat)) h) : F_math_bits_Len64 S I (.int .u64 x) h R := by
  unfold F_math_bits_Len64
  simp only [go_sem]
  refine .here (brF (by omega) ?_)
  -- the table's part
  have tab : ∀ (y n : Nat), y < 256 → n ≤ 100 → (∀ k, Bits y k → Bits x (n + k)) →
      Vb (cvi .u8 (.int .u64 y)) fun v21 => Vb (idst (.string { data := List.toArray bitTab }) v21) fun v22 => Vb (cvi .i64 v22) fun v23 => Vb (bin .add (.int .i64 n) v23) fun v24 => R v24 h := by
    intro y n hy hn hb
    obtain ⟨b, hb1, hb2⟩ := bitTab_ok ⟨y, hy⟩
    rw [cvi_int, vb_some, wu8 (by omega), idst_ok hb1, vb_some]
    have hbl : b.toNat < 256 := b.toNat_lt
    rw [cvi_int, vb_some, wr64 (by omega), bin_add, vb_some, wr64 (by omega)]
    have := hR (n + b.toNat) (hb _ hb2)
    exact_mod_cast this
  refine Jn2.at (fun a b h' => h' = h ∧ ∃ y n : Nat, a = .int .u64 y ∧ b = .int .i64 n ∧ y < 65536 ∧ n ≤ 16 ∧ ∀ k, Bits y k → Bits x (n + k)) ?_ ?_
  · simp only [go_sem]
    refine brd (fun h1 => ?_) fun h1 => ?_
    · rw [shr_ok (z := 16) (s := 16) rfl (by decide), vb_some]
      rw [wr64 (n := 0 + 16) (by omega)]
      exact ⟨trivial, x / 2 ^ 16, 16, rfl, rfl, by omega, by omega, fun k hk => Bits.shift (by omega) hk⟩
    · exact ⟨trivial, x, 0, rfl, rfl, by omega, by omega, fun k hk => by rw [Nat.zero_add]; exact hk⟩
  · rintro a b h' ⟨rfl, y, n, rfl, rfl, hy, hn, hk⟩
    refine Jn2.at (fun a b h'' => h'' = h' ∧ ∃ y n : Nat, a = .int .u64 y ∧ b = .int .i64 n ∧ y < 256 ∧ n ≤ 24 ∧ ∀ k, Bits y k → Bits x (n + k)) ?_ ?_
    · simp only [go_sem]
      refine brd (fun h1 => ?_) fun h1 => ?_
      · rw [shr_ok (z := 8) (s := 8) rfl (by decide), vb_some]
        rw [wr64 (n := (n : Int) + 8) (by omega)]
        exact ⟨trivial, y / 2 ^ 8, n + 8, rfl, rfl, by omega, by omega, fun k hk2 => by rw [Nat.add_assoc]; exact hk _ (Bits.shift (by omega) hk2)⟩
      · exact ⟨trivial, y, n, rfl, rfl, by omega, by omega, hk⟩
    · rintro a b h'' ⟨rfl, y, n, rfl, rfl, hy, hn, hk⟩
      exact tab y n hy (by omega) hk

structure CsB0 (S : Sys) (I : Ids) : Prop where
  len64 : ∀ {x : Nat} {h R}, x ≤ 1000000 → (∀ k, Bits x k → R (.int .i64 (k : Nat)) h) → S.C I.f_math_bits_Len64 [.int .u64 x] h R
theorem K_Len {x : Nat} (cs : CsB0 S I) (hx : x ≤ 1000000) (hR : ∀ k, Bits x k → R (.int .i64 (k : Nat)) h) : F_math_bits_Len S I (.int .u64 x) h R := by
  unfold F_math_bits_Len
  first
    | exact cs.len64 hx hR
    | (refine cs.len64 hx fun k hk => ?_; exact hR k hk)
structure CsB1 (S : Sys) (I : Ids) : Prop extends CsB0 S I where
  len : ∀ {x : Nat} {h R}, x ≤ 1000000 → (∀ k, Bits x k → R (.int .i64 (k : Nat)) h) → S.C I.f_math_bits_Len [.int .u64 x] h R
theorem bits_le {x k : Nat} (h : Bits x k) (hx : x ≤ 1000000) : k ≤ 20 := by
  rcases h with ⟨_, h⟩ | ⟨h1, h2, _⟩
  · omega
  · rcases Nat.lt_or_ge 20 k with h | h
    · have : 2 ^ 20 ≤ 2 ^ (k - 1) := Nat.pow_le_pow_right (by omega) (by omega)
      omega
    · exact h
theorem K_nextPow {x : Nat} (cs : CsB1 S I) (hx : x ≤ 1000000) (hR : ∀ k, Bits x k → R (.int .u64 ((2 ^ k : Nat) : Int)) h) : F_slices_nextPowerOfTwo S I (.int .i64 x) h R := by
  unfold F_slices_nextPowerOfTwo
  rw [cvi_int, vb_some, wu64 (by omega)]
  refine cs.len hx fun k hk => ?_
  have hk20 := bits_le hk hx
  have hp : 2 ^ k ≤ 2 ^ 20 := Nat.pow_le_pow_right (by omega) hk20
  have e : bin .shl (.int .u64 1) (.int .i64 (k : Nat)) = some (.int .u64 ((2 ^ k : Nat) : Int)) := by
    simp only [bin]
    rw [if_neg (by omega)]
    have e1 : min (Int.toNat (k : Int)) IntKind.u64.bits = k := by rw [Int.toNat_natCast]; exact Nat.min_eq_left (by show k ≤ 64; omega)
    have e2 : ((2 : Int) ^ k) = ((2 ^ k : Nat) : Int) := by simp
    rw [e1, e2, Int.one_mul, wu64 ⟨Int.natCast_nonneg _, by have : (2 ^ k : Nat) < 18446744073709551616 := by omega
                                                            generalize 2 ^ k = q at this ⊢; omega⟩]
  rw [e, vb_some]
  exact hR k hk

def EU : Enc Int := { n := 1, c := fun i => [.int .u64 i], len := fun _ => rfl, one := fun a v h => by simp only [List.mem_singleton] at h; subst h; rfl }
theorem shl_ex (a : Int) (s : Nat) : ∃ z, bin .shl (.int .u64 a) (.int .u64 (s : Int)) = some (.int .u64 z) := by
  simp only [bin]; rw [if_neg (by omega)]; exact ⟨_, rfl⟩
theorem shr_ex (a : Int) (s : Nat) : ∃ z, bin .shr (.int .u64 a) (.int .u64 (s : Int)) = some (.int .u64 z) := by
  simp only [bin]; rw [if_neg (by omega)]; exact ⟨_, rfl⟩
theorem xor_ex (a b : Int) : ∃ z, bin .xor (.int .u64 a) (.int .u64 b) = some (.int .u64 z) := by
  simp only [bin, if_true]; exact ⟨_, rfl⟩
theorem K_xnext {r : Nat} {z : Int} (c : Cx F h0 h [rVar EU r z]) (hR : ∀ z' h', Cx F h0 h' [rVar EU r z'] → R (.int .u64 z') h') : F_slices_xorshift_Next S I (at0 r) h R := by
  unfold F_slices_xorshift_Next
  refine nckb ?_
  rw [(c.va (i := 0) rfl).one rfl, vb_some]
  refine nckb ?_
  rw [(c.va (i := 0) rfl).one rfl, vb_some]
  obtain ⟨z1, e1⟩ := shl_ex z 13
  obtain ⟨z2, e2⟩ := xor_ex z z1
  refine vb e1 (vb e2 (nckb ?_))
  refine c.sto1 0 rfl z2 rfl rfl fun h1 c => ?_
  refine nckb ?_
  rw [(c.va (i := 0) rfl).one rfl, vb_some]
  refine nckb ?_
  rw [(c.va (i := 0) rfl).one rfl, vb_some]
  obtain ⟨z3, e3⟩ := shr_ex z2 7
  obtain ⟨z4, e4⟩ := xor_ex z2 z3
  refine vb e3 (vb e4 (nckb ?_))
  refine c.sto1 0 rfl z4 rfl rfl fun h1 c => ?_
  refine nckb ?_
  rw [(c.va (i := 0) rfl).one rfl, vb_some]
  refine nckb ?_
  rw [(c.va (i := 0) rfl).one rfl, vb_some]
  obtain ⟨z5, e5⟩ := shl_ex z4 17
  obtain ⟨z6, e6⟩ := xor_ex z4 z5
  refine vb e5 (vb e6 (nckb ?_))
  refine c.sto1 0 rfl z6 rfl rfl fun h1 c => ?_
  refine nckb ?_
  rw [(c.va (i := 0) rfl).one rfl, vb_some]
  exact hR z6 _ c
theorem and_le (a : Int) {b : Nat} (hb : b < 18446744073709551616) : ∃ z : Nat, bin .and (.int .u64 a) (.int .u64 (b : Int)) = some (.int .u64 (z : Int)) ∧ z ≤ b := by
  refine ⟨(BitVec.ofInt 64 a &&& BitVec.ofInt 64 (b : Int)).toNat, ?_, ?_⟩
  · simp only [bin, if_true]
    congr 2
    have h2 : (BitVec.ofInt 64 a &&& BitVec.ofInt 64 (b : Int)).toNat < 18446744073709551616 := (BitVec.ofInt 64 a &&& BitVec.ofInt 64 (b : Int)).isLt
    refine wu64 ⟨Int.natCast_nonneg _, ?_⟩
    show ((BitVec.ofInt 64 a &&& BitVec.ofInt 64 (b : Int)).toNat : Int) < _
    generalize (BitVec.ofInt 64 a &&& BitVec.ofInt 64 (b : Int)).toNat = q at h2 ⊢
    omega
  · rw [BitVec.toNat_and]
    refine Nat.le_trans Nat.and_le_right ?_
    rw [BitVec.toNat_ofInt]
    omega
end Go.En
namespace Go.En
open Prog Spc Go.Sort

variable {S : Sys} {I : Ids} {h h0 h' : Hp} {F F0 : Fp} {R : Value → Hp → Prop} {L : List Res}

theorem K_order2 {v : Value} {d : Array Int} {a b r : Nat} {s : Int} (cs : CsS0 S I) (ha : a < d.size) (hb : b < d.size) (c : Cx F h0 h [rD v d, rVar EI1 r s])
    (hR : ∀ (x y : Nat) s' h', (x = a ∧ y = b ∨ x = b ∧ y = a) → Cx F h0 h' [rD v d, rVar EI1 r s'] → R (.tuple #[.int .i64 x, .int .i64 y]) h') :
    F_slices_order2Ordered_api_Loc S I v (.int .i64 a) (.int .i64 b) (at0 r) h R := by
  unfold F_slices_order2Ordered_api_Loc
  refine c.rd 0 rfl (n := b) rfl hb ?_
  refine c.rd 0 rfl (n := a) rfl ha ?_
  refine c.pur cs.less fun h1 c => ?_
  cases hlt : ltInt d[b]! d[a]! with
  | true =>
    rw [br_true]
    refine nckb ?_
    rw [(c.va (i := 1) rfl).one rfl, vb_some, bin_add, vb_some]
    refine nckb ?_
    refine c.sto1 1 rfl _ rfl rfl fun h2 c => ?_
    exact hR b a _ _ (.inr ⟨rfl, rfl⟩) c
  | false =>
    rw [br_false]
    exact hR a b _ _ (.inl ⟨rfl, rfl⟩) c

structure CsS3 (S : Sys) (I : Ids) : Prop extends CsS0 S I where
  order2 : ∀ {v : Value} {d : Array Int} {a b r : Nat} {s : Int} {F h0 h R}, a < d.size → b < d.size → Cx F h0 h [rD v d, rVar EI1 r s] →
    (∀ (x y : Nat) s' h', (x = a ∧ y = b ∨ x = b ∧ y = a) → Cx F h0 h' [rD v d, rVar EI1 r s'] → R (.tuple #[.int .i64 x, .int .i64 y]) h') →
    S.C I.f_slices_order2Ordered_api_Loc [v, .int .i64 a, .int .i64 b, at0 r] h R
theorem K_median {v : Value} {d : Array Int} {a b e r : Nat} {s : Int} (cs : CsS3 S I) (ha : a < d.size) (hb : b < d.size) (he : e < d.size) (c : Cx F h0 h [rD v d, rVar EI1 r s])
    (hR : ∀ (x : Nat) s' h', (x = a ∨ x = b ∨ x = e) → Cx F h0 h' [rD v d, rVar EI1 r s'] → R (.int .i64 x) h') :
    F_slices_medianOrdered_api_Loc S I v (.int .i64 a) (.int .i64 b) (.int .i64 e) (at0 r) h R := by
  unfold F_slices_medianOrdered_api_Loc
  refine cs.order2 ha hb c fun x1 y1 s1 h1 e1 c => ext0t (ext1t ?_)
  refine cs.order2 (by omega) he c fun x2 y2 s2 h2 e2 c => ext0t (ext1t ?_)
  refine cs.order2 (by omega) (by omega) c fun x3 y3 s3 h3 e3 c => ext0t (ext1t ?_)
  exact hR y3 _ _ (by omega) c
structure CsS4 (S : Sys) (I : Ids) : Prop where
  median : ∀ {v : Value} {d : Array Int} {a b e r : Nat} {s : Int} {F h0 h R}, a < d.size → b < d.size → e < d.size → Cx F h0 h [rD v d, rVar EI1 r s] →
    (∀ (x : Nat) s' h', (x = a ∨ x = b ∨ x = e) → Cx F h0 h' [rD v d, rVar EI1 r s'] → R (.int .i64 x) h') →
    S.C I.f_slices_medianOrdered_api_Loc [v, .int .i64 a, .int .i64 b, .int .i64 e, at0 r] h R
theorem K_medianAdj {v : Value} {d : Array Int} {a r : Nat} {s : Int} (cs : CsS4 S I) (h1 : 1 ≤ a) (ha : a + 1 < d.size) (hN : d.size ≤ 1000000) (c : Cx F h0 h [rD v d, rVar EI1 r s])
    (hR : ∀ (x : Nat) s' h', (x = a - 1 ∨ x = a ∨ x = a + 1) → Cx F h0 h' [rD v d, rVar EI1 r s'] → R (.int .i64 x) h') :
    F_slices_medianAdjacentOrdered_api_Loc S I v (.int .i64 a) (at0 r) h R := by
  unfold F_slices_medianAdjacentOrdered_api_Loc
  rw [bin_sub, vb_some, wr64 (n := (a : Int) - 1) (by omega), bin_add, vb_some, wrS (by omega)]
  rw [show (a : Int) - 1 = ((a - 1 : Nat) : Int) by omega]
  refine cs.median (by omega) (by omega) (by omega) c fun x s' h' hx c => ?_
  exact hR x _ _ hx c
structure CsS5 (S : Sys) (I : Ids) : Prop extends CsS4 S I where
  medianAdj : ∀ {v : Value} {d : Array Int} {a r : Nat} {s : Int} {F h0 h R}, 1 ≤ a → a + 1 < d.size → d.size ≤ 1000000 → Cx F h0 h [rD v d, rVar EI1 r s] →
    (∀ (x : Nat) s' h', (x = a - 1 ∨ x = a ∨ x = a + 1) → Cx F h0 h' [rD v d, rVar EI1 r s'] → R (.int .i64 x) h') →
    S.C I.f_slices_medianAdjacentOrdered_api_Loc [v, .int .i64 a, at0 r] h R
theorem K_choosePivot {v : Value} {d : Array Int} {a b : Nat} (cs : CsS5 S I) (hab : a < b) (hb : b ≤ d.size) (hN : d.size ≤ 1000000) (c : Cx F h0 h [rD v d])
    (hR : ∀ (x : Nat) (t : Int) h', a ≤ x → x < b → (t = 0 ∨ t = 1 ∨ t = 2) → Cx F h0 h' [rD v d] → R (.tuple #[.int .i64 x, .int .i64 t]) h') :
    F_slices_choosePivotOrdered_api_Loc S I v (.int .i64 a) (.int .i64 b) h R := by
  unfold F_slices_choosePivotOrdered_api_Loc
  rw [bin_sub, vb_some, wr64 (n := (b : Int) - a) (by omega)]
  refine c.nw EI1 0 rfl fun r h1 c => ?_
  have hq : ∀ m : Nat, m ≤ 3 → ∀ k : Value → Prop, k (.int .i64 ((a + (b - a) / 4 * m : Nat) : Int)) →
      Vb (bin .quo (.int .i64 ((b : Int) - a)) (.int .i64 4)) fun v18 => Vb (bin .mul v18 (.int .i64 (m : Int))) fun v19 => Vb (bin .add (.int .i64 a) v19) k := by
    intro m hm k hk
    rw [bin_quo (by omega), vb_some]
    have e1 : ((b : Int) - a).tdiv 4 = (((b - a) / 4 : Nat) : Int) := by
      rw [show (b : Int) - a = ((b - a : Nat) : Int) by omega]; exact Int.ofNat_tdiv (b - a) 4
    have hm4 : (b - a) / 4 * m ≤ (b - a) := by
      have := Nat.mul_le_mul_left ((b - a) / 4) hm
      omega
    have e2 : (((b - a) / 4 : Nat) : Int) * (m : Int) = (((b - a) / 4 * m : Nat) : Int) := (Int.natCast_mul ..).symm
    rw [e1, wr64 (by omega), bin_mul, vb_some, e2, wr64 (by omega), bin_add, vb_some, wr64 (by omega)]
    exact hk
  refine hq 1 (by omega) _ ?_
  refine hq 2 (by omega) _ ?_
  refine hq 3 (by omega) _ ?_
  clear hq
  have hq4 : (b - a) / 4 * 4 ≤ b - a := Nat.div_mul_le_self ..
  have hq0 : 8 ≤ b - a → 2 ≤ (b - a) / 4 := fun h => by omega
  have hq1 : 50 ≤ b - a → 12 ≤ (b - a) / 4 := fun h => by omega
  generalize (b - a) / 4 = q at *
  obtain ⟨i, hi⟩ : ∃ i, i = a + q * 1 := ⟨_, rfl⟩
  obtain ⟨j, hj⟩ : ∃ i, i = a + q * 2 := ⟨_, rfl⟩
  obtain ⟨k, hk⟩ : ∃ i, i = a + q * 3 := ⟨_, rfl⟩
  rw [← hi, ← hj, ← hk]
  refine Jn1.at (fun u h' => ∃ (x : Nat) (s : Int), u = .int .i64 x ∧ a ≤ x ∧ x < b ∧ Cx F h0 h' [rD v d, rVar EI1 r s]) ?_ ?_
  · simp only [go_sem]
    refine brd (fun h8 => ?_) fun h8 => ?_
    · refine Jn3.at (fun u w t h' => ∃ (x y z : Nat) (s : Int), u = .int .i64 x ∧ w = .int .i64 y ∧ t = .int .i64 z ∧ a ≤ x ∧ x < b ∧ a ≤ y ∧ y < b ∧ a ≤ z ∧ z < b ∧ Cx F h0 h' [rD v d, rVar EI1 r s]) ?_ ?_
      · refine brd (fun h50 => ?_) fun h50 => ?_
        · have hq1 := hq1 (by omega)
          have r : ∀ y x : Nat, a + 1 ≤ y → y + 1 < b → (x = y - 1 ∨ x = y ∨ x = y + 1) → a ≤ x ∧ x < b := by intro y x h1 h2 h3; omega
          have i1 : a + 1 ≤ i ∧ i + 1 < b := by clear r; omega
          have j1 : a + 1 ≤ j ∧ j + 1 < b := by clear r; omega
          have k1 : a + 1 ≤ k ∧ k + 1 < b := by clear r; omega
          clear hi hj hk hq0 hq1 hq4
          refine cs.medianAdj (by omega) (by omega) hN c fun x1 s1 h1 e1 c => ?_
          have r1 := r _ _ i1.1 i1.2 e1
          clear e1
          refine cs.medianAdj (by omega) (by omega) hN c fun x2 s2 h2 e2 c => ?_
          have r2 := r _ _ j1.1 j1.2 e2
          clear e2
          refine cs.medianAdj (by omega) (by omega) hN c fun x3 s3 h3 e3 c => ?_
          have r3 := r _ _ k1.1 k1.2 e3
          exact ⟨x1, x2, x3, s3, rfl, rfl, rfl, r1.1, r1.2, r2.1, r2.2, r3.1, r3.2, c⟩
        · have hq0 := hq0 (by omega)
          exact ⟨i, j, k, 0, rfl, rfl, rfl, by omega, by omega, by omega, by omega, by omega, by omega, c⟩
      · rintro u w t h' ⟨x, y, z, s, rfl, rfl, rfl, hx1, hx2, hy1, hy2, hz1, hz2, c⟩
        refine cs.median (by omega) (by omega) (by omega) c fun m s' h' hm c => ?_
        exact ⟨m, s', rfl, by omega, by omega, c⟩
    · exact ⟨j, 0, rfl, by omega, by omega, c⟩
  · rintro u h' ⟨x, s, rfl, hx1, hx2, c⟩
    rw [(c.va (i := 1) rfl).one rfl, vb_some]
    have c' := c.drop (L := [rD v d])
    simp only [go_sem]
    refine brd (fun h8 => ?_) fun h8 => ?_
    · exact hR x 1 _ hx1 hx2 (by omega) c'
    · refine brd (fun h8 => ?_) fun h8 => ?_
      · exact hR x 2 _ hx1 hx2 (by omega) c'
      · exact hR x 0 _ hx1 hx2 (by omega) c'

structure CsS6 (S : Sys) (I : Ids) : Prop where
  nextPow : ∀ {x : Nat} {h R}, x ≤ 1000000 → (∀ k, Bits x k → R (.int .u64 ((2 ^ k : Nat) : Int)) h) → S.C I.f_slices_nextPowerOfTwo [.int .i64 x] h R
  xnext : ∀ {r : Nat} {z : Int} {F h0 h R}, Cx F h0 h [rVar EU r z] → (∀ z' h', Cx F h0 h' [rVar EU r z'] → R (.int .u64 z') h') → S.C I.f_slices_xorshift_Next [at0 r] h R
theorem K_breakPatterns {v : Value} {d : Array Int} {a b : Nat} (cs : CsS6 S I) (hab : a < b) (hb : b ≤ d.size) (hN : d.size ≤ 1000000) (c : Cx F h0 h [rD v d])
    (hR : ∀ e h', PermIn a b d e → Cx F h0 h' [rD v e] → R (.tuple #[]) h') :
    F_slices_breakPatternsOrdered_api_Loc S I v (.int .i64 a) (.int .i64 b) h R := by
  unfold F_slices_breakPatternsOrdered_api_Loc
  rw [bin_sub, vb_some, wr64 (n := (b : Int) - a) (by omega), bin_geq, vb_some]
  refine brd (fun h8 => ?_) fun h8 => hR d _ (permIn_refl _ _ _) c
  rw [cvi_int, vb_some, wu64 (by omega)]
  refine c.nw EU 0 rfl fun r h1 c => ?_
  refine c.sto1 1 rfl _ rfl rfl fun h2 c => ?_
  rw [show (b : Int) - a = ((b - a : Nat) : Int) by omega]
  refine cs.nextPow (by omega) fun k hk => ?_
  generalize hl : b - a = l at *
  have hk2 : 2 ^ k ≤ 2 * l := by
    rcases hk with ⟨h, _⟩ | ⟨h1, h2, _⟩
    · omega
    · obtain ⟨k, rfl⟩ : ∃ k', k = k' + 1 := ⟨k - 1, by omega⟩
      rw [Nat.pow_succ]; simp only [Nat.add_sub_cancel] at h2; omega
  have hk0 : 0 < 2 ^ k := Nat.two_pow_pos k
  generalize 2 ^ k = md at *
  have e1 : ((l : Int)).tdiv 4 = ((l / 4 : Nat) : Int) := Int.ofNat_tdiv l 4
  rw [bin_quo (by omega), vb_some, e1, wr64 (n := ((l / 4 : Nat) : Int)) (by omega), bin_mul, vb_some, wr64 (by omega), bin_add, vb_some, wr64 (by omega), bin_sub, vb_some, wr64 (by omega)]
  refine Lp1.by (fun (x : Nat × Array Int) u h' => u = .int .i64 x.1 ∧ a ≤ x.1 ∧ x.1 ≤ a + l / 4 * 2 + 2 ∧ PermIn a b d x.2 ∧ ∃ z, Cx F h0 h' [rD v x.2, rVar EU r z]) (fun x => a + l / 4 * 2 + 2 - x.1) (a + l / 4 * 2 - 1, d) ⟨by congr 1; dsimp only; omega, by dsimp only; omega, by dsimp only; omega, permIn_refl _ _ _, _, c⟩ ?_
  rintro ⟨x, e⟩ u h3 ⟨rfl, hx1, hx2, hp, z, c⟩ again hagain
  dsimp only at *
  rw [vb_some, bin_mul, vb_some, wr64 (by omega), bin_add, vb_some, wr64 (by omega), bin_add, vb_some, wr64 (by omega), bin_leq, vb_some]
  refine brd (fun h5 => ?_) fun h5 => hR e _ hp (c.drop (L := [rD v e]))
  obtain ⟨F1, c1, up⟩ := c.frame (i := 1) rfl
  refine cs.xnext c1 fun z' h4 c2 => ?_
  have c := up (M := []) c2
  rw [bin_sub, vb_some, wu64 (by omega)]
  rw [show (md : Int) - 1 = ((md - 1 : Nat) : Int) by omega]
  obtain ⟨q, eq, hq⟩ := and_le z' (b := md - 1) (by omega)
  refine vb eq ?_
  rw [cvi_int, vb_some, wr64 (by omega)]
  have hes : e.size = d.size := hp.1
  refine Jn1.at (fun u h' => ∃ (o : Nat), u = .int .i64 o ∧ o < l ∧ Cx F h0 h' [rD v e, rVar EU r z']) ?_ ?_
  · rw [bin_geq, vb_some]
    refine brd (fun h6 => ?_) fun h6 => ?_
    · rw [bin_sub, vb_some, wr64 (by omega)]
      exact ⟨q - l, by congr 1; omega, by omega, c⟩
    · exact ⟨q, rfl, by omega, c⟩
  · rintro u h' ⟨o, rfl, ho, c⟩
    rw [bin_add, vb_some, wr64 (n := (a : Int) + o) (by omega), vb_some]
    refine c.swp 0 rfl (zx := (x : Int)) (zy := (a : Int) + o) (x := x) (y := a + o) rfl (by omega) (by omega) (by omega) fun h6 c => ?_
    rw [bin_add, vb_some, wrS (by omega)]
    refine hagain (x + 1, Go.Sort.swp e x (a + o)) _ _ ⟨rfl, by dsimp only; omega, by dsimp only; omega, ?_, z', c⟩ (by dsimp only; omega)
    exact permIn_trans _ _ _ a b hp (swp_permIn e a b x (a + o) hx1 (by omega) (by omega) (by omega) (by omega))
end Go.En
namespace Go.En
open Prog Spc Go.Sort

variable {S : Sys} {I : Ids} {h h0 h' : Hp} {F F0 : Fp} {R : Value → Hp → Prop} {L : List Res}

structure CsS7 (S : Sys) (I : Ids) : Prop extends CsS0 S I where
  insertion : ∀ {v : Value} {d : Array Int} {a b : Nat} {F h0 h R}, a ≤ b → b ≤ d.size → d.size ≤ 1000000 → Cx F h0 h [rD v d] → (∀ h', Cx F h0 h' [rD v (insertionSort ltInt d a b)] → R (.tuple #[]) h') →
    S.C I.f_slices_insertionSortOrdered_api_Loc [v, .int .i64 a, .int .i64 b] h R
  heapS : ∀ {v : Value} {d : Array Int} {a b : Nat} {F h0 h R}, a ≤ b → b ≤ d.size → d.size ≤ 1000000 → Cx F h0 h [rD v d] → (∀ h', Cx F h0 h' [rD v (heapSort ltInt d a b)] → R (.tuple #[]) h') →
    S.C I.f_slices_heapSortOrdered_api_Loc [v, .int .i64 a, .int .i64 b] h R
  reverse : ∀ {v : Value} {d : Array Int} {a b : Nat} {F h0 h R}, a < b → b ≤ d.size → d.size ≤ 1000000 → Cx F h0 h [rD v d] → (∀ h', Cx F h0 h' [rD v (reverseRange d a b)] → R (.tuple #[]) h') →
    S.C I.f_slices_reverseRangeOrdered_api_Loc [v, .int .i64 a, .int .i64 b] h R
  partIns : ∀ {v : Value} {d : Array Int} {a b : Nat} {F h0 h R}, a < b → b ≤ d.size → d.size ≤ 1000000 → Cx F h0 h [rD v d] →
    (∀ h', Cx F h0 h' [rD v (partialInsertionSort ltInt d a b).1] → R (.bool (partialInsertionSort ltInt d a b).2) h') →
    S.C I.f_slices_partialInsertionSortOrdered_api_Loc [v, .int .i64 a, .int .i64 b] h R
  part : ∀ {v : Value} {d : Array Int} {a b pivot : Nat} {F h0 h R}, a ≤ pivot → pivot < b → b ≤ d.size → d.size ≤ 1000000 → Cx F h0 h [rD v d] →
    (∀ h', Cx F h0 h' [rD v (partition ltInt d a b pivot).2.2] → R (.tuple #[.int .i64 (partition ltInt d a b pivot).1, .bool (partition ltInt d a b pivot).2.1]) h') →
    S.C I.f_slices_partitionOrdered_api_Loc [v, .int .i64 a, .int .i64 b, .int .i64 pivot] h R
  partEq : ∀ {v : Value} {d : Array Int} {a b pivot : Nat} {F h0 h R}, a ≤ pivot → pivot < b → b ≤ d.size → d.size ≤ 1000000 → Cx F h0 h [rD v d] →
    (∀ h', Cx F h0 h' [rD v (partitionEqual ltInt d a b pivot).2] → R (.int .i64 (partitionEqual ltInt d a b pivot).1) h') →
    S.C I.f_slices_partitionEqualOrdered_api_Loc [v, .int .i64 a, .int .i64 b, .int .i64 pivot] h R
  choose : ∀ {v : Value} {d : Array Int} {a b : Nat} {F h0 h R}, a < b → b ≤ d.size → d.size ≤ 1000000 → Cx F h0 h [rD v d] →
    (∀ (x : Nat) (t : Int) h', a ≤ x → x < b → (t = 0 ∨ t = 1 ∨ t = 2) → Cx F h0 h' [rD v d] → R (.tuple #[.int .i64 x, .int .i64 t]) h') →
    S.C I.f_slices_choosePivotOrdered_api_Loc [v, .int .i64 a, .int .i64 b] h R
  breakP : ∀ {v : Value} {d : Array Int} {a b : Nat} {F h0 h R}, a < b → b ≤ d.size → d.size ≤ 1000000 → Cx F h0 h [rD v d] →
    (∀ e h', PermIn a b d e → Cx F h0 h' [rD v e] → R (.tuple #[]) h') →
    S.C I.f_slices_breakPatternsOrdered_api_Loc [v, .int .i64 a, .int .i64 b] h R
  pdq1 : ∀ {x y z w h R}, F_slices_pdqsortOrdered_api_Loc S I x y z w h R → S.C I.f_slices_pdqsortOrdered_api_Loc [x, y, z, w] h R

/-- what the recursion is to show -/
def PdqOk (S : Sys) (I : Ids) (n : Nat) : Prop := ∀ {v : Value} {d : Array Int} {a b l : Nat} {F h0 h R}, b - a < n → a ≤ b → b ≤ d.size → d.size ≤ 1000000 → l ≤ 1000000 → Below ltInt a b d → Cx F h0 h [rD v d] →
  (∀ e h', PermIn a b d e → SortedIn ltInt a b e → Cx F h0 h' [rD v e] → R (.tuple #[]) h') → F_slices_pdqsortOrdered_api_Loc S I v (.int .i64 a) (.int .i64 b) (.int .i64 l) h R
theorem pdq_step {n : Nat} (cs : CsS7 S I) (ih : PdqOk S I n) : PdqOk S I (n + 1) := by
  intro v d a0 b0 l0 F h0 h R hn hab0 hb0 hN hl hB0 c hR
  unfold F_slices_pdqsortOrdered_api_Loc
  refine Lp5.by (fun (x : Nat × Nat × Nat × Bool × Bool × Array Int) u1 u2 u3 u4 u5 h' => u1 = .int .i64 x.1 ∧ u2 = .int .i64 x.2.1 ∧ u3 = .int .i64 x.2.2.1 ∧ u4 = .bool x.2.2.2.1 ∧ u5 = .bool x.2.2.2.2.1 ∧
      x.1 ≤ x.2.1 ∧ x.2.1 ≤ d.size ∧ x.2.1 - x.1 < n + 1 ∧ x.2.2.1 ≤ 1000000 ∧ x.2.2.2.2.2.size = d.size ∧ Below ltInt x.1 x.2.1 x.2.2.2.2.2 ∧
      (∀ r, PermIn x.1 x.2.1 x.2.2.2.2.2 r → SortedIn ltInt x.1 x.2.1 r → PermIn a0 b0 d r ∧ SortedIn ltInt a0 b0 r) ∧ Cx F h0 h' [rD v x.2.2.2.2.2])
    (fun x => x.2.1 - x.1) (a0, b0, l0, true, true, d) ⟨rfl, rfl, rfl, rfl, rfl, hab0, hb0, hn, hl, rfl, hB0, fun r h1 h2 => ⟨h1, h2⟩, c⟩ ?_
  clear hn hab0 hb0 hl hB0 c
  rintro ⟨a, b, l, wb, wp, e⟩ u1 u2 u3 u4 u5 h1 ⟨rfl, rfl, rfl, rfl, rfl, hab, hb, hn, hl, hs, hB, fin, c⟩ again hagain
  dsimp only at *
  rw [bin_sub, vb_some, wr64 (n := (b : Int) - a) (by omega), bin_leq, vb_some]
  refine brd (fun h12 => ?_) fun h12 => ?_
  · refine cs.insertion hab (by omega) (by omega) c fun h2 c => ?_
    obtain ⟨p1, p2⟩ := insertionSort_holds swo_ltInt e a b hab (by omega)
    obtain ⟨q1, q2⟩ := fin _ p1 p2
    exact hR _ _ q1 q2 c
  rw [bin_eql, vb_some]
  refine brd (fun hl0 => ?_) fun hl0 => ?_
  · refine cs.heapS hab (by omega) (by omega) c fun h2 c => ?_
    obtain ⟨p1, p2⟩ := heapSort_holds swo_ltInt e a b hab (by omega)
    obtain ⟨q1, q2⟩ := fin _ p1 p2
    exact hR _ _ q1 q2 c
  have hab : a < b := by omega
  -- the patterns are broken, perhaps
  refine Jn1.at (fun u h' => ∃ (l2 : Nat) (e1 : Array Int), u = .int .i64 l2 ∧ l2 ≤ 1000000 ∧ PermIn a b e e1 ∧ Cx F h0 h' [rD v e1]) ?_ ?_
  · cases wb with
    | false =>
      simp only [go_sem]
      refine cs.breakP hab (by omega) (by omega) c fun e1 h2 p c => ?_
      rw [wr64 (n := (l : Int) - 1) (by omega)]
      exact ⟨l - 1, e1, by congr 1; omega, by omega, p, c⟩
    | true =>
      simp only [go_sem]
      exact ⟨l, e, rfl, hl, permIn_refl _ _ _, c⟩
  clear c hl0 hl
  rintro u h2 ⟨l, e1, rfl, hl, p1, c⟩
  have hs1 := p1.1
  refine cs.choose hab (by omega) (by omega) c fun x t h3 hx1 hx2 ht c => ?_
  refine ext0t (ext1t ?_)
  refine Jn2.at (fun u w h' => ∃ (p : Nat) (t : Int) (e2 : Array Int), u = .int .i64 p ∧ w = .int .i64 t ∧ a ≤ p ∧ p < b ∧ PermIn a b e e2 ∧ Cx F h0 h' [rD v e2]) ?_ ?_
  · rw [bin_eql, vb_some]
    refine brd (fun h8 => ?_) fun h8 => ?_
    · refine cs.reverse hab (by omega) (by omega) c fun h4 c => ?_
      rw [bin_sub, vb_some, wr64 (n := (b : Int) - 1) (by omega), bin_sub, vb_some, wr64 (n := (x : Int) - a) (by omega), bin_sub, vb_some, wr64 (by omega)]
      exact ⟨b - 1 - (x - a), 1, _, by congr 1; omega, rfl, by omega, by omega, permIn_trans _ _ _ a b p1 (reverseRange_holds e1 a b (by omega) (by omega)), c⟩
    · exact ⟨x, t, e1, rfl, rfl, hx1, hx2, p1, c⟩
  clear c hx1 hx2 ht p1 hs1
  rintro u w h4 ⟨p, t, e2, rfl, rfl, hp1, hp2, p2, c⟩
  have hs2 := p2.1
  have B2 := hB.perm (by omega) p2
  refine Jn0.at (fun h' => ∃ e3 : Array Int, PermIn a b e e3 ∧ Cx F h0 h' [rD v e3]) ?_ ?_
  · refine Jn1.at (fun u h' => (∃ bb : Bool, u = .bool bb) ∧ Cx F h0 h' [rD v e2]) ?_ ?_
    · cases wb with
      | false => exact ⟨⟨_, rfl⟩, c⟩
      | true =>
        cases wp with
        | false => exact ⟨⟨_, rfl⟩, c⟩
        | true =>
          rw [br_true, br_true, bin_eql, vb_some]
          exact ⟨⟨_, rfl⟩, c⟩
    · rintro u h5 ⟨⟨bb, rfl⟩, c⟩
      cases bb with
      | false => exact ⟨e2, p2, c⟩
      | true =>
        rw [br_true]
        refine cs.partIns hab (by omega) (by omega) c fun h6 c => ?_
        obtain ⟨q1, q2⟩ := partialInsertionSort_holds swo_ltInt e2 a b hab (by omega) B2
        generalize partialInsertionSort ltInt e2 a b = y at *
        obtain ⟨e3, ok⟩ := y
        dsimp only at *
        have q3 := permIn_trans _ _ _ a b p2 q1
        cases ok with
        | true =>
          rw [br_true]
          obtain ⟨r1, r2⟩ := fin _ q3 (q2 rfl)
          exact hR _ _ r1 r2 c
        | false => exact ⟨e3, q3, c⟩
  clear c B2 hs2 p2
  rintro h5 ⟨e3, p3, c⟩
  have hs3 := p3.1
  have B3 := hB.perm (by omega) p3
  refine Jn1.at (fun u h' => ∃ bb : Bool, u = .bool bb ∧ (bb = true → 0 < a ∧ ltInt e3[a - 1]! e3[p]! = false) ∧ Cx F h0 h' [rD v e3]) ?_ ?_
  · rw [bin_gtr, vb_some]
    refine brd (fun h8 => ?_) fun h8 => ?_
    · rw [bin_sub, vb_some, wr64 (n := (a : Int) - 1) (by omega)]
      refine c.rd 0 rfl (n := a - 1) (by omega) (by omega) ?_
      refine c.rd 0 rfl (n := p) rfl (by omega) ?_
      refine c.pur cs.less fun h6 c => ?_
      simp only [go_sem]
      exact ⟨_, rfl, fun hh => ⟨by omega, by simpa using hh⟩, c⟩
    · exact ⟨false, rfl, (fun hh => by cases hh), c⟩
  clear c
  rintro u h6 ⟨bb, rfl, hbb, c⟩
  cases bb with
  | true =>
    rw [br_true]
    obtain ⟨ha0, hnl⟩ := hbb rfl
    refine cs.partEq hp1 hp2 (by omega) (by omega) c fun h7 c => ?_
    obtain ⟨m1, m2, ms, mB, mfin⟩ := round_eq swo_ltInt (partitionEqual_holds ltInt) ha0 hp1 hp2 (by omega) B3 hnl (mid := (partitionEqual ltInt e3 a b p).1) (d4 := (partitionEqual ltInt e3 a b p).2) rfl
    generalize partitionEqual ltInt e3 a b p = y at *
    obtain ⟨mid, e4⟩ := y
    dsimp only at *
    refine hagain (mid, b, l, wb, wp, e4) _ _ _ _ _ _ ⟨rfl, rfl, rfl, rfl, rfl, m2, hb, by dsimp only; omega, hl, by dsimp only; omega, mB, fun r r1 r2 => ?_, c⟩ (by dsimp only; omega)
    obtain ⟨q1, q2⟩ := mfin r r1 r2
    exact fin r (permIn_trans _ _ _ a b p3 q1) q2
  | false =>
    rw [br_false]
    refine cs.part hp1 hp2 (by omega) (by omega) c fun h7 c => ?_
    refine ext0t (ext1t ?_)
    obtain ⟨m1, m2, ms, mBa, mBr, mL, mR⟩ := round_part swo_ltInt (partition_holds ltInt) hp1 hp2 (by omega) B3 (mid := (partition ltInt e3 a b p).1) (ap := (partition ltInt e3 a b p).2.1) (d4 := (partition ltInt e3 a b p).2.2) rfl
    generalize partition ltInt e3 a b p = y at *
    obtain ⟨mid, ap, e4⟩ := y
    dsimp only at *
    rw [bin_sub, vb_some, wr64 (n := (mid : Int) - a) (by omega), bin_sub, vb_some, wr64 (n := (b : Int) - mid) (by omega), bin_quo (by omega), vb_some, bin_lss, vb_some]
    refine brd (fun h8 => ?_) fun h8 => ?_
    · rw [bin_geq, vb_some]
      refine cs.pdq1 (ih (by omega) m1 (by omega) (by omega) hl mBa c fun e5 h8 r1 r2 c => ?_)
      obtain ⟨hB5, hfin5⟩ := mL _ r1 r2
      have hs5 := r1.1
      rw [bin_add, vb_some, wrS (by omega)]
      refine hagain (mid + 1, b, l, _, ap, e5) _ _ _ _ _ _ ⟨rfl, rfl, rfl, rfl, rfl, by dsimp only; omega, hb, by dsimp only; omega, hl, by dsimp only; omega, hB5, fun r r1 r2 => ?_, c⟩ (by dsimp only; omega)
      obtain ⟨q1, q2⟩ := hfin5 r r1 r2
      exact fin r (permIn_trans _ _ _ a b p3 q1) q2
    · rw [bin_geq, vb_some, bin_add, vb_some, wrS (by omega)]
      refine cs.pdq1 (ih (a := mid + 1) (by omega) (by omega) (by omega) (by omega) hl mBr c fun e5 h8 r1 r2 c => ?_)
      obtain ⟨hB5, hfin5⟩ := mR _ r1 r2
      have hs5 := r1.1
      refine hagain (a, mid, l, _, ap, e5) _ _ _ _ _ _ ⟨rfl, rfl, rfl, rfl, rfl, by dsimp only; omega, by dsimp only; omega, by dsimp only; omega, hl, by dsimp only; omega, hB5, fun r r1 r2 => ?_, c⟩ (by dsimp only; omega)
      obtain ⟨q1, q2⟩ := hfin5 r r1 r2
      exact fin r (permIn_trans _ _ _ a b p3 q1) q2
theorem pdq_all (cs : CsS7 S I) : ∀ n, PdqOk S I n
  | 0 => fun hn => absurd hn (Nat.not_lt_zero _)
  | n + 1 => pdq_step cs (pdq_all cs n)

/-- the sorted list -/
abbrev sorted (xs : List Int) : List Int := xs.mergeSort (fun x y => decide (x ≤ y))
structure CsS8 (S : Sys) (I : Ids) : Prop where
  len : ∀ {x : Nat} {h R}, x ≤ 1000000 → (∀ k, Bits x k → R (.int .i64 (k : Nat)) h) → S.C I.f_math_bits_Len [.int .u64 x] h R
  pdq : ∀ {v : Value} {d : Array Int} {a b l : Nat} {F h0 h R}, a ≤ b → b ≤ d.size → d.size ≤ 1000000 → l ≤ 1000000 → Below ltInt a b d → Cx F h0 h [rD v d] →
    (∀ e h', PermIn a b d e → SortedIn ltInt a b e → Cx F h0 h' [rD v e] → R (.tuple #[]) h') → S.C I.f_slices_pdqsortOrdered_api_Loc [v, .int .i64 a, .int .i64 b, .int .i64 l] h R
theorem K_Sort {v : Value} {xs : List Int} (cs : CsS8 S I) (hN : xs.length ≤ 1000000) (c : Cx F h0 h [rSl EI1 v xs]) (hR : ∀ h', Cx F h0 h' [rSl EI1 v (sorted xs)] → R (.tuple #[]) h') :
    F_slices_Sort_api_Loc_api_Loc S I v h R := by
  unfold F_slices_Sort_api_Loc_api_Loc
  rw [Sl.ln (c.sl (i := 0) rfl).sl, vb_some, cvi_int, vb_some, wu64 (by omega)]
  refine cs.len hN fun k hk => ?_
  have c' : Cx F h0 h [rD v xs.toArray] := c
  refine cs.pdq (a := 0) (b := xs.length) (d := xs.toArray) (Nat.zero_le _) (by simp) (by simpa using hN) (by have := bits_le hk hN; omega) (.inl rfl) c' fun e h' p s c => ?_
  have key := sorted_unique_holds swo_ltInt (fun x y h1 h2 => by simp only [ltInt, decide_eq_false_iff_not] at h1 h2; omega) xs.toArray e (by simpa using p) (by simpa using s)
  unfold rD at c
  rw [key] at c
  refine hR _ ?_
  have e1 : (fun x y : Int => !ltInt y x) = fun x y => decide (x ≤ y) := by
    funext x y
    show (!decide (y < x)) = decide (x ≤ y)
    by_cases h : x ≤ y
    · have h' : ¬ y < x := by omega
      simp [h, h']
    · have h' : y < x := by omega
      simp [h, h']
  rw [e1] at c
  exact c
end Go.En
namespace Go.En
open Prog Spc Go.Sort

variable {S : Sys} {I : Ids} {h h0 h' : Hp} {F F0 : Fp} {R : Value → Hp → Prop} {L : List Res}

/-- runs of equal elements come to one -/
def cpt : List Int → List Int
  | [] => []
  | [a] => [a]
  | a :: b :: l => if a = b then cpt (b :: l) else a :: cpt (b :: l)
theorem cpt_snoc (y : Int) : ∀ (l : List Int) (x : Int), cpt (l ++ [x, y]) = if y = x then cpt (l ++ [x]) else cpt (l ++ [x]) ++ [y]
  | [], x => by
    show cpt [x, y] = _
    simp only [cpt, List.nil_append]
    by_cases h : x = y
    · subst h; simp [cpt]
    · rw [if_neg h, if_neg (fun e => h e.symm)]; rfl
  | [a], x => by
    show cpt [a, x, y] = if y = x then cpt [a, x] else cpt [a, x] ++ [y]
    have := cpt_snoc y [] x
    simp only [List.nil_append] at this
    rw [cpt, this]
    simp only [cpt]
    by_cases h : a = x <;> by_cases h2 : y = x <;> simp [h, h2]
  | a :: b :: l, x => by
    have := cpt_snoc y (b :: l) x
    simp only [List.cons_append] at this ⊢
    rw [cpt, this, cpt]
    by_cases h : a = b <;> by_cases h2 : y = x <;> simp [h, h2]
theorem take_snoc {xs : List Int} {k : Nat} {x : Int} (h : xs[k]? = some x) : xs.take (k + 1) = xs.take k ++ [x] := by
  rw [List.take_add_one, h]; rfl
/-- one more -/
theorem cpt_take {xs : List Int} {k : Nat} {x y : Int} (h1 : xs[k]? = some x) (h2 : xs[k + 1]? = some y) : cpt (xs.take (k + 2)) = if y = x then cpt (xs.take (k + 1)) else cpt (xs.take (k + 1)) ++ [y] := by
  rw [take_snoc h2, take_snoc h1, List.append_assoc]
  exact cpt_snoc y (xs.take k) x
theorem cpt_one {xs : List Int} (h : 1 ≤ xs.length) : cpt (xs.take 1) = xs.take 1 := by
  cases xs with
  | nil => simp at h
  | cons a l => rfl
theorem cpt_mem : ∀ {l : List Int} {x : Int}, x ∈ cpt l ↔ x ∈ l
  | [], x => Iff.rfl
  | [a], x => Iff.rfl
  | a :: b :: l, x => by
    rw [cpt]
    split
    · rename_i h; subst h; rw [cpt_mem]; simp
    · rw [List.mem_cons, cpt_mem, List.mem_cons (a := x) (b := a)]
theorem cpt_sorted : ∀ {l : List Int}, l.Pairwise (· ≤ ·) → (cpt l).Pairwise (· < ·)
  | [], _ => .nil
  | [a], _ => by simp [cpt]
  | a :: b :: l, h => by
    rw [cpt]
    have h2 := List.pairwise_cons.1 h
    split
    · exact cpt_sorted h2.2
    · rename_i hab
      refine List.pairwise_cons.2 ⟨fun x hx => ?_, cpt_sorted h2.2⟩
      rw [cpt_mem] at hx
      have h3 := h2.1 b (by simp)
      rcases List.mem_cons.1 hx with rfl | hx
      · omega
      · have := (List.pairwise_cons.1 h2.2).1 x hx; omega

section
variable {v : Value} {xs : List Int}
/-- the index of a part -/
theorem sub_ix {k : Nat} (o : Ow EI1 h v xs) (hk : k < xs.length) : ∃ w, slc 1 v (some (.int .i64 (k : Nat))) none none = some w ∧ lnS w = some (.int .i64 ((xs.length - k : Nat) : Int)) ∧
    ∀ (j : Nat) {z z' : Int} {q q' : IntKind}, z = j → z' = ((k + j : Nat) : Int) → k + j < xs.length → ixs 1 w (.int q z) = ixs 1 v (.int q' z') := by
  rcases o with ⟨rfl, rfl⟩ | ⟨r, o, cap, rfl, hl, hb, hr, hw⟩
  · simp at hk
  · refine ⟨_, slc_ok (l := k) (u := xs.length) (.inr ⟨_, _, rfl, rfl⟩) (.inl ⟨rfl, rfl⟩) (by omega) hl, rfl, fun j z z' q q' hz hz' hj => ?_⟩
    subst hz hz'
    rw [if_neg (by omega)]
    simp only [ixs, Option.map_some, addN]
    rw [if_pos (by omega), if_pos (by omega)]
    simp only [Int.toNat_natCast, Nat.mul_one]
    congr 4
    omega
/-- the end of a slice is cleared, the front is kept -/
theorem clr_ok {m : Nat} {z : Value} (o : Ow EI1 h v xs) (hm : m < xs.length) (hz : z.oneCell' = true) : ∃ w h' u, slc 1 v (some (.int .i64 (m : Nat))) none none = some w ∧ clrS #[z] w h = some (.tuple #[], h') ∧
    slc 1 v none (some (.int .i64 (m : Nat))) none = some u ∧ Ow EI1 h' u (xs.take m) ∧ blk u = blk v ∧ Ch (fun r => blk v = some r) h h' := by
  obtain ⟨u, e1, o', hb'⟩ := o.sub (n := 1) rfl (hi := some (.int .i64 (m : Nat))) (u := m) (.inr ⟨_, _, rfl, rfl⟩) (by omega)
  rcases o with ⟨rfl, rfl⟩ | ⟨r, o, cap, rfl, hl, hb, hr, hw⟩
  · simp at hm
  have e2 := slc_ok (n := 1) (a := some (⟨r, o, none⟩ : Addr)) (len := xs.length) (cap := cap) (lo := some (.int .i64 (m : Nat))) (hi := none) (l := m) (u := xs.length) (.inr ⟨_, _, rfl, rfl⟩) (.inl ⟨rfl, rfl⟩) (by omega) hl
  rw [if_neg (by omega)] at e2
  simp only [Option.map_some, addN, Nat.mul_one] at e2
  obtain ⟨nn, hnn⟩ : ∃ nn, xs.length - m = nn + 1 := ⟨xs.length - m - 1, by omega⟩
  have hzl : (Builtin.zeroCells #[z] (nn + 1)).toList.length = nn + 1 := by simp [Builtin.zeroCells]
  obtain ⟨h', e3, up⟩ := stores_ok (r := r) (o := o + m) (Builtin.zeroCells #[z] (nn + 1)).toList 0 h (fun v hv => by
      simp only [Builtin.zeroCells, Array.toList_map, List.mem_map] at hv
      obtain ⟨i, _, rfl⟩ := hv
      simp only [List.size_toArray, List.length_cons, List.length_nil, Nat.zero_add, Nat.mod_one]
      exact hz) (fun j hj => by
      rw [hzl] at hj
      have := hw (m + j) (by show _ < cap * 1; omega)
      rw [show o + m + 0 + j = o + (m + j) by omega]; exact this)
  refine ⟨_, h', u, e2, ?_, e1, ?_, hb', up.ch.mono fun x _ e => by subst e; rfl⟩
  · rw [hnn]
    simp only [clrS]
    rw [e3]; rfl
  · have e4 := slc_ok (n := 1) (a := some (⟨r, o, none⟩ : Addr)) (len := xs.length) (cap := cap) (lo := none) (hi := some (.int .i64 (m : Nat))) (l := 0) (u := m) (.inl ⟨rfl, rfl⟩) (.inr ⟨_, _, rfl, rfl⟩) (by omega) (by omega)
    rw [e4] at e1
    have e5 := Option.some.inj e1
    have e6 : (if cap = 0 then some (⟨r, o, none⟩ : Addr) else Option.map (fun a : Addr => a.add (0 * 1)) (some ⟨r, o, none⟩)) = some ⟨r, o, none⟩ := by
      split
      · rfl
      · simp [addN]
    rw [e6] at e5
    subst e5
    refine .inr ⟨r, o, cap, by rw [List.length_take, Nat.min_eq_left (by omega)]; simp, by rw [List.length_take]; omega, by rw [up.size]; exact hb, fun i x hx j u hu => ?_, fun j hj => ?_⟩
    · have hlt := (List.getElem?_eq_some_iff.mp hx).1
      rw [List.length_take] at hlt
      rw [List.getElem?_take_of_lt (by omega)] at hx
      have hj : j < 1 := (List.getElem?_eq_some_iff.mp hu).1
      rw [up.keep _ (fun q hq => by show o + i * 1 + j ≠ _; omega)]
      exact hr i x hx j u hu
    · exact ⟨up.some (hw j hj).1, by rw [up.fz]; exact (hw j hj).2⟩
end

theorem K_Compact {v : Value} {xs : List Int} (hN : xs.length ≤ 1000000) (c : Cx F h0 h [rSl EI1 v xs]) (hR : ∀ u h', Cx F h0 h' [rSl EI1 u (cpt xs)] → R u h') :
    F_slices_Compact_api_Loc_api_Loc S I v h R := by
  unfold F_slices_Compact_api_Loc_api_Loc
  rw [Sl.ln (c.sl (i := 0) rfl).sl, vb_some, bin_lss, vb_some]
  refine brd (fun h2 => ?_) fun h2 => ?_
  · refine hR _ _ ?_
    have : cpt xs = xs := by
      match xs, h2 with
      | [], _ => rfl
      | [a], _ => rfl
      | a :: b :: l, h2 => simp at h2; omega
    rw [this]; exact c
  refine Lp1.by (fun (k : Nat) u h' => u = .int .i64 k ∧ 1 ≤ k ∧ k ≤ xs.length ∧ cpt (xs.take k) = xs.take k ∧ Cx F h0 h' [rSl EI1 v xs]) (fun k => xs.length - k) 1 ⟨rfl, Nat.le_refl _, by omega, cpt_one (by omega), c⟩ ?_
  clear c
  rintro k u h1 ⟨rfl, hk1, hk2, hcp, c⟩ again hagain
  rw [vb_some, bin_lss, vb_some]
  refine brd (fun h3 => ?_) fun h3 => ?_
  · have hx : xs[k]? = some xs[k] := List.getElem?_eq_getElem (by omega)
    have hy : xs[k - 1]? = some xs[k - 1] := List.getElem?_eq_getElem (by omega)
    refine (c.sl (i := 0) rfl).sl.one rfl hx rfl rfl ?_
    rw [bin_sub, vb_some, wr64 (n := (k : Int) - 1) (by omega)]
    refine (c.sl (i := 0) rfl).sl.one rfl hy (by omega) rfl ?_
    have hct := cpt_take (k := k - 1) hy (y := xs[k]) (by rw [show k - 1 + 1 = k by omega]; exact hx)
    rw [show k - 1 + 1 = k by omega, show k - 1 + 2 = k + 1 by omega] at hct
    rw [bin_eql, vb_some]
    refine brd (fun h4 => ?_) fun h4 => ?_
    · rw [if_pos h4] at hct
      obtain ⟨w, e1, e2, e3⟩ := sub_ix (k := k) (c.sl (i := 0) rfl) (by omega)
      refine vb e1 ?_
      refine Lp2.by (fun (x : Nat × Nat × List Int) u1 u2 h' => u1 = .int .i64 x.1 ∧ u2 = .int .i64 x.2.1 ∧ 1 ≤ x.2.1 ∧ k + x.2.1 ≤ xs.length ∧ x.1 < k + x.2.1 ∧ x.2.2.length = xs.length ∧ (∀ j, k + x.2.1 ≤ j + 1 → x.2.2[j]? = xs[j]?) ∧
          x.2.2.take x.1 = cpt (xs.take (k + x.2.1)) ∧ Cx F h0 h' [rSl EI1 v x.2.2]) (fun x => xs.length - x.2.1) (k, 1, xs)
        ⟨rfl, rfl, Nat.le_refl _, by dsimp only; omega, by dsimp only; omega, rfl, fun _ _ => rfl, by dsimp only; rw [hct, hcp], c⟩ ?_
      rintro ⟨m, q, ys⟩ u1 u2 h5 ⟨rfl, rfl, hq1, hq2, hm, hlen, hsame, htk, c⟩ again2 hagain2
      dsimp only at *
      rw [e2, vb_some, bin_lss, vb_some]
      refine brd (fun h6 => ?_) fun h6 => ?_
      · have hkq : k + q < xs.length := by omega
        have ha : xs[k + q]? = some xs[k + q] := List.getElem?_eq_getElem hkq
        have hb : xs[k + q - 1]? = some xs[k + q - 1] := List.getElem?_eq_getElem (by omega)
        have hct2 := cpt_take (k := k + q - 1) hb (y := xs[k + q]) (by rw [show k + q - 1 + 1 = k + q by omega]; exact ha)
        rw [show k + q - 1 + 1 = k + q by omega, show k + q - 1 + 2 = k + (q + 1) by omega] at hct2
        have ha' : ys[k + q]? = some xs[k + q] := by rw [hsame _ (by omega)]; exact ha
        have hb' : ys[k + q - 1]? = some xs[k + q - 1] := by rw [hsame _ (by omega)]; exact hb
        have rda : ∀ K : Value → Prop, K (.int .i64 xs[k + q]) → Vb (ixs 1 w (.int .i64 (q : Nat))) fun p => Vb (ldc p h5) K := fun K hK => by
          rw [e3 q (q' := .i64) rfl rfl hkq]
          exact (c.sl (i := 0) rfl).sl.one rfl ha' rfl rfl hK
        refine Jn1.at (fun u h' => ∃ (m2 : Nat) (zs : List Int), u = .int .i64 m2 ∧ m2 < k + (q + 1) ∧ zs.length = xs.length ∧ (∀ j, k + (q + 1) ≤ j + 1 → zs[j]? = xs[j]?) ∧ zs.take m2 = cpt (xs.take (k + (q + 1))) ∧ Cx F h0 h' [rSl EI1 v zs]) ?_ ?_
        · refine rda _ ?_
          rw [bin_sub, vb_some, wr64 (n := (q : Int) - 1) (by omega)]
          rw [e3 (q - 1) (q' := .i64) (z' := ((k + q - 1 : Nat) : Int)) (by omega) (by omega) (by omega)]
          refine (c.sl (i := 0) rfl).sl.one rfl hb' rfl rfl ?_
          rw [bin_neq, vb_some]
          refine brd (fun h7 => ?_) fun h7 => ?_
          · refine rda _ ?_
            refine c.wr 0 rfl (n := m) rfl (by omega) xs[k + q] rfl rfl fun h8 c => ?_
            rw [bin_add, vb_some, wrS (by omega)]
            refine ⟨m + 1, ys.set m xs[k + q], rfl, by omega, by rw [List.length_set]; exact hlen, fun j hj => ?_, ?_, c⟩
            · rw [List.getElem?_set_ne (by omega)]; exact hsame j (by omega)
            · rw [if_neg h7] at hct2
              rw [hct2, ← htk, take_snoc (x := xs[k + q]) (by rw [List.getElem?_set_self (by omega)]), List.take_set_of_le (Nat.le_refl _)]
          · have h7 : xs[k + q] = xs[k + q - 1] := Decidable.not_not.1 h7
            rw [if_pos h7] at hct2
            exact ⟨m, ys, rfl, by omega, hlen, fun j hj => hsame j (by omega), by rw [hct2]; exact htk, c⟩
        · rintro u h6 ⟨m2, zs, rfl, hm2, hzl, hzs, hzt, c⟩
          rw [bin_add, vb_some, wrS (by omega)]
          exact hagain2 (m2, q + 1, zs) _ _ _ ⟨rfl, rfl, by dsimp only; omega, by dsimp only; omega, hm2, hzl, hzs, hzt, c⟩ (by dsimp only; omega)
      · have hq : k + q = xs.length := by omega
        rw [hq, List.take_length] at htk
        obtain ⟨F1, ⟨o, hf⟩, up⟩ := c.upd (i := 0) rfl
        obtain ⟨w2, h7, u, e4, e5, e6, o', hb, ch⟩ := clr_ok (m := m) (z := .int .i64 0) o (by omega) rfl
        refine vb e4 (eb e5 (vb e6 ?_))
        have c2 := up (F' := F1) (B := rSl EI1 u (ys.take m)) ⟨o', fun q => by rw [hf, hb]⟩ (mv_same (ch.mono fun q _ e => (hf q).2 e))
        rw [htk] at c2
        exact hR _ _ c2
    · rw [if_neg h4] at hct
      rw [bin_add, vb_some, wrS (by omega)]
      refine hagain (k + 1) _ _ ⟨rfl, by omega, by omega, ?_, c⟩ (by omega)
      rw [hct, hcp, take_snoc hx]
  · have : k = xs.length := by omega
    subst this
    rw [List.take_length] at hcp
    refine hR _ _ ?_
    rw [hcp]; exact c
end Go.En
namespace Go.En
open Prog Spc Go.Sort

variable {S : Sys} {I : Ids} {h h0 h' : Hp} {F F0 : Fp} {R : Value → Hp → Prop} {L : List Res}

/-- an entry -/
structure E6 where
  at' : Int
  old : W3
  new : Int
  wr : Bool
def EE : Enc E6 := { n := 6, c := fun x => [.int .i64 x.at', .int .i64 x.old.v, .int .u32 x.old.ver, .int .u32 x.old.ref, .int .i64 x.new, .bool x.wr], len := fun _ => rfl, one := fun a v h => by simp only [List.mem_cons, List.not_mem_nil, or_false] at h; rcases h with rfl | rfl | rfl | rfl | rfl | rfl <;> rfl }
def mE (x : E6) : Value := .agg #[.int .i64 x.at', .int .i64 x.old.v, .int .u32 x.old.ver, .int .u32 x.old.ref, .int .i64 x.new, .bool x.wr]
theorem EE_old {r o : Nat} {x : E6} (H : Row EE h r o x) : Row EW h r (o + 1) x.old := fun j v hv => by
  have hj : j < 3 := (List.getElem?_eq_some_iff.1 hv).1
  have e : (EE.c x)[1 + j]? = (EW.c x.old)[j]? := by
    match j, hj with
    | 0, _ => rfl
    | 1, _ => rfl
    | 2, _ => rfl
  have := H (1 + j) v (e.trans hv)
  rw [show o + 1 + j = o + (1 + j) by omega]; exact this
theorem Va.fld2 {α : Type} {E : Enc α} {r : Nat} {x : α} (H : Va E h r x) (i j : Nat) {u : Value} (hu : (E.c x)[i + j]? = some u) {k : Value → Prop} (hk : k u) : Vb (fa i (at0 r)) fun p => Vb (fa j p) fun q => Vb (ldc q h) k := by
  rw [show at0 r = .pointer (some ⟨r, 0, none⟩) from rfl, fa_add, vb_some, fa_add, vb_some, Nat.add_assoc]
  exact vb (H.row.ldc hu) hk
theorem Va.old {r : Nat} {x : E6} (H : Va EE h r x) {k : Value → Prop} (hk : k (mW x.old)) : Vb (fa 1 (at0 r)) fun p => Vb (lda 3 p h) k := by
  rw [show at0 r = .pointer (some ⟨r, 0, none⟩) from rfl, fa_add, vb_some]
  exact vb ((EE_old H.row).lda (n := 3) rfl) hk

/-! ### Plain words -/
theorem K_Ref0 : ∀ h R, Cx (fun _ => False) h h [] → (∀ h' M, Cx (fun _ => False) h h' M → R (.tuple #[.int .u32 0, .int .i64 3]) h') → F_word_Ref S I (.int .i64 0) (.int .i64 0) h R := by
  intro h R c hR
  unfold F_word_Ref
  refine .here ?_
  rw [bin_lss, vb_some]
  exact hR _ _ c
structure CsE0 (S : Sys) (I : Ids) : Prop where
  ref0 : Pur S I.f_word_Ref [.int .i64 0, .int .i64 0] (.tuple #[.int .u32 0, .int .i64 3])
theorem K_Who0 (cs : CsE0 S I) : ∀ h R, Cx (fun _ => False) h h [] → (∀ h' M, Cx (fun _ => False) h h' M → R (.tuple #[.int .i64 0, .int .i64 0]) h') → F_word_Who S I (.int .u32 0) h R := by
  intro h R c hR
  unfold F_word_Who
  refine vb (v := .int .u32 0) rfl ?_
  refine vb (v := .int .i64 0) rfl ?_
  refine vb (v := .int .u32 0) rfl ?_
  refine vb (v := .int .i64 0) rfl ?_
  refine c.pur cs.ref0 fun h1 c => ?_
  refine ext0t (ext1t ?_)
  rw [bin_neq, vb_some]
  exact hR _ _ c
structure CsE1 (S : Sys) (I : Ids) : Prop where
  who0 : Pur S I.f_word_Who [.int .u32 0] (.tuple #[.int .i64 0, .int .i64 0])
theorem K_kind0 {w : W3} (cs : CsE1 S I) (hw : w.ref = 0) : ∀ h R, Cx (fun _ => False) h h [] → (∀ h' M, Cx (fun _ => False) h h' M → R (.int .i64 0) h') → F_word_kind S I (mW w) h R := by
  intro h R c hR
  unfold F_word_kind
  refine c.nw EW w rfl fun r h1 c => ?_
  refine (c.va (i := 0) rfl).fld (j := 2) (u := .int .u32 0) (by rw [← hw]; rfl) ?_
  refine c.pur cs.who0 fun h2 c => ?_
  refine ext0t (ext1t ?_)
  refine (c.va (i := 0) rfl).fld (j := 2) (u := .int .u32 0) (by rw [← hw]; rfl) ?_
  rw [bin_eql, vb_some]
  exact hR _ _ c
structure CsE2 (S : Sys) (I : Ids) : Prop where
  kind0 : ∀ {w : W3}, w.ref = 0 → Pur S I.f_word_kind [mW w] (.int .i64 0)
theorem K_Plain0 {w : W3} (cs : CsE2 S I) (hw : w.ref = 0) : ∀ h R, Cx (fun _ => False) h h [] → (∀ h' M, Cx (fun _ => False) h h' M → R (.bool true) h') → F_word_Plain S I (mW w) h R := by
  intro h R c hR
  unfold F_word_Plain
  refine c.nw EW w rfl fun r h1 c => ?_
  rw [(c.va (i := 0) rfl).whole (n := 3) rfl, vb_some]
  refine c.pur (cs.kind0 hw) fun h2 c => ?_
  rw [bin_eql, vb_some]
  exact hR _ _ c

/-! ### One entry, many entries -/
def wrongE (x : E6) : Int := if x.at' < 0 ∨ 4096 ≤ x.at' then 3 else if x.wr = true ∧ x.old.ver = 4294967295 then 9 else if x.wr = false ∧ x.new ≠ x.old.v then 4 else 0
structure CsE3 (S : Sys) (I : Ids) : Prop where
  plain0 : ∀ {w : W3}, w.ref = 0 → Pur S I.f_word_Plain [mW w] (.bool true)
theorem K_wrong {x : E6} (cs : CsE3 S I) (hx : x.old.ref = 0) : ∀ h R, Cx (fun _ => False) h h [] → (∀ h' M, Cx (fun _ => False) h h' M → R (.int .i64 (wrongE x)) h') → F_entry_wrong S I (mE x) h R := by
  intro h R c hR
  unfold F_entry_wrong
  refine c.nw EE x rfl fun r h1 c => ?_
  unfold wrongE at hR
  refine Jn1.at (fun u h' => (∃ bb : Bool, u = .bool bb ∧ (bb = true ↔ (x.at' < 0 ∨ 4096 ≤ x.at'))) ∧ Cx (fun _ => False) h h' [rVar EE r x]) ?_ ?_
  · refine (c.va (i := 0) rfl).fld (j := 0) rfl ?_
    rw [bin_lss, vb_some]
    refine brd (fun h2 => ?_) fun h2 => ?_
    · exact ⟨⟨true, rfl, by simp [h2]⟩, c⟩
    · refine (c.va (i := 0) rfl).fld (j := 0) rfl ?_
      rw [bin_geq, vb_some]
      exact ⟨⟨_, rfl, by simp only [decide_eq_true_eq]; omega⟩, c⟩
  clear c
  rintro u h2 ⟨⟨bb, rfl, hbb⟩, c⟩
  cases bb with
  | true =>
    rw [br_true]
    rw [if_pos (hbb.1 rfl)] at hR
    exact hR _ _ c
  | false =>
    rw [br_false]
    rw [if_neg (fun e => by have := hbb.2 e; cases this)] at hR
    refine (c.va (i := 0) rfl).old ?_
    refine c.pur (cs.plain0 hx) fun h3 c => ?_
    refine vb (v := .bool false) rfl ?_
    rw [br_false]
    refine Jn1.at (fun u h' => (∃ bb : Bool, u = .bool bb ∧ (bb = true ↔ (x.wr = true ∧ x.old.ver = 4294967295))) ∧ Cx (fun _ => False) h h' [rVar EE r x]) ?_ ?_
    · refine (c.va (i := 0) rfl).fld (j := 5) rfl ?_
      cases hw : x.wr with
      | true =>
        rw [br_true]
        refine (c.va (i := 0) rfl).fld2 1 1 rfl ?_
        refine vb (v := .bool (decide (x.old.ver = 4294967295))) bin_eql ?_
        exact ⟨⟨_, rfl, by simp⟩, c⟩
      | false => exact ⟨⟨false, rfl, by simp⟩, c⟩
    clear c
    rintro u h4 ⟨⟨bb, rfl, hbb⟩, c⟩
    cases bb with
    | true =>
      rw [br_true]
      rw [if_pos (hbb.1 rfl)] at hR
      exact hR _ _ c
    | false =>
      rw [br_false]
      rw [if_neg (fun e => by have := hbb.2 e; cases this)] at hR
      refine Jn1.at (fun u h' => (∃ bb : Bool, u = .bool bb ∧ (bb = true ↔ (x.wr = false ∧ x.new ≠ x.old.v))) ∧ Cx (fun _ => False) h h' [rVar EE r x]) ?_ ?_
      · refine (c.va (i := 0) rfl).fld (j := 5) rfl ?_
        cases hw : x.wr with
        | false =>
          refine vb (v := .bool true) rfl ?_
          rw [br_true]
          refine (c.va (i := 0) rfl).fld (j := 4) rfl ?_
          refine (c.va (i := 0) rfl).fld2 1 0 rfl ?_
          refine vb bin_neq ?_
          exact ⟨⟨_, rfl, by simp⟩, c⟩
        | true =>
          refine vb (v := .bool false) rfl ?_
          exact ⟨⟨false, rfl, by simp⟩, c⟩
      clear c
      rintro u h5 ⟨⟨bb, rfl, hbb⟩, c⟩
      cases bb with
      | true =>
        rw [br_true]
        rw [if_pos (hbb.1 rfl)] at hR
        exact hR _ _ c
      | false =>
        rw [br_false]
        rw [if_neg (fun e => by have := hbb.2 e; cases this)] at hR
        exact hR _ _ c

theorem K_Check1 {r : Nat} {x y : E6} (a : Va EE h r x) (hR : ∀ h', Gr h h' → R (.bool (decide (y.at' = x.at'))) h') : F_entry_Check_1 S I (mE y) (at0 r) h R := by
  unfold F_entry_Check_1
  have c := Cx.start0 h
  refine c.nw EE y rfl fun r2 h1 c => ?_
  refine (c.va (i := 0) rfl).fld (j := 0) rfl ?_
  refine (a.gr c.gr).fld (j := 0) rfl ?_
  rw [show bin .eql (.int .i64 y.at') (.int .i64 x.at') = some (.bool (decide (y.at' = x.at'))) from bin_eql, vb_some]
  exact hR _ c.gr
abbrev fCheck1 (I : Ids) (r : Nat) : Value := .func (.func I.f_entry_Check_1) #[] #[at0 r]
structure CsE4 (S : Sys) (I : Ids) : Prop where
  check1 : ∀ {r : Nat} {x y : E6} {h R}, Va EE h r x → (∀ h', Gr h h' → R (.bool (decide (y.at' = x.at'))) h') → S.C I.f_entry_Check_1 [mE y, at0 r] h R
theorem K_IndexFunc {v : Value} {r : Nat} {x : E6} {xs : List E6} (cs : CsE4 S I) (hN : xs.length ≤ 1000000) (hs : Sl EE h v xs) (a : Va EE h r x)
    (hR : ∀ (i : Int) h', Gr h h' → (i = -1 ∧ x.at' ∉ xs.map (·.at') ∨ 0 ≤ i ∧ x.at' ∈ xs.map (·.at')) → R (.int .i64 i) h') : F_slices_IndexFunc_api_Entry_api_Entry S I v (fCheck1 I r) h R := by
  unfold F_slices_IndexFunc_api_Entry_api_Entry
  rw [hs.ln, vb_some]
  refine Lp1.by (fun (i : Nat) u h' => u = .int .i64 i ∧ i ≤ xs.length ∧ Gr h h' ∧ ∀ (j : Nat) y, j < i → xs[j]? = some y → y.at' ≠ x.at') (fun i => xs.length - i) 0 ⟨rfl, Nat.zero_le _, .refl _ _, fun j y hj => absurd hj (Nat.not_lt_zero _)⟩ ?_
  rintro i u h1 ⟨rfl, hi, g, hno⟩ again hagain
  rw [bin_lss, vb_some]
  refine brd (fun h2 => ?_) fun h2 => ?_
  · have hx : xs[i]? = some xs[i] := List.getElem?_eq_getElem (by omega)
    refine (hs.gr g).whole rfl hx rfl ?_
    refine .inl ⟨_, _, _, rfl, ?_⟩
    refine cs.check1 (y := xs[i]) (a.gr g) fun h3 g3 => ?_
    have g4 : Gr h h3 := g.trans g3
    refine brd (fun h5 => ?_) fun h5 => ?_
    · exact hR _ _ g4 (.inr ⟨by omega, List.mem_map.2 ⟨xs[i], List.getElem_mem _, h5⟩⟩)
    · rw [bin_add, vb_some, wrS (by omega)]
      refine hagain (i + 1) _ _ ⟨rfl, by omega, g4, fun j y hj hy => ?_⟩ (by omega)
      by_cases hji : j = i
      · subst hji
        rw [hx] at hy
        cases hy; exact h5
      · exact hno j y (by omega) hy
  · refine hR _ _ g (.inl ⟨rfl, fun hm => ?_⟩)
    obtain ⟨y, hy, e⟩ := List.mem_map.1 hm
    obtain ⟨j, hj⟩ := List.mem_iff_getElem?.1 hy
    have := (List.getElem?_eq_some_iff.1 hj).1
    exact hno j y (by omega) hj e
structure CsE5 (S : Sys) (I : Ids) : Prop where
  index : ∀ {v : Value} {r : Nat} {x : E6} {xs : List E6} {h R}, xs.length ≤ 1000000 → Sl EE h v xs → Va EE h r x →
    (∀ (i : Int) h', Gr h h' → (i = -1 ∧ x.at' ∉ xs.map (·.at') ∨ 0 ≤ i ∧ x.at' ∈ xs.map (·.at')) → R (.int .i64 i) h') → S.C I.f_slices_IndexFunc_api_Entry_api_Entry [v, fCheck1 I r] h R
theorem K_ContainsFunc {v : Value} {r : Nat} {x : E6} {xs : List E6} (cs : CsE5 S I) (hN : xs.length ≤ 1000000) (hs : Sl EE h v xs) (a : Va EE h r x)
    (hR : ∀ h', Gr h h' → R (.bool (decide (x.at' ∈ xs.map (·.at')))) h') : F_slices_ContainsFunc_api_Entry_api_Entry S I v (fCheck1 I r) h R := by
  unfold F_slices_ContainsFunc_api_Entry_api_Entry
  refine cs.index hN hs a fun i h' g hi => ?_
  rw [bin_geq, vb_some]
  have : decide (0 ≤ i) = decide (x.at' ∈ xs.map (·.at')) := by
    rcases hi with ⟨rfl, hi⟩ | ⟨h1, h2⟩
    · rw [decide_eq_false hi]; rfl
    · rw [decide_eq_true h1, decide_eq_true h2]
  rw [this]
  exact hR _ g
structure CsE6 (S : Sys) (I : Ids) : Prop where
  wrong : ∀ {x : E6}, x.old.ref = 0 → Pur S I.f_entry_wrong [mE x] (.int .i64 (wrongE x))
  contains : ∀ {v : Value} {r : Nat} {x : E6} {xs : List E6} {h R}, xs.length ≤ 1000000 → Sl EE h v xs → Va EE h r x →
    (∀ h', Gr h h' → R (.bool (decide (x.at' ∈ xs.map (·.at')))) h') → S.C I.f_slices_ContainsFunc_api_Entry_api_Entry [v, fCheck1 I r] h R
def chkL : List Int → List E6 → Int
  | _, [] => 0
  | seen, x :: l => if wrongE x ≠ 0 then wrongE x else if x.at' ∈ seen then 11 else chkL (seen ++ [x.at']) l
def chk (l : List E6) : Int := if l.length = 0 then 8 else if 32 < l.length then 15 else chkL [] l
theorem K_ECheck {v : Value} {xs : List E6} (cs : CsE6 S I) (hN : xs.length ≤ 1000000) (hr : ∀ x ∈ xs, x.old.ref = 0) (hs : Sl EE h v xs) (hR : ∀ h', Gr h h' → R (.int .i64 (chk xs)) h') : F_entry_Check S I v h R := by
  unfold F_entry_Check
  unfold chk at hR
  rw [hs.ln, vb_some, bin_eql, vb_some]
  refine brd (fun h1 => ?_) fun h1 => ?_
  · rw [if_pos (by omega)] at hR; exact hR _ (.refl _ _)
  rw [if_neg (by omega)] at hR
  rw [vb_some, bin_gtr, vb_some]
  refine brd (fun h2 => ?_) fun h2 => ?_
  · rw [if_pos (by omega)] at hR; exact hR _ (.refl _ _)
  rw [if_neg (by omega)] at hR
  rw [vb_some]
  refine Lp1.by (fun (i : Nat) u h' => u = .int .i64 i ∧ i ≤ xs.length ∧ Cx (fun _ => False) h h' [] ∧ chkL ((xs.take i).map (·.at')) (xs.drop i) = chkL [] xs) (fun i => xs.length - i) 0 ⟨rfl, Nat.zero_le _, Cx.start0 h, rfl⟩ ?_
  rintro i u h3 ⟨rfl, hi, c, hck⟩ again hagain
  rw [bin_lss, vb_some]
  refine brd (fun h4 => ?_) fun h4 => ?_
  · have hx : xs[i]? = some xs[i] := List.getElem?_eq_getElem (by omega)
    have hdrop : xs.drop i = xs[i] :: xs.drop (i + 1) := List.drop_eq_getElem_cons (by omega)
    rw [hdrop, chkL] at hck
    refine (hs.gr c.gr).whole rfl hx rfl ?_
    refine c.nw EE ⟨0, ⟨0, 0, 0⟩, 0, false⟩ rfl fun r h5 c => ?_
    refine c.sto 0 rfl xs[i] rfl rfl fun h6 c => ?_
    rw [(c.va (i := 0) rfl).whole (n := 6) rfl, vb_some]
    refine c.pur (cs.wrong (x := xs[i]) (hr _ (List.getElem_mem _))) fun h7 c => ?_
    rw [bin_neq, vb_some]
    refine brd (fun h8 => ?_) fun h8 => ?_
    · rw [if_pos h8] at hck
      rw [hck]
      exact hR _ c.gr
    rw [if_neg h8] at hck
    obtain ⟨w, e1, hs2, _⟩ := (hs.gr c.gr).sub (n := 6) rfl (lo := none) (hi := some (.int .i64 (i : Nat))) (l := 0) (u := i) (.inl ⟨rfl, rfl⟩) (.inr ⟨_, _, rfl, rfl⟩) (Nat.zero_le _) (by omega)
    refine vb e1 ?_
    rw [vb_some]
    refine cs.contains (xs := xs.take i) (by rw [List.length_take]; omega) (by simpa using hs2) (c.va (i := 0) rfl) fun h9 g9 => ?_
    have c9 : Cx (fun _ => False) h h9 [] := (c.more g9).drop (L := [])
    refine brd (fun h10 => ?_) fun h10 => ?_
    · rw [if_pos h10] at hck
      rw [← hck] at hR
      exact hR _ c9.gr
    · rw [if_neg h10] at hck
      rw [bin_add, vb_some, wrS (by omega)]
      refine hagain (i + 1) _ _ ⟨rfl, by omega, c9, ?_⟩ (by omega)
      rw [← hck, List.take_add_one, hx, List.map_append]
      rfl
  · have : i = xs.length := by omega
    subst this
    rw [List.drop_length] at hck
    rw [← hck] at hR
    exact hR _ c.gr
end Go.En
namespace Go.En
open Prog Spc Go.Sort

variable {S : Sys} {I : Ids} {h h0 h' : Hp} {F F0 : Fp} {R : Value → Hp → Prop} {L : List Res} {s : Value} {σ : Spc}

theorem sorted_len (xs : List Int) : (sorted xs).length = xs.length := List.length_mergeSort xs
theorem sorted_perm (xs : List Int) : (sorted xs).Perm xs := List.mergeSort_perm xs _
theorem sorted_le (xs : List Int) : (sorted xs).Pairwise (· ≤ ·) := by
  have := List.pairwise_mergeSort (le := fun x y : Int => decide (x ≤ y)) (fun a b c h1 h2 => by simp only [decide_eq_true_eq] at *; omega) (fun a b => by simp only [Bool.or_eq_true, decide_eq_true_eq]; omega) xs
  exact this.imp fun h => by simpa using h
theorem le_perm_eq : ∀ {l l' : List Int}, l.Pairwise (· ≤ ·) → l'.Pairwise (· ≤ ·) → l.Perm l' → l = l'
  | [], l', _, _, p => by rw [List.nil_perm.1 p]
  | a :: l, [], _, _, p => by have := p.length_eq; simp at this
  | a :: l, b :: l', h1, h2, p => by
    have hab : a = b := by
      have ha : a ∈ b :: l' := p.mem_iff.1 (by simp)
      have hb : b ∈ a :: l := p.mem_iff.2 (by simp)
      rcases List.mem_cons.1 ha with e | ha
      · exact e
      · rcases List.mem_cons.1 hb with e | hb
        · exact e.symm
        · have e1 := (List.pairwise_cons.1 h1).1 b hb
          have e2 := (List.pairwise_cons.1 h2).1 a ha
          omega
    subst hab
    rw [le_perm_eq (List.pairwise_cons.1 h1).2 (List.pairwise_cons.1 h2).2 (List.Perm.cons_inv p)]
theorem sorted_congr {l l' : List Int} (p : l.Perm l') : sorted l = sorted l' :=
  le_perm_eq (sorted_le l) (sorted_le l') ((sorted_perm l).trans (p.trans (sorted_perm l').symm))
theorem perm_range {D : List Nat} {n : Nat} (h1 : D.Nodup) (h2 : ∀ j ∈ D, j < n) (h3 : ∀ j, j < n → j ∈ D) : D.Perm (List.range n) :=
  (List.perm_ext_iff_of_nodup h1 List.nodup_range).2 fun j => ⟨fun hj => List.mem_range.2 (h2 j hj), fun hj => h3 j (List.mem_range.1 hj)⟩
theorem map_range_get (l : List Int) : (List.range l.length).map (fun j => l.getD j 0) = l := by
  refine List.ext_getElem (by simp) fun i h1 h2 => ?_
  simp only [List.getElem_map, List.getElem_range]
  rw [List.getD_eq_getElem?_getD, List.getElem?_eq_getElem h2]; rfl

structure CsG (S : Sys) (I : Ids) : Prop extends CsC S I where
  sort : ∀ {v : Value} {xs : List Int} {F h0 h R}, xs.length ≤ 1000000 → Cx F h0 h [rSl EI1 v xs] → (∀ h', Cx F h0 h' [rSl EI1 v (sorted xs)] → R (.tuple #[]) h') → S.C I.f_slices_Sort_api_Loc_api_Loc [v] h R
  compact : ∀ {v : Value} {xs : List Int} {F h0 h R}, xs.length ≤ 1000000 → Cx F h0 h [rSl EI1 v xs] → (∀ u h', Cx F h0 h' [rSl EI1 u (cpt xs)] → R u h') → S.C I.f_slices_Compact_api_Loc_api_Loc [v] h R
theorem K_Reads (cs : CsG S I) (hl : σ.rd.length ≤ 1000000) (a : (rSpace s σ).P h F) (hR : ∀ v h', Cx F h h' [rSl EI1 v (sorted σ.rd), rSpace s σ] → R v h') : F_space_Space_Reads S I s h R := by
  obtain ⟨p, u, ps, rfl, h1, h2, h3, h4, c⟩ := space_open a
  unfold F_space_Space_Reads
  rw [eqP_nil]
  refine vb (v := .bool false) rfl ?_
  rw [br_false]
  refine space_fld c (i := 0) rfl (j := 1) rfl ?_
  refine c.range 2 rfl fun r m h5 hm c => ?_
  have hm' : u.rm = m := by simpa using hm
  clear hm
  subst hm'
  have c := c.nil EI1
  refine Lp1.by (fun (D : List Nat) o h' => ∃ xs, Cx F h h' [rVar ESp p u, rMp .i64 mW (.map (some u.km)) ps, rIt .i64 mB r u.rm (σ.rd.map fun a => (a, true)) D, rSl EPt u.pv σ.pu, rSl EI1 o xs] ∧ D.Nodup ∧ (∀ j ∈ D, j < σ.rd.length) ∧ xs = D.map (fun j => σ.rd.getD j 0))
    (fun D => σ.rd.length - D.length) [] ⟨[], c, List.nodup_nil, (fun j hj => by cases hj), rfl⟩ ?_
  rintro D o h6 ⟨xs, c, hnd, hlt, hxs⟩ again hagain
  have hDl : D.length ≤ σ.rd.length := by
    obtain ⟨_, hit, _⟩ := c.get (i := 2) rfl
    simpa using hit.len
  have hxl : xs.length = D.length := by rw [hxs, List.length_map]
  refine c.next 2 rfl (fun hall c => ?_) fun j pr h7 hpj hjD c he => ?_
  · rw [show ext 0 (.tuple #[.bool false]) = some (.bool false) from rfl, vb_some, br_false]
    obtain ⟨F1, c1, up⟩ := c.frame (i := 4) rfl
    refine cs.sort (by omega) c1 fun h8 c2 => ?_
    have c := up (M := []) c2
    have hall' : ∀ j, j < σ.rd.length → j ∈ D := fun j hj => hall j (by simpa using hj)
    have e : sorted xs = sorted σ.rd := by
      refine sorted_congr ?_
      rw [hxs]
      have := (perm_range hnd hlt hall').map (fun j => σ.rd.getD j 0)
      rwa [map_range_get] at this
    rw [e] at c
    have c := (c.front 4 rfl)
    have c := ((c.pack (L := [_])).conv (i := 1) rfl (B := rSpace (at0 p) σ) fun F' hF' => ⟨⟨p, u, ps⟩, ⟨rfl, h1, h2, h3, h4⟩, hF'⟩)
    exact hR _ _ c
  · rw [show ext 0 (.tuple #[.bool true, .int .i64 pr.1, mB pr.2]) = some (.bool true) from rfl, vb_some, br_true, he, vb_some]
    rw [show ext 0 (.tuple #[.int .i64 pr.1, mB pr.2]) = some (.int .i64 pr.1) from rfl, vb_some]
    have hjl : j < σ.rd.length := by simpa using (List.getElem?_eq_some_iff.mp hpj).1
    have hpe : pr.1 = σ.rd.getD j 0 := by
      rw [List.getElem?_map, List.getElem?_eq_getElem hjl] at hpj
      simp only [Option.map_some, Option.some.injEq] at hpj
      rw [← hpj, List.getD_eq_getElem?_getD, List.getElem?_eq_getElem hjl]; rfl
    refine c.app1 4 rfl pr.1 rfl rfl rfl (by omega) (by omega) fun v' h8 c => ?_
    have hnd' : (D ++ [j]).Nodup := by
      rw [List.nodup_append]
      exact ⟨hnd, by simp, fun a ha b hb e => hjD (by simp only [List.mem_singleton] at hb; rw [← hb, ← e]; exact ha)⟩
    have hlt' : ∀ x ∈ D ++ [j], x < σ.rd.length := fun x hx => by
      rcases List.mem_append.1 hx with hx | hx
      · exact hlt x hx
      · simp only [List.mem_singleton] at hx; omega
    have hDl' : (D ++ [j]).length ≤ σ.rd.length := by
      obtain ⟨_, hit, _⟩ := c.get (i := 2) rfl
      simpa using hit.len
    refine hagain (D ++ [j]) _ _ ⟨xs ++ [pr.1], c, hnd', hlt', by rw [hxs, List.map_append, hpe]; rfl⟩ ?_
    rw [List.length_append, List.length_singleton] at *
    omega

theorem K_Writes (cs : CsG S I) (hl : σ.pu.length ≤ 1000000) (a : (rSpace s σ).P h F) (hR : ∀ v h', Cx F h h' [rSl EI1 v (cpt (sorted (σ.pu.map (·.1)))), rSpace s σ] → R v h') : F_space_Space_Writes S I s h R := by
  obtain ⟨p, u, ps, rfl, h1, h2, h3, h4, c⟩ := space_open a
  unfold F_space_Space_Writes
  rw [eqP_nil]
  refine vb (v := .bool false) rfl ?_
  rw [br_false]
  refine space_fld c (i := 0) rfl (j := 2) rfl ?_
  rw [Sl.ln (c.sl (i := 3) rfl).sl, vb_some]
  have c := c.nil EI1
  refine Lp2.by (fun (i : Nat) o k h' => k = .int .i64 i ∧ i ≤ σ.pu.length ∧ Cx F h h' (spParts p u ps σ ++ [rSl EI1 o ((σ.pu.take i).map (·.1))])) (fun i => σ.pu.length - i) 0 ⟨rfl, Nat.zero_le _, c⟩ ?_
  clear c
  rintro i o k h5 ⟨rfl, hi, c⟩ again hagain
  rw [bin_lss, vb_some]
  refine brd (fun h6 => ?_) fun h6 => ?_
  · have hx : σ.pu[i]? = some σ.pu[i] := List.getElem?_eq_getElem (by omega)
    refine (c.sl (i := 3) rfl).sl.whole rfl hx rfl ?_
    refine c.nw EPt (0, 0) rfl fun rp h7 c => ?_
    refine c.sto 5 rfl σ.pu[i] rfl rfl fun h8 c => ?_
    refine (c.va (i := 5) rfl).fld (j := 0) rfl ?_
    refine c.app1 4 rfl σ.pu[i].1 rfl rfl rfl (by rw [List.length_map, List.length_take]; omega) (by rw [List.length_map, List.length_take]; omega) fun v' h9 c => ?_
    rw [bin_add, vb_some, wrS (by omega)]
    refine hagain (i + 1) _ _ _ ⟨rfl, by omega, ?_⟩ (by omega)
    rw [List.take_add_one, hx, List.map_append]
    exact c.drop (L := spParts p u ps σ ++ [rSl EI1 v' ((σ.pu.take i).map (·.1) ++ [σ.pu[i].1])]) (L' := [rVar EPt rp σ.pu[i]])
  · have : i = σ.pu.length := by omega
    subst this
    rw [List.take_length] at c
    obtain ⟨F1, c1, up⟩ := c.frame (i := 4) rfl
    refine cs.sort (by simpa using hl) c1 fun h8 c2 => ?_
    refine cs.compact (by rw [sorted_len]; simpa using hl) c2 fun v h9 c3 => ?_
    have c := up (M := []) c3
    have c := (c.front 4 rfl)
    exact hR _ _ ((c.pack (L := [_])).conv (i := 1) rfl (B := rSpace (at0 p) σ) fun F' hF' => ⟨⟨p, u, ps⟩, ⟨rfl, h1, h2, h3, h4⟩, hF'⟩)

/-- the entries of a space -/
def Spc.ent (σ : Spc) (a : Int) : E6 := ⟨a, (σ.kn a).getD W0, σ.vw a, (lastP σ.pu a).isSome⟩
def Spc.entl (σ : Spc) : List E6 := (sorted σ.rd).map σ.ent
def Spc.ents (σ : Spc) : List E6 × Int := if σ.en then ([], 13) else if σ.entl.length = 0 then ([], 0) else if chk σ.entl ≠ 0 then ([], chk σ.entl) else (σ.entl, 0)
structure CsG1 (S : Sys) (I : Ids) : Prop extends CsC S I where
  reads2 : ∀ {s : Value} {σ : Spc} {F h R}, σ.rd.length ≤ 1000000 → (rSpace s σ).P h F → (∀ v h', Cx F h h' [rSl EI1 v (sorted σ.rd), rSpace s σ] → R v h') → S.C I.f_space_Space_Reads [s] h R
  check : ∀ {v : Value} {xs : List E6} {h R}, xs.length ≤ 1000000 → (∀ x ∈ xs, x.old.ref = 0) → Sl EE h v xs → (∀ h', Gr h h' → R (.int .i64 (chk xs)) h') → S.C I.f_entry_Check [v] h R
theorem bldE (a : Int) (w : W3) (n : Int) (b : Bool) : bldS [(0, 1), (1, 3), (4, 1), (5, 1)] #[Value.int IntKind.i64 0, Value.int IntKind.i64 0, Value.int IntKind.u32 0, Value.int IntKind.u32 0, Value.int IntKind.i64 0, Value.bool false]
    [(0, .int .i64 a), (1, mW w), (2, .int .i64 n), (3, .bool b)] = some (mE ⟨a, w, n, b⟩) := by kernel_rfl
theorem K_Entries (cs : CsG1 S I) (hl : σ.rd.length ≤ 1000000) (hk : ∀ a w, σ.kn a = some w → w.ref = 0) (a : (rSpace s σ).P h F) (hR : ∀ v h', Cx F h h' [rSl EE v σ.ents.1, rSpace s σ] → R (.tuple #[v, .int .i64 σ.ents.2]) h') : F_space_Space_Entries S I s h R := by
  unfold F_space_Space_Entries
  refine cs.ended a ?_
  have c0 : Cx F h h [rSl EE (.slice none 0 0) [], rSpace s σ] := ((Cx.start a).nil EE).front 1 rfl
  cases hen : σ.en with
  | true =>
    rw [br_true]
    have e : σ.ents = ([], 13) := by unfold Spc.ents; rw [if_pos hen]
    rw [e] at hR
    exact hR _ _ c0
  | false =>
  rw [br_false]
  clear c0
  refine cs.reads2 hl a fun v h1 c => ?_
  rw [Sl.ln (c.sl (i := 0) rfl).sl, vb_some]
  have c := c.nil EE
  refine Lp2.by (fun (i : Nat) o k h' => k = .int .i64 i ∧ i ≤ (sorted σ.rd).length ∧ Cx F h h' [rSl EI1 v (sorted σ.rd), rSpace s σ, rSl EE o (((sorted σ.rd).take i).map σ.ent)]) (fun i => (sorted σ.rd).length - i) 0 ⟨rfl, Nat.zero_le _, c⟩ ?_
  clear c
  have hsl := sorted_len σ.rd
  rintro i o k h5 ⟨rfl, hi, c⟩ again hagain
  rw [bin_lss, vb_some]
  refine brd (fun h6 => ?_) fun h6 => ?_
  · have hx : (sorted σ.rd)[i]? = some (sorted σ.rd)[i] := List.getElem?_eq_getElem (by omega)
    generalize (sorted σ.rd)[i] = x at hx
    refine (c.sl (i := 0) rfl).sl.one rfl hx rfl rfl ?_
    obtain ⟨F1, a1⟩ := c.get (i := 1) rfl
    refine cs.value a1 ?_
    refine ext0t (ext1t ?_)
    obtain ⟨p, u, ps, rfl, g1, g2, g3, g4, c1⟩ := space_open a1
    refine space_fld c1 (i := 0) rfl (j := 0) rfl ?_
    rw [(c1.mp (i := 1) rfl).look, vb_some]
    have e1 : ((lookA ps x).map mW).getD (.agg #[.int .i64 0, .int .u32 0, .int .u32 0]) = mW ((σ.kn x).getD W0) := by
      rw [g3]; cases σ.kn x <;> rfl
    rw [e1]
    rw [bldE, vb_some]
    refine c.app1 2 rfl (σ.ent x) rfl rfl rfl (by rw [List.length_map, List.length_take]; omega) (by rw [List.length_map, List.length_take]; omega) fun v' h9 c => ?_
    rw [bin_add, vb_some, wrS (by omega)]
    refine hagain (i + 1) _ _ _ ⟨rfl, by omega, ?_⟩ (by omega)
    rw [List.take_add_one, hx, List.map_append]
    exact c
  · have : i = (sorted σ.rd).length := by omega
    subst this
    rw [List.take_length] at c
    have c : Cx F h h5 [rSl EI1 v (sorted σ.rd), rSpace s σ, rSl EE o σ.entl] := c
    have hel : σ.entl.length = σ.rd.length := by unfold Spc.entl; rw [List.length_map, hsl]
    rw [Sl.ln (c.sl (i := 2) rfl).sl, vb_some, bin_eql, vb_some]
    have hen' : ¬ σ.en = true := by rw [hen]; exact Bool.false_ne_true
    unfold Spc.ents at hR
    rw [if_neg hen'] at hR
    have cz : ∀ h', Cx F h h' [rSl EI1 v (sorted σ.rd), rSpace s σ, rSl EE o σ.entl] → Cx F h h' [rSl EE (.slice none 0 0) [], rSpace s σ] := fun h' c =>
      ((c.nil EE).front 3 rfl).sub (.cons_cons _ (.cons _ (.cons_cons _ (.cons _ .slnil))))
    refine brd (fun h7 => ?_) fun h7 => ?_
    · rw [if_pos (by omega)] at hR
      exact hR _ _ (cz _ c)
    · rw [if_neg (by omega)] at hR
      refine cs.check (xs := σ.entl) (by omega) (fun x hx => ?_) (c.sl (i := 2) rfl).sl fun h8 g8 => ?_
      · unfold Spc.entl at hx
        obtain ⟨y, _, rfl⟩ := List.mem_map.1 hx
        show ((σ.kn y).getD W0).ref = 0
        cases e : σ.kn y with
        | none => rfl
        | some w => exact hk y w e
      have c := c.more g8
      rw [bin_neq, vb_some]
      refine brd (fun h9 => ?_) fun h9 => ?_
      · rw [if_pos h9] at hR
        exact hR _ _ (cz _ c)
      · rw [if_neg h9] at hR
        exact hR _ _ ((c.front 2 rfl).sub (.cons_cons _ (.cons _ (.cons_cons _ .slnil))))

/-- what a space tells -/
structure CsH (S : Sys) (I : Ids) : Prop extends CsD S I where
  reads2 : ∀ {s : Value} {σ : Spc} {F h R}, σ.rd.length ≤ 1000000 → (rSpace s σ).P h F → (∀ v h', Cx F h h' [rSl EI1 v (sorted σ.rd), rSpace s σ] → R v h') → S.C I.f_space_Space_Reads [s] h R
  writes : ∀ {s : Value} {σ : Spc} {F h R}, σ.pu.length ≤ 1000000 → (rSpace s σ).P h F → (∀ v h', Cx F h h' [rSl EI1 v (cpt (sorted (σ.pu.map (·.1)))), rSpace s σ] → R v h') → S.C I.f_space_Space_Writes [s] h R
  entries : ∀ {s : Value} {σ : Spc} {F h R}, σ.rd.length ≤ 1000000 → (∀ a w, σ.kn a = some w → w.ref = 0) → (rSpace s σ).P h F → (∀ v h', Cx F h h' [rSl EE v σ.ents.1, rSpace s σ] → R (.tuple #[v, .int .i64 σ.ents.2]) h') → S.C I.f_space_Space_Entries [s] h R
theorem Cx.wk {F' F1 : Fp} (c : Cx F' h0 h L) (hF : ∀ r, F' r → F1 r ∨ h0.size ≤ r) : Cx F1 h0 h L := by
  obtain ⟨Fs, o, g, k⟩ := c
  exact ⟨Fs, o, ⟨g.size, fun r hr hn => g.same r hr fun e => (hF r e).elim hn (fun x => by omega)⟩, fun G hG r hr => (k G hG r hr).elim (hF r) .inr⟩
theorem Cx.cEntries (cs : CsH S I) (c : Cx F0 h0 h L) (i : Nat) (hi : L[i]? = some (rSpace s σ)) (hl : σ.rd.length ≤ 1000000) (hk : ∀ a w, σ.kn a = some w → w.ref = 0)
    (k : ∀ v h', Cx F0 h0 h' (L.set i (rSpace s σ) ++ [rSl EE v σ.ents.1]) → R (.tuple #[v, .int .i64 σ.ents.2]) h') : S.C I.f_space_Space_Entries [s] h R := by
  obtain ⟨F1, c1, up⟩ := c.frame hi
  obtain ⟨F', a, m⟩ := c1.fin
  exact cs.entries hl hk a fun v h' c2 => k v h' (up ((c2.wk m.2).front 1 rfl))
theorem Cx.cReads (cs : CsH S I) (c : Cx F0 h0 h L) (i : Nat) (hi : L[i]? = some (rSpace s σ)) (hl : σ.rd.length ≤ 1000000)
    (k : ∀ v h', Cx F0 h0 h' (L.set i (rSpace s σ) ++ [rSl EI1 v (sorted σ.rd)]) → R v h') : S.C I.f_space_Space_Reads [s] h R := by
  obtain ⟨F1, c1, up⟩ := c.frame hi
  obtain ⟨F', a, m⟩ := c1.fin
  exact cs.reads2 hl a fun v h' c2 => k v h' (up ((c2.wk m.2).front 1 rfl))
theorem Cx.cWrites (cs : CsH S I) (c : Cx F0 h0 h L) (i : Nat) (hi : L[i]? = some (rSpace s σ)) (hl : σ.pu.length ≤ 1000000)
    (k : ∀ v h', Cx F0 h0 h' (L.set i (rSpace s σ) ++ [rSl EI1 v (cpt (sorted (σ.pu.map (·.1))))]) → R v h') : S.C I.f_space_Space_Writes [s] h R := by
  obtain ⟨F1, c1, up⟩ := c.frame hi
  obtain ⟨F', a, m⟩ := c1.fin
  exact cs.writes hl a fun v h' c2 => k v h' (up ((c2.wk m.2).front 1 rfl))
/-- the words of a new space are plain -/
theorem newS_ref {ps : List (Int × W3)} : ∀ a w, (newS ps).kn a = some w → w.ref = 0 := fun a w hw => by
  simp only [newS, Option.filter_eq_some_iff, beq_iff_eq] at hw; exact hw.2

end Go.En
namespace Go.En
open Prog Spc Go.Sort

variable {S : Sys} {I : Ids} {h h0 h' : Hp} {F F0 : Fp} {R : Value → Hp → Prop} {L : List Res} {s : Value}

section
variable {n : Int} {k : Int → Option W3} {σ τ : Spc} {a v : Int}
theorem get_pu (σ : Spc) (a : Int) : (σ.get a).2.pu = σ.pu := by
  unfold Spc.get
  split
  · rfl
  · split <;> rfl
/-- a space over the first n words, that has not ended -/
structure InN (n : Int) (k : Int → Option W3) (σ : Spc) : Prop where
  kn : σ.kn = k
  en : σ.en = false
  nd : σ.rd.Nodup
  rd : ∀ a ∈ σ.rd, 0 ≤ a ∧ a < n
  wf : σ.wf
abbrev Dom (n : Int) (k : Int → Option W3) : Prop := ∀ a, 0 ≤ a → a < n → (k a).isSome = true

theorem mem_rds {b : Int} : b ∈ (σ.rds a).rd ↔ b = a ∨ b ∈ σ.rd := by
  show b ∈ (if a ∈ σ.rd then σ.rd else σ.rd ++ [a]) ↔ _
  split
  · rename_i h
    constructor
    · exact .inr
    · rintro (rfl | h2)
      · exact h
      · exact h2
  · rw [List.mem_append, List.mem_singleton, or_comm]
theorem nd_rds (h : σ.rd.Nodup) : (σ.rds a).rd.Nodup := by
  show (if a ∈ σ.rd then σ.rd else σ.rd ++ [a]).Nodup
  split
  · exact h
  · rename_i hn
    rw [List.nodup_append]
    exact ⟨h, by simp, fun x hx y hy e => hn (by simp only [List.mem_singleton] at hy; rw [← hy, ← e]; exact hx)⟩
theorem InN.rds (H : InN n k σ) (ha : 0 ≤ a ∧ a < n) : InN n k (σ.rds a) :=
  ⟨H.kn, H.en, nd_rds H.nd, fun b hb => by rcases mem_rds.1 hb with rfl | h; exact ha; exact H.rd b h, H.wf.rds a⟩
theorem InN.getE (D : Dom n k) (H : InN n k σ) (ha : 0 ≤ a ∧ a < n) : σ.get a = (σ.vw a, σ.rds a) := by
  unfold Spc.get
  rw [H.en, H.kn, D a ha.1 ha.2]; rfl
theorem InN.putE (D : Dom n k) (H : InN n k σ) (ha : 0 ≤ a ∧ a < n) : σ.put a v = { σ.rds a with pu := σ.pu ++ [(a, v)] } := by
  unfold Spc.put
  rw [H.en, H.kn, D a ha.1 ha.2]; rfl
theorem InN.get (D : Dom n k) (H : InN n k σ) (ha : 0 ≤ a ∧ a < n) : InN n k (σ.get a).2 := by
  rw [H.getE D ha]; exact H.rds ha
theorem InN.put (D : Dom n k) (H : InN n k σ) (ha : 0 ≤ a ∧ a < n) (hv : R64 v) (hl : σ.pu.length ≤ big) : InN n k (σ.put a v) := by
  have w := H.wf.put a hv hl
  rw [H.putE D ha] at w ⊢
  exact ⟨H.kn, H.en, (H.rds ha).nd, (H.rds ha).rd, w⟩
theorem back_rd {m : Int} : (σ.back m).rd = σ.rd := by
  unfold Spc.back
  split
  · rfl
  · split <;> rfl
theorem back_kn {m : Int} : (σ.back m).kn = σ.kn := by
  unfold Spc.back
  split
  · rfl
  · split <;> rfl
theorem back_en {m : Int} : (σ.back m).en = σ.en := by
  unfold Spc.back
  split
  · rfl
  · split <;> rfl
theorem back_len {m : Int} : (σ.back m).pu.length ≤ σ.pu.length := by
  unfold Spc.back
  split
  · exact Nat.le_refl _
  · split
    · show (σ.pu.take _).length ≤ _
      rw [List.length_take]; omega
    · exact Nat.le_refl _
theorem InN.back (H : InN n k σ) (m : Int) : InN n k (σ.back m) :=
  ⟨by rw [back_kn]; exact H.kn, by rw [back_en]; exact H.en, by rw [back_rd]; exact H.nd, by rw [back_rd]; exact H.rd, H.wf.back m⟩
theorem InN.rdlen (H : InN n k σ) (hn : 0 ≤ n) : σ.rd.length ≤ n.toNat := by
  have h1 : (σ.rd.map Int.toNat).Nodup := by
    unfold List.Nodup
    rw [List.pairwise_map]
    refine List.Pairwise.imp_of_mem (R := (· ≠ ·)) (fun {a b} ha hb hne e => ?_) H.nd
    have := H.rd a ha; have := H.rd b hb
    omega
  have := nodup_len (n := n.toNat) h1 fun j hj => by
    obtain ⟨x, hx, rfl⟩ := List.mem_map.1 hj
    have := H.rd x hx
    omega
  simpa using this
theorem put_len : (σ.put a v).pu.length ≤ σ.pu.length + 1 := by
  unfold Spc.put
  split
  · omega
  · split
    · show (σ.pu ++ [(a, v)]).length ≤ _
      simp
    · show σ.pu.length ≤ _
      omega
/-- sorted lists of the same places -/
theorem sorted_same {xs ys : List Int} (h1 : xs.Nodup) (h2 : ys.Nodup) (h : ∀ a, a ∈ xs ↔ a ∈ ys) : sorted xs = sorted ys := by
  have p : xs.Perm ys := (List.perm_ext_iff_of_nodup h1 h2).mpr h
  exact le_perm_eq (sorted_le _) (sorted_le _) ((sorted_perm _).trans (p.trans (sorted_perm _).symm))
theorem lt_nodup {l : List Int} (h : l.Pairwise (· < ·)) : l.Nodup := h.imp fun hab => by omega
theorem writes_same {xs ys : List Int} (h : ∀ a, a ∈ xs ↔ a ∈ ys) : cpt (sorted xs) = cpt (sorted ys) := by
  have l1 := cpt_sorted (sorted_le xs)
  have l2 := cpt_sorted (sorted_le ys)
  refine le_perm_eq (l1.imp fun h => by omega) (l2.imp fun h => by omega) ((List.perm_ext_iff_of_nodup (lt_nodup l1) (lt_nodup l2)).mpr fun a => ?_)
  rw [cpt_mem, cpt_mem, (sorted_perm xs).mem_iff, (sorted_perm ys).mem_iff]
  exact h a
/-- spaces with the same entries -/
theorem ents_same (hen : σ.en = τ.en) (h1 : σ.rd.Nodup) (h2 : τ.rd.Nodup) (h : ∀ a, a ∈ σ.rd ↔ a ∈ τ.rd) (he : ∀ a ∈ σ.rd, σ.ent a = τ.ent a) : σ.ents = τ.ents := by
  have hl : σ.entl = τ.entl := by
    unfold Spc.entl
    rw [sorted_same h1 h2 h]
    refine List.map_congr_left fun a ha => he a ((h a).2 ?_)
    rwa [(sorted_perm τ.rd).mem_iff] at ha
  unfold Spc.ents
  rw [hl, hen]
theorem lastP_mem {pu : List (Int × Int)} : (lastP pu a).isSome = true ↔ a ∈ pu.map (·.1) := by
  unfold lastP
  rw [Option.isSome_map, List.find?_isSome]
  simp only [List.mem_reverse, beq_iff_eq, List.mem_map]
theorem vw_congr (hk : σ.kn = τ.kn) (hp : lastP σ.pu a = lastP τ.pu a) : σ.vw a = τ.vw a := by
  unfold Spc.vw
  rw [hk, hp]
theorem ent_congr (hk : σ.kn = τ.kn) (hp : lastP σ.pu a = lastP τ.pu a) : σ.ent a = τ.ent a := by
  unfold Spc.ent
  rw [vw_congr hk hp, hk, hp]
end
variable {σ τ : Spc}
theorem get_kn (σ : Spc) (a : Int) : (σ.get a).2.kn = σ.kn := by
  unfold Spc.get
  split
  · rfl
  · split <;> rfl
theorem put_kn (σ : Spc) (a v : Int) : (σ.put a v).kn = σ.kn := by
  unfold Spc.put
  split
  · rfl
  · split <;> rfl

theorem nodup_sub : ∀ {xs ys : List Int}, xs.Nodup → (∀ a ∈ xs, a ∈ ys) → xs.length ≤ ys.length
  | [], ys, _, _ => Nat.zero_le _
  | x :: xs, ys, hn, hs => by
    have hx : x ∈ ys := hs x (List.mem_cons_self ..)
    have hn := List.nodup_cons.1 hn
    have := nodup_sub (xs := xs) (ys := ys.erase x) hn.2 fun a ha => (List.mem_erase_of_ne (fun e => hn.1 (by rw [← e]; exact ha))).2 (hs a (List.mem_cons_of_mem _ ha))
    have h2 := List.length_erase_of_mem hx
    have h3 : 0 < ys.length := List.length_pos_of_mem hx
    simp only [List.length_cons]
    omega
theorem Cx.cGet {a : Int} (cs : CsD S I) (c : Cx F0 h0 h L) (i : Nat) (hi : L[i]? = some (rSpace s σ)) (k : ∀ h', Cx F0 h0 h' (L.set i (rSpace s (σ.get a).2)) → R (.int .i64 (σ.get a).1) h') : S.C I.f_space_Space_Get [s, .int .i64 a] h R :=
  Cx.last (p := gt a) (Q := fun x σ' => x = (σ.get a).1 ∧ σ' = (σ.get a).2) cs.get c i hi ⟨rfl, rfl⟩ fun x σ' h' c e => by obtain ⟨rfl, rfl⟩ := e; exact k h' c
theorem Cx.cPut {a v : Int} (cs : CsD S I) (c : Cx F0 h0 h L) (i : Nat) (hi : L[i]? = some (rSpace s σ)) (hv : R64 v) (hl : σ.pu.length ≤ big) (k : ∀ h', Cx F0 h0 h' (L.set i (rSpace s (σ.put a v))) → R (.tuple #[]) h') : S.C I.f_space_Space_Put [s, .int .i64 a, .int .i64 v] h R :=
  Cx.last (p := pt a v) (Q := fun _ σ' => σ' = σ.put a v) cs.put c i hi ⟨hv, hl, rfl⟩ fun x σ' h' c e => by subst e; exact k h' c
theorem Cx.cBack {m : Int} (cs : CsD S I) (c : Cx F0 h0 h L) (i : Nat) (hi : L[i]? = some (rSpace s σ)) (k : ∀ h', Cx F0 h0 h' (L.set i (rSpace s (σ.back m))) → R (.tuple #[]) h') : S.C I.f_space_Space_Back [s, .int .i64 m] h R :=
  Cx.last (p := bk m) (Q := fun _ σ' => σ' = σ.back m) cs.back c i hi rfl fun x σ' h' c e => by subst e; exact k h' c
theorem Cx.cMark (cs : CsD S I) (c : Cx F0 h0 h L) (i : Nat) (hi : L[i]? = some (rSpace s σ)) (k : ∀ h', Cx F0 h0 h' (L.set i (rSpace s σ)) → R (.int .i64 σ.pu.length) h') : S.C I.f_space_Space_Mark [s] h R :=
  Cx.last (p := mk) (Q := fun x σ' => x = σ.pu.length ∧ σ' = σ) cs.mark c i hi ⟨rfl, rfl⟩ fun x σ' h' c e => by obtain ⟨rfl, rfl⟩ := e; exact k h' c


/-- words from a table, as entries of a map -/
def knF (g : Nat → W3) (n : Nat) : List (Int × W3) := (List.range n).map fun (i : Nat) => ((i : Int), g i)
theorem knF_keys (g : Nat → W3) (n : Nat) : (knF g n).map (·.1) = (List.range n).map fun (i : Nat) => (i : Int) := by
  unfold knF; rw [List.map_map]; rfl
theorem knF_nodup (g : Nat → W3) (n : Nat) : ((knF g n).map (·.1)).Nodup := by
  rw [knF_keys]
  unfold List.Nodup
  rw [List.pairwise_map]
  refine List.Pairwise.imp (R := fun a b : Nat => a ≠ b) (fun {a b} hne e => hne (Int.ofNat.inj e)) List.nodup_range
theorem knF_val {g : Nat → W3} {n : Nat} (hg : ∀ i, i < n → R64 (g i).v) : ∀ p ∈ knF g n, R64 p.2.v := fun p hp => by
  obtain ⟨i, hi, rfl⟩ := List.mem_map.1 hp
  exact hg i (List.mem_range.1 hi)
theorem knF_look {g : Nat → W3} {n : Nat} {a : Int} : lookA (knF g n) a = if 0 ≤ a ∧ a < n then some (g a.toNat) else none := by
  split
  · rename_i hx
    rw [← lookA_mem (knF_nodup g n)]
    exact List.mem_map.2 ⟨a.toNat, List.mem_range.2 (by omega), by rw [Int.toNat_of_nonneg hx.1]⟩
  · rename_i hx
    unfold lookA
    rw [Option.map_eq_none_iff, List.find?_eq_none]
    intro p hp
    obtain ⟨i, hi, rfl⟩ := List.mem_map.1 hp
    have := List.mem_range.1 hi
    simp only [beq_iff_eq]
    omega
theorem knF_upd {g : Nat → W3} {n : Nat} : updA (knF g n) (n : Int) (g n) = knF g (n + 1) := by
  rw [updA_end (by rw [knF_look, if_neg (by omega)])]
  unfold knF
  rw [List.range_succ, List.map_append]; rfl
theorem newS_knF {g : Nat → W3} {n : Nat} (hg : ∀ i, i < n → (g i).ref = 0) {a : Int} : (newS (knF g n)).kn a = if 0 ≤ a ∧ a < n then some (g a.toNat) else none := by
  show (lookA (knF g n) a).filter _ = _
  rw [knF_look]
  split
  · rename_i hx
    simp [Option.filter, hg a.toNat (by omega)]
  · rfl
theorem InN.start {g : Nat → W3} {n : Nat} (hv : ∀ i, i < n → R64 (g i).v) : InN n (newS (knF g n)).kn (newS (knF g n)) :=
  ⟨rfl, rfl, List.nodup_nil, (fun a ha => by cases ha), newS_wf (knF_val hv)⟩
theorem Dom.start {g : Nat → W3} {n : Nat} (hg : ∀ i, i < n → (g i).ref = 0) : Dom n (newS (knF g n)).kn := fun a h1 h2 => by
  rw [newS_knF hg, if_pos ⟨h1, h2⟩]; rfl

theorem Cx.cNew {v : Value} {ps : List (Int × W3)} (cs : CsD S I) (c : Cx F0 h0 h L) (i : Nat) (hi : L[i]? = some (rMp .i64 mW v ps)) (hn : (ps.map (·.1)).Nodup) (hv : ∀ p ∈ ps, R64 p.2.v)
    (k : ∀ s h', Cx F0 h0 h' (L.set i (rMp .i64 mW v ps) ++ [rSpace s (newS ps)]) → R s h') : S.C I.f_space_New [v] h R := by
  obtain ⟨F1, c1, up⟩ := c.frame hi
  exact cs.new hn hv c1 fun s h' c2 => k s h' (up c2)

/-- a place brought into the first n -/
def nz (n a : Int) : Int := (a.tmod n + n).tmod n
theorem tmod_lt {n a : Int} (hn : 0 < n) : -n < a.tmod n ∧ a.tmod n < n := by
  refine ⟨?_, Int.tmod_lt_of_pos a hn⟩
  have := Int.tmod_lt_of_pos (-a) hn
  rw [Int.neg_tmod] at this
  omega
theorem nz_in {n a : Int} (hn : 0 < n) : 0 ≤ nz n a ∧ nz n a < n := by
  have := tmod_lt (a := a) hn
  unfold nz
  rw [Int.tmod_eq_emod_of_nonneg (by omega)]
  exact ⟨Int.emod_nonneg _ (by omega), Int.emod_lt_of_pos _ hn⟩
theorem bldW (v r : Int) : bldS [(0, 1), (1, 1), (2, 1)] #[Value.int IntKind.i64 0, Value.int IntKind.u32 0, Value.int IntKind.u32 0] [(0, .int .i64 v), (1, .int .u32 r)] = some (mW ⟨v, r, 0⟩) := by kernel_rfl
theorem bldW0 (v : Int) : bldS [(0, 1), (1, 1), (2, 1)] #[Value.int IntKind.i64 0, Value.int IntKind.u32 0, Value.int IntKind.u32 0] [(0, .int .i64 v)] = some (mW ⟨v, 0, 0⟩) := by kernel_rfl

theorem cpt_len : ∀ l : List Int, (cpt l).length ≤ l.length
  | [] => Nat.le_refl _
  | [a] => Nat.le_refl _
  | a :: b :: l => by
    have := cpt_len (b :: l)
    rw [cpt]
    split
    · simp only [List.length_cons] at this ⊢; omega
    · simp only [List.length_cons] at this ⊢; omega
theorem ents_len (σ : Spc) : σ.ents.1.length ≤ σ.rd.length := by
  have : σ.entl.length = σ.rd.length := by unfold Spc.entl; rw [List.length_map, sorted_len]
  unfold Spc.ents
  split
  · exact Nat.zero_le _
  · split
    · exact Nat.zero_le _
    · split
      · exact Nat.zero_le _
      · exact Nat.le_of_eq this
/-- all places of the first n are read -/
def Spc.gets (σ : Spc) : Nat → Spc
  | 0 => σ
  | n + 1 => ((σ.gets n).get n).2
theorem InN.gets {n : Nat} {k : Int → Option W3} (D : Dom n k) (H : InN n k σ) : ∀ m : Nat, m ≤ n → InN n k (σ.gets m) ∧ (σ.gets m).pu = σ.pu ∧ (∀ a : Int, a ∈ (σ.gets m).rd ↔ a ∈ σ.rd ∨ (0 ≤ a ∧ a < m))
  | 0, _ => ⟨H, rfl, fun a => ⟨.inl, fun h => h.elim id fun h => by omega⟩⟩
  | m + 1, hm => by
    obtain ⟨h1, h2, h3⟩ := H.gets D m (by omega)
    refine ⟨h1.get D (by omega), by show (Spc.get _ _).2.pu = _; rw [get_pu]; exact h2, fun a => ?_⟩
    show a ∈ (Spc.get _ _).2.rd ↔ _
    rw [h1.getE D (by omega), mem_rds, h3]
    constructor
    · rintro (h | h | h)
      · exact .inr (by omega)
      · exact .inl h
      · exact .inr (by omega)
    · rintro (h | h)
      · exact .inr (.inl h)
      · by_cases e : a = m
        · exact .inl e
        · exact .inr (.inr (by omega))

theorem EAr_set {ik : IntKind} {n i : Nat} {f : Nat → Int} {z : Int} : (EAr ik n).c (fun j => if j = i then z else f j) = ((EAr ik n).c f).set i (.int ik z) := by
  refine List.ext_getElem? fun j => ?_
  rw [List.getElem?_set]
  show ((List.range n).map _)[j]? = if i = j then (if i < ((List.range n).map _).length then _ else _) else ((List.range n).map _)[j]?
  by_cases hj : j < n
  · by_cases e : i = j
    · subst e; simp [hj]
    · have e' : ¬ j = i := fun x => e x.symm
      simp [hj, e, e']
  · by_cases e : i = j
    · subst e; simp [hj]
    · simp [hj, e]
theorem Cx.stoi {ik : IntKind} {n r : Nat} {f : Nat → Int} (c : Cx F0 h0 h L) (i : Nat) (hi : L[i]? = some (rVar (EAr ik n) r f)) {q : IntKind} {z x : Int} {j : Nat} (hz : z = j) (hj : j < n) {K : Hp → Prop}
    (hK : ∀ h', Cx F0 h0 h' (L.set i (rVar (EAr ik n) r (fun k => if k = j then x else f k))) → K h') : Vb (ixa n 1 (at0 r) (.int q z)) fun p => Sb (En.sto 1 p (.int ik x) h) K := by
  have := c.stof i hi (j := j) (w := .int ik x) (fun k => if k = j then x else f k) rfl hj EAr_set hK
  rw [show fa j (at0 r) = some (.pointer (some ⟨r, 0 + j, none⟩)) from fa_add _ _ _] at this
  rw [show at0 r = .pointer (some ⟨r, 0, none⟩) from rfl, ixa_at hz hj]
  exact this

theorem chkL_ok : ∀ (es : List E6) (seen : List Int), (∀ e ∈ es, wrongE e = 0) → (seen ++ es.map (·.at')).Nodup → chkL seen es = 0
  | [], _, _, _ => rfl
  | e :: es, seen, h1, h2 => by
    rw [chkL, if_neg (by rw [h1 e (List.mem_cons_self ..)]; simp)]
    rw [List.map_cons] at h2
    rw [if_neg (fun hm => ?_), chkL_ok es (seen ++ [e.at']) (fun x hx => h1 x (List.mem_cons_of_mem _ hx)) (by rw [List.append_assoc]; exact h2)]
    rw [List.nodup_append] at h2
    exact h2.2.2 _ hm _ (List.mem_cons_self ..) rfl
theorem entl_at (l : List Int) (σ : Spc) : (l.map σ.ent).map (·.at') = l := by
  rw [List.map_map]
  exact List.map_id' l
theorem nd_sorted {l : List Int} (h : l.Nodup) : (sorted l).Nodup := (sorted_perm l).nodup_iff.2 h
theorem InN.wrong {n : Int} {k : Int → Option W3} (D : Dom n k) (hn : n ≤ 4096) (hv : ∀ a w, k a = some w → w.ver < 4294967295) (H : InN n k σ) {a : Int} (ha : a ∈ σ.rd) : wrongE (σ.ent a) = 0 := by
  obtain ⟨a0, a1⟩ := H.rd a ha
  obtain ⟨w, hw⟩ := Option.isSome_iff_exists.1 (D a a0 a1)
  have hk : σ.kn a = some w := by rw [H.kn]; exact hw
  unfold wrongE
  rw [if_neg (by show ¬ (a < 0 ∨ 4096 ≤ a); omega)]
  have h2 := hv a w hw
  rw [if_neg (fun e => by
    have : ((σ.kn a).getD W0).ver = 4294967295 := e.2
    rw [hk] at this
    have : w.ver = 4294967295 := this
    omega)]
  rw [if_neg (fun e => ?_)]
  have e1 : (lastP σ.pu a).isSome = false := e.1
  have e2 : σ.vw a ≠ ((σ.kn a).getD W0).v := e.2
  apply e2
  unfold Spc.vw
  cases hl : lastP σ.pu a with
  | some v => rw [hl] at e1; cases e1
  | none => rw [hk]; rfl
theorem InN.chk {n : Int} {k : Int → Option W3} (D : Dom n k) (hn : n ≤ 4096) (hv : ∀ a w, k a = some w → w.ver < 4294967295) (H : InN n k σ) (h0 : σ.rd ≠ []) (hl : σ.rd.length ≤ 32) : chk σ.entl = 0 := by
  have e : σ.entl.length = σ.rd.length := by unfold Spc.entl; rw [List.length_map, sorted_len]
  have : σ.rd.length ≠ 0 := fun e => h0 (List.eq_nil_of_length_eq_zero e)
  unfold En.chk
  rw [if_neg (by omega), if_neg (by omega)]
  refine chkL_ok _ _ (fun x hx => ?_) ?_
  · obtain ⟨a, ha, rfl⟩ := List.mem_map.1 hx
    exact H.wrong D hn hv ((sorted_perm σ.rd).mem_iff.1 ha)
  · rw [List.nil_append]
    show ((List.map σ.ent (sorted σ.rd)).map (·.at')).Nodup
    rw [entl_at]
    exact nd_sorted H.nd
/-- the entries of a space that has not ended -/
theorem InN.entsE {n : Int} {k : Int → Option W3} (D : Dom n k) (hn : n ≤ 4096) (hv : ∀ a w, k a = some w → w.ver < 4294967295) (H : InN n k σ) (hl : σ.rd.length ≤ 32) : σ.ents = (σ.entl, 0) := by
  have e : σ.entl.length = σ.rd.length := by unfold Spc.entl; rw [List.length_map, sorted_len]
  unfold Spc.ents
  rw [if_neg (by rw [H.en]; simp)]
  by_cases h0 : σ.rd = []
  · have : σ.entl = [] := List.eq_nil_of_length_eq_zero (by rw [e, h0]; rfl)
    rw [this]; rfl
  · have : σ.rd.length ≠ 0 := fun e => h0 (List.eq_nil_of_length_eq_zero e)
    rw [if_neg (by omega), if_neg (by rw [H.chk D hn hv h0 hl]; simp)]

theorem entl_find {i : Int} (σ : Spc) (hp : ∀ p ∈ σ.pu, p.1 ∈ σ.rd) : σ.entl.find? (fun e => e.at' == i && e.wr) = if (lastP σ.pu i).isSome then some (σ.ent i) else none := by
  unfold Spc.entl
  rw [List.find?_map]
  by_cases hs : (lastP σ.pu i).isSome = true
  · rw [if_pos hs]
    have hm : i ∈ sorted σ.rd := by
      rw [(sorted_perm σ.rd).mem_iff]
      obtain ⟨p, h1, rfl⟩ := List.mem_map.1 (lastP_mem.1 hs)
      exact hp p h1
    have : (sorted σ.rd).find? ((fun e => e.at' == i && e.wr) ∘ σ.ent) = some i := by
      cases hf : (sorted σ.rd).find? ((fun e => e.at' == i && e.wr) ∘ σ.ent) with
      | none =>
        rw [List.find?_eq_none] at hf
        refine absurd ?_ (hf i hm)
        show (i == i && (lastP σ.pu i).isSome) = true
        rw [hs]; simp
      | some a =>
        have h2 := List.find?_some hf
        have h2 : (a == i && (lastP σ.pu a).isSome) = true := h2
        simp only [Bool.and_eq_true, beq_iff_eq] at h2
        rw [h2.1]
    rw [this]; rfl
  · rw [if_neg hs]
    have : (sorted σ.rd).find? ((fun e => e.at' == i && e.wr) ∘ σ.ent) = none := by
      rw [List.find?_eq_none]
      intro a _ hc
      have hc : (a == i && (lastP σ.pu a).isSome) = true := hc
      simp only [Bool.and_eq_true, beq_iff_eq] at hc
      exact hs (by rw [← hc.1]; exact hc.2)
    rw [this]; rfl
theorem rdlen {xs : List Int} {n : Nat} (hn : xs.Nodup) (hr : ∀ a ∈ xs, 0 ≤ a ∧ a < n) : xs.length ≤ n := by
  have h1 : (xs.map Int.toNat).Nodup := by
    unfold List.Nodup
    rw [List.pairwise_map]
    refine List.Pairwise.imp_of_mem (R := (· ≠ ·)) (fun {a b} ha hb hne e => ?_) hn
    have := hr a ha; have := hr b hb
    omega
  have := nodup_len (n := n) h1 fun j hj => by
    obtain ⟨x, hx, rfl⟩ := List.mem_map.1 hj
    have := hr x hx
    omega
  simpa using this
/-- the entries: where they are -/
theorem ents_mem {σ : Spc} (h : σ.ents.2 = 0) : ∀ e ∈ σ.ents.1, ∃ a ∈ σ.rd, e = σ.ent a := by
  have key : ∀ e ∈ σ.entl, ∃ a ∈ σ.rd, e = σ.ent a := fun e he => by
    obtain ⟨a, ha, rfl⟩ := List.mem_map.1 he
    exact ⟨a, (sorted_perm σ.rd).mem_iff.1 ha, rfl⟩
  unfold Spc.ents at h ⊢
  split
  · rename_i he; rw [if_pos he] at h; cases h
  · split
    · exact fun e he => by cases he
    · split
      · exact fun e he => by cases he
      · exact key
end Go.En
namespace Go.En
open Prog Spc Go.Sort

/-- a space whose words are plain, known where read, read where written -/
structure Gd (σ : Spc) : Prop where
  wf : σ.wf
  nd : σ.rd.Nodup
  kd : ∀ a ∈ σ.rd, (σ.kn a).isSome = true
  pu : ∀ p ∈ σ.pu, p.1 ∈ σ.rd
section
variable {σ τ : Spc} {α β : Type} {Q : α → Spc → Prop} {a v : Int} {n m : Nat}
theorem Gd.new {ps : List (Int × W3)} (hv : ∀ p ∈ ps, R64 p.2.v) : Gd (newS ps) := ⟨newS_wf hv, List.nodup_nil, (fun a h => by cases h), fun a h => by cases h⟩
theorem Gd.get (H : Gd σ) (a : Int) : Gd (σ.get a).2 := by
  unfold Spc.get
  split
  · exact H
  · split
    · rename_i hk
      refine ⟨H.wf.rds a, nd_rds H.nd, fun b hb => ?_, fun p hp => mem_rds.2 (.inr (H.pu p hp))⟩
      rcases mem_rds.1 hb with rfl | hb
      · exact hk
      · exact H.kd b hb
    · exact ⟨H.wf.ends a, H.nd, H.kd, H.pu⟩
theorem Gd.put (H : Gd σ) (a : Int) {v : Int} (hv : R64 v) (hl : σ.pu.length ≤ big) : Gd (σ.put a v) := by
  have hw := H.wf.put a hv hl
  unfold Spc.put at hw ⊢
  split
  · exact H
  · rename_i he
    rw [if_neg he] at hw
    split
    · rename_i hk
      rw [if_pos hk] at hw
      refine ⟨hw, nd_rds H.nd, fun b hb => ?_, fun p hp => ?_⟩
      · rcases mem_rds.1 hb with rfl | hb
        · exact hk
        · exact H.kd b hb
      · show p.1 ∈ (σ.rds a).rd
        rw [mem_rds]
        rcases List.mem_append.1 (show p ∈ σ.pu ++ [(a, v)] from hp) with h | h
        · exact .inr (H.pu p h)
        · simp only [List.mem_singleton] at h
          subst h; exact .inl rfl
    · exact ⟨H.wf.ends a, H.nd, H.kd, H.pu⟩
theorem Gd.back (H : Gd σ) (m : Int) : Gd (σ.back m) := by
  refine ⟨H.wf.back m, by rw [back_rd]; exact H.nd, by rw [back_rd, back_kn]; exact H.kd, ?_⟩
  rw [back_rd]
  unfold Spc.back
  split
  · exact H.pu
  · split
    · exact fun p h => H.pu p (List.mem_of_mem_take h)
    · exact H.pu
/-- what any program keeps -/
theorem wp_gd : ∀ {p : Prog α} {σ : Spc} {Q : α → Spc → Prop}, Gd σ → wp p σ Q → wp p σ fun a σ' => Gd σ' ∧ σ'.kn = σ.kn ∧ (∀ a ∈ σ.rd, a ∈ σ'.rd) ∧ Q a σ'
  | .ret a, σ, Q, H, h => ⟨H, rfl, fun _ h => h, h⟩
  | .get a k, σ, Q, H, h => Prog.wp_mono (wp_gd (p := k _) (H.get a) h) fun a' σ' ⟨h1, h2, h3, h4⟩ => ⟨h1, h2.trans (get_kn σ a), fun b hb => h3 b (by
      unfold Spc.get
      split
      · exact hb
      · split
        · exact mem_rds.2 (.inr hb)
        · exact hb), h4⟩
  | .put a v k, σ, Q, H, h => ⟨h.1, h.2.1, Prog.wp_mono (wp_gd (p := k) (H.put a h.1 h.2.1) h.2.2) fun a' σ' ⟨h1, h2, h3, h4⟩ => ⟨h1, h2.trans (put_kn σ a v), fun b hb => h3 b (by
      unfold Spc.put
      split
      · exact hb
      · split
        · exact mem_rds.2 (.inr hb)
        · exact hb), h4⟩⟩
  | .mark k, σ, Q, H, h => wp_gd (p := k _) H h
  | .back m k, σ, Q, H, h => Prog.wp_mono (wp_gd (p := k) (H.back m) h) fun a' σ' ⟨h1, h2, h3, h4⟩ => ⟨h1, h2.trans back_kn, fun b hb => h3 b (by rw [back_rd]; exact hb), h4⟩

/-- at most n steps that read or write -/
def costLe : Nat → Prog α → Prop
  | _, .ret _ => True
  | n, .get _ k => 0 < n ∧ ∀ v, costLe (n - 1) (k v)
  | n, .put _ _ k => 0 < n ∧ costLe (n - 1) k
  | n, .mark k => ∀ v, costLe n (k v)
  | n, .back _ k => costLe n k
theorem costLe.mono : ∀ {p : Prog α} {n m : Nat}, costLe n p → n ≤ m → costLe m p
  | .ret _, _, _, _, _ => trivial
  | .get _ k, n, m, h, hl => ⟨by have := h.1; omega, fun v => (h.2 v).mono (by omega)⟩
  | .put _ _ k, n, m, h, hl => ⟨by have := h.1; omega, h.2.mono (by omega)⟩
  | .mark k, n, m, h, hl => fun v => (h v).mono hl
  | .back _ k, n, m, h, hl => costLe.mono (p := k) h hl
theorem costLe.bind {f : α → Prog β} {m : Nat} (hf : ∀ a, costLe m (f a)) : ∀ {p : Prog α} {n : Nat}, costLe n p → costLe (n + m) (p >>= f)
  | .ret a, n, _ => (hf a).mono (Nat.le_add_left _ _)
  | .get _ k, n, h => ⟨by have := h.1; omega, fun v => by
      have := costLe.bind hf (h.2 v)
      have h1 := h.1
      rw [show n + m - 1 = n - 1 + m by omega]; exact this⟩
  | .put _ _ k, n, h => ⟨by have := h.1; omega, by
      have := costLe.bind hf h.2
      have h1 := h.1
      rw [show n + m - 1 = n - 1 + m by omega]; exact this⟩
  | .mark k, n, h => fun v => costLe.bind hf (h v)
  | .back _ k, n, h => costLe.bind (p := k) hf h
theorem cost_pure {a : α} : costLe n (pure a : Prog α) := trivial
theorem cost_gt {q : Int → Prog α} (h : ∀ v, costLe n (q v)) : costLe (n + 1) (gt a >>= q) := ⟨Nat.succ_pos _, h⟩
theorem cost_pt {q : Unit → Prog α} (h : costLe n (q ())) : costLe (n + 1) (pt a v >>= q) := ⟨Nat.succ_pos _, h⟩
theorem cost_ite {c : Prop} [Decidable c] {p q : Prog α} (h1 : costLe n p) (h2 : costLe n q) : costLe n (if c then p else q) := by split <;> assumption
theorem rds_len : (σ.rds a).rd.length ≤ σ.rd.length + 1 := by
  show (if a ∈ σ.rd then σ.rd else σ.rd ++ [a]).length ≤ _
  split
  · omega
  · rw [List.length_append, List.length_singleton]; omega
theorem wp_cost : ∀ {p : Prog α} {σ : Spc} {Q : α → Spc → Prop} {n : Nat}, costLe n p → wp p σ Q → wp p σ fun a σ' => σ'.rd.length ≤ σ.rd.length + n ∧ Q a σ'
  | .ret a, σ, Q, n, _, h => ⟨by omega, h⟩
  | .get a k, σ, Q, n, c, h => Prog.wp_mono (wp_cost (p := k _) (c.2 _) h) fun a' σ' ⟨h1, h2⟩ => ⟨by
      have h3 : (σ.get a).2.rd.length ≤ σ.rd.length + 1 := by
        unfold Spc.get
        split
        · exact Nat.le_succ _
        · split
          · exact rds_len
          · exact Nat.le_succ _
      have h4 : 0 < n := c.1
      omega, h2⟩
  | .put a v k, σ, Q, n, c, h => ⟨h.1, h.2.1, Prog.wp_mono (wp_cost (p := k) c.2 h.2.2) fun a' σ' ⟨h1, h2⟩ => ⟨by
      have h3 : (σ.put a v).rd.length ≤ σ.rd.length + 1 := by
        unfold Spc.put
        split
        · exact Nat.le_succ _
        · split
          · exact rds_len
          · exact Nat.le_succ _
      have h4 : 0 < n := c.1
      omega, h2⟩⟩
  | .mark k, σ, Q, n, c, h => wp_cost (p := k _) (c _) h
  | .back m k, σ, Q, n, c, h => Prog.wp_mono (wp_cost (p := k) c h) fun a' σ' ⟨h1, h2⟩ => ⟨by rw [back_rd] at h1; exact h1, h2⟩
theorem cost_add {p : Pl} {k x : Int} : costLe 2 (pAdd p k x) := ⟨by decide, fun _ => ⟨by decide, trivial⟩⟩
theorem cost_take {p : Pl} : costLe 6 (pTake p) := by
  unfold pTake
  refine cost_ite (cost_gt fun f => ?_) trivial
  refine cost_ite (cost_ite (cost_gt fun nx => cost_pt ?_) trivial) (cost_gt fun n => cost_ite trivial (cost_pt trivial))
  refine costLe.mono (costLe.bind (m := 0) (fun _ => ?_) cost_add) (by decide)
  trivial
theorem cost_give {p : Pl} {x : Int} : costLe 5 (pGive p x) := by
  unfold pGive
  refine cost_ite (cost_gt fun r => cost_pt (cost_pt ?_)) trivial
  refine costLe.mono (costLe.bind (m := 0) (fun _ => ?_) cost_add) (by decide)
  trivial
theorem cost_left {p : Pl} : costLe 2 (pLeft p) := by
  unfold pLeft
  exact cost_ite (cost_gt fun _ => cost_gt fun _ => trivial) trivial
end

/-! ### The words behind the entries -/
section
variable {σ : Spc} {n : Nat} {g : Nat → W3}
/-- words 0..n-1 with the values of a space -/
theorem Gd.inN (H : Gd σ) (hen : σ.en = false) (hk : ∀ a, (σ.kn a).isSome = true → 0 ≤ a ∧ a < n) : InN n σ.kn σ := ⟨rfl, hen, H.nd, fun a h => hk a (H.kd a h), H.wf⟩
/-- a word that is not written is as before -/
theorem vw_old {a : Int} (h : (lastP σ.pu a).isSome = false) : σ.vw a = ((σ.kn a).map (·.v)).getD 0 := by
  unfold Spc.vw
  cases hl : lastP σ.pu a with
  | some v => rw [hl] at h; cases h
  | none => rfl
end
end Go.En
namespace Go.En
open Prog Spc Go.Sort

section
variable {F0 : Fp} {h0 h h' : Hp} {L M : List Res}
/-- resources taken as one, taken apart again -/
theorem Cx.unpack (c : Cx F0 h0 h (L ++ [rStar M])) : Cx F0 h0 h (L ++ M) := by
  obtain ⟨Fs, o, g, k⟩ := c
  obtain ⟨Fa, Fb, rfl, o1, o2, x⟩ := own_split o
  cases o2 with
  | cons a d o2 =>
    cases o2
    rename_i F
    obtain ⟨Gs, o3, hf⟩ := a
    refine ⟨Fa ++ Gs, own_append o1 o3 fun X hX G hG r hr hG2 => ?_, g, fun G hG r hr => ?_⟩
    · exact x X hX F (List.mem_cons_self ..) r hr ((hf r).2 ⟨G, hG, hG2⟩)
    · rcases List.mem_append.1 hG with h1 | h1
      · exact k G (List.mem_append_left _ h1) r hr
      · exact k F (List.mem_append_right _ (List.mem_cons_self ..)) r ((hf r).2 ⟨G, h1, hr⟩)
theorem set_last {α : Type _} (L : List α) (a b : α) : (L ++ [a]).set L.length b = L ++ [b] := by
  rw [List.set_append_right _ _ (Nat.le_refl _)]; simp
/-- a call that works on the last resources -/
theorem Cx.frameL (c : Cx F0 h0 h (L ++ M)) : ∃ F, Cx F h h M ∧ (∀ r, F r → F0 r ∨ h0.size ≤ r) ∧ ∀ {h' : Hp} {M' : List Res}, Cx F h h' M' → Cx F0 h0 h' (L ++ M') := by
  have c1 := c.pack
  have hi : (L ++ [rStar M])[L.length]? = some (rStar M) := by simp
  obtain ⟨F, c2, hF, _, up⟩ := c1.frameE hi
  obtain ⟨F', a, m⟩ := c2.fin
  refine ⟨F', Cx.star a, fun r hr => ?_, fun {h' M'} c3 => ?_⟩
  · rcases m.grow r hr with e | e
    · exact hF r e
    · exact .inr (Nat.le_trans c.gr.size e)
  · obtain ⟨F'', a', m'⟩ := c3.unstar
    have c4 : Cx F h h' [rStar M'] := Cx.mk1 a' (m.trans m')
    have c5 := up (M := []) c4
    rw [List.append_nil, set_last] at c5
    exact c5.unpack
end

/-! ### A space that knows less -/
section
variable {σ τ : Spc} {α : Type}
structure Sim (σ τ : Spc) : Prop where
  en : σ.en = false
  en' : τ.en = false
  rd : σ.rd = τ.rd
  pu : σ.pu = τ.pu
  kn : ∀ a w, σ.kn a = some w → τ.kn a = some w
  has : ∀ a ∈ σ.rd, (σ.kn a).isSome = true
theorem Sim.vw (H : Sim σ τ) {a : Int} (ha : (σ.kn a).isSome = true) : σ.vw a = τ.vw a := by
  obtain ⟨w, hw⟩ := Option.isSome_iff_exists.1 ha
  unfold Spc.vw
  rw [H.pu, hw, H.kn a w hw]
theorem Sim.ent (H : Sim σ τ) {a : Int} (ha : (σ.kn a).isSome = true) : σ.ent a = τ.ent a := by
  obtain ⟨w, hw⟩ := Option.isSome_iff_exists.1 ha
  unfold Spc.ent
  rw [H.vw ha, H.pu, hw, H.kn a w hw]
theorem Sim.rds (H : Sim σ τ) {a : Int} (ha : (σ.kn a).isSome = true) : Sim (σ.rds a) (τ.rds a) :=
  ⟨H.en, H.en', by show (if a ∈ σ.rd then σ.rd else σ.rd ++ [a]) = (if a ∈ τ.rd then τ.rd else τ.rd ++ [a]); rw [H.rd], H.pu, H.kn, fun b hb => by
    rcases mem_rds.1 hb with rfl | hb
    · exact ha
    · exact H.has b hb⟩
theorem run_en : ∀ {p : Prog α} {σ : Spc}, σ.en = true → (p.run σ).2.en = true ∧ (p.run σ).2.nd = σ.nd
  | .ret a, σ, h => ⟨h, rfl⟩
  | .get a k, σ, h => by
    have e : (σ.get a).2 = σ := by unfold Spc.get; rw [if_pos h]
    show ((k (σ.get a).1).run (σ.get a).2).2.en = true ∧ ((k (σ.get a).1).run (σ.get a).2).2.nd = _
    rw [e]; exact run_en h
  | .put a v k, σ, h => by
    have e : σ.put a v = σ := by unfold Spc.put; rw [if_pos h]
    show (k.run (σ.put a v)).2.en = true ∧ (k.run (σ.put a v)).2.nd = _
    rw [e]; exact run_en h
  | .mark k, σ, h => run_en (p := k _) h
  | .back m k, σ, h => by
    have e : σ.back m = σ := by unfold Spc.back; rw [if_pos h]
    show (k.run (σ.back m)).2.en = true ∧ (k.run (σ.back m)).2.nd = _
    rw [e]; exact run_en h
theorem run_rd : ∀ {p : Prog α} {σ : Spc}, (∀ a ∈ σ.rd, a ∈ (p.run σ).2.rd)
  | .ret a, σ => fun _ h => h
  | .get a k, σ => fun b hb => run_rd (p := k _) (σ := (σ.get a).2) b (by
      unfold Spc.get
      split
      · exact hb
      · split
        · exact mem_rds.2 (.inr hb)
        · exact hb)
  | .put a v k, σ => fun b hb => run_rd (p := k) (σ := σ.put a v) b (by
      unfold Spc.put
      split
      · exact hb
      · split
        · exact mem_rds.2 (.inr hb)
        · exact hb)
  | .mark k, σ => run_rd (p := k _)
  | .back m k, σ => fun b hb => run_rd (p := k) (σ := σ.back m) b (by rw [back_rd]; exact hb)
theorem run_kn : ∀ {p : Prog α} {σ : Spc}, (p.run σ).2.kn = σ.kn
  | .ret a, σ => rfl
  | .get a k, σ => (run_kn (p := k _)).trans (get_kn σ a)
  | .put a v k, σ => (run_kn (p := k)).trans (put_kn σ a v)
  | .mark k, σ => run_kn (p := k _)
  | .back m k, σ => (run_kn (p := k)).trans back_kn
theorem wp_det : ∀ {p : Prog α} {σ : Spc} {Q : α → Spc → Prop}, wp p σ Q → wp p σ fun a σ' => a = (p.run σ).1 ∧ σ' = (p.run σ).2
  | .ret a, σ, Q, h => ⟨rfl, rfl⟩
  | .get a k, σ, Q, h => wp_det (p := k _) h
  | .put a v k, σ, Q, h => ⟨h.1, h.2.1, wp_det (p := k) h.2.2⟩
  | .mark k, σ, Q, h => wp_det (p := k _) h
  | .back m k, σ, Q, h => wp_det (p := k) h
/-- a program on both: alike, or the one ends at a place that it does not know -/
theorem sim_run : ∀ {p : Prog α} {σ τ : Spc}, Sim σ τ → (p.run τ).2.en = false →
    ((p.run σ).1 = (p.run τ).1 ∧ Sim (p.run σ).2 (p.run τ).2) ∨ ((p.run σ).2.en = true ∧ (p.run σ).2.nd ∈ (p.run τ).2.rd ∧ σ.kn (p.run σ).2.nd = none)
  | .ret a, σ, τ, H, _ => .inl ⟨rfl, H⟩
  | .get a k, σ, τ, H, he => by
    have hσ : ¬ σ.en = true := by rw [H.en]; simp
    have hτ : ¬ τ.en = true := by rw [H.en']; simp
    have hkτ : (τ.kn a).isSome = true := by
      cases hk : τ.kn a with
      | some w => rfl
      | none =>
        have e : (τ.get a).2 = τ.ends a := by unfold Spc.get; rw [if_neg hτ, hk]; rfl
        have : ((k (τ.get a).1).run (τ.get a).2).2.en = true := by rw [e]; exact (run_en rfl).1
        have he : ((k (τ.get a).1).run (τ.get a).2).2.en = false := he
        rw [this] at he; cases he
    have eτ : τ.get a = (τ.vw a, τ.rds a) := by unfold Spc.get; rw [if_neg hτ, if_pos hkτ]
    cases hk : σ.kn a with
    | some w =>
      have hs : (σ.kn a).isSome = true := by rw [hk]; rfl
      have eσ : σ.get a = (σ.vw a, σ.rds a) := by unfold Spc.get; rw [if_neg hσ, if_pos hs]
      have he : ((k (τ.get a).1).run (τ.get a).2).2.en = false := he
      show (((k (σ.get a).1).run (σ.get a).2).1 = ((k (τ.get a).1).run (τ.get a).2).1 ∧ _) ∨ (((k (σ.get a).1).run (σ.get a).2).2.en = true ∧ _ ∧ _)
      rw [eτ] at he
      have := sim_run (p := k (σ.vw a)) (H.rds hs) (by rw [H.vw hs]; exact he)
      show (((k (σ.get a).1).run (σ.get a).2).1 = ((k (τ.get a).1).run (τ.get a).2).1 ∧ Sim ((k (σ.get a).1).run (σ.get a).2).2 ((k (τ.get a).1).run (τ.get a).2).2) ∨ (((k (σ.get a).1).run (σ.get a).2).2.en = true ∧ ((k (σ.get a).1).run (σ.get a).2).2.nd ∈ ((k (τ.get a).1).run (τ.get a).2).2.rd ∧ σ.kn ((k (σ.get a).1).run (σ.get a).2).2.nd = none)
      rw [eσ, eτ]
      dsimp only
      rw [H.vw hs] at this ⊢
      exact this
    | none =>
      right
      have eσ : σ.get a = (0, σ.ends a) := by unfold Spc.get; rw [if_neg hσ, hk]; rfl
      show ((k (σ.get a).1).run (σ.get a).2).2.en = true ∧ ((k (σ.get a).1).run (σ.get a).2).2.nd ∈ ((k (τ.get a).1).run (τ.get a).2).2.rd ∧ σ.kn ((k (σ.get a).1).run (σ.get a).2).2.nd = none
      rw [eσ, eτ]
      have h1 := run_en (p := k 0) (σ := σ.ends a) rfl
      refine ⟨h1.1, ?_, ?_⟩
      · rw [h1.2]; exact run_rd a (mem_rds.2 (.inl rfl))
      · rw [h1.2]; exact hk
  | .put a v k, σ, τ, H, he => by
    have hσ : ¬ σ.en = true := by rw [H.en]; simp
    have hτ : ¬ τ.en = true := by rw [H.en']; simp
    have he : (k.run (τ.put a v)).2.en = false := he
    have hkτ : (τ.kn a).isSome = true := by
      cases hk : τ.kn a with
      | some w => rfl
      | none =>
        have e : τ.put a v = τ.ends a := by unfold Spc.put; rw [if_neg hτ, hk]; rfl
        rw [e, (run_en rfl).1] at he; cases he
    have eτ : τ.put a v = { τ.rds a with pu := τ.pu ++ [(a, v)] } := by unfold Spc.put; rw [if_neg hτ, if_pos hkτ]
    show ((k.run (σ.put a v)).1 = (k.run (τ.put a v)).1 ∧ Sim (k.run (σ.put a v)).2 (k.run (τ.put a v)).2) ∨ ((k.run (σ.put a v)).2.en = true ∧ (k.run (σ.put a v)).2.nd ∈ (k.run (τ.put a v)).2.rd ∧ σ.kn (k.run (σ.put a v)).2.nd = none)
    cases hk : σ.kn a with
    | some w =>
      have hs : (σ.kn a).isSome = true := by rw [hk]; rfl
      have eσ : σ.put a v = { σ.rds a with pu := σ.pu ++ [(a, v)] } := by unfold Spc.put; rw [if_neg hσ, if_pos hs]
      have h2 := H.rds hs
      have H' : Sim (σ.put a v) (τ.put a v) := by
        rw [eσ, eτ]
        exact ⟨h2.en, h2.en', h2.rd, by show σ.pu ++ _ = τ.pu ++ _; rw [H.pu], h2.kn, h2.has⟩
      have := sim_run (p := k) H' he
      rw [put_kn] at this
      exact this
    | none =>
      right
      have eσ : σ.put a v = σ.ends a := by unfold Spc.put; rw [if_neg hσ, hk]; rfl
      rw [eσ]
      have h1 := run_en (p := k) (σ := σ.ends a) rfl
      refine ⟨h1.1, ?_, ?_⟩
      · rw [h1.2, eτ]; exact run_rd a (mem_rds.2 (.inl rfl))
      · rw [h1.2]; exact hk
  | .mark k, σ, τ, H, he => by
    have he : ((k τ.pu.length).run τ).2.en = false := he
    have := sim_run (p := k σ.pu.length) H (by rw [H.pu]; exact he)
    show (((k σ.pu.length).run σ).1 = ((k τ.pu.length).run τ).1 ∧ Sim ((k σ.pu.length).run σ).2 ((k τ.pu.length).run τ).2) ∨ (((k σ.pu.length).run σ).2.en = true ∧ ((k σ.pu.length).run σ).2.nd ∈ ((k τ.pu.length).run τ).2.rd ∧ σ.kn ((k σ.pu.length).run σ).2.nd = none)
    rw [H.pu] at this ⊢
    exact this
  | .back m k, σ, τ, H, he => by
    have hσ : ¬ σ.en = true := by rw [H.en]; simp
    have hτ : ¬ τ.en = true := by rw [H.en']; simp
    have H' : Sim (σ.back m) (τ.back m) := by
      refine ⟨by rw [back_en]; exact H.en, by rw [back_en]; exact H.en', by rw [back_rd, back_rd]; exact H.rd, ?_, by rw [back_kn, back_kn]; exact H.kn, by rw [back_rd, back_kn]; exact H.has⟩
      unfold Spc.back
      rw [if_neg hσ, if_neg hτ, H.pu]
      split <;> first | rfl | exact H.pu
    have := sim_run (p := k) H' he
    rw [back_kn] at this
    exact this
end

/-- some of the words of a table -/
structure Sub (g : Nat → W3) (n : Nat) (ps : List (Int × W3)) : Prop where
  nd : (ps.map (·.1)).Nodup
  mem : ∀ p ∈ ps, 0 ≤ p.1 ∧ p.1 < n ∧ p.2 = g p.1.toNat
theorem Sub.nil (g : Nat → W3) (n : Nat) : Sub g n [] := ⟨List.nodup_nil, fun p hp => by cases hp⟩
theorem Sub.look {g : Nat → W3} {n : Nat} {ps : List (Int × W3)} (H : Sub g n ps) {a : Int} : lookA ps a = if a ∈ ps.map (·.1) then some (g a.toNat) else none := by
  split
  · rename_i h
    obtain ⟨p, hp, rfl⟩ := List.mem_map.1 h
    rw [← lookA_mem H.nd, ← (H.mem p hp).2.2]; exact hp
  · rename_i h
    unfold lookA
    rw [Option.map_eq_none_iff, List.find?_eq_none]
    intro p hp
    simp only [beq_iff_eq]
    exact fun e => h (List.mem_map.2 ⟨p, hp, e⟩)
theorem Sub.add {g : Nat → W3} {n : Nat} {ps : List (Int × W3)} (H : Sub g n ps) {a : Int} (ha : 0 ≤ a ∧ a < n) (hn : a ∉ ps.map (·.1)) : updA ps a (g a.toNat) = ps ++ [(a, g a.toNat)] ∧ Sub g n (ps ++ [(a, g a.toNat)]) := by
  refine ⟨updA_end (by rw [H.look, if_neg hn]), ?_, fun p hp => ?_⟩
  · rw [List.map_append, List.nodup_append]
    exact ⟨H.nd, by simp, fun x hx y hy e => hn (by simp only [List.map_cons, List.map_nil, List.mem_singleton] at hy; rw [← hy, ← e]; exact hx)⟩
  · rcases List.mem_append.1 hp with hp | hp
    · exact H.mem p hp
    · simp only [List.mem_singleton] at hp
      subst hp; exact ⟨ha.1, ha.2, rfl⟩
theorem Sub.kn {g : Nat → W3} {n : Nat} {ps : List (Int × W3)} (H : Sub g n ps) (hg : ∀ i, i < n → (g i).ref = 0) {a : Int} : (newS ps).kn a = if a ∈ ps.map (·.1) then some (g a.toNat) else none := by
  show (lookA ps a).filter _ = _
  rw [H.look]
  split
  · rename_i h
    obtain ⟨p, hp, rfl⟩ := List.mem_map.1 h
    have := H.mem p hp
    simp [Option.filter, hg p.1.toNat (by omega)]
  · rfl

end Go.En
