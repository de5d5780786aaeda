/-
  slices.Sort: the data; insertion.
-/
import Derived.Test.YtggieecoagcmbaaSpH
import Derived.Sort.AssemblyPlain
namespace Go.En
open Prog Spc Go.Sort

variable {S : Sys} {I : Ids} {h h0 h' : Hp} {F F0 : Fp} {R : Value → Hp → Prop} {L : List Res}

/-- the data that are sorted -/
abbrev rD (v : Value) (d : Array Int) : Res := rSl EI1 v d.toList
theorem dget {d : Array Int} {n : Nat} (h : n < d.size) : d.toList[n]? = some d[n]! := by
  rw [Array.getElem?_toList, getElem!_pos d n h, Array.getElem?_eq_getElem h]
theorem Cx.rd {v : Value} {d : Array Int} (c : Cx F0 h0 h L) (i : Nat) (hi : L[i]? = some (rD v d)) {z : Int} {n : Nat} {q : IntKind} (hz : z = n) (hn : n < d.size) {k : Value → Prop} (hk : k (.int .i64 d[n]!)) :
    Vb (ixs 1 v (.int q z)) fun p => Vb (ldc p h) k := (c.sl hi).sl.one rfl (dget hn) hz rfl hk
theorem Cx.wr {α : Type} {E : Enc α} {v : Value} {xs : List α} (c : Cx F0 h0 h L) (i : Nat) (hi : L[i]? = some (rSl E v xs)) {z : Int} {n : Nat} {q : IntKind} (hz : z = n) (hn : n < xs.length) (y : α) (h1 : E.n = 1) {w : Value} (hw : E.c y = [w]) {k : Hp → Prop}
    (hk : ∀ h', Cx F0 h0 h' (L.set i (rSl E v (xs.set n y))) → k h') : Vb (ixs 1 v (.int q z)) fun p => Sb (En.sto 1 p w h) k := by
  obtain ⟨F, ⟨o, hf⟩, up⟩ := c.upd hi
  exact o.set1 hn y h1.symm h1 hz hw fun h' o' ch => hk h' (up (F' := F) ⟨o', hf⟩ (mv_same (ch.mono fun q _ e => (hf q).2 e)))
theorem swp_list (d : Array Int) (x y : Nat) : (swp d x y).toList = (d.toList.set x d[y]!).set y d[x]! := by
  unfold swp; rw [Array.toList_setIfInBounds, Array.toList_setIfInBounds]
theorem swp_size (d : Array Int) (x y : Nat) : (swp d x y).size = d.size := by unfold swp; simp
/-- two elements are exchanged -/
theorem Cx.swp {v : Value} {d : Array Int} (c : Cx F0 h0 h L) (i : Nat) (hi : L[i]? = some (rD v d)) {zx zy : Int} {x y : Nat} (hzx : zx = x) (hzy : zy = y) (hx : x < d.size) (hy : y < d.size) {k : Hp → Prop}
    (hk : ∀ h', Cx F0 h0 h' (L.set i (rD v (Go.Sort.swp d x y))) → k h') :
    Vb (ixs 1 v (.int .i64 zy)) fun p => Vb (ldc p h) fun a => Vb (ixs 1 v (.int .i64 zx)) fun q => Vb (ldc q h) fun b => Vb (ixs 1 v (.int .i64 zx)) fun r => Sb (En.sto 1 r a h) fun h4 => Vb (ixs 1 v (.int .i64 zy)) fun t => Sb (En.sto 1 t b h4) k := by
  refine c.rd i hi hzy hy (c.rd i hi hzx hx ?_)
  refine c.wr i hi hzx (by simpa using hx) d[y]! rfl rfl fun h1 c1 => ?_
  have hi1 : (L.set i (rSl EI1 v (d.toList.set x d[y]!)))[i]? = some (rSl EI1 v (d.toList.set x d[y]!)) := by
    rw [List.getElem?_set_self (List.getElem?_eq_some_iff.1 hi).1]
  refine c1.wr i hi1 hzy (by simpa using hy) d[x]! rfl rfl fun h2 c2 => hk h2 ?_
  rw [List.set_set] at c2
  unfold rD
  rw [swp_list]
  exact c2

structure CsS0 (S : Sys) (I : Ids) : Prop where
  less : ∀ {x y : Int}, Pur S I.f_cmp_Less_api_Loc [.int .i64 x, .int .i64 y] (.bool (ltInt x y))
structure CsN (S : Sys) (I : Ids) : Prop where
  nan : ∀ {x : Int}, Pur S I.f_cmp_isNaN_api_Loc [.int .i64 x] (.bool false)
theorem K_isNaN {x : Int} : ∀ h R, Cx (fun _ => False) h h [] → (∀ h' M, Cx (fun _ => False) h h' M → R (.bool false) h') → F_cmp_isNaN_api_Loc S I (.int .i64 x) h R := by
  intro h R c hR
  unfold F_cmp_isNaN_api_Loc
  simp only [go_sem, ne_eq, not_true_eq_false, decide_false]
  exact hR _ _ c
theorem K_Less (cs : CsN S I) {x y : Int} : ∀ h R, Cx (fun _ => False) h h [] → (∀ h' M, Cx (fun _ => False) h h' M → R (.bool (ltInt x y)) h') → F_cmp_Less_api_Loc S I (.int .i64 x) (.int .i64 y) h R := by
  intro h R c hR
  unfold F_cmp_Less_api_Loc
  refine .here ?_
  refine c.pur cs.nan fun h1 c => ?_
  simp only [go_sem]
  exact hR _ _ c

theorem insInner_size (lt : Int → Int → Bool) (a : Nat) : ∀ (j : Nat) (d : Array Int), (insInner lt a j d).size = d.size
  | 0, d => rfl
  | j + 1, d => by unfold insInner; split <;> simp [insInner_size lt a j, swp_size]

theorem K_insertion {v : Value} {d : Array Int} {a b : Nat} (cs : CsS0 S I) (hab : a ≤ b) (hb : b ≤ d.size) (hN : d.size ≤ 1000000) (c : Cx F h0 h [rD v d]) (hR : ∀ h', Cx F h0 h' [rD v (insertionSort ltInt d a b)] → R (.tuple #[]) h') :
    F_slices_insertionSortOrdered_api_Loc S I v (.int .i64 a) (.int .i64 b) h R := by
  unfold F_slices_insertionSortOrdered_api_Loc
  simp only [go_sem]
  rw [wrS (by omega)]
  refine Lp1.by (fun (x : Nat × Array Int) u h' => u = .int .i64 x.1 ∧ a + 1 ≤ x.1 ∧ x.2.size = d.size ∧ insOuter ltInt a b x.1 x.2 = insertionSort ltInt d a b ∧ Cx F h0 h' [rD v x.2]) (fun x => b - x.1) (a + 1, d) ⟨rfl, Nat.le_refl _, rfl, rfl, c⟩ ?_
  rintro ⟨i, e⟩ u h1 ⟨rfl, hi, hs, hout, c⟩ again hagain
  dsimp only at *
  simp only [go_sem]
  refine brd (fun h2 => ?_) fun h2 => ?_
  · rw [insOuter, if_pos (by omega)] at hout
    refine Lp1.by (fun (x : Nat × Array Int) u h' => u = .int .i64 x.1 ∧ x.1 ≤ i ∧ x.2.size = d.size ∧ insOuter ltInt a b (i + 1) (insInner ltInt a x.1 x.2) = insertionSort ltInt d a b ∧ Cx F h0 h' [rD v x.2]) (fun x => x.1) (i, e) ⟨rfl, Nat.le_refl _, hs, hout, c⟩ ?_
    rintro ⟨j, e⟩ u h3 ⟨rfl, hj, hs, hin, c⟩ again2 hagain2
    dsimp only at *
    -- the inner loop is over
    have stop : ∀ h', insInner ltInt a j e = e → Cx F h0 h' [rD v e] → again (.int .i64 (IntKind.i64.wrap ((i : Int) + 1))) h' := by
      intro h' e1 c
      rw [wrS (by omega)]
      rw [e1] at hin
      exact hagain (i + 1, e) _ _ ⟨rfl, by omega, hs, hin, c⟩ (by omega)
    refine .here ?_
    simp only [go_sem]
    refine brd (fun h4 => ?_) fun h4 => ?_
    · obtain ⟨j, rfl⟩ : ∃ j', j = j' + 1 := ⟨j - 1, by omega⟩
      refine c.rd 0 rfl (n := j + 1) rfl (by omega) ?_
      rw [wr64 (n := ((j + 1 : Nat) : Int) - 1) (by omega)]
      refine c.rd 0 rfl (n := j) (by omega) (by omega) ?_
      refine c.pur cs.less fun h5 c => ?_
      cases hlt : ltInt e[j + 1]! e[j]! with
      | true =>
        simp only [go_sem]
        refine c.swp 0 rfl (zx := ((j + 1 : Nat) : Int)) (zy := ((j + 1 : Nat) : Int) - 1) (x := j + 1) (y := j) rfl (by omega) (by omega) (by omega) fun h6 c => ?_
        refine hagain2 (j, Go.Sort.swp e (j + 1) j) _ _ ⟨by congr 1; omega, by omega, by rw [swp_size, hs], ?_, c⟩ (by omega)
        rw [insInner, if_pos (by simp [hlt]; omega)] at hin
        exact hin
      | false =>
        simp only [go_sem]
        exact stop h5 (by rw [insInner, if_neg (by simp [hlt])]) c
    · refine stop h3 ?_ c
      cases j with
      | zero => rfl
      | succ j => rw [insInner, if_neg (by simp; omega)]
  · rw [insOuter, if_neg (by omega)] at hout
    rw [← hout] at hR
    exact hR _ c
end Go.En
