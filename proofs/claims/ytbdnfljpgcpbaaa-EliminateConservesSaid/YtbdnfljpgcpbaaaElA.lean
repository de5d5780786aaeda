/-
  Layer 53: contracts of the small functions.
-/
import Derived.Test.YtbdnfljpgcpbaaaEngO
import Derived.Test.YtbdnfljpgcpbaaaElText
namespace Go.En

structure Op where
  t : Int
  p : Bool
  v : Int
def EI : Enc Int := { n := 1, c := fun i => [.int .i64 i], len := fun _ => rfl, one := fun a v h => by simp only [List.mem_singleton] at h; subst h; rfl }
def EN : Enc Nat := { n := 1, c := fun i => [.int .i64 i], len := fun _ => rfl, one := fun a v h => by simp only [List.mem_singleton] at h; subst h; rfl }
def EB : Enc Bool := { n := 1, c := fun i => [.bool i], len := fun _ => rfl, one := fun a v h => by simp only [List.mem_singleton] at h; subst h; rfl }
def EO : Enc Op := { n := 3, c := fun o => [.int .i64 o.t, .bool o.p, .int .i64 o.v], len := fun _ => rfl, one := fun a v h => by simp only [List.mem_cons, List.not_mem_nil, or_false] at h; rcases h with rfl | rfl | rfl <;> rfl }
def EA : Enc (Int × Int) := { n := 2, c := fun o => [.int .i64 o.1, .int .i64 o.2], len := fun _ => rfl, one := fun a v h => by simp only [List.mem_cons, List.not_mem_nil, or_false] at h; rcases h with rfl | rfl <;> rfl }
def EP : Enc (Nat × Nat) := { n := 2, c := fun o => [.int .i64 o.1, .int .i64 o.2], len := fun _ => rfl, one := fun a v h => by simp only [List.mem_cons, List.not_mem_nil, or_false] at h; rcases h with rfl | rfl <;> rfl }

variable {S : Sys} {I : Ids} {h : Hp} {R : Value → Hp → Prop}

theorem K_great {s l : Value} {xs : List Int} {ys : List Op} (hs : Sl EI h s xs) (hl : Sl EO h l ys) (hR : ∀ b : Bool, (b = false → xs.length ≤ 100 ∧ ys.length ≤ 60) → R (.bool b) h) : F_simulcastlaw53_great S I s l h R := by
  unfold F_simulcastlaw53_great
  refine .here ?_
  refine vb hs.ln ?_
  simp only [go_sem]
  refine brd (fun h1 => hR _ (fun e => by simp at e)) fun h1 => ?_
  refine vb hl.ln ?_
  simp only [go_sem]
  exact hR _ fun e => by simp at e; omega

theorem idx_get {α : Type} {xs : List α} {i : Nat} (h : i < xs.length) : xs[i]? = some xs[i] := List.getElem?_eq_getElem h
theorem int_eq {n : Nat} {i : Int} (h : i = n) : i.toNat = n := by subst h; rfl

theorem K_of {l : Value} {xs : List Op} (hl : Sl EO h l xs) (hb : xs.length ≤ 1000) (hR : ∀ v h', Ow EO h' v xs → Gr h h' → Fs h v → R v h') : F_simulcastlaw53_of S I l h R := by
  unfold F_simulcastlaw53_of
  refine vb hl.ln ?_
  refine .by (fun (i : Nat) o v h' => i ≤ xs.length ∧ v = .int .i64 i ∧ Ow EO h' o (xs.take i) ∧ Gr h h' ∧ Fs h o) (fun i => xs.length - i) 0 ⟨by omega, rfl, by simpa using Ow.nil, .refl _ _, .nil _⟩ ?_
  rintro i o v h' ⟨hi, rfl, ho, hg, hf⟩ again hagain
  simp only [go_sem]
  refine brd (fun h1 => ?_) fun h1 => ?_
  · have hi' : i < xs.length := by omega
    refine (hl.gr hg).whole rfl (idx_get hi') rfl ?_
    refine nwset (E := EO) ⟨0, false, 0⟩ xs[i] rfl rfl rfl fun h2 hv hg2 => ?_
    refine vb (hv.whole rfl) ?_
    refine app1 (x := xs[i]) (ho.gr hg2) rfl rfl rfl (by simp; omega) (by simp; omega) fun o' h3 a b c => ?_
    refine hagain (i + 1) _ _ _ ⟨by omega, ?_, ?_, ?_, ?_⟩ (by omega)
    · rw [wrS (by omega)]
    · rw [List.take_add_one, idx_get hi']; exact a
    · exact (hg.trans hg2).write b hf
    · exact hf.next (hg.trans hg2) c
  · have : i = xs.length := by omega
    subst this
    rw [List.take_length] at ho
    exact hR _ _ ho hg hf

theorem K_EqualN {a b : Value} {xs ys : List Nat} (ha : Sl EN h a xs) (hb : Sl EN h b ys) (hl : xs.length ≤ 1000000) (hR : R (.bool (decide (xs = ys))) h) : F_slices_Equal_int_int S I a b h R := by
  unfold F_slices_Equal_int_int
  refine vb ha.ln (vb hb.ln ?_)
  simp only [go_sem]
  refine brd (fun h1 => ?_) fun h1 => ?_
  · rw [decide_eq_false (fun e => h1 (by rw [e]))] at hR; exact hR
  have hlen : xs.length = ys.length := by omega
  refine vb ha.ln ?_
  refine .by (fun (i : Nat) v h' => i ≤ xs.length ∧ v = .int .i64 i ∧ h' = h ∧ xs.take i = ys.take i) (fun i => xs.length - i) 0 ⟨by omega, rfl, rfl, rfl⟩ ?_
  rintro i v h' ⟨hi, rfl, rfl, he⟩ again hagain
  simp only [go_sem]
  refine brd (fun h1 => ?_) fun h1 => ?_
  · have hi1 : i < xs.length := by omega
    have hi2 : i < ys.length := by omega
    refine ha.one rfl (idx_get hi1) rfl rfl (hb.one rfl (idx_get hi2) rfl rfl ?_)
    simp only [go_sem]
    refine brd (fun h2 => ?_) fun h2 => ?_
    · rw [decide_eq_false (fun e => h2 (by subst e; rfl))] at hR; exact hR
    · refine hagain (i + 1) _ _ ⟨by omega, by rw [wrS (by omega)], rfl, ?_⟩ (by omega)
      rw [List.take_add_one, List.take_add_one, he, idx_get hi1, idx_get hi2]
      have : xs[i] = ys[i] := by omega
      rw [this]
  · have : i = xs.length := by omega
    subst this
    rw [List.take_length, hlen, List.take_length] at he
    rw [decide_eq_true he] at hR; exact hR

theorem K_EqualI {a b : Value} {xs ys : List Int} (ha : Sl EI h a xs) (hb : Sl EI h b ys) (hl : xs.length ≤ 1000000) (hR : R (.bool (decide (xs = ys))) h) : F_slices_Equal_int64_int64 S I a b h R := by
  unfold F_slices_Equal_int64_int64
  refine vb ha.ln (vb hb.ln ?_)
  simp only [go_sem]
  refine brd (fun h1 => ?_) fun h1 => ?_
  · rw [decide_eq_false (fun e => h1 (by rw [e]))] at hR; exact hR
  have hlen : xs.length = ys.length := by omega
  refine vb ha.ln ?_
  refine .by (fun (i : Nat) v h' => i ≤ xs.length ∧ v = .int .i64 i ∧ h' = h ∧ xs.take i = ys.take i) (fun i => xs.length - i) 0 ⟨by omega, rfl, rfl, rfl⟩ ?_
  rintro i v h' ⟨hi, rfl, rfl, he⟩ again hagain
  simp only [go_sem]
  refine brd (fun h1 => ?_) fun h1 => ?_
  · have hi1 : i < xs.length := by omega
    have hi2 : i < ys.length := by omega
    refine ha.one rfl (idx_get hi1) rfl rfl (hb.one rfl (idx_get hi2) rfl rfl ?_)
    simp only [go_sem]
    refine brd (fun h2 => ?_) fun h2 => ?_
    · rw [decide_eq_false (fun e => h2 (by subst e; rfl))] at hR; exact hR
    · refine hagain (i + 1) _ _ ⟨by omega, by rw [wrS (by omega)], rfl, ?_⟩ (by omega)
      rw [List.take_add_one, List.take_add_one, he, idx_get hi1, idx_get hi2]
      have : xs[i] = ys[i] := by omega
      rw [this]
  · have : i = xs.length := by omega
    subst this
    rw [List.take_length, hlen, List.take_length] at he
    rw [decide_eq_true he] at hR; exact hR

theorem eqL_two {x y : Int × Int} : eqA [true, true] (.agg (EA.c x).toArray) (.agg (EA.c y).toArray) = some (decide (x = y)) := by
  obtain ⟨a, b⟩ := x
  obtain ⟨c, d⟩ := y
  simp only [EA, eqA, eqL, eq1, if_true, Option.bind_some, Bool.and_true, Prod.mk.injEq, Option.some.injEq]
  by_cases h1 : a = c <;> by_cases h2 : b = d <;> simp [h1, h2]

theorem K_EqualA {a b : Value} {xs ys : List (Int × Int)} (ha : Sl EA h a xs) (hb : Sl EA h b ys) (hl : xs.length ≤ 1000000) (hR : R (.bool (decide (xs = ys))) h) : F_slices_Equal_api_Answer_api_Answer S I a b h R := by
  unfold F_slices_Equal_api_Answer_api_Answer
  refine vb ha.ln (vb hb.ln ?_)
  simp only [go_sem]
  refine brd (fun h1 => ?_) fun h1 => ?_
  · rw [decide_eq_false (fun e => h1 (by rw [e]))] at hR; exact hR
  have hlen : xs.length = ys.length := by omega
  refine vb ha.ln ?_
  refine .by (fun (i : Nat) v h' => i ≤ xs.length ∧ v = .int .i64 i ∧ h' = h ∧ xs.take i = ys.take i) (fun i => xs.length - i) 0 ⟨by omega, rfl, rfl, rfl⟩ ?_
  rintro i v h' ⟨hi, rfl, rfl, he⟩ again hagain
  simp only [go_sem]
  refine brd (fun h1 => ?_) fun h1 => ?_
  · have hi1 : i < xs.length := by omega
    have hi2 : i < ys.length := by omega
    refine ha.whole rfl (idx_get hi1) rfl (hb.whole rfl (idx_get hi2) rfl ?_)
    refine vb (congrArg neg? eqL_two) ?_
    refine br (fun h2 => ?_) fun h2 => ?_
    · have h2' : xs[i] ≠ ys[i] := by simpa using h2
      rw [decide_eq_false (fun e => h2' (by subst e; rfl))] at hR; exact hR
    · have h2' : xs[i] = ys[i] := by simpa using h2
      refine hagain (i + 1) _ _ ⟨by omega, by rw [wrS (by omega)], rfl, ?_⟩ (by omega)
      rw [List.take_add_one, List.take_add_one, he, idx_get hi1, idx_get hi2, h2']
  · have : i = xs.length := by omega
    subst this
    rw [List.take_length, hlen, List.take_length] at he
    rw [decide_eq_true he] at hR; exact hR

theorem K_same {a b : Value} {xs ys : List (Int × Int)} (ha : Sl EA h a xs) (hb : Sl EA h b ys) (hl : xs.length ≤ 1000000) (hR : R (.bool (decide (xs = ys))) h) : F_simulcastlaw53_same S I a b h R := by
  unfold F_simulcastlaw53_same
  refine vb ha.ln (vb hb.ln ?_)
  simp only [go_sem]
  refine brd (fun h1 => ?_) fun h1 => ?_
  · rw [decide_eq_false (fun e => h1 (by rw [e]))] at hR; exact hR
  have hlen : xs.length = ys.length := by omega
  refine vb ha.ln ?_
  refine .by (fun (i : Nat) v h' => i ≤ xs.length ∧ v = .int .i64 i ∧ h' = h ∧ xs.take i = ys.take i) (fun i => xs.length - i) 0 ⟨by omega, rfl, rfl, rfl⟩ ?_
  rintro i v h' ⟨hi, rfl, rfl, he⟩ again hagain
  simp only [go_sem]
  refine brd (fun h1 => ?_) fun h1 => ?_
  · have hi1 : i < xs.length := by omega
    have hi2 : i < ys.length := by omega
    refine .at (fun v h2 => h2 = h' ∧ v = .bool (decide (xs[i] ≠ ys[i]))) ?_ ?_
    · refine ha.fld rfl (idx_get hi1) rfl rfl (hb.fld rfl (idx_get hi2) rfl rfl ?_)
      simp only [go_sem]
      refine brd (fun h2 => ?_) fun h2 => ?_
      · have h3 : xs[i] ≠ ys[i] := fun e => h2 (by rw [e])
        exact ⟨trivial, by simp [h3]⟩
      · refine ha.fld rfl (idx_get hi1) rfl rfl (hb.fld rfl (idx_get hi2) rfl rfl ?_)
        simp only [go_sem]
        refine ⟨trivial, ?_⟩
        have h3 : xs[i] = ys[i] ↔ xs[i].2 = ys[i].2 := ⟨fun e => by rw [e], fun e => Prod.ext (by omega) e⟩
        simp [h3]
    · rintro v _ ⟨rfl, rfl⟩
      refine brd (fun h2 => ?_) fun h2 => ?_
      · rw [decide_eq_false (fun e => h2 (by subst e; rfl))] at hR; exact hR
      · refine hagain (i + 1) _ _ ⟨by omega, by rw [wrS (by omega)], rfl, ?_⟩ (by omega)
        have h2' : xs[i] = ys[i] := Classical.not_not.mp h2
        rw [List.take_add_one, List.take_add_one, he, idx_get hi1, idx_get hi2, h2']
  · have : i = xs.length := by omega
    subst this
    rw [List.take_length, hlen, List.take_length] at he
    rw [decide_eq_true he] at hR; exact hR

theorem eqS_nil {α : Type} {E : Enc α} {v : Value} {xs : List α} (H : Sl E h v xs) : ∃ b, eqS v (.slice none 0 0) = some b ∧ (b = true → xs = []) := by
  obtain ⟨a, cap, rfl, h1, h2, h3⟩ := H
  cases a with
  | none => exact ⟨true, rfl, fun _ => List.length_eq_zero_iff.mp (by have := h2 rfl; omega)⟩
  | some a => exact ⟨false, rfl, fun e => by simp at e⟩

theorem K_CloneI {s : Value} {xs : List Int} (hs : Sl EI h s xs) (hb : xs.length ≤ 1000000) (hR : ∀ v h', Ow EI h' v xs → Gr h h' → Fs h v → R v h') : F_slices_Clone_int64_int64 S I s h R := by
  unfold F_slices_Clone_int64_int64
  obtain ⟨b, e, hn⟩ := eqS_nil hs
  refine vb (congrArg pos? e) (br (fun h1 => ?_) fun h1 => ?_)
  · have := hn h1; subst this
    exact hR _ _ .nil (.refl _ _) (.nil _)
  · refine eb (bsl_ok (us := []) rfl rfl (fun u hu => by simp at hu)) ?_
    refine apw (E := EI) (xs := []) (ys := xs) (Ow.lit (xs := []) (by simp) rfl) (hs.gr (Ch.push _ _)) rfl rfl (by simp; omega) (by simp; omega) fun v h' a b c => ?_
    refine hR v h' a (Gr.young (Ch.push _ _) b fun r e => ?_) fun r e => ?_
    · simp only [blk, Option.some.injEq] at e; omega
    · rcases c r e with e | e
      · simp only [blk, Option.some.injEq] at e; omega
      · simp at e; omega

theorem K_CloneO {s : Value} {xs : List Op} (hs : Sl EO h s xs) (hb : xs.length ≤ 1000000) (hR : ∀ v h', Ow EO h' v xs → Gr h h' → Fs h v → R v h') : F_slices_Clone_eliminate_Op_eliminate_Op S I s h R := by
  unfold F_slices_Clone_eliminate_Op_eliminate_Op
  obtain ⟨b, e, hn⟩ := eqS_nil hs
  refine vb (congrArg pos? e) (br (fun h1 => ?_) fun h1 => ?_)
  · have := hn h1; subst this
    exact hR _ _ .nil (.refl _ _) (.nil _)
  · refine eb (bsl_ok (us := []) rfl rfl (fun u hu => by simp at hu)) ?_
    refine apw (E := EO) (xs := []) (ys := xs) (Ow.lit (xs := []) (by simp) rfl) (hs.gr (Ch.push _ _)) rfl rfl (by simp; omega) (by simp; omega) fun v h' a b c => ?_
    refine hR v h' a (Gr.young (Ch.push _ _) b fun r e => ?_) fun r e => ?_
    · simp only [blk, Option.some.injEq] at e; omega
    · rcases c r e with e | e
      · simp only [blk, Option.some.injEq] at e; omega
      · simp at e; omega

end Go.En
