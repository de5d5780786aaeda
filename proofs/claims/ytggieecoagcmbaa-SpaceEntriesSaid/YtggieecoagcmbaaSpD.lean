/-
  The methods of a space: Get, Put, Back; a new space.
-/
import Derived.Test.YtggieecoagcmbaaSpC
namespace Go.En
open Prog Spc

variable {S : Sys} {I : Ids} {h h0 : Hp} {F : Fp} {R : Value → Hp → Prop} {s : Value} {σ : Spc}

structure CsB (S : Sys) (I : Ids) : Prop extends CsA S I where
  reads : ∀ {s h F σ R at'}, (rSpace s σ).P h F → (∀ h' F', (rSpace s (σ.reads at').2).P h' F' → Mv F h F' h' → R (.bool (σ.reads at').1) h') → S.C I.f_space_Space_reads [s, .int .i64 at'] h R
  last : ∀ {s h F σ R} {at' : Int}, (rSpace s σ).P h F → (∀ i : Int, (i = -1 ∧ lastP σ.pu at' = none ∨ ∃ (n : Nat) (v : Int), i = n ∧ σ.pu[n]? = some (at', v) ∧ lastP σ.pu at' = some v) → R (.int .i64 i) h) → S.C I.f_space_Space_last [s, .int .i64 at'] h R

/-- the current value, and whether it was written -/
theorem K_value {at' : Int} (cs : CsB S I) (a : (rSpace s σ).P h F) (hR : R (.tuple #[.int .i64 (σ.vw at'), .bool (lastP σ.pu at').isSome]) h) : F_space_Space_value S I s (.int .i64 at') h R := by
  unfold F_space_Space_value
  refine cs.last a fun i hi => ?_
  obtain ⟨p, u, ps, rfl, h1, h2, h3, h4, c⟩ := space_open a
  simp only [go_sem]
  unfold Spc.vw at hR
  rcases hi with ⟨rfl, hn⟩ | ⟨n, v, rfl, hget, hv⟩
  · rw [hn] at hR
    refine brF (by omega) ?_
    refine space_fld c (i := 0) rfl (j := 0) rfl ?_
    refine vb (c.mp (i := 1) rfl).look ?_
    rw [h3]
    cases hk : σ.kn at' with
    | none =>
      rw [hk] at hR
      exact vb rfl hR
    | some w =>
      rw [hk] at hR
      exact vb rfl hR
  · rw [hv] at hR
    refine brT (by omega) ?_
    refine space_fld c (i := 0) rfl (j := 2) rfl ?_
    refine (c.sl (i := 3) rfl).sl.fld rfl hget rfl (j := 1) rfl ?_
    exact hR

structure CsC (S : Sys) (I : Ids) : Prop extends CsB S I where
  value : ∀ {s h F σ R} {at' : Int}, (rSpace s σ).P h F → R (.tuple #[.int .i64 (σ.vw at'), .bool (lastP σ.pu at').isSome]) h → S.C I.f_space_Space_value [s, .int .i64 at'] h R


/-- the program's step Get; its buffer fits -/
theorem K_Get {at' : Int} (cs : CsC S I) (a : (rSpace s σ).P h F) (hR : ∀ h' F', (rSpace s (σ.get at').2).P h' F' → Mv F h F' h' → R (.int .i64 (σ.get at').1) h') : F_space_Space_Get S I s (.int .i64 at') h R := by
  unfold F_space_Space_Get
  refine cs.reads a fun h' F' a' m => ?_
  unfold Spc.reads at a' ⊢
  unfold Spc.get at hR
  cases he : σ.en with
  | true =>
    simp only [he, if_true] at hR a' ⊢
    simp only [go_sem, Bool.not_false]
    exact hR _ _ a' m
  | false =>
    simp only [he, Bool.false_eq_true, if_false] at hR a' ⊢
    cases hk : σ.kn at' with
    | none =>
      simp only [hk, Option.isSome_none, Bool.false_eq_true, if_false] at hR a' ⊢
      simp only [go_sem, Bool.not_false]
      exact hR _ _ a' m
    | some w =>
      simp only [hk, Option.isSome_some, if_true] at hR a' ⊢
      simp only [go_sem, Bool.not_true]
      refine cs.value (σ := σ.rds at') a' ?_
      simp only [go_sem]
      exact hR _ _ a' m

theorem Ow.cut {α : Type} {E : Enc α} {v : Value} {xs : List α} (H : Ow E h v xs) {n : Nat} {k k' : IntKind} {z : Int} {u : Nat} (hz : z = u) (h2 : u ≤ xs.length) :
    ∃ a l c, slc n v none (some (.int k z)) (some (.int k' z)) = some (.slice a l c) ∧ Ow E h (.slice a l c) (xs.take u) ∧ (∀ r, blk (.slice a l c) = some r → blk v = some r) := by
  subst hz
  have key : ∀ (a : Option Addr) (len cap : Nat), u ≤ cap → slc n (.slice a len cap) none (some (.int k u)) (some (.int k' u)) = some (.slice (if u = 0 then a else a.map (·.add (0 * n))) u u) := by
    intro a len cap hc
    simp [slc, bnds, bndM, bndH, bndL, bnd, slcA, hc]
  rcases H with ⟨rfl, rfl⟩ | ⟨r, o, cap, rfl, h3, hb, hr, hw⟩
  · have : u = 0 := by simpa using h2
    subst this
    exact ⟨_, _, _, key _ _ _ (Nat.zero_le _), .inl ⟨rfl, rfl⟩, fun r e => e⟩
  · have ea : (if u = 0 then (some ⟨r, o, none⟩ : Option Addr) else (some (⟨r, o, none⟩ : Addr)).map (·.add (0 * n))) = some ⟨r, o, none⟩ := by
      split
      · rfl
      · simp [addN]
    refine ⟨some ⟨r, o, none⟩, u, u, by rw [key _ _ _ (Nat.le_trans h2 h3), ea], .inr ⟨r, o, u, ?_, ?_, hb, fun i x hx => ?_, fun j hj => hw j (Nat.lt_of_lt_of_le hj (Nat.mul_le_mul_right _ (Nat.le_trans h2 h3)))⟩, fun r e => e⟩
    · rw [List.length_take, Nat.min_eq_left h2]
    · rw [List.length_take]; omega
    · have hlt := (List.getElem?_eq_some_iff.mp hx).1
      rw [List.length_take] at hlt
      rw [List.getElem?_take_of_lt (by omega)] at hx
      exact hr i x hx

/-- appended to a slice of a context -/
theorem Cx.app1 {α : Type} {F0 : Fp} {L : List Res} {E : Enc α} {v : Value} {xs : List α} (c : Cx F0 h0 h L) (i : Nat) (hi : L[i]? = some (rSl E v xs)) (x : α) {e e' : TypeId} {zero : Array Value} {n bytes : Nat} {w : Value} {k : Value → Hp → Prop}
    (hn : n = E.n) (hz : zero.size = E.n) (hw : w.cells.toList = E.c x) (hb : (xs.length + 1) * bytes ≤ 140737488355328) (hl : xs.length + 1 ≤ 9223372036854775807)
    (hk : ∀ v' h', Cx F0 h0 h' (L.set i (rSl E v' (xs ++ [x]))) → k v' h') : Eb (bsl zero n 1 e [(0, w)] h) fun u h1 => Ap e' zero n bytes v u h1 k := by
  obtain ⟨F, ⟨o, hf⟩, up⟩ := c.upd hi
  refine En.app1 o hn hz hw hb hl fun v' h' o' ch nw => hk v' h' (up (F' := fun q => blk v' = some q) ⟨o', fun _ => Iff.rfl⟩ ⟨ch.mono fun q _ e => (hf q).2 e, fun r hr => ?_⟩)
  rcases nw r hr with h1 | h1
  · exact .inl ((hf r).2 h1)
  · exact .inr h1
/-- a part of a slice of a context in its place -/
theorem Cx.cut {α : Type} {F0 : Fp} {L : List Res} {E : Enc α} {v : Value} {xs : List α} (c : Cx F0 h0 h L) (i : Nat) (hi : L[i]? = some (rSl E v xs)) {n : Nat} {k k' : IntKind} {z : Int} {u : Nat} (hz : z = u) (h2 : u ≤ xs.length) {K : Value → Prop}
    (hK : ∀ a l cp, Cx F0 h0 h (L.set i (rSl E (.slice a l cp) (xs.take u))) → K (.slice a l cp)) : Vb (slc n v none (some (.int k z)) (some (.int k' z))) K := by
  obtain ⟨F, ⟨o, hf⟩, up⟩ := c.upd hi
  obtain ⟨a, l, cp, e, o', hb⟩ := o.cut (n := n) (k := k) (k' := k') hz h2
  exact vb e (hK a l cp (up (F' := fun q => blk (.slice a l cp) = some q) ⟨o', fun _ => Iff.rfl⟩ ⟨.refl _ _, fun r hr => .inl ((hf r).2 (hb r hr))⟩))
theorem ow_slice {α : Type} {E : Enc α} {v : Value} {xs : List α} (o : Ow E h v xs) : ∃ a l c, v = .slice a l c := by
  rcases o with ⟨rfl, _⟩ | ⟨r, o, cap, rfl, _⟩
  · exact ⟨_, _, _, rfl⟩
  · exact ⟨_, _, _, rfl⟩

theorem K_Put {at' v : Int} (cs : CsC S I) (hv : R64 v) (hl : σ.pu.length ≤ big) (a : (rSpace s σ).P h F) (hR : ∀ h' F', (rSpace s (σ.put at' v)).P h' F' → Mv F h F' h' → R (.tuple #[]) h') : F_space_Space_Put S I s (.int .i64 at') (.int .i64 v) h R := by
  unfold F_space_Space_Put
  have hwf := a.choose_spec.1.2.2.2.2
  refine cs.reads a fun h' F' a' m => ?_
  unfold Spc.reads at a' ⊢
  have hwp := hwf.put at' hv hl
  unfold Spc.put at hR hwp
  cases he : σ.en with
  | true =>
    simp only [he, if_true] at hR a' ⊢
    simp only [go_sem]
    exact hR _ _ a' m
  | false =>
    simp only [he, Bool.false_eq_true, if_false] at hR hwp a' ⊢
    cases hk : σ.kn at' with
    | none =>
      simp only [hk, Option.isSome_none, Bool.false_eq_true, if_false] at hR a' ⊢
      simp only [go_sem]
      exact hR _ _ a' m
    | some w =>
      simp only [hk, Option.isSome_some, if_true] at hR hwp a' ⊢
      simp only [go_sem]
      obtain ⟨p, u, ps, rfl, h1, h2, h3, h4, c⟩ := space_open a'
      refine space_fld c (i := 0) rfl (j := 2) rfl ?_
      refine vb rfl ?_
      refine c.app1 3 rfl (at', v) rfl rfl rfl (by have : (σ.rds at').pu = σ.pu := rfl; rw [this]; unfold big at hl; omega) (by have : (σ.rds at').pu = σ.pu := rfl; rw [this]; unfold big at hl; omega) fun v' h2' c => ?_
      obtain ⟨a2, l2, c2, rfl⟩ := ow_slice (c.sl (i := 3) rfl)
      refine nckb ?_
      refine c.stof 0 rfl { u with pa := a2, pl := l2, pc := c2 } rfl (by decide) rfl fun h3' c => ?_
      obtain ⟨F'', a'', m'⟩ := space_shut (u := { u with pa := a2, pl := l2, pc := c2 }) (ps := ps) (σ := { σ.rds at' with pu := σ.pu ++ [(at', v)] }) c h1 h2 h3 hwp
      exact hR _ _ a'' (m.trans m')

theorem K_Back {m' : Int} (cs : CsA S I) (a : (rSpace s σ).P h F) (hR : ∀ h' F', (rSpace s (σ.back m')).P h' F' → Mv F h F' h' → R (.tuple #[]) h') : F_space_Space_Back S I s (.int .i64 m') h R := by
  unfold F_space_Space_Back
  refine .here ?_
  refine cs.ended a ?_
  simp only [go_sem]
  have hwf := a.choose_spec.1.2.2.2.2
  have hwp := hwf.back m'
  unfold Spc.back at hR hwp
  cases he : σ.en with
  | true =>
    simp only [he, if_true] at hR
    simp only [go_sem, Bool.not_true]
    exact hR _ _ a (.refl _ _)
  | false =>
    simp only [he, Bool.false_eq_true, if_false] at hR hwp
    simp only [go_sem, Bool.not_false]
    refine brd (fun h5 => ?_) fun h5 => ?_
    · obtain ⟨p, u, ps, rfl, h1, h2, h3, h4, c⟩ := space_open a
      refine space_fld c (i := 0) rfl (j := 2) rfl ?_
      refine vb (c.sl (i := 3) rfl).sl.ln ?_
      simp only [go_sem]
      refine brd (fun h6 => ?_) fun h6 => ?_
      · rw [if_pos ⟨h5, h6⟩] at hR hwp
        refine space_fld c (i := 0) rfl (j := 2) rfl ?_
        refine c.cut 3 rfl (u := m'.toNat) (by omega) (by omega) fun a2 l2 c2 c => ?_
        refine nckb ?_
        refine c.stof 0 rfl { u with pa := a2, pl := l2, pc := c2 } rfl (by decide) rfl fun h3' c => ?_
        obtain ⟨F'', a'', m'⟩ := space_shut (u := { u with pa := a2, pl := l2, pc := c2 }) (ps := ps) (σ := { σ with pu := σ.pu.take m'.toNat, en := false }) c h1 (h2.trans he) h3 hwp
        exact hR _ _ a'' m'
      · rw [if_neg (fun e => h6 e.2)] at hR
        exact hR _ _ a (.refl _ _)
    · rw [if_neg (fun e => h5 e.1)] at hR
      exact hR _ _ a (.refl _ _)
end Go.En
