/-
  The methods of a space.
-/
import Derived.Test.YtggieecoagcmbaaSpB
import Derived.Test.YtggieecoagcmbaaSpText
namespace Go.En
open Prog

variable {S : Sys} {I : Ids} {h h0 : Hp} {F : Fp} {R : Value → Hp → Prop} {s : Value} {σ : Spc}

theorem eqP_nil (p : Nat) : eqP (at0 p) (.pointer none) = some false := rfl
theorem nck_at (p : Nat) : nck (at0 p) = some (at0 p) := rfl
theorem nckb {p : Nat} {k : Value → Prop} (hk : k (at0 p)) : Vb (nck (at0 p)) k := vb rfl hk

/-- what is read of a space -/
theorem space_fld {L : List Res} {p i : Nat} {u : SpV} (c : Cx F h0 h L) (hi : L[i]? = some (rVar ESp p u)) {j : Nat} {w : Value} (hu : (ESp.c u)[j]? = some w) {k : Value → Prop} (hk : k w) :
    Vb (nck (at0 p)) fun a => Vb (fa j a) fun a => Vb (ldc a h) k := by
  rw [nck_at, vb_some]
  exact (c.va hi).fld hu hk

theorem K_Ended (a : (rSpace s σ).P h F) (hR : R (.bool σ.en) h) : F_space_Space_Ended S I s h R := by
  obtain ⟨p, u, ps, rfl, h1, h2, h3, h4, c⟩ := space_open a
  unfold F_space_Space_Ended
  refine .here ?_
  rw [eqP_nil]
  simp only [go_sem]
  refine space_fld c (i := 0) rfl (j := 4) rfl ?_
  rw [h2]; exact hR

theorem K_Mark (a : (rSpace s σ).P h F) (hR : R (.int .i64 σ.pu.length) h) : F_space_Space_Mark S I s h R := by
  obtain ⟨p, u, ps, rfl, h1, h2, h3, h4, c⟩ := space_open a
  unfold F_space_Space_Mark
  rw [eqP_nil]
  simp only [go_sem]
  refine space_fld c (i := 0) rfl (j := 2) rfl ?_
  exact vb (c.sl (i := 3) rfl).sl.ln hR

theorem K_Need (a : (rSpace s σ).P h F) (hR : R (.tuple #[.int .i64 (if σ.en then σ.nd else 0), .bool σ.en]) h) : F_space_Space_Need S I s h R := by
  obtain ⟨p, u, ps, rfl, h1, h2, h3, h4, c⟩ := space_open a
  unfold F_space_Space_Need
  refine .here ?_
  rw [eqP_nil]
  simp only [go_sem]
  refine space_fld c (i := 0) rfl (j := 4) rfl ?_
  simp only [go_sem]
  rw [← h2] at hR
  cases he : u.en with
  | true =>
    simp only [he, Bool.not_true, go_sem]
    refine space_fld c (i := 0) rfl (j := 3) rfl ?_
    simp only [he, if_true] at hR
    rw [h1]; exact hR
  | false =>
    simp only [he, Bool.not_false, go_sem]
    simp only [he, Bool.false_eq_true, if_false] at hR
    exact hR

theorem rds_map (rd : List Int) (a : Int) : updA (rd.map fun a => (a, true)) a true = (if a ∈ rd then rd else rd ++ [a]).map fun a => (a, true) := by
  by_cases h : a ∈ rd
  · rw [if_pos h]
    induction rd with
    | nil => cases h
    | cons x r ih =>
      simp only [List.map_cons, updA]
      by_cases e : x = a
      · subst e; simp
      · rw [if_neg e, ih (by rcases List.mem_cons.1 h with h | h; exact absurd h.symm e; exact h)]
  · rw [if_neg h, updA_end]
    · simp
    · unfold lookA
      rw [Option.map_eq_none_iff, List.find?_eq_none]
      intro p hp
      obtain ⟨x, hx, rfl⟩ := List.mem_map.1 hp
      simp only [beq_iff_eq]
      exact fun e => h (e ▸ hx)

structure CsA (S : Sys) (I : Ids) : Prop where
  ended : ∀ {s h F σ R}, (rSpace s σ).P h F → R (.bool σ.en) h → S.C I.f_space_Space_Ended [s] h R

/-- a map of a context is set -/
theorem Cx.mup {α : Type} {F0 : Fp} {L : List Res} {E : α → Value} {v : Value} {ps : List (Int × α)} (c : Cx F0 h0 h L) (i : Nat) (hi : L[i]? = some (rMp .i64 E v ps)) (k : Int) (x : α) {w : Value} (hw : w = E x) {K : Hp → Prop}
    (hK : ∀ h', Cx F0 h0 h' (L.set i (rMp .i64 E v (updA ps k x))) → K h') : Sb (En.mup (.int .i64) v (.int .i64 k) w h) K := by
  obtain ⟨F, ⟨m, hf⟩, up⟩ := c.upd hi
  exact m.mup k x hw fun h' m' ch => hK h' (up (F' := F) ⟨m', hf⟩ (mv_same (ch.mono fun q _ e => (hf q).2 e)))
/-- a field of a variable is set -/
theorem Cx.stof {α : Type} {F0 : Fp} {L : List Res} {E : Enc α} {r : Nat} {x : α} (c : Cx F0 h0 h L) (i : Nat) (hi : L[i]? = some (rVar E r x)) (y : α) {j : Nat} {w : Value} (hw : w.oneCell' = true) (hj : j < E.n) (hy : E.c y = (E.c x).set j w) {k : Hp → Prop}
    (hk : ∀ h', Cx F0 h0 h' (L.set i (rVar E r y)) → k h') : Vb (fa j (at0 r)) fun p => Sb (En.sto 1 p w h) k := by
  obtain ⟨F, ⟨v, hf⟩, up⟩ := c.upd hi
  refine vb (fa_add _ _ _) ?_
  obtain ⟨h', e, v', ch, _⟩ := v.put (j := j) (vs := [w]) (y := y) (fun j' u hu => by
    rw [hy, List.getElem?_set] at hu
    by_cases e : j = j'
    · subst e
      have : j < (E.c x).length := by rw [E.len]; exact hj
      simp only [if_true, this] at hu
      simp [hu]
    · rw [if_neg e] at hu
      have : ¬ (j ≤ j' ∧ j' < j + [w].length) := by simp only [List.length_singleton]; omega
      rw [if_neg this]; exact hu) (by simp only [List.length_singleton]; omega) (fun u hu => by simp only [List.mem_singleton] at hu; subst hu; exact hw)
  refine sb ?_ (hk h' (up (F' := F) ⟨v', hf⟩ (mv_same (ch.mono fun q _ e => (hf q).2 e))))
  rw [Nat.zero_add, sto_one hw]; exact e

theorem K_reads {at' : Int} (cs : CsA S I) (a : (rSpace s σ).P h F) (hR : ∀ h' F', (rSpace s (σ.reads at').2).P h' F' → Mv F h F' h' → R (.bool (σ.reads at').1) h') : F_space_Space_reads S I s (.int .i64 at') h R := by
  unfold F_space_Space_reads
  refine cs.ended a ?_
  obtain ⟨p, u, ps, rfl, h1, h2, h3, h4, c⟩ := space_open a
  unfold Spc.reads at hR
  cases he : σ.en with
  | true =>
    simp only [he, if_true] at hR
    simp only [go_sem]
    exact hR _ _ a (.refl _ _)
  | false =>
    simp only [he, Bool.false_eq_true, if_false] at hR
    simp only [go_sem]
    refine space_fld c (i := 0) rfl (j := 0) rfl ?_
    refine vb (c.mp (i := 1) rfl).lookOk ?_
    simp only [go_sem, h3]
    cases hk : σ.kn at' with
    | none =>
      simp only [hk, Option.isSome_none, Bool.false_eq_true, if_false] at hR
      simp only [Option.map_none, Option.getD_none, Option.isSome_none, Bool.not_false, go_sem]
      refine c.nw EW W0 rfl fun r h' c => ?_
      refine c.sto 4 rfl W0 rfl rfl fun h' c => ?_
      refine nckb ?_
      refine c.stof 0 rfl { u with en := true } rfl (by decide) rfl fun h' c => ?_
      refine nckb ?_
      refine c.stof 0 rfl { u with en := true, nd := at' } rfl (by decide) rfl fun h' c => ?_
      obtain ⟨F', a', m⟩ := space_shut (u := { u with en := true, nd := at' }) (σ := σ.ends at') (c.drop (L := spParts _ _ _ _) (L' := [_])) rfl rfl h3 (h4.ends at')
      exact hR _ _ a' m
    | some w =>
      simp only [hk, Option.isSome_some, if_true] at hR
      simp only [Option.map_some, Option.getD_some, Option.isSome_some, Bool.not_true, go_sem]
      refine c.nw EW W0 rfl fun r h' c => ?_
      refine c.sto 4 rfl w rfl rfl fun h' c => ?_
      refine space_fld c (i := 0) rfl (j := 1) rfl ?_
      refine c.mup 2 rfl at' true rfl fun h' c => ?_
      obtain ⟨F', a', m⟩ := space_shut (u := u) (ps := ps) (σ := σ.rds at') (by
        have := c.drop (L := [_, _, _, _]) (L' := [_])
        rw [rds_map] at this
        exact this) h1 h2 h3 (h4.rds at')
      exact hR _ _ a' m

/-- the place of the last write -/
theorem K_last {at' : Int} (a : (rSpace s σ).P h F) (hR : ∀ i : Int, (i = -1 ∧ lastP σ.pu at' = none ∨ ∃ (n : Nat) (v : Int), i = n ∧ σ.pu[n]? = some (at', v) ∧ lastP σ.pu at' = some v) → R (.int .i64 i) h) : F_space_Space_last S I s (.int .i64 at') h R := by
  unfold F_space_Space_last
  obtain ⟨p, u, ps, rfl, h1, h2, h3, h4, c⟩ := space_open a
  have hl := h4.len
  refine space_fld c (i := 0) rfl (j := 2) rfl ?_
  have hs := c.sl (i := 3) rfl
  refine vb hs.sl.ln ?_
  simp only [go_sem]
  refine Lp1.by (fun (n : Nat) v h' => n ≤ σ.pu.length ∧ v = .int .i64 ((n : Int) - 1) ∧ h' = h ∧ lastP σ.pu at' = lastP (σ.pu.take n) at') (fun n => n) σ.pu.length ⟨Nat.le_refl _, by rw [wr64 (by omega)], rfl, by rw [List.take_length]⟩ ?_
  rintro n v h' ⟨hn, rfl, rfl, hlast⟩ again hagain
  simp only [go_sem]
  refine brd (fun h5 => ?_) fun h5 => ?_
  · obtain ⟨m, rfl⟩ : ∃ m, n = m + 1 := ⟨n - 1, by omega⟩
    have hm : m < σ.pu.length := by omega
    have hget : σ.pu[m]? = some σ.pu[m] := List.getElem?_eq_getElem hm
    refine space_fld c (i := 0) rfl (j := 2) rfl ?_
    refine hs.sl.fld rfl hget (by omega) (j := 0) rfl ?_
    simp only [go_sem]
    have htake : lastP (σ.pu.take (m + 1)) at' = if at' = σ.pu[m].1 then some σ.pu[m].2 else lastP (σ.pu.take m) at' := by
      rw [List.take_add_one, hget]
      exact lastP_app _ _ _ _
    refine brd (fun h6 => hR _ (.inr ⟨m, σ.pu[m].2, by omega, by rw [hget, ← h6], ?_⟩)) fun h6 => ?_
    · rw [hlast, htake, if_pos h6.symm]
    · refine hagain m _ _ ⟨by omega, by rw [wr64 (by omega)]; congr 1; omega, rfl, ?_⟩ (by omega)
      rw [hlast, htake, if_neg (fun e => h6 e.symm)]
  · have : n = 0 := by omega
    subst this
    refine hR _ (.inl ⟨rfl, hlast⟩)
end Go.En
