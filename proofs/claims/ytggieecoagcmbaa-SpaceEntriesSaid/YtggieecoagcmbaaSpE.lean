/-
  Ranges over maps in a context; a new space; the steps as programs.
-/
import Derived.Test.YtggieecoagcmbaaSpD
namespace Go.En
open Prog Spc

variable {S : Sys} {I : Ids} {h h0 h' : Hp} {F F0 : Fp} {R : Value → Hp → Prop} {s : Value} {σ : Spc} {L : List Res}

/-- a range over a map, with the map -/
def rIt {α : Type} (ik : IntKind) (E : α → Value) (r m : Nat) (ps : List (Int × α)) (D : List Nat) : Res where
  P := fun h F => It ik E h r m ps D ∧ ∀ q, F q ↔ q = r ∨ q = m
  lt := fun {h F} ⟨o, hf⟩ q hq => by
    obtain ⟨es, clock, h1, h2, h3⟩ := o.ex
    rcases (hf q).1 hq with rfl | rfl
    · exact (Array.getElem?_eq_some_iff.mp h3).1
    · exact (Array.getElem?_eq_some_iff.mp h1).1
  loc := fun {h h' F D'} ⟨o, hf⟩ c hd => by
    obtain ⟨es, clock, h1, h2, h3⟩ := o.ex
    refine ⟨⟨⟨es, clock, ?_, h2, ?_⟩, o.nodup, o.lt, o.ne⟩, hf⟩
    · rw [c.same m (Array.getElem?_eq_some_iff.mp h1).1 (hd m ((hf m).2 (.inr rfl)))]; exact h1
    · rw [c.same r (Array.getElem?_eq_some_iff.mp h3).1 (hd r ((hf r).2 (.inl rfl)))]; exact h3

section
variable {α : Type} {ik : IntKind} {E : α → Value} {v : Value} {ps : List (Int × α)} {D : List Nat} {r m : Nat}
theorem Cx.range (c : Cx F0 h0 h L) (i : Nat) (hi : L[i]? = some (rMp ik E v ps)) {k : Value → Hp → Prop}
    (hk : ∀ r m h', v = .map (some m) → Cx F0 h0 h' (L.set i (rIt ik E r m ps [])) → k (at0 r) h') : Eb (rng v h) k := by
  obtain ⟨F, ⟨o, hf⟩, up⟩ := c.upd hi
  refine o.range fun m h' hv it g hs => hk _ m h' hv (up (F' := fun q => q = h.size ∨ q = m) ⟨it, fun _ => Iff.rfl⟩ ⟨g.mono fun _ _ e => e.elim, fun q hq => ?_⟩)
  rcases hq with rfl | rfl
  · exact .inr (Nat.le_refl _)
  · exact .inl ((hf q).2 (by rw [hv]; rfl))
theorem Cx.next (c : Cx F0 h0 h L) (i : Nat) (hi : L[i]? = some (rIt ik E r m ps D)) {k : Value → Hp → Prop} (h0' : (∀ j, j < ps.length → j ∈ D) → Cx F0 h0 h (L.set i (rMp ik E (.map (some m)) ps)) → k (.tuple #[.bool false]) h)
    (h1 : ∀ j p h', ps[j]? = some p → j ∉ D → Cx F0 h0 h' (L.set i (rIt ik E r m ps (D ++ [j]))) → ent (at0 r) h' = some (.tuple #[.int ik p.1, E p.2]) → k (.tuple #[.bool true, .int ik p.1, E p.2]) h') : Nx (at0 r) h k := by
  obtain ⟨F, ⟨o, hf⟩, up⟩ := c.upd hi
  refine o.next (fun hall => h0' hall (up (F' := fun q => q = m) ⟨o.mp, fun q => by simp [mblk, eq_comm]⟩ ⟨.refl _ _, fun q hq => .inl ((hf q).2 (.inr hq))⟩)) fun j p h' hp hj it ch he => h1 j p h' hp hj (up (F' := F) ⟨it, hf⟩ (mv_same (ch.mono fun q _ e => (hf q).2 (.inl e)))) he
/-- a new map -/
theorem Cx.mmk {β : Type} (ik : IntKind) (E : β → Value) (c : Cx F0 h0 h L) {k : Value → Hp → Prop} (hk : ∀ m h', Cx F0 h0 h' (L ++ [rMp ik E (.map (some m)) []]) → k (.map (some m)) h') : Eb (En.mmk h) k :=
  eb rfl (hk _ _ (c.add (F' := fun q => q = h.size) ⟨Mp.new, fun q => by simp [mblk, eq_comm]⟩ (Ch.push _ _) fun r e => by omega))
end

/-- a new space over known words -/
def newS (ps : List (Int × W3)) : Spc := { kn := fun a => (lookA ps a).filter fun w => w.ref == 0, rd := [], pu := [], nd := 0, en := false }
theorem newS_wf {ps : List (Int × W3)} (hv : ∀ p ∈ ps, R64 p.2.v) : (newS ps).wf := by
  refine ⟨Nat.zero_le _, fun a w hw => ?_, fun p hp => by cases hp⟩
  simp only [newS, Option.filter_eq_some_iff] at hw
  obtain ⟨h1, _⟩ := hw
  unfold lookA at h1
  rw [Option.map_eq_some_iff] at h1
  obtain ⟨p, hp, rfl⟩ := h1
  exact hv p (List.mem_of_find?_eq_some hp)

theorem nodup_at {α β : Type} {ps : List (α × β)} (hn : (ps.map (·.1)).Nodup) {i j : Nat} {x : α} {y : β} {p : α × β} (hi : ps[i]? = some (x, y)) (hj : ps[j]? = some p) (e : x = p.1) : i = j := by
  have h1 : (ps.map (·.1))[i]? = some x := by simp [hi]
  have h2 : (ps.map (·.1))[j]? = some x := by simp [hj, e]
  obtain ⟨hil, h1⟩ := List.getElem?_eq_some_iff.1 h1
  obtain ⟨hjl, h2⟩ := List.getElem?_eq_some_iff.1 h2
  have hp := List.pairwise_iff_getElem.1 hn
  rcases Nat.lt_trichotomy i j with h | h | h
  · exact absurd (h1.trans h2.symm) (hp i j hil hjl h)
  · exact h
  · exact absurd (h2.trans h1.symm) (hp j i hjl hil h)
theorem nodup_len {D : List Nat} {n : Nat} (hd : D.Nodup) (hl : ∀ i ∈ D, i < n) : D.length ≤ n := by
  have hp : (D ++ (List.range n).filter fun i => !D.contains i).Perm (List.range n) := by
    refine (List.perm_ext_iff_of_nodup ?_ List.nodup_range).mpr fun i => ?_
    · rw [List.nodup_append]
      refine ⟨hd, List.nodup_range.filter _, fun a ha b hb e => ?_⟩
      subst e
      rw [List.mem_filter] at hb
      have := hb.2
      simp only [Bool.not_eq_true', List.contains_eq_mem, decide_eq_false_iff_not] at this
      exact this ha
    · simp only [List.mem_append, List.mem_filter, List.mem_range, Bool.not_eq_true', List.contains_eq_mem, decide_eq_false_iff_not]
      constructor
      · rintro (h | h)
        · exact hl i h
        · exact h.1
      · intro h
        by_cases hm : i ∈ D
        · exact .inl hm
        · exact .inr ⟨h, hm⟩
  have := hp.length_eq
  simp only [List.length_append, List.length_range] at this
  omega

theorem K_New {known : Value} {ps : List (Int × W3)} (hn : (ps.map (·.1)).Nodup) (hv : ∀ p ∈ ps, R64 p.2.v) (c : Cx F0 h0 h [rMp .i64 mW known ps])
    (hR : ∀ v h', Cx F0 h0 h' [rMp .i64 mW known ps, rSpace v (newS ps)] → R v h') : F_space_New S I known h R := by
  unfold F_space_New
  refine c.mmk .i64 mW fun km h1 c => ?_
  refine c.mmk .i64 mB fun rm h1 c => ?_
  refine vb rfl ?_
  let u : SpV := ⟨km, rm, none, 0, 0, 0, false⟩
  refine c.nw ESp u rfl fun p h1 c => ?_
  refine c.range 0 rfl fun r m h1 hm c => ?_
  subst hm
  refine Lp0.by (fun (x : List Nat × List (Int × W3)) h' => Cx F0 h0 h' [rIt .i64 mW r m ps x.1, rMp .i64 mW (.map (some km)) x.2, rMp .i64 mB (.map (some rm)) [], rVar ESp p u] ∧ x.1.Nodup ∧ (∀ j ∈ x.1, j < ps.length) ∧
    ∀ a w, lookA x.2 a = some w ↔ ∃ j ∈ x.1, ps[j]? = some (a, w) ∧ w.ref = 0) (fun x => ps.length - x.1.length) ([], []) ⟨c, List.nodup_nil, (fun j hj => by cases hj), (fun a w => by simp [lookA])⟩ ?_
  rintro ⟨D, qs⟩ h' ⟨c, hnd, hlt, hq⟩ again hagain
  dsimp only at *
  refine c.next 0 rfl (fun hall c => ?_) fun j pr h2 hpj hjD c he => ?_
  · simp only [go_sem]
    have c1 : Cx F0 h0 h' [rMp .i64 mW (.map (some m)) ps, rMp .i64 mW (.map (some km)) qs, rMp .i64 mB (.map (some rm)) [], rVar ESp p u, rSl EPt u.pv []] :=
      c.add (F' := fun _ => False) ⟨.nil, fun q => by simp [blk, u, SpV.pv]⟩ (.refl _ _) fun r e => e.elim
    have hfin : ∀ a, lookA qs a = (newS ps).kn a := by
      intro a
      have key : ∀ w, lookA qs a = some w ↔ (newS ps).kn a = some w := by
        intro w
        rw [hq]
        simp only [newS, Option.filter_eq_some_iff, beq_iff_eq]
        rw [← lookA_mem hn]
        constructor
        · rintro ⟨j, _, hj, hr⟩; exact ⟨List.mem_of_getElem? hj, hr⟩
        · rintro ⟨hm, hr⟩
          obtain ⟨j, hj⟩ := List.mem_iff_getElem?.1 hm
          exact ⟨j, hall j (List.getElem?_eq_some_iff.mp hj).1, hj, hr⟩
      cases h1 : lookA qs a with
      | some w => exact ((key w).1 h1).symm
      | none =>
        cases h2 : (newS ps).kn a with
        | none => rfl
        | some w => rw [(key w).2 h2] at h1; cases h1
    have c2 := (c1.front 3 rfl).front 1 rfl
    have c3 := (c2.pack (L := [_])).conv (i := 1) rfl (B := rSpace (at0 p) (newS ps)) fun F' hF' => ⟨⟨p, u, qs⟩, ⟨rfl, rfl, rfl, hfin, newS_wf hv⟩, hF'⟩
    exact hR _ _ c3
  · simp only [go_sem]
    rw [he]
    simp only [go_sem]
    refine c.nw EW W0 rfl fun rw h3 c => ?_
    refine c.sto 4 rfl pr.2 rfl rfl fun h4 c => ?_
    refine (c.va (i := 4) rfl).fld (j := 2) rfl ?_
    simp only [go_sem]
    have hnd' : (D ++ [j]).Nodup := by
      rw [List.nodup_append]
      exact ⟨hnd, by simp, fun a ha b hb e => hjD (by simp only [List.mem_singleton] at hb; rw [← hb, ← e]; exact ha)⟩
    have hjl := (List.getElem?_eq_some_iff.mp hpj).1
    have hlt' : ∀ x ∈ D ++ [j], x < ps.length := fun x hx => by
      rcases List.mem_append.1 hx with hx | hx
      · exact hlt x hx
      · simp only [List.mem_singleton] at hx; omega
    have hm : ps.length - (D ++ [j]).length < ps.length - D.length := by
      have hle : D.length < ps.length := by
        have := nodup_len hnd' hlt'
        simp only [List.length_append, List.length_singleton] at this
        omega
      simp only [List.length_append, List.length_singleton]; omega
    refine brd (fun h5 => ?_) fun h5 => ?_
    · refine space_fld c (i := 3) rfl (j := 0) rfl ?_
      refine vb ((c.va (i := 4) rfl).whole rfl) ?_
      refine c.mup 1 rfl pr.1 pr.2 rfl fun h6 c => ?_
      refine hagain (D ++ [j], updA qs pr.1 pr.2) _ ⟨c.drop (L := [_, _, _, _]) (L' := [_]), hnd', hlt', fun a w => ?_⟩ hm
      dsimp only
      rw [lookA_updA]
      by_cases e : a = pr.1
      · rw [if_pos e]
        constructor
        · intro e2; simp only [Option.some.injEq] at e2; subst e2
          exact ⟨j, by simp, by rw [hpj, e], h5⟩
        · rintro ⟨i, hi, hpi, hr⟩
          have := nodup_at hn hpi hpj e
          subst this
          rw [hpj] at hpi; cases hpi; rfl
      · rw [if_neg e, hq]
        constructor
        · rintro ⟨i, hi, hpi, hr⟩; exact ⟨i, List.mem_append_left _ hi, hpi, hr⟩
        · rintro ⟨i, hi, hpi, hr⟩
          rcases List.mem_append.1 hi with hi | hi
          · exact ⟨i, hi, hpi, hr⟩
          · simp only [List.mem_singleton] at hi
            subst hi
            rw [hpj] at hpi; cases hpi; exact absurd rfl e
    · refine hagain (D ++ [j], qs) _ ⟨c.drop (L := [_, _, _, _]) (L' := [_]), hnd', hlt', fun a w => ?_⟩ hm
      dsimp only
      rw [hq]
      constructor
      · rintro ⟨i, hi, hpi, hr⟩; exact ⟨i, List.mem_append_left _ hi, hpi, hr⟩
      · rintro ⟨i, hi, hpi, hr⟩
        rcases List.mem_append.1 hi with hi | hi
        · exact ⟨i, hi, hpi, hr⟩
        · simp only [List.mem_singleton] at hi
          subst hi
          rw [hpj] at hpi; cases hpi; exact absurd hr h5

/-! ### The steps as programs -/
structure CsD (S : Sys) (I : Ids) : Prop extends CsC S I where
  get : ∀ {s a}, Does S I.f_space_Space_Get [s, .int .i64 a] s (gt a) uI
  put : ∀ {s a v}, Does S I.f_space_Space_Put [s, .int .i64 a, .int .i64 v] s (pt a v) uU
  back : ∀ {s m}, Does S I.f_space_Space_Back [s, .int .i64 m] s (bk m) uU
  mark : ∀ {s}, Does S I.f_space_Space_Mark [s] s mk uI
  need : ∀ {s h F σ R}, (rSpace s σ).P h F → R (.tuple #[.int .i64 (if σ.en then σ.nd else 0), .bool σ.en]) h → S.C I.f_space_Space_Need [s] h R
  new : ∀ {known ps F0 h0 h R}, (ps.map (·.1)).Nodup → (∀ p ∈ ps, R64 p.2.v) → Cx F0 h0 h [rMp .i64 mW known ps] →
    (∀ v h', Cx F0 h0 h' [rMp .i64 mW known ps, rSpace v (newS ps)] → R v h') → S.C I.f_space_New [known] h R
end Go.En
