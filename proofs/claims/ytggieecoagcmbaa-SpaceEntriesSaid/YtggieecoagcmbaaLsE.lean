/-
  Spaces over the first n words: plain facts for the laws of layer 30.
-/
import Derived.Test.YtggieecoagcmbaaLsD
namespace Go.En
open Prog Spc Go.Sort

/-- a space over the first n words, that has not ended -/
structure InN (n : Int) (k : Int → Option W3) (σ : Spc) : Prop where
  kn : σ.kn = k
  en : σ.en = false
  nd : σ.rd.Nodup
  rd : ∀ a ∈ σ.rd, 0 ≤ a ∧ a < n
  wf : σ.wf
abbrev Dom (n : Int) (k : Int → Option W3) : Prop := ∀ a, 0 ≤ a → a < n → (k a).isSome = true

section
variable {n : Int} {k : Int → Option W3} {σ τ : Spc} {a v : Int}
theorem mem_rds {b : Int} : b ∈ (σ.rds a).rd ↔ b = a ∨ b ∈ σ.rd := by
  show b ∈ (if a ∈ σ.rd then σ.rd else σ.rd ++ [a]) ↔ _
  split
  · rename_i h
    constructor
    · exact .inr
    · rintro (rfl | h2)
      · exact h
      · exact h2
  · rw [List.mem_append, List.mem_singleton, or_comm]
theorem nd_rds (h : σ.rd.Nodup) : (σ.rds a).rd.Nodup := by
  show (if a ∈ σ.rd then σ.rd else σ.rd ++ [a]).Nodup
  split
  · exact h
  · rename_i hn
    rw [List.nodup_append]
    exact ⟨h, by simp, fun x hx y hy e => hn (by simp only [List.mem_singleton] at hy; rw [← hy, ← e]; exact hx)⟩
theorem InN.rds (H : InN n k σ) (ha : 0 ≤ a ∧ a < n) : InN n k (σ.rds a) :=
  ⟨H.kn, H.en, nd_rds H.nd, fun b hb => by rcases mem_rds.1 hb with rfl | h; exact ha; exact H.rd b h, H.wf.rds a⟩
theorem InN.getE (D : Dom n k) (H : InN n k σ) (ha : 0 ≤ a ∧ a < n) : σ.get a = (σ.vw a, σ.rds a) := by
  unfold Spc.get
  rw [H.en, H.kn, D a ha.1 ha.2]; rfl
theorem InN.putE (D : Dom n k) (H : InN n k σ) (ha : 0 ≤ a ∧ a < n) : σ.put a v = { σ.rds a with pu := σ.pu ++ [(a, v)] } := by
  unfold Spc.put
  rw [H.en, H.kn, D a ha.1 ha.2]; rfl
theorem InN.get (D : Dom n k) (H : InN n k σ) (ha : 0 ≤ a ∧ a < n) : InN n k (σ.get a).2 := by
  rw [H.getE D ha]; exact H.rds ha
theorem InN.put (D : Dom n k) (H : InN n k σ) (ha : 0 ≤ a ∧ a < n) (hv : R64 v) (hl : σ.pu.length ≤ big) : InN n k (σ.put a v) := by
  have w := H.wf.put a hv hl
  rw [H.putE D ha] at w ⊢
  exact ⟨H.kn, H.en, (H.rds ha).nd, (H.rds ha).rd, w⟩
theorem back_rd {m : Int} : (σ.back m).rd = σ.rd := by
  unfold Spc.back
  split
  · rfl
  · split <;> rfl
theorem back_kn {m : Int} : (σ.back m).kn = σ.kn := by
  unfold Spc.back
  split
  · rfl
  · split <;> rfl
theorem back_en {m : Int} : (σ.back m).en = σ.en := by
  unfold Spc.back
  split
  · rfl
  · split <;> rfl
theorem back_len {m : Int} : (σ.back m).pu.length ≤ σ.pu.length := by
  unfold Spc.back
  split
  · exact Nat.le_refl _
  · split
    · show (σ.pu.take _).length ≤ _
      rw [List.length_take]; omega
    · exact Nat.le_refl _
theorem InN.back (H : InN n k σ) (m : Int) : InN n k (σ.back m) :=
  ⟨by rw [back_kn]; exact H.kn, by rw [back_en]; exact H.en, by rw [back_rd]; exact H.nd, by rw [back_rd]; exact H.rd, H.wf.back m⟩
theorem InN.rdlen (H : InN n k σ) (hn : 0 ≤ n) : σ.rd.length ≤ n.toNat := by
  have h1 : (σ.rd.map Int.toNat).Nodup := by
    unfold List.Nodup
    rw [List.pairwise_map]
    refine List.Pairwise.imp_of_mem (R := (· ≠ ·)) (fun {a b} ha hb hne e => ?_) H.nd
    have := H.rd a ha; have := H.rd b hb
    omega
  have := nodup_len (n := n.toNat) h1 fun j hj => by
    obtain ⟨x, hx, rfl⟩ := List.mem_map.1 hj
    have := H.rd x hx
    omega
  simpa using this
theorem put_len : (σ.put a v).pu.length ≤ σ.pu.length + 1 := by
  unfold Spc.put
  split
  · omega
  · split
    · show (σ.pu ++ [(a, v)]).length ≤ _
      simp
    · show σ.pu.length ≤ _
      omega
theorem act_len {x : Ac} : (σ.act x).pu.length ≤ σ.pu.length + 1 := by
  unfold Spc.act
  have hg := get_pu σ x.at'
  split
  · rw [hg]; omega
  · split
    · have := put_len (σ := (σ.get x.at').2) (a := x.at') (v := w64 ((σ.get x.at').1 + x.v))
      rw [hg] at this; exact this
    · split
      · exact put_len
      · have := back_len (σ := σ) (m := x.v.tmod 64); omega
theorem InN.act (D : Dom n k) (H : InN n k σ) {x : Ac} (ha : 0 ≤ x.at' ∧ x.at' < n) (hv : R64 x.v) (hl : σ.pu.length ≤ big) : InN n k (σ.act x) := by
  unfold Spc.act
  split
  · exact H.get D ha
  · split
    · exact (H.get D ha).put D ha (w64_in _) (by rw [get_pu]; exact hl)
    · split
      · exact H.put D ha hv hl
      · exact H.back _
/-- an act that is no Back only adds -/
theorem InN.ext (D : Dom n k) (H : InN n k σ) {x : Ac} (ha : 0 ≤ x.at' ∧ x.at' < n) (h2 : x.d % 4 ≠ 2) {l : List (Int × Int)} (hp : ∃ ex, σ.pu = l ++ ex) : ∃ ex, (σ.act x).pu = l ++ ex := by
  obtain ⟨ex, e⟩ := hp
  unfold Spc.act
  split
  · exact ⟨ex, by rw [get_pu]; exact e⟩
  · split
    · rw [(H.get D ha).putE D ha]
      exact ⟨_, by show (σ.get x.at').2.pu ++ _ = _; rw [get_pu, e, List.append_assoc]⟩
    · split
      · rw [H.putE D ha]
        exact ⟨_, by show σ.pu ++ _ = _; rw [e, List.append_assoc]⟩
      · have : x.d % 4 < 4 := Nat.mod_lt _ (by decide)
        omega

/-- sorted lists of the same places -/
theorem sorted_same {xs ys : List Int} (h1 : xs.Nodup) (h2 : ys.Nodup) (h : ∀ a, a ∈ xs ↔ a ∈ ys) : sorted xs = sorted ys := by
  have p : xs.Perm ys := (List.perm_ext_iff_of_nodup h1 h2).mpr h
  exact le_perm_eq (sorted_le _) (sorted_le _) ((sorted_perm _).trans (p.trans (sorted_perm _).symm))
theorem lt_nodup {l : List Int} (h : l.Pairwise (· < ·)) : l.Nodup := h.imp fun hab => by omega
theorem writes_same {xs ys : List Int} (h : ∀ a, a ∈ xs ↔ a ∈ ys) : cpt (sorted xs) = cpt (sorted ys) := by
  have l1 := cpt_sorted (sorted_le xs)
  have l2 := cpt_sorted (sorted_le ys)
  refine le_perm_eq (l1.imp fun h => by omega) (l2.imp fun h => by omega) ((List.perm_ext_iff_of_nodup (lt_nodup l1) (lt_nodup l2)).mpr fun a => ?_)
  rw [cpt_mem, cpt_mem, (sorted_perm xs).mem_iff, (sorted_perm ys).mem_iff]
  exact h a
/-- spaces with the same entries -/
theorem ents_same (hen : σ.en = τ.en) (h1 : σ.rd.Nodup) (h2 : τ.rd.Nodup) (h : ∀ a, a ∈ σ.rd ↔ a ∈ τ.rd) (he : ∀ a ∈ σ.rd, σ.ent a = τ.ent a) : σ.ents = τ.ents := by
  have hl : σ.entl = τ.entl := by
    unfold Spc.entl
    rw [sorted_same h1 h2 h]
    refine List.map_congr_left fun a ha => he a ((h a).2 ?_)
    rwa [(sorted_perm τ.rd).mem_iff] at ha
  unfold Spc.ents
  rw [hl, hen]
theorem lastP_mem {pu : List (Int × Int)} : (lastP pu a).isSome = true ↔ a ∈ pu.map (·.1) := by
  unfold lastP
  rw [Option.isSome_map, List.find?_isSome]
  simp only [List.mem_reverse, beq_iff_eq, List.mem_map]
theorem vw_congr (hk : σ.kn = τ.kn) (hp : lastP σ.pu a = lastP τ.pu a) : σ.vw a = τ.vw a := by
  unfold Spc.vw
  rw [hk, hp]
theorem ent_congr (hk : σ.kn = τ.kn) (hp : lastP σ.pu a = lastP τ.pu a) : σ.ent a = τ.ent a := by
  unfold Spc.ent
  rw [vw_congr hk hp, hk, hp]
end
end Go.En
