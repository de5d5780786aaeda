/-
  Layer 30: a program that is rerun, with each needed word added.
-/
import Derived.Test.YtggieecoagcmbaaLsG
namespace Go.En
open Prog Spc Go.Sort

variable {S : Sys} {I : Ids} {h h0 h' : Hp} {F F0 : Fp} {R : Value → Hp → Prop} {L : List Res} {s : Value} {σ τ : Spc}

theorem get_kn (σ : Spc) (a : Int) : (σ.get a).2.kn = σ.kn := by
  unfold Spc.get
  split
  · rfl
  · split <;> rfl
theorem put_kn (σ : Spc) (a v : Int) : (σ.put a v).kn = σ.kn := by
  unfold Spc.put
  split
  · rfl
  · split <;> rfl

/-- one step of the program: the sum, and the space -/
def pgStep (q : Int × Spc) (x : Ac) : Int × Spc :=
  if q.2.en then q else if x.d % 2 = 0 then (w64 (q.1 + (q.2.get ((q.1 + x.at') % 16)).1), (q.2.get ((q.1 + x.at') % 16)).2) else (q.1, q.2.put ((q.1 + x.at') % 16) (w64 (q.1 + x.v)))
theorem pgStep_on {z : Int} {σ : Spc} {x : Ac} (h : σ.en = false) : pgStep (z, σ) x = if x.d % 2 = 0 then (w64 (z + (σ.get ((z + x.at') % 16)).1), (σ.get ((z + x.at') % 16)).2) else (z, σ.put ((z + x.at') % 16) (w64 (z + x.v))) := by
  unfold pgStep
  rw [if_neg (by show ¬ σ.en = true; rw [h]; simp)]
def pg (xs : List Ac) (σ : Spc) : Int × Spc := xs.foldl pgStep (0, σ)
theorem pg_take {xs : List Ac} {i : Nat} {x : Ac} (h : xs[i]? = some x) : pg (xs.take (i + 1)) σ = pgStep (pg (xs.take i) σ) x := by
  unfold pg
  rw [List.take_add_one, h, List.foldl_append]; rfl
theorem pgStep_len {q : Int × Spc} {x : Ac} : (pgStep q x).2.pu.length ≤ q.2.pu.length + 1 := by
  unfold pgStep
  split
  · omega
  · split
    · dsimp only; rw [get_pu]; omega
    · exact put_len
theorem pgStep_R {q : Int × Spc} {x : Ac} (h : R64 q.1) : R64 (pgStep q x).1 := by
  unfold pgStep
  split
  · exact h
  · split
    · exact w64_in _
    · exact h
theorem pgStep_kn {q : Int × Spc} {x : Ac} : (pgStep q x).2.kn = q.2.kn := by
  unfold pgStep
  split
  · rfl
  · split
    · exact get_kn _ _
    · exact put_kn _ _ _
theorem pg_kn (xs : List Ac) : (pg xs σ).2.kn = σ.kn := by
  unfold pg
  have : ∀ (l : List Ac) (q : Int × Spc), (l.foldl pgStep q).2.kn = q.2.kn := by
    intro l
    induction l with
    | nil => intro q; rfl
    | cons x l ih => intro q; rw [List.foldl_cons, ih, pgStep_kn]
  exact this xs (0, σ)
theorem wrapU (n : Int) : IntKind.u64.wrap n = n % 18446744073709551616 := by simp [IntKind.wrap, IntKind.bits, IntKind.signed]
theorem cvi16 {a b : Int} : (IntKind.u64.wrap (w64 (a + b))).tmod 16 = (a + b) % 16 := by
  unfold w64
  rw [wrapU, IntKind.wrap_i64, Int.tmod_eq_emod_of_nonneg (by omega)]
  omega

theorem K_program {xs : List Ac} {v : Value} (cs : CsD S I) (hw : ∀ x ∈ xs, x.ok) (hl : σ.pu.length + xs.length ≤ big) (hs : ∀ h', Ch F h h' → Sl EAc h' v xs) (a : (rSpace s σ).P h F)
    (hR : ∀ h', Cx F h h' [rSpace s (pg xs σ).2] → R (.int .i64 (pg xs σ).1) h') : F_simulcastlaw30_program S I s v h R := by
  unfold F_simulcastlaw30_program
  have hb : xs.length ≤ big := by omega
  unfold big at hb
  refine Lp2.by (fun (i : Nat) u k h' => k = .int .i64 i ∧ i ≤ xs.length ∧ u = .int .i64 (pg (xs.take i) σ).1 ∧ R64 (pg (xs.take i) σ).1 ∧ (pg (xs.take i) σ).2.pu.length ≤ σ.pu.length + i ∧ (i = xs.length ∨ True) ∧ Cx F h h' [rSpace s (pg (xs.take i) σ).2]) (fun i => xs.length - i) 0
    ⟨rfl, Nat.zero_le _, rfl, ⟨by show (-9223372036854775808 : Int) ≤ 0; decide, by show (0 : Int) ≤ 9223372036854775807; decide⟩, Nat.le_refl _, .inr trivial, Cx.start a⟩ ?_
  rintro i u k h1 ⟨rfl, hi, rfl, hr, hp, -, c⟩ again hagain
  refine Jn1.at (fun u h' => ∃ bb : Bool, u = .bool bb ∧ (bb = true → i < xs.length ∧ (pg (xs.take i) σ).2.en = false) ∧ (bb = false → pg xs σ = pg (xs.take i) σ) ∧ Cx F h h' [rSpace s (pg (xs.take i) σ).2]) ?_ ?_
  · rw [(hs h1 c.gr).ln, vb_some, bin_lss, vb_some]
    refine brd (fun h2 => ?_) fun h2 => ?_
    · obtain ⟨F1, a1⟩ := c.get (i := 0) rfl
      refine cs.ended a1 ?_
      rw [show uno .not (.bool (pg (xs.take i) σ).2.en) = some (.bool (!(pg (xs.take i) σ).2.en)) from rfl, vb_some]
      refine ⟨_, rfl, fun e => ⟨by omega, by simpa using e⟩, fun e => ?_, c⟩
      have e : (pg (xs.take i) σ).2.en = true := by simpa using e
      have : ∀ (l : List Ac) (q : Int × Spc), q.2.en = true → l.foldl pgStep q = q := by
        intro l
        induction l with
        | nil => intro q _; rfl
        | cons x l ih =>
          intro q hq
          have : pgStep q x = q := by unfold pgStep; rw [if_pos hq]
          rw [List.foldl_cons, this, ih q hq]
      have h3 := this (xs.drop i) (pg (xs.take i) σ) e
      unfold pg at h3 ⊢
      rw [← List.foldl_append, List.take_append_drop] at h3
      exact h3
    · have : i = xs.length := by omega
      subst this
      exact ⟨false, rfl, (fun e => by cases e), fun _ => by rw [List.take_length], c⟩
  clear c
  rintro u h2 ⟨bb, rfl, h3, h4, c⟩
  cases bb with
  | false =>
    rw [br_false]
    have e := h4 rfl
    rw [← e] at c ⊢
    exact hR _ c
  | true =>
    rw [br_true]
    obtain ⟨h5, h6⟩ := h3 rfl
    clear h3 h4
    have hx : xs[i]? = some xs[i] := List.getElem?_eq_getElem h5
    have hok := hw xs[i] (List.getElem_mem _)
    have hst := pg_take (σ := σ) hx
    have hlen := pgStep_len (q := pg (xs.take i) σ) (x := xs[i])
    have hrr := pgStep_R (x := xs[i]) hr
    have hkey : ∀ h' u, u = .int .i64 (pg (xs.take (i + 1)) σ).1 → Cx F h h' [rSpace s (pg (xs.take (i + 1)) σ).2] → again u (.int .i64 ((i + 1 : Nat) : Int)) h' := fun h' u e c => by
      subst e
      exact hagain (i + 1) _ _ _ ⟨rfl, by omega, rfl, by rw [hst]; exact hrr, by rw [hst]; omega, .inr trivial, c⟩ (by omega)
    rw [hst] at hkey
    unfold pgStep at hkey
    rw [if_neg (by rw [h6]; simp)] at hkey
    generalize pg (xs.take i) σ = q at *
    refine Jn1.at (fun u h' => again u (.int .i64 ((i + 1 : Nat) : Int)) h') ?_ ?_
    · refine (hs _ c.gr).fld rfl hx rfl (j := 1) rfl ?_
      rw [bin_addw, vb_some, cvi_int, vb_some, bin_rem (by omega), vb_some, cvi_int, vb_some, cvi16, wr64 (by omega)]
      refine (hs _ c.gr).fld rfl hx rfl (j := 0) rfl ?_
      have hrem : bin .rem (.int .u8 ((xs[i].d : Nat) : Int)) (.int .u8 2) = some (.int .u8 ((xs[i].d % 2 : Nat) : Int)) := by
        rw [bin_rem (by omega)]; congr 2
      show Vb (bin .rem (.int .u8 ((xs[i].d : Nat) : Int)) (.int .u8 2)) _
      rw [hrem, vb_some, bin_eql, vb_some]
      refine brd (fun h7 => ?_) fun h7 => ?_
      · rw [if_pos (by omega)] at hkey
        refine c.cGet cs 0 rfl fun h8 c => ?_
        rw [bin_addw, vb_some]
        exact hkey _ _ rfl c
      · rw [if_neg (by omega)] at hkey
        refine (hs _ c.gr).fld rfl hx rfl (j := 2) rfl ?_
        rw [bin_addw, vb_some]
        refine c.cPut cs 0 rfl (w64_in _) (by omega) fun h8 c => ?_
        exact hkey _ _ rfl c
    · intro u h3 hu
      rw [bin_add, vb_some, wrS (by omega)]
      exact hu

/-! ### A space that knows less -/
structure Sim (σ τ : Spc) : Prop where
  en : σ.en = false
  en' : τ.en = false
  rd : σ.rd = τ.rd
  pu : σ.pu = τ.pu
  kn : ∀ a w, σ.kn a = some w → τ.kn a = some w
  has : ∀ a ∈ σ.rd, (σ.kn a).isSome = true
theorem Sim.vw (H : Sim σ τ) {a : Int} (ha : (σ.kn a).isSome = true) : σ.vw a = τ.vw a := by
  obtain ⟨w, hw⟩ := Option.isSome_iff_exists.1 ha
  unfold Spc.vw
  rw [H.pu, hw, H.kn a w hw]
theorem Sim.ent (H : Sim σ τ) {a : Int} (ha : (σ.kn a).isSome = true) : σ.ent a = τ.ent a := by
  obtain ⟨w, hw⟩ := Option.isSome_iff_exists.1 ha
  unfold Spc.ent
  rw [H.vw ha, H.pu, hw, H.kn a w hw]
theorem Sim.rds (H : Sim σ τ) {a : Int} (ha : (σ.kn a).isSome = true) : Sim (σ.rds a) (τ.rds a) :=
  ⟨H.en, H.en', by show (if a ∈ σ.rd then σ.rd else σ.rd ++ [a]) = (if a ∈ τ.rd then τ.rd else τ.rd ++ [a]); rw [H.rd], H.pu, H.kn, fun b hb => by
    rcases mem_rds.1 hb with rfl | hb
    · exact ha
    · exact H.has b hb⟩
/-- both go on alike, or the one ends at a place that it does not know -/
theorem Sim.step {n : Int} {k : Int → Option W3} {z : Int} {x : Ac} (D : Dom 16 k) (T : InN 16 k τ) (H : Sim σ τ) :
    ((pgStep (z, σ) x).1 = (pgStep (z, τ) x).1 ∧ Sim (pgStep (z, σ) x).2 (pgStep (z, τ) x).2) ∨ ((pgStep (z, σ) x).2.en = true ∧ (pgStep (z, σ) x).2.nd ∈ (pgStep (z, τ) x).2.rd ∧ σ.kn (pgStep (z, σ) x).2.nd = none) := by
  rw [pgStep_on H.en, pgStep_on H.en']
  have ha : 0 ≤ (z + x.at') % 16 ∧ (z + x.at') % 16 < 16 := by omega
  generalize (z + x.at') % 16 = a at ha
  have eT := T.getE D ha
  have pT : ∀ v, τ.put a v = { τ.rds a with pu := τ.pu ++ [(a, v)] } := fun v => T.putE D ha
  have hen : ¬ σ.en = true := by rw [H.en]; simp
  cases hk : σ.kn a with
  | none =>
    right
    by_cases hd : x.d % 2 = 0
    · rw [if_pos hd, if_pos hd, eT]
      unfold Spc.get
      rw [if_neg hen, hk]
      exact ⟨rfl, mem_rds.2 (.inl rfl), hk⟩
    · rw [if_neg hd, if_neg hd, pT]
      unfold Spc.put
      rw [if_neg hen, hk]
      exact ⟨rfl, mem_rds.2 (.inl rfl), hk⟩
  | some w =>
    left
    have hs : (σ.kn a).isSome = true := by rw [hk]; rfl
    have h2 := H.rds hs
    by_cases hd : x.d % 2 = 0
    · rw [if_pos hd, if_pos hd, eT]
      unfold Spc.get
      rw [if_neg hen, hk]
      exact ⟨by show w64 (z + σ.vw a) = w64 (z + τ.vw a); rw [H.vw hs], h2⟩
    · rw [if_neg hd, if_neg hd, pT]
      unfold Spc.put
      rw [if_neg hen, hk]
      exact ⟨rfl, h2.en, h2.en', h2.rd, by show σ.pu ++ _ = τ.pu ++ _; rw [H.pu], h2.kn, h2.has⟩
theorem InN.pgS {k : Int → Option W3} {z : Int} {x : Ac} (D : Dom 16 k) (T : InN 16 k τ) (hl : τ.pu.length ≤ big) : InN 16 k (pgStep (z, τ) x).2 ∧ ∀ a ∈ τ.rd, a ∈ (pgStep (z, τ) x).2.rd := by
  unfold pgStep
  dsimp only
  rw [if_neg (by rw [T.en]; simp)]
  have ha : 0 ≤ (z + x.at') % 16 ∧ (z + x.at') % 16 < 16 := by omega
  split
  · exact ⟨T.get D ha, fun a h => by rw [T.getE D ha]; exact mem_rds.2 (.inr h)⟩
  · exact ⟨T.put D ha (w64_in _) hl, fun a h => by rw [T.putE D ha]; exact mem_rds.2 (.inr h)⟩
theorem InN.pgs {k : Int → Option W3} (D : Dom 16 k) : ∀ (xs : List Ac) (z : Int) (τ : Spc), InN 16 k τ → τ.pu.length + xs.length ≤ big → InN 16 k (xs.foldl pgStep (z, τ)).2 ∧ ∀ a ∈ τ.rd, a ∈ (xs.foldl pgStep (z, τ)).2.rd
  | [], z, τ, T, hl => ⟨T, fun a h => h⟩
  | x :: xs, z, τ, T, hl => by
    simp only [List.length_cons] at hl
    obtain ⟨h1, h2⟩ := T.pgS (z := z) (x := x) D (by omega)
    have := pgStep_len (q := (z, τ)) (x := x)
    dsimp only at this
    obtain ⟨h3, h4⟩ := InN.pgs D xs (pgStep (z, τ) x).1 (pgStep (z, τ) x).2 h1 (by omega)
    exact ⟨h3, fun a ha => h4 a (h2 a ha)⟩
theorem sim_all {k : Int → Option W3} (D : Dom 16 k) : ∀ (xs : List Ac) (z : Int) (σ τ : Spc), InN 16 k τ → τ.pu.length + xs.length ≤ big → Sim σ τ →
    ((xs.foldl pgStep (z, σ)).1 = (xs.foldl pgStep (z, τ)).1 ∧ Sim (xs.foldl pgStep (z, σ)).2 (xs.foldl pgStep (z, τ)).2) ∨ ((xs.foldl pgStep (z, σ)).2.en = true ∧ (xs.foldl pgStep (z, σ)).2.nd ∈ (xs.foldl pgStep (z, τ)).2.rd ∧ σ.kn (xs.foldl pgStep (z, σ)).2.nd = none)
  | [], z, σ, τ, T, hl, H => .inl ⟨rfl, H⟩
  | x :: xs, z, σ, τ, T, hl, H => by
    simp only [List.length_cons] at hl
    obtain ⟨h1, h2⟩ := T.pgS (z := z) (x := x) D (by omega)
    have := pgStep_len (q := (z, τ)) (x := x)
    dsimp only at this
    rw [List.foldl_cons, List.foldl_cons]
    rcases H.step (n := 16) (z := z) (x := x) D T with ⟨e, H'⟩ | ⟨e1, e2, e3⟩
    · have := sim_all D xs (pgStep (z, τ) x).1 (pgStep (z, σ) x).2 (pgStep (z, τ) x).2 h1 (by omega) H'
      rw [← e] at this
      have e4 : (pgStep (z, σ) x).2.kn = σ.kn := pgStep_kn
      rw [e4] at this
      have e5 : ((pgStep (z, σ) x).1, (pgStep (z, τ) x).2) = pgStep (z, τ) x := by rw [e]
      rw [e5] at this
      exact this
    · right
      have : ∀ (l : List Ac) (q : Int × Spc), q.2.en = true → l.foldl pgStep q = q := by
        intro l
        induction l with
        | nil => intro q _; rfl
        | cons x l ih =>
          intro q hq
          have : pgStep q x = q := by unfold pgStep; rw [if_pos hq]
          rw [List.foldl_cons, this, ih q hq]
      rw [this xs _ e1]
      exact ⟨e1, (InN.pgs D xs _ _ h1 (by omega)).2 _ e2, e3⟩
theorem nodup_sub : ∀ {xs ys : List Int}, xs.Nodup → (∀ a ∈ xs, a ∈ ys) → xs.length ≤ ys.length
  | [], ys, _, _ => Nat.zero_le _
  | x :: xs, ys, hn, hs => by
    have hx : x ∈ ys := hs x (List.mem_cons_self ..)
    have hn := List.nodup_cons.1 hn
    have := nodup_sub (xs := xs) (ys := ys.erase x) hn.2 fun a ha => (List.mem_erase_of_ne (fun e => hn.1 (by rw [← e]; exact ha))).2 (hs a (List.mem_cons_of_mem _ ha))
    have h2 := List.length_erase_of_mem hx
    have h3 : 0 < ys.length := List.length_pos_of_mem hx
    simp only [List.length_cons]
    omega
end Go.En
