/-
  Layer 40: a graph in a space, as the laws see it.
  Layer 40: the reference.
  Layer 40: the laws' own functions: handle, made, empty; the contracts in a context.
  Layer 40: a call on the graph and on the reference.
-/
import Derived.Test.YtmpdclbiopalaaaXH
import Derived.Test.YtmpdclbiopalaaaXG
namespace Go.En
open Prog Spc Go.Sort

abbrev p40 (n : Int) : Pl := ⟨1, 24, n⟩
abbrev D40 (n : Int) : Int → Prop := fun a => 0 ≤ a ∧ a < 24 + 8 * n
abbrev N40 (n : Nat) : Nat := 24 + 8 * n
theorem p40_good {n : Int} (h : 0 ≤ n ∧ n ≤ 100) : (p40 n).good := ⟨by show (0 : Int) ≤ 1; decide, by show (1 : Int) ≤ 24; decide, h.1, by show n ≤ 128; omega, by show (1 : Int) ≤ 4093; decide, by show 24 + 8 * n ≤ 4096; omega, .inr (.inl (by show (1 : Int) + 3 ≤ 24; decide))⟩
theorem p40_S {n : Int} (_ : 0 ≤ n ∧ n ≤ 100) : GS (D40 n) (p40 n) 8 := by
  refine ⟨⟨fun i h0 h1 => ⟨by show 0 ≤ 1 + i; omega, by show 1 + i < _; omega⟩, fun x hx i h0 h1 => ?_⟩, fun i h0 h1 => ⟨by omega, by omega⟩, ⟨by show (1 : Int) + 3 ≤ 8; decide, by show (8 : Int) + 8 ≤ 24; decide⟩⟩
  obtain ⟨j, j0, j1, rfl⟩ := hx
  have j1 : j < n := j1
  exact ⟨by show 0 ≤ 24 + 8 * j + i; omega, by show 24 + 8 * j + i < _; omega⟩
theorem GRep.start {n : Int} (h : 0 ≤ n ∧ n ≤ 100) {m : Int → Int} (hz : ∀ a, m a = 0) : GRep (p40 n) 8 m [] [] [] 0 :=
  ⟨⟨p40_good h, hz _, hz _, hz _, Int.le_refl 0, by show (0 : Int) ≤ n; omega, (fun x hx => by cases hx), List.nodup_nil⟩, List.nodup_nil, (fun x hx => by cases hx), (fun i h0 h1 => by omega), (fun i _ _ => hz _), rfl, (fun e he => by cases he), hz _, (fun e he => by cases he), (fun e he => by cases he), (fun e he => by cases he), (fun e he => by cases he), hz _, hz _, hz _⟩

/-! ### Answers -/
def rLab (V : List (Int × Int)) (n : Int) : Int := ((V.find? fun x => decide (x.1 = n)).map (·.2)).getD 0
def rWei (E : List Ed) (a b : Int) : Int × Bool := (((fE E a b).map (·.w)).getD 0, (fE E a b).isSome)
theorem find_key : ∀ {V : List (Int × Int)} {n lab : Int}, (vI V).Nodup → (n, lab) ∈ V → (V.find? fun x => decide (x.1 = n)) = some (n, lab)
  | x :: V, n, lab, hn, h => by
    have hn : (x.1 :: vI V).Nodup := hn
    rw [List.nodup_cons] at hn
    rw [List.find?_cons]
    rcases List.mem_cons.1 h with e | h
    · subst e; simp
    · have hne : ¬ x.1 = n := fun e => hn.1 (e ▸ List.mem_map.2 ⟨_, h, rfl⟩)
      rw [decide_eq_false hne]
      exact find_key hn.2 h
theorem rLab_mem {V : List (Int × Int)} {n lab : Int} (hn : (vI V).Nodup) (h : (n, lab) ∈ V) : rLab V n = lab := by
  unfold rLab
  rw [find_key hn h]; rfl
theorem fE_some {E : List Ed} {a b : Int} {x : Ed} (h : fE E a b = some x) : x ∈ E ∧ x.f = a ∧ x.t = b := by
  unfold fE at h
  have h1 := List.mem_of_find?_eq_some h
  have h2 := List.find?_some h
  simp only [Bool.and_eq_true, decide_eq_true_eq] at h2
  exact ⟨h1, h2.1, h2.2⟩
theorem fE_none {E : List Ed} {a b : Int} (h : fE E a b = none) : ∀ x ∈ E, ¬ (x.f = a ∧ x.t = b) := by
  unfold fE at h
  rw [List.find?_eq_none] at h
  intro x hx hc
  have := h x hx
  simp [hc.1, hc.2] at this

/-! ### The graph in the space -/
/-- one edge for a pair of vertices -/
def Uq (E : List Ed) : Prop := E.Pairwise fun x y => ¬ (x.f = y.f ∧ x.t = y.t)
theorem Uq.sub {E E' : List Ed} (h : Uq E) (s : E'.Sublist E) : Uq E' := List.Pairwise.sublist s h
structure SG (n : Int) (V : List (Int × Int)) (E : List Ed) (c : Nat) (σ : Spc) : Prop where
  hn : 0 ≤ n ∧ n ≤ 100
  cb : c + 10000 ≤ big
  uq : Uq E
  wk : ∃ m fr out, Sm (D40 n) σ σ m 0 ∧ GRep (p40 n) 8 m V E fr out ∧ σ.pu.length ≤ c
section
variable {n : Int} {V : List (Int × Int)} {E : List Ed} {c c' : Nat} {σ σ' : Spc} {a b v w : Int}
theorem SG.of {m : Int → Int} {fr : List Int} {out : Int} {k : Nat} {V' : List (Int × Int)} {E' : List Ed} (H : SG n V E c σ) (hb : c + k + 10000 ≤ big) (u : Uq E') (S : Sm (D40 n) σ σ' m k) (X : GRep (p40 n) 8 m V' E' fr out) : SG n V' E' (c + k) σ' := by
  obtain ⟨hn, hc, hu, m0, fr0, out0, S0, X0, hl⟩ := H
  exact ⟨hn, hb, u, m, fr, out, S.fresh, X, by have := S.len; omega⟩
theorem SG.mono (H : SG n V E c σ) (h : c ≤ c') (hb : c' + 10000 ≤ big) : SG n V E c' σ := by
  obtain ⟨hn, hc, hu, m0, fr0, out0, S0, X0, hl⟩ := H
  exact ⟨hn, hb, hu, m0, fr0, out0, S0, X0, by omega⟩
theorem SG.start {k : Nat} (h : k ≤ 100) {g : Nat → W3} (hg : ∀ i, g i = W0) : SG k [] [] 0 (newS (knF g (N40 k))) := by
  have hkn : ∀ a, (newS (knF g (N40 k))).kn a = if 0 ≤ a ∧ a < (N40 k : Nat) then some (g a.toNat) else none := fun a => newS_knF (g := g) fun i _ => by rw [hg]
  have hz : ∀ a, (newS (knF g (N40 k))).vw a = 0 := fun a => by
    unfold Spc.vw
    show (none : Option Int).getD _ = _
    rw [hkn]
    split
    · rw [hg]; rfl
    · rfl
  have hn : 0 ≤ (k : Int) ∧ (k : Int) ≤ 100 := ⟨by omega, by omega⟩
  refine ⟨hn, by decide, .nil, _, [], 0, Sm.start (fun a ha => ?_) rfl (newS_wf (knF_val fun i _ => by rw [hg]; exact ⟨by decide, by decide⟩)), GRep.start hn hz, Nat.zero_le _⟩
  have ha : 0 ≤ a ∧ a < 24 + 8 * (k : Int) := ha
  rw [hkn, if_pos ⟨ha.1, by have := ha.2; show a < ((24 + 8 * k : Nat) : Int); omega⟩]; rfl
theorem SG.len (H : SG n V E c σ) : (V.length : Int) + E.length ≤ n := let ⟨_, _, _, _, _, _, _, X, _⟩ := H; X.lenB
theorem SG.V64 (H : SG n V E c σ) : ∀ x ∈ vI V, R64 x := let ⟨hn, _, _, _, _, _, _, X, _⟩ := H; fun _ hx => isN_R (p40_good hn) (X.vN hx)
theorem SG.E64 (H : SG n V E c σ) : ∀ x ∈ eI E, R64 x := let ⟨hn, _, _, _, _, _, _, X, _⟩ := H; fun _ hx => isN_R (p40_good hn) (X.eN hx)
theorem SG.fv (H : SG n V E c σ) : ∀ e ∈ E, e.f ∈ vI V ∧ e.t ∈ vI V := let ⟨_, _, _, _, _, _, _, X, _⟩ := H; X.fv
theorem SG.ndV (H : SG n V E c σ) : (vI V).Nodup := let ⟨_, _, _, _, _, _, _, X, _⟩ := H; X.ndV
theorem SG.ndE (H : SG n V E c σ) : (eI E).Nodup := let ⟨_, _, _, _, _, _, _, X, _⟩ := H; X.ndE
theorem SG.en (H : SG n V E c σ) : σ.en = false := let ⟨_, _, _, _, _, _, S, _, _⟩ := H; S.en
theorem SG.pul (H : SG n V E c σ) : σ.pu.length ≤ c := let ⟨_, _, _, _, _, _, _, _, h⟩ := H; h
theorem SG.nofe (H : SG n V E c σ) (h : ¬ (a ∈ vI V ∧ b ∈ vI V)) : fE E a b = none := by
  cases hf : fE E a b with
  | none => rfl
  | some x =>
    obtain ⟨h1, rfl, rfl⟩ := fE_some hf
    exact absurd (H.fv x h1) h
abbrev NwH (n : Int) (V : List (Int × Int)) (E : List Ed) (x : Int) : Prop := isN (p40 n) x ∧ x ∉ vI V ∧ x ∉ eI E
theorem SG.add (H : SG n V E c σ) (hv : R64 v) (hb : c + 20 + 10000 ≤ big) : wp (gAdd (p40 n) 8 v) σ fun e σ' => (∃ x, e = (x, 0) ∧ (V.length : Int) + E.length < n ∧ NwH n V E x ∧ SG n ((x, v) :: V) E (c + 20) σ') ∨ (e = (0, 9) ∧ n ≤ (V.length : Int) + E.length ∧ SG n V E (c + 20) σ') := by
  have H0 := H
  obtain ⟨hn, hc, hu, m, fr, out, S, X, hl⟩ := H
  refine Prog.wp_mono (wp_gAdd (p40_S hn) S X hv (by omega)) fun e σ' hq => ?_
  rcases hq with ⟨x, m', fr', out', rfl, hlt, S', X'⟩ | ⟨rfl, hge, S'⟩
  · have hnd := X'.nd
    have hx : x ∉ vI V ++ eI E := (List.nodup_cons.1 hnd).1
    rw [List.mem_append] at hx
    exact .inl ⟨x, rfl, hlt, ⟨X'.vN (List.mem_cons_self ..), fun h => hx (.inl h), fun h => hx (.inr h)⟩, H0.of hb hu S' X'⟩
  · exact .inr ⟨rfl, hge, H0.of hb hu S' X⟩
theorem SG.link (H : SG n V E c σ) (hw : R64 w) (hb : c + 20 + 10000 ≤ big) : wp (gLink (p40 n) 8 a b w) σ fun e σ' => (¬ (a ∈ vI V ∧ b ∈ vI V) ∧ e = (0, 10) ∧ SG n V E (c + 20) σ') ∨ ((a ∈ vI V ∧ b ∈ vI V) ∧ ((fE E a b).isSome = true ∧ e = (0, 11) ∧ SG n V E (c + 20) σ' ∨
    fE E a b = none ∧ (n ≤ (V.length : Int) + E.length ∧ e = (0, 9) ∧ SG n V E (c + 20) σ' ∨ (V.length : Int) + E.length < n ∧ ∃ x, e = (x, 0) ∧ NwH n V E x ∧ SG n V (⟨x, a, b, w⟩ :: E) (c + 20) σ'))) := by
  have H0 := H
  obtain ⟨hn, hc, hu, m, fr, out, S, X, hl⟩ := H
  refine Prog.wp_mono (wp_gLink (a := a) (b := b) (p40_S hn) S X hw (by omega)) fun e σ' hq => ?_
  rcases hq with ⟨h1, rfl, S'⟩ | ⟨h1, ⟨h2, rfl, S'⟩ | ⟨h2, ⟨h3, rfl, S'⟩ | ⟨h3, x, m', fr', out', rfl, S', X'⟩⟩⟩
  · exact .inl ⟨h1, rfl, H0.of hb hu S' X⟩
  · exact .inr ⟨h1, .inl ⟨h2, rfl, H0.of hb hu S' X⟩⟩
  · exact .inr ⟨h1, .inr ⟨h2, .inl ⟨h3, rfl, H0.of hb hu S' X⟩⟩⟩
  · have hnd := List.nodup_append.1 X'.nd
    have hx : x ∉ eI E := (List.nodup_cons.1 hnd.2.1).1
    refine .inr ⟨h1, .inr ⟨h2, .inr ⟨h3, x, rfl, ⟨X'.eN (List.mem_cons_self ..), fun h => hnd.2.2 x h x (List.mem_cons_self ..) rfl, hx⟩, H0.of hb (List.pairwise_cons.2 ⟨fun y hy hc => fE_none h2 y hy ⟨hc.1.symm, hc.2.symm⟩, hu⟩) S' X'⟩⟩⟩
theorem SG.cut (H : SG n V E c σ) (hb : c + 20 + 10000 ≤ big) : wp (gCut (p40 n) 8 a) σ fun e σ' => (a ∉ eI E ∧ e = 10 ∧ SG n V E (c + 20) σ') ∨ (a ∈ eI E ∧ e = 0 ∧ SG n V (rmE E a) (c + 20) σ') := by
  have H0 := H
  obtain ⟨hn, hc, hu, m, fr, out, S, X, hl⟩ := H
  refine Prog.wp_mono (wp_gCut (n := a) (p40_S hn) S X (by omega)) fun e σ' hq => ?_
  rcases hq with ⟨h1, rfl, S'⟩ | ⟨h1, rfl, m', S', X'⟩
  · exact .inl ⟨h1, rfl, H0.of hb hu S' X⟩
  · exact .inr ⟨h1, rfl, H0.of hb (hu.sub List.filter_sublist) S' X'⟩
theorem SG.drop (H : SG n V E c σ) (hb : c + 3000 + 10000 ≤ big) : wp (gDrop (p40 n) 8 a) σ fun e σ' => (a ∉ vI V ∧ e = (0, 10) ∧ SG n V E (c + 3000) σ') ∨ (a ∈ vI V ∧ e = (rLab V a, 0) ∧ SG n (rmV V a) (rmG E a) (c + 3000) σ') := by
  have H0 := H
  obtain ⟨hn, hc, hu, m, fr, out, S, X, hl⟩ := H
  refine Prog.wp_mono (wp_gDrop (n := a) (p40_S hn) S X (by omega)) fun e σ' hq => ?_
  rcases hq with ⟨h1, rfl, S'⟩ | ⟨lab, m', fr', h1, rfl, S', X'⟩
  · exact .inl ⟨h1, rfl, H0.of hb hu S' X⟩
  · exact .inr ⟨List.mem_map.2 ⟨_, h1, rfl⟩, by rw [rLab_mem X.ndV h1], H0.of hb (hu.sub List.filter_sublist) S' X'⟩
theorem SG.look {m : Int → Int} {fr : List Int} {out : Int} (H : SG n V E c σ) (S : Sm (D40 n) σ σ' m 0) (X : GRep (p40 n) 8 m V E fr out) : SG n V E c σ' := H.of (k := 0) H.cb H.uq S X
theorem SG.wei (H : SG n V E c σ) : wp (gWei (p40 n) 8 a b) σ fun r σ' => r = rWei E a b ∧ SG n V E c σ' := by
  have H0 := H
  obtain ⟨hn, hc, hu, m, fr, out, S, X, hl⟩ := H
  refine Prog.wp_mono (wp_gWei (a := a) (b := b) (p40_S hn) S X) fun r σ' ⟨S', hq⟩ => ⟨?_, H0.look S' X⟩
  rcases hq with ⟨h1, h2, rfl⟩ | ⟨h1, rfl⟩
  · rfl
  · unfold rWei
    rw [H0.nofe h1]; rfl
theorem SG.lab (H : SG n V E c σ) : wp (gLab (p40 n) 8 a) σ fun r σ' => (a ∈ vI V ∧ r = (rLab V a, 0) ∨ a ∉ vI V ∧ r = (0, 10)) ∧ SG n V E c σ' := by
  have H0 := H
  obtain ⟨hn, hc, hu, m, fr, out, S, X, hl⟩ := H
  refine Prog.wp_mono (wp_gLab (n := a) (p40_S hn) S X) fun r σ' ⟨S', hq⟩ => ⟨?_, H0.look S' X⟩
  rcases hq with ⟨lab, h1, rfl⟩ | ⟨h1, rfl⟩
  · exact .inl ⟨List.mem_map.2 ⟨_, h1, rfl⟩, by rw [rLab_mem X.ndV h1]⟩
  · exact .inr ⟨h1, rfl⟩
theorem SG.out (H : SG n V E c σ) : wp (gOut (p40 n) 8 a) σ fun r σ' => (a ∈ vI V ∧ r = (some (oP E a), 0) ∨ a ∉ vI V ∧ r = (none, 10)) ∧ SG n V E c σ' := by
  have H0 := H
  obtain ⟨hn, hc, hu, m, fr, out, S, X, hl⟩ := H
  exact Prog.wp_mono (wp_gOut (n := a) (p40_S hn) S X) fun r σ' ⟨S', hq⟩ => ⟨hq, H0.look S' X⟩
theorem SG.in' (H : SG n V E c σ) : wp (gIn (p40 n) 8 a) σ fun r σ' => (a ∈ vI V ∧ r = (some (iP E a), 0) ∨ a ∉ vI V ∧ r = (none, 10)) ∧ SG n V E c σ' := by
  have H0 := H
  obtain ⟨hn, hc, hu, m, fr, out, S, X, hl⟩ := H
  exact Prog.wp_mono (wp_gIn (n := a) (p40_S hn) S X) fun r σ' ⟨S', hq⟩ => ⟨hq, H0.look S' X⟩
theorem SG.ver (H : SG n V E c σ) : wp (gVer (p40 n) 8) σ fun r σ' => r = some (vI V) ∧ SG n V E c σ' := by
  have H0 := H
  obtain ⟨hn, hc, hu, m, fr, out, S, X, hl⟩ := H
  exact Prog.wp_mono (wp_gVer (p40_S hn) S X) fun r σ' ⟨hq, S'⟩ => ⟨hq, H0.look S' X⟩
theorem SG.get (H : SG n V E c σ) (ha : a = 9 ∨ a = 10 ∨ a = 15) : (σ.get a).1 = (if a = 9 then (V.length : Int) else if a = 10 then E.length else V.length + E.length) ∧ SG n V E c (σ.get a).2 := by
  have H0 := H
  obtain ⟨hn, hc, hu, m, fr, out, S, X, hl⟩ := H
  have hD : D40 n a := ⟨by omega, by omega⟩
  rw [S.get hD]
  refine ⟨?_, H0.look (S.rds a) X⟩
  have h1 := X.n1; have h2 := X.n2; have h7 := X.n7
  rcases ha with rfl | rfl | rfl
  · exact h1
  · exact h2
  · exact h7
theorem SG.edges (H : SG n V E c σ) : wp (gt (8 + 2)) σ fun r σ' => r = (E.length : Int) ∧ SG n V E c σ' := by
  have := H.get (a := 10) (.inr (.inl rfl))
  exact ⟨this.1, this.2⟩
end
end Go.En
namespace Go.En
open Prog Spc Go.Sort

variable {S : Sys} {I : Ids} {h h0 h' : Hp} {F F0 : Fp} {R : Value → Hp → Prop} {L : List Res} {s : Value} {σ τ : Spc}

abbrev SH : Type := Option Addr × Nat × Nat
theorem Ow.isH {α : Type} {E : Enc α} {v : Value} {xs : List α} (H : Ow E h v xs) : ∃ u : SH, v = shV u := by
  rcases H with ⟨rfl, _⟩ | ⟨r, o, cap, rfl, _⟩
  · exact ⟨(none, 0, 0), rfl⟩
  · exact ⟨(_, _, _), rfl⟩
def EGr : Enc (SH × SH) := { n := 2, c := fun u => [shV u.1, shV u.2], len := fun _ => rfl, one := fun a v h => by simp only [List.mem_cons, List.not_mem_nil, or_false] at h; rcases h with rfl | rfl <;> rfl }
def vGr (u : SH × SH) : Value := .agg ⟨EGr.c u⟩
def EEd : Enc Ed := { n := 4, c := fun x => [.int .i64 x.id, .int .i64 x.f, .int .i64 x.t, .int .i64 x.w], len := fun _ => rfl, one := fun a v h => by simp only [List.mem_cons, List.not_mem_nil, or_false] at h; rcases h with rfl | rfl | rfl | rfl <;> rfl }
/-- the slices of a graph can be read -/
structure RG (h : Hp) (u : SH × SH) (V : List (Int × Int)) (E : List Ed) : Prop where
  v : Sl E2I h (shV u.1) V
  e : Sl EEd h (shV u.2) E
  lv : V.length ≤ 100000
  le : E.length ≤ 100000
theorem RG.gr {u : SH × SH} {V : List (Int × Int)} {E : List Ed} (H : RG h u V E) (g : Gr h h') : RG h' u V E := ⟨H.v.gr g, H.e.gr g, H.lv, H.le⟩
section
variable {u : SH × SH} {V : List (Int × Int)} {E : List Ed} {a b v w x : Int}
theorem vI_take {i : Nat} {y : Int × Int} (h : V[i]? = some y) : vI (V.take (i + 1)) = vI (V.take i) ++ [y.1] := by
  unfold vI; rw [List.take_add_one, h, List.map_append]; rfl
theorem eI_take {i : Nat} {y : Ed} (h : E[i]? = some y) : eI (E.take (i + 1)) = eI (E.take i) ++ [y.id] := by
  unfold eI; rw [List.take_add_one, h, List.map_append]; rfl
theorem K_rHas (H : RG h u V E) (hR : ∀ h', Gr h h' → R (.bool (decide (x ∈ vI V))) h') : F_simulcastref40_Has S I (vGr u) (.int .i64 x) h R := by
  have hN := H.lv
  unfold F_simulcastref40_Has
  refine (Cx.start0 h).nw EGr u rfl fun r h1 c => ?_
  refine Lp1.by (fun (i : Nat) v h' => v = .int .i64 i ∧ i ≤ V.length ∧ x ∉ vI (V.take i) ∧ Cx (fun _ => False) h h' [rVar EGr r u]) (fun i => V.length - i) 0 ⟨rfl, Nat.zero_le _, by simp, c⟩ ?_
  clear c
  rintro i v h2 ⟨rfl, hi, hno, c⟩ again hagain
  refine (c.va (i := 0) rfl).fld (j := 0) rfl ?_
  rw [(H.v.gr c.gr).ln, vb_some, bin_lss, vb_some]
  refine brd (fun h3 => ?_) fun h3 => ?_
  · have hx : V[i]? = some V[i] := List.getElem?_eq_getElem (by omega)
    refine (c.va (i := 0) rfl).fld (j := 0) rfl ?_
    refine (H.v.gr c.gr).fld rfl hx rfl (j := 0) rfl ?_
    rw [bin_eql, vb_some]
    refine brd (fun h4 => ?_) fun h4 => ?_
    · have := hR _ c.gr
      rw [decide_eq_true (List.mem_map.2 ⟨_, List.getElem_mem _, h4⟩)] at this
      exact this
    · rw [bin_add, vb_some, wrS (by omega)]
      refine hagain (i + 1) _ _ ⟨rfl, by omega, ?_, c⟩ (by omega)
      rw [vI_take hx]
      simp only [List.mem_append, List.mem_singleton, not_or]
      exact ⟨hno, fun e => h4 e.symm⟩
  · have := hR _ c.gr
    rw [List.take_of_length_le (by omega)] at hno
    rw [decide_eq_false hno] at this
    exact this
theorem K_rIs (H : RG h u V E) (hR : ∀ h', Gr h h' → R (.bool (decide (x ∈ eI E))) h') : F_simulcastref40_Is S I (vGr u) (.int .i64 x) h R := by
  have hN := H.le
  unfold F_simulcastref40_Is
  refine (Cx.start0 h).nw EGr u rfl fun r h1 c => ?_
  refine Lp1.by (fun (i : Nat) v h' => v = .int .i64 i ∧ i ≤ E.length ∧ x ∉ eI (E.take i) ∧ Cx (fun _ => False) h h' [rVar EGr r u]) (fun i => E.length - i) 0 ⟨rfl, Nat.zero_le _, by simp, c⟩ ?_
  clear c
  rintro i v h2 ⟨rfl, hi, hno, c⟩ again hagain
  refine (c.va (i := 0) rfl).fld (j := 1) rfl ?_
  rw [(H.e.gr c.gr).ln, vb_some, bin_lss, vb_some]
  refine brd (fun h3 => ?_) fun h3 => ?_
  · have hx : E[i]? = some E[i] := List.getElem?_eq_getElem (by omega)
    refine (c.va (i := 0) rfl).fld (j := 1) rfl ?_
    refine (H.e.gr c.gr).fld rfl hx rfl (j := 0) rfl ?_
    rw [bin_eql, vb_some]
    refine brd (fun h4 => ?_) fun h4 => ?_
    · have := hR _ c.gr
      rw [decide_eq_true (List.mem_map.2 ⟨_, List.getElem_mem _, h4⟩)] at this
      exact this
    · rw [bin_add, vb_some, wrS (by omega)]
      refine hagain (i + 1) _ _ ⟨rfl, by omega, ?_, c⟩ (by omega)
      rw [eI_take hx]
      simp only [List.mem_append, List.mem_singleton, not_or]
      exact ⟨hno, fun e => h4 e.symm⟩
  · have := hR _ c.gr
    rw [List.take_of_length_le (by omega)] at hno
    rw [decide_eq_false hno] at this
    exact this
theorem find_take {α : Type} {p : α → Bool} : ∀ {l : List α} {i : Nat} {y : α}, l[i]? = some y → (∀ z ∈ l.take i, p z = false) → p y = true → l.find? p = some y
  | [], i, y, h, _, _ => by simp at h
  | x :: l, 0, y, h, _, hy => by
    simp only [List.getElem?_cons_zero, Option.some.injEq] at h
    subst h
    rw [List.find?_cons, hy]
  | x :: l, i + 1, y, h, hn, hy => by
    have h1 : p x = false := hn x (by simp)
    rw [List.find?_cons, h1]
    exact find_take (by simpa using h) (fun z hz => hn z (by rw [List.take_succ_cons]; exact List.mem_cons_of_mem _ hz)) hy
theorem mem_take_snoc {α : Type} {l : List α} {i : Nat} {y z : α} (h : l[i]? = some y) (hz : z ∈ l.take (i + 1)) : z ∈ l.take i ∨ z = y := by
  rw [List.take_add_one, h, List.mem_append] at hz
  exact hz.imp_right fun h => by simpa using h
theorem K_rLabel (H : RG h u V E) (hR : ∀ h', Gr h h' → R (.int .i64 (rLab V x)) h') : F_simulcastref40_Label S I (vGr u) (.int .i64 x) h R := by
  have hN := H.lv
  unfold F_simulcastref40_Label
  unfold rLab at hR
  refine (Cx.start0 h).nw EGr u rfl fun r h1 c => ?_
  refine Lp1.by (fun (i : Nat) v h' => v = .int .i64 i ∧ i ≤ V.length ∧ (∀ z ∈ V.take i, decide (z.1 = x) = false) ∧ Cx (fun _ => False) h h' [rVar EGr r u]) (fun i => V.length - i) 0 ⟨rfl, Nat.zero_le _, by simp, c⟩ ?_
  clear c
  rintro i v h2 ⟨rfl, hi, hno, c⟩ again hagain
  refine (c.va (i := 0) rfl).fld (j := 0) rfl ?_
  rw [(H.v.gr c.gr).ln, vb_some, bin_lss, vb_some]
  refine brd (fun h3 => ?_) fun h3 => ?_
  · have hx : V[i]? = some V[i] := List.getElem?_eq_getElem (by omega)
    refine (c.va (i := 0) rfl).fld (j := 0) rfl ?_
    refine (H.v.gr c.gr).fld rfl hx rfl (j := 0) rfl ?_
    rw [bin_eql, vb_some]
    refine brd (fun h4 => ?_) fun h4 => ?_
    · refine (c.va (i := 0) rfl).fld (j := 0) rfl ?_
      refine (H.v.gr c.gr).fld rfl hx rfl (j := 1) rfl ?_
      have := hR _ c.gr
      rw [find_take hx hno (decide_eq_true h4)] at this
      exact this
    · rw [bin_add, vb_some, wrS (by omega)]
      refine hagain (i + 1) _ _ ⟨rfl, by omega, fun z hz => ?_, c⟩ (by omega)
      rcases mem_take_snoc hx hz with h | rfl
      · exact hno z h
      · exact decide_eq_false h4
  · have := hR _ c.gr
    rw [List.take_of_length_le (by omega)] at hno
    rw [List.find?_eq_none.2 (fun z hz => by rw [hno z hz]; simp)] at this
    exact this
theorem K_rWeight (H : RG h u V E) (hR : ∀ h', Gr h h' → R (uIB (rWei E a b)) h') : F_simulcastref40_Weight S I (vGr u) (.int .i64 a) (.int .i64 b) h R := by
  have hN := H.le
  unfold F_simulcastref40_Weight
  unfold rWei fE at hR
  refine (Cx.start0 h).nw EGr u rfl fun r h1 c => ?_
  refine Lp1.by (fun (i : Nat) v h' => v = .int .i64 i ∧ i ≤ E.length ∧ (∀ z ∈ E.take i, (decide (z.f = a) && decide (z.t = b)) = false) ∧ Cx (fun _ => False) h h' [rVar EGr r u]) (fun i => E.length - i) 0 ⟨rfl, Nat.zero_le _, by simp, c⟩ ?_
  clear c
  rintro i v h2 ⟨rfl, hi, hno, c⟩ again hagain
  refine (c.va (i := 0) rfl).fld (j := 1) rfl ?_
  rw [(H.e.gr c.gr).ln, vb_some, bin_lss, vb_some]
  refine brd (fun h3 => ?_) fun h3 => ?_
  · have hx : E[i]? = some E[i] := List.getElem?_eq_getElem (by omega)
    generalize E[i] = y at hx
    refine Jn1.at (fun v h' => v = .bool (decide (y.f = a) && decide (y.t = b)) ∧ h' = h2) ?_ ?_
    · refine (c.va (i := 0) rfl).fld (j := 1) rfl ?_
      refine (H.e.gr c.gr).fld rfl hx rfl (j := 1) rfl ?_
      rw [bin_eql, vb_some]
      refine brd (fun h4 => ?_) fun h4 => ?_
      · refine (c.va (i := 0) rfl).fld (j := 1) rfl ?_
        refine (H.e.gr c.gr).fld rfl hx rfl (j := 2) rfl ?_
        rw [bin_eql, vb_some, decide_eq_true h4, Bool.true_and]
        exact ⟨rfl, rfl⟩
      · rw [decide_eq_false h4, Bool.false_and]
        exact ⟨rfl, rfl⟩
    rintro v h4 ⟨rfl, rfl⟩
    cases hp : (decide (y.f = a) && decide (y.t = b)) with
    | true =>
      rw [br_true]
      refine (c.va (i := 0) rfl).fld (j := 1) rfl ?_
      refine (H.e.gr c.gr).fld rfl hx rfl (j := 3) rfl ?_
      have := hR _ c.gr
      rw [find_take hx hno hp] at this
      exact this
    | false =>
      rw [br_false, bin_add, vb_some, wrS (by omega)]
      refine hagain (i + 1) _ _ ⟨rfl, by omega, fun z hz => ?_, c⟩ (by omega)
      rcases mem_take_snoc hx hz with h | rfl
      · exact hno z h
      · exact hp
  · have := hR _ c.gr
    rw [List.take_of_length_le (by omega)] at hno
    rw [List.find?_eq_none.2 (fun z hz => by rw [hno z hz]; simp)] at this
    exact this
theorem bldV2 (a b : Int) : bldS [(0, 1), (1, 1)] #[Value.int IntKind.i64 0, Value.int IntKind.i64 0] [(0, .int .i64 a), (1, .int .i64 b)] = some (.agg ⟨E2I.c (a, b)⟩) := by kernel_rfl
theorem bldA2 (a b : Int) : bldA 1 #[Value.int IntKind.i64 0, Value.int IntKind.i64 0] [(0, .int .i64 a), (1, .int .i64 b)] = some (.agg ⟨E2I.c (a, b)⟩) := by kernel_rfl
theorem bldE4 (a b c d : Int) : bldS [(0, 1), (1, 1), (2, 1), (3, 1)] #[Value.int IntKind.i64 0, Value.int IntKind.i64 0, Value.int IntKind.i64 0, Value.int IntKind.i64 0] [(0, .int .i64 a), (1, .int .i64 b), (2, .int .i64 c), (3, .int .i64 d)] = some (.agg ⟨EEd.c ⟨a, b, c, d⟩⟩) := by kernel_rfl
theorem bldG2 (a b : SH) : bldS [(0, 1), (1, 1)] #[Value.slice none 0 0, Value.slice none 0 0] [(0, shV a), (1, shV b)] = some (vGr (a, b)) := by kernel_rfl
theorem bldG1 (a : SH) : bldS [(0, 1), (1, 1)] #[Value.slice none 0 0, Value.slice none 0 0] [(0, shV a)] = some (vGr (a, (none, 0, 0))) := by kernel_rfl
theorem K_rAdd (H : RG h u V E) (hR : ∀ w h', Cx (fun _ => False) h h' [rSl E2I (shV w) ((x, v) :: V)] → R (vGr (w, u.2)) h') : F_simulcastref40_Add S I (vGr u) (.int .i64 x) (.int .i64 v) h R := by
  have hN := H.lv
  unfold F_simulcastref40_Add
  refine (Cx.start0 h).nw EGr u rfl fun r h1 c => ?_
  refine c.nw EGr ((none, 0, 0), (none, 0, 0)) rfl fun r2 h2 c => ?_
  rw [bldV2, vb_some, show fa 0 (at0 r) = some (.pointer (some ⟨r, 0 + 0, none⟩)) from fa_add _ _ _, vb_some, show ldc (.pointer (some ⟨r, 0 + 0, none⟩)) h2 = some (shV u.1) from (c.va (i := 0) rfl).row.ldc (j := 0) rfl, vb_some]
  rw [show fa 1 (at0 r) = some (.pointer (some ⟨r, 0 + 1, none⟩)) from fa_add _ _ _, vb_some, show ldc (.pointer (some ⟨r, 0 + 1, none⟩)) h2 = some (shV u.2) from (c.va (i := 0) rfl).row.ldc (j := 1) rfl, vb_some]
  refine c.bsl1 E2I (x, v) rfl rfl fun w1 h3 c => ?_
  refine ⟨(c.va (i := 0) rfl).row.ldc (j := 1) rfl, (c.va (i := 0) rfl).row.ldc (j := 0) rfl, ?_⟩
  refine c.ap 2 rfl (H.v.gr c.gr) rfl rfl (by simp only [List.length_singleton]; omega) (by simp only [List.length_singleton]; omega) fun w2 h4 c => ?_
  refine ⟨(c.va (i := 0) rfl).row.ldc (j := 1) rfl, ?_⟩
  obtain ⟨u2, rfl⟩ := (c.sl (i := 2) rfl).isH
  rw [bldG2, vb_some]
  refine c.sto 1 rfl (u2, u.2) rfl rfl fun h5 c => ?_
  rw [show lda 2 (at0 r2) h5 = some (vGr (u2, u.2)) from (c.va (i := 1) rfl).whole rfl, vb_some]
  exact hR u2 _ (c.pick [2])
theorem K_rLink (H : RG h u V E) (hR : ∀ z h', Cx (fun _ => False) h h' [rSl EEd (shV z) (⟨x, a, b, w⟩ :: E)] → R (vGr (u.1, z)) h') : F_simulcastref40_Link S I (vGr u) (.int .i64 x) (.int .i64 a) (.int .i64 b) (.int .i64 w) h R := by
  have hN := H.le
  unfold F_simulcastref40_Link
  refine (Cx.start0 h).nw EGr u rfl fun r h1 c => ?_
  refine c.nw EGr ((none, 0, 0), (none, 0, 0)) rfl fun r2 h2 c => ?_
  rw [show fa 0 (at0 r) = some (.pointer (some ⟨r, 0 + 0, none⟩)) from fa_add _ _ _, vb_some, show ldc (.pointer (some ⟨r, 0 + 0, none⟩)) h2 = some (shV u.1) from (c.va (i := 0) rfl).row.ldc (j := 0) rfl, vb_some, bldE4, vb_some]
  rw [show fa 1 (at0 r) = some (.pointer (some ⟨r, 0 + 1, none⟩)) from fa_add _ _ _, vb_some, show ldc (.pointer (some ⟨r, 0 + 1, none⟩)) h2 = some (shV u.2) from (c.va (i := 0) rfl).row.ldc (j := 1) rfl, vb_some]
  refine c.bsl1 EEd ⟨x, a, b, w⟩ rfl rfl fun w1 h3 c => ?_
  refine ⟨(c.va (i := 0) rfl).row.ldc (j := 1) rfl, (c.va (i := 0) rfl).row.ldc (j := 0) rfl, ?_⟩
  refine c.ap 2 rfl (H.e.gr c.gr) rfl rfl (by simp only [List.length_singleton]; omega) (by simp only [List.length_singleton]; omega) fun w2 h4 c => ?_
  refine ⟨(c.va (i := 0) rfl).row.ldc (j := 0) rfl, ?_⟩
  obtain ⟨u2, rfl⟩ := (c.sl (i := 2) rfl).isH
  rw [bldG2, vb_some]
  refine c.sto 1 rfl (u.1, u2) rfl rfl fun h5 c => ?_
  rw [show lda 2 (at0 r2) h5 = some (vGr (u.1, u2)) from (c.va (i := 1) rfl).whole rfl, vb_some]
  exact hR u2 _ (c.pick [2])
theorem filter_take {α : Type} {p : α → Bool} {l : List α} {i : Nat} {y : α} (h : l[i]? = some y) : (l.take (i + 1)).filter p = (l.take i).filter p ++ if p y then [y] else [] := by
  rw [List.take_add_one, h, List.filter_append, Option.toList_some, List.filter_cons]
  cases p y <;> rfl
theorem filter_len {α : Type} {p : α → Bool} {l : List α} {i : Nat} : ((l.take i).filter p).length ≤ l.length :=
  Nat.le_trans (List.length_filter_le ..) (by rw [List.length_take]; omega)
theorem K_rCut (H : RG h u V E) (hR : ∀ z h', Cx (fun _ => False) h h' [rSl EEd (shV z) (rmE E x)] → R (vGr (u.1, z)) h') : F_simulcastref40_Cut S I (vGr u) (.int .i64 x) h R := by
  have hN := H.le
  unfold F_simulcastref40_Cut
  refine (Cx.start0 h).nw EGr u rfl fun r h1 c => ?_
  refine c.nw EGr ((none, 0, 0), (none, 0, 0)) rfl fun r2 h2 c => ?_
  refine (c.va (i := 0) rfl).fld (j := 0) rfl ?_
  rw [bldG1, vb_some]
  refine c.nw EGr ((none, 0, 0), (none, 0, 0)) rfl fun r3 h3 c => ?_
  refine c.sto 2 rfl (u.1, (none, 0, 0)) rfl rfl fun h4 c => ?_
  have c := c.nil EEd
  refine Lp1.by (fun (q : Nat × SH) v h' => v = .int .i64 q.1 ∧ q.1 ≤ E.length ∧ Cx (fun _ => False) h h' [rVar EGr r u, rVar EGr r2 ((none, 0, 0), (none, 0, 0)), rVar EGr r3 (u.1, q.2), rSl EEd (shV q.2) ((E.take q.1).filter fun e => decide (e.id ≠ x))]) (fun q => E.length - q.1) (0, (none, 0, 0)) ⟨rfl, Nat.zero_le _, c⟩ ?_
  clear c
  rintro ⟨i, z⟩ v h5 ⟨rfl, hi, c⟩ again hagain
  dsimp only at *
  refine (c.va (i := 0) rfl).fld (j := 1) rfl ?_
  rw [(H.e.gr c.gr).ln, vb_some, bin_lss, vb_some]
  refine brd (fun h6 => ?_) fun h6 => ?_
  · have hx : E[i]? = some E[i] := List.getElem?_eq_getElem (by omega)
    generalize E[i] = y at hx
    refine Jn0.at (fun h' => ∃ z, Cx (fun _ => False) h h' [rVar EGr r u, rVar EGr r2 ((none, 0, 0), (none, 0, 0)), rVar EGr r3 (u.1, z), rSl EEd (shV z) ((E.take (i + 1)).filter fun e => decide (e.id ≠ x))]) ?_ ?_
    · refine (c.va (i := 0) rfl).fld (j := 1) rfl ?_
      refine (H.e.gr c.gr).fld rfl hx rfl (j := 0) rfl ?_
      rw [bin_neq, vb_some, filter_take hx]
      refine brd (fun h7 => ?_) fun h7 => ?_
      · rw [if_pos (by rw [decide_eq_true h7])]
        rw [show fa 1 (at0 r3) = some (.pointer (some ⟨r3, 0 + 1, none⟩)) from fa_add _ _ _, vb_some, show ldc (.pointer (some ⟨r3, 0 + 1, none⟩)) h5 = some (shV z) from (c.va (i := 2) rfl).row.ldc (j := 1) rfl, vb_some]
        refine (c.va (i := 0) rfl).fld (j := 1) rfl ?_
        refine (H.e.gr c.gr).whole rfl hx rfl ?_
        have hl := filter_len (p := fun e : Ed => decide (e.id ≠ x)) (l := E) (i := i)
        refine c.bsl1 EEd y rfl rfl fun w1 h8 c => ?_
        refine ⟨(c.va (i := 2) rfl).row.ldc (j := 1) rfl, ?_⟩
        refine c.ap 3 rfl (c.sl (i := 4) rfl).sl rfl rfl (by simp only [List.length_singleton]; omega) (by simp only [List.length_singleton]; omega) fun w2 h9 c => ?_
        obtain ⟨z2, rfl⟩ := (c.sl (i := 3) rfl).isH
        refine c.stof 2 rfl (j := 1) (u.1, z2) rfl (by decide) rfl fun h10 c => ?_
        exact ⟨z2, c.pick [0, 1, 2, 3]⟩
      · rw [if_neg (by rw [decide_eq_false h7]; simp), List.append_nil]
        exact ⟨z, c⟩
    · clear c
      rintro h7 ⟨z, c⟩
      rw [bin_add, vb_some, wrS (by omega)]
      exact hagain (i + 1, z) _ _ ⟨rfl, by dsimp only; omega, c⟩ (by dsimp only; omega)
  · rw [List.take_of_length_le (by omega)] at c
    rw [show lda 2 (at0 r3) h5 = some (vGr (u.1, z)) from (c.va (i := 2) rfl).whole rfl, vb_some]
    refine c.sto 1 rfl (u.1, z) rfl rfl fun h10 c => ?_
    rw [show lda 2 (at0 r2) h10 = some (vGr (u.1, z)) from (c.va (i := 1) rfl).whole rfl, vb_some]
    exact hR z _ (c.pick [3])
theorem K_rDrop (H : RG h u V E) (hR : ∀ y z h', Cx (fun _ => False) h h' [rSl E2I (shV y) (rmV V x), rSl EEd (shV z) (rmG E x)] → R (vGr (y, z)) h') : F_simulcastref40_Drop S I (vGr u) (.int .i64 x) h R := by
  have hN := H.le; have hM := H.lv
  unfold F_simulcastref40_Drop
  refine (Cx.start0 h).nw EGr u rfl fun r h1 c => ?_
  refine c.nw EGr ((none, 0, 0), (none, 0, 0)) rfl fun r2 h2 c => ?_
  refine c.nw EGr ((none, 0, 0), (none, 0, 0)) rfl fun r3 h3 c => ?_
  have c := c.nil E2I
  refine Lp1.by (fun (q : Nat × SH) v h' => v = .int .i64 q.1 ∧ q.1 ≤ V.length ∧ Cx (fun _ => False) h h' [rVar EGr r u, rVar EGr r2 ((none, 0, 0), (none, 0, 0)), rVar EGr r3 (q.2, (none, 0, 0)), rSl E2I (shV q.2) ((V.take q.1).filter fun y => decide (y.1 ≠ x))]) (fun q => V.length - q.1) (0, (none, 0, 0)) ⟨rfl, Nat.zero_le _, c⟩ ?_
  clear c
  rintro ⟨i, y⟩ v h5 ⟨rfl, hi, c⟩ again hagain
  dsimp only at *
  refine (c.va (i := 0) rfl).fld (j := 0) rfl ?_
  rw [(H.v.gr c.gr).ln, vb_some, bin_lss, vb_some]
  refine brd (fun h6 => ?_) fun h6 => ?_
  · have hx : V[i]? = some V[i] := List.getElem?_eq_getElem (by omega)
    generalize V[i] = e at hx
    refine Jn0.at (fun h' => ∃ z, Cx (fun _ => False) h h' [rVar EGr r u, rVar EGr r2 ((none, 0, 0), (none, 0, 0)), rVar EGr r3 (z, (none, 0, 0)), rSl E2I (shV z) ((V.take (i + 1)).filter fun y => decide (y.1 ≠ x))]) ?_ ?_
    · refine (c.va (i := 0) rfl).fld (j := 0) rfl ?_
      refine (H.v.gr c.gr).fld rfl hx rfl (j := 0) rfl ?_
      rw [bin_neq, vb_some, filter_take hx]
      refine brd (fun h7 => ?_) fun h7 => ?_
      · rw [if_pos (by rw [decide_eq_true h7])]
        rw [show fa 0 (at0 r3) = some (.pointer (some ⟨r3, 0 + 0, none⟩)) from fa_add _ _ _, vb_some, show ldc (.pointer (some ⟨r3, 0 + 0, none⟩)) h5 = some (shV y) from (c.va (i := 2) rfl).row.ldc (j := 0) rfl, vb_some]
        refine (c.va (i := 0) rfl).fld (j := 0) rfl ?_
        refine (H.v.gr c.gr).whole rfl hx rfl ?_
        have hl := filter_len (p := fun y : Int × Int => decide (y.1 ≠ x)) (l := V) (i := i)
        refine c.bsl1 E2I e rfl rfl fun w1 h8 c => ?_
        refine ⟨(c.va (i := 2) rfl).row.ldc (j := 0) rfl, ?_⟩
        refine c.ap 3 rfl (c.sl (i := 4) rfl).sl rfl rfl (by simp only [List.length_singleton]; omega) (by simp only [List.length_singleton]; omega) fun w2 h9 c => ?_
        obtain ⟨z2, rfl⟩ := (c.sl (i := 3) rfl).isH
        refine c.stof 2 rfl (j := 0) (z2, (none, 0, 0)) rfl (by decide) rfl fun h10 c => ?_
        exact ⟨z2, c.pick [0, 1, 2, 3]⟩
      · rw [if_neg (by rw [decide_eq_false h7]; simp), List.append_nil]
        exact ⟨y, c⟩
    · clear c
      rintro h7 ⟨z, c⟩
      rw [bin_add, vb_some, wrS (by omega)]
      exact hagain (i + 1, z) _ _ ⟨rfl, by dsimp only; omega, c⟩ (by dsimp only; omega)
  · rw [List.take_of_length_le (by omega)] at c
    clear hagain again
    have c := c.nil EEd
    refine Lp1.by (fun (q : Nat × SH) v h' => v = .int .i64 q.1 ∧ q.1 ≤ E.length ∧ Cx (fun _ => False) h h' [rVar EGr r u, rVar EGr r2 ((none, 0, 0), (none, 0, 0)), rVar EGr r3 (y, q.2), rSl E2I (shV y) (rmV V x), rSl EEd (shV q.2) ((E.take q.1).filter fun e => decide (e.f ≠ x) && decide (e.t ≠ x))]) (fun q => E.length - q.1) (0, (none, 0, 0)) ⟨rfl, Nat.zero_le _, c⟩ ?_
    clear c
    rintro ⟨i, z⟩ v h5 ⟨rfl, hi, c⟩ again hagain
    dsimp only at *
    refine (c.va (i := 0) rfl).fld (j := 1) rfl ?_
    rw [(H.e.gr c.gr).ln, vb_some, bin_lss, vb_some]
    refine brd (fun h6 => ?_) fun h6 => ?_
    · have hx : E[i]? = some E[i] := List.getElem?_eq_getElem (by omega)
      generalize E[i] = e at hx
      refine Jn0.at (fun h' => ∃ z, Cx (fun _ => False) h h' [rVar EGr r u, rVar EGr r2 ((none, 0, 0), (none, 0, 0)), rVar EGr r3 (y, z), rSl E2I (shV y) (rmV V x), rSl EEd (shV z) ((E.take (i + 1)).filter fun e => decide (e.f ≠ x) && decide (e.t ≠ x))]) ?_ ?_
      · refine Jn1.at (fun v h' => v = .bool (decide (e.f ≠ x) && decide (e.t ≠ x)) ∧ h' = h5) ?_ ?_
        · refine (c.va (i := 0) rfl).fld (j := 1) rfl ?_
          refine (H.e.gr c.gr).fld rfl hx rfl (j := 1) rfl ?_
          rw [bin_neq, vb_some]
          refine brd (fun h4 => ?_) fun h4 => ?_
          · refine (c.va (i := 0) rfl).fld (j := 1) rfl ?_
            refine (H.e.gr c.gr).fld rfl hx rfl (j := 2) rfl ?_
            rw [bin_neq, vb_some, decide_eq_true h4, Bool.true_and]
            exact ⟨rfl, rfl⟩
          · rw [decide_eq_false h4, Bool.false_and]
            exact ⟨rfl, rfl⟩
        rintro v h4 ⟨rfl, rfl⟩
        rw [filter_take hx]
        cases hp : (decide (e.f ≠ x) && decide (e.t ≠ x)) with
        | true =>
          rw [br_true, if_pos rfl]
          rw [show fa 1 (at0 r3) = some (.pointer (some ⟨r3, 0 + 1, none⟩)) from fa_add _ _ _, vb_some, show ldc (.pointer (some ⟨r3, 0 + 1, none⟩)) h4 = some (shV z) from (c.va (i := 2) rfl).row.ldc (j := 1) rfl, vb_some]
          refine (c.va (i := 0) rfl).fld (j := 1) rfl ?_
          refine (H.e.gr c.gr).whole rfl hx rfl ?_
          have hl := filter_len (p := fun e : Ed => decide (e.f ≠ x) && decide (e.t ≠ x)) (l := E) (i := i)
          refine c.bsl1 EEd e rfl rfl fun w1 h8 c => ?_
          refine ⟨(c.va (i := 2) rfl).row.ldc (j := 1) rfl, ?_⟩
          refine c.ap 4 rfl (c.sl (i := 5) rfl).sl rfl rfl (by simp only [List.length_singleton]; omega) (by simp only [List.length_singleton]; omega) fun w2 h9 c => ?_
          obtain ⟨z2, rfl⟩ := (c.sl (i := 4) rfl).isH
          refine c.stof 2 rfl (j := 1) (y, z2) rfl (by decide) rfl fun h10 c => ?_
          exact ⟨z2, c.pick [0, 1, 2, 3, 4]⟩
        | false =>
          rw [br_false, if_neg (by simp), List.append_nil]
          exact ⟨z, c⟩
      · clear c
        rintro h7 ⟨z, c⟩
        rw [bin_add, vb_some, wrS (by omega)]
        exact hagain (i + 1, z) _ _ ⟨rfl, by dsimp only; omega, c⟩ (by dsimp only; omega)
    · rw [List.take_of_length_le (by omega)] at c
      rw [show lda 2 (at0 r3) h5 = some (vGr (y, z)) from (c.va (i := 2) rfl).whole rfl, vb_some]
      refine c.sto 1 rfl (y, z) rfl rfl fun h10 c => ?_
      rw [show lda 2 (at0 r2) h10 = some (vGr (y, z)) from (c.va (i := 1) rfl).whole rfl, vb_some]
      exact hR y z _ (c.pick [3, 4])
theorem K_rOut (H : RG h u V E) (hR : ∀ w h', Cx (fun _ => False) h h' [rSl E2I w (oP E x)] → R w h') : F_simulcastref40_Out S I (vGr u) (.int .i64 x) h R := by
  have hN := H.le
  unfold F_simulcastref40_Out
  refine (Cx.start0 h).nw EGr u rfl fun r h1 c => ?_
  have c := c.nil E2I
  refine Lp2.by (fun (i : Nat) w v h' => v = .int .i64 i ∧ i ≤ E.length ∧ Cx (fun _ => False) h h' [rVar EGr r u, rSl E2I w (((E.take i).filter fun e => decide (e.f = x)).map fun e => (e.t, e.w))]) (fun i => E.length - i) 0 ⟨rfl, Nat.zero_le _, c⟩ ?_
  clear c
  rintro i w v h5 ⟨rfl, hi, c⟩ again hagain
  refine (c.va (i := 0) rfl).fld (j := 1) rfl ?_
  rw [(H.e.gr c.gr).ln, vb_some, bin_lss, vb_some]
  refine brd (fun h6 => ?_) fun h6 => ?_
  · have hx : E[i]? = some E[i] := List.getElem?_eq_getElem (by omega)
    generalize E[i] = y at hx
    refine Jn1.at (fun w h' => Cx (fun _ => False) h h' [rVar EGr r u, rSl E2I w (((E.take (i + 1)).filter fun e => decide (e.f = x)).map fun e => (e.t, e.w))]) ?_ ?_
    · refine (c.va (i := 0) rfl).fld (j := 1) rfl ?_
      refine (H.e.gr c.gr).fld rfl hx rfl (j := 1) rfl ?_
      rw [bin_eql, vb_some, filter_take hx]
      refine brd (fun h7 => ?_) fun h7 => ?_
      · rw [if_pos (by rw [decide_eq_true h7]), List.map_append]
        refine (c.va (i := 0) rfl).fld (j := 1) rfl ?_
        refine (H.e.gr c.gr).fld rfl hx rfl (j := 2) rfl ?_
        refine (c.va (i := 0) rfl).fld (j := 1) rfl ?_
        refine (H.e.gr c.gr).fld rfl hx rfl (j := 3) rfl ?_
        rw [bldA2, vb_some]
        have hl := filter_len (p := fun e : Ed => decide (e.f = x)) (l := E) (i := i)
        exact c.app1 1 rfl (y.t, y.w) rfl rfl rfl (by rw [List.length_map]; omega) (by rw [List.length_map]; omega) fun w2 h9 c => c
      · rw [if_neg (by rw [decide_eq_false h7]; simp), List.append_nil]
        exact c
    · clear c
      intro w h7 c
      rw [bin_add, vb_some, wrS (by omega)]
      exact hagain (i + 1) _ _ _ ⟨rfl, by omega, c⟩ (by omega)
  · rw [List.take_of_length_le (by omega)] at c
    exact hR w _ (c.pick [1])
theorem K_rIn (H : RG h u V E) (hR : ∀ w h', Cx (fun _ => False) h h' [rSl E2I w (iP E x)] → R w h') : F_simulcastref40_In S I (vGr u) (.int .i64 x) h R := by
  have hN := H.le
  unfold F_simulcastref40_In
  refine (Cx.start0 h).nw EGr u rfl fun r h1 c => ?_
  have c := c.nil E2I
  refine Lp2.by (fun (i : Nat) w v h' => v = .int .i64 i ∧ i ≤ E.length ∧ Cx (fun _ => False) h h' [rVar EGr r u, rSl E2I w (((E.take i).filter fun e => decide (e.t = x)).map fun e => (e.f, e.w))]) (fun i => E.length - i) 0 ⟨rfl, Nat.zero_le _, c⟩ ?_
  clear c
  rintro i w v h5 ⟨rfl, hi, c⟩ again hagain
  refine (c.va (i := 0) rfl).fld (j := 1) rfl ?_
  rw [(H.e.gr c.gr).ln, vb_some, bin_lss, vb_some]
  refine brd (fun h6 => ?_) fun h6 => ?_
  · have hx : E[i]? = some E[i] := List.getElem?_eq_getElem (by omega)
    generalize E[i] = y at hx
    refine Jn1.at (fun w h' => Cx (fun _ => False) h h' [rVar EGr r u, rSl E2I w (((E.take (i + 1)).filter fun e => decide (e.t = x)).map fun e => (e.f, e.w))]) ?_ ?_
    · refine (c.va (i := 0) rfl).fld (j := 1) rfl ?_
      refine (H.e.gr c.gr).fld rfl hx rfl (j := 2) rfl ?_
      rw [bin_eql, vb_some, filter_take hx]
      refine brd (fun h7 => ?_) fun h7 => ?_
      · rw [if_pos (by rw [decide_eq_true h7]), List.map_append]
        refine (c.va (i := 0) rfl).fld (j := 1) rfl ?_
        refine (H.e.gr c.gr).fld rfl hx rfl (j := 1) rfl ?_
        refine (c.va (i := 0) rfl).fld (j := 1) rfl ?_
        refine (H.e.gr c.gr).fld rfl hx rfl (j := 3) rfl ?_
        rw [bldA2, vb_some]
        have hl := filter_len (p := fun e : Ed => decide (e.t = x)) (l := E) (i := i)
        exact c.app1 1 rfl (y.f, y.w) rfl rfl rfl (by rw [List.length_map]; omega) (by rw [List.length_map]; omega) fun w2 h9 c => c
      · rw [if_neg (by rw [decide_eq_false h7]; simp), List.append_nil]
        exact c
    · clear c
      intro w h7 c
      rw [bin_add, vb_some, wrS (by omega)]
      exact hagain (i + 1) _ _ _ ⟨rfl, by omega, c⟩ (by omega)
  · rw [List.take_of_length_le (by omega)] at c
    exact hR w _ (c.pick [1])
theorem eqA2 (x : Int × Int) : eqA [true, true] (.agg (E2I.c x).toArray) (.agg (E2I.c x).toArray) = some true := by
  show ((some (x.1 == x.1)).bind fun a => ((some (x.2 == x.2)).bind fun a => (some true).bind fun q => some (a && q)).bind fun q => some (a && q)) = _
  simp
theorem K_rSame {v1 v2 : Value} {l : List (Int × Int)} (hN : l.length ≤ 100000) (h1 : Sl E2I h v1 l) (h2 : Sl E2I h v2 l) (hR : R (.bool true) h) : F_simulcastref40_Same S I v1 v2 h R := by
  unfold F_simulcastref40_Same
  rw [h1.ln, vb_some, h2.ln, vb_some, neI, vb_some, br_false]
  refine Lp1.by (fun (i : Nat) u h' => u = .int .i64 i ∧ i ≤ l.length ∧ h' = h) (fun i => l.length - i) 0 ⟨rfl, Nat.zero_le _, rfl⟩ ?_
  rintro i u h3 ⟨rfl, hi, rfl⟩ again hagain
  rw [vb_some, bin_lss, vb_some]
  refine brd (fun h4 => ?_) fun h4 => hR
  have hx : l[i]? = some l[i] := List.getElem?_eq_getElem (by omega)
  refine h1.whole rfl hx rfl (h2.whole rfl hx rfl ?_)
  rw [eqA2, show neg? (some true) = some (.bool false) from rfl, vb_some, br_false, bin_add, vb_some, wrS (by omega)]
  exact hagain (i + 1) _ _ ⟨rfl, by omega, rfl⟩ (by omega)
end
end Go.En
namespace Go.En
open Prog Spc Go.Sort

variable {S : Sys} {I : Ids} {h h0 h' : Hp} {F F0 : Fp} {R : Value → Hp → Prop} {L : List Res} {s : Value} {σ τ : Spc}

/-- a call of layer 40 -/
structure C40 where
  d : Int
  a : Int
  b : Int
  n : Int
def ECl : Enc C40 := { n := 4, c := fun x => [.int .u8 x.d, .int .i16 x.a, .int .i16 x.b, .int .i64 x.n], len := fun _ => rfl, one := fun a v h => by simp only [List.mem_cons, List.not_mem_nil, or_false] at h; rcases h with rfl | rfl | rfl | rfl <;> rfl }
def vCl (x : C40) : Value := .agg ⟨ECl.c x⟩
abbrev R16 (x : Int) : Prop := -32768 ≤ x ∧ x ≤ 32767
structure C40.ok (x : C40) : Prop where
  d : 0 ≤ x.d ∧ x.d ≤ 255
  a : R16 x.a
  b : R16 x.b
  n : R64 x.n
def hdl (l : List Int) (n : Int) : Int := if n < 0 ∨ l.length = 0 then n else l[n.toNat % l.length]?.getD 0
theorem hdl_R {l : List Int} {n : Int} (h : ∀ x ∈ l, R64 x) (hn : R16 n) : R64 (hdl l n) := by
  unfold hdl
  split
  · exact ⟨by omega, by omega⟩
  · rename_i hc
    have h1 : l.length ≠ 0 := fun e => hc (.inr e)
    have h2 : n.toNat % l.length < l.length := Nat.mod_lt _ (by omega)
    rw [List.getElem?_eq_getElem h2]
    exact h _ (List.getElem_mem _)
section
variable {n a b x v w : Int} {u : SH × SH} {V : List (Int × Int)} {E : List Ed} {k : Nat}
theorem K_handle {va : Value} {l : List Int} (hs : Sl EI1 h va l) (hl : l.length ≤ 100000) (hn : R16 n) (hR : R (.int .i64 (hdl l n)) h) : F_simulcastlaw40_handle S I va (.int .i16 n) h R := by
  unfold F_simulcastlaw40_handle
  refine Jn1.at (fun v h' => v = .bool (decide (n < 0 ∨ l.length = 0)) ∧ h' = h) ?_ ?_
  · rw [bin_lss, vb_some]
    refine brd (fun h1 => ?_) fun h1 => ?_
    · exact ⟨by rw [decide_eq_true (.inl h1)], rfl⟩
    · rw [hs.ln, vb_some, bin_eql, vb_some]
      refine ⟨?_, rfl⟩
      congr 1
      exact decide_eq_decide.2 ⟨fun e => .inr (by omega), fun e => by omega⟩
  rintro v h1 ⟨rfl, rfl⟩
  unfold hdl at hR
  have ec : cvi .i64 (.int .i16 n) = some (.int .i64 n) := by rw [cvi_int, wr64 ⟨by omega, by omega⟩]
  refine brd (fun h2 => ?_) fun h2 => ?_
  · rw [ec, vb_some]
    rw [if_pos h2] at hR
    exact hR
  · rw [if_neg h2] at hR
    have hl0 : l.length ≠ 0 := fun e => h2 (.inr e)
    have hlt : n.toNat % l.length < l.length := Nat.mod_lt _ (by omega)
    rw [ec, vb_some, hs.ln, vb_some, bin_rem (by omega), vb_some]
    have hx : l[n.toNat % l.length]? = some l[n.toNat % l.length] := List.getElem?_eq_getElem hlt
    have ez : n.tmod l.length = ((n.toNat % l.length : Nat) : Int) := by
      rw [Int.tmod_eq_emod_of_nonneg (by omega), Int.natCast_emod, Int.toNat_of_nonneg (by omega)]
    refine hs.one rfl hx ez rfl ?_
    rw [hx] at hR
    exact hR
theorem K_made (hn : 0 ≤ n ∧ n ≤ 100) (hR : ∀ h', Gr h h' → R (.tuple #[vG (p40 n) 8, .int .i64 (24 + 8 * n)]) h') : F_simulcastlaw40_made S I (.int .i64 n) h R := by
  unfold F_simulcastlaw40_made
  refine (Cx.start0 h).nw EG (⟨0, 0, 0⟩, 0) rfl fun r h1 c => ?_
  refine En.vb (v := vP (p40 n)) (by kernel_rfl) ?_
  refine En.vb (v := vG (p40 n) 8) (by kernel_rfl) ?_
  refine En.vb (v := .int .i64 (8 * n)) (by rw [bin_mul, wr64 (by omega)]) ?_
  refine En.vb (v := .int .i64 (24 + 8 * n)) (by rw [bin_add, wr64 (by omega)]) ?_
  refine c.sto 0 rfl (p40 n, 8) rfl rfl fun h2 c => ?_
  rw [gW (i := 0) c rfl, vb_some]
  exact hR _ c.gr
theorem bldWz : bldS [(0, 1), (1, 1), (2, 1)] #[Value.int IntKind.i64 0, Value.int IntKind.u32 0, Value.int IntKind.u32 0] [] = some (mW W0) := by kernel_rfl
theorem K_empty40 {N : Nat} (cs : CsD S I) (hN : N ≤ 5000) (hR : ∀ s h', Cx (fun _ => False) h h' [rSpace s (newS (knF (fun _ => W0) N))] → R s h') : F_simulcastlaw40_empty S I (.int .i64 N) h R := by
  unfold F_simulcastlaw40_empty
  refine (Cx.start0 h).mmk .i64 mW fun km h1 c => ?_
  refine Lp1.by (fun (j : Nat) v h' => v = .int .i64 j ∧ j ≤ N ∧ Cx (fun _ => False) h h' [rMp .i64 mW (.map (some km)) (knF (fun _ => W0) j)]) (fun j => N - j) 0 ⟨rfl, Nat.zero_le _, c⟩ ?_
  clear c
  rintro j v h4 ⟨rfl, hj, c⟩ again hagain
  rw [bin_lss, vb_some]
  refine brd (fun h5 => ?_) fun h5 => ?_
  · rw [bldWz, vb_some]
    refine c.mup 0 rfl (j : Int) W0 rfl fun h6 c => ?_
    have c : Cx (fun _ => False) h h6 [rMp .i64 mW (.map (some km)) (updA (knF (fun _ => W0) j) (j : Int) ((fun _ => W0) j))] := c
    rw [knF_upd] at c
    rw [bin_add, vb_some, wrS (by omega)]
    exact hagain (j + 1) _ _ ⟨rfl, by omega, c⟩ (by omega)
  · have ej : j = N := by omega
    subst ej
    refine c.cNew cs 0 rfl (knF_nodup _ _) (knF_val fun _ _ => ⟨by decide, by decide⟩) fun s h6 c => ?_
    exact hR s _ (c.pick [1])
end
structure CsK5 (S : Sys) (I : Ids) : Prop extends CsK4 S I where
  gdrop : ∀ {p : Pl} {root n : Int} {s}, 0 ≤ root ∧ root ≤ 4000 → 0 ≤ p.nodes ∧ p.nodes ≤ 1000 → R64 n → Does S I.f_graph_Graph_Drop [vG p root, s, .int .i64 n] s (gDrop p root n) uE
  gwei : ∀ {p : Pl} {root a b : Int} {s}, 0 ≤ root ∧ root ≤ 4000 → 0 ≤ p.nodes ∧ p.nodes ≤ 1000 → R64 a → R64 b → Does S I.f_graph_Graph_Weight [vG p root, s, .int .i64 a, .int .i64 b] s (gWei p root a b) uIB
  glab : ∀ {p : Pl} {root n : Int} {s}, 0 ≤ root ∧ root ≤ 4000 → R64 n → Does S I.f_graph_Graph_Label [vG p root, s, .int .i64 n] s (gLab p root n) uE
  gedges : ∀ {p : Pl} {root : Int} {s}, 0 ≤ root ∧ root ≤ 4000 → Does S I.f_graph_Graph_Edges [vG p root, s] s (gt (root + 2)) uI
  gout : ∀ {p : Pl} {root n : Int} {s h0 F σ} {R : Value → Hp → Prop} {Q : ListQ → Spc → Prop}, 0 ≤ root ∧ root ≤ 4000 → R64 n → 0 ≤ p.nodes ∧ p.nodes ≤ 1000 → Cx F h0 h0 [rSpace s σ] → wp (gOut p root n) σ Q →
    (∀ (r : ListQ) σ' v h' M, Cx F h0 h' (rSpace s σ' :: rSl E2I v (r.1.getD []) :: M) → Q r σ' → R (.tuple #[v, .int .i64 r.2]) h') → S.C I.f_graph_Graph_Out [vG p root, s, .int .i64 n] h0 R
  gin : ∀ {p : Pl} {root n : Int} {s h0 F σ} {R : Value → Hp → Prop} {Q : ListQ → Spc → Prop}, 0 ≤ root ∧ root ≤ 4000 → R64 n → 0 ≤ p.nodes ∧ p.nodes ≤ 1000 → Cx F h0 h0 [rSpace s σ] → wp (gIn p root n) σ Q →
    (∀ (r : ListQ) σ' v h' M, Cx F h0 h' (rSpace s σ' :: rSl E2I v (r.1.getD []) :: M) → Q r σ' → R (.tuple #[v, .int .i64 r.2]) h') → S.C I.f_graph_Graph_In [vG p root, s, .int .i64 n] h0 R
  rhas : ∀ {u V E x h R}, RG h u V E → (∀ h', Gr h h' → R (.bool (decide (x ∈ vI V))) h') → S.C I.f_simulcastref40_Has [vGr u, .int .i64 x] h R
  ris : ∀ {u V E x h R}, RG h u V E → (∀ h', Gr h h' → R (.bool (decide (x ∈ eI E))) h') → S.C I.f_simulcastref40_Is [vGr u, .int .i64 x] h R
  rlab : ∀ {u V E x h R}, RG h u V E → (∀ h', Gr h h' → R (.int .i64 (rLab V x)) h') → S.C I.f_simulcastref40_Label [vGr u, .int .i64 x] h R
  rwei : ∀ {u V E a b h R}, RG h u V E → (∀ h', Gr h h' → R (uIB (rWei E a b)) h') → S.C I.f_simulcastref40_Weight [vGr u, .int .i64 a, .int .i64 b] h R
  radd : ∀ {u V E x v h R}, RG h u V E → (∀ w h', Cx (fun _ => False) h h' [rSl E2I (shV w) ((x, v) :: V)] → R (vGr (w, u.2)) h') → S.C I.f_simulcastref40_Add [vGr u, .int .i64 x, .int .i64 v] h R
  rlink : ∀ {u V E x a b w h R}, RG h u V E → (∀ z h', Cx (fun _ => False) h h' [rSl EEd (shV z) (⟨x, a, b, w⟩ :: E)] → R (vGr (u.1, z)) h') → S.C I.f_simulcastref40_Link [vGr u, .int .i64 x, .int .i64 a, .int .i64 b, .int .i64 w] h R
  rcut : ∀ {u V E x h R}, RG h u V E → (∀ z h', Cx (fun _ => False) h h' [rSl EEd (shV z) (rmE E x)] → R (vGr (u.1, z)) h') → S.C I.f_simulcastref40_Cut [vGr u, .int .i64 x] h R
  rdrop : ∀ {u V E x h R}, RG h u V E → (∀ y z h', Cx (fun _ => False) h h' [rSl E2I (shV y) (rmV V x), rSl EEd (shV z) (rmG E x)] → R (vGr (y, z)) h') → S.C I.f_simulcastref40_Drop [vGr u, .int .i64 x] h R
  rout : ∀ {u V E x h R}, RG h u V E → (∀ w h', Cx (fun _ => False) h h' [rSl E2I w (oP E x)] → R w h') → S.C I.f_simulcastref40_Out [vGr u, .int .i64 x] h R
  rin : ∀ {u V E x h R}, RG h u V E → (∀ w h', Cx (fun _ => False) h h' [rSl E2I w (iP E x)] → R w h') → S.C I.f_simulcastref40_In [vGr u, .int .i64 x] h R
  rsame : ∀ {v1 v2 l h R}, l.length ≤ 100000 → Sl E2I h v1 l → Sl E2I h v2 l → R (.bool true) h → S.C I.f_simulcastref40_Same [v1, v2] h R
  hdl40 : ∀ {va l n h R}, Sl EI1 h va l → l.length ≤ 100000 → R16 n → R (.int .i64 (hdl l n)) h → S.C I.f_simulcastlaw40_handle [va, .int .i16 n] h R
  made40 : ∀ {n h R}, 0 ≤ n ∧ n ≤ 100 → (∀ h', Gr h h' → R (.tuple #[vG (p40 n) 8, .int .i64 (24 + 8 * n)]) h') → S.C I.f_simulcastlaw40_made [.int .i64 n] h R
  empty40 : ∀ {N : Nat} {h R}, N ≤ 5000 → (∀ s h', Cx (fun _ => False) h h' [rSpace s (newS (knF (fun _ => W0) N))] → R s h') → S.C I.f_simulcastlaw40_empty [.int .i64 N] h R
section
variable {p : Pl} {root n : Int}
theorem Cx.gout {Q : ListQ → Spc → Prop} (cs : CsK5 S I) (c : Cx F0 h0 h L) (i : Nat) (hi : L[i]? = some (rSpace s σ)) (hr : 0 ≤ root ∧ root ≤ 4000) (hn : R64 n) (hp0 : 0 ≤ p.nodes ∧ p.nodes ≤ 1000) (hp : wp (gOut p root n) σ Q)
    (k : ∀ (r : ListQ) σ' v h', Cx F0 h0 h' (L.set i (rSpace s σ') ++ [rSl E2I v (r.1.getD [])]) → Q r σ' → R (.tuple #[v, .int .i64 r.2]) h') : S.C I.f_graph_Graph_Out [vG p root, s, .int .i64 n] h R := by
  obtain ⟨F1, c1, up⟩ := c.frame hi
  refine cs.gout hr hn hp0 c1 hp fun r σ' v h' M c2 hq => k r σ' v h' ?_ hq
  have c3 : Cx F0 h0 h' (L.set i (rSpace s σ') ++ ([rSl E2I v (r.1.getD [])] ++ M)) := up c2
  rw [← List.append_assoc] at c3
  exact c3.drop
theorem Cx.gin {Q : ListQ → Spc → Prop} (cs : CsK5 S I) (c : Cx F0 h0 h L) (i : Nat) (hi : L[i]? = some (rSpace s σ)) (hr : 0 ≤ root ∧ root ≤ 4000) (hn : R64 n) (hp0 : 0 ≤ p.nodes ∧ p.nodes ≤ 1000) (hp : wp (gIn p root n) σ Q)
    (k : ∀ (r : ListQ) σ' v h', Cx F0 h0 h' (L.set i (rSpace s σ') ++ [rSl E2I v (r.1.getD [])]) → Q r σ' → R (.tuple #[v, .int .i64 r.2]) h') : S.C I.f_graph_Graph_In [vG p root, s, .int .i64 n] h R := by
  obtain ⟨F1, c1, up⟩ := c.frame hi
  refine cs.gin hr hn hp0 c1 hp fun r σ' v h' M c2 hq => k r σ' v h' ?_ hq
  have c3 : Cx F0 h0 h' (L.set i (rSpace s σ') ++ ([rSl E2I v (r.1.getD [])] ++ M)) := up c2
  rw [← List.append_assoc] at c3
  exact c3.drop
theorem Cx.gver {Q : Option (List Int) → Spc → Prop} (cs : CsK5 S I) (c : Cx F0 h0 h L) (i : Nat) (hi : L[i]? = some (rSpace s σ)) (hr : 0 ≤ root ∧ root ≤ 4000) (hp0 : 0 ≤ p.nodes ∧ p.nodes ≤ 1000) (hp : wp (gVer p root) σ Q)
    (k : ∀ (r : Option (List Int)) σ' v h', Cx F0 h0 h' (L.set i (rSpace s σ') ++ [rSl EI1 v (r.getD [])]) → Q r σ' → R (.tuple #[v, .int .i64 (if r.isSome then 0 else 24)]) h') : S.C I.f_graph_Graph_Vertices [vG p root, s] h R := by
  obtain ⟨F1, c1, up⟩ := c.frame hi
  refine cs.verts hr hp0 c1 hp fun r σ' v h' M c2 hq => k r σ' v h' ?_ hq
  have c3 : Cx F0 h0 h' (L.set i (rSpace s σ') ++ ([rSl EI1 v (r.getD [])] ++ M)) := up c2
  rw [← List.append_assoc] at c3
  exact c3.drop
end
end Go.En
namespace Go.En
open Prog Spc Go.Sort

variable {S : Sys} {I : Ids} {h h0 h' : Hp} {F F0 : Fp} {R : Value → Hp → Prop} {L : List Res} {s : Value} {σ τ : Spc}
section
variable {n : Int} {u : SH × SH} {V : List (Int × Int)} {E : List Ed} {cnt : Nat} {x : C40} {all : List Int} {va : Value}
theorem Cx.rG {i j : Nat} (c : Cx F0 h0 h L) (hi : L[i]? = some (rSl E2I (shV u.1) V)) (hj : L[j]? = some (rSl EEd (shV u.2) E)) (h1 : V.length ≤ 100000) (h2 : E.length ≤ 100000) : RG h u V E := ⟨(c.sl hi).sl, (c.sl hj).sl, h1, h2⟩
theorem vN_is {p : Pl} {a : Int} (h : (p.node a).isSome = true) : vN (p.node a) = .tuple #[.int .i64 ((p.node a).getD 0), .bool true] := by unfold vN; rw [h]
abbrev GL (s : Value) (σ : Spc) (u : SH × SH) (V : List (Int × Int)) (E : List Ed) (va : Value) (all : List Int) : List Res := [rSpace s σ, rSl E2I (shV u.1) V, rSl EEd (shV u.2) E, rSl EI1 va all]
/-- what a call leaves -/
structure DoR (n : Int) (cnt : Nat) (F : Fp) (h0 : Hp) (s : Value) (all : List Int) (u : SH × SH) (va : Value) (h : Hp) : Prop where
  ex : ∃ σ V E all', Cx F h0 h (GL s σ u V E va all') ∧ SG n V E cnt σ ∧ (∀ y ∈ all', R64 y) ∧ all'.length ≤ all.length + 1
theorem K_gDo (cs : CsK5 S I) (hx : x.ok) (H : SG n V E cnt σ) (hb : cnt + 3000 + 10000 ≤ big) (ha : ∀ y ∈ all, R64 y) (hal : all.length ≤ 50000) (c : Cx F h0 h0 (GL s σ u V E va all))
    (hR : ∀ u' va' h', DoR n (cnt + 3000) F h0 s all u' va' h' → R (.tuple #[vGr u', va', .bool true]) h') : F_simulcastlaw40_do S I (vG (p40 n) 8) s (vGr u) va (vCl x) h0 R := by
  have hn := H.hn
  have hln := H.len
  have hd := hx.d
  have hV : V.length ≤ 100000 := by omega
  have hE : E.length ≤ 100000 := by omega
  have h8 : (0 : Int) ≤ 8 ∧ (8 : Int) ≤ 4000 := by decide
  have hp0 : 0 ≤ (p40 n).nodes ∧ (p40 n).nodes ≤ 1000 := ⟨hn.1, by show n ≤ 1000; omega⟩
  unfold F_simulcastlaw40_do
  refine c.nw EG (p40 n, 8) rfl fun rg h1 c => ?_
  refine c.nw EGr u rfl fun rx h2 c => ?_
  refine c.nw ECl x rfl fun rc h3 c => ?_
  refine c.nw EGr ((none, 0, 0), (none, 0, 0)) rfl fun rr h4 c => ?_
  refine (c.va (i := 6) rfl).fld (j := 1) rfl ?_
  rw [show fa 2 (at0 rc) = some (.pointer (some ⟨rc, 0 + 2, none⟩)) from fa_add _ _ _, vb_some, show ldc (.pointer (some ⟨rc, 0 + 2, none⟩)) h4 = some (.int .i16 x.b) from (c.va (i := 6) rfl).row.ldc (j := 2) rfl, vb_some]
  refine cs.hdl40 (c.sl (i := 3) rfl).sl (by omega) hx.a ?_
  refine ⟨(c.va (i := 6) rfl).row.ldc (j := 2) rfl, ?_⟩
  refine cs.hdl40 (c.sl (i := 3) rfl).sl (by omega) hx.b ?_
  have hA := hdl_R ha hx.a
  have hB := hdl_R ha hx.b
  generalize hdl all x.a = a at *
  generalize hdl all x.b = b at *
  refine (c.va (i := 5) rfl).fld (j := 0) rfl ?_
  rw [(c.sl (i := 1) rfl).sl.ln, vb_some]
  refine (c.va (i := 5) rfl).fld (j := 1) rfl ?_
  rw [(c.sl (i := 2) rfl).sl.ln, vb_some]
  refine En.vb (v := .int .i64 ((V.length : Int) + E.length)) (addI ⟨by omega, by omega⟩) ?_
  refine (c.va (i := 6) rfl).fld (j := 0) rfl ?_
  rw [show bin .rem (.int .u8 x.d) (.int .u8 8) = some (.int .u8 (x.d % 8)) by rw [bin_rem (by omega), Int.tmod_eq_emod_of_nonneg hd.1], vb_some]
  generalize x.d % 8 = k
  refine Jn1.at (fun v h' => v = .bool (decide (k = 0 ∨ k = 1)) ∧ h' = h4) ?_ ?_
  · rw [bin_eql, vb_some]
    refine brd (fun e => ⟨by rw [decide_eq_true (show k = 0 ∨ k = 1 from .inl e), decide_eq_true e], rfl⟩) fun e => ?_
    rw [bin_eql, vb_some]
    exact ⟨by congr 1; exact decide_eq_decide.2 ⟨.inr, fun h => h.resolve_left e⟩, rfl⟩
  rintro v h5 ⟨rfl, rfl⟩
  refine brd (fun _ => ?_) fun _ => ?_
  · -- Add
    rw [gW (i := 4) c rfl, vb_some]
    refine (c.va (i := 6) rfl).fld (j := 3) rfl ?_
    refine c.last (cs.gadd h8 hx.n) 0 rfl (H.add hx.n (by omega)) fun e σ' h6 c hq => ?_
    rcases hq with ⟨y, rfl, hlt, ⟨hy1, hy2, hy3⟩, H'⟩ | ⟨rfl, hge, H'⟩
    · unfold uE
      refine ext0t (ext1t ?_)
      refine gN (i := 4) c rfl ?_
      rw [bin_geq, vb_some]
      refine brd (fun h => absurd h (by show ¬ n ≤ _; omega)) fun _ => ?_
      have hyR := isN_R (p40_good hn) hy1
      refine gP (i := 4) c rfl ?_
      refine c.pur (cs.node hyR) fun h7 c => ?_
      rw [vN_is (isN_node (p40_good hn) hy1)]
      refine ext0t (ext1t ?_)
      refine .here ?_
      rw [show lda 2 (at0 rx) h7 = some (vGr u) from (c.va (i := 5) rfl).whole rfl, vb_some]
      refine (c.va (i := 6) rfl).fld (j := 3) rfl ?_
      refine cs.radd (c.rG (i := 1) (j := 2) rfl rfl hV hE) fun w h9 c2 => ?_
      have c := c.frame0 c2
      refine c.app1 3 rfl y rfl rfl rfl (by omega) (by omega) fun va' h10 c => ?_
      rw [eqI, vb_some, br_true, br_true, show lda 2 (at0 rx) h10 = some (vGr u) from (c.va (i := 5) rfl).whole rfl, vb_some]
      refine cs.rhas (c.rG (i := 1) (j := 2) rfl rfl hV hE) fun h11 g => ?_
      have c := c.more g
      rw [decide_eq_false hy2, uno_nb, vb_some, Bool.not_false, br_true, show lda 2 (at0 rx) h11 = some (vGr u) from (c.va (i := 5) rfl).whole rfl, vb_some]
      refine cs.ris (c.rG (i := 1) (j := 2) rfl rfl hV hE) fun h12 g => ?_
      have c := c.more g
      rw [decide_eq_false hy3, uno_nb, vb_some, Bool.not_false]
      refine c.sto 7 rfl (w, u.2) rfl rfl fun h13 c => ?_
      refine En.vb (show lda 2 (at0 rr) h13 = some (vGr (w, u.2)) from (c.va (i := 7) rfl).whole rfl) ?_
      refine hR (w, u.2) va' _ ⟨_, _, _, _, c.pick [0, 8, 2, 3], H'.mono (by omega) (by omega), fun z hz => ?_, by simp⟩
      rcases List.mem_append.1 hz with h | h
      · exact ha z h
      · rw [List.mem_singleton] at h
        subst h; exact hyR
    · unfold uE
      refine ext0t (ext1t ?_)
      refine gN (i := 4) c rfl ?_
      rw [bin_geq, vb_some]
      refine brd (fun _ => ?_) fun h => absurd (show n ≤ _ from hge) h
      refine .here ?_
      rw [show lda 2 (at0 rx) h6 = some (vGr u) from (c.va (i := 5) rfl).whole rfl, vb_some, eqI, vb_some, br_true, eqI, vb_some]
      refine c.sto 7 rfl u rfl rfl fun h13 c => ?_
      refine En.vb (show lda 2 (at0 rr) h13 = some (vGr u) from (c.va (i := 7) rfl).whole rfl) ?_
      exact hR u va _ ⟨_, _, _, _, c.pick [0, 1, 2, 3], H'.mono (by omega) (by omega), ha, by omega⟩
  refine Jn1.at (fun v h' => v = .bool (decide (k = 2 ∨ k = 3)) ∧ h' = h5) ?_ ?_
  · rw [bin_eql, vb_some]
    refine brd (fun e => ⟨by rw [decide_eq_true (show k = 2 ∨ k = 3 from .inl e), decide_eq_true e], rfl⟩) fun e => ?_
    rw [bin_eql, vb_some]
    exact ⟨by congr 1; exact decide_eq_decide.2 ⟨.inr, fun h => h.resolve_left e⟩, rfl⟩
  rintro v h5 ⟨rfl, rfl⟩
  refine brd (fun _ => ?_) fun _ => ?_
  · -- Link
    rw [gW (i := 4) c rfl, vb_some]
    refine (c.va (i := 6) rfl).fld (j := 3) rfl ?_
    refine c.last (cs.glink h8 hp0 hA hB hx.n) 0 rfl (H.link (a := a) (b := b) hx.n (by omega)) fun e σ' h6 c hq => ?_
    unfold uE
    refine ext0t (ext1t ?_)
    rw [show lda 2 (at0 rx) h6 = some (vGr u) from (c.va (i := 5) rfl).whole rfl, vb_some]
    refine cs.rwei (c.rG (i := 1) (j := 2) rfl rfl hV hE) fun h7 g => ?_
    have c := c.more g
    unfold uIB
    refine ext0t (ext1t ?_)
    refine Jn1.at (fun v h' => v = .bool (!(decide (a ∈ vI V) && decide (b ∈ vI V))) ∧ Cx F h0 h' (GL s σ' u V E va all ++ [rVar EG rg (p40 n, 8), rVar EGr rx u, rVar ECl rc x, rVar EGr rr ((none, 0, 0), (none, 0, 0))])) ?_ ?_
    · rw [show lda 2 (at0 rx) h7 = some (vGr u) from (c.va (i := 5) rfl).whole rfl, vb_some]
      refine cs.rhas (c.rG (i := 1) (j := 2) rfl rfl hV hE) fun h11 g => ?_
      have c := c.more g
      rw [uno_nb, vb_some]
      cases hda : decide (a ∈ vI V) with
      | false => rw [Bool.not_false, br_true]; exact ⟨rfl, c⟩
      | true =>
        rw [Bool.not_true, br_false, show lda 2 (at0 rx) h11 = some (vGr u) from (c.va (i := 5) rfl).whole rfl, vb_some]
        refine cs.rhas (c.rG (i := 1) (j := 2) rfl rfl hV hE) fun h12 g => ?_
        have c := c.more g
        rw [uno_nb, vb_some]
        exact ⟨rfl, c⟩
    clear c
    rintro v h8 ⟨rfl, c⟩
    rcases hq with ⟨h1, rfl, H'⟩ | ⟨⟨h1, h1'⟩, hq⟩
    · have e : (decide (a ∈ vI V) && decide (b ∈ vI V)) = false := by
        rw [Bool.eq_false_iff]
        intro h
        simp only [Bool.and_eq_true, decide_eq_true_eq] at h
        exact h1 h
      rw [e, Bool.not_false, br_true]
      refine .here ?_
      rw [show lda 2 (at0 rx) h8 = some (vGr u) from (c.va (i := 5) rfl).whole rfl, vb_some, eqI, vb_some, br_true, eqI, vb_some]
      refine c.sto 7 rfl u rfl rfl fun h13 c => ?_
      refine En.vb (show lda 2 (at0 rr) h13 = some (vGr u) from (c.va (i := 7) rfl).whole rfl) ?_
      exact hR u va _ ⟨_, _, _, _, c.pick [0, 1, 2, 3], H'.mono (by omega) (by omega), ha, by omega⟩
    rw [decide_eq_true h1, decide_eq_true h1', Bool.and_self, Bool.not_true, br_false]
    rcases hq with ⟨h2, rfl, H'⟩ | ⟨h2, hq⟩
    · rw [show (rWei E a b).2 = true from h2, br_true]
      refine .here ?_
      rw [show lda 2 (at0 rx) h8 = some (vGr u) from (c.va (i := 5) rfl).whole rfl, vb_some, eqI, vb_some, br_true, eqI, vb_some]
      refine c.sto 7 rfl u rfl rfl fun h13 c => ?_
      refine En.vb (show lda 2 (at0 rr) h13 = some (vGr u) from (c.va (i := 7) rfl).whole rfl) ?_
      exact hR u va _ ⟨_, _, _, _, c.pick [0, 1, 2, 3], H'.mono (by omega) (by omega), ha, by omega⟩
    rw [show (rWei E a b).2 = false by unfold rWei; rw [h2]; rfl, br_false]
    refine gN (i := 4) c rfl ?_
    rw [bin_geq, vb_some]
    rcases hq with ⟨h3, rfl, H'⟩ | ⟨h3, y, rfl, ⟨hy1, hy2, hy3⟩, H'⟩
    · refine brd (fun _ => ?_) fun h => absurd (show n ≤ _ from h3) h
      refine .here ?_
      rw [show lda 2 (at0 rx) h8 = some (vGr u) from (c.va (i := 5) rfl).whole rfl, vb_some, eqI, vb_some, br_true, eqI, vb_some]
      refine c.sto 7 rfl u rfl rfl fun h13 c => ?_
      refine En.vb (show lda 2 (at0 rr) h13 = some (vGr u) from (c.va (i := 7) rfl).whole rfl) ?_
      exact hR u va _ ⟨_, _, _, _, c.pick [0, 1, 2, 3], H'.mono (by omega) (by omega), ha, by omega⟩
    · refine brd (fun h => absurd h (by show ¬ n ≤ _; omega)) fun _ => ?_
      have hyR := isN_R (p40_good hn) hy1
      refine gP (i := 4) c rfl ?_
      refine c.pur (cs.node hyR) fun h9 c => ?_
      rw [vN_is (isN_node (p40_good hn) hy1)]
      refine ext0t (ext1t ?_)
      refine .here ?_
      rw [show lda 2 (at0 rx) h9 = some (vGr u) from (c.va (i := 5) rfl).whole rfl, vb_some]
      refine (c.va (i := 6) rfl).fld (j := 3) rfl ?_
      refine cs.rlink (c.rG (i := 1) (j := 2) rfl rfl hV hE) fun w h9 c2 => ?_
      have c := c.frame0 c2
      refine c.app1 3 rfl y rfl rfl rfl (by omega) (by omega) fun va' h10 c => ?_
      rw [eqI, vb_some, br_true, br_true, show lda 2 (at0 rx) h10 = some (vGr u) from (c.va (i := 5) rfl).whole rfl, vb_some]
      refine cs.rhas (c.rG (i := 1) (j := 2) rfl rfl hV hE) fun h11 g => ?_
      have c := c.more g
      rw [decide_eq_false hy2, uno_nb, vb_some, Bool.not_false, br_true, show lda 2 (at0 rx) h11 = some (vGr u) from (c.va (i := 5) rfl).whole rfl, vb_some]
      refine cs.ris (c.rG (i := 1) (j := 2) rfl rfl hV hE) fun h12 g => ?_
      have c := c.more g
      rw [decide_eq_false hy3, uno_nb, vb_some, Bool.not_false]
      refine c.sto 7 rfl (u.1, w) rfl rfl fun h13 c => ?_
      refine En.vb (show lda 2 (at0 rr) h13 = some (vGr (u.1, w)) from (c.va (i := 7) rfl).whole rfl) ?_
      refine hR (u.1, w) va' _ ⟨_, _, _, _, c.pick [0, 1, 8, 3], H'.mono (by omega) (by omega), fun z hz => ?_, by simp⟩
      rcases List.mem_append.1 hz with h | h
      · exact ha z h
      · rw [List.mem_singleton] at h
        subst h; exact hyR
  rw [bin_eql, vb_some]
  refine brd (fun _ => ?_) fun _ => ?_
  · -- Cut
    rw [gW (i := 4) c rfl, vb_some]
    refine c.last (cs.gCut h8 hA) 0 rfl (H.cut (a := a) (by omega)) fun e σ' h6 c hq => ?_
    rw [show lda 2 (at0 rx) h6 = some (vGr u) from (c.va (i := 5) rfl).whole rfl, vb_some]
    refine cs.ris (c.rG (i := 1) (j := 2) rfl rfl hV hE) fun h12 g => ?_
    have c := c.more g
    unfold uI
    rw [uno_nb, vb_some]
    rcases hq with ⟨h1, rfl, H'⟩ | ⟨h1, rfl, H'⟩
    · rw [decide_eq_false h1, Bool.not_false, br_true, show lda 2 (at0 rx) h12 = some (vGr u) from (c.va (i := 5) rfl).whole rfl, vb_some, eqI, vb_some]
      refine c.sto 7 rfl u rfl rfl fun h13 c => ?_
      refine En.vb (show lda 2 (at0 rr) h13 = some (vGr u) from (c.va (i := 7) rfl).whole rfl) ?_
      exact hR u va _ ⟨_, _, _, _, c.pick [0, 1, 2, 3], H'.mono (by omega) (by omega), ha, by omega⟩
    · rw [decide_eq_true h1, Bool.not_true, br_false, show lda 2 (at0 rx) h12 = some (vGr u) from (c.va (i := 5) rfl).whole rfl, vb_some]
      refine cs.rcut (c.rG (i := 1) (j := 2) rfl rfl hV hE) fun w h9 c2 => ?_
      have c := c.frame0 c2
      rw [eqI, vb_some]
      refine c.sto 7 rfl (u.1, w) rfl rfl fun h13 c => ?_
      refine En.vb (show lda 2 (at0 rr) h13 = some (vGr (u.1, w)) from (c.va (i := 7) rfl).whole rfl) ?_
      exact hR (u.1, w) va _ ⟨_, _, _, _, c.pick [0, 1, 8, 3], H'.mono (by omega) (by omega), ha, by omega⟩
  rw [bin_eql, vb_some]
  refine brd (fun _ => ?_) fun _ => ?_
  · -- Drop
    rw [gW (i := 4) c rfl, vb_some]
    refine c.last (cs.gdrop h8 hp0 hA) 0 rfl (H.drop (a := a) hb) fun e σ' h6 c hq => ?_
    unfold uE
    refine ext0t (ext1t ?_)
    rw [show lda 2 (at0 rx) h6 = some (vGr u) from (c.va (i := 5) rfl).whole rfl, vb_some]
    refine cs.rhas (c.rG (i := 1) (j := 2) rfl rfl hV hE) fun h12 g => ?_
    have c := c.more g
    rw [uno_nb, vb_some]
    rcases hq with ⟨h1, rfl, H'⟩ | ⟨h1, rfl, H'⟩
    · rw [decide_eq_false h1, Bool.not_false, br_true]
      refine .here ?_
      rw [show lda 2 (at0 rx) h12 = some (vGr u) from (c.va (i := 5) rfl).whole rfl, vb_some, eqI, vb_some, br_true, eqI, vb_some]
      refine c.sto 7 rfl u rfl rfl fun h13 c => ?_
      refine En.vb (show lda 2 (at0 rr) h13 = some (vGr u) from (c.va (i := 7) rfl).whole rfl) ?_
      exact hR u va _ ⟨_, _, _, _, c.pick [0, 1, 2, 3], H', ha, by omega⟩
    · rw [decide_eq_true h1, Bool.not_true, br_false]
      refine .here ?_
      rw [show lda 2 (at0 rx) h12 = some (vGr u) from (c.va (i := 5) rfl).whole rfl, vb_some]
      refine cs.rdrop (c.rG (i := 1) (j := 2) rfl rfl hV hE) fun y z h9 c2 => ?_
      have c := c.frame0 c2
      rw [eqI, vb_some, br_true, show lda 2 (at0 rx) h9 = some (vGr u) from (c.va (i := 5) rfl).whole rfl, vb_some]
      refine cs.rlab (c.rG (i := 1) (j := 2) rfl rfl hV hE) fun h14 g => ?_
      have c := c.more g
      rw [eqI, vb_some]
      refine c.sto 7 rfl (y, z) rfl rfl fun h13 c => ?_
      refine En.vb (show lda 2 (at0 rr) h13 = some (vGr (y, z)) from (c.va (i := 7) rfl).whole rfl) ?_
      exact hR (y, z) va _ ⟨_, _, _, _, c.pick [0, 8, 9, 3], H', ha, by omega⟩
  · rw [show lda 2 (at0 rx) h5 = some (vGr u) from (c.va (i := 5) rfl).whole rfl, vb_some]
    refine c.sto 7 rfl u rfl rfl fun h13 c => ?_
    refine En.vb (show lda 2 (at0 rr) h13 = some (vGr u) from (c.va (i := 7) rfl).whole rfl) ?_
    exact hR u va _ ⟨_, _, _, _, c.pick [0, 1, 2, 3], H.mono (by omega) (by omega), ha, by omega⟩
end
end Go.En
