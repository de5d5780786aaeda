/-
  Layer 31: the pool as a list of free nodes; helpers of the laws.
-/
import Derived.Test.YtggieecoagcmbaaQuG
namespace Go.En
open Prog Spc

variable {S : Sys} {I : Ids} {h h0 h' : Hp} {F F0 : Fp} {R : Value → Hp → Prop} {s : Value} {σ : Spc} {L : List Res} {n : Int}

/-- the pool; since σ0 -/
def PS (p : Pl) (D : Int → Prop) (σ0 σ : Spc) (fr : List Int) (out : Int) (c : Nat) : Prop := ∃ m, Sm D σ0 σ m c ∧ PoolR m p fr out
section
variable {p : Pl} {D : Int → Prop} {σ0 σ1 : Spc} {fr fr' : List Int} {out out' : Int} {c c' : Nat}
theorem PS.fresh (q : PS p D σ0 σ fr out c) : PS p D σ σ fr out 0 := let ⟨m, S, P⟩ := q; ⟨m, S.fresh, P⟩
theorem PS.over (q : PS p D σ0 σ1 fr out c) (q' : PS p D σ1 σ fr' out' c') : PS p D σ0 σ fr' out' (c + c') := let ⟨_, S, _⟩ := q; let ⟨m', S', P'⟩ := q'; ⟨m', S.trans S', P'⟩
theorem PS.mono (q : PS p D σ0 σ fr out c) (h : c ≤ c') : PS p D σ0 σ fr out c' := let ⟨m, S, P⟩ := q; ⟨m, S.mono h, P⟩
theorem PS.len (q : PS p D σ0 σ fr out c) : σ.pu.length ≤ σ0.pu.length + c := let ⟨_, S, _⟩ := q; S.len
theorem PS.good (q : PS p D σ0 σ fr out c) : p.good := let ⟨_, _, P⟩ := q; P.good
theorem PS.bnd (q : PS p D σ0 σ fr out c) : 0 ≤ out ∧ out ≤ p.nodes ∧ (fr.length : Int) ≤ out := let ⟨_, _, P⟩ := q; ⟨P.out0, P.out1, P.len⟩
theorem PS.fN (q : PS p D σ0 σ fr out c) : ∀ x ∈ fr, ∃ i, 0 ≤ i ∧ i < out ∧ x = p.frm + 8 * i := let ⟨_, _, P⟩ := q; P.fN
theorem PS.nd (q : PS p D σ0 σ fr out c) : fr.Nodup := let ⟨_, _, P⟩ := q; P.nd
theorem PS.take (q : PS p D σ σ fr out 0) (hD : PoolD D p) (hl : σ.pu.length + 30 ≤ big) : wp (pTake p) σ fun r σ' =>
    (∃ x fr', fr = x :: fr' ∧ r = (x, 0) ∧ PS p D σ σ' fr' out 2) ∨ (fr = [] ∧ out < p.nodes ∧ r = (p.frm + 8 * out, 0) ∧ PS p D σ σ' [] (out + 1) 2) ∨ (fr = [] ∧ out = p.nodes ∧ r = (0, 9) ∧ PS p D σ σ' [] out 2) := by
  obtain ⟨m, S, P⟩ := q
  refine wp_ret (wp_take S P hD (by omega) (fun x fr' σ' m' e hx S' P' _ => ?_) (fun σ' m' e ho hx S' P' _ => ?_) fun σ' e ho S' => ?_)
  · exact .inl ⟨x, fr', e, rfl, m', S', P'⟩
  · exact .inr (.inl ⟨e, ho, rfl, m', S', P'⟩)
  · exact .inr (.inr ⟨e, ho, rfl, m, S'.mono (by omega), e ▸ P⟩)
theorem PS.give (q : PS p D σ σ fr out 0) (hD : PoolD D p) (hl : σ.pu.length + 30 ≤ big) {x i : Int} (hx : x = p.frm + 8 * i) (hi : 0 ≤ i ∧ i < out) (hn : x ∉ fr) : wp (pGive p x) σ fun r σ' => r = 0 ∧ PS p D σ σ' (x :: fr) out 3 := by
  obtain ⟨m, S, P⟩ := q
  exact wp_ret (wp_give S P hD (by omega) hx hi hn fun σ' m' S' P' _ => ⟨rfl, m', S', P'⟩)
theorem PS.left (q : PS p D σ σ fr out 0) (hD : PoolD D p) : wp (pLeft p) σ fun r σ' => r = fr.length + p.nodes - out ∧ PS p D σ σ' fr out 0 := by
  obtain ⟨m, S, P⟩ := q
  exact wp_ret (wp_pLeft S P hD fun σ' S' => ⟨rfl, m, S', P⟩)
theorem PS.back (q0 : PS p D σ1 σ1 fr out 0) (q : PS p D σ1 σ fr' out' c) : PS p D σ1 (σ.back σ1.pu.length) fr out 0 := by
  obtain ⟨m, S, P⟩ := q0
  obtain ⟨_, S', _⟩ := q
  exact ⟨m, S'.back S.vw S.rg, P⟩
end
abbrev p31 (n : Int) : Pl := ⟨3, 8, n⟩
abbrev d31 (k : Nat) : Int → Prop := fun a => 0 ≤ a ∧ a < k
theorem PS.init {p : Pl} {k : Nat} (g : p.good) (hk : p.root + 3 ≤ k ∧ p.frm + 8 * p.nodes ≤ k) : PS p (d31 k) (spW (List.replicate k 0)) (spW (List.replicate k 0)) [] 0 0 ∧ PoolD (d31 k) p := by
  have hv : ∀ a, (spW (List.replicate k 0)).vw a = 0 := fun a => by
    rw [spW_vw]; split
    · exact rep_get _ _
    · rfl
  have := g.r0; have := g.f1; have := g.n0
  refine ⟨⟨(spW (List.replicate k 0)).vw, Sm.start (fun a ha => ?_) rfl (newS_wf (knW_val rep_R64)), ⟨g, ?_, ?_, ?_, by omega, by omega, fun x hx => (by cases hx), List.nodup_nil⟩⟩, ⟨fun i i0 i1 => ⟨by omega, by omega⟩, fun x hx i i0 i1 => ?_⟩⟩
  · rw [spW_kn, if_pos (by rw [List.length_replicate]; exact ha)]; rfl
  · exact hv _
  · exact hv _
  · exact hv _
  · obtain ⟨j, j0, j1, rfl⟩ := hx
    exact ⟨by omega, by omega⟩

theorem K_start31 {n : Int} (hn : 0 ≤ n ∧ n ≤ 255) (hR : ∀ a l c h', Cx (fun _ => False) h h' [rSl EI1 (.slice a l c) (List.replicate (8 + 8 * (n % 9).toNat) 0)] → R (.tuple #[vP ⟨3, 8, n % 9⟩, .agg #[.slice a l c]]) h') :
    F_simulcastlaw31_start S I (.int .u8 n) h R := by
  unfold F_simulcastlaw31_start
  refine (Cx.start0 h).nw EPl ⟨0, 0, 0⟩ rfl fun r2 h1 c => ?_
  refine c.nw ESh (none, 0, 0) rfl fun r3 h1 c => ?_
  rw [bin_rem (by omega), vb_some, cvi_int, vb_some, Int.tmod_eq_emod_of_nonneg hn.1, wr64 (n := n % 9) (by omega)]
  refine vb rfl ?_
  refine c.nw EPl ⟨0, 0, 0⟩ rfl fun r4 h1 c => ?_
  refine c.sto 2 rfl ⟨3, 8, n % 9⟩ rfl rfl fun h1 c => ?_
  refine .here ?_
  rw [plA (i := 2) c rfl]
  simp only [go_sem, pl2 (i := 2) c rfl]
  rw [wr64 (n := 8 * (n % 9)) (by omega), wr64 (n := 8 + 8 * (n % 9)) (by omega)]
  refine ⟨?_, ?_⟩
  · refine c.mksl EI1 0 (n := 8 + 8 * (n % 9).toNat) (by omega) rfl rfl (by omega) (by omega) fun a h2 c => ?_
    refine ⟨plA (i := 2) c rfl, ?_⟩
    refine vb rfl ?_
    refine c.sto 0 rfl ⟨3, 8, n % 9⟩ rfl rfl fun h3 c => ?_
    refine c.sto (n := 1) 1 rfl (some a, _, _) rfl rfl fun h4 c => ?_
    rw [plA (i := 0) c rfl, vb_some, (c.va (i := 1) rfl).whole (n := 1) rfl, vb_some]
    exact hR _ _ _ _ (c.one 3 rfl)
  · refine c.sto 0 rfl ⟨3, 8, n % 9⟩ rfl rfl fun h3 c => ?_
    refine ⟨pl2 (i := 2) c rfl, ?_⟩
    refine c.mksl EI1 0 (n := 8 + 8 * (n % 9).toNat) (by omega) rfl rfl (by omega) (by omega) fun a h2 c => ?_
    refine vb rfl ?_
    refine c.sto (n := 1) 1 rfl (some a, _, _) rfl rfl fun h4 c => ?_
    rw [plA (i := 0) c rfl, vb_some, (c.va (i := 1) rfl).whole (n := 1) rfl, vb_some]
    exact hR _ _ _ _ (c.one 3 rfl)

theorem K_awake31 (cs : CsX S I) (hR : ∀ h', Gr h h' → R (.bool true) h') : F_simulcastlaw31_awake S I h R := by
  unfold F_simulcastlaw31_awake
  refine vb rfl ?_
  refine (Cx.start0 h).nw EPl ⟨0, 0, 0⟩ rfl fun rp h1 c => ?_
  refine c.sto 0 rfl ⟨1, 8, 2⟩ rfl rfl fun h1 c => ?_
  refine c.mksl EI1 0 (n := 24) rfl rfl rfl (by omega) (by omega) fun a h2 c => ?_
  refine vb rfl ?_
  refine cs.known (c.sl (i := 1) rfl).sl (by rw [List.length_replicate]; omega) fun m h3 c2 => ?_
  have c := c.frame0 c2
  obtain ⟨F, c3, up⟩ := c.frame (i := 2) rfl
  refine cs.new (knW_nodup _) (knW_val rep_R64) c3 fun s h4 c4 => ?_
  have c := up c4
  obtain ⟨q, hD⟩ := PS.init (p := ⟨1, 8, 2⟩) (k := 24) (by decide) (by decide)
  rw [plA (i := 0) c rfl, vb_some]
  have hl0 : (spW (List.replicate 24 0)).pu.length = 0 := rfl
  refine c.last cs.take 3 rfl (q.fresh.take hD (by unfold big; omega)) fun r σ1 h5 c hq => ?_
  have hq' : r = (8, 0) ∧ PS ⟨1, 8, 2⟩ (d31 24) (spW (List.replicate 24 0)) σ1 [] 1 2 := by
    rcases hq with ⟨x, fr', e, _⟩ | ⟨_, _, e, q1⟩ | ⟨_, e, _⟩
    · cases e
    · exact ⟨e, q1⟩
    · exact absurd e (by decide)
  obtain ⟨rfl, q1⟩ := hq'
  have hl1 := q1.len
  simp only [go_sem]
  rw [plA (i := 0) c rfl, vb_some]
  refine c.last cs.take 3 rfl (q1.fresh.take hD (by unfold big; omega)) fun r σ2 h5 c hq => ?_
  have hq' : r = (16, 0) ∧ PS ⟨1, 8, 2⟩ (d31 24) σ1 σ2 [] 2 2 := by
    rcases hq with ⟨x, fr', e, _⟩ | ⟨_, _, e, q1⟩ | ⟨_, e, _⟩
    · cases e
    · exact ⟨e, q1⟩
    · exact absurd e (by decide)
  obtain ⟨rfl, q2⟩ := hq'
  have hl2 := q2.len
  simp only [go_sem]
  rw [plA (i := 0) c rfl, vb_some]
  refine c.last cs.take 3 rfl (q2.fresh.take hD (by unfold big; omega)) fun r σ3 h5 c hq => ?_
  have hq' : r = (0, 9) ∧ PS ⟨1, 8, 2⟩ (d31 24) σ2 σ3 [] 2 2 := by
    rcases hq with ⟨x, fr', e, _⟩ | ⟨_, e, _⟩ | ⟨_, _, e, q1⟩
    · cases e
    · exact absurd e (by decide)
    · exact ⟨e, q1⟩
  obtain ⟨rfl, q3⟩ := hq'
  have hl3 := q3.len
  simp only [go_sem]
  rw [plA (i := 0) c rfl, vb_some, vb_some]
  refine c.last (cs.give ⟨by omega, by omega⟩) 3 rfl (q3.fresh.give hD (by unfold big; omega) (x := 8) (i := 0) (by decide) (by decide) (by simp)) fun r σ4 h5 c ⟨e, q4⟩ => ?_
  subst e
  have hl4 := q4.len
  refine ⟨plA (i := 0) c rfl, ?_⟩
  refine c.last (cs.give ⟨by omega, by omega⟩) 3 rfl (q4.fresh.give hD (by unfold big; omega) (x := 16) (i := 1) (by decide) (by decide) (by decide)) fun r σ5 h6 c ⟨e, q5⟩ => ?_
  subst e
  have hl5 := q5.len
  rw [plA (i := 0) c rfl, vb_some]
  refine c.last cs.take 3 rfl (q5.fresh.take hD (by unfold big; omega)) fun r σ6 h7 c hq => ?_
  have hq' : r = (16, 0) := by
    rcases hq with ⟨x, fr', e, e2, _⟩ | ⟨e, _⟩ | ⟨e, _⟩
    · simp only [List.cons.injEq] at e; rw [e2, ← e.1]
    · cases e
    · cases e
  subst hq'
  simp only [go_sem, decide_true]
  refine .here ?_
  try simp only [go_sem, decide_true]
  exact hR _ c.gr
end Go.En
