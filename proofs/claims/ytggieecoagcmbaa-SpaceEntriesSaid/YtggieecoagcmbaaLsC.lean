/-
  The reference's comparisons; the example.
-/
import Derived.Test.YtggieecoagcmbaaLsB
namespace Go.En
open Prog Spc Go.Sort

variable {S : Sys} {I : Ids} {h h0 h' : Hp} {F F0 : Fp} {R : Value → Hp → Prop} {L : List Res} {s : Value} {σ : Spc}

theorem K_touch1 {a b : Int} : ∀ h R, Cx (fun _ => False) h h [] → (∀ h' M, Cx (fun _ => False) h h' M → R (mRZ (RZ1 b)) h') → F_simulcastref30_touch S I (mRZ (RZ1 b)) (.int .i64 a) h R := by
  intro h R c hR
  unfold F_simulcastref30_touch
  refine c.nw ERZ (RZ1 b) rfl fun r h1 c => ?_
  refine c.nw ERZ RZ0 rfl fun r2 h2 c => ?_
  refine (c.va (i := 0) rfl).fld (j := 3) rfl ?_
  rw [br_true]
  rw [(c.va (i := 0) rfl).whole (n := 5) rfl, vb_some]
  refine c.sto 1 rfl (RZ1 b) rfl rfl fun h8 c => ?_
  rw [(c.va (i := 1) rfl).whole (n := 5) rfl, vb_some]
  exact hR _ _ c
structure CsR3 (S : Sys) (I : Ids) : Prop where
  touch1 : ∀ {a b : Int}, Pur S I.f_simulcastref30_touch [mRZ (RZ1 b), .int .i64 a] (mRZ (RZ1 b))
theorem K_Set1 {a v : Int} (cs : CsR3 S I) : ∀ h R, Cx (fun _ => False) h h [] → (∀ h' M, Cx (fun _ => False) h h' M → R (mRZ (RZ1 a)) h') → F_simulcastref30_Set S I (mRZ (RZ1 a)) (.int .i64 a) (.int .i64 v) h R := by
  intro h R c hR
  unfold F_simulcastref30_Set
  refine c.nw ERZ (RZ1 a) rfl fun r h1 c => ?_
  refine c.nw ERZ RZ0 rfl fun r2 h2 c => ?_
  rw [(c.va (i := 0) rfl).whole (n := 5) rfl, vb_some]
  refine c.pur (cs.touch1 (a := a) (b := a)) fun h3 c => ?_
  refine c.sto 0 rfl (RZ1 a) rfl rfl fun h4 c => ?_
  refine (c.va (i := 0) rfl).fld (j := 3) rfl ?_
  rw [br_true]
  rw [(c.va (i := 0) rfl).whole (n := 5) rfl, vb_some]
  refine c.sto 1 rfl (RZ1 a) rfl rfl fun h5 c => ?_
  rw [(c.va (i := 1) rfl).whole (n := 5) rfl, vb_some]
  exact hR _ _ c

theorem K_Same30 {a b : Value} {xs : List Int} (hN : xs.length ≤ 1000000) (ha : Sl EI1 h a xs) (hb : Sl EI1 h b xs) (hR : R (.bool true) h) : F_simulcastref30_Same S I a b h R := by
  unfold F_simulcastref30_Same
  rw [ha.ln, vb_some, hb.ln, vb_some, bin_neq, vb_some]
  refine brd (fun h1 => absurd rfl h1) fun _ => ?_
  refine Lp1.by (fun (i : Nat) u h' => u = .int .i64 i ∧ i ≤ xs.length ∧ h' = h) (fun i => xs.length - i) 0 ⟨rfl, Nat.zero_le _, rfl⟩ ?_
  rintro i u h1 ⟨rfl, hi, rfl⟩ again hagain
  rw [vb_some, bin_lss, vb_some]
  refine brd (fun h2 => ?_) fun h2 => hR
  have hx : xs[i]? = some xs[i] := List.getElem?_eq_getElem (by omega)
  refine ha.one rfl hx rfl rfl (hb.one rfl hx rfl rfl ?_)
  rw [bin_neq, vb_some]
  refine brd (fun h1 => absurd rfl h1) fun _ => ?_
  rw [bin_add, vb_some, wrS (by omega)]
  exact hagain (i + 1) _ _ ⟨rfl, by omega, rfl⟩ (by omega)
theorem eqA_E (x : E6) : eqA [true, true, true, true, true, false] (.agg (EE.c x).toArray) (.agg (EE.c x).toArray) = some true := by
  simp [eqA, EE, eqL, eq1]
theorem K_Alike {a b : Value} {xs : List E6} (hN : xs.length ≤ 1000000) (ha : Sl EE h a xs) (hb : Sl EE h b xs) (hR : R (.bool true) h) : F_simulcastref30_Alike S I a b h R := by
  unfold F_simulcastref30_Alike
  rw [ha.ln, vb_some, hb.ln, vb_some, bin_neq, vb_some]
  refine brd (fun h1 => absurd rfl h1) fun _ => ?_
  refine Lp1.by (fun (i : Nat) u h' => u = .int .i64 i ∧ i ≤ xs.length ∧ h' = h) (fun i => xs.length - i) 0 ⟨rfl, Nat.zero_le _, rfl⟩ ?_
  rintro i u h1 ⟨rfl, hi, rfl⟩ again hagain
  rw [vb_some, bin_lss, vb_some]
  refine brd (fun h2 => ?_) fun h2 => hR
  have hx : xs[i]? = some xs[i] := List.getElem?_eq_getElem (by omega)
  refine ha.whole rfl hx rfl (hb.whole rfl hx rfl ?_)
  rw [eqA_E]
  refine vb (v := .bool false) rfl ?_
  rw [br_false]
  rw [bin_add, vb_some, wrS (by omega)]
  exact hagain (i + 1) _ _ ⟨rfl, by omega, rfl⟩ (by omega)
end Go.En
