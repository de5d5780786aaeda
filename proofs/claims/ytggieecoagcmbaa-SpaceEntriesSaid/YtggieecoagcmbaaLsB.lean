/-
  An act on a space.
-/
import Derived.Test.YtggieecoagcmbaaLsA
namespace Go.En
open Prog Spc Go.Sort

variable {S : Sys} {I : Ids} {h h0 h' : Hp} {F F0 : Fp} {R : Value → Hp → Prop} {L : List Res} {s : Value} {σ : Spc}

theorem K_Back0 {m : Int} (hR : ∀ z h', Gr h h' → R (mRZ z) h') : F_simulcastref30_Back S I (mRZ RZ0) (.int .i64 m) h R := by
  unfold F_simulcastref30_Back
  have c := Cx.start0 h
  refine c.nw ERZ RZ0 rfl fun r h1 c => ?_
  refine c.nw ERZ RZ0 rfl fun r2 h2 c => ?_
  refine Jn1.at (fun u h' => (∃ bb : Bool, u = .bool bb ∧ (bb = false → m = 0)) ∧ Cx (fun _ => False) h h' [rVar ERZ r RZ0, rVar ERZ r2 RZ0]) ?_ ?_
  · refine (c.va (i := 0) rfl).fld (j := 3) rfl ?_
    rw [br_false, bin_lss, vb_some]
    refine brd (fun h3 => ?_) fun h3 => ?_
    · exact ⟨⟨true, rfl, (fun e => by cases e)⟩, c⟩
    · refine (c.va (i := 0) rfl).fld (j := 2) rfl ?_
      refine vb (v := .int .i64 0) rfl ?_
      rw [bin_gtr, vb_some]
      exact ⟨⟨_, rfl, fun e => by simp only [decide_eq_false_iff_not] at e; omega⟩, c⟩
  clear c
  rintro u h3 ⟨⟨bb, rfl, hbb⟩, c⟩
  cases bb with
  | true =>
    rw [br_true]
    rw [(c.va (i := 0) rfl).whole (n := 5) rfl, vb_some]
    refine c.sto 1 rfl RZ0 rfl rfl fun h5 c => ?_
    rw [(c.va (i := 1) rfl).whole (n := 5) rfl, vb_some]
    exact hR RZ0 _ c.gr
  | false =>
    obtain rfl := hbb rfl
    rw [br_false]
    refine c.bsl0 EPt fun u h4 c => ?_
    refine (c.va (i := 0) rfl).fld (j := 2) rfl ?_
    refine vb (v := .slice none 0 0) rfl ?_
    refine c.ap 2 rfl (ys := []) Sl.nil rfl rfl (by simp) (by simp) fun v' h5 c => ?_
    obtain ⟨pa, pl, pc, e⟩ := ow_slice (c.sl (i := 2) rfl)
    subst e
    refine c.stof 0 rfl (j := 2) ⟨pa, pl, pc, false, 0⟩ rfl (by decide) rfl fun h6 c => ?_
    rw [(c.va (i := 0) rfl).whole (n := 5) rfl, vb_some]
    refine c.sto 1 rfl ⟨pa, pl, pc, false, 0⟩ rfl rfl fun h7 c => ?_
    rw [(c.va (i := 1) rfl).whole (n := 5) rfl, vb_some]
    exact hR _ _ c.gr

/-- an act -/
structure Ac where
  d : Nat
  at' : Int
  v : Int
def EAc : Enc Ac := { n := 3, c := fun x => [.int .u8 x.d, .int .i64 x.at', .int .i64 x.v], len := fun _ => rfl, one := fun a v h => by simp only [List.mem_cons, List.not_mem_nil, or_false] at h; rcases h with rfl | rfl | rfl <;> rfl }
def mAc (x : Ac) : Value := .agg #[.int .u8 x.d, .int .i64 x.at', .int .i64 x.v]
def Spc.act (σ : Spc) (x : Ac) : Spc :=
  if x.d % 4 = 0 then (σ.get x.at').2 else if x.d % 4 = 3 then (σ.get x.at').2.put x.at' (w64 ((σ.get x.at').1 + x.v)) else if x.d % 4 = 1 then σ.put x.at' x.v else σ.back (x.v.tmod 64)
theorem get_pu (σ : Spc) (a : Int) : (σ.get a).2.pu = σ.pu := by
  unfold Spc.get
  split
  · rfl
  · split <;> rfl
structure CsR2 (S : Sys) (I : Ids) : Prop extends CsD S I where
  get0 : ∀ {a : Int}, Pur S I.f_simulcastref30_Get [mRZ RZ0, .int .i64 a] (.tuple #[mRZ (RZ1 a), .int .i64 0])
  set0 : ∀ {a v : Int}, Pur S I.f_simulcastref30_Set [mRZ RZ0, .int .i64 a, .int .i64 v] (mRZ (RZ1 a))
  set1 : ∀ {a v : Int}, Pur S I.f_simulcastref30_Set [mRZ (RZ1 a), .int .i64 a, .int .i64 v] (mRZ (RZ1 a))
  back0 : ∀ {m : Int} {h R}, (∀ z h', Gr h h' → R (mRZ z) h') → S.C I.f_simulcastref30_Back [mRZ RZ0, .int .i64 m] h R
theorem K_do {x : Ac} (cs : CsR2 S I) (hv : R64 x.v) (hd : x.d < 256) (hl : σ.pu.length ≤ big) (a : (rSpace s σ).P h F) (hR : ∀ y z h', Cx F h h' [rSpace s (σ.act x)] → R (.tuple #[y, z]) h') :
    F_simulcastlaw30_do S I s (mRZ RZ0) (mAc x) h R := by
  unfold F_simulcastlaw30_do
  have c := Cx.start a
  unfold Spc.act at hR
  refine c.nw ERZ RZ0 rfl fun rx h1 c => ?_
  refine c.nw EAc x rfl fun ra h2 c => ?_
  refine c.nw ERZ RZ0 rfl fun rv h3 c => ?_
  refine (c.va (i := 2) rfl).fld (j := 0) rfl ?_
  have hrem : bin .rem (.int .u8 (x.d : Nat)) (.int .u8 4) = some (.int .u8 ((x.d % 4 : Nat) : Int)) := by
    rw [bin_rem (by omega)]; congr 2
  rw [hrem, vb_some]
  refine Jn1.at (fun u h' => (∃ bb : Bool, u = .bool bb ∧ (bb = true ↔ (x.d % 4 = 0 ∨ x.d % 4 = 3))) ∧ Cx F h h' [rSpace s σ, rVar ERZ rx RZ0, rVar EAc ra x, rVar ERZ rv RZ0]) ?_ ?_
  · rw [bin_eql, vb_some]
    refine brd (fun h4 => ?_) fun h4 => ?_
    · exact ⟨⟨_, rfl, by simp only [decide_eq_true_eq]; omega⟩, c⟩
    · rw [bin_eql, vb_some]
      exact ⟨⟨_, rfl, by simp only [decide_eq_true_eq]; omega⟩, c⟩
  clear c
  rintro u h4 ⟨⟨bb, rfl, hbb⟩, c⟩
  cases bb with
  | true =>
    rw [br_true]
    have hbb := hbb.1 rfl
    refine (c.va (i := 2) rfl).fld (j := 1) rfl ?_
    refine c.cGet cs.toCsD 0 rfl fun h5 c => ?_
    rw [(c.va (i := 1) rfl).whole (n := 5) rfl, vb_some]
    refine (c.va (i := 2) rfl).fld (j := 1) rfl ?_
    refine c.pur (cs.get0 (a := x.at')) fun h6 c => ?_
    refine ext0t (ext1t ?_)
    refine c.nw ERZ RZ0 rfl fun ry h7 c => ?_
    refine c.sto 4 rfl (RZ1 x.at') rfl rfl fun h8 c => ?_
    refine (c.va (i := 2) rfl).fld (j := 0) rfl ?_
    rw [hrem, vb_some, bin_eql, vb_some]
    refine brd (fun h9 => ?_) fun h9 => ?_
    · rw [(c.va (i := 4) rfl).whole (n := 5) rfl, vb_some, bin_eql, vb_some]
      refine c.sto 3 rfl (RZ1 x.at') rfl rfl fun h10 c => ?_
      rw [(c.va (i := 3) rfl).whole (n := 5) rfl, vb_some]
      rw [if_pos (by omega)] at hR
      exact hR _ _ _ (c.drop (L := [rSpace s (σ.get x.at').2]))
    · rw [if_neg (by omega), if_pos (by omega)] at hR
      refine (c.va (i := 2) rfl).fld (j := 1) rfl ?_
      refine (c.va (i := 2) rfl).fld (j := 2) rfl ?_
      rw [bin_addw, vb_some]
      refine c.cPut cs.toCsD 0 rfl (w64_in _) (by rw [get_pu]; exact hl) fun h11 c => ?_
      rw [(c.va (i := 4) rfl).whole (n := 5) rfl, vb_some]
      refine (c.va (i := 2) rfl).fld (j := 1) rfl ?_
      refine (c.va (i := 2) rfl).fld (j := 2) rfl ?_
      rw [bin_addw, vb_some]
      refine c.pur (cs.set1 (a := x.at')) fun h12 c => ?_
      rw [bin_eql, vb_some]
      refine c.sto 3 rfl (RZ1 x.at') rfl rfl fun h13 c => ?_
      rw [(c.va (i := 3) rfl).whole (n := 5) rfl, vb_some]
      exact hR _ _ _ (c.drop (L := [rSpace s ((σ.get x.at').2.put x.at' (w64 ((σ.get x.at').1 + x.v)))]))
  | false =>
    rw [br_false]
    have hbb : ¬ (x.d % 4 = 0 ∨ x.d % 4 = 3) := fun e => by have := hbb.2 e; cases this
    rw [if_neg (by omega), if_neg (by omega)] at hR
    rw [bin_eql, vb_some]
    refine brd (fun h9 => ?_) fun h9 => ?_
    · rw [if_pos (by omega)] at hR
      refine (c.va (i := 2) rfl).fld (j := 1) rfl ?_
      refine (c.va (i := 2) rfl).fld (j := 2) rfl ?_
      refine c.cPut cs.toCsD 0 rfl hv hl fun h11 c => ?_
      rw [(c.va (i := 1) rfl).whole (n := 5) rfl, vb_some]
      refine (c.va (i := 2) rfl).fld (j := 1) rfl ?_
      refine (c.va (i := 2) rfl).fld (j := 2) rfl ?_
      refine c.pur (cs.set0 (a := x.at')) fun h12 c => ?_
      refine c.sto 3 rfl (RZ1 x.at') rfl rfl fun h13 c => ?_
      rw [(c.va (i := 3) rfl).whole (n := 5) rfl, vb_some]
      exact hR _ _ _ (c.drop (L := [rSpace s (σ.put x.at' x.v)]))
    · rw [if_neg (by omega)] at hR
      refine (c.va (i := 2) rfl).fld (j := 2) rfl ?_
      rw [bin_rem (by omega), vb_some]
      refine c.cBack cs.toCsD 0 rfl fun h11 c => ?_
      rw [(c.va (i := 1) rfl).whole (n := 5) rfl, vb_some]
      refine (c.va (i := 2) rfl).fld (j := 2) rfl ?_
      rw [bin_rem (by omega), vb_some]
      refine cs.back0 fun z h12 g => ?_
      have c := c.more g
      refine c.sto 3 rfl z rfl rfl fun h13 c => ?_
      rw [(c.va (i := 3) rfl).whole (n := 5) rfl, vb_some]
      exact hR _ _ _ (c.drop (L := [rSpace s (σ.back (x.v.tmod 64))]))
end Go.En
