/-
  The laws of a space: steps in a context; the reference on an empty space; an act.
-/
import Derived.Test.YtggieecoagcmbaaSoN
namespace Go.En
open Prog Spc Go.Sort

variable {S : Sys} {I : Ids} {h h0 h' : Hp} {F F0 : Fp} {R : Value → Hp → Prop} {L : List Res} {s : Value} {σ : Spc}

theorem Cx.cGet {a : Int} (cs : CsD S I) (c : Cx F0 h0 h L) (i : Nat) (hi : L[i]? = some (rSpace s σ)) (k : ∀ h', Cx F0 h0 h' (L.set i (rSpace s (σ.get a).2)) → R (.int .i64 (σ.get a).1) h') : S.C I.f_space_Space_Get [s, .int .i64 a] h R :=
  Cx.last (p := gt a) (Q := fun x σ' => x = (σ.get a).1 ∧ σ' = (σ.get a).2) cs.get c i hi ⟨rfl, rfl⟩ fun x σ' h' c e => by obtain ⟨rfl, rfl⟩ := e; exact k h' c
theorem Cx.cPut {a v : Int} (cs : CsD S I) (c : Cx F0 h0 h L) (i : Nat) (hi : L[i]? = some (rSpace s σ)) (hv : R64 v) (hl : σ.pu.length ≤ big) (k : ∀ h', Cx F0 h0 h' (L.set i (rSpace s (σ.put a v))) → R (.tuple #[]) h') : S.C I.f_space_Space_Put [s, .int .i64 a, .int .i64 v] h R :=
  Cx.last (p := pt a v) (Q := fun _ σ' => σ' = σ.put a v) cs.put c i hi ⟨hv, hl, rfl⟩ fun x σ' h' c e => by subst e; exact k h' c
theorem Cx.cBack {m : Int} (cs : CsD S I) (c : Cx F0 h0 h L) (i : Nat) (hi : L[i]? = some (rSpace s σ)) (k : ∀ h', Cx F0 h0 h' (L.set i (rSpace s (σ.back m))) → R (.tuple #[]) h') : S.C I.f_space_Space_Back [s, .int .i64 m] h R :=
  Cx.last (p := bk m) (Q := fun _ σ' => σ' = σ.back m) cs.back c i hi rfl fun x σ' h' c e => by subst e; exact k h' c
theorem Cx.cMark (cs : CsD S I) (c : Cx F0 h0 h L) (i : Nat) (hi : L[i]? = some (rSpace s σ)) (k : ∀ h', Cx F0 h0 h' (L.set i (rSpace s σ)) → R (.int .i64 σ.pu.length) h') : S.C I.f_space_Space_Mark [s] h R :=
  Cx.last (p := mk) (Q := fun x σ' => x = σ.pu.length ∧ σ' = σ) cs.mark c i hi ⟨rfl, rfl⟩ fun x σ' h' c e => by obtain ⟨rfl, rfl⟩ := e; exact k h' c

/-! ### The reference on an empty space -/
structure RZ where
  pa : Option Addr
  pl : Nat
  pc : Nat
  en : Bool
  nd : Int
def ERZ : Enc RZ := { n := 5, c := fun z => [.slice none 0 0, .slice none 0 0, .slice z.pa z.pl z.pc, .bool z.en, .int .i64 z.nd], len := fun _ => rfl, one := fun a v h => by simp only [List.mem_cons, List.not_mem_nil, or_false] at h; rcases h with rfl | rfl | rfl | rfl | rfl <;> rfl }
def mRZ (z : RZ) : Value := .agg #[.slice none 0 0, .slice none 0 0, .slice z.pa z.pl z.pc, .bool z.en, .int .i64 z.nd]
abbrev RZ0 : RZ := ⟨none, 0, 0, false, 0⟩
abbrev RZ1 (a : Int) : RZ := ⟨none, 0, 0, true, a⟩

theorem K_find0 {z : RZ} {a : Int} : ∀ h R, Cx (fun _ => False) h h [] → (∀ h' M, Cx (fun _ => False) h h' M → R (.tuple #[mW W0, .bool false]) h') → F_simulcastref30_find S I (mRZ z) (.int .i64 a) h R := by
  intro h R c hR
  unfold F_simulcastref30_find
  refine c.nw ERZ z rfl fun r h1 c => ?_
  refine c.nw EW W0 rfl fun r2 h2 c => ?_
  refine Lp1.by (fun (_ : Unit) u h' => u = .int .i64 0 ∧ Cx (fun _ => False) h h' [rVar ERZ r z, rVar EW r2 W0]) (fun _ => 0) () ⟨rfl, c⟩ ?_
  clear c
  rintro _ u h2 ⟨rfl, c⟩ again hagain
  refine (c.va (i := 0) rfl).fld (j := 0) rfl ?_
  refine vb (v := .int .i64 0) rfl ?_
  refine vb (v := .bool false) rfl ?_
  rw [br_false]
  refine vb (v := mW W0) (by kernel_rfl) ?_
  refine c.sto 1 rfl W0 rfl rfl fun h3 c => ?_
  rw [(c.va (i := 1) rfl).whole (n := 3) rfl, vb_some]
  exact hR _ _ c
structure CsR0 (S : Sys) (I : Ids) : Prop where
  find0 : ∀ {z : RZ} {a : Int}, Pur S I.f_simulcastref30_find [mRZ z, .int .i64 a] (.tuple #[mW W0, .bool false])
theorem K_touch0 {a : Int} (cs : CsR0 S I) : ∀ h R, Cx (fun _ => False) h h [] → (∀ h' M, Cx (fun _ => False) h h' M → R (mRZ (RZ1 a)) h') → F_simulcastref30_touch S I (mRZ RZ0) (.int .i64 a) h R := by
  intro h R c hR
  unfold F_simulcastref30_touch
  refine c.nw ERZ RZ0 rfl fun r h1 c => ?_
  refine c.nw ERZ RZ0 rfl fun r2 h2 c => ?_
  refine (c.va (i := 0) rfl).fld (j := 3) rfl ?_
  rw [br_false]
  rw [(c.va (i := 0) rfl).whole (n := 5) rfl, vb_some]
  refine c.pur (cs.find0 (z := RZ0) (a := a)) fun h3 c => ?_
  refine ext0t (ext1t ?_)
  refine c.nw EW W0 rfl fun r3 h4 c => ?_
  refine c.sto 2 rfl W0 rfl rfl fun h5 c => ?_
  refine vb (v := .bool true) rfl ?_
  rw [br_true]
  refine c.stof 0 rfl (j := 3) ⟨none, 0, 0, true, 0⟩ rfl (by decide) rfl fun h6 c => ?_
  refine c.stof 0 rfl (j := 4) (RZ1 a) rfl (by decide) rfl fun h7 c => ?_
  rw [(c.va (i := 0) rfl).whole (n := 5) rfl, vb_some]
  refine c.sto 1 rfl (RZ1 a) rfl rfl fun h8 c => ?_
  rw [(c.va (i := 1) rfl).whole (n := 5) rfl, vb_some]
  exact hR _ _ c
structure CsR1 (S : Sys) (I : Ids) : Prop where
  touch0 : ∀ {a : Int}, Pur S I.f_simulcastref30_touch [mRZ RZ0, .int .i64 a] (mRZ (RZ1 a))
theorem K_Get0 {a : Int} (cs : CsR1 S I) : ∀ h R, Cx (fun _ => False) h h [] → (∀ h' M, Cx (fun _ => False) h h' M → R (.tuple #[mRZ (RZ1 a), .int .i64 0]) h') → F_simulcastref30_Get S I (mRZ RZ0) (.int .i64 a) h R := by
  intro h R c hR
  unfold F_simulcastref30_Get
  refine c.nw ERZ RZ0 rfl fun r h1 c => ?_
  refine c.nw ERZ RZ0 rfl fun r2 h2 c => ?_
  rw [(c.va (i := 0) rfl).whole (n := 5) rfl, vb_some]
  refine c.pur (cs.touch0 (a := a)) fun h3 c => ?_
  refine c.sto 0 rfl (RZ1 a) rfl rfl fun h4 c => ?_
  refine (c.va (i := 0) rfl).fld (j := 3) rfl ?_
  rw [br_true]
  rw [(c.va (i := 0) rfl).whole (n := 5) rfl, vb_some]
  refine c.sto 1 rfl (RZ1 a) rfl rfl fun h5 c => ?_
  rw [(c.va (i := 1) rfl).whole (n := 5) rfl, vb_some]
  exact hR _ _ c
theorem K_Set0 {a v : Int} (cs : CsR1 S I) : ∀ h R, Cx (fun _ => False) h h [] → (∀ h' M, Cx (fun _ => False) h h' M → R (mRZ (RZ1 a)) h') → F_simulcastref30_Set S I (mRZ RZ0) (.int .i64 a) (.int .i64 v) h R := by
  intro h R c hR
  unfold F_simulcastref30_Set
  refine c.nw ERZ RZ0 rfl fun r h1 c => ?_
  refine c.nw ERZ RZ0 rfl fun r2 h2 c => ?_
  rw [(c.va (i := 0) rfl).whole (n := 5) rfl, vb_some]
  refine c.pur (cs.touch0 (a := a)) fun h3 c => ?_
  refine c.sto 0 rfl (RZ1 a) rfl rfl fun h4 c => ?_
  refine (c.va (i := 0) rfl).fld (j := 3) rfl ?_
  rw [br_true]
  rw [(c.va (i := 0) rfl).whole (n := 5) rfl, vb_some]
  refine c.sto 1 rfl (RZ1 a) rfl rfl fun h5 c => ?_
  rw [(c.va (i := 1) rfl).whole (n := 5) rfl, vb_some]
  exact hR _ _ c
end Go.En
