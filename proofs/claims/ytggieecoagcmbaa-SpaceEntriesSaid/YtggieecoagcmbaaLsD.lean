/-
  The example of layer 30.
-/
import Derived.Test.YtggieecoagcmbaaLsC
namespace Go.En
open Prog Spc Go.Sort

variable {S : Sys} {I : Ids} {h h0 h' : Hp} {F F0 : Fp} {R : Value → Hp → Prop} {L : List Res} {s : Value} {σ : Spc}

structure CsR4 (S : Sys) (I : Ids) : Prop extends CsR2 S I, CsH S I where
  same30 : ∀ {a b : Value} {xs : List Int} {h R}, xs.length ≤ 1000000 → Sl EI1 h a xs → Sl EI1 h b xs → R (.bool true) h → S.C I.f_simulcastref30_Same [a, b] h R
  alike : ∀ {a b : Value} {xs : List E6} {h R}, xs.length ≤ 1000000 → Sl EE h a xs → Sl EE h b xs → R (.bool true) h → S.C I.f_simulcastref30_Alike [a, b] h R
  act : ∀ {x : Ac} {s : Value} {σ : Spc} {F h R}, R64 x.v → x.d < 256 → σ.pu.length ≤ big → (rSpace s σ).P h F → (∀ y z h', Cx F h h' [rSpace s (σ.act x)] → R (.tuple #[y, z]) h') → S.C I.f_simulcastlaw30_do [s, mRZ RZ0, mAc x] h R

/-! ### The same in a context -/
theorem Cx.cAct {x : Ac} (cs : CsR4 S I) (c : Cx F0 h0 h L) (i : Nat) (hi : L[i]? = some (rSpace s σ)) (hv : R64 x.v) (hd : x.d < 256) (hl : σ.pu.length ≤ big)
    (k : ∀ y z h', Cx F0 h0 h' (L.set i (rSpace s (σ.act x))) → R (.tuple #[y, z]) h') : S.C I.f_simulcastlaw30_do [s, mRZ RZ0, mAc x] h R := by
  obtain ⟨F1, c1, up⟩ := c.frame hi
  obtain ⟨F', a, m⟩ := c1.fin
  exact cs.act hv hd hl a fun y z h' c2 => k y z h' (by simpa using up (M := []) (c2.wk m.2))
/-- the space of the example -/
def aw1 : Spc := (((((newS [(3, ⟨5, 2, 0⟩)]).get 3).2.put 3 7).get 3).2.put 3 9).back 1
theorem K_awake30 (cs : CsR4 S I) (hR : ∀ h', Gr h h' → R (.bool true) h') : F_simulcastlaw30_awake S I h R := by
  unfold F_simulcastlaw30_awake
  have c := Cx.start0 h
  refine c.mmk .i64 mW fun m h1 c => ?_
  refine vb (v := mW ⟨5, 2, 0⟩) (by kernel_rfl) ?_
  refine c.mup 0 rfl 3 ⟨5, 2, 0⟩ rfl fun h2 c => ?_
  obtain ⟨F1, c1, up⟩ := c.frame (i := 0) rfl
  refine cs.new (ps := [(3, ⟨5, 2, 0⟩)]) (by simp) (fun p hp => by simp only [List.mem_singleton] at hp; subst hp; exact ⟨by simp, by simp⟩) c1 fun s h3 c2 => ?_
  have c := up c2
  clear c1 up c2
  refine c.cGet cs.toCsD 1 rfl fun h4 c => ?_
  refine c.cPut cs.toCsD 1 rfl ⟨by simp, by simp⟩ (by decide) fun h4 c => ?_
  refine c.cGet cs.toCsD 1 rfl fun h4 c => ?_
  refine c.cMark cs.toCsD 1 rfl fun h4 c => ?_
  refine c.cPut cs.toCsD 1 rfl ⟨by simp, by simp⟩ (by decide) fun h4 c => ?_
  refine c.cBack cs.toCsD 1 rfl fun h4 c => ?_
  have ek : ∀ a w, aw1.kn a = some w → w.ref = 0 := newS_ref (ps := [(3, ⟨5, 2, 0⟩)])
  have er : aw1.rd = [3] := rfl
  refine c.cEntries cs.toCsH 1 (s := s) (σ := aw1) rfl (by rw [er]; decide) ek fun v h5 c => ?_
  have es : aw1.ents = ([⟨3, ⟨5, 2, 0⟩, 7, true⟩], 0) := by
    have : aw1.entl = [⟨3, ⟨5, 2, 0⟩, 7, true⟩] := by
      unfold Spc.entl
      rw [er, show sorted [3] = [3] from le_perm_eq (sorted_le _) (by simp) (sorted_perm _)]
      rfl
    unfold Spc.ents
    rw [this]
    rfl
  rw [es] at c ⊢
  refine ext0t (ext1t ?_)
  refine c.cGet cs.toCsD 1 rfl fun h6 c => ?_
  obtain ⟨F2, a2⟩ := c.get (i := 1) rfl
  refine cs.need a2 ?_
  refine ext0t (ext1t ?_)
  refine .here ?_
  refine vb (v := .bool true) rfl ?_
  rw [br_true]
  refine vb (v := .bool true) rfl ?_
  rw [br_true]
  refine vb (v := .bool true) rfl ?_
  rw [br_true]
  refine vb (v := .bool true) rfl ?_
  rw [br_true]
  rw [Sl.ln (c.sl (i := 2) rfl).sl, vb_some]
  refine vb (v := .bool true) rfl ?_
  rw [br_true]
  refine (c.sl (i := 2) rfl).sl.whole (i := 0) rfl rfl rfl ?_
  refine vb (v := mW ⟨5, 2, 0⟩) (by kernel_rfl) ?_
  refine vb (v := mE ⟨3, ⟨5, 2, 0⟩, 7, true⟩) (bldE 3 ⟨5, 2, 0⟩ 7 true) ?_
  refine vb (v := .bool true) rfl ?_
  rw [br_true]
  refine vb (v := .bool true) rfl ?_
  rw [br_true]
  refine vb (v := .bool true) rfl ?_
  rw [br_true]
  refine Eq.mpr (by rfl) (cs.ended a2 (R := R) ?_)
  exact hR _ c.gr
end Go.En
