/-
  Layer 30: the laws' contracts, joined over the program.
-/
import Derived.Test.YtggieecoagcmbaaLsI
import Derived.Test.YtggieecoagcmbaaSoJ
namespace Go.En
open Go.ChangeShapes Go.WideShapes Prog Go.Sort

theorem csR0 : CsR0 (Sys.of Go.Proofs.Try.prog) ids := ⟨Pur.of fun h R c k => C_simulcastref30_find (K_find0 h R c k)⟩
theorem csR1 : CsR1 (Sys.of Go.Proofs.Try.prog) ids := ⟨Pur.of fun h R c k => C_simulcastref30_touch (K_touch0 csR0 h R c k)⟩
theorem csR3 : CsR3 (Sys.of Go.Proofs.Try.prog) ids := ⟨Pur.of fun h R c k => C_simulcastref30_touch (K_touch1 h R c k)⟩
theorem csR2 : CsR2 (Sys.of Go.Proofs.Try.prog) ids := { csD with
  get0 := Pur.of fun h R c k => C_simulcastref30_Get (K_Get0 csR1 h R c k)
  set0 := Pur.of fun h R c k => C_simulcastref30_Set (K_Set0 csR1 h R c k)
  set1 := Pur.of fun h R c k => C_simulcastref30_Set (K_Set1 csR3 h R c k)
  back0 := fun k => C_simulcastref30_Back (K_Back0 k) }
theorem csR4 : CsR4 (Sys.of Go.Proofs.Try.prog) ids := { csR2, csH with
  same30 := fun a b c k => C_simulcastref30_Same (K_Same30 a b c k)
  alike := fun a b c k => C_simulcastref30_Alike (K_Alike a b c k)
  act := fun a b c d k => C_simulcastlaw30_do (K_do csR2 a b c d k) }
theorem csR5 : CsR5 (Sys.of Go.Proofs.Try.prog) ids := { csR4 with awake := fun k => C_simulcastlaw30_awake (K_awake30 csR4 k) }
theorem csR6 : CsR6 (Sys.of Go.Proofs.Try.prog) ids := { csR5 with program := fun a b c d k => C_simulcastlaw30_program (K_program csD a b c d k) }

/-- an act among the arguments -/
theorem el_ac {H : Type} {enc : TypeId × Value → H} {P : Program} {W : World} {e : TypeId} (hs : shp P e [some .u8, some .i64, some .i64] = true) :
    ∀ n cs y, DataW.trod enc P W 0 (fun _ => true) true n e cs = some y → ∃ x : Ac, cs = EAc.c x ∧ x.ok := by
  intro n cs y h
  obtain ⟨hlen, hf⟩ := el_shape hs n cs y h
  match cs, hlen with
  | [c0, c1, c2], _ =>
    obtain ⟨z0, e0, w0⟩ := hf 0 _ rfl
    obtain ⟨z1, e1, w1⟩ := hf 1 _ rfl
    obtain ⟨z2, e2, w2⟩ := hf 2 _ rfl
    simp only [List.getElem?_cons_zero, List.getElem?_cons_succ, Option.some.injEq] at e0 e1 e2
    have b0 := wf_u8 w0
    refine ⟨⟨z0.toNat, z1, z2⟩, ?_, ⟨by show z0.toNat < 256; omega, wf_i64 w1, wf_i64 w2⟩⟩
    rw [e0, e1, e2]
    show _ = [Value.int .u8 ((z0.toNat : Nat) : Int), _, _]
    rw [Int.toNat_of_nonneg b0.1]
theorem el_u8 {H : Type} {enc : TypeId × Value → H} {P : Program} {W : World} {e : TypeId} (he : P.underlying e = some (.int .u8)) : ∀ n cs y, DataW.trod enc P W 0 (fun _ => true) true n e cs = some y → ∃ x : Int, cs = [.int .u8 x] ∧ (0 ≤ x ∧ x ≤ 255) := by
  intro n cs y h
  obtain ⟨z, rfl, _, hw⟩ := DataW.trod_int he h
  exact ⟨z, rfl, wf_u8 hw⟩
theorem wf_i8 {z : Int} (h : (Lit.int .i8 z).wf = true) : -128 ≤ z ∧ z ≤ 127 := by
  have h1 : IntKind.i8.min = -128 := rfl
  have h2 : IntKind.i8.max = 127 := rfl
  simp only [Lit.wf, Bool.and_eq_true, decide_eq_true_eq] at h
  exact ⟨by omega, by omega⟩
end Go.En
