/-
  The engine, part R: structs and arrays among the arguments; arrays in variables.
-/
import Derived.Test.YtggieecoagcmbaaEngP
import Derived.Test.YtggieecoagcmbaaEngQ
import Derived.OpenShut
namespace Go.En
open Go.ChangeShapes Go.WideShapes Go.ChangeAt Go.RowKit Go.Deep

/-- an array of n whole numbers -/
def EAr (ik : IntKind) (n : Nat) : Enc (Nat → Int) := { n := n, c := fun f => (List.range n).map fun i => .int ik (f i), len := fun _ => by simp, one := fun a v h => by obtain ⟨i, _, rfl⟩ := List.mem_map.1 h; rfl }
theorem EAr_get {ik : IntKind} {n i : Nat} {f : Nat → Int} (h : i < n) : ((EAr ik n).c f)[i]? = some (.int ik (f i)) := by
  show ((List.range n).map fun i => Value.int ik (f i))[i]? = _
  simp [h]

section
variable {H : Type} {enc : TypeId × Value → H} {P : Program} {W : World}
def isAgg (P : Program) (t : TypeId) : Bool := match P.underlying t with | some (.struct _) => true | some (.array _ _) => true | _ => false
theorem ag_open {α : Type} {E : Enc α} {Q : α → Prop} {t : TypeId} {v : Value} {d : DataW H} {p : List MemPlace} {base : Nat} (hu : isAgg P t = true)
    (hel : ∀ n cs y, DataW.trod enc P W 0 (fun _ => true) true n t cs = some y → ∃ x, cs = E.c x ∧ Q x)
    (hv : Value.okWide P W .any base t v) (h : DataW.Trod enc P W 0 (fun _ => true) true t v d p) : ∃ x, v = .agg ⟨E.c x⟩ ∧ Q x := by
  have : ∃ cs, v = .agg cs := by
    unfold isAgg at hu
    unfold Value.okWide at hv
    split at hu <;> simp_all
    all_goals (obtain ⟨cs, e, _⟩ := hv; exact ⟨cs, e⟩)
  obtain ⟨cs, rfl⟩ := this
  obtain ⟨fuel, hf⟩ := h
  obtain ⟨x, hx, hq⟩ := hel _ _ _ hf
  refine ⟨x, ?_, hq⟩
  have : cs = ⟨E.c x⟩ := by
    rw [← hx]; simp [Value.cells]
  rw [this]
theorem el_arr {t e : TypeId} {ik : IntKind} {n : Nat} (ht : P.underlying t = some (.array n e)) (he : P.underlying e = some (.int ik)) (hc : P.cellsOf e = 1) (hn : P.cellsOf t = n) :
    ∀ m cs y, DataW.trod enc P W 0 (fun _ => true) true m t cs = some y → ∃ f : Nat → Int, cs = (EAr ik n).c f ∧ ∀ i, i < n → (Lit.int ik (f i)).wf = true := by
  intro m cs y h
  obtain ⟨xs, m', _, _, hlen, hxl, hat⟩ := DataW.trod_array ht h
  rw [hn] at hlen
  have key : ∀ i, i < n → ∃ z, cs[i]? = some (.int ik z) ∧ (Lit.int ik z).wf = true := by
    intro i hi
    have t0 := hat i hi
    rw [hc, Nat.mul_one, List.getElem?_eq_getElem (by omega : i < xs.length)] at t0
    have hone : (cs.drop i).take 1 = [cs[i]'(by omega)] := by
      rw [List.drop_eq_getElem_cons (by omega)]; rfl
    rw [hone] at t0
    obtain ⟨z, e1, _, w⟩ := DataW.trod_int he t0
    simp only [List.cons.injEq, and_true] at e1
    exact ⟨z, by rw [List.getElem?_eq_getElem (by omega), e1], w⟩
  refine ⟨fun i => match cs[i]? with | some (.int _ z) => z | _ => 0, ?_, fun i hi => ?_⟩
  · refine List.ext_getElem? fun i => ?_
    by_cases hi : i < n
    · obtain ⟨z, e1, _⟩ := key i hi
      rw [EAr_get hi, e1]
    · rw [List.getElem?_eq_none (by omega), List.getElem?_eq_none (by rw [(EAr ik n).len]; exact Nat.le_of_not_lt hi)]
  · obtain ⟨z, e1, w⟩ := key i hi
    simp only [e1]
    exact w
end

section
variable {h : Hp} {r n : Nat} {ik : IntKind} {f : Nat → Int}
theorem ixa_at {q : IntKind} {z : Int} {i : Nat} (hz : z = i) (hi : i < n) (o : Nat) : ixa n 1 (.pointer (some ⟨r, o, none⟩)) (.int q z) = some (.pointer (some ⟨r, o + i, none⟩)) := by
  subst hz
  have : (0 : Int) ≤ (i : Int) ∧ (i : Int) < n := by omega
  simp only [ixa, this, and_self, if_true, addN, Int.toNat_natCast, Nat.mul_one]
/-- an element of an array is read -/
theorem Va.ix (H : Va (EAr ik n) h r f) {q : IntKind} {z : Int} {i : Nat} (hz : z = i) (hi : i < n) {k : Value → Prop} (hk : k (.int ik (f i))) : Vb (ixa n 1 (at0 r) (.int q z)) fun p => Vb (ldc p h) k := by
  rw [show at0 r = .pointer (some ⟨r, 0, none⟩) from rfl, ixa_at hz hi, vb_some]
  exact vb (H.row.ldc (EAr_get hi)) hk
end
end Go.En
