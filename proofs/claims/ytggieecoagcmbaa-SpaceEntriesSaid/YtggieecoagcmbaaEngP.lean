/-
  The engine, part P: from a contract to a row of the form 'for every input true, and the arguments read as before'.
-/
import Derived.Test.YtggieecoagcmbaaEngO
import Derived.ProofKit
import Derived.SizedLaws
import Derived.Deep.Slices
import Derived.Deep.Fields
namespace Go.En
open Go.ChangeShapes Go.WideShapes Go.ChangeAt Go.RowKit Go.Deep

section
variable {H : Type} {enc : TypeId × Value → H} {P : Program} {W W' : World}

theorem trodAll_len {w : World} {base : Nat} {spare : Nat → Bool} {held : Bool} : ∀ {ts : List TypeId} {vs : List Value} {ds : List (DataW H)} {ps : List MemPlace}, DataW.TrodAll enc P w base spare held ts vs ds ps → vs.length = ts.length ∧ ds.length = ts.length
  | [], [], [], _, _ => ⟨rfl, rfl⟩
  | _ :: ts, _ :: vs, _ :: ds, _, h => by
    obtain ⟨p, q, _, h2, _⟩ := h
    have := trodAll_len h2
    simp [this.1, this.2]
  | [], [], _ :: _, _, h => h.elim
  | [], _ :: _, _, _, h => h.elim
  | _ :: _, [], _, _, h => h.elim
  | _ :: _, _ :: _, [], _, h => h.elim

theorem trodAll_below (hl : laidOutB P = true) (hb : Below W.heap.size W W') : ∀ {ts : List TypeId} {vs : List Value} {ds : List (DataW H)} {ps : List MemPlace}, (ts.all fun t => P.readableRec t && decide (t < P.types.size)) = true →
    (∀ x ∈ ps, x.block < W.heap.size) → DataW.TrodAll enc P W 0 (fun _ => true) true ts vs ds ps → DataW.TrodAll enc P W' 0 (fun b => decide (b < W.heap.size)) true ts vs ds ps
  | [], [], [], _, _, _, h => h
  | t :: ts, v :: vs, d :: ds, ps, hr, hlt, h => by
    obtain ⟨p, q, h1, h2, rfl⟩ := h
    simp only [List.all_cons, Bool.and_eq_true, decide_eq_true_eq] at hr
    exact ⟨p, q, Below.trod hl hr.1.1 hr.1.2 h1 hb (fun x hx => hlt x (List.mem_append_left _ hx)),
      trodAll_below hl hb (by simpa using hr.2) (fun x hx => hlt x (List.mem_append_right _ hx)) h2, rfl⟩
  | [], [], _ :: _, _, _, _, h => h.elim
  | [], _ :: _, _, _, _, _, h => h.elim
  | _ :: _, [], _, _, _, _, h => h.elim
  | _ :: _, _ :: _, [], _, _, _, h => h.elim

/-- the contract, as the row's form asks for it -/
theorem true_calls {f : FuncId} {fn : Func} {spec : ChangeSpec} {tb : TypeId} {args : Array Value} {ds gs : List (DataW H)} {before : List MemPlace}
    (hl : laidOutB P = true) (hr : (fn.params.toList.all fun t => P.readableRec t && decide (t < P.types.size)) = true) (hvars : spec.vars = []) (hres : fn.resultTypes = #[tb]) (htb : P.underlying tb = some .bool)
    (hfn : ∀ ds : List (DataW H), ds.length = fn.params.toList.length → spec.fn H (ds ++ []) = { results := [.lit (.bool true)], args := ds })
    (hW : DataW.Whole enc P fn.params.toList spec.vars false W args.toList ds gs before)
    (hc : Sp P f args.toList W.heap (fun v h' => v = .bool true ∧ Gr W.heap h')) :
    Calls P f args W (fun e W' => ∃ v, e = .returned v ∧ spec.post enc P fn false true false false W args v W') := by
  have := hc W rfl
  rw [Array.toArray_toList] at this
  refine this.mono ?_
  rintro e W' ⟨v, rfl, ⟨rfl, hg⟩, hrst⟩
  refine ⟨_, rfl, ?_⟩
  have hb : Below W.heap.size W W' := ⟨hrst.os, hrst.tape, hrst.output, hg.size, fun k hk => hg.same k hk (fun e => e)⟩
  have hW0 := hW
  obtain ⟨p, q, hA, hV, rfl, hn, ha⟩ := hW
  rw [hvars] at hV
  have hgs : gs = [] ∧ q = [] := by
    cases gs with
    | nil => exact ⟨rfl, hV⟩
    | cons g gs => exact hV.elim
  obtain ⟨rfl, rfl⟩ := hgs
  have hlen := trodAll_len hA
  have hf := hfn ds hlen.2
  have hlt : ∀ x ∈ p, x.block < W.heap.size := fun x hx => by simpa using hW0.lt x (by simpa using hx)
  refine ⟨ds, [], p ++ [], [] ++ [], p, [], hW0, ?_, ?_, ?_, hb.frame _, fun h => by cases h⟩
  · rw [hf, hres]
    exact ⟨[], [], ⟨1, by simp [DataW.trod, htb, Value.cells]⟩, rfl, rfl⟩
  · rw [hf]
    exact trodAll_below hl hb hr hlt hA
  · rw [hvars, hf]
    rfl

theorem list_of {α : Type} {Q : Nat → α → Prop} : ∀ (n : Nat), (∀ i, i < n → ∃ x, Q i x) → ∃ xs : List α, xs.length = n ∧ ∀ i x, xs[i]? = some x → Q i x
  | 0, _ => ⟨[], rfl, fun i x h => by simp at h⟩
  | n + 1, h => by
    obtain ⟨xs, hl, hx⟩ := list_of n fun i hi => h i (by omega)
    obtain ⟨y, hy⟩ := h n (by omega)
    refine ⟨xs ++ [y], by simp [hl], fun i x hi => ?_⟩
    by_cases hlt : i < xs.length
    · rw [List.getElem?_append_left hlt] at hi; exact hx i x hi
    · rw [List.getElem?_append_right (by omega)] at hi
      have : i = n := by
        have := (List.getElem?_eq_some_iff.mp hi).1
        simp at this; omega
      subst this
      rw [hl, Nat.sub_self] at hi
      simp only [List.getElem?_cons_zero, Option.some.injEq] at hi
      subst hi; exact hy

/-- a slice among the arguments, as data -/
theorem sl_open {α : Type} {E : Enc α} {Q : α → Prop} {t e : TypeId} {v : Value} {d : DataW H} {p : List MemPlace} {base : Nat} (ht : P.underlying t = some (.slice e)) (hn : P.cellsOf e = E.n) (hpos : 0 < E.n)
    (hel : ∀ n cs y, DataW.trod enc P W 0 (fun _ => true) true n e cs = some y → ∃ x, cs = E.c x ∧ Q x)
    (hv : Value.okWide P W .any base t v) (h : DataW.Trod enc P W 0 (fun _ => true) true t v d p) : ∃ xs, Sl E W.heap v xs ∧ ∀ x ∈ xs, Q x := by
  obtain ⟨a0, len0, cap0, rfl⟩ := okWide_slice ht hv
  obtain ⟨fuel, hf⟩ := h
  rcases open_slice ht hf with ⟨hcs, _⟩ | ⟨a, len, cap, m, n, D, Pl, hcs, _, hl, _, hm, _, hi⟩
  · simp [Value.cells] at hcs
    obtain ⟨rfl, rfl, rfl⟩ := hcs
    exact ⟨[], .nil, fun x hx => by simp at hx⟩
  · simp [Value.cells] at hcs
    obtain ⟨rfl, rfl, rfl⟩ := hcs
    simp only [if_true] at hm
    subst hm
    have hx : ∀ i, i < len0 → ∃ x, (∀ j u, (E.c x)[j]? = some u → W.cell? (a.add (i * E.n + j)) = some u) ∧ Q x := by
      intro i hlt
      obtain ⟨cs', hc, ht'⟩ := hi i (by omega)
      obtain ⟨x, rfl, hq⟩ := hel _ _ _ ht'
      obtain ⟨_, hcl, hat⟩ := World.cells?_some hc
      refine ⟨x, fun j u hu => ?_, hq⟩
      have hj : j < P.cellsOf e := by rw [hn]; have := (List.getElem?_eq_some_iff.mp hu).1; rwa [E.len] at this
      have := hat j hj
      rw [hu, hn, Go.Deep.add_add] at this
      exact this
    obtain ⟨xs, hlen, hxs⟩ := list_of len0 hx
    refine ⟨xs, ⟨some a, m, by rw [hlen], by omega, fun e => by simp at e, fun i x hix => ?_⟩, fun x hx => ?_⟩
    · have hc := (hxs i x hix).1
      have hlt := (List.getElem?_eq_some_iff.mp hix).1
      have hsp : a.spot = none := by
        have h0 : 0 < xs.length := by omega
        have hc0 := (hxs 0 xs[0] (by simp)).1
        have hl0 : 0 < (E.c xs[0]).length := by rw [E.len]; exact hpos
        have := World.cell?_spot (hc0 0 _ (List.getElem?_eq_getElem hl0))
        simpa [Addr.add] using this
      obtain ⟨b, off, spot⟩ := a
      simp only at hsp
      subst hsp
      refine ⟨b, off, rfl, fun j u hu => ?_⟩
      have := hc j u hu
      rw [addN, cellAt_eq, cellAt_cl] at this
      rw [Nat.add_assoc]; exact this
    · obtain ⟨i, hi, rfl⟩ := List.mem_iff_getElem.mp hx
      exact (hxs i _ (List.getElem?_eq_getElem hi)).2

def inI64 (z : Int) : Prop := -9223372036854775808 ≤ z ∧ z ≤ 9223372036854775807
theorem el_i64 {e : TypeId} (he : P.underlying e = some (.int .i64)) : ∀ n cs y, DataW.trod enc P W 0 (fun _ => true) true n e cs = some y → ∃ x : Int, cs = [.int .i64 x] ∧ inI64 x := by
  intro n cs y h
  obtain ⟨z, rfl, _, hw⟩ := DataW.trod_int he h
  refine ⟨z, rfl, ?_⟩
  have h1 : IntKind.i64.min = -9223372036854775808 := rfl
  have h2 : IntKind.i64.max = 9223372036854775807 := rfl
  simp only [Lit.wf, Bool.and_eq_true, decide_eq_true_eq] at hw
  exact ⟨by omega, by omega⟩

/-- a struct of one-cell fields: integers of a kind, or bools -/
def fld1 (P : Program) (f : Field) (i : Nat) (k : Option IntKind) : Bool :=
  Nat.beq f.offset i && Nat.beq (P.cellsOf f.type) 1 && (match P.underlying f.type, k with
    | some (.int a), some b => a == b
    | some .bool, none => true
    | _, _ => false)
def flds (P : Program) : List Field → Nat → List (Option IntKind) → Bool
  | [], _, [] => true
  | f :: fs, i, k :: ks => fld1 P f i k && flds P fs (i + 1) ks
  | _, _, _ => false
def shp (P : Program) (e : TypeId) (ks : List (Option IntKind)) : Bool :=
  Nat.beq (P.cellsOf e) ks.length && (match P.underlying e with
    | some (.struct fs) => flds P fs.toList 0 ks
    | _ => false)
theorem flds_at {P : Program} : ∀ {fs : List Field} {i : Nat} {ks : List (Option IntKind)}, flds P fs i ks = true → fs.length = ks.length ∧ ∀ (j : Nat) (k : Option IntKind), ks[j]? = some k → ∃ f, fs[j]? = some f ∧ fld1 P f (i + j) k = true
  | [], _, [], _ => ⟨rfl, fun j k h => by simp at h⟩
  | f :: fs, i, k :: ks, h => by
    simp only [flds, Bool.and_eq_true] at h
    obtain ⟨h1, h2⟩ := flds_at h.2
    refine ⟨by simp [h1], fun j q hq => ?_⟩
    cases j with
    | zero =>
      simp only [List.getElem?_cons_zero, Option.some.injEq] at hq
      subst hq
      exact ⟨f, rfl, h.1⟩
    | succ j =>
      obtain ⟨g, a, b⟩ := h2 j q (by simpa using hq)
      exact ⟨g, by simpa using a, by rw [show i + (j + 1) = i + 1 + j by omega]; exact b⟩
  | [], _, _ :: _, h => by simp [flds] at h
  | _ :: _, _, [], h => by simp [flds] at h
def cellIs (k : Option IntKind) (v : Option Value) : Prop :=
  match k with
  | some ik => ∃ z, v = some (.int ik z) ∧ (Lit.int ik z).wf = true
  | none => ∃ b, v = some (.bool b)
theorem el_shape {e : TypeId} {ks : List (Option IntKind)} (hs : shp P e ks = true) : ∀ n cs y, DataW.trod enc P W 0 (fun _ => true) true n e cs = some y → cs.length = ks.length ∧ ∀ (j : Nat) (k : Option IntKind), ks[j]? = some k → cellIs k cs[j]? := by
  intro n cs y h
  unfold shp at hs
  rw [Bool.and_eq_true] at hs
  obtain ⟨hC, hs⟩ := hs
  have hC := Nat.eq_of_beq_eq_true hC
  split at hs <;> try contradiction
  rename_i fs hu
  obtain ⟨hl, hf⟩ := flds_at hs
  obtain ⟨xs, m, _, _, hlen, hxl, hat⟩ := DataW.trod_struct hu h
  rw [hC] at hlen
  refine ⟨hlen, fun j k hk => ?_⟩
  obtain ⟨f, h1, h2⟩ := hf j k hk
  have hj : j < ks.length := (List.getElem?_eq_some_iff.mp hk).1
  have t0 := hat j f (by simpa using h1)
  unfold fld1 at h2
  simp only [Bool.and_eq_true, Nat.zero_add] at h2
  obtain ⟨⟨o, c⟩, u⟩ := h2
  have o := Nat.eq_of_beq_eq_true o
  have c := Nat.eq_of_beq_eq_true c
  have hone : (cs.drop j).take 1 = [cs[j]'(by omega)] := by
    rw [List.drop_eq_getElem_cons (by omega)]; rfl
  rw [o, c, hone] at t0
  have hxs : xs[j]? = some (xs[j]'(by rw [hxl]; have : fs.size = ks.length := by simpa using hl
                                      omega)) := List.getElem?_eq_getElem _
  rw [hxs] at t0
  rw [List.getElem?_eq_getElem (by omega : j < cs.length)]
  split at u
  · rename_i a b hu1
    have : a = b := by simpa using u
    subst this
    obtain ⟨z, e1, _, w⟩ := DataW.trod_int hu1 t0
    simp only [List.cons.injEq, and_true] at e1
    exact ⟨z, by rw [e1], w⟩
  · rename_i hu1
    obtain ⟨b, e1, _⟩ := DataW.trod_bool hu1 t0
    simp only [List.cons.injEq, and_true] at e1
    exact ⟨b, by rw [e1]⟩
  · contradiction
theorem wf_i64 {z : Int} (h : (Lit.int .i64 z).wf = true) : inI64 z := by
  have h1 : IntKind.i64.min = -9223372036854775808 := rfl
  have h2 : IntKind.i64.max = 9223372036854775807 := rfl
  simp only [Lit.wf, Bool.and_eq_true, decide_eq_true_eq] at h
  exact ⟨by omega, by omega⟩
end
end Go.En
