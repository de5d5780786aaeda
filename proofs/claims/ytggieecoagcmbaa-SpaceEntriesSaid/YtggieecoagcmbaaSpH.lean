/-
  A range over a function, in a context.
-/
import Derived.Test.YtggieecoagcmbaaSpG
namespace Go.En
open Prog Spc

variable {S : Sys} {I : Ids} {h h0 h' : Hp} {F F0 : Fp} {s : Value} {σ : Spc} {L : List Res}

/-- the block r holds ob -/
def rObj (r : Nat) (ob : Obj) : Res where
  P := fun h F => h[r]? = some ob ∧ ∀ q, F q ↔ q = r
  lt := fun {h F} ⟨v, hf⟩ q hq => by rw [hf] at hq; subst hq; exact (Array.getElem?_eq_some_iff.mp v).1
  loc := fun {h h' F D} ⟨v, hf⟩ c hd => ⟨by rw [c.same r (Array.getElem?_eq_some_iff.mp v).1 (hd r ((hf r).2 rfl))]; exact v, hf⟩
theorem Cx.obj {i r : Nat} {ob : Obj} (c : Cx F0 h0 h L) (hi : L[i]? = some (rObj r ob)) : h[r]? = some ob := let ⟨_, p, _⟩ := c.get hi; p
theorem Cx.pushObj (c : Cx F0 h0 h L) (ob : Obj) : Cx F0 h0 (h.push ob) (L ++ [rObj h.size ob]) :=
  c.add (F' := fun q => q = h.size) ⟨by simp, fun _ => Iff.rfl⟩ (Ch.push _ _) fun r e => by omega
theorem Cx.setObj {i r : Nat} {ob : Obj} (c : Cx F0 h0 h L) (hi : L[i]? = some (rObj r ob)) (ob' : Obj) : Cx F0 h0 (h.setIfInBounds r ob') (L.set i (rObj r ob')) := by
  obtain ⟨F, ⟨v, hf⟩, up⟩ := c.upd hi
  have hlt := (Array.getElem?_eq_some_iff.mp v).1
  refine up (F' := F) ⟨by rw [Array.getElem?_setIfInBounds, if_pos rfl, if_pos hlt], hf⟩ (mv_same ⟨by simp, fun q hq hn => ?_⟩)
  rw [Array.getElem?_setIfInBounds, if_neg (fun e => hn ((hf q).2 e.symm))]
/-- the loop's record -/
def lpO (o : Loop) (st : LoopState) (pd : Option Code) : Obj := .loop { o with state := st, pending := pd }
theorem Cx.lpat {i l : Nat} {o : Loop} {st : LoopState} {pd : Option Code} (c : Cx F0 h0 h L) (hi : L[i]? = some (rObj l (lpO o st pd))) : LpAt o l h := ⟨st, pd, c.obj hi⟩
theorem Cx.bgn {i l : Nat} {o : Loop} {pd : Option Code} (c : Cx F0 h0 h L) (hi : L[i]? = some (rObj l (lpO o .ready pd))) {k : Hp → Prop} (hk : ∀ h', Cx F0 h0 h' (L.set i (rObj l (lpO o .busy pd))) → k h') : Sb (En.bgn l h) k := by
  refine sb ?_ (hk _ (c.setObj hi _))
  unfold En.bgn
  rw [c.obj hi]
  rfl
theorem Cx.fin' {i l : Nat} {o : Loop} {st : LoopState} {pd : Option Code} (j : Option Code) (c : Cx F0 h0 h L) (hi : L[i]? = some (rObj l (lpO o st pd))) {k : Hp → Prop} (hk : ∀ h', Cx F0 h0 h' (L.set i (rObj l (lpO o (if j.isNone then .ready else .done) j))) → k h') : Sb (En.fin l j h) k := by
  refine sb ?_ (hk _ (c.setObj hi _))
  unfold En.fin
  rw [c.obj hi]
  rfl
theorem Cx.endl {i l : Nat} {o : Loop} {st : LoopState} {pd : Option Code} (c : Cx F0 h0 h L) (hi : L[i]? = some (rObj l (lpO o st pd))) (hs : st ≠ .busy) : ∃ h', En.endl l h = some (pd, h') ∧ Cx F0 h0 h' (L.set i (rObj l (lpO o .exhausted pd))) := by
  refine ⟨_, ?_, c.setObj hi _⟩
  unfold En.endl
  rw [c.obj hi]
  cases st <;> first | rfl | exact absurd rfl hs
theorem Cx.tkd {i r : Nat} (c : Cx F0 h0 h L) (hi : L[i]? = some (rObj r (.deferred (some [])))) {k : Hp → Prop} (hk : ∀ h', Cx F0 h0 h' (L.set i (rObj r (.deferred none))) → k h') : Sb (En.tkd r h) k := by
  refine sb ?_ (hk _ (c.setObj hi _))
  unfold En.tkd
  rw [c.obj hi]
/-- a range over a function: the function is called with the loop's record at hand -/
theorem Cx.rg {g : Value} {round : Nat → List Value → Hp → (Value → Hp → Prop) → Prop} {aft : Option Code → Hp → Prop} (c : Cx F0 h0 h L) {f : FuncId} {first cap : List Value} (hg : g = .func (.func f) ⟨first⟩ ⟨cap⟩)
    (hk : ∀ l d o h', d = h.size → (∀ args h' R, LpAt o l h' → round l args h' R → S.Y l args h' R) → Cx F0 h0 h' (L ++ [rObj d (.deferred (some []))] ++ [rObj l (lpO o .ready none)]) →
      S.C f (first ++ [.func (.yield l) #[] #[]] ++ cap) h' fun _ h2 => ∃ j h3, En.endl l h2 = some (j, h3) ∧ aft j h3) : Rg S.C S.Y g h round aft := by
  intro o ho hp hY
  have c1 := (c.pushObj (.deferred (some []))).pushObj (.loop o)
  have e1 : (h.push (.deferred (some []))).size = h.size + 1 := by simp
  rw [e1] at c1
  have e2 : Obj.loop o = lpO o .ready none := by unfold lpO; rw [← ho, ← hp]
  refine ⟨f, ⟨first⟩, ⟨cap⟩, hg, ?_⟩
  rw [e2] at c1 ⊢
  exact hk _ _ o _ rfl hY c1
/-- a new slice of one element -/
theorem Cx.bsl1 {α : Type} (E : Enc α) (x : α) (c : Cx F0 h0 h L) {e : TypeId} {zero : Array Value} {n : Nat} {w : Value} {k : Value → Hp → Prop} (hn : n = E.n) (hw : w.cells.toList = E.c x)
    (hk : ∀ u h', Cx F0 h0 h' (L ++ [rSl E u [x]]) → k u h') : Eb (bsl zero n 1 e [(0, w)] h) k := by
  refine eb (bsl_ok (us := [w]) rfl rfl (fun u hu => by simp only [List.mem_singleton] at hu; subst hu; rw [hn, ← E.len x, ← hw]; rfl)) (hk _ _ (c.add (F' := fun q => q = h.size) ⟨Ow.lit (xs := [x]) (by simp [hw]) rfl, fun q => by simp [blk, eq_comm]⟩ (Ch.push _ _) fun r e => by omega))
/-- a new slice of no elements -/
theorem Cx.bsl0 {α : Type} (E : Enc α) (c : Cx F0 h0 h L) {e : TypeId} {zero : Array Value} {n : Nat} {k : Value → Hp → Prop}
    (hk : ∀ u h', Cx F0 h0 h' (L ++ [rSl E u []]) → k u h') : Eb (bsl zero n 0 e [] h) k := by
  refine eb (bsl_ok (us := []) rfl rfl (fun u hu => by cases hu)) (hk _ _ (c.add (F' := fun q => q = h.size) ⟨Ow.lit (xs := ([] : List α)) (by simp) rfl, fun q => by simp [blk, eq_comm]⟩ (Ch.push _ _) fun r e => by omega))
/-- a slice appended to a slice of the context -/
theorem Cx.ap {α : Type} {E : Enc α} {v : Value} {xs ys : List α} (c : Cx F0 h0 h L) (i : Nat) (hi : L[i]? = some (rSl E v xs)) {x : Value} (hx : Sl E h x ys) {e : TypeId} {zero : Array Value} {n bytes : Nat} {k : Value → Hp → Prop}
    (hn : n = E.n) (hz : zero.size = E.n) (hb : (xs.length + ys.length) * bytes ≤ 140737488355328) (hl : xs.length + ys.length ≤ 9223372036854775807)
    (hk : ∀ v' h', Cx F0 h0 h' (L.set i (rSl E v' (xs ++ ys))) → k v' h') : Ap e zero n bytes v x h k := by
  obtain ⟨F, ⟨o, hf⟩, up⟩ := c.upd hi
  refine apw o hx hn hz hb hl fun v' h' o' ch nw => hk v' h' (up (F' := fun q => blk v' = some q) ⟨o', fun _ => Iff.rfl⟩ ⟨ch.mono fun q _ e => (hf q).2 e, fun r hr => ?_⟩)
  rcases nw r hr with h1 | h1
  · exact .inl ((hf r).2 h1)
  · exact .inr h1
/-- a literal slice -/
theorem Cx.bslN {α : Type} (E : Enc α) (xs : List α) (us : List Value) (c : Cx F0 h0 h L) {e : TypeId} {zero : Array Value} {n len : Nat} {parts : List (Nat × Value)} {k : Value → Hp → Prop}
    (hp : parts = us.zipIdx.map fun x => (x.2, x.1)) (hl : us.length = len) (hl2 : xs.length = len) (hu : ∀ u, u ∈ us → u.cells.size = n) (hc : (us.flatMap fun u => u.cells.toList) = xs.flatMap E.c)
    (hk : ∀ a h', Cx F0 h0 h' (L ++ [rSl E (.slice (some a) len len) xs]) → k (.slice (some a) len len) h') : Eb (bsl zero n len e parts h) k :=
  eb (bsl_ok hp hl hu) (hk _ _ (c.add (F' := fun q => q = h.size) ⟨Ow.lit hc hl2, fun q => by simp [blk, eq_comm]⟩ (Ch.push _ _) fun r e => by omega))
/-- a nil slice is added -/
theorem Cx.nil {α : Type} (E : Enc α) (c : Cx F0 h0 h L) : Cx F0 h0 h (L ++ [rSl E (.slice none 0 0) []]) :=
  c.add (F' := fun _ => False) ⟨.nil, fun q => by simp [blk]⟩ (.refl _ _) fun r e => e.elim

end Go.En
