/-
  A space as data; programs over a space; what they come to.
-/
import Derived.Test.YtggieecoagcmbaaSpA
namespace Go.En

abbrev R64 (z : Int) : Prop := -9223372036854775808 ≤ z ∧ z ≤ 9223372036854775807
def w64 (z : Int) : Int := IntKind.i64.wrap z
theorem w64_in (z : Int) : R64 (w64 z) := by unfold w64; rw [IntKind.wrap_i64]; omega
theorem w64_eq {z : Int} (h : R64 z) : w64 z = z := wr64 h
theorem bin_addw (a b : Int) : bin .add (.int .i64 a) (.int .i64 b) = some (.int .i64 (w64 (a + b))) := bin_add
theorem bin_subw (a b : Int) : bin .sub (.int .i64 a) (.int .i64 b) = some (.int .i64 (w64 (a - b))) := bin_sub

structure W3 where
  v : Int
  ver : Int
  ref : Int
def EW : Enc W3 := { n := 3, c := fun w => [.int .i64 w.v, .int .u32 w.ver, .int .u32 w.ref], len := fun _ => rfl, one := fun a v h => by simp only [List.mem_cons, List.not_mem_nil, or_false] at h; rcases h with rfl | rfl | rfl <;> rfl }
def mW (w : W3) : Value := .agg #[.int .i64 w.v, .int .u32 w.ver, .int .u32 w.ref]
def mB (b : Bool) : Value := .bool b
abbrev W0 : W3 := ⟨0, 0, 0⟩
def EI1 : Enc Int := { n := 1, c := fun i => [.int .i64 i], len := fun _ => rfl, one := fun a v h => by simp only [List.mem_singleton] at h; subst h; rfl }
def EB1 : Enc Bool := { n := 1, c := fun i => [.bool i], len := fun _ => rfl, one := fun a v h => by simp only [List.mem_singleton] at h; subst h; rfl }
def EPt : Enc (Int × Int) := { n := 2, c := fun o => [.int .i64 o.1, .int .i64 o.2], len := fun _ => rfl, one := fun a v h => by simp only [List.mem_cons, List.not_mem_nil, or_false] at h; rcases h with rfl | rfl <;> rfl }

/-- a space -/
structure Spc where
  kn : Int → Option W3
  rd : List Int
  pu : List (Int × Int)
  nd : Int
  en : Bool

/-- the last write of a place -/
def lastP (pu : List (Int × Int)) (at' : Int) : Option Int := (pu.reverse.find? fun p => p.1 == at').map (·.2)
theorem lastP_nil (a : Int) : lastP [] a = none := rfl
theorem lastP_app (pu : List (Int × Int)) (b v a : Int) : lastP (pu ++ [(b, v)]) a = if a = b then some v else lastP pu a := by
  unfold lastP
  rw [List.reverse_append, List.reverse_singleton, List.singleton_append, List.find?_cons]
  by_cases h : a = b
  · subst h; simp
  · have : (b == a) = false := by simpa using fun e => h e.symm
    simp [h, this]

namespace Spc
def vw (σ : Spc) (a : Int) : Int := (lastP σ.pu a).getD (((σ.kn a).map (·.v)).getD 0)
def rds (σ : Spc) (a : Int) : Spc := { σ with rd := if a ∈ σ.rd then σ.rd else σ.rd ++ [a] }
def ends (σ : Spc) (a : Int) : Spc := { σ with en := true, nd := a }
def reads (σ : Spc) (a : Int) : Bool × Spc := if σ.en then (false, σ) else if (σ.kn a).isSome then (true, σ.rds a) else (false, σ.ends a)
def get (σ : Spc) (a : Int) : Int × Spc := if σ.en then (0, σ) else if (σ.kn a).isSome then (σ.vw a, σ.rds a) else (0, σ.ends a)
def put (σ : Spc) (a v : Int) : Spc := if σ.en then σ else if (σ.kn a).isSome then { σ.rds a with pu := σ.pu ++ [(a, v)] } else σ.ends a
def back (σ : Spc) (m : Int) : Spc := if σ.en then σ else if 0 ≤ m ∧ m ≤ σ.pu.length then { σ with pu := σ.pu.take m.toNat } else σ
/-- as many writes as can be buffered -/
abbrev big : Nat := 1099511627776
/-- the values are values -/
structure wf (σ : Spc) : Prop where
  len : σ.pu.length ≤ 2305843009213693952
  kn : ∀ a w, σ.kn a = some w → R64 w.v
  pu : ∀ p ∈ σ.pu, R64 p.2
theorem wf.rds {σ : Spc} (h : σ.wf) (a : Int) : (σ.rds a).wf := ⟨h.len, h.kn, h.pu⟩
theorem wf.ends {σ : Spc} (h : σ.wf) (a : Int) : (σ.ends a).wf := ⟨h.len, h.kn, h.pu⟩
theorem wf.vw {σ : Spc} (h : σ.wf) (a : Int) : R64 (σ.vw a) := by
  unfold Spc.vw lastP
  cases hf : σ.pu.reverse.find? fun p => p.1 == a with
  | some p => exact h.pu p (List.mem_reverse.1 (List.mem_of_find?_eq_some hf))
  | none =>
    cases hk : σ.kn a with
    | some w => exact h.kn a w hk
    | none => exact ⟨by simp, by simp⟩
theorem wf.get {σ : Spc} (h : σ.wf) (a : Int) : R64 (σ.get a).1 ∧ (σ.get a).2.wf := by
  unfold Spc.get
  split
  · exact ⟨⟨by simp, by simp⟩, h⟩
  · split
    · exact ⟨h.vw a, h.rds a⟩
    · exact ⟨⟨by simp, by simp⟩, h.ends a⟩
theorem wf.put {σ : Spc} (h : σ.wf) (a : Int) {v : Int} (hv : R64 v) (hl : σ.pu.length ≤ big) : (σ.put a v).wf := by
  unfold Spc.put
  split
  · exact h
  · split
    · refine ⟨by simp only [List.length_append, List.length_singleton]; unfold big at hl; omega, h.kn, fun p hp => ?_⟩
      rcases List.mem_append.1 hp with hp | hp
      · exact h.pu p hp
      · simp only [List.mem_singleton] at hp; subst hp; exact hv
    · exact h.ends a
theorem wf.back {σ : Spc} (h : σ.wf) (m : Int) : (σ.back m).wf := by
  unfold Spc.back
  split
  · exact h
  · split
    · exact ⟨Nat.le_trans (by rw [List.length_take]; omega) h.len, h.kn, fun p hp => h.pu p (List.mem_of_mem_take hp)⟩
    · exact h
end Spc

/-! ### Programs over a space -/
inductive Prog (α : Type) where
  | ret (a : α)
  | get (a : Int) (k : Int → Prog α)
  | put (a v : Int) (k : Prog α)
  | mark (k : Int → Prog α)
  | back (m : Int) (k : Prog α)
namespace Prog
def bind {α β : Type} : Prog α → (α → Prog β) → Prog β
  | .ret a, f => f a
  | .get a k, f => .get a fun v => bind (k v) f
  | .put a v k, f => .put a v (bind k f)
  | .mark k, f => .mark fun v => bind (k v) f
  | .back m k, f => .back m (bind k f)
instance : Monad Prog where
  pure := .ret
  bind := Prog.bind
def run {α : Type} : Prog α → Spc → α × Spc
  | .ret a, σ => (a, σ)
  | .get a k, σ => run (k (σ.get a).1) (σ.get a).2
  | .put a v k, σ => run k (σ.put a v)
  | .mark k, σ => run (k σ.pu.length) σ
  | .back m k, σ => run k (σ.back m)
/-- what holds behind a program, and that its writes fit -/
def wp {α : Type} : Prog α → Spc → (α → Spc → Prop) → Prop
  | .ret a, σ, Q => Q a σ
  | .get a k, σ, Q => wp (k (σ.get a).1) (σ.get a).2 Q
  | .put a v k, σ, Q => R64 v ∧ σ.pu.length ≤ Spc.big ∧ wp k (σ.put a v) Q
  | .mark k, σ, Q => wp (k σ.pu.length) σ Q
  | .back m k, σ, Q => wp k (σ.back m) Q
theorem wp_bind {α β : Type} : ∀ (p : Prog α) (f : α → Prog β) (σ : Spc) (Q : β → Spc → Prop), wp (p >>= f) σ Q = wp p σ fun a σ' => wp (f a) σ' Q
  | .ret a, f, σ, Q => rfl
  | .get a k, f, σ, Q => wp_bind (k _) f _ Q
  | .put a v k, f, σ, Q => by
    show (_ ∧ _ ∧ wp (k >>= f) _ Q) = (_ ∧ _ ∧ wp k _ _)
    rw [wp_bind k f _ Q]
  | .mark k, f, σ, Q => wp_bind (k _) f _ Q
  | .back m k, f, σ, Q => wp_bind k f _ Q
theorem wp_mono {α : Type} : ∀ {p : Prog α} {σ : Spc} {Q Q' : α → Spc → Prop}, wp p σ Q → (∀ a σ', Q a σ' → Q' a σ') → wp p σ Q'
  | .ret a, σ, Q, Q', h, hq => hq _ _ h
  | .get a k, σ, Q, Q', h, hq => wp_mono (p := k _) h hq
  | .put a v k, σ, Q, Q', h, hq => ⟨h.1, h.2.1, wp_mono (p := k) h.2.2 hq⟩
  | .mark k, σ, Q, Q', h, hq => wp_mono (p := k _) h hq
  | .back m k, σ, Q, Q', h, hq => wp_mono (p := k) h hq
theorem wp_run {α : Type} : ∀ {p : Prog α} {σ : Spc} {Q : α → Spc → Prop}, wp p σ Q → Q (p.run σ).1 (p.run σ).2
  | .ret a, σ, Q, h => h
  | .get a k, σ, Q, h => wp_run (p := k _) h
  | .put a v k, σ, Q, h => wp_run (p := k) h.2.2
  | .mark k, σ, Q, h => wp_run (p := k _) h
  | .back m k, σ, Q, h => wp_run (p := k) h
theorem wp_pure {α : Type} (a : α) (σ : Spc) (Q : α → Spc → Prop) : wp (pure a : Prog α) σ Q = Q a σ := rfl
end Prog
/-- the four steps -/
def gt (a : Int) : Prog Int := .get a .ret
def pt (a v : Int) : Prog Unit := .put a v (.ret ())
def mk : Prog Int := .mark .ret
def bk (m : Int) : Prog Unit := .back m (.ret ())
open Prog
theorem wp_gt (a : Int) (σ : Spc) (Q : Int → Spc → Prop) : wp (gt a) σ Q = Q (σ.get a).1 (σ.get a).2 := rfl
theorem wp_pt (a v : Int) (σ : Spc) (Q : Unit → Spc → Prop) : wp (pt a v) σ Q = (R64 v ∧ σ.pu.length ≤ Spc.big ∧ Q () (σ.put a v)) := rfl
theorem wp_mk (σ : Spc) (Q : Int → Spc → Prop) : wp mk σ Q = Q σ.pu.length σ := rfl
theorem wp_bk (m : Int) (σ : Spc) (Q : Unit → Spc → Prop) : wp (bk m) σ Q = Q () (σ.back m) := rfl

/-! ### The space in the heap -/
structure SpV where
  km : Nat
  rm : Nat
  pa : Option Addr
  pl : Nat
  pc : Nat
  nd : Int
  en : Bool
abbrev SpV.pv (u : SpV) : Value := .slice u.pa u.pl u.pc
def ESp : Enc SpV := { n := 5, c := fun u => [.map (some u.km), .map (some u.rm), .slice u.pa u.pl u.pc, .int .i64 u.nd, .bool u.en], len := fun _ => rfl, one := fun a v h => by simp only [List.mem_cons, List.not_mem_nil, or_false] at h; rcases h with rfl | rfl | rfl | rfl | rfl <;> rfl }

def kOf (ps : List (Int × W3)) : Int → Option W3 := lookA ps
/-- the parts of a space -/
abbrev spParts (p : Nat) (u : SpV) (ps : List (Int × W3)) (σ : Spc) : List Res :=
  [rVar ESp p u, rMp .i64 mW (.map (some u.km)) ps, rMp .i64 mB (.map (some u.rm)) (σ.rd.map fun a => (a, true)), rSl EPt u.pv σ.pu]
def rSpace (s : Value) (σ : Spc) : Res := rEx fun x : Nat × SpV × List (Int × W3) => rIf (s = at0 x.1 ∧ x.2.1.nd = σ.nd ∧ x.2.1.en = σ.en ∧ (∀ a, lookA x.2.2 a = σ.kn a) ∧ σ.wf) (rStar (spParts x.1 x.2.1 x.2.2 σ))

section
variable {F0 : Fp} {h0 h h' : Hp} {L : List Res} {s : Value} {σ : Spc}
theorem Cx.wf (c : Cx F0 h0 h L) {i : Nat} (hi : L[i]? = some (rSpace s σ)) : σ.wf := let ⟨_, _, hp, _⟩ := c.get hi; hp.2.2.2.2

/-- a space is opened -/
theorem space_open {F : Fp} (a : (rSpace s σ).P h F) : ∃ p u ps, s = at0 p ∧ u.nd = σ.nd ∧ u.en = σ.en ∧ (∀ a, lookA ps a = σ.kn a) ∧ σ.wf ∧ Cx F h h (spParts p u ps σ) := by
  obtain ⟨⟨p, u, ps⟩, ⟨h1, h2, h3, h4, h5⟩, hs⟩ := a
  exact ⟨p, u, ps, h1, h2, h3, h4, h5, Cx.star hs⟩
/-- and shut -/
theorem space_shut {F : Fp} {p : Nat} {u : SpV} {ps : List (Int × W3)} (c : Cx F h0 h (spParts p u ps σ)) (h1 : u.nd = σ.nd) (h2 : u.en = σ.en) (h3 : ∀ a, lookA ps a = σ.kn a) (h4 : σ.wf) : ∃ F', (rSpace (at0 p) σ).P h F' ∧ Mv F h0 F' h := by
  obtain ⟨F', a, m⟩ := c.unstar
  exact ⟨F', ⟨⟨p, u, ps⟩, ⟨rfl, h1, h2, h3, h4⟩, a⟩, m⟩
end

/-- A call of f with args does to the space at s what the program says. -/
def Does {α : Type} (S : Sys) (f : Nat) (args : List Value) (s : Value) (p : Prog α) (w : α → Value) : Prop :=
  ∀ h F σ R, (rSpace s σ).P h F → wp p σ (fun a σ' => ∀ h' F', (rSpace s σ').P h' F' → Mv F h F' h' → R (w a) h') → S.C f args h R
def uI (z : Int) : Value := .int .i64 z
def uU (_ : Unit) : Value := .tuple #[]
def uB (b : Bool) : Value := .bool b
@[go_sem] theorem uI_def (z : Int) : uI z = .int .i64 z := rfl
@[go_sem] theorem uU_def (z : Unit) : uU z = .tuple #[] := rfl
@[go_sem] theorem uB_def (b : Bool) : uB b = .bool b := rfl

section
variable {F0 : Fp} {h0 h h' : Hp} {L : List Res} {s : Value} {σ : Spc} {S : Sys}
/-- a call, in a walk; the program goes along -/
theorem Cx.does {α β : Type} {f : Nat} {args : List Value} {p : Prog α} {w : α → Value} {R : Value → Hp → Prop} {q : α → Prog β} {Q : β → Spc → Prop} (D : Does S f args s p w) (c : Cx F0 h0 h L) (i : Nat) (hi : L[i]? = some (rSpace s σ))
    (hp : wp (p >>= q) σ Q) (k : ∀ a σ' h', Cx F0 h0 h' (L.set i (rSpace s σ')) → wp (q a) σ' Q → R (w a) h') : S.C f args h R := by
  obtain ⟨F, a, up⟩ := c.upd hi
  rw [Prog.wp_bind] at hp
  exact D h F σ R a (Prog.wp_mono hp fun a σ' hq h' F' a' m => k a σ' h' (up a' m) hq)
/-- what a program's value is, whatever the space -/
def Ens {α : Type} (p : Prog α) (P : α → Prop) : Prop := ∀ σ (Q : α → Spc → Prop), σ.wf → wp p σ Q → wp p σ fun a σ' => P a ∧ σ'.wf ∧ Q a σ'
theorem Ens.pure {α : Type} {a : α} {P : α → Prop} (h : P a) : Ens (pure a : Prog α) P := fun _ _ w hq => ⟨h, w, hq⟩
theorem Ens.bind {α β : Type} {p : Prog α} {f : α → Prog β} {P : α → Prop} {P' : β → Prop} (h : Ens p P) (h' : ∀ a, P a → Ens (f a) P') : Ens (p >>= f) P' := fun σ Q w hq => by
  rw [Prog.wp_bind] at hq ⊢
  exact Prog.wp_mono (h σ _ w hq) fun a σ' ⟨h1, h2, h3⟩ => h' a h1 σ' Q h2 h3
theorem Ens.gt (a : Int) : Ens (gt a) R64 := fun σ _ w hq => ⟨(w.get a).1, (w.get a).2, hq⟩
theorem Ens.pt (a v : Int) : Ens (pt a v) (fun _ => True) := fun σ _ w hq => ⟨hq.1, hq.2.1, trivial, w.put a hq.1 hq.2.1, hq.2.2⟩
theorem Ens.mk : Ens mk (fun n => 0 ≤ n) := fun σ _ w hq => ⟨Int.natCast_nonneg _, w, hq⟩
theorem Ens.bk (m : Int) : Ens (bk m) (fun _ => True) := fun σ _ w hq => ⟨trivial, w.back m, hq⟩
theorem Ens.mono {α : Type} {p : Prog α} {P P' : α → Prop} (h : Ens p P) (h' : ∀ a, P a → P' a) : Ens p P' := fun σ Q w hq => Prog.wp_mono (h σ Q w hq) fun a σ' ⟨a1, a2, a3⟩ => ⟨h' a a1, a2, a3⟩
theorem Ens.any {α : Type} : ∀ (p : Prog α), Ens p (fun _ => True)
  | .ret a => fun _ _ w hq => ⟨trivial, w, hq⟩
  | .get a k => fun σ Q w hq => Ens.any (k _) _ Q (w.get a).2 hq
  | .put a v k => fun σ Q w hq => ⟨hq.1, hq.2.1, Ens.any k _ Q (w.put a hq.1 hq.2.1) hq.2.2⟩
  | .mark k => fun σ Q w hq => Ens.any (k _) _ Q w hq
  | .back m k => fun σ Q w hq => Ens.any k _ Q (w.back m) hq
theorem Cx.doesE {α β : Type} {f : Nat} {args : List Value} {p : Prog α} {w : α → Value} {R : Value → Hp → Prop} {q : α → Prog β} {Q : β → Spc → Prop} {P : α → Prop} (D : Does S f args s p w) (E : Ens p P) (c : Cx F0 h0 h L) (i : Nat) (hi : L[i]? = some (rSpace s σ))
    (hp : wp (p >>= q) σ Q) (k : ∀ a σ' h', P a → Cx F0 h0 h' (L.set i (rSpace s σ')) → wp (q a) σ' Q → R (w a) h') : S.C f args h R := by
  obtain ⟨F, a, up⟩ := c.upd hi
  rw [Prog.wp_bind] at hp
  exact D h F σ R a (Prog.wp_mono (E σ _ (c.wf hi) hp) fun a σ' ⟨e, _, hq⟩ h' F' a' m => k a σ' h' e (up a' m) hq)
theorem Cx.last {α : Type} {f : Nat} {args : List Value} {p : Prog α} {w : α → Value} {R : Value → Hp → Prop} {Q : α → Spc → Prop} (D : Does S f args s p w) (c : Cx F0 h0 h L) (i : Nat) (hi : L[i]? = some (rSpace s σ))
    (hp : wp p σ Q) (k : ∀ a σ' h', Cx F0 h0 h' (L.set i (rSpace s σ')) → Q a σ' → R (w a) h') : S.C f args h R := by
  obtain ⟨F, a, up⟩ := c.upd hi
  exact D h F σ R a (Prog.wp_mono hp fun a σ' hq h' F' a' m => k a σ' h' (up a' m) hq)
/-- how a walk over a space begins -/
theorem Does.of {α : Type} {f : Nat} {args : List Value} {p : Prog α} {w : α → Value}
    (H : ∀ h0 F σ R Q, Cx F h0 h0 [rSpace s σ] → wp p σ Q → (∀ a σ' h' M, Cx F h0 h' (rSpace s σ' :: M) → Q a σ' → R (w a) h') → S.C f args h0 R) : Does S f args s p w := fun h F σ R a hp =>
  H h F σ R _ (Cx.start a) hp fun a σ' h' M c hq => let ⟨F', a', m⟩ := c.fin; hq h' F' a' m
end
end Go.En
