/-
  The engine, part J: joins and loops, by the number of values that they carry. (Printed by genJ.py.)
-/
import Derived.Test.YtggieecoagcmbaaEngI
namespace Go.En

/-- the least number (without choice of a decidable predicate) -/
noncomputable def Nat.find' {p : Nat → Prop} (h : ∃ n, p n) : Nat := by
  classical
  exact (Classical.epsilon fun n => p n ∧ ∀ k, p k → n ≤ k)
theorem Nat.find'_both {p : Nat → Prop} (h : ∃ n, p n) : p (Nat.find' h) ∧ ∀ k, p k → Nat.find' h ≤ k := by
  have key : ∀ n, p n → ∃ m, p m ∧ ∀ k, p k → m ≤ k := by
    intro n
    induction n using Nat.strongRecOn with
    | _ n ih =>
      intro hn
      by_cases hl : ∃ k, k < n ∧ p k
      · obtain ⟨k, hk, hp⟩ := hl; exact ih k hk hp
      · exact ⟨n, hn, fun k hk => Nat.le_of_not_lt fun hlt => hl ⟨k, hlt, hk⟩⟩
  obtain ⟨n, hn⟩ := h
  exact Classical.epsilon_spec (p := fun n => p n ∧ ∀ k, p k → n ≤ k) (key n hn)
theorem Nat.find'_spec {p : Nat → Prop} (h : ∃ n, p n) : p (Nat.find' h) := (Nat.find'_both h).1
theorem Nat.find'_min {p : Nat → Prop} (h : ∃ n, p n) {k : Nat} (hk : p k) : Nat.find' h ≤ k := (Nat.find'_both h).2 k hk

/-- two ways meet: 0 values -/
def Jn0 (K : Hp → Prop) (body : (Hp → Prop) → Prop) : Prop := ∃ J : Hp → Prop, body J ∧ ∀ h, J h → K h
/-- a loop: 0 values -/
def Lp0 (h : Hp) (body : Hp → (Hp → Prop) → Prop) : Prop :=
  ∃ (I : Hp → Prop) (m : Hp → Nat), I h ∧ ∀ h, I h → body h fun h' => I h' ∧ m h' < m h
theorem Jn0.here {K : Hp → Prop} {body : (Hp → Prop) → Prop} (h : body K) : Jn0 K body := ⟨K, h, fun _ h => h⟩
theorem Jn0.at {K : Hp → Prop} {body : (Hp → Prop) → Prop} (J : Hp → Prop) (h : body J) (h' : ∀ h, J h → K h) : Jn0 K body := ⟨J, h, h'⟩
theorem Lp0.by {α : Type} {h : Hp} {body : Hp → (Hp → Prop) → Prop} (I : α → Hp → Prop) (m : α → Nat) (x : α) (h0 : I x h)
    (hb : ∀ x h, I x h → ∀ again : Hp → Prop, (∀ x' h, I x' h → m x' < m x → again h) → body h again) : Lp0 h body := by
  classical
  refine ⟨fun h => ∃ x, I x h, fun h => if e : ∃ n x, I x h ∧ m x = n then Nat.find' e else 0, ⟨x, h0⟩, fun h hI => ?_⟩
  have e : ∃ n x, I x h ∧ m x = n := let ⟨x, hx⟩ := hI; ⟨_, x, hx, rfl⟩
  obtain ⟨x, hx, hm⟩ := Nat.find'_spec e
  refine hb x h hx _ fun x' h hx' hlt => ⟨⟨x', hx'⟩, ?_⟩
  have e' : ∃ n x, I x h ∧ m x = n := ⟨_, x', hx', rfl⟩
  dsimp only
  rw [dif_pos e', dif_pos e]
  exact Nat.lt_of_le_of_lt (Nat.find'_min e' ⟨x', hx', rfl⟩) (by rw [← hm]; exact hlt)

/-- two ways meet: 1 values -/
def Jn1 (K : Value → Hp → Prop) (body : (Value → Hp → Prop) → Prop) : Prop := ∃ J : Value → Hp → Prop, body J ∧ ∀ a0 h, J a0 h → K a0 h
/-- a loop: 1 values -/
def Lp1 (a0 : Value) (h : Hp) (body : Value → Hp → (Value → Hp → Prop) → Prop) : Prop :=
  ∃ (I : Value → Hp → Prop) (m : Value → Hp → Nat), I a0 h ∧ ∀ a0 h, I a0 h → body a0 h fun a0' h' => I a0' h' ∧ m a0' h' < m a0 h
theorem Jn1.here {K : Value → Hp → Prop} {body : (Value → Hp → Prop) → Prop} (h : body K) : Jn1 K body := ⟨K, h, fun a0 _ h => h⟩
theorem Jn1.at {K : Value → Hp → Prop} {body : (Value → Hp → Prop) → Prop} (J : Value → Hp → Prop) (h : body J) (h' : ∀ a0 h, J a0 h → K a0 h) : Jn1 K body := ⟨J, h, h'⟩
theorem Lp1.by {α : Type} {a0 : Value} {h : Hp} {body : Value → Hp → (Value → Hp → Prop) → Prop} (I : α → Value → Hp → Prop) (m : α → Nat) (x : α) (h0 : I x a0 h)
    (hb : ∀ x a0 h, I x a0 h → ∀ again : Value → Hp → Prop, (∀ x' a0 h, I x' a0 h → m x' < m x → again a0 h) → body a0 h again) : Lp1 a0 h body := by
  classical
  refine ⟨fun a0 h => ∃ x, I x a0 h, fun a0 h => if e : ∃ n x, I x a0 h ∧ m x = n then Nat.find' e else 0, ⟨x, h0⟩, fun a0 h hI => ?_⟩
  have e : ∃ n x, I x a0 h ∧ m x = n := let ⟨x, hx⟩ := hI; ⟨_, x, hx, rfl⟩
  obtain ⟨x, hx, hm⟩ := Nat.find'_spec e
  refine hb x a0 h hx _ fun x' a0 h hx' hlt => ⟨⟨x', hx'⟩, ?_⟩
  have e' : ∃ n x, I x a0 h ∧ m x = n := ⟨_, x', hx', rfl⟩
  dsimp only
  rw [dif_pos e', dif_pos e]
  exact Nat.lt_of_le_of_lt (Nat.find'_min e' ⟨x', hx', rfl⟩) (by rw [← hm]; exact hlt)

/-- two ways meet: 2 values -/
def Jn2 (K : Value → Value → Hp → Prop) (body : (Value → Value → Hp → Prop) → Prop) : Prop := ∃ J : Value → Value → Hp → Prop, body J ∧ ∀ a0 a1 h, J a0 a1 h → K a0 a1 h
/-- a loop: 2 values -/
def Lp2 (a0 a1 : Value) (h : Hp) (body : Value → Value → Hp → (Value → Value → Hp → Prop) → Prop) : Prop :=
  ∃ (I : Value → Value → Hp → Prop) (m : Value → Value → Hp → Nat), I a0 a1 h ∧ ∀ a0 a1 h, I a0 a1 h → body a0 a1 h fun a0' a1' h' => I a0' a1' h' ∧ m a0' a1' h' < m a0 a1 h
theorem Jn2.here {K : Value → Value → Hp → Prop} {body : (Value → Value → Hp → Prop) → Prop} (h : body K) : Jn2 K body := ⟨K, h, fun a0 a1 _ h => h⟩
theorem Jn2.at {K : Value → Value → Hp → Prop} {body : (Value → Value → Hp → Prop) → Prop} (J : Value → Value → Hp → Prop) (h : body J) (h' : ∀ a0 a1 h, J a0 a1 h → K a0 a1 h) : Jn2 K body := ⟨J, h, h'⟩
theorem Lp2.by {α : Type} {a0 a1 : Value} {h : Hp} {body : Value → Value → Hp → (Value → Value → Hp → Prop) → Prop} (I : α → Value → Value → Hp → Prop) (m : α → Nat) (x : α) (h0 : I x a0 a1 h)
    (hb : ∀ x a0 a1 h, I x a0 a1 h → ∀ again : Value → Value → Hp → Prop, (∀ x' a0 a1 h, I x' a0 a1 h → m x' < m x → again a0 a1 h) → body a0 a1 h again) : Lp2 a0 a1 h body := by
  classical
  refine ⟨fun a0 a1 h => ∃ x, I x a0 a1 h, fun a0 a1 h => if e : ∃ n x, I x a0 a1 h ∧ m x = n then Nat.find' e else 0, ⟨x, h0⟩, fun a0 a1 h hI => ?_⟩
  have e : ∃ n x, I x a0 a1 h ∧ m x = n := let ⟨x, hx⟩ := hI; ⟨_, x, hx, rfl⟩
  obtain ⟨x, hx, hm⟩ := Nat.find'_spec e
  refine hb x a0 a1 h hx _ fun x' a0 a1 h hx' hlt => ⟨⟨x', hx'⟩, ?_⟩
  have e' : ∃ n x, I x a0 a1 h ∧ m x = n := ⟨_, x', hx', rfl⟩
  dsimp only
  rw [dif_pos e', dif_pos e]
  exact Nat.lt_of_le_of_lt (Nat.find'_min e' ⟨x', hx', rfl⟩) (by rw [← hm]; exact hlt)

/-- two ways meet: 3 values -/
def Jn3 (K : Value → Value → Value → Hp → Prop) (body : (Value → Value → Value → Hp → Prop) → Prop) : Prop := ∃ J : Value → Value → Value → Hp → Prop, body J ∧ ∀ a0 a1 a2 h, J a0 a1 a2 h → K a0 a1 a2 h
/-- a loop: 3 values -/
def Lp3 (a0 a1 a2 : Value) (h : Hp) (body : Value → Value → Value → Hp → (Value → Value → Value → Hp → Prop) → Prop) : Prop :=
  ∃ (I : Value → Value → Value → Hp → Prop) (m : Value → Value → Value → Hp → Nat), I a0 a1 a2 h ∧ ∀ a0 a1 a2 h, I a0 a1 a2 h → body a0 a1 a2 h fun a0' a1' a2' h' => I a0' a1' a2' h' ∧ m a0' a1' a2' h' < m a0 a1 a2 h
theorem Jn3.here {K : Value → Value → Value → Hp → Prop} {body : (Value → Value → Value → Hp → Prop) → Prop} (h : body K) : Jn3 K body := ⟨K, h, fun a0 a1 a2 _ h => h⟩
theorem Jn3.at {K : Value → Value → Value → Hp → Prop} {body : (Value → Value → Value → Hp → Prop) → Prop} (J : Value → Value → Value → Hp → Prop) (h : body J) (h' : ∀ a0 a1 a2 h, J a0 a1 a2 h → K a0 a1 a2 h) : Jn3 K body := ⟨J, h, h'⟩
theorem Lp3.by {α : Type} {a0 a1 a2 : Value} {h : Hp} {body : Value → Value → Value → Hp → (Value → Value → Value → Hp → Prop) → Prop} (I : α → Value → Value → Value → Hp → Prop) (m : α → Nat) (x : α) (h0 : I x a0 a1 a2 h)
    (hb : ∀ x a0 a1 a2 h, I x a0 a1 a2 h → ∀ again : Value → Value → Value → Hp → Prop, (∀ x' a0 a1 a2 h, I x' a0 a1 a2 h → m x' < m x → again a0 a1 a2 h) → body a0 a1 a2 h again) : Lp3 a0 a1 a2 h body := by
  classical
  refine ⟨fun a0 a1 a2 h => ∃ x, I x a0 a1 a2 h, fun a0 a1 a2 h => if e : ∃ n x, I x a0 a1 a2 h ∧ m x = n then Nat.find' e else 0, ⟨x, h0⟩, fun a0 a1 a2 h hI => ?_⟩
  have e : ∃ n x, I x a0 a1 a2 h ∧ m x = n := let ⟨x, hx⟩ := hI; ⟨_, x, hx, rfl⟩
  obtain ⟨x, hx, hm⟩ := Nat.find'_spec e
  refine hb x a0 a1 a2 h hx _ fun x' a0 a1 a2 h hx' hlt => ⟨⟨x', hx'⟩, ?_⟩
  have e' : ∃ n x, I x a0 a1 a2 h ∧ m x = n := ⟨_, x', hx', rfl⟩
  dsimp only
  rw [dif_pos e', dif_pos e]
  exact Nat.lt_of_le_of_lt (Nat.find'_min e' ⟨x', hx', rfl⟩) (by rw [← hm]; exact hlt)

/-- two ways meet: 4 values -/
def Jn4 (K : Value → Value → Value → Value → Hp → Prop) (body : (Value → Value → Value → Value → Hp → Prop) → Prop) : Prop := ∃ J : Value → Value → Value → Value → Hp → Prop, body J ∧ ∀ a0 a1 a2 a3 h, J a0 a1 a2 a3 h → K a0 a1 a2 a3 h
/-- a loop: 4 values -/
def Lp4 (a0 a1 a2 a3 : Value) (h : Hp) (body : Value → Value → Value → Value → Hp → (Value → Value → Value → Value → Hp → Prop) → Prop) : Prop :=
  ∃ (I : Value → Value → Value → Value → Hp → Prop) (m : Value → Value → Value → Value → Hp → Nat), I a0 a1 a2 a3 h ∧ ∀ a0 a1 a2 a3 h, I a0 a1 a2 a3 h → body a0 a1 a2 a3 h fun a0' a1' a2' a3' h' => I a0' a1' a2' a3' h' ∧ m a0' a1' a2' a3' h' < m a0 a1 a2 a3 h
theorem Jn4.here {K : Value → Value → Value → Value → Hp → Prop} {body : (Value → Value → Value → Value → Hp → Prop) → Prop} (h : body K) : Jn4 K body := ⟨K, h, fun a0 a1 a2 a3 _ h => h⟩
theorem Jn4.at {K : Value → Value → Value → Value → Hp → Prop} {body : (Value → Value → Value → Value → Hp → Prop) → Prop} (J : Value → Value → Value → Value → Hp → Prop) (h : body J) (h' : ∀ a0 a1 a2 a3 h, J a0 a1 a2 a3 h → K a0 a1 a2 a3 h) : Jn4 K body := ⟨J, h, h'⟩
theorem Lp4.by {α : Type} {a0 a1 a2 a3 : Value} {h : Hp} {body : Value → Value → Value → Value → Hp → (Value → Value → Value → Value → Hp → Prop) → Prop} (I : α → Value → Value → Value → Value → Hp → Prop) (m : α → Nat) (x : α) (h0 : I x a0 a1 a2 a3 h)
    (hb : ∀ x a0 a1 a2 a3 h, I x a0 a1 a2 a3 h → ∀ again : Value → Value → Value → Value → Hp → Prop, (∀ x' a0 a1 a2 a3 h, I x' a0 a1 a2 a3 h → m x' < m x → again a0 a1 a2 a3 h) → body a0 a1 a2 a3 h again) : Lp4 a0 a1 a2 a3 h body := by
  classical
  refine ⟨fun a0 a1 a2 a3 h => ∃ x, I x a0 a1 a2 a3 h, fun a0 a1 a2 a3 h => if e : ∃ n x, I x a0 a1 a2 a3 h ∧ m x = n then Nat.find' e else 0, ⟨x, h0⟩, fun a0 a1 a2 a3 h hI => ?_⟩
  have e : ∃ n x, I x a0 a1 a2 a3 h ∧ m x = n := let ⟨x, hx⟩ := hI; ⟨_, x, hx, rfl⟩
  obtain ⟨x, hx, hm⟩ := Nat.find'_spec e
  refine hb x a0 a1 a2 a3 h hx _ fun x' a0 a1 a2 a3 h hx' hlt => ⟨⟨x', hx'⟩, ?_⟩
  have e' : ∃ n x, I x a0 a1 a2 a3 h ∧ m x = n := ⟨_, x', hx', rfl⟩
  dsimp only
  rw [dif_pos e', dif_pos e]
  exact Nat.lt_of_le_of_lt (Nat.find'_min e' ⟨x', hx', rfl⟩) (by rw [← hm]; exact hlt)

/-- two ways meet: 5 values -/
def Jn5 (K : Value → Value → Value → Value → Value → Hp → Prop) (body : (Value → Value → Value → Value → Value → Hp → Prop) → Prop) : Prop := ∃ J : Value → Value → Value → Value → Value → Hp → Prop, body J ∧ ∀ a0 a1 a2 a3 a4 h, J a0 a1 a2 a3 a4 h → K a0 a1 a2 a3 a4 h
/-- a loop: 5 values -/
def Lp5 (a0 a1 a2 a3 a4 : Value) (h : Hp) (body : Value → Value → Value → Value → Value → Hp → (Value → Value → Value → Value → Value → Hp → Prop) → Prop) : Prop :=
  ∃ (I : Value → Value → Value → Value → Value → Hp → Prop) (m : Value → Value → Value → Value → Value → Hp → Nat), I a0 a1 a2 a3 a4 h ∧ ∀ a0 a1 a2 a3 a4 h, I a0 a1 a2 a3 a4 h → body a0 a1 a2 a3 a4 h fun a0' a1' a2' a3' a4' h' => I a0' a1' a2' a3' a4' h' ∧ m a0' a1' a2' a3' a4' h' < m a0 a1 a2 a3 a4 h
theorem Jn5.here {K : Value → Value → Value → Value → Value → Hp → Prop} {body : (Value → Value → Value → Value → Value → Hp → Prop) → Prop} (h : body K) : Jn5 K body := ⟨K, h, fun a0 a1 a2 a3 a4 _ h => h⟩
theorem Jn5.at {K : Value → Value → Value → Value → Value → Hp → Prop} {body : (Value → Value → Value → Value → Value → Hp → Prop) → Prop} (J : Value → Value → Value → Value → Value → Hp → Prop) (h : body J) (h' : ∀ a0 a1 a2 a3 a4 h, J a0 a1 a2 a3 a4 h → K a0 a1 a2 a3 a4 h) : Jn5 K body := ⟨J, h, h'⟩
theorem Lp5.by {α : Type} {a0 a1 a2 a3 a4 : Value} {h : Hp} {body : Value → Value → Value → Value → Value → Hp → (Value → Value → Value → Value → Value → Hp → Prop) → Prop} (I : α → Value → Value → Value → Value → Value → Hp → Prop) (m : α → Nat) (x : α) (h0 : I x a0 a1 a2 a3 a4 h)
    (hb : ∀ x a0 a1 a2 a3 a4 h, I x a0 a1 a2 a3 a4 h → ∀ again : Value → Value → Value → Value → Value → Hp → Prop, (∀ x' a0 a1 a2 a3 a4 h, I x' a0 a1 a2 a3 a4 h → m x' < m x → again a0 a1 a2 a3 a4 h) → body a0 a1 a2 a3 a4 h again) : Lp5 a0 a1 a2 a3 a4 h body := by
  classical
  refine ⟨fun a0 a1 a2 a3 a4 h => ∃ x, I x a0 a1 a2 a3 a4 h, fun a0 a1 a2 a3 a4 h => if e : ∃ n x, I x a0 a1 a2 a3 a4 h ∧ m x = n then Nat.find' e else 0, ⟨x, h0⟩, fun a0 a1 a2 a3 a4 h hI => ?_⟩
  have e : ∃ n x, I x a0 a1 a2 a3 a4 h ∧ m x = n := let ⟨x, hx⟩ := hI; ⟨_, x, hx, rfl⟩
  obtain ⟨x, hx, hm⟩ := Nat.find'_spec e
  refine hb x a0 a1 a2 a3 a4 h hx _ fun x' a0 a1 a2 a3 a4 h hx' hlt => ⟨⟨x', hx'⟩, ?_⟩
  have e' : ∃ n x, I x a0 a1 a2 a3 a4 h ∧ m x = n := ⟨_, x', hx', rfl⟩
  dsimp only
  rw [dif_pos e', dif_pos e]
  exact Nat.lt_of_le_of_lt (Nat.find'_min e' ⟨x', hx', rfl⟩) (by rw [← hm]; exact hlt)

/-- two ways meet: 6 values -/
def Jn6 (K : Value → Value → Value → Value → Value → Value → Hp → Prop) (body : (Value → Value → Value → Value → Value → Value → Hp → Prop) → Prop) : Prop := ∃ J : Value → Value → Value → Value → Value → Value → Hp → Prop, body J ∧ ∀ a0 a1 a2 a3 a4 a5 h, J a0 a1 a2 a3 a4 a5 h → K a0 a1 a2 a3 a4 a5 h
/-- a loop: 6 values -/
def Lp6 (a0 a1 a2 a3 a4 a5 : Value) (h : Hp) (body : Value → Value → Value → Value → Value → Value → Hp → (Value → Value → Value → Value → Value → Value → Hp → Prop) → Prop) : Prop :=
  ∃ (I : Value → Value → Value → Value → Value → Value → Hp → Prop) (m : Value → Value → Value → Value → Value → Value → Hp → Nat), I a0 a1 a2 a3 a4 a5 h ∧ ∀ a0 a1 a2 a3 a4 a5 h, I a0 a1 a2 a3 a4 a5 h → body a0 a1 a2 a3 a4 a5 h fun a0' a1' a2' a3' a4' a5' h' => I a0' a1' a2' a3' a4' a5' h' ∧ m a0' a1' a2' a3' a4' a5' h' < m a0 a1 a2 a3 a4 a5 h
theorem Jn6.here {K : Value → Value → Value → Value → Value → Value → Hp → Prop} {body : (Value → Value → Value → Value → Value → Value → Hp → Prop) → Prop} (h : body K) : Jn6 K body := ⟨K, h, fun a0 a1 a2 a3 a4 a5 _ h => h⟩
theorem Jn6.at {K : Value → Value → Value → Value → Value → Value → Hp → Prop} {body : (Value → Value → Value → Value → Value → Value → Hp → Prop) → Prop} (J : Value → Value → Value → Value → Value → Value → Hp → Prop) (h : body J) (h' : ∀ a0 a1 a2 a3 a4 a5 h, J a0 a1 a2 a3 a4 a5 h → K a0 a1 a2 a3 a4 a5 h) : Jn6 K body := ⟨J, h, h'⟩
theorem Lp6.by {α : Type} {a0 a1 a2 a3 a4 a5 : Value} {h : Hp} {body : Value → Value → Value → Value → Value → Value → Hp → (Value → Value → Value → Value → Value → Value → Hp → Prop) → Prop} (I : α → Value → Value → Value → Value → Value → Value → Hp → Prop) (m : α → Nat) (x : α) (h0 : I x a0 a1 a2 a3 a4 a5 h)
    (hb : ∀ x a0 a1 a2 a3 a4 a5 h, I x a0 a1 a2 a3 a4 a5 h → ∀ again : Value → Value → Value → Value → Value → Value → Hp → Prop, (∀ x' a0 a1 a2 a3 a4 a5 h, I x' a0 a1 a2 a3 a4 a5 h → m x' < m x → again a0 a1 a2 a3 a4 a5 h) → body a0 a1 a2 a3 a4 a5 h again) : Lp6 a0 a1 a2 a3 a4 a5 h body := by
  classical
  refine ⟨fun a0 a1 a2 a3 a4 a5 h => ∃ x, I x a0 a1 a2 a3 a4 a5 h, fun a0 a1 a2 a3 a4 a5 h => if e : ∃ n x, I x a0 a1 a2 a3 a4 a5 h ∧ m x = n then Nat.find' e else 0, ⟨x, h0⟩, fun a0 a1 a2 a3 a4 a5 h hI => ?_⟩
  have e : ∃ n x, I x a0 a1 a2 a3 a4 a5 h ∧ m x = n := let ⟨x, hx⟩ := hI; ⟨_, x, hx, rfl⟩
  obtain ⟨x, hx, hm⟩ := Nat.find'_spec e
  refine hb x a0 a1 a2 a3 a4 a5 h hx _ fun x' a0 a1 a2 a3 a4 a5 h hx' hlt => ⟨⟨x', hx'⟩, ?_⟩
  have e' : ∃ n x, I x a0 a1 a2 a3 a4 a5 h ∧ m x = n := ⟨_, x', hx', rfl⟩
  dsimp only
  rw [dif_pos e', dif_pos e]
  exact Nat.lt_of_le_of_lt (Nat.find'_min e' ⟨x', hx', rfl⟩) (by rw [← hm]; exact hlt)

/-- two ways meet: 7 values -/
def Jn7 (K : Value → Value → Value → Value → Value → Value → Value → Hp → Prop) (body : (Value → Value → Value → Value → Value → Value → Value → Hp → Prop) → Prop) : Prop := ∃ J : Value → Value → Value → Value → Value → Value → Value → Hp → Prop, body J ∧ ∀ a0 a1 a2 a3 a4 a5 a6 h, J a0 a1 a2 a3 a4 a5 a6 h → K a0 a1 a2 a3 a4 a5 a6 h
/-- a loop: 7 values -/
def Lp7 (a0 a1 a2 a3 a4 a5 a6 : Value) (h : Hp) (body : Value → Value → Value → Value → Value → Value → Value → Hp → (Value → Value → Value → Value → Value → Value → Value → Hp → Prop) → Prop) : Prop :=
  ∃ (I : Value → Value → Value → Value → Value → Value → Value → Hp → Prop) (m : Value → Value → Value → Value → Value → Value → Value → Hp → Nat), I a0 a1 a2 a3 a4 a5 a6 h ∧ ∀ a0 a1 a2 a3 a4 a5 a6 h, I a0 a1 a2 a3 a4 a5 a6 h → body a0 a1 a2 a3 a4 a5 a6 h fun a0' a1' a2' a3' a4' a5' a6' h' => I a0' a1' a2' a3' a4' a5' a6' h' ∧ m a0' a1' a2' a3' a4' a5' a6' h' < m a0 a1 a2 a3 a4 a5 a6 h
theorem Jn7.here {K : Value → Value → Value → Value → Value → Value → Value → Hp → Prop} {body : (Value → Value → Value → Value → Value → Value → Value → Hp → Prop) → Prop} (h : body K) : Jn7 K body := ⟨K, h, fun a0 a1 a2 a3 a4 a5 a6 _ h => h⟩
theorem Jn7.at {K : Value → Value → Value → Value → Value → Value → Value → Hp → Prop} {body : (Value → Value → Value → Value → Value → Value → Value → Hp → Prop) → Prop} (J : Value → Value → Value → Value → Value → Value → Value → Hp → Prop) (h : body J) (h' : ∀ a0 a1 a2 a3 a4 a5 a6 h, J a0 a1 a2 a3 a4 a5 a6 h → K a0 a1 a2 a3 a4 a5 a6 h) : Jn7 K body := ⟨J, h, h'⟩
theorem Lp7.by {α : Type} {a0 a1 a2 a3 a4 a5 a6 : Value} {h : Hp} {body : Value → Value → Value → Value → Value → Value → Value → Hp → (Value → Value → Value → Value → Value → Value → Value → Hp → Prop) → Prop} (I : α → Value → Value → Value → Value → Value → Value → Value → Hp → Prop) (m : α → Nat) (x : α) (h0 : I x a0 a1 a2 a3 a4 a5 a6 h)
    (hb : ∀ x a0 a1 a2 a3 a4 a5 a6 h, I x a0 a1 a2 a3 a4 a5 a6 h → ∀ again : Value → Value → Value → Value → Value → Value → Value → Hp → Prop, (∀ x' a0 a1 a2 a3 a4 a5 a6 h, I x' a0 a1 a2 a3 a4 a5 a6 h → m x' < m x → again a0 a1 a2 a3 a4 a5 a6 h) → body a0 a1 a2 a3 a4 a5 a6 h again) : Lp7 a0 a1 a2 a3 a4 a5 a6 h body := by
  classical
  refine ⟨fun a0 a1 a2 a3 a4 a5 a6 h => ∃ x, I x a0 a1 a2 a3 a4 a5 a6 h, fun a0 a1 a2 a3 a4 a5 a6 h => if e : ∃ n x, I x a0 a1 a2 a3 a4 a5 a6 h ∧ m x = n then Nat.find' e else 0, ⟨x, h0⟩, fun a0 a1 a2 a3 a4 a5 a6 h hI => ?_⟩
  have e : ∃ n x, I x a0 a1 a2 a3 a4 a5 a6 h ∧ m x = n := let ⟨x, hx⟩ := hI; ⟨_, x, hx, rfl⟩
  obtain ⟨x, hx, hm⟩ := Nat.find'_spec e
  refine hb x a0 a1 a2 a3 a4 a5 a6 h hx _ fun x' a0 a1 a2 a3 a4 a5 a6 h hx' hlt => ⟨⟨x', hx'⟩, ?_⟩
  have e' : ∃ n x, I x a0 a1 a2 a3 a4 a5 a6 h ∧ m x = n := ⟨_, x', hx', rfl⟩
  dsimp only
  rw [dif_pos e', dif_pos e]
  exact Nat.lt_of_le_of_lt (Nat.find'_min e' ⟨x', hx', rfl⟩) (by rw [← hm]; exact hlt)

/-- two ways meet: 8 values -/
def Jn8 (K : Value → Value → Value → Value → Value → Value → Value → Value → Hp → Prop) (body : (Value → Value → Value → Value → Value → Value → Value → Value → Hp → Prop) → Prop) : Prop := ∃ J : Value → Value → Value → Value → Value → Value → Value → Value → Hp → Prop, body J ∧ ∀ a0 a1 a2 a3 a4 a5 a6 a7 h, J a0 a1 a2 a3 a4 a5 a6 a7 h → K a0 a1 a2 a3 a4 a5 a6 a7 h
/-- a loop: 8 values -/
def Lp8 (a0 a1 a2 a3 a4 a5 a6 a7 : Value) (h : Hp) (body : Value → Value → Value → Value → Value → Value → Value → Value → Hp → (Value → Value → Value → Value → Value → Value → Value → Value → Hp → Prop) → Prop) : Prop :=
  ∃ (I : Value → Value → Value → Value → Value → Value → Value → Value → Hp → Prop) (m : Value → Value → Value → Value → Value → Value → Value → Value → Hp → Nat), I a0 a1 a2 a3 a4 a5 a6 a7 h ∧ ∀ a0 a1 a2 a3 a4 a5 a6 a7 h, I a0 a1 a2 a3 a4 a5 a6 a7 h → body a0 a1 a2 a3 a4 a5 a6 a7 h fun a0' a1' a2' a3' a4' a5' a6' a7' h' => I a0' a1' a2' a3' a4' a5' a6' a7' h' ∧ m a0' a1' a2' a3' a4' a5' a6' a7' h' < m a0 a1 a2 a3 a4 a5 a6 a7 h
theorem Jn8.here {K : Value → Value → Value → Value → Value → Value → Value → Value → Hp → Prop} {body : (Value → Value → Value → Value → Value → Value → Value → Value → Hp → Prop) → Prop} (h : body K) : Jn8 K body := ⟨K, h, fun a0 a1 a2 a3 a4 a5 a6 a7 _ h => h⟩
theorem Jn8.at {K : Value → Value → Value → Value → Value → Value → Value → Value → Hp → Prop} {body : (Value → Value → Value → Value → Value → Value → Value → Value → Hp → Prop) → Prop} (J : Value → Value → Value → Value → Value → Value → Value → Value → Hp → Prop) (h : body J) (h' : ∀ a0 a1 a2 a3 a4 a5 a6 a7 h, J a0 a1 a2 a3 a4 a5 a6 a7 h → K a0 a1 a2 a3 a4 a5 a6 a7 h) : Jn8 K body := ⟨J, h, h'⟩
theorem Lp8.by {α : Type} {a0 a1 a2 a3 a4 a5 a6 a7 : Value} {h : Hp} {body : Value → Value → Value → Value → Value → Value → Value → Value → Hp → (Value → Value → Value → Value → Value → Value → Value → Value → Hp → Prop) → Prop} (I : α → Value → Value → Value → Value → Value → Value → Value → Value → Hp → Prop) (m : α → Nat) (x : α) (h0 : I x a0 a1 a2 a3 a4 a5 a6 a7 h)
    (hb : ∀ x a0 a1 a2 a3 a4 a5 a6 a7 h, I x a0 a1 a2 a3 a4 a5 a6 a7 h → ∀ again : Value → Value → Value → Value → Value → Value → Value → Value → Hp → Prop, (∀ x' a0 a1 a2 a3 a4 a5 a6 a7 h, I x' a0 a1 a2 a3 a4 a5 a6 a7 h → m x' < m x → again a0 a1 a2 a3 a4 a5 a6 a7 h) → body a0 a1 a2 a3 a4 a5 a6 a7 h again) : Lp8 a0 a1 a2 a3 a4 a5 a6 a7 h body := by
  classical
  refine ⟨fun a0 a1 a2 a3 a4 a5 a6 a7 h => ∃ x, I x a0 a1 a2 a3 a4 a5 a6 a7 h, fun a0 a1 a2 a3 a4 a5 a6 a7 h => if e : ∃ n x, I x a0 a1 a2 a3 a4 a5 a6 a7 h ∧ m x = n then Nat.find' e else 0, ⟨x, h0⟩, fun a0 a1 a2 a3 a4 a5 a6 a7 h hI => ?_⟩
  have e : ∃ n x, I x a0 a1 a2 a3 a4 a5 a6 a7 h ∧ m x = n := let ⟨x, hx⟩ := hI; ⟨_, x, hx, rfl⟩
  obtain ⟨x, hx, hm⟩ := Nat.find'_spec e
  refine hb x a0 a1 a2 a3 a4 a5 a6 a7 h hx _ fun x' a0 a1 a2 a3 a4 a5 a6 a7 h hx' hlt => ⟨⟨x', hx'⟩, ?_⟩
  have e' : ∃ n x, I x a0 a1 a2 a3 a4 a5 a6 a7 h ∧ m x = n := ⟨_, x', hx', rfl⟩
  dsimp only
  rw [dif_pos e', dif_pos e]
  exact Nat.lt_of_le_of_lt (Nat.find'_min e' ⟨x', hx', rfl⟩) (by rw [← hm]; exact hlt)

/-- two ways meet: 9 values -/
def Jn9 (K : Value → Value → Value → Value → Value → Value → Value → Value → Value → Hp → Prop) (body : (Value → Value → Value → Value → Value → Value → Value → Value → Value → Hp → Prop) → Prop) : Prop := ∃ J : Value → Value → Value → Value → Value → Value → Value → Value → Value → Hp → Prop, body J ∧ ∀ a0 a1 a2 a3 a4 a5 a6 a7 a8 h, J a0 a1 a2 a3 a4 a5 a6 a7 a8 h → K a0 a1 a2 a3 a4 a5 a6 a7 a8 h
/-- a loop: 9 values -/
def Lp9 (a0 a1 a2 a3 a4 a5 a6 a7 a8 : Value) (h : Hp) (body : Value → Value → Value → Value → Value → Value → Value → Value → Value → Hp → (Value → Value → Value → Value → Value → Value → Value → Value → Value → Hp → Prop) → Prop) : Prop :=
  ∃ (I : Value → Value → Value → Value → Value → Value → Value → Value → Value → Hp → Prop) (m : Value → Value → Value → Value → Value → Value → Value → Value → Value → Hp → Nat), I a0 a1 a2 a3 a4 a5 a6 a7 a8 h ∧ ∀ a0 a1 a2 a3 a4 a5 a6 a7 a8 h, I a0 a1 a2 a3 a4 a5 a6 a7 a8 h → body a0 a1 a2 a3 a4 a5 a6 a7 a8 h fun a0' a1' a2' a3' a4' a5' a6' a7' a8' h' => I a0' a1' a2' a3' a4' a5' a6' a7' a8' h' ∧ m a0' a1' a2' a3' a4' a5' a6' a7' a8' h' < m a0 a1 a2 a3 a4 a5 a6 a7 a8 h
theorem Jn9.here {K : Value → Value → Value → Value → Value → Value → Value → Value → Value → Hp → Prop} {body : (Value → Value → Value → Value → Value → Value → Value → Value → Value → Hp → Prop) → Prop} (h : body K) : Jn9 K body := ⟨K, h, fun a0 a1 a2 a3 a4 a5 a6 a7 a8 _ h => h⟩
theorem Jn9.at {K : Value → Value → Value → Value → Value → Value → Value → Value → Value → Hp → Prop} {body : (Value → Value → Value → Value → Value → Value → Value → Value → Value → Hp → Prop) → Prop} (J : Value → Value → Value → Value → Value → Value → Value → Value → Value → Hp → Prop) (h : body J) (h' : ∀ a0 a1 a2 a3 a4 a5 a6 a7 a8 h, J a0 a1 a2 a3 a4 a5 a6 a7 a8 h → K a0 a1 a2 a3 a4 a5 a6 a7 a8 h) : Jn9 K body := ⟨J, h, h'⟩
theorem Lp9.by {α : Type} {a0 a1 a2 a3 a4 a5 a6 a7 a8 : Value} {h : Hp} {body : Value → Value → Value → Value → Value → Value → Value → Value → Value → Hp → (Value → Value → Value → Value → Value → Value → Value → Value → Value → Hp → Prop) → Prop} (I : α → Value → Value → Value → Value → Value → Value → Value → Value → Value → Hp → Prop) (m : α → Nat) (x : α) (h0 : I x a0 a1 a2 a3 a4 a5 a6 a7 a8 h)
    (hb : ∀ x a0 a1 a2 a3 a4 a5 a6 a7 a8 h, I x a0 a1 a2 a3 a4 a5 a6 a7 a8 h → ∀ again : Value → Value → Value → Value → Value → Value → Value → Value → Value → Hp → Prop, (∀ x' a0 a1 a2 a3 a4 a5 a6 a7 a8 h, I x' a0 a1 a2 a3 a4 a5 a6 a7 a8 h → m x' < m x → again a0 a1 a2 a3 a4 a5 a6 a7 a8 h) → body a0 a1 a2 a3 a4 a5 a6 a7 a8 h again) : Lp9 a0 a1 a2 a3 a4 a5 a6 a7 a8 h body := by
  classical
  refine ⟨fun a0 a1 a2 a3 a4 a5 a6 a7 a8 h => ∃ x, I x a0 a1 a2 a3 a4 a5 a6 a7 a8 h, fun a0 a1 a2 a3 a4 a5 a6 a7 a8 h => if e : ∃ n x, I x a0 a1 a2 a3 a4 a5 a6 a7 a8 h ∧ m x = n then Nat.find' e else 0, ⟨x, h0⟩, fun a0 a1 a2 a3 a4 a5 a6 a7 a8 h hI => ?_⟩
  have e : ∃ n x, I x a0 a1 a2 a3 a4 a5 a6 a7 a8 h ∧ m x = n := let ⟨x, hx⟩ := hI; ⟨_, x, hx, rfl⟩
  obtain ⟨x, hx, hm⟩ := Nat.find'_spec e
  refine hb x a0 a1 a2 a3 a4 a5 a6 a7 a8 h hx _ fun x' a0 a1 a2 a3 a4 a5 a6 a7 a8 h hx' hlt => ⟨⟨x', hx'⟩, ?_⟩
  have e' : ∃ n x, I x a0 a1 a2 a3 a4 a5 a6 a7 a8 h ∧ m x = n := ⟨_, x', hx', rfl⟩
  dsimp only
  rw [dif_pos e', dif_pos e]
  exact Nat.lt_of_le_of_lt (Nat.find'_min e' ⟨x', hx', rfl⟩) (by rw [← hm]; exact hlt)

/-- two ways meet: 10 values -/
def Jn10 (K : Value → Value → Value → Value → Value → Value → Value → Value → Value → Value → Hp → Prop) (body : (Value → Value → Value → Value → Value → Value → Value → Value → Value → Value → Hp → Prop) → Prop) : Prop := ∃ J : Value → Value → Value → Value → Value → Value → Value → Value → Value → Value → Hp → Prop, body J ∧ ∀ a0 a1 a2 a3 a4 a5 a6 a7 a8 a9 h, J a0 a1 a2 a3 a4 a5 a6 a7 a8 a9 h → K a0 a1 a2 a3 a4 a5 a6 a7 a8 a9 h
/-- a loop: 10 values -/
def Lp10 (a0 a1 a2 a3 a4 a5 a6 a7 a8 a9 : Value) (h : Hp) (body : Value → Value → Value → Value → Value → Value → Value → Value → Value → Value → Hp → (Value → Value → Value → Value → Value → Value → Value → Value → Value → Value → Hp → Prop) → Prop) : Prop :=
  ∃ (I : Value → Value → Value → Value → Value → Value → Value → Value → Value → Value → Hp → Prop) (m : Value → Value → Value → Value → Value → Value → Value → Value → Value → Value → Hp → Nat), I a0 a1 a2 a3 a4 a5 a6 a7 a8 a9 h ∧ ∀ a0 a1 a2 a3 a4 a5 a6 a7 a8 a9 h, I a0 a1 a2 a3 a4 a5 a6 a7 a8 a9 h → body a0 a1 a2 a3 a4 a5 a6 a7 a8 a9 h fun a0' a1' a2' a3' a4' a5' a6' a7' a8' a9' h' => I a0' a1' a2' a3' a4' a5' a6' a7' a8' a9' h' ∧ m a0' a1' a2' a3' a4' a5' a6' a7' a8' a9' h' < m a0 a1 a2 a3 a4 a5 a6 a7 a8 a9 h
theorem Jn10.here {K : Value → Value → Value → Value → Value → Value → Value → Value → Value → Value → Hp → Prop} {body : (Value → Value → Value → Value → Value → Value → Value → Value → Value → Value → Hp → Prop) → Prop} (h : body K) : Jn10 K body := ⟨K, h, fun a0 a1 a2 a3 a4 a5 a6 a7 a8 a9 _ h => h⟩
theorem Jn10.at {K : Value → Value → Value → Value → Value → Value → Value → Value → Value → Value → Hp → Prop} {body : (Value → Value → Value → Value → Value → Value → Value → Value → Value → Value → Hp → Prop) → Prop} (J : Value → Value → Value → Value → Value → Value → Value → Value → Value → Value → Hp → Prop) (h : body J) (h' : ∀ a0 a1 a2 a3 a4 a5 a6 a7 a8 a9 h, J a0 a1 a2 a3 a4 a5 a6 a7 a8 a9 h → K a0 a1 a2 a3 a4 a5 a6 a7 a8 a9 h) : Jn10 K body := ⟨J, h, h'⟩
theorem Lp10.by {α : Type} {a0 a1 a2 a3 a4 a5 a6 a7 a8 a9 : Value} {h : Hp} {body : Value → Value → Value → Value → Value → Value → Value → Value → Value → Value → Hp → (Value → Value → Value → Value → Value → Value → Value → Value → Value → Value → Hp → Prop) → Prop} (I : α → Value → Value → Value → Value → Value → Value → Value → Value → Value → Value → Hp → Prop) (m : α → Nat) (x : α) (h0 : I x a0 a1 a2 a3 a4 a5 a6 a7 a8 a9 h)
    (hb : ∀ x a0 a1 a2 a3 a4 a5 a6 a7 a8 a9 h, I x a0 a1 a2 a3 a4 a5 a6 a7 a8 a9 h → ∀ again : Value → Value → Value → Value → Value → Value → Value → Value → Value → Value → Hp → Prop, (∀ x' a0 a1 a2 a3 a4 a5 a6 a7 a8 a9 h, I x' a0 a1 a2 a3 a4 a5 a6 a7 a8 a9 h → m x' < m x → again a0 a1 a2 a3 a4 a5 a6 a7 a8 a9 h) → body a0 a1 a2 a3 a4 a5 a6 a7 a8 a9 h again) : Lp10 a0 a1 a2 a3 a4 a5 a6 a7 a8 a9 h body := by
  classical
  refine ⟨fun a0 a1 a2 a3 a4 a5 a6 a7 a8 a9 h => ∃ x, I x a0 a1 a2 a3 a4 a5 a6 a7 a8 a9 h, fun a0 a1 a2 a3 a4 a5 a6 a7 a8 a9 h => if e : ∃ n x, I x a0 a1 a2 a3 a4 a5 a6 a7 a8 a9 h ∧ m x = n then Nat.find' e else 0, ⟨x, h0⟩, fun a0 a1 a2 a3 a4 a5 a6 a7 a8 a9 h hI => ?_⟩
  have e : ∃ n x, I x a0 a1 a2 a3 a4 a5 a6 a7 a8 a9 h ∧ m x = n := let ⟨x, hx⟩ := hI; ⟨_, x, hx, rfl⟩
  obtain ⟨x, hx, hm⟩ := Nat.find'_spec e
  refine hb x a0 a1 a2 a3 a4 a5 a6 a7 a8 a9 h hx _ fun x' a0 a1 a2 a3 a4 a5 a6 a7 a8 a9 h hx' hlt => ⟨⟨x', hx'⟩, ?_⟩
  have e' : ∃ n x, I x a0 a1 a2 a3 a4 a5 a6 a7 a8 a9 h ∧ m x = n := ⟨_, x', hx', rfl⟩
  dsimp only
  rw [dif_pos e', dif_pos e]
  exact Nat.lt_of_le_of_lt (Nat.find'_min e' ⟨x', hx', rfl⟩) (by rw [← hm]; exact hlt)
def ap0 (J : Hp → Prop) (vs : List Value) (h : Hp) : Prop :=
  match vs with
  | [] => J h
  | _ => False
def ap1 (J : Value → Hp → Prop) (vs : List Value) (h : Hp) : Prop :=
  match vs with
  | [a0] => J a0 h
  | _ => False
def ap2 (J : Value → Value → Hp → Prop) (vs : List Value) (h : Hp) : Prop :=
  match vs with
  | [a0, a1] => J a0 a1 h
  | _ => False
def ap3 (J : Value → Value → Value → Hp → Prop) (vs : List Value) (h : Hp) : Prop :=
  match vs with
  | [a0, a1, a2] => J a0 a1 a2 h
  | _ => False
def ap4 (J : Value → Value → Value → Value → Hp → Prop) (vs : List Value) (h : Hp) : Prop :=
  match vs with
  | [a0, a1, a2, a3] => J a0 a1 a2 a3 h
  | _ => False
def ap5 (J : Value → Value → Value → Value → Value → Hp → Prop) (vs : List Value) (h : Hp) : Prop :=
  match vs with
  | [a0, a1, a2, a3, a4] => J a0 a1 a2 a3 a4 h
  | _ => False
def ap6 (J : Value → Value → Value → Value → Value → Value → Hp → Prop) (vs : List Value) (h : Hp) : Prop :=
  match vs with
  | [a0, a1, a2, a3, a4, a5] => J a0 a1 a2 a3 a4 a5 h
  | _ => False
def ap7 (J : Value → Value → Value → Value → Value → Value → Value → Hp → Prop) (vs : List Value) (h : Hp) : Prop :=
  match vs with
  | [a0, a1, a2, a3, a4, a5, a6] => J a0 a1 a2 a3 a4 a5 a6 h
  | _ => False
def ap8 (J : Value → Value → Value → Value → Value → Value → Value → Value → Hp → Prop) (vs : List Value) (h : Hp) : Prop :=
  match vs with
  | [a0, a1, a2, a3, a4, a5, a6, a7] => J a0 a1 a2 a3 a4 a5 a6 a7 h
  | _ => False
def ap9 (J : Value → Value → Value → Value → Value → Value → Value → Value → Value → Hp → Prop) (vs : List Value) (h : Hp) : Prop :=
  match vs with
  | [a0, a1, a2, a3, a4, a5, a6, a7, a8] => J a0 a1 a2 a3 a4 a5 a6 a7 a8 h
  | _ => False
def ap10 (J : Value → Value → Value → Value → Value → Value → Value → Value → Value → Value → Hp → Prop) (vs : List Value) (h : Hp) : Prop :=
  match vs with
  | [a0, a1, a2, a3, a4, a5, a6, a7, a8, a9] => J a0 a1 a2 a3 a4 a5 a6 a7 a8 a9 h
  | _ => False

/-- a join of the slots S -/
def JnC (S : List Nat) (K : List Value → Hp → Prop) (body : (List Value → Hp → Prop) → Prop) : Prop :=
  match S with
  | [] => Jn0 (K []) (fun J => body (ap0 J))
  | [_] => Jn1 (fun a0 => K [a0]) (fun J => body (ap1 J))
  | [_, _] => Jn2 (fun a0 a1 => K [a0, a1]) (fun J => body (ap2 J))
  | [_, _, _] => Jn3 (fun a0 a1 a2 => K [a0, a1, a2]) (fun J => body (ap3 J))
  | [_, _, _, _] => Jn4 (fun a0 a1 a2 a3 => K [a0, a1, a2, a3]) (fun J => body (ap4 J))
  | [_, _, _, _, _] => Jn5 (fun a0 a1 a2 a3 a4 => K [a0, a1, a2, a3, a4]) (fun J => body (ap5 J))
  | [_, _, _, _, _, _] => Jn6 (fun a0 a1 a2 a3 a4 a5 => K [a0, a1, a2, a3, a4, a5]) (fun J => body (ap6 J))
  | [_, _, _, _, _, _, _] => Jn7 (fun a0 a1 a2 a3 a4 a5 a6 => K [a0, a1, a2, a3, a4, a5, a6]) (fun J => body (ap7 J))
  | [_, _, _, _, _, _, _, _] => Jn8 (fun a0 a1 a2 a3 a4 a5 a6 a7 => K [a0, a1, a2, a3, a4, a5, a6, a7]) (fun J => body (ap8 J))
  | [_, _, _, _, _, _, _, _, _] => Jn9 (fun a0 a1 a2 a3 a4 a5 a6 a7 a8 => K [a0, a1, a2, a3, a4, a5, a6, a7, a8]) (fun J => body (ap9 J))
  | [_, _, _, _, _, _, _, _, _, _] => Jn10 (fun a0 a1 a2 a3 a4 a5 a6 a7 a8 a9 => K [a0, a1, a2, a3, a4, a5, a6, a7, a8, a9]) (fun J => body (ap10 J))
  | _ => False

def LpC (S : List Nat) (iv : List Value) (h : Hp) (body : List Value → Hp → (List Value → Hp → Prop) → Prop) : Prop :=
  match S, iv with
  | [], [] => Lp0 h (fun h again => body [] h (ap0 again))
  | [_], [i0] => Lp1 i0 h (fun a0 h again => body [a0] h (ap1 again))
  | [_, _], [i0, i1] => Lp2 i0 i1 h (fun a0 a1 h again => body [a0, a1] h (ap2 again))
  | [_, _, _], [i0, i1, i2] => Lp3 i0 i1 i2 h (fun a0 a1 a2 h again => body [a0, a1, a2] h (ap3 again))
  | [_, _, _, _], [i0, i1, i2, i3] => Lp4 i0 i1 i2 i3 h (fun a0 a1 a2 a3 h again => body [a0, a1, a2, a3] h (ap4 again))
  | [_, _, _, _, _], [i0, i1, i2, i3, i4] => Lp5 i0 i1 i2 i3 i4 h (fun a0 a1 a2 a3 a4 h again => body [a0, a1, a2, a3, a4] h (ap5 again))
  | [_, _, _, _, _, _], [i0, i1, i2, i3, i4, i5] => Lp6 i0 i1 i2 i3 i4 i5 h (fun a0 a1 a2 a3 a4 a5 h again => body [a0, a1, a2, a3, a4, a5] h (ap6 again))
  | [_, _, _, _, _, _, _], [i0, i1, i2, i3, i4, i5, i6] => Lp7 i0 i1 i2 i3 i4 i5 i6 h (fun a0 a1 a2 a3 a4 a5 a6 h again => body [a0, a1, a2, a3, a4, a5, a6] h (ap7 again))
  | [_, _, _, _, _, _, _, _], [i0, i1, i2, i3, i4, i5, i6, i7] => Lp8 i0 i1 i2 i3 i4 i5 i6 i7 h (fun a0 a1 a2 a3 a4 a5 a6 a7 h again => body [a0, a1, a2, a3, a4, a5, a6, a7] h (ap8 again))
  | [_, _, _, _, _, _, _, _, _], [i0, i1, i2, i3, i4, i5, i6, i7, i8] => Lp9 i0 i1 i2 i3 i4 i5 i6 i7 i8 h (fun a0 a1 a2 a3 a4 a5 a6 a7 a8 h again => body [a0, a1, a2, a3, a4, a5, a6, a7, a8] h (ap9 again))
  | [_, _, _, _, _, _, _, _, _, _], [i0, i1, i2, i3, i4, i5, i6, i7, i8, i9] => Lp10 i0 i1 i2 i3 i4 i5 i6 i7 i8 i9 h (fun a0 a1 a2 a3 a4 a5 a6 a7 a8 a9 h again => body [a0, a1, a2, a3, a4, a5, a6, a7, a8, a9] h (ap10 again))
  | _, _ => False

theorem JnC_sound {S : List Nat} {K : List Value → Hp → Prop} {body : (List Value → Hp → Prop) → Prop} (h : JnC S K body) : ∃ J : List Value → Hp → Prop, body J ∧ ∀ vs h, J vs h → K vs h := by
  unfold JnC at h
  split at h
  · obtain ⟨J, hb, hk⟩ := h
    refine ⟨_, hb, fun vs h hj => ?_⟩
    unfold ap0 at hj
    split at hj
    · exact hk _ hj
    · exact hj.elim
  · obtain ⟨J, hb, hk⟩ := h
    refine ⟨_, hb, fun vs h hj => ?_⟩
    unfold ap1 at hj
    split at hj
    · exact hk _ _ hj
    · exact hj.elim
  · obtain ⟨J, hb, hk⟩ := h
    refine ⟨_, hb, fun vs h hj => ?_⟩
    unfold ap2 at hj
    split at hj
    · exact hk _ _ _ hj
    · exact hj.elim
  · obtain ⟨J, hb, hk⟩ := h
    refine ⟨_, hb, fun vs h hj => ?_⟩
    unfold ap3 at hj
    split at hj
    · exact hk _ _ _ _ hj
    · exact hj.elim
  · obtain ⟨J, hb, hk⟩ := h
    refine ⟨_, hb, fun vs h hj => ?_⟩
    unfold ap4 at hj
    split at hj
    · exact hk _ _ _ _ _ hj
    · exact hj.elim
  · obtain ⟨J, hb, hk⟩ := h
    refine ⟨_, hb, fun vs h hj => ?_⟩
    unfold ap5 at hj
    split at hj
    · exact hk _ _ _ _ _ _ hj
    · exact hj.elim
  · obtain ⟨J, hb, hk⟩ := h
    refine ⟨_, hb, fun vs h hj => ?_⟩
    unfold ap6 at hj
    split at hj
    · exact hk _ _ _ _ _ _ _ hj
    · exact hj.elim
  · obtain ⟨J, hb, hk⟩ := h
    refine ⟨_, hb, fun vs h hj => ?_⟩
    unfold ap7 at hj
    split at hj
    · exact hk _ _ _ _ _ _ _ _ hj
    · exact hj.elim
  · obtain ⟨J, hb, hk⟩ := h
    refine ⟨_, hb, fun vs h hj => ?_⟩
    unfold ap8 at hj
    split at hj
    · exact hk _ _ _ _ _ _ _ _ _ hj
    · exact hj.elim
  · obtain ⟨J, hb, hk⟩ := h
    refine ⟨_, hb, fun vs h hj => ?_⟩
    unfold ap9 at hj
    split at hj
    · exact hk _ _ _ _ _ _ _ _ _ _ hj
    · exact hj.elim
  · obtain ⟨J, hb, hk⟩ := h
    refine ⟨_, hb, fun vs h hj => ?_⟩
    unfold ap10 at hj
    split at hj
    · exact hk _ _ _ _ _ _ _ _ _ _ _ hj
    · exact hj.elim
  · exact h.elim

theorem LpC_sound {S : List Nat} {iv : List Value} {h : Hp} {body : List Value → Hp → (List Value → Hp → Prop) → Prop} (H : LpC S iv h body) :
    ∃ (I : List Value → Hp → Prop) (m : List Value → Hp → Nat) (C : List Value → Hp → List Value → Hp → Prop), I iv h ∧ (∀ vs h, I vs h → body vs h (C vs h)) ∧ ∀ vs h vs' h', C vs h vs' h' → I vs' h' ∧ m vs' h' < m vs h := by
  unfold LpC at H
  split at H
  · obtain ⟨I, m, h0, hb⟩ := H
    refine ⟨ap0 I, fun vs h => match vs with
      | [] => m h
      | _ => 0, fun vs h => match vs with
      | [] => ap0 (fun h' => I h' ∧ m h' < m h)
      | _ => fun _ _ => False, h0, fun vs h hI => ?_, fun vs h vs' h' hC => ?_⟩
    · unfold ap0 at hI
      split at hI
      · exact hb _ hI
      · exact hI.elim
    · dsimp only at hC
      split at hC
      · unfold ap0 at hC
        split at hC
        · exact hC
        · exact hC.elim
      · exact hC.elim
  · obtain ⟨I, m, h0, hb⟩ := H
    refine ⟨ap1 I, fun vs h => match vs with
      | [a0] => m a0 h
      | _ => 0, fun vs h => match vs with
      | [a0] => ap1 (fun a0' h' => I a0' h' ∧ m a0' h' < m a0 h)
      | _ => fun _ _ => False, h0, fun vs h hI => ?_, fun vs h vs' h' hC => ?_⟩
    · unfold ap1 at hI
      split at hI
      · exact hb _ _ hI
      · exact hI.elim
    · dsimp only at hC
      split at hC
      · unfold ap1 at hC
        split at hC
        · exact hC
        · exact hC.elim
      · exact hC.elim
  · obtain ⟨I, m, h0, hb⟩ := H
    refine ⟨ap2 I, fun vs h => match vs with
      | [a0, a1] => m a0 a1 h
      | _ => 0, fun vs h => match vs with
      | [a0, a1] => ap2 (fun a0' a1' h' => I a0' a1' h' ∧ m a0' a1' h' < m a0 a1 h)
      | _ => fun _ _ => False, h0, fun vs h hI => ?_, fun vs h vs' h' hC => ?_⟩
    · unfold ap2 at hI
      split at hI
      · exact hb _ _ _ hI
      · exact hI.elim
    · dsimp only at hC
      split at hC
      · unfold ap2 at hC
        split at hC
        · exact hC
        · exact hC.elim
      · exact hC.elim
  · obtain ⟨I, m, h0, hb⟩ := H
    refine ⟨ap3 I, fun vs h => match vs with
      | [a0, a1, a2] => m a0 a1 a2 h
      | _ => 0, fun vs h => match vs with
      | [a0, a1, a2] => ap3 (fun a0' a1' a2' h' => I a0' a1' a2' h' ∧ m a0' a1' a2' h' < m a0 a1 a2 h)
      | _ => fun _ _ => False, h0, fun vs h hI => ?_, fun vs h vs' h' hC => ?_⟩
    · unfold ap3 at hI
      split at hI
      · exact hb _ _ _ _ hI
      · exact hI.elim
    · dsimp only at hC
      split at hC
      · unfold ap3 at hC
        split at hC
        · exact hC
        · exact hC.elim
      · exact hC.elim
  · obtain ⟨I, m, h0, hb⟩ := H
    refine ⟨ap4 I, fun vs h => match vs with
      | [a0, a1, a2, a3] => m a0 a1 a2 a3 h
      | _ => 0, fun vs h => match vs with
      | [a0, a1, a2, a3] => ap4 (fun a0' a1' a2' a3' h' => I a0' a1' a2' a3' h' ∧ m a0' a1' a2' a3' h' < m a0 a1 a2 a3 h)
      | _ => fun _ _ => False, h0, fun vs h hI => ?_, fun vs h vs' h' hC => ?_⟩
    · unfold ap4 at hI
      split at hI
      · exact hb _ _ _ _ _ hI
      · exact hI.elim
    · dsimp only at hC
      split at hC
      · unfold ap4 at hC
        split at hC
        · exact hC
        · exact hC.elim
      · exact hC.elim
  · obtain ⟨I, m, h0, hb⟩ := H
    refine ⟨ap5 I, fun vs h => match vs with
      | [a0, a1, a2, a3, a4] => m a0 a1 a2 a3 a4 h
      | _ => 0, fun vs h => match vs with
      | [a0, a1, a2, a3, a4] => ap5 (fun a0' a1' a2' a3' a4' h' => I a0' a1' a2' a3' a4' h' ∧ m a0' a1' a2' a3' a4' h' < m a0 a1 a2 a3 a4 h)
      | _ => fun _ _ => False, h0, fun vs h hI => ?_, fun vs h vs' h' hC => ?_⟩
    · unfold ap5 at hI
      split at hI
      · exact hb _ _ _ _ _ _ hI
      · exact hI.elim
    · dsimp only at hC
      split at hC
      · unfold ap5 at hC
        split at hC
        · exact hC
        · exact hC.elim
      · exact hC.elim
  · obtain ⟨I, m, h0, hb⟩ := H
    refine ⟨ap6 I, fun vs h => match vs with
      | [a0, a1, a2, a3, a4, a5] => m a0 a1 a2 a3 a4 a5 h
      | _ => 0, fun vs h => match vs with
      | [a0, a1, a2, a3, a4, a5] => ap6 (fun a0' a1' a2' a3' a4' a5' h' => I a0' a1' a2' a3' a4' a5' h' ∧ m a0' a1' a2' a3' a4' a5' h' < m a0 a1 a2 a3 a4 a5 h)
      | _ => fun _ _ => False, h0, fun vs h hI => ?_, fun vs h vs' h' hC => ?_⟩
    · unfold ap6 at hI
      split at hI
      · exact hb _ _ _ _ _ _ _ hI
      · exact hI.elim
    · dsimp only at hC
      split at hC
      · unfold ap6 at hC
        split at hC
        · exact hC
        · exact hC.elim
      · exact hC.elim
  · obtain ⟨I, m, h0, hb⟩ := H
    refine ⟨ap7 I, fun vs h => match vs with
      | [a0, a1, a2, a3, a4, a5, a6] => m a0 a1 a2 a3 a4 a5 a6 h
      | _ => 0, fun vs h => match vs with
      | [a0, a1, a2, a3, a4, a5, a6] => ap7 (fun a0' a1' a2' a3' a4' a5' a6' h' => I a0' a1' a2' a3' a4' a5' a6' h' ∧ m a0' a1' a2' a3' a4' a5' a6' h' < m a0 a1 a2 a3 a4 a5 a6 h)
      | _ => fun _ _ => False, h0, fun vs h hI => ?_, fun vs h vs' h' hC => ?_⟩
    · unfold ap7 at hI
      split at hI
      · exact hb _ _ _ _ _ _ _ _ hI
      · exact hI.elim
    · dsimp only at hC
      split at hC
      · unfold ap7 at hC
        split at hC
        · exact hC
        · exact hC.elim
      · exact hC.elim
  · obtain ⟨I, m, h0, hb⟩ := H
    refine ⟨ap8 I, fun vs h => match vs with
      | [a0, a1, a2, a3, a4, a5, a6, a7] => m a0 a1 a2 a3 a4 a5 a6 a7 h
      | _ => 0, fun vs h => match vs with
      | [a0, a1, a2, a3, a4, a5, a6, a7] => ap8 (fun a0' a1' a2' a3' a4' a5' a6' a7' h' => I a0' a1' a2' a3' a4' a5' a6' a7' h' ∧ m a0' a1' a2' a3' a4' a5' a6' a7' h' < m a0 a1 a2 a3 a4 a5 a6 a7 h)
      | _ => fun _ _ => False, h0, fun vs h hI => ?_, fun vs h vs' h' hC => ?_⟩
    · unfold ap8 at hI
      split at hI
      · exact hb _ _ _ _ _ _ _ _ _ hI
      · exact hI.elim
    · dsimp only at hC
      split at hC
      · unfold ap8 at hC
        split at hC
        · exact hC
        · exact hC.elim
      · exact hC.elim
  · obtain ⟨I, m, h0, hb⟩ := H
    refine ⟨ap9 I, fun vs h => match vs with
      | [a0, a1, a2, a3, a4, a5, a6, a7, a8] => m a0 a1 a2 a3 a4 a5 a6 a7 a8 h
      | _ => 0, fun vs h => match vs with
      | [a0, a1, a2, a3, a4, a5, a6, a7, a8] => ap9 (fun a0' a1' a2' a3' a4' a5' a6' a7' a8' h' => I a0' a1' a2' a3' a4' a5' a6' a7' a8' h' ∧ m a0' a1' a2' a3' a4' a5' a6' a7' a8' h' < m a0 a1 a2 a3 a4 a5 a6 a7 a8 h)
      | _ => fun _ _ => False, h0, fun vs h hI => ?_, fun vs h vs' h' hC => ?_⟩
    · unfold ap9 at hI
      split at hI
      · exact hb _ _ _ _ _ _ _ _ _ _ hI
      · exact hI.elim
    · dsimp only at hC
      split at hC
      · unfold ap9 at hC
        split at hC
        · exact hC
        · exact hC.elim
      · exact hC.elim
  · obtain ⟨I, m, h0, hb⟩ := H
    refine ⟨ap10 I, fun vs h => match vs with
      | [a0, a1, a2, a3, a4, a5, a6, a7, a8, a9] => m a0 a1 a2 a3 a4 a5 a6 a7 a8 a9 h
      | _ => 0, fun vs h => match vs with
      | [a0, a1, a2, a3, a4, a5, a6, a7, a8, a9] => ap10 (fun a0' a1' a2' a3' a4' a5' a6' a7' a8' a9' h' => I a0' a1' a2' a3' a4' a5' a6' a7' a8' a9' h' ∧ m a0' a1' a2' a3' a4' a5' a6' a7' a8' a9' h' < m a0 a1 a2 a3 a4 a5 a6 a7 a8 a9 h)
      | _ => fun _ _ => False, h0, fun vs h hI => ?_, fun vs h vs' h' hC => ?_⟩
    · unfold ap10 at hI
      split at hI
      · exact hb _ _ _ _ _ _ _ _ _ _ _ hI
      · exact hI.elim
    · dsimp only at hC
      split at hC
      · unfold ap10 at hC
        split at hC
        · exact hC
        · exact hC.elim
      · exact hC.elim
  · exact H.elim

end Go.En
