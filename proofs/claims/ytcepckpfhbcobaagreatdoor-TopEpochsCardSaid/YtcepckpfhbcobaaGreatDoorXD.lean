/-
  What one owns: resources, each with the blocks that it stands on; a row of them, apart from each other.
  The law Epochs, in plain Lean: a writer that recycles four blocks, two readers, and an invariant of their steps.
  The law Epochs, in plain Lean: the whole system; what is held is safe; its steps end.
  Rules for resources, of use anywhere (taken together from the library of the spaces).
  Variables as rows of cells (no encoding named), and what holds over a base.
  Layout: the places of a memory for three threads, eight cells and no blocks.
-/
import Derived.Test.YtcepckpfhbcobaaGreatDoorXC
import Derived.Test.YtcepckpfhbcobaaGreatDoorXT
namespace Go.En

abbrev Fp := Nat → Prop
/-- a step that turns what stands on F; behind it that stands on F' -/
structure Mv (F : Fp) (h : Hp) (F' : Fp) (h' : Hp) : Prop where
  ch : Ch F h h'
  grow : ∀ r, F' r → F r ∨ h.size ≤ r
theorem Mv.refl (F : Fp) (h : Hp) : Mv F h F h := ⟨.refl _ _, fun _ e => .inl e⟩
theorem Mv.trans {F F' F'' : Fp} {a b c : Hp} (x : Mv F a F' b) (y : Mv F' b F'' c) : Mv F a F'' c := by
  refine ⟨⟨Nat.le_trans x.ch.size y.ch.size, fun r hr hn => ?_⟩, fun r hr => ?_⟩
  · rw [y.ch.same r (Nat.lt_of_lt_of_le hr x.ch.size) (fun e => (x.grow r e).elim hn (fun g => by omega)), x.ch.same r hr hn]
  · rcases y.grow r hr with h | h
    · exact x.grow r h
    · exact .inr (Nat.le_trans x.ch.size h)

structure Res where
  P : Hp → Fp → Prop
  lt : ∀ {h F}, P h F → ∀ r, F r → r < h.size
  loc : ∀ {h h' F D}, P h F → Ch D h h' → (∀ r, F r → ¬ D r) → P h' F

/-- resources at hand, each with its blocks -/
inductive Own (h : Hp) : List Res → List Fp → Prop where
  | nil : Own h [] []
  | cons {A : Res} {F : Fp} {L : List Res} {Fs : List Fp} : A.P h F → (∀ G ∈ Fs, ∀ r, F r → ¬ G r) → Own h L Fs → Own h (A :: L) (F :: Fs)
theorem Own.lt {h : Hp} {L : List Res} {Fs : List Fp} (o : Own h L Fs) : ∀ G ∈ Fs, ∀ r, G r → r < h.size := by
  induction o with
  | nil => intro G hG; cases hG
  | cons a _ _ ih =>
    intro G hG
    rcases List.mem_cons.1 hG with rfl | hG
    · exact Res.lt _ a
    · exact ih G hG
theorem Own.loc {h h' : Hp} {D : Fp} {L : List Res} {Fs : List Fp} (o : Own h L Fs) (c : Ch D h h') (hd : ∀ G ∈ Fs, ∀ r, G r → ¬ D r) : Own h' L Fs := by
  induction o with
  | nil => exact .nil
  | cons a d _ ih => exact .cons (Res.loc _ a c (hd _ (List.mem_cons_self ..))) d (ih fun G hG => hd G (List.mem_cons_of_mem _ hG))

/-- resources at hand; whatever stood at h0 outside F0 is as it was -/
def Cx (F0 : Fp) (h0 h : Hp) (L : List Res) : Prop := ∃ Fs, Own h L Fs ∧ Ch F0 h0 h ∧ ∀ G ∈ Fs, ∀ r, G r → F0 r ∨ h0.size ≤ r

section
variable {F0 : Fp} {h0 h h' : Hp} {L : List Res} {A B : Res}
theorem Cx.gr (c : Cx F0 h0 h L) : Ch F0 h0 h := let ⟨_, _, g, _⟩ := c; g
theorem Cx.start {F : Fp} (a : A.P h F) : Cx F h h [A] := ⟨[F], .cons a (fun _ hG => by cases hG) .nil, .refl _ _, fun G hG r hr => by
  rcases List.mem_cons.1 hG with rfl | hG
  · exact .inl hr
  · cases hG⟩
theorem Cx.start0 (h : Hp) : Cx (fun _ => False) h h [] := ⟨[], .nil, .refl _ _, fun G hG => by cases hG⟩

theorem own_get : ∀ {L : List Res} {Fs : List Fp} {i : Nat} {A : Res}, Own h L Fs → L[i]? = some A → ∃ F, A.P h F ∧ Fs[i]? = some F ∧ ∀ {h' : Hp} {F' : Fp} {B : Res}, B.P h' F' → Mv F h F' h' → Own h' (L.set i B) (Fs.set i F')
  | _, _, i, A, .nil, hi => by simp at hi
  | _, _, 0, A, .cons (F := F) a d o, hi => by
    simp only [List.getElem?_cons_zero, Option.some.injEq] at hi
    subst hi
    refine ⟨F, a, rfl, fun {h' F' B} b m => ?_⟩
    refine .cons b (fun G hG r hr hG2 => ?_) (o.loc m.ch fun G hG r hr hF => d G hG r hF hr)
    rcases m.grow r hr with h | h
    · exact d G hG r h hG2
    · have := o.lt G hG r hG2; omega
  | _, _, i + 1, A, .cons (F := F0) (A := A0) a d o, hi => by
    obtain ⟨F, p, hF, f⟩ := own_get o (by simpa using hi)
    refine ⟨F, p, by simpa using hF, fun {h' F' B} b m => ?_⟩
    have hdis : ∀ r, F0 r → ¬ F r := d F (List.mem_of_getElem? hF)
    refine .cons (A0.loc a m.ch hdis) (fun G hG r hr hG2 => ?_) (f b m)
    rcases List.mem_or_eq_of_mem_set hG with h | h
    · exact d G h r hr hG2
    · subst h
      rcases m.grow r hG2 with h | h
      · exact hdis r hr h
      · have := A0.lt a r hr; omega

/-- one resource is looked at, and turned -/
theorem Cx.upd (c : Cx F0 h0 h L) {i : Nat} (hi : L[i]? = some A) : ∃ F, A.P h F ∧ ∀ {h' : Hp} {F' : Fp} {B : Res}, B.P h' F' → Mv F h F' h' → Cx F0 h0 h' (L.set i B) := by
  obtain ⟨Fs, o, g, k⟩ := c
  obtain ⟨F, p, hF, f⟩ := own_get o hi
  refine ⟨F, p, fun {h' F' B} b m => ⟨_, f b m, ?_, fun G hG r hr => ?_⟩⟩
  · have kF := k F (List.mem_of_getElem? hF)
    refine ⟨Nat.le_trans g.size m.ch.size, fun r hr hn => ?_⟩
    rw [m.ch.same r (Nat.lt_of_lt_of_le hr g.size) (fun e => (kF r e).elim hn (fun x => by omega)), g.same r hr hn]
  · rcases List.mem_or_eq_of_mem_set hG with h | h
    · exact k G h r hr
    · subst h
      rcases m.grow r hr with h | h
      · exact k F (List.mem_of_getElem? hF) r h
      · exact .inr (Nat.le_trans g.size h)
theorem Cx.get (c : Cx F0 h0 h L) {i : Nat} (hi : L[i]? = some A) : ∃ F, A.P h F := let ⟨F, p, _⟩ := c.upd hi; ⟨F, p⟩

theorem own_app : ∀ {L : List Res} {Fs : List Fp} {F' : Fp} {h h' : Hp} {B : Res}, Own h L Fs → B.P h' F' → Gr h h' → (∀ r, F' r → h.size ≤ r) → Own h' (L ++ [B]) (Fs ++ [F'])
  | _, _, _, _, _, B, .nil, b, g, n => .cons b (fun G hG => by cases hG) .nil
  | _, _, F', h, h', B, .cons (A := A0) a d o, b, g, n => by
    refine .cons (A0.loc a g fun _ _ e => e) (fun G hG r hr hG2 => ?_) (own_app o b g n)
    rcases List.mem_append.1 hG with h | h
    · exact d G h r hr hG2
    · simp only [List.mem_singleton] at h
      subst h
      have := n r hG2
      have := A0.lt a r hr
      omega
/-- a new resource -/
theorem Cx.add (c : Cx F0 h0 h L) {F' : Fp} (b : B.P h' F') (g : Gr h h') (n : ∀ r, F' r → h.size ≤ r) : Cx F0 h0 h' (L ++ [B]) := by
  obtain ⟨Fs, o, g0, k⟩ := c
  refine ⟨_, own_app o b g n, ⟨Nat.le_trans g0.size g.size, fun r hr hn => by rw [g.same r (Nat.lt_of_lt_of_le hr g0.size) (fun e => e), g0.same r hr hn]⟩, fun G hG r hr => ?_⟩
  rcases List.mem_append.1 hG with h | h
  · exact k G h r hr
  · simp only [List.mem_singleton] at h
    subst h
    exact .inr (Nat.le_trans g0.size (n r hr))
/-- a step that only adds -/
theorem Cx.more (c : Cx F0 h0 h L) (g : Gr h h') : Cx F0 h0 h' L := by
  obtain ⟨Fs, o, g0, k⟩ := c
  exact ⟨Fs, o.loc g fun _ _ _ _ e => e, ⟨Nat.le_trans g0.size g.size, fun r hr hn => by rw [g.same r (Nat.lt_of_lt_of_le hr g0.size) (fun e => e), g0.same r hr hn]⟩, k⟩
theorem own_drop : ∀ {L L' : List Res} {Fs : List Fp}, Own h (L ++ L') Fs → ∃ Fs', Own h L Fs' ∧ ∀ G ∈ Fs', G ∈ Fs
  | [], L', Fs, _ => ⟨[], .nil, fun G hG => by cases hG⟩
  | A :: L, L', _, .cons a d o => by
    obtain ⟨Fs', o', hs⟩ := own_drop (L := L) o
    exact ⟨_, .cons a (fun G hG => d G (hs G hG)) o', fun G hG => by
      rcases List.mem_cons.1 hG with rfl | hG
      · exact List.mem_cons_self ..
      · exact List.mem_cons_of_mem _ (hs G hG)⟩
theorem Cx.drop {L' : List Res} (c : Cx F0 h0 h (L ++ L')) : Cx F0 h0 h L := by
  obtain ⟨Fs, o, g, k⟩ := c
  obtain ⟨Fs', o', hs⟩ := own_drop o
  exact ⟨Fs', o', g, fun G hG => k G (hs G hG)⟩
theorem own_sub : ∀ {L L' : List Res} {Fs : List Fp}, L'.Sublist L → Own h L Fs → ∃ Fs', Own h L' Fs' ∧ ∀ G ∈ Fs', G ∈ Fs
  | _, _, _, .slnil, _ => ⟨[], .nil, fun G hG => by cases hG⟩
  | _, _, _, .cons _ s, .cons a d o => by
    obtain ⟨Fs', o', hs⟩ := own_sub s o
    exact ⟨Fs', o', fun G hG => List.mem_cons_of_mem _ (hs G hG)⟩
  | _, _, _, .cons_cons _ s, .cons a d o => by
    obtain ⟨Fs', o', hs⟩ := own_sub s o
    exact ⟨_, .cons a (fun G hG => d G (hs G hG)) o', fun G hG => by
      rcases List.mem_cons.1 hG with rfl | hG
      · exact List.mem_cons_self ..
      · exact List.mem_cons_of_mem _ (hs G hG)⟩
/-- some of the resources -/
theorem Cx.sub {L' : List Res} (c : Cx F0 h0 h L) (s : L'.Sublist L) : Cx F0 h0 h L' := by
  obtain ⟨Fs, o, g, k⟩ := c
  obtain ⟨Fs', o', hs⟩ := own_sub s o
  exact ⟨Fs', o', g, fun G hG => k G (hs G hG)⟩
/-- what a caller gets back: the first resource -/
theorem Cx.fin {F : Fp} (c : Cx F h0 h (A :: L)) : ∃ F', A.P h F' ∧ Mv F h0 F' h := by
  obtain ⟨Fs, o, g, k⟩ := c
  cases o with
  | cons a d o => exact ⟨_, a, g, fun r hr => k _ (List.mem_cons_self ..) r hr⟩
/-- two resources are apart -/
theorem own_two : ∀ {L : List Res} {Fs : List Fp} {i j : Nat} {A B : Res}, Own h L Fs → L[i]? = some A → L[j]? = some B → i ≠ j → ∃ F G, A.P h F ∧ B.P h G ∧ ∀ r, F r → ¬ G r
  | _, _, i, _, _, _, .nil, hi, _, _ => by simp at hi
  | _, _, 0, 0, _, _, .cons .., _, _, hn => absurd rfl hn
  | _, _, 0, j + 1, A, B, .cons a d o, hi, hj, hn => by
    simp only [List.getElem?_cons_zero, Option.some.injEq] at hi
    subst hi
    obtain ⟨G, b, hG, _⟩ := own_get o (by simpa using hj)
    exact ⟨_, _, a, b, d G (List.mem_of_getElem? hG)⟩
  | _, _, i + 1, 0, A, B, .cons a d o, hi, hj, hn => by
    simp only [List.getElem?_cons_zero, Option.some.injEq] at hj
    subst hj
    obtain ⟨G, b, hG, _⟩ := own_get o (by simpa using hi)
    exact ⟨_, _, b, a, fun r h1 h2 => d G (List.mem_of_getElem? hG) r h2 h1⟩
  | _, _, i + 1, j + 1, A, B, .cons a d o, hi, hj, hn => own_two o (by simpa using hi) (by simpa using hj) (by omega)
theorem Cx.two {i j : Nat} (c : Cx F0 h0 h L) (hi : L[i]? = some A) (hj : L[j]? = some B) (hn : i ≠ j) : ∃ F G, A.P h F ∧ B.P h G ∧ ∀ r, F r → ¬ G r := by
  obtain ⟨Fs, o, g, k⟩ := c
  exact own_two o hi hj hn
end

/-! ### The kinds of resources -/
/-- a variable at the block r -/
def rVar {α : Type} (E : Enc α) (r : Nat) (x : α) : Res where
  P := fun h F => Va E h r x ∧ ∀ q, F q ↔ q = r
  lt := fun ⟨v, hf⟩ q hq => by rw [hf] at hq; subst hq; exact v.lt
  loc := fun ⟨v, hf⟩ c hd => ⟨v.ch c (hd r ((hf r).2 rfl)), hf⟩
/-- a slice of one's own -/
def rSl {α : Type} (E : Enc α) (v : Value) (xs : List α) : Res where
  P := fun h F => Ow E h v xs ∧ ∀ q, F q ↔ blk v = some q
  lt := fun ⟨o, hf⟩ q hq => by rw [hf] at hq; exact o.lt hq
  loc := fun ⟨o, hf⟩ c hd => ⟨o.ch c fun r hr => hd r ((hf r).2 hr), hf⟩
/-- a map with whole-number keys -/
def rMp {α : Type} (ik : IntKind) (E : α → Value) (v : Value) (ps : List (Int × α)) : Res where
  P := fun h F => Mp ik E h v ps ∧ ∀ q, F q ↔ mblk v = some q
  lt := fun ⟨o, hf⟩ q hq => by rw [hf] at hq; exact o.lt hq
  loc := fun ⟨o, hf⟩ c hd => ⟨o.ch c fun r hr => hd r ((hf r).2 hr), hf⟩

section
variable {F0 : Fp} {h0 h h' : Hp} {L : List Res}
/-- a new variable -/
theorem Cx.nw {α : Type} (E : Enc α) (x : α) (c : Cx F0 h0 h L) {cs : Array Value} {e : TypeId} (hc : cs.toList = E.c x) {k : Value → Hp → Prop}
    (hk : ∀ r h', Cx F0 h0 h' (L ++ [rVar E r x]) → k (at0 r) h') : Eb (En.nw cs e h) k :=
  eb rfl (hk h.size _ (c.add (F' := fun q => q = h.size) ⟨Va.new hc, fun _ => Iff.rfl⟩ (Ch.push _ _) fun r e => by omega))
theorem Cx.va {α : Type} {E : Enc α} {r i : Nat} {x : α} (c : Cx F0 h0 h L) (hi : L[i]? = some (rVar E r x)) : Va E h r x := let ⟨_, p, _⟩ := c.get hi; p
theorem Cx.sl {α : Type} {E : Enc α} {v : Value} {i : Nat} {xs : List α} (c : Cx F0 h0 h L) (hi : L[i]? = some (rSl E v xs)) : Ow E h v xs := let ⟨_, p, _⟩ := c.get hi; p
theorem Cx.mp {α : Type} {ik : IntKind} {E : α → Value} {v : Value} {i : Nat} {ps : List (Int × α)} (c : Cx F0 h0 h L) (hi : L[i]? = some (rMp ik E v ps)) : Mp ik E h v ps := let ⟨_, p, _⟩ := c.get hi; p
theorem mv_same {F : Fp} {a b : Hp} (c : Ch F a b) : Mv F a F b := ⟨c, fun _ e => .inl e⟩
/-- a variable is set -/
theorem Cx.sto {α : Type} {E : Enc α} {r : Nat} {x : α} (c : Cx F0 h0 h L) (i : Nat) (hi : L[i]? = some (rVar E r x)) (y : α) {n : Nat} (hn : n = E.n) {w : Value} (hw : w = .agg ⟨E.c y⟩) {k : Hp → Prop}
    (hk : ∀ h', Cx F0 h0 h' (L.set i (rVar E r y)) → k h') : Sb (En.sto n (at0 r) w h) k := by
  obtain ⟨F, ⟨v, hf⟩, f⟩ := c.upd hi
  exact v.sto y hn hw fun h' v' ch => hk h' (f (F' := F) ⟨v', hf⟩ (mv_same (ch.mono fun q _ e => (hf q).2 e)))
theorem Cx.sto1 {α : Type} {E : Enc α} {r : Nat} {x : α} (c : Cx F0 h0 h L) (i : Nat) (hi : L[i]? = some (rVar E r x)) (y : α) (hn : E.n = 1) {w : Value} (hw : E.c y = [w]) {k : Hp → Prop}
    (hk : ∀ h', Cx F0 h0 h' (L.set i (rVar E r y)) → k h') : Sb (En.sto 1 (at0 r) w h) k := by
  obtain ⟨F, ⟨v, hf⟩, f⟩ := c.upd hi
  exact v.sto1 y hn hw fun h' v' ch => hk h' (f (F' := F) ⟨v', hf⟩ (mv_same (ch.mono fun q _ e => (hf q).2 e)))
/-- what is not in a list of its own -/
theorem Cx.old (c : Cx (fun _ => False) h0 h L) : Gr h0 h := c.gr
end

/-! ### Frames -/
section
variable {F0 : Fp} {h0 h h' : Hp} {L : List Res} {A B : Res}
theorem own_loc_ge : ∀ {L : List Res} {Fs : List Fp} {h h' : Hp} {D : Fp}, Own h L Fs → Ch D h h' → (∀ G ∈ Fs, ∀ r, G r → ¬ D r) → Own h' L Fs
  | _, _, _, _, _, o, c, d => o.loc c d
theorem own_append : ∀ {L M : List Res} {Fs Gs : List Fp}, Own h L Fs → Own h M Gs → (∀ F ∈ Fs, ∀ G ∈ Gs, ∀ r, F r → ¬ G r) → Own h (L ++ M) (Fs ++ Gs)
  | _, _, _, _, .nil, o, _ => o
  | _, _, _, _, .cons a d o', o, x => by
    refine .cons a (fun G hG r hr hG2 => ?_) (own_append o' o fun F hF G hG => x F (List.mem_cons_of_mem _ hF) G hG)
    rcases List.mem_append.1 hG with h | h
    · exact d G h r hr hG2
    · exact x _ (List.mem_cons_self ..) G h r hr hG2
theorem own_split : ∀ {L M : List Res} {Fs : List Fp}, Own h (L ++ M) Fs → ∃ Fa Fb, Fs = Fa ++ Fb ∧ Own h L Fa ∧ Own h M Fb ∧ ∀ F ∈ Fa, ∀ G ∈ Fb, ∀ r, F r → ¬ G r
  | [], M, Fs, o => ⟨[], Fs, rfl, .nil, o, fun F hF => by cases hF⟩
  | A :: L, M, _, .cons a d o => by
    obtain ⟨Fa, Fb, rfl, o1, o2, x⟩ := own_split (L := L) o
    refine ⟨_ :: Fa, Fb, rfl, .cons a (fun G hG => d G (List.mem_append_left _ hG)) o1, o2, fun F hF G hG => ?_⟩
    rcases List.mem_cons.1 hF with rfl | hF
    · exact d G (List.mem_append_right _ hG)
    · exact x F hF G hG
theorem own_set : ∀ {L : List Res} {Fs : List Fp} {i : Nat} {A B : Res} {F F' : Fp}, Own h L Fs → L[i]? = some A → Fs[i]? = some F → B.P h F' → (∀ j G, j ≠ i → Fs[j]? = some G → ∀ r, F' r → ¬ G r) → Own h (L.set i B) (Fs.set i F')
  | _, _, _, _, _, _, _, .nil, hi, _, _, _ => by simp at hi
  | _, _, 0, _, _, _, _, .cons a d o, hi, hF, b, x => by
    refine .cons b (fun G hG r hr => ?_) o
    obtain ⟨j, hj, rfl⟩ := List.mem_iff_getElem.1 hG
    exact x (j + 1) _ (by omega) (by simp [List.getElem?_eq_getElem hj]) r hr
  | _, _, i + 1, _, _, _, _, .cons (F := F0) a d o, hi, hF, b, x => by
    refine .cons a (fun G hG r hr hG2 => ?_) (own_set o (by simpa using hi) (by simpa using hF) b fun j G hj hG => x (j + 1) G (by omega) (by simpa using hG))
    rcases List.mem_or_eq_of_mem_set hG with h | h
    · exact d G h r hr hG2
    · subst h; exact x 0 F0 (by omega) (by simp) r hG2 hr

/-- a call that works on one of the resources: seen alone, then put back -/
theorem Cx.frameE (c : Cx F0 h0 h L) {i : Nat} (hi : L[i]? = some A) : ∃ F, Cx F h h [A] ∧ (∀ r, F r → F0 r ∨ h0.size ≤ r) ∧ (∀ (j : Nat) (B : Res), i ≠ j → L[j]? = some B → ∃ G, B.P h G ∧ ∀ r, F r → ¬ G r) ∧ ∀ {h' : Hp} {A' : Res} {M : List Res}, Cx F h h' (A' :: M) → Cx F0 h0 h' (L.set i A' ++ M) := by
  obtain ⟨Fs, o, g, k⟩ := c
  obtain ⟨F, a, hF, f⟩ := own_get o hi
  have hmF := List.mem_of_getElem? hF
  refine ⟨F, Cx.start a, k F hmF, fun j B hij hj => ?_, fun {h' A' M} c' => ?_⟩
  · obtain ⟨G, b, hG, _⟩ := own_get o hj
    exact ⟨G, b, own_apart o hF hG hij⟩
  obtain ⟨Gs, o', g', k'⟩ := c'
  cases o' with
  | cons a' d' o' =>
    rename_i F' Gs
    have hgrow : ∀ r, F' r → F r ∨ h.size ≤ r := fun r hr => k' F' (List.mem_cons_self ..) r hr
    have o1 := f a' ⟨g', hgrow⟩
    have hlt := o.lt
    refine ⟨_, own_append o1 o' fun X hX G hG r hr hG2 => ?_, ?_, fun G hG r hr => ?_⟩
    · rcases k' G (List.mem_cons_of_mem _ hG) r hG2 with h1 | h1
      · -- G stands on what A stood on
        rcases List.mem_or_eq_of_mem_set hX with h2 | h2
        · -- another resource, or the same
          obtain ⟨j, hj, rfl⟩ := List.mem_iff_getElem.1 hX
          rw [List.getElem_set] at hr
          split at hr
          · exact d' G hG r hr hG2
          · rename_i hne
            have hj' : j < Fs.length := by simpa using hj
            exact own_apart o hF (List.getElem?_eq_getElem hj') hne r h1 hr
        · subst h2; exact d' G hG r hr hG2
      · rcases List.mem_or_eq_of_mem_set hX with h2 | h2
        · have := hlt X h2 r hr; omega
        · subst h2; exact d' G hG r hr hG2
    · refine ⟨Nat.le_trans g.size g'.size, fun r hr hn => ?_⟩
      rw [g'.same r (Nat.lt_of_lt_of_le hr g.size) (fun e => (k F hmF r e).elim hn (fun x => by omega)), g.same r hr hn]
    · have fin : F r ∨ h.size ≤ r → F0 r ∨ h0.size ≤ r := fun e => e.elim (k F hmF r) fun e => .inr (Nat.le_trans g.size e)
      rcases List.mem_append.1 hG with h1 | h1
      · rcases List.mem_or_eq_of_mem_set h1 with h2 | h2
        · exact k G h2 r hr
        · subst h2; exact fin (hgrow r hr)
      · exact fin (k' G (List.mem_cons_of_mem _ h1) r hr)
where
  own_apart : ∀ {L : List Res} {Fs : List Fp} {h : Hp} {i j : Nat} {F G : Fp}, Own h L Fs → Fs[i]? = some F → Fs[j]? = some G → i ≠ j → ∀ r, F r → ¬ G r
    | _, _, _, i, _, _, _, .nil, hi, _, _ => by simp at hi
    | _, _, _, 0, 0, _, _, .cons .., _, _, hn => absurd rfl hn
    | _, _, _, 0, j + 1, F, G, .cons a d o, hi, hj, hn => by
      simp only [List.getElem?_cons_zero, Option.some.injEq] at hi
      subst hi
      exact d G (List.mem_of_getElem? (by simpa using hj))
    | _, _, _, i + 1, 0, F, G, .cons a d o, hi, hj, hn => by
      simp only [List.getElem?_cons_zero, Option.some.injEq] at hj
      subst hj
      exact fun r h1 h2 => d F (List.mem_of_getElem? (by simpa using hi)) r h2 h1
    | _, _, _, i + 1, j + 1, F, G, .cons a d o, hi, hj, hn => own_apart o (by simpa using hi) (by simpa using hj) (by omega)
theorem Cx.frameD (c : Cx F0 h0 h L) {i : Nat} (hi : L[i]? = some A) : ∃ F, Cx F h h [A] ∧ (∀ (j : Nat) (B : Res), i ≠ j → L[j]? = some B → ∃ G, B.P h G ∧ ∀ r, F r → ¬ G r) ∧ ∀ {h' : Hp} {A' : Res} {M : List Res}, Cx F h h' (A' :: M) → Cx F0 h0 h' (L.set i A' ++ M) :=
  let ⟨F, c1, _, hd, up⟩ := c.frameE hi
  ⟨F, c1, hd, up⟩
theorem Cx.frame (c : Cx F0 h0 h L) {i : Nat} (hi : L[i]? = some A) : ∃ F, Cx F h h [A] ∧ ∀ {h' : Hp} {A' : Res} {M : List Res}, Cx F h h' (A' :: M) → Cx F0 h0 h' (L.set i A' ++ M) :=
  let ⟨F, c1, _, up⟩ := c.frameD hi
  ⟨F, c1, up⟩
/-- a call that works on none -/
theorem Cx.frame0 (c : Cx F0 h0 h L) {M : List Res} (c' : Cx (fun _ => False) h h' M) : Cx F0 h0 h' (L ++ M) := by
  obtain ⟨Fs, o, g, k⟩ := c
  obtain ⟨Gs, o', g', k'⟩ := c'
  refine ⟨_, own_append (o.loc g' fun _ _ _ _ e => e) o' fun X hX G hG r hr hG2 => ?_, ?_, fun G hG r hr => ?_⟩
  · have := o.lt X hX r hr
    rcases k' G hG r hG2 with h1 | h1
    · exact h1
    · omega
  · exact ⟨Nat.le_trans g.size g'.size, fun r hr hn => by rw [g'.same r (Nat.lt_of_lt_of_le hr g.size) (fun e => e), g.same r hr hn]⟩
  · rcases List.mem_append.1 hG with h1 | h1
    · exact k G h1 r hr
    · rcases k' G h1 r hr with h2 | h2
      · exact h2.elim
      · exact .inr (Nat.le_trans g.size h2)

/-- several resources taken as one -/
def rStar (L : List Res) : Res where
  P := fun h F => ∃ Fs, Own h L Fs ∧ ∀ q, F q ↔ ∃ G ∈ Fs, G q
  lt := fun ⟨Fs, o, hf⟩ q hq => by
    obtain ⟨G, hG, hq⟩ := (hf q).1 hq
    exact o.lt G hG q hq
  loc := fun ⟨Fs, o, hf⟩ c hd => ⟨Fs, o.loc c fun G hG r hr => hd r ((hf r).2 ⟨G, hG, hr⟩), hf⟩
/-- a resource out of several that are alike -/
def rEx {β : Type} (f : β → Res) : Res where
  P := fun h F => ∃ b, (f b).P h F
  lt := fun ⟨b, p⟩ => (f b).lt p
  loc := fun ⟨b, p⟩ c hd => ⟨b, (f b).loc p c hd⟩
/-- a resource with a condition -/
def rIf (p : Prop) (A : Res) : Res where
  P := fun h F => p ∧ A.P h F
  lt := fun ⟨_, a⟩ => A.lt a
  loc := fun ⟨q, a⟩ c hd => ⟨q, A.loc a c hd⟩
theorem Cx.star {F : Fp} (a : (rStar L).P h F) : Cx F h h L := by
  obtain ⟨Fs, o, hf⟩ := a
  exact ⟨Fs, o, .refl _ _, fun G hG r hr => .inl ((hf r).2 ⟨G, hG, hr⟩)⟩
theorem Cx.unstar {F : Fp} (c : Cx F h0 h L) : ∃ F', (rStar L).P h F' ∧ Mv F h0 F' h := by
  obtain ⟨Fs, o, g, k⟩ := c
  exact ⟨fun q => ∃ G ∈ Fs, G q, ⟨Fs, o, fun _ => Iff.rfl⟩, g, fun r ⟨G, hG, hr⟩ => k G hG r hr⟩
theorem Cx.mk1 {F F' : Fp} (a : A.P h F') (m : Mv F h0 F' h) : Cx F h0 h [A] := ⟨[F'], .cons a (fun _ hG => by cases hG) .nil, m.ch, fun G hG r hr => by
  rcases List.mem_cons.1 hG with rfl | hG
  · exact m.grow r hr
  · cases hG⟩
theorem own_perm {L L' : List Res} (s : L.Perm L') : ∀ {Fs : List Fp}, Own h L Fs → ∃ Fs', Own h L' Fs' ∧ Fs.Perm Fs' := by
  induction s with
  | nil => intro Fs o; exact ⟨Fs, o, .refl _⟩
  | cons A _ ih =>
    intro Fs o
    cases o with
    | cons a d o =>
      obtain ⟨Fs', o', hp⟩ := ih o
      exact ⟨_, .cons a (fun G hG => d G (hp.mem_iff.2 hG)) o', hp.cons _⟩
  | swap A B l =>
    intro Fs o
    cases o with
    | cons a d o =>
      cases o with
      | cons b e o =>
        exact ⟨_, .cons b (fun G hG r h1 h2 => by
          rcases List.mem_cons.1 hG with rfl | hG
          · exact d _ (List.mem_cons_self ..) r h2 h1
          · exact e G hG r h1 h2) (.cons a (fun G hG => d G (List.mem_cons_of_mem _ hG)) o), .swap ..⟩
  | trans _ _ ih1 ih2 =>
    intro Fs o
    obtain ⟨F1, o1, p1⟩ := ih1 o
    obtain ⟨F2, o2, p2⟩ := ih2 o1
    exact ⟨F2, o2, p1.trans p2⟩
theorem Cx.perm {L' : List Res} (c : Cx F0 h0 h L) (s : L.Perm L') : Cx F0 h0 h L' := by
  obtain ⟨Fs, o, g, k⟩ := c
  obtain ⟨Fs', o', hp⟩ := own_perm s o
  exact ⟨Fs', o', g, fun G hG => k G (hp.mem_iff.2 hG)⟩
/-- the last ones taken as one -/
theorem Cx.pack {M : List Res} (c : Cx F0 h0 h (L ++ M)) : Cx F0 h0 h (L ++ [rStar M]) := by
  obtain ⟨Fs, o, g, k⟩ := c
  obtain ⟨Fa, Fb, rfl, o1, o2, x⟩ := own_split o
  refine ⟨Fa ++ [fun q => ∃ G ∈ Fb, G q], own_append o1 (.cons ⟨Fb, o2, fun _ => Iff.rfl⟩ (fun _ hG => by cases hG) .nil) fun F hF G hG r hr hG2 => ?_, g, fun G hG r hr => ?_⟩
  · simp only [List.mem_singleton] at hG
    subst hG
    obtain ⟨G, hG, hG2⟩ := hG2
    exact x F hF G hG r hr hG2
  · rcases List.mem_append.1 hG with h1 | h1
    · exact k G (List.mem_append_left _ h1) r hr
    · simp only [List.mem_singleton] at h1
      subst h1
      obtain ⟨G, hG, hr⟩ := hr
      exact k G (List.mem_append_right _ hG) r hr
/-- one resource read as another -/
theorem Cx.conv (c : Cx F0 h0 h L) {i : Nat} (hi : L[i]? = some A) (hc : ∀ F, A.P h F → B.P h F) : Cx F0 h0 h (L.set i B) := by
  obtain ⟨F, a, up⟩ := c.upd hi
  exact up (hc F a) (.refl _ _)
theorem perm_front {α : Type _} : ∀ {l : List α} {i : Nat} {a : α}, l[i]? = some a → l.Perm (a :: l.eraseIdx i)
  | [], i, a, h => by simp at h
  | x :: l, 0, a, h => by simp only [List.getElem?_cons_zero, Option.some.injEq] at h; subst h; exact .refl _
  | x :: l, i + 1, a, h => by
    have := perm_front (l := l) (i := i) (a := a) (by simpa using h)
    exact (this.cons x).trans (.swap ..)
/-- a resource goes to the front -/
theorem Cx.front (c : Cx F0 h0 h L) (i : Nat) (hi : L[i]? = some A) : Cx F0 h0 h (A :: L.eraseIdx i) := c.perm (perm_front hi)
/-- one resource alone -/
theorem Cx.one (c : Cx F0 h0 h L) (i : Nat) (hi : L[i]? = some A) : Cx F0 h0 h [A] := (c.front i hi).drop (L := [A])
theorem perm_set {α : Type _} {b : α} : ∀ {l : List α} {i : Nat} {a : α}, l[i]? = some a → (l ++ [b]).Perm (l.set i b ++ [a])
  | [], i, a, h => by simp at h
  | x :: l, 0, a, h => by
    simp only [List.getElem?_cons_zero, Option.some.injEq] at h
    subst h
    rw [List.set_cons_zero]
    have h1 : (x :: l ++ [b]).Perm (b :: (x :: l)) := List.perm_append_comm (l₁ := x :: l) (l₂ := [b])
    have h2 : (b :: l ++ [x]).Perm (x :: (b :: l)) := List.perm_append_comm (l₁ := b :: l) (l₂ := [x])
    exact h1.trans ((List.Perm.swap ..).trans h2.symm)
  | x :: l, i + 1, a, h => by
    have := perm_set (b := b) (l := l) (i := i) (a := a) (by simpa using h)
    exact this.cons x
/-- the last resource takes the place of another -/
theorem Cx.repl {i : Nat} (c : Cx F0 h0 h (L ++ [B])) (hi : L[i]? = some A) : Cx F0 h0 h (L.set i B) := (c.perm (perm_set hi)).drop
theorem own_pick {Fs : List Fp} (o : Own h L Fs) : ∀ (idx : List Nat), idx.Nodup → ∃ Fs', Own h (idx.filterMap (L[·]?)) Fs' ∧ ∀ G ∈ Fs', ∃ i ∈ idx, Fs[i]? = some G
  | [], _ => ⟨[], .nil, fun G hG => by cases hG⟩
  | i :: idx, hn => by
    obtain ⟨hi, hn⟩ := List.nodup_cons.1 hn
    obtain ⟨Fs', o', hs⟩ := own_pick o idx hn
    rw [List.filterMap_cons]
    cases hA : L[i]? with
    | none => exact ⟨Fs', o', fun G hG => let ⟨j, hj, e⟩ := hs G hG; ⟨j, List.mem_cons_of_mem _ hj, e⟩⟩
    | some A =>
      obtain ⟨F, a, hF, _⟩ := own_get o hA
      refine ⟨F :: Fs', .cons a (fun G hG => ?_) o', fun G hG => ?_⟩
      · obtain ⟨j, hj, e⟩ := hs G hG
        exact Cx.frameE.own_apart o hF e fun e => hi (e ▸ hj)
      · rcases List.mem_cons.1 hG with rfl | hG
        · exact ⟨i, List.mem_cons_self .., hF⟩
        · obtain ⟨j, hj, e⟩ := hs G hG
          exact ⟨j, List.mem_cons_of_mem _ hj, e⟩
/-- some of the resources, in an order of one's own -/
theorem Cx.pick (c : Cx F0 h0 h L) (idx : List Nat) (hn : idx.Nodup := by decide) : Cx F0 h0 h (idx.filterMap (L[·]?)) := by
  obtain ⟨Fs, o, g, k⟩ := c
  obtain ⟨Fs', o', hs⟩ := own_pick o idx hn
  exact ⟨Fs', o', g, fun G hG => let ⟨_, _, e⟩ := hs G hG; k G (List.mem_of_getElem? e)⟩
end
end Go.En
namespace Go.Ep
/-- a retired block -/
structure It where
  b : Int
  birth : Int
  ret : Int
def lives (i : It) (e : Int) : Bool := e != 0 && decide (i.birth ≤ e) && decide (e ≤ i.ret)
def way (seen : List Int) (i : It) : Bool := seen.any (lives i)
/-- the words that matter: the era, the announcements of threads 1, 2 and 3, the root -/
structure Wm where
  era : Int
  ann : Nat → Int
  rv : Int
  rver : Int
def Wm.say (m : Wm) (t : Nat) (e : Int) : Wm := { m with ann := fun u => if u = t then e else m.ann u }
def val (b g : Int) : Int := g * 16 + b + 1
/-- where a reader stands -/
inductive RS where
  | a
  | b (f : Int)
  | c (f : Int)
  | d (e : Int)
  | e (e v : Int)
  | f (e v : Int) (k : Nat)
  | g
  | fin
structure Rd where
  st : RS
  left : Int
def rgo (left : Int) : Rd := if left ≤ 0 then ⟨.fin, left⟩ else ⟨.a, left⟩
def stepR (t : Nat) (m : Wm) (r : Rd) : Wm × Rd :=
  match r.st with
  | .a => (m, { r with st := .b m.era })
  | .b f => (m.say t f, { r with st := .c f })
  | .c f => if m.era = f then (m, { r with st := .d f }) else (m, { r with st := .b m.era })
  | .d e => (m, { r with st := .e e m.rv })
  | .e e v => if m.era = e then (m, { r with st := .f e v 2 }) else (m, { r with st := .a })
  | .f e v (k + 1) => (m, { r with st := .f e v k })
  | .f _ _ 0 => (m, { r with st := .g })
  | .g => (m.say t 0, rgo (r.left - 1))
  | .fin => (m, r)
/-- where the writer stands -/
inductive WS where
  | adv1
  | adv2 (f : Int)
  | w1
  | w2 (b : Int)
  | w3 (o : Int)
  | w4 (seen : List Int)
  | fin
structure Wr where
  st : WS
  ops : List Int
  bag : List It
  free : List Int
  gen : Int → Int
  birth : Int → Int
  rv : Int
  rver : Int
  cur : Int
def setI (f : Int → Int) (b x : Int) : Int → Int := fun y => if y = b then x else f y
/-- the next operation begins -/
def Wr.go (w : Wr) : Wr :=
  match w.ops with
  | [] => { w with st := .fin }
  | o :: _ => if o % 3 = 0 then { w with st := .adv1 } else match w.free with
    | [] => { w with st := .w4 [] }
    | _ :: _ => { w with st := .w1 }
section
variable (srt : List Int → List Int)
def Wr.sweep (w : Wr) (seen : List Int) : Wr := { w with bag := w.bag.filter (way seen), free := w.free ++ srt ((w.bag.filter fun i => !way seen i).map (·.b)), ops := w.ops.tail }
def stepW (m : Wm) (w : Wr) : Wm × Wr :=
  match w.st with
  | .adv1 => (m, { w with st := .adv2 (m.era + 1) })
  | .adv2 f => ({ m with era := f }, { w with ops := w.ops.tail }.go)
  | .w1 => match w.free with
    | [] => (m, w)
    | b :: fr => (m, { w with st := .w2 b, free := fr, gen := setI w.gen b (w.gen b + 1), birth := setI w.birth b m.era, rv := val b (w.gen b + 1), rver := w.rver + 1 })
  | .w2 b => ({ m with rv := w.rv, rver := w.rver }, { w with st := .w3 w.cur, cur := b })
  | .w3 o => (m, { w with st := .w4 [], bag := w.bag ++ [⟨o, w.birth o, m.era⟩] })
  | .w4 seen => if seen.length + 1 < 3 then (m, { w with st := .w4 (seen ++ [m.ann (seen.length + 1)]) })
    else (m, (w.sweep srt (seen ++ [m.ann (seen.length + 1)])).go)
  | .fin => (m, w)
/-- blocks on their way -/
def extra : WS → List Int
  | .w2 b => [b]
  | .w3 o => [o]
  | _ => []
structure WI (m : Wm) (w : Wr) : Prop where
  era : 1 ≤ m.era
  part : (w.cur :: (extra w.st ++ (w.bag.map (·.b) ++ w.free))).Perm [0, 1, 2, 3]
  it : ∀ i ∈ w.bag, i.birth ≤ i.ret ∧ i.ret ≤ m.era
  bi : ∀ b, 0 ≤ w.birth b ∧ w.birth b ≤ m.era
  rt : m.rv = val w.cur (w.gen w.cur)
  own : (∀ b, w.st ≠ .w2 b) → w.rv = m.rv ∧ w.rver = m.rver
  new : ∀ b, w.st = .w2 b → w.rv = val b (w.gen b) ∧ w.rver = m.rver + 1
  adv : ∀ f, w.st = .adv2 f → f = m.era + 1
  seen : ∀ s, w.st = .w4 s → s.length ≤ 2
  w1 : w.st = .w1 → w.free ≠ []
/-- a sweep that looks at thread t has seen e -/
def SeenOk (t : Nat) (w : Wr) (e : Int) : Prop := ∀ s, w.st = .w4 s → ∀ x, s[t - 1]? = some x → x = e
/-- thread t, which has announced e, may use the block that v names -/
structure Prot (t : Nat) (m : Wm) (w : Wr) (e v : Int) : Prop where
  ann : m.ann t = e
  e1 : 1 ≤ e
  ex : ∃ b, v = val b (w.gen b) ∧ ((b = w.cur ∧ w.birth b ≤ e ∧ e ≤ m.era) ∨ (w.st = .w3 b ∧ w.birth b ≤ e ∧ e ≤ m.era) ∨ (∃ i ∈ w.bag, i.b = b ∧ i.birth ≤ e ∧ e ≤ i.ret) ∧ SeenOk t w e)
def RI (t : Nat) (m : Wm) (w : Wr) (r : Rd) : Prop :=
  (match r.st with
  | .b f => 1 ≤ f ∧ f ≤ m.era
  | .c f => m.ann t = f ∧ 1 ≤ f ∧ f ≤ m.era
  | .d e => m.ann t = e ∧ 1 ≤ e ∧ e ≤ m.era
  | .e e v => m.ann t = e ∧ 1 ≤ e ∧ e ≤ m.era ∧ (m.era = e → Prot t m w e v)
  | .f e v k => Prot t m w e v ∧ k ≤ 2
  | _ => True) ∧ (∀ x : r.st ≠ .fin, 1 ≤ r.left)
end
section
variable {srt : List Int → List Int} {m : Wm} {w : Wr} {r : Rd} {t u : Nat} {e v : Int}
theorem WI.nodup (H : WI m w) : (w.cur :: (extra w.st ++ (w.bag.map (·.b) ++ w.free))).Nodup := H.part.nodup_iff.2 (by decide)
theorem WI.say (H : WI m w) (t : Nat) (e : Int) : WI (m.say t e) w := ⟨H.era, H.part, H.it, H.bi, H.rt, H.own, H.new, H.adv, H.seen, H.w1⟩
theorem Prot.say (H : Prot u m w e v) (h : u ≠ t) (x : Int) : Prot u (m.say t x) w e v := ⟨(if_neg h).trans H.ann, H.e1, H.ex⟩
theorem RI.say (H : RI u m w r) (h : u ≠ t) (x : Int) : RI u (m.say t x) w r := by
  obtain ⟨H, hl⟩ := H
  refine ⟨?_, hl⟩
  have ha : (m.say t x).ann u = m.ann u := if_neg h
  cases hs : r.st with
  | c f => rw [hs] at H; exact ⟨ha.trans H.1, H.2⟩
  | d f => rw [hs] at H; exact ⟨ha.trans H.1, H.2⟩
  | e f y => rw [hs] at H; exact ⟨ha.trans H.1, H.2.1, H.2.2.1, fun he => (H.2.2.2 he).say h x⟩
  | f f y k => rw [hs] at H; exact ⟨H.1.say h x, H.2⟩
  | b f => rw [hs] at H; exact H
  | a => trivial
  | g => trivial
  | fin => trivial
theorem stepR_W (H : WI m w) : WI (stepR t m r).1 w := by
  unfold stepR
  split <;> first | exact H | exact H.say _ _ | (split <;> exact H)
theorem stepR_other (h : u ≠ t) {r' : Rd} (R : RI u m w r') : RI u (stepR t m r).1 w r' := by
  unfold stepR
  split <;> first | exact R | exact R.say h _ | (split <;> exact R)
theorem rgo_ok {l : Int} (s : RS → Prop) : RI t m w (rgo l) := by
  unfold rgo
  split
  · exact ⟨trivial, fun h => absurd rfl h⟩
  · exact ⟨trivial, fun _ => by dsimp only; omega⟩
theorem stepR_own (H : WI m w) (R : RI t m w r) : RI t (stepR t m r).1 w (stepR t m r).2 := by
  obtain ⟨st, left⟩ := r
  obtain ⟨R, hl⟩ := R
  have he := H.era
  cases st with
  | a => exact ⟨⟨he, Int.le_refl _⟩, fun _ => hl (by simp)⟩
  | b f => exact ⟨⟨if_pos rfl, R⟩, fun _ => hl (by simp)⟩
  | c f =>
    unfold stepR
    dsimp only
    split
    · exact ⟨R, fun _ => hl (by simp)⟩
    · exact ⟨⟨he, Int.le_refl _⟩, fun _ => hl (by simp)⟩
  | d e =>
    have hb := (H.bi w.cur).2
    exact ⟨⟨R.1, R.2.1, R.2.2, fun e1 => ⟨R.1, R.2.1, w.cur, H.rt, .inl ⟨rfl, by have e1 : m.era = e := e1; omega, R.2.2⟩⟩⟩, fun _ => hl (by simp)⟩
  | e e v =>
    unfold stepR
    dsimp only
    split
    · rename_i h
      exact ⟨⟨R.2.2.2 h, Nat.le_refl _⟩, fun _ => hl (by simp)⟩
    · exact ⟨trivial, fun _ => hl (by simp)⟩
  | f e v k =>
    cases k with
    | zero => exact ⟨trivial, fun _ => hl (by simp)⟩
    | succ k => exact ⟨⟨R.1, by have := R.2; omega⟩, fun _ => hl (by simp)⟩
  | g => exact rgo_ok fun _ => True
  | fin => exact ⟨trivial, hl⟩
/-- what the next operation's begin leaves -/
structure Gone (w : Wr) (s : WS) : Prop where
  ex : extra s = []
  n2 : ∀ b, s ≠ .w2 b
  n3 : ∀ b, s ≠ .w3 b
  na : ∀ f, s ≠ .adv2 f
  n4 : ∀ x, s = .w4 x → x = []
  n1 : s = .w1 → w.free ≠ []
theorem go_eq (w : Wr) : ∃ s, w.go = { w with st := s } ∧ Gone w s := by
  unfold Wr.go
  split
  · exact ⟨.fin, rfl, rfl, (fun _ h => by cases h), (fun _ h => by cases h), (fun _ h => by cases h), (fun _ h => by cases h), fun h => by cases h⟩
  · split
    · exact ⟨.adv1, rfl, rfl, (fun _ h => by cases h), (fun _ h => by cases h), (fun _ h => by cases h), (fun _ h => by cases h), fun h => by cases h⟩
    · split
      · exact ⟨.w4 [], rfl, rfl, (fun _ h => by cases h), (fun _ h => by cases h), (fun _ h => by cases h), (fun x h => by injection h with h; exact h.symm), fun h => by cases h⟩
      · rename_i hf
        exact ⟨.w1, rfl, rfl, (fun _ h => by cases h), (fun _ h => by cases h), (fun _ h => by cases h), (fun _ h => by cases h), fun _ => by rw [hf]; simp⟩
theorem WI.go (h0 : 1 ≤ m.era) (h1 : (w.cur :: (w.bag.map (·.b) ++ w.free)).Perm [0, 1, 2, 3]) (h2 : ∀ i ∈ w.bag, i.birth ≤ i.ret ∧ i.ret ≤ m.era) (h3 : ∀ b, 0 ≤ w.birth b ∧ w.birth b ≤ m.era) (h4 : m.rv = val w.cur (w.gen w.cur)) (h5 : w.rv = m.rv ∧ w.rver = m.rver) : WI m w.go := by
  obtain ⟨s, e, G⟩ := go_eq w
  rw [e]
  refine ⟨h0, ?_, h2, h3, h4, fun _ => h5, fun b hb => absurd hb (G.n2 b), fun f hf => absurd hf (G.na f), fun x hx => ?_, G.n1⟩
  · show (w.cur :: (extra s ++ _)).Perm _
    rw [G.ex]; exact h1
  · rw [G.n4 x hx]; exact Nat.zero_le _
variable (hsrt : ∀ l, (srt l).Perm l)
include hsrt
theorem sweep_part {w : Wr} {seen : List Int} (h : (w.cur :: (w.bag.map (·.b) ++ w.free)).Perm [0, 1, 2, 3]) : ((w.sweep srt seen).cur :: ((w.sweep srt seen).bag.map (·.b) ++ (w.sweep srt seen).free)).Perm [0, 1, 2, 3] := by
  refine .trans (.cons _ ?_) h
  show ((w.bag.filter (way seen)).map (·.b) ++ (w.free ++ srt ((w.bag.filter fun i => !way seen i).map (·.b)))).Perm _
  have h1 := List.filter_append_perm (way seen) w.bag
  have h2 := h1.map (·.b)
  rw [List.map_append] at h2
  refine .trans ?_ (h2.append_right w.free)
  rw [List.append_assoc]
  refine List.Perm.append_left _ ?_
  exact (List.perm_append_comm).trans ((hsrt _).append_right _)
theorem stepW_W (H : WI m w) : WI (stepW srt m w).1 (stepW srt m w).2 := by
  obtain ⟨st, ops, bag, free, gen, birth, rv, rver, cur⟩ := w
  obtain ⟨h0, h1, h2, h3, h4, h5, h6, h7, h8, h9⟩ := H
  dsimp only at *
  cases st with
  | adv1 => exact ⟨h0, h1, h2, h3, h4, (fun _ => h5 fun b h => by cases h), (fun b h => by cases h), (fun f h => by injection h with h; exact h.symm), (fun s h => by cases h), fun h => by cases h⟩
  | adv2 f =>
    have hf := h7 f rfl
    refine WI.go (by show 1 ≤ f; omega) h1 (fun i hi => ⟨(h2 i hi).1, ?_⟩) (fun b => ⟨(h3 b).1, ?_⟩) h4 (h5 fun b h => by cases h)
    · show i.ret ≤ f
      have := (h2 i hi).2
      omega
    · show birth b ≤ f
      have := (h3 b).2
      omega
  | w1 =>
    cases free with
    | nil => exact absurd rfl (h9 rfl)
    | cons b fr =>
      have hn : cur ≠ b := fun e => by
        have := h1.nodup_iff.2 (by decide)
        rw [e] at this
        exact (List.nodup_cons.1 this).1 (by simp [extra])
      refine ⟨h0, ?_, h2, fun y => ?_, ?_, (fun hne => absurd rfl (hne b)), (fun b' hb => ?_), (fun f h => by cases h), (fun s h => by cases h), fun h => by cases h⟩
      · refine .trans (.cons _ ?_) h1
        show ([b] ++ (bag.map (·.b) ++ fr)).Perm ([] ++ (bag.map (·.b) ++ b :: fr))
        exact (List.perm_middle (a := b) (l₁ := bag.map (·.b)) (l₂ := fr)).symm
      · show 0 ≤ setI birth b m.era y ∧ setI birth b m.era y ≤ m.era
        unfold setI
        split
        · omega
        · exact h3 y
      · show m.rv = val cur (setI gen b (gen b + 1) cur)
        rw [setI, if_neg hn]; exact h4
      · injection hb with hb
        subst hb
        refine ⟨?_, ?_⟩
        · show val b (gen b + 1) = val b (setI gen b (gen b + 1) b)
          rw [setI, if_pos rfl]
        · show rver + 1 = m.rver + 1
          rw [(h5 fun b h => by cases h).2]
  | w2 b =>
    obtain ⟨e1, e2⟩ := h6 b rfl
    refine ⟨h0, ?_, h2, h3, e1, (fun _ => ⟨rfl, rfl⟩), (fun b h => by cases h), (fun f h => by cases h), (fun s h => by cases h), fun h => by cases h⟩
    exact .trans (.swap cur b _) h1
  | w3 o =>
    refine ⟨h0, ?_, (fun i hi => ?_), h3, h4, (fun _ => h5 fun b h => by cases h), (fun b h => by cases h), (fun f h => by cases h), (fun s h => ?_), fun h => by cases h⟩
    · refine .trans (.cons _ ?_) h1
      show ((bag ++ [(⟨o, birth o, m.era⟩ : It)]).map (fun i : It => i.b) ++ free).Perm ([o] ++ (bag.map (fun i : It => i.b) ++ free))
      rw [List.map_append, List.append_assoc]
      exact List.perm_middle (a := o) (l₁ := bag.map fun i : It => i.b) (l₂ := free)
    · rcases List.mem_append.1 hi with hi | hi
      · exact h2 i hi
      · rw [List.mem_singleton] at hi
        subst hi
        exact ⟨(h3 o).2, Int.le_refl _⟩
    · injection h with h
      subst h
      exact Nat.zero_le _
  | w4 seen =>
    unfold stepW
    dsimp only
    split
    · rename_i hl
      refine ⟨h0, h1, h2, h3, h4, (fun _ => h5 fun b h => by cases h), (fun b h => by cases h), (fun f h => by cases h), (fun s h => ?_), fun h => by cases h⟩
      injection h with h
      subst h
      rw [List.length_append, List.length_singleton]; omega
    · refine WI.go h0 (sweep_part hsrt h1) (fun i hi => h2 i (List.mem_filter.1 hi).1) h3 h4 (h5 fun b h => by cases h)
  | fin => exact ⟨h0, h1, h2, h3, h4, h5, h6, h7, h8, h9⟩
omit hsrt in
theorem Prot.go {w : Wr} (ha : m.ann t = e) (h1 : 1 ≤ e) (h : ∃ b, v = val b (w.gen b) ∧ ((b = w.cur ∧ w.birth b ≤ e ∧ e ≤ m.era) ∨ (∃ i ∈ w.bag, i.b = b ∧ i.birth ≤ e ∧ e ≤ i.ret))) : Prot t m w.go e v := by
  obtain ⟨s, es, G⟩ := go_eq w
  rw [es]
  obtain ⟨b, hv, h⟩ := h
  refine ⟨ha, h1, b, hv, ?_⟩
  rcases h with h | h
  · exact .inl h
  · refine .inr (.inr ⟨h, fun x hx y hy => ?_⟩)
    rw [G.n4 x hx] at hy
    simp at hy
omit hsrt in
theorem stepW_P (ht : t = 2 ∨ t = 3) (H : WI m w) (P : Prot t m w e v) : Prot t (stepW srt m w).1 (stepW srt m w).2 e v := by
  have hN := H.nodup
  obtain ⟨st, ops, bag, free, gen, birth, rv, rver, cur⟩ := w
  obtain ⟨h0, h1, h2, h3, h4, h5, h6, h7, h8, h9⟩ := H
  obtain ⟨ha, he, b0, hv, hx⟩ := P
  dsimp only at *
  cases st with
  | adv1 =>
    refine ⟨ha, he, b0, hv, ?_⟩
    rcases hx with hx | ⟨hx, _⟩ | ⟨hx, _⟩
    · exact .inl hx
    · cases hx
    · exact .inr (.inr ⟨hx, fun s h => by cases h⟩)
  | adv2 f =>
    have hf := h7 f rfl
    refine Prot.go ha he ⟨b0, hv, ?_⟩
    rcases hx with hx | ⟨hx, _⟩ | ⟨hx, _⟩
    · exact .inl ⟨hx.1, hx.2.1, by show e ≤ f; omega⟩
    · cases hx
    · exact .inr hx
  | w1 =>
    cases free with
    | nil => exact ⟨ha, he, b0, hv, hx⟩
    | cons b fr =>
      have hne : b0 ≠ b := fun e1 => by
        subst e1
        rcases hx with hx | ⟨hx, _⟩ | ⟨⟨i, hi, hib, _⟩, _⟩
        · rw [hx.1] at hN
          exact (List.nodup_cons.1 hN).1 (by simp [extra])
        · cases hx
        · have h2 := (List.nodup_cons.1 hN).2
          simp only [extra, List.nil_append, List.nodup_append] at h2
          exact h2.2.2 i.b (List.mem_map.2 ⟨i, hi, rfl⟩) b0 (List.mem_cons_self ..) hib
      have eg : setI gen b (gen b + 1) b0 = gen b0 := if_neg hne
      have eb : setI birth b m.era b0 = birth b0 := if_neg hne
      refine ⟨ha, he, b0, by show v = val b0 (setI gen b (gen b + 1) b0); rw [eg]; exact hv, ?_⟩
      rcases hx with hx | ⟨hx, _⟩ | ⟨hx, _⟩
      · exact .inl ⟨hx.1, by show setI birth b m.era b0 ≤ e; rw [eb]; exact hx.2.1, hx.2.2⟩
      · cases hx
      · exact .inr (.inr ⟨hx, fun s h => by cases h⟩)
  | w2 b =>
    refine ⟨ha, he, b0, hv, ?_⟩
    rcases hx with hx | ⟨hx, _⟩ | ⟨hx, _⟩
    · exact .inr (.inl ⟨by rw [hx.1]; rfl, hx.2⟩)
    · cases hx
    · exact .inr (.inr ⟨hx, fun s h => by cases h⟩)
  | w3 o =>
    refine ⟨ha, he, b0, hv, ?_⟩
    rcases hx with hx | ⟨hx, hx2, hx3⟩ | ⟨⟨i, hi, hh⟩, _⟩
    · exact .inl hx
    · injection hx with hx
      subst hx
      exact .inr (.inr ⟨⟨_, List.mem_append_right _ (List.mem_singleton.2 rfl), rfl, hx2, hx3⟩, fun s h x hxx => by injection h with h; rw [← h] at hxx; simp at hxx⟩)
    · exact .inr (.inr ⟨⟨i, List.mem_append_left _ hi, hh⟩, fun s h x hxx => by injection h with h; rw [← h] at hxx; simp at hxx⟩)
  | w4 seen =>
    have hl2 := h8 seen rfl
    have hsn : ∀ hx : SeenOk t ⟨.w4 seen, ops, bag, free, gen, birth, rv, rver, cur⟩ e, ∀ x, (seen ++ [m.ann (seen.length + 1)])[t - 1]? = some x → x = e := fun hx x hxx => by
      by_cases hlt : t - 1 < seen.length
      · rw [List.getElem?_append_left hlt] at hxx
        exact hx seen rfl x hxx
      · rw [List.getElem?_append_right (by omega)] at hxx
        by_cases h0 : t - 1 - seen.length = 0
        · rw [h0] at hxx
          simp only [List.getElem?_cons_zero, Option.some.injEq] at hxx
          rw [← hxx, ← ha]
          congr 1
          omega
        · rw [List.getElem?_eq_none (by rw [List.length_singleton]; omega)] at hxx
          cases hxx
    unfold stepW
    dsimp only
    split
    · refine ⟨ha, he, b0, hv, ?_⟩
      rcases hx with hx | ⟨hx, _⟩ | ⟨hx, hs⟩
      · exact .inl hx
      · cases hx
      · exact .inr (.inr ⟨hx, fun s h x hxx => by injection h with h; rw [← h] at hxx; exact hsn hs x hxx⟩)
    · rename_i hl
      refine Prot.go ha he ⟨b0, hv, ?_⟩
      rcases hx with hx | ⟨hx, _⟩ | ⟨⟨i, hi, hib, hi1, hi2⟩, hs⟩
      · exact .inl hx
      · cases hx
      · refine .inr ⟨i, List.mem_filter.2 ⟨hi, ?_⟩, hib, hi1, hi2⟩
        have hlt : t - 1 < (seen ++ [m.ann (seen.length + 1)]).length := by rw [List.length_append, List.length_singleton]; omega
        have hg := List.getElem?_eq_getElem hlt
        have hxe := hsn hs _ hg
        refine List.any_eq_true.2 ⟨_, List.getElem_mem hlt, ?_⟩
        rw [hxe]
        unfold lives
        rw [decide_eq_true hi1, decide_eq_true hi2]
        simp
        omega
  | fin => exact ⟨ha, he, b0, hv, hx⟩
omit hsrt in
theorem stepW_era (H : WI m w) : m.era ≤ (stepW srt m w).1.era ∧ (stepW srt m w).1.ann = m.ann := by
  unfold stepW
  split
  · exact ⟨Int.le_refl _, rfl⟩
  · rename_i f hf
    have := H.adv f hf
    exact ⟨by show m.era ≤ f; omega, rfl⟩
  · split <;> exact ⟨Int.le_refl _, rfl⟩
  · exact ⟨Int.le_refl _, rfl⟩
  · exact ⟨Int.le_refl _, rfl⟩
  · split <;> exact ⟨Int.le_refl _, rfl⟩
  · exact ⟨Int.le_refl _, rfl⟩
omit hsrt in
theorem stepW_RI (ht : t = 2 ∨ t = 3) (H : WI m w) (R : RI t m w r) : RI t (stepW srt m w).1 (stepW srt m w).2 r := by
  obtain ⟨he, ha⟩ := stepW_era (srt := srt) H
  obtain ⟨st, left⟩ := r
  obtain ⟨R, hl⟩ := R
  refine ⟨?_, hl⟩
  have han := congrFun ha t
  cases st with
  | a => trivial
  | b f => exact ⟨R.1, Int.le_trans R.2 he⟩
  | c f => exact ⟨han.trans R.1, R.2.1, Int.le_trans R.2.2 he⟩
  | d f => exact ⟨han.trans R.1, R.2.1, Int.le_trans R.2.2 he⟩
  | e f y =>
    refine ⟨han.trans R.1, R.2.1, Int.le_trans R.2.2.1 he, fun h => ?_⟩
    have : m.era = f := by have := R.2.2.1; omega
    exact stepW_P ht H (R.2.2.2 this)
  | f f y k => exact ⟨stepW_P ht H R.1, R.2⟩
  | g => trivial
  | fin => trivial
end
end Go.Ep
namespace Go.Ep
/-- the words, the writer, the two readers -/
structure St where
  m : Wm
  w : Wr
  x : Rd
  y : Rd
section
variable {srt : List Int → List Int} {s : St} {m : Wm} {w : Wr} {r : Rd} {t u : Nat} {e v : Int}
def stepS (srt : List Int → List Int) (t : Nat) (s : St) : St :=
  if t = 1 then { s with m := (stepW srt s.m s.w).1, w := (stepW srt s.m s.w).2 }
  else if t = 2 then { s with m := (stepR 2 s.m s.x).1, x := (stepR 2 s.m s.x).2 }
  else { s with m := (stepR 3 s.m s.y).1, y := (stepR 3 s.m s.y).2 }
structure SI (s : St) : Prop where
  w : WI s.m s.w
  x : RI 2 s.m s.w s.x
  y : RI 3 s.m s.w s.y
theorem stepS_I (hsrt : ∀ l, (srt l).Perm l) (H : SI s) (t : Nat) : SI (stepS srt t s) := by
  unfold stepS
  split
  · exact ⟨stepW_W hsrt H.w, stepW_RI (.inl rfl) H.w H.x, stepW_RI (.inr rfl) H.w H.y⟩
  · split
    · exact ⟨stepR_W H.w, stepR_own H.w H.x, stepR_other (by decide) H.y⟩
    · exact ⟨stepR_W H.w, stepR_other (by decide) H.x, stepR_own H.w H.y⟩
def heldBy (r : Rd) : Int := match r.st with | .f _ v _ => v | _ => 0
/-- what a reader holds names a block of the same generation that is not free -/
theorem WI.mem4 (H : WI m w) {b : Int} (h : b ∈ (w.cur :: (extra w.st ++ (w.bag.map (·.b) ++ w.free)))) : 0 ≤ b ∧ b < 4 := by
  have := H.part.mem_iff.1 h
  simp only [List.mem_cons, List.not_mem_nil, or_false] at this
  omega
theorem Prot.safe (H : WI m w) (P : Prot t m w e v) : ∃ b, 0 ≤ b ∧ b < 4 ∧ v = val b (w.gen b) ∧ b ∉ w.free := by
  obtain ⟨b, hv, h⟩ := P.ex
  have hn := H.nodup
  have key : b ∈ (w.cur :: (extra w.st ++ w.bag.map (·.b))) := by
    rcases h with h | h | ⟨⟨i, hi, hb, _⟩, _⟩
    · rw [h.1]; exact List.mem_cons_self ..
    · rw [h.1]; exact List.mem_cons_of_mem _ (List.mem_append_left _ (by simp [extra]))
    · exact List.mem_cons_of_mem _ (List.mem_append_right _ (List.mem_map.2 ⟨i, hi, hb⟩))
  have e1 : w.cur :: (extra w.st ++ (w.bag.map (·.b) ++ w.free)) = (w.cur :: (extra w.st ++ w.bag.map (·.b))) ++ w.free := by simp
  rw [e1] at hn
  have h4 := H.mem4 (b := b) (by rw [e1]; exact List.mem_append_left _ key)
  exact ⟨b, h4.1, h4.2, hv, fun hf => (List.nodup_append.1 hn).2.2 b key b hf rfl⟩
theorem RI.safe (H : WI m w) (R : RI t m w r) : heldBy r = 0 ∨ ∃ b, 0 ≤ b ∧ b < 4 ∧ heldBy r = val b (w.gen b) ∧ b ∉ w.free := by
  unfold heldBy
  split
  · rename_i e v k hs
    have R1 := R.1
    rw [hs] at R1
    exact .inr (R1.1.safe H)
  · exact .inl rfl
/-- how far a reader is from its end, while the era stands -/
def muR (m : Wm) (r : Rd) : Nat := 16 * r.left.toNat + match r.st with
  | .a => 9
  | .b f => if m.era = f then 8 else 13
  | .c f => if m.era = f then 7 else 12
  | .d e => if m.era = e then 6 else 11
  | .e e _ => if m.era = e then 5 else 10
  | .f _ _ k => 2 + k
  | .g => 1
  | .fin => 0
theorem stepR_era (t : Nat) (m : Wm) (r : Rd) : (stepR t m r).1.era = m.era := by
  unfold stepR
  split <;> first | rfl | (split <;> rfl)
theorem muR_lt (R : RI t m w r) (h : r.st ≠ .fin) : muR (stepR t m r).1 (stepR t m r).2 < muR m r := by
  obtain ⟨st, left⟩ := r
  have hl := R.2 h
  dsimp only at hl
  cases st with
  | a => simp [muR, stepR]
  | b f =>
    have e1 : (m.say t f).era = m.era := rfl
    simp only [muR, stepR, e1]
    split <;> omega
  | c f =>
    simp only [muR, stepR]
    split
    · simp [*]
    · simp
  | d e =>
    show (16 * left.toNat + if m.era = e then 5 else 10) < 16 * left.toNat + if m.era = e then 6 else 11
    by_cases hh : m.era = e
    · rw [if_pos hh, if_pos hh]; omega
    · rw [if_neg hh, if_neg hh]; omega
  | e e v =>
    simp only [muR, stepR]
    split
    · dsimp only; omega
    · dsimp only; omega
  | f e v k =>
    cases k with
    | zero => simp [muR, stepR]
    | succ k => simp only [muR, stepR]; omega
  | g =>
    simp only [muR, stepR, rgo]
    split
    · dsimp only; omega
    · dsimp only; omega
  | fin => exact absurd rfl h
def muW (w : Wr) : Nat := 16 * w.ops.length + match w.st with
  | .adv1 => 2
  | .adv2 _ => 1
  | .w1 => 8
  | .w2 _ => 7
  | .w3 _ => 6
  | .w4 s => 4 - s.length
  | .fin => 0
/-- the writer has an operation before it, unless it has ended -/
def WO (w : Wr) : Prop := w.st ≠ .fin → w.ops ≠ []
theorem go_WO (w : Wr) : WO w.go := by
  unfold WO Wr.go
  intro h
  split
  · rename_i h0; rw [h0] at h; exact absurd rfl h
  · rename_i o os h0
    split
    · rw [h0]; simp
    · split <;> (rw [h0]; simp)
theorem go_ops (w : Wr) : w.go.ops = w.ops := by
  obtain ⟨s, e, _⟩ := go_eq w
  rw [e]
theorem go_mu (w : Wr) : muW w.go ≤ 16 * w.ops.length + 8 := by
  unfold muW
  rw [go_ops]
  obtain ⟨s, e, G⟩ := go_eq w
  rw [e]
  dsimp only
  cases s with
  | w2 b => exact absurd rfl (G.n2 b)
  | w3 b => exact absurd rfl (G.n3 b)
  | adv2 f => exact absurd rfl (G.na f)
  | w4 x => dsimp only; omega
  | adv1 => dsimp only; omega
  | w1 => dsimp only; omega
  | fin => dsimp only; omega
theorem stepW_WO (O : WO w) (H : WI m w) : WO (stepW srt m w).2 := by
  obtain ⟨st, ops, bag, free, gen, birth, rv, rver, cur⟩ := w
  cases st with
  | adv1 => exact fun _ => O (by simp)
  | adv2 f => exact go_WO _
  | w1 =>
    cases free with
    | nil => exact absurd rfl (H.w1 rfl)
    | cons b fr => exact fun _ => O (by simp)
  | w2 b => exact fun _ => O (by simp)
  | w3 o => exact fun _ => O (by simp)
  | w4 seen =>
    unfold stepW
    dsimp only
    split
    · exact fun _ => O (by simp)
    · exact go_WO _
  | fin => exact O
theorem muW_lt (O : WO w) (H : WI m w) (h : w.st ≠ .fin) : muW (stepW srt m w).2 < muW w := by
  have ho := O h
  have h8 := H.seen
  have h9 := H.w1
  obtain ⟨st, ops, bag, free, gen, birth, rv, rver, cur⟩ := w
  dsimp only at *
  have hlen : ops.tail.length + 1 = ops.length := by
    cases ops with
    | nil => exact absurd rfl ho
    | cons o os => rfl
  cases st with
  | adv1 => simp [muW, stepW]
  | adv2 f =>
    refine Nat.lt_of_le_of_lt (go_mu _) ?_
    show 16 * ops.tail.length + 8 < 16 * ops.length + 1
    omega
  | w1 =>
    cases free with
    | nil => exact absurd rfl (h9 rfl)
    | cons b fr => simp [muW, stepW]
  | w2 b => simp [muW, stepW]
  | w3 o => simp [muW, stepW]
  | w4 seen =>
    have := h8 seen rfl
    unfold stepW
    dsimp only
    split
    · show 16 * ops.length + (4 - (seen ++ [_]).length) < 16 * ops.length + (4 - seen.length)
      rw [List.length_append, List.length_singleton]; omega
    · refine Nat.lt_of_le_of_lt (go_mu _) ?_
      show 16 * ops.tail.length + 8 < 16 * ops.length + (4 - seen.length)
      omega
  | fin => exact absurd rfl h
/-- the beginning -/
def m0 : Wm := ⟨1, fun _ => 0, 17, 0⟩
def w0 (ops : List Int) : Wr := (⟨.fin, ops, [], [1, 2, 3], fun b => if b = 0 then 1 else 0, fun b => if b = 0 then 1 else 0, 17, 0, 0⟩ : Wr).go
theorem w0_I (ops : List Int) : WI m0 (w0 ops) := by
  refine WI.go (by decide) (.refl _) (fun i hi => by cases hi) (fun b => ?_) rfl ⟨rfl, rfl⟩
  show 0 ≤ (if b = 0 then (1 : Int) else 0) ∧ (if b = 0 then (1 : Int) else 0) ≤ 1
  split <;> omega
theorem s0_I (ops : List Int) (a b : Int) : SI ⟨m0, w0 ops, rgo a, rgo b⟩ := ⟨w0_I ops, rgo_ok fun _ => True, rgo_ok fun _ => True⟩
/-- at the end every block but one is in the bag or free -/
theorem WI.last (H : WI m w) (h : w.st = .fin) : w.bag.length + w.free.length = 3 := by
  have := H.part.length_eq
  rw [h] at this
  simp [extra] at this
  omega
theorem way0 (i : It) : way [0, 0, 0] i = false := by simp [way, lives]
end
end Go.Ep
namespace Go.En
abbrev R64 (z : Int) : Prop := -9223372036854775808 ≤ z ∧ z ≤ 9223372036854775807
def w64 (z : Int) : Int := IntKind.i64.wrap z
theorem w64_in (z : Int) : R64 (w64 z) := by unfold w64; rw [IntKind.wrap_i64]; omega
theorem w64_eq {z : Int} (h : R64 z) : w64 z = z := wr64 h
theorem bin_addw (a b : Int) : bin .add (.int .i64 a) (.int .i64 b) = some (.int .i64 (w64 (a + b))) := bin_add
theorem bin_subw (a b : Int) : bin .sub (.int .i64 a) (.int .i64 b) = some (.int .i64 (w64 (a - b))) := bin_sub

structure W3 where
  v : Int
  ver : Int
  ref : Int
def EW : Enc W3 := { n := 3, c := fun w => [.int .i64 w.v, .int .u32 w.ver, .int .u32 w.ref], len := fun _ => rfl, one := fun a v h => by simp only [List.mem_cons, List.not_mem_nil, or_false] at h; rcases h with rfl | rfl | rfl <;> rfl }
def mW (w : W3) : Value := .agg #[.int .i64 w.v, .int .u32 w.ver, .int .u32 w.ref]
def mB (b : Bool) : Value := .bool b
abbrev W0 : W3 := ⟨0, 0, 0⟩
def EI1 : Enc Int := { n := 1, c := fun i => [.int .i64 i], len := fun _ => rfl, one := fun a v h => by simp only [List.mem_singleton] at h; subst h; rfl }
def EB1 : Enc Bool := { n := 1, c := fun i => [.bool i], len := fun _ => rfl, one := fun a v h => by simp only [List.mem_singleton] at h; subst h; rfl }
def EPt : Enc (Int × Int) := { n := 2, c := fun o => [.int .i64 o.1, .int .i64 o.2], len := fun _ => rfl, one := fun a v h => by simp only [List.mem_cons, List.not_mem_nil, or_false] at h; rcases h with rfl | rfl <;> rfl }

section
variable {S : Sys} {h h0 h' : Hp} {F F0 : Fp} {R : Value → Hp → Prop} {L M : List Res}


/-- a map of a context is set -/
theorem Cx.mup {α : Type} {F0 : Fp} {L : List Res} {E : α → Value} {v : Value} {ps : List (Int × α)} (c : Cx F0 h0 h L) (i : Nat) (hi : L[i]? = some (rMp .i64 E v ps)) (k : Int) (x : α) {w : Value} (hw : w = E x) {K : Hp → Prop}
    (hK : ∀ h', Cx F0 h0 h' (L.set i (rMp .i64 E v (updA ps k x))) → K h') : Sb (En.mup (.int .i64) v (.int .i64 k) w h) K := by
  obtain ⟨F, ⟨m, hf⟩, up⟩ := c.upd hi
  exact m.mup k x hw fun h' m' ch => hK h' (up (F' := F) ⟨m', hf⟩ (mv_same (ch.mono fun q _ e => (hf q).2 e)))
/-- a field of a variable is set -/
theorem Cx.stof {α : Type} {F0 : Fp} {L : List Res} {E : Enc α} {r : Nat} {x : α} (c : Cx F0 h0 h L) (i : Nat) (hi : L[i]? = some (rVar E r x)) (y : α) {j : Nat} {w : Value} (hw : w.oneCell' = true) (hj : j < E.n) (hy : E.c y = (E.c x).set j w) {k : Hp → Prop}
    (hk : ∀ h', Cx F0 h0 h' (L.set i (rVar E r y)) → k h') : Vb (fa j (at0 r)) fun p => Sb (En.sto 1 p w h) k := by
  obtain ⟨F, ⟨v, hf⟩, up⟩ := c.upd hi
  refine vb (fa_add _ _ _) ?_
  obtain ⟨h', e, v', ch, _⟩ := v.put (j := j) (vs := [w]) (y := y) (fun j' u hu => by
    rw [hy, List.getElem?_set] at hu
    by_cases e : j = j'
    · subst e
      have : j < (E.c x).length := by rw [E.len]; exact hj
      simp only [if_true, this] at hu
      simp [hu]
    · rw [if_neg e] at hu
      have : ¬ (j ≤ j' ∧ j' < j + [w].length) := by simp only [List.length_singleton]; omega
      rw [if_neg this]; exact hu) (by simp only [List.length_singleton]; omega) (fun u hu => by simp only [List.mem_singleton] at hu; subst hu; exact hw)
  refine sb ?_ (hk h' (up (F' := F) ⟨v', hf⟩ (mv_same (ch.mono fun q _ e => (hf q).2 e))))
  rw [Nat.zero_add, sto_one hw]; exact e


theorem Ow.cut {α : Type} {E : Enc α} {v : Value} {xs : List α} (H : Ow E h v xs) {n : Nat} {k k' : IntKind} {z : Int} {u : Nat} (hz : z = u) (h2 : u ≤ xs.length) :
    ∃ a l c, slc n v none (some (.int k z)) (some (.int k' z)) = some (.slice a l c) ∧ Ow E h (.slice a l c) (xs.take u) ∧ (∀ r, blk (.slice a l c) = some r → blk v = some r) := by
  subst hz
  have key : ∀ (a : Option Addr) (len cap : Nat), u ≤ cap → slc n (.slice a len cap) none (some (.int k u)) (some (.int k' u)) = some (.slice (if u = 0 then a else a.map (·.add (0 * n))) u u) := by
    intro a len cap hc
    simp [slc, bnds, bndM, bndH, bndL, bnd, slcA, hc]
  rcases H with ⟨rfl, rfl⟩ | ⟨r, o, cap, rfl, h3, hb, hr, hw⟩
  · have : u = 0 := by simpa using h2
    subst this
    exact ⟨_, _, _, key _ _ _ (Nat.zero_le _), .inl ⟨rfl, rfl⟩, fun r e => e⟩
  · have ea : (if u = 0 then (some ⟨r, o, none⟩ : Option Addr) else (some (⟨r, o, none⟩ : Addr)).map (·.add (0 * n))) = some ⟨r, o, none⟩ := by
      split
      · rfl
      · simp [addN]
    refine ⟨some ⟨r, o, none⟩, u, u, by rw [key _ _ _ (Nat.le_trans h2 h3), ea], .inr ⟨r, o, u, ?_, ?_, hb, fun i x hx => ?_, fun j hj => hw j (Nat.lt_of_lt_of_le hj (Nat.mul_le_mul_right _ (Nat.le_trans h2 h3)))⟩, fun r e => e⟩
    · rw [List.length_take, Nat.min_eq_left h2]
    · rw [List.length_take]; omega
    · have hlt := (List.getElem?_eq_some_iff.mp hx).1
      rw [List.length_take] at hlt
      rw [List.getElem?_take_of_lt (by omega)] at hx
      exact hr i x hx

/-- appended to a slice of a context -/
theorem Cx.app1 {α : Type} {F0 : Fp} {L : List Res} {E : Enc α} {v : Value} {xs : List α} (c : Cx F0 h0 h L) (i : Nat) (hi : L[i]? = some (rSl E v xs)) (x : α) {e e' : TypeId} {zero : Array Value} {n bytes : Nat} {w : Value} {k : Value → Hp → Prop}
    (hn : n = E.n) (hz : zero.size = E.n) (hw : w.cells.toList = E.c x) (hb : (xs.length + 1) * bytes ≤ 140737488355328) (hl : xs.length + 1 ≤ 9223372036854775807)
    (hk : ∀ v' h', Cx F0 h0 h' (L.set i (rSl E v' (xs ++ [x]))) → k v' h') : Eb (bsl zero n 1 e [(0, w)] h) fun u h1 => Ap e' zero n bytes v u h1 k := by
  obtain ⟨F, ⟨o, hf⟩, up⟩ := c.upd hi
  refine En.app1 o hn hz hw hb hl fun v' h' o' ch nw => hk v' h' (up (F' := fun q => blk v' = some q) ⟨o', fun _ => Iff.rfl⟩ ⟨ch.mono fun q _ e => (hf q).2 e, fun r hr => ?_⟩)
  rcases nw r hr with h1 | h1
  · exact .inl ((hf r).2 h1)
  · exact .inr h1
/-- a part of a slice of a context in its place -/
theorem Cx.cut {α : Type} {F0 : Fp} {L : List Res} {E : Enc α} {v : Value} {xs : List α} (c : Cx F0 h0 h L) (i : Nat) (hi : L[i]? = some (rSl E v xs)) {n : Nat} {k k' : IntKind} {z : Int} {u : Nat} (hz : z = u) (h2 : u ≤ xs.length) {K : Value → Prop}
    (hK : ∀ a l cp, Cx F0 h0 h (L.set i (rSl E (.slice a l cp) (xs.take u))) → K (.slice a l cp)) : Vb (slc n v none (some (.int k z)) (some (.int k' z))) K := by
  obtain ⟨F, ⟨o, hf⟩, up⟩ := c.upd hi
  obtain ⟨a, l, cp, e, o', hb⟩ := o.cut (n := n) (k := k) (k' := k') hz h2
  exact vb e (hK a l cp (up (F' := fun q => blk (.slice a l cp) = some q) ⟨o', fun _ => Iff.rfl⟩ ⟨.refl _ _, fun r hr => .inl ((hf r).2 (hb r hr))⟩))

/-- a range over a map, with the map -/
def rIt {α : Type} (ik : IntKind) (E : α → Value) (r m : Nat) (ps : List (Int × α)) (D : List Nat) : Res where
  P := fun h F => It ik E h r m ps D ∧ ∀ q, F q ↔ q = r ∨ q = m
  lt := fun {h F} ⟨o, hf⟩ q hq => by
    obtain ⟨es, clock, h1, h2, h3⟩ := o.ex
    rcases (hf q).1 hq with rfl | rfl
    · exact (Array.getElem?_eq_some_iff.mp h3).1
    · exact (Array.getElem?_eq_some_iff.mp h1).1
  loc := fun {h h' F D'} ⟨o, hf⟩ c hd => by
    obtain ⟨es, clock, h1, h2, h3⟩ := o.ex
    refine ⟨⟨⟨es, clock, ?_, h2, ?_⟩, o.nodup, o.lt, o.ne⟩, hf⟩
    · rw [c.same m (Array.getElem?_eq_some_iff.mp h1).1 (hd m ((hf m).2 (.inr rfl)))]; exact h1
    · rw [c.same r (Array.getElem?_eq_some_iff.mp h3).1 (hd r ((hf r).2 (.inl rfl)))]; exact h3

section
variable {α : Type} {ik : IntKind} {E : α → Value} {v : Value} {ps : List (Int × α)} {D : List Nat} {r m : Nat}
theorem Cx.range (c : Cx F0 h0 h L) (i : Nat) (hi : L[i]? = some (rMp ik E v ps)) {k : Value → Hp → Prop}
    (hk : ∀ r m h', v = .map (some m) → Cx F0 h0 h' (L.set i (rIt ik E r m ps [])) → k (at0 r) h') : Eb (rng v h) k := by
  obtain ⟨F, ⟨o, hf⟩, up⟩ := c.upd hi
  refine o.range fun m h' hv it g hs => hk _ m h' hv (up (F' := fun q => q = h.size ∨ q = m) ⟨it, fun _ => Iff.rfl⟩ ⟨g.mono fun _ _ e => e.elim, fun q hq => ?_⟩)
  rcases hq with rfl | rfl
  · exact .inr (Nat.le_refl _)
  · exact .inl ((hf q).2 (by rw [hv]; rfl))
theorem Cx.next (c : Cx F0 h0 h L) (i : Nat) (hi : L[i]? = some (rIt ik E r m ps D)) {k : Value → Hp → Prop} (h0' : (∀ j, j < ps.length → j ∈ D) → Cx F0 h0 h (L.set i (rMp ik E (.map (some m)) ps)) → k (.tuple #[.bool false]) h)
    (h1 : ∀ j p h', ps[j]? = some p → j ∉ D → Cx F0 h0 h' (L.set i (rIt ik E r m ps (D ++ [j]))) → ent (at0 r) h' = some (.tuple #[.int ik p.1, E p.2]) → k (.tuple #[.bool true, .int ik p.1, E p.2]) h') : Nx (at0 r) h k := by
  obtain ⟨F, ⟨o, hf⟩, up⟩ := c.upd hi
  refine o.next (fun hall => h0' hall (up (F' := fun q => q = m) ⟨o.mp, fun q => by simp [mblk, eq_comm]⟩ ⟨.refl _ _, fun q hq => .inl ((hf q).2 (.inr hq))⟩)) fun j p h' hp hj it ch he => h1 j p h' hp hj (up (F' := F) ⟨it, hf⟩ (mv_same (ch.mono fun q _ e => (hf q).2 (.inl e)))) he
/-- a new map -/
theorem Cx.mmk {β : Type} (ik : IntKind) (E : β → Value) (c : Cx F0 h0 h L) {k : Value → Hp → Prop} (hk : ∀ m h', Cx F0 h0 h' (L ++ [rMp ik E (.map (some m)) []]) → k (.map (some m)) h') : Eb (En.mmk h) k :=
  eb rfl (hk _ _ (c.add (F' := fun q => q = h.size) ⟨Mp.new, fun q => by simp [mblk, eq_comm]⟩ (Ch.push _ _) fun r e => by omega))
end


/-- the block r holds ob -/
def rObj (r : Nat) (ob : Obj) : Res where
  P := fun h F => h[r]? = some ob ∧ ∀ q, F q ↔ q = r
  lt := fun {h F} ⟨v, hf⟩ q hq => by rw [hf] at hq; subst hq; exact (Array.getElem?_eq_some_iff.mp v).1
  loc := fun {h h' F D} ⟨v, hf⟩ c hd => ⟨by rw [c.same r (Array.getElem?_eq_some_iff.mp v).1 (hd r ((hf r).2 rfl))]; exact v, hf⟩
theorem Cx.obj {i r : Nat} {ob : Obj} (c : Cx F0 h0 h L) (hi : L[i]? = some (rObj r ob)) : h[r]? = some ob := let ⟨_, p, _⟩ := c.get hi; p
theorem Cx.pushObj (c : Cx F0 h0 h L) (ob : Obj) : Cx F0 h0 (h.push ob) (L ++ [rObj h.size ob]) :=
  c.add (F' := fun q => q = h.size) ⟨by simp, fun _ => Iff.rfl⟩ (Ch.push _ _) fun r e => by omega
theorem Cx.setObj {i r : Nat} {ob : Obj} (c : Cx F0 h0 h L) (hi : L[i]? = some (rObj r ob)) (ob' : Obj) : Cx F0 h0 (h.setIfInBounds r ob') (L.set i (rObj r ob')) := by
  obtain ⟨F, ⟨v, hf⟩, up⟩ := c.upd hi
  have hlt := (Array.getElem?_eq_some_iff.mp v).1
  refine up (F' := F) ⟨by rw [Array.getElem?_setIfInBounds, if_pos rfl, if_pos hlt], hf⟩ (mv_same ⟨by simp, fun q hq hn => ?_⟩)
  rw [Array.getElem?_setIfInBounds, if_neg (fun e => hn ((hf q).2 e.symm))]
/-- a new slice of one element -/
theorem Cx.bsl1 {α : Type} (E : Enc α) (x : α) (c : Cx F0 h0 h L) {e : TypeId} {zero : Array Value} {n : Nat} {w : Value} {k : Value → Hp → Prop} (hn : n = E.n) (hw : w.cells.toList = E.c x)
    (hk : ∀ u h', Cx F0 h0 h' (L ++ [rSl E u [x]]) → k u h') : Eb (bsl zero n 1 e [(0, w)] h) k := by
  refine eb (bsl_ok (us := [w]) rfl rfl (fun u hu => by simp only [List.mem_singleton] at hu; subst hu; rw [hn, ← E.len x, ← hw]; rfl)) (hk _ _ (c.add (F' := fun q => q = h.size) ⟨Ow.lit (xs := [x]) (by simp [hw]) rfl, fun q => by simp [blk, eq_comm]⟩ (Ch.push _ _) fun r e => by omega))
/-- a new slice of no elements -/
theorem Cx.bsl0 {α : Type} (E : Enc α) (c : Cx F0 h0 h L) {e : TypeId} {zero : Array Value} {n : Nat} {k : Value → Hp → Prop}
    (hk : ∀ u h', Cx F0 h0 h' (L ++ [rSl E u []]) → k u h') : Eb (bsl zero n 0 e [] h) k := by
  refine eb (bsl_ok (us := []) rfl rfl (fun u hu => by cases hu)) (hk _ _ (c.add (F' := fun q => q = h.size) ⟨Ow.lit (xs := ([] : List α)) (by simp) rfl, fun q => by simp [blk, eq_comm]⟩ (Ch.push _ _) fun r e => by omega))
/-- a slice appended to a slice of the context -/
theorem Cx.ap {α : Type} {E : Enc α} {v : Value} {xs ys : List α} (c : Cx F0 h0 h L) (i : Nat) (hi : L[i]? = some (rSl E v xs)) {x : Value} (hx : Sl E h x ys) {e : TypeId} {zero : Array Value} {n bytes : Nat} {k : Value → Hp → Prop}
    (hn : n = E.n) (hz : zero.size = E.n) (hb : (xs.length + ys.length) * bytes ≤ 140737488355328) (hl : xs.length + ys.length ≤ 9223372036854775807)
    (hk : ∀ v' h', Cx F0 h0 h' (L.set i (rSl E v' (xs ++ ys))) → k v' h') : Ap e zero n bytes v x h k := by
  obtain ⟨F, ⟨o, hf⟩, up⟩ := c.upd hi
  refine apw o hx hn hz hb hl fun v' h' o' ch nw => hk v' h' (up (F' := fun q => blk v' = some q) ⟨o', fun _ => Iff.rfl⟩ ⟨ch.mono fun q _ e => (hf q).2 e, fun r hr => ?_⟩)
  rcases nw r hr with h1 | h1
  · exact .inl ((hf r).2 h1)
  · exact .inr h1
/-- a literal slice -/
theorem Cx.bslN {α : Type} (E : Enc α) (xs : List α) (us : List Value) (c : Cx F0 h0 h L) {e : TypeId} {zero : Array Value} {n len : Nat} {parts : List (Nat × Value)} {k : Value → Hp → Prop}
    (hp : parts = us.zipIdx.map fun x => (x.2, x.1)) (hl : us.length = len) (hl2 : xs.length = len) (hu : ∀ u, u ∈ us → u.cells.size = n) (hc : (us.flatMap fun u => u.cells.toList) = xs.flatMap E.c)
    (hk : ∀ a h', Cx F0 h0 h' (L ++ [rSl E (.slice (some a) len len) xs]) → k (.slice (some a) len len) h') : Eb (bsl zero n len e parts h) k :=
  eb (bsl_ok hp hl hu) (hk _ _ (c.add (F' := fun q => q = h.size) ⟨Ow.lit hc hl2, fun q => by simp [blk, eq_comm]⟩ (Ch.push _ _) fun r e => by omega))
/-- a nil slice is added -/
theorem Cx.nil {α : Type} (E : Enc α) (c : Cx F0 h0 h L) : Cx F0 h0 h (L ++ [rSl E (.slice none 0 0) []]) :=
  c.add (F' := fun _ => False) ⟨.nil, fun q => by simp [blk]⟩ (.refl _ _) fun r e => e.elim

theorem ext0t {x y : Value} {k : Value → Prop} (hk : k x) : Vb (ext 0 (.tuple #[x, y])) k := by
  have e : ext 0 (.tuple #[x, y]) = some x := by rfl
  rw [e, vb_some]; exact hk
theorem ext1t {x y : Value} {k : Value → Prop} (hk : k y) : Vb (ext 1 (.tuple #[x, y])) k := by
  have e : ext 1 (.tuple #[x, y]) = some y := by rfl
  rw [e, vb_some]; exact hk
/-- a new slice of zeroes -/
theorem Cx.mksl {α : Type} (E : Enc α) (x0 : α) (c : Cx F0 h0 h L) {zero : Array Value} {n : Nat} {size bytes : Nat} {e : TypeId} {z : Int} (hz : z = n) (h0' : zero.toList = E.c x0) (hs : size = E.n) (hb : n ≤ 1000000000) (hb2 : bytes ≤ 10000) {k : Value → Hp → Prop}
    (hk : ∀ a h', Cx F0 h0 h' (L ++ [rSl E (.slice (some a) n n) (List.replicate n x0)]) → k (.slice (some a) n n) h') : Eb (msl zero size bytes e (.int .i64 z) (.int .i64 z) h) k := by
  subst hz
  refine make_ok h0' hs hb hb2 fun h' o g hsz => hk _ h' (c.add (F' := fun q => q = h.size) ⟨o, fun q => by simp [blk, eq_comm]⟩ g fun r e => by omega)

end

section
variable {F0 : Fp} {h0 h h' : Hp} {L M : List Res}
/-- resources taken as one, taken apart again -/
theorem Cx.unpack (c : Cx F0 h0 h (L ++ [rStar M])) : Cx F0 h0 h (L ++ M) := by
  obtain ⟨Fs, o, g, k⟩ := c
  obtain ⟨Fa, Fb, rfl, o1, o2, x⟩ := own_split o
  cases o2 with
  | cons a d o2 =>
    cases o2
    rename_i F
    obtain ⟨Gs, o3, hf⟩ := a
    refine ⟨Fa ++ Gs, own_append o1 o3 fun X hX G hG r hr hG2 => ?_, g, fun G hG r hr => ?_⟩
    · exact x X hX F (List.mem_cons_self ..) r hr ((hf r).2 ⟨G, hG, hG2⟩)
    · rcases List.mem_append.1 hG with h1 | h1
      · exact k G (List.mem_append_left _ h1) r hr
      · exact k F (List.mem_append_right _ (List.mem_cons_self ..)) r ((hf r).2 ⟨G, h1, hr⟩)
theorem set_last {α : Type _} (L : List α) (a b : α) : (L ++ [a]).set L.length b = L ++ [b] := by
  rw [List.set_append_right _ _ (Nat.le_refl _)]; simp
/-- a call that works on the last resources -/
theorem Cx.frameL (c : Cx F0 h0 h (L ++ M)) : ∃ F, Cx F h h M ∧ (∀ r, F r → F0 r ∨ h0.size ≤ r) ∧ ∀ {h' : Hp} {M' : List Res}, Cx F h h' M' → Cx F0 h0 h' (L ++ M') := by
  have c1 := c.pack
  have hi : (L ++ [rStar M])[L.length]? = some (rStar M) := by simp
  obtain ⟨F, c2, hF, _, up⟩ := c1.frameE hi
  obtain ⟨F', a, m⟩ := c2.fin
  refine ⟨F', Cx.star a, fun r hr => ?_, fun {h' M'} c3 => ?_⟩
  · rcases m.grow r hr with e | e
    · exact hF r e
    · exact .inr (Nat.le_trans c.gr.size e)
  · obtain ⟨F'', a', m'⟩ := c3.unstar
    have c4 : Cx F h h' [rStar M'] := Cx.mk1 a' (m.trans m')
    have c5 := up (M := []) c4
    rw [List.append_nil, set_last] at c5
    exact c5.unpack
end

theorem addI {a b : Int} (h : R64 (a + b)) : bin .add (.int .i64 a) (.int .i64 b) = some (.int .i64 (a + b)) := by rw [bin_add, wr64 h]
theorem subI {a b : Int} (h : R64 (a - b)) : bin .sub (.int .i64 a) (.int .i64 b) = some (.int .i64 (a - b)) := by rw [bin_sub, wr64 h]
theorem quoI {a b : Int} (ha : 0 ≤ a ∧ a ≤ 9223372036854775807) (hb : 0 < b) : bin .quo (.int .i64 a) (.int .i64 b) = some (.int .i64 (a / b)) := by
  have h1 := Int.ediv_nonneg ha.1 (Int.le_of_lt hb)
  have h2 := Int.ediv_le_self b ha.1
  rw [bin_quo (by omega), Int.tdiv_eq_ediv_of_nonneg ha.1, wr64 ⟨by omega, by omega⟩]
theorem remI {k : IntKind} {a b : Int} (ha : 0 ≤ a) (hb : 0 < b) : bin .rem (.int k a) (.int k b) = some (.int k (a % b)) := by
  rw [bin_rem (by omega), Int.tmod_eq_emod_of_nonneg ha]
theorem uno_nb (r : Bool) : uno .not (.bool r) = some (.bool !r) := rfl
theorem eqI {k : IntKind} (a : Int) : bin .eql (.int k a) (.int k a) = some (.bool true) := by rw [bin_eql]; simp
theorem neI {k : IntKind} (a : Int) : bin .neq (.int k a) (.int k a) = some (.bool false) := by rw [bin_neq]; simp

/-- appended to a slice that is full -/
theorem apc {α : Type} {E : Enc α} {e : TypeId} {zero : Array Value} {n bytes : Nat} {a : Option Addr} {x : Value} {h : Hp} {xs ys : List α} {k : Value → Hp → Prop}
    (hs : Sl E h (.slice a xs.length xs.length) xs) (hpos : 0 < ys.length) (hx : Sl E h x ys) (hn : n = E.n) (hz : zero.size = E.n) (hb : (xs.length + ys.length) * bytes ≤ 140737488355328) (hl : xs.length + ys.length ≤ 9223372036854775807)
    (hk : ∀ v h', Ow E h' v (xs ++ ys) → Gr h h' → blk v = some h.size → k v h') : Ap e zero n bytes (.slice a xs.length xs.length) x h k := by
  obtain ⟨xa, xc, ex, hxc, hxn, hxr⟩ := id hx
  have hxrow := hx.row rfl
  subst hn
  have hsl := hs
  have hsrow := hsl.row rfl
  have grow : ∀ cap, xs.length + ys.length ≤ cap → k (.slice (some ⟨h.size, 0, none⟩) (xs.length + ys.length) cap) (h.push (.cells ((xs.flatMap E.c).toArray ++ (ys.flatMap E.c).toArray ++ Builtin.zeroCells zero (cap - (xs.length + ys.length))) e)) := by
    intro cap hcap
    refine hk _ _ (.inr ⟨h.size, 0, cap, by simp, by simpa using hcap, by simp, fun i y hy => ?_, fun j hj => ?_⟩) (Ch.push h _) rfl
    · intro j u hu
      have hfl : ((xs ++ ys).flatMap E.c)[i * E.n + j]? = some u := by
        clear hk hx hxrow hsrow hsl hs hb hl hcap hxr hpos
        generalize xs ++ ys = zs at hy
        induction zs generalizing i with
        | nil => simp at hy
        | cons z zs ih =>
          rw [List.flatMap_cons]
          cases i with
          | zero =>
            simp only [List.getElem?_cons_zero, Option.some.injEq] at hy
            subst hy
            rw [Nat.zero_mul, Nat.zero_add, List.getElem?_append_left (List.getElem?_eq_some_iff.mp hu).1]
            exact hu
          | succ i =>
            have := ih i (by simpa using hy)
            rw [List.getElem?_append_right (by rw [E.len, Nat.succ_mul]; omega), E.len]
            have e2 : (i + 1) * E.n + j - E.n = i * E.n + j := by rw [Nat.succ_mul]; omega
            rw [e2]; exact this
      have hlt := (List.getElem?_eq_some_iff.mp hfl).1
      unfold cl
      simp only [Array.getElem?_push_size, Nat.zero_add]
      rw [Array.getElem?_append_left (by rw [List.flatMap_append, List.length_append] at hlt; simpa using hlt)]
      rw [List.flatMap_append] at hfl
      simpa using hfl
    · unfold cl fz
      simp only [Array.getElem?_push_size, Nat.zero_add]
      refine ⟨?_, by simp⟩
      have : j < ((xs.flatMap E.c).toArray ++ (ys.flatMap E.c).toArray ++ Builtin.zeroCells zero (cap - (xs.length + ys.length))).size := by
        have h1 := flat_len E xs
        have h2 := flat_len E ys
        simp only [Array.size_append, List.size_toArray, zeroCells_size, hz, h1, h2]
        have : cap = xs.length + ys.length + (cap - (xs.length + ys.length)) := by omega
        rw [this, Nat.add_mul, Nat.add_mul] at hj
        exact hj
      rw [Array.getElem?_eq_getElem this]; rfl
  exact ⟨a, xs.length, xs.length, xa, ys.length, xc, _, rfl, ex, hxrow, fun hle => by omega, fun _ => ⟨hb, hl, _, hsrow, fun cap hc _ => grow cap hc⟩⟩
theorem Sl.clip {α : Type} {E : Enc α} {h : Hp} {v : Value} {xs : List α} (H : Sl E h v xs) {n : Nat} (hn : n = E.n) {k k' : IntKind} {z : Int} {u : Nat} (hz : z = u) (h2 : u ≤ xs.length) :
    ∃ a, slc n v none (some (.int k z)) (some (.int k' z)) = some (.slice a (xs.take u).length (xs.take u).length) ∧ Sl E h (.slice a (xs.take u).length (xs.take u).length) (xs.take u) := by
  subst hz
  obtain ⟨a, cap, rfl, h3, h4, h5⟩ := H
  have hl : (xs.take u).length = u := by rw [List.length_take]; omega
  have hc : u ≤ cap := Nat.le_trans h2 h3
  refine ⟨if u = 0 then a else a.map (·.add (0 * n)), ?_, ?_⟩
  · rw [hl]
    simp [slc, bnds, bndM, bndH, bndL, bnd, slcA, hc]
  · refine ⟨_, u, by rw [hl], by omega, fun e => ?_, fun i x hx => ?_⟩
    · split at e
      · rename_i h0; exact h0
      · rename_i h0
        obtain ⟨r, o, ea, _⟩ := h5 0 (xs[0]'(by omega)) (List.getElem?_eq_getElem (by omega))
        rw [ea] at e
        cases e
    · have hlt := (List.getElem?_eq_some_iff.mp hx).1
      rw [hl] at hlt
      rw [List.getElem?_take_of_lt hlt] at hx
      obtain ⟨r, o, ea, hr⟩ := h5 i x hx
      refine ⟨r, o, ?_, hr⟩
      rw [if_neg (by omega), ea]
      simp [addN]
theorem Cx.apc {α : Type} {E : Enc α} {F0 : Fp} {h h0 : Hp} {L : List Res} {a : Option Addr} {xs ys : List α} {x : Value} {e : TypeId} {zero : Array Value} {n bytes : Nat} {k : Value → Hp → Prop} (c : Cx F0 h0 h L)
    (hs : Sl E h (.slice a xs.length xs.length) xs) (hx : Sl E h x ys) (hpos : 0 < ys.length) (hn : n = E.n) (hz : zero.size = E.n) (hb : (xs.length + ys.length) * bytes ≤ 140737488355328) (hl : xs.length + ys.length ≤ 9223372036854775807)
    (hk : ∀ v' h', Cx F0 h0 h' (L ++ [rSl E v' (xs ++ ys)]) → k v' h') : Ap e zero n bytes (.slice a xs.length xs.length) x h k :=
  En.apc hs hpos hx hn hz hb hl fun v' h' o g hbk => hk v' h' (c.add (F' := fun q => blk v' = some q) ⟨o, fun _ => Iff.rfl⟩ g fun r e => by rw [hbk] at e; injection e with e; omega)
/-- a slice copied over a slice of the same length -/
theorem Ow.cpy {α : Type} {E : Enc α} {h : Hp} {v s : Value} {xs ys : List α} (H : Ow E h v xs) (Hs : Sl E h s ys) (hl : ys.length = xs.length) {n : Nat} (hn : n = E.n) : ∃ h', En.cpy n v s h = some (.int .i64 ys.length, h') ∧ Ow E h' v ys ∧ Ch (fun r => blk v = some r) h h' := by
  subst hn
  have hrow := Hs.row rfl
  obtain ⟨sa, sc, es, hre⟩ := id Hs
  rcases H with ⟨rfl, rfl⟩ | ⟨r, o, cap, rfl, hcap, hr, hrw, hw⟩
  · have : ys = [] := List.length_eq_zero_iff.mp hl
    subst this
    refine ⟨h, ?_, .inl ⟨rfl, rfl⟩, .refl _ _⟩
    rw [es] at hrow ⊢
    simp only [List.length_nil, Nat.zero_mul] at hrow
    simp [En.cpy, hrow]
  · obtain ⟨h', e1, up⟩ := stores_ok (r := r) (o := o) (ys.flatMap E.c) 0 h (fun u hu => by
        obtain ⟨y, _, hy⟩ := List.mem_flatMap.mp hu
        exact E.one y u hy) (fun j hj => by
        rw [flat_len] at hj
        have := hw j (by
          have : ys.length * E.n ≤ cap * E.n := Nat.mul_le_mul_right _ (by omega)
          omega)
        rw [Nat.add_zero]; exact this)
    refine ⟨h', ?_, .inr ⟨r, o, cap, by rw [hl], by omega, by rw [up.size]; exact hr, fun i y hy j u hu => ?_, fun j hj => ?_⟩, up.ch.mono fun x _ e => by subst e; rfl⟩
    · rw [es] at hrow ⊢
      have hm : Nat.min ys.length xs.length = ys.length := by rw [hl]; exact Nat.min_self _
      simp only [En.cpy, hm, hrow, Option.bind_some, e1]
    · have hj : j < E.n := by have := (List.getElem?_eq_some_iff.mp hu).1; rwa [E.len] at this
      have hfl : (ys.flatMap E.c)[i * E.n + j]? = some u := by
        clear hrow es up e1 hl Hs hre
        induction ys generalizing i with
        | nil => simp at hy
        | cons z zs ih =>
          rw [List.flatMap_cons]
          cases i with
          | zero =>
            simp only [List.getElem?_cons_zero, Option.some.injEq] at hy
            subst hy
            rw [Nat.zero_mul, Nat.zero_add, List.getElem?_append_left (by rw [E.len]; exact hj)]
            exact hu
          | succ q =>
            have := ih q (by simpa using hy)
            rw [List.getElem?_append_right (by rw [E.len, Nat.succ_mul]; omega), E.len]
            have e2 : (q + 1) * E.n + j - E.n = q * E.n + j := by rw [Nat.succ_mul]; omega
            rw [e2]; exact this
      have := up.put _ _ hfl
      have hh : o + i * E.n + j = o + 0 + (i * E.n + j) := by omega
      rw [hh]; exact this
    · exact ⟨up.some (hw j hj).1, by rw [up.fz]; exact (hw j hj).2⟩
theorem Cx.cpy {α : Type} {E : Enc α} {F0 : Fp} {h h0 : Hp} {L : List Res} {v s : Value} {xs ys : List α} (c : Cx F0 h0 h L) (i : Nat) (hi : L[i]? = some (rSl E v xs)) (Hs : Sl E h s ys) (hl : ys.length = xs.length) {n : Nat} (hn : n = E.n) {k : Value → Hp → Prop}
    (hk : ∀ h', Cx F0 h0 h' (L.set i (rSl E v ys)) → k (.int .i64 ys.length) h') : Eb (En.cpy n v s h) k := by
  obtain ⟨F, ⟨o, hf⟩, up⟩ := c.upd hi
  obtain ⟨h', e, o', ch⟩ := o.cpy Hs hl hn
  exact En.eb e (hk h' (up (F' := F) ⟨o', hf⟩ (mv_same (ch.mono fun q _ e => (hf q).2 e))))
theorem Cx.seti {α : Type} {E : Enc α} {F0 : Fp} {h h0 : Hp} {L : List Res} {v : Value} {xs : List α} (c : Cx F0 h0 h L) (i : Nat) (hi : L[i]? = some (rSl E v xs)) {j : Nat} (hj : j < xs.length) (y : α) {n : Nat} (hn : n = E.n) {q : IntKind} {z : Int} (hz : z = j) {w : Value} (hw : w = .agg ⟨E.c y⟩) {k : Hp → Prop}
    (hk : ∀ h', Cx F0 h0 h' (L.set i (rSl E v (xs.set j y))) → k h') : Vb (ixs n v (.int q z)) fun p => Sb (En.sto n p w h) k := by
  obtain ⟨F, ⟨o, hf⟩, up⟩ := c.upd hi
  exact o.set hj y hn hz hw fun h' o' ch => hk h' (up (F' := F) ⟨o', hf⟩ (mv_same (ch.mono fun q _ e => (hf q).2 e)))
theorem Cx.setf {α : Type} {E : Enc α} {F0 : Fp} {h h0 : Hp} {L : List Res} {v : Value} {xs : List α} {x : α} (c : Cx F0 h0 h L) (i : Nat) (hi : L[i]? = some (rSl E v xs)) {p : Nat} (hx : xs[p]? = some x) (y : α) {n : Nat} (hn : n = E.n) {q : IntKind} {z : Int} (hz : z = p) {j : Nat} {w : Value} (hw : w.oneCell' = true) (hj : j < E.n) (hy : E.c y = (E.c x).set j w) {k : Hp → Prop}
    (hk : ∀ h', Cx F0 h0 h' (L.set i (rSl E v (xs.set p y))) → k h') : Vb (ixs n v (.int q z)) fun p => Vb (fa j p) fun p => Sb (En.sto 1 p w h) k := by
  obtain ⟨F, ⟨o, hf⟩, up⟩ := c.upd hi
  exact o.setf hx y hn hz hw hj hy fun h' o' ch => hk h' (up (F' := F) ⟨o', hf⟩ (mv_same (ch.mono fun q _ e => (hf q).2 e)))
/-- a field of several cells of a variable is set -/
theorem Cx.stofN {α : Type} {F0 : Fp} {h h0 : Hp} {L : List Res} {E : Enc α} {r : Nat} {x : α} (c : Cx F0 h0 h L) (i : Nat) (hi : L[i]? = some (rVar E r x)) (y : α) {j n : Nat} {vs : List Value} {w : Value} (hw : w = .agg ⟨vs⟩) (hn : vs.length = n) (hone : ∀ u, u ∈ vs → u.oneCell' = true) (hj : j + n ≤ E.n)
    (hy : ∀ j' u, (E.c y)[j']? = some u → if j ≤ j' ∧ j' < j + vs.length then vs[j' - j]? = some u else (E.c x)[j']? = some u) {k : Hp → Prop}
    (hk : ∀ h', Cx F0 h0 h' (L.set i (rVar E r y)) → k h') : Vb (fa j (at0 r)) fun p => Sb (En.sto n p w h) k := by
  obtain ⟨F, ⟨v, hf⟩, up⟩ := c.upd hi
  subst hn hw
  refine vb (fa_add _ _ _) ?_
  obtain ⟨h', e, v', ch, _⟩ := v.put (j := j) (vs := vs) (y := y) hy hj hone
  refine sb ?_ (hk h' (up (F' := F) ⟨v', hf⟩ (mv_same (ch.mono fun q _ e => (hf q).2 e))))
  rw [Nat.zero_add]
  exact (sto_agg rfl).trans e
/-- what a call leaves: new parts as one resource, and what holds of them as long as they and the base stand -/
def Ret (hb h : Hp) (P : Hp → Prop) (K : Hp → Prop) : Prop := ∀ M h', Cx (fun _ => False) h h' [rStar M] → (∀ h'' F, Gr hb h'' → (rStar M).P h'' F → P h'') → K h'
theorem ext3 {a b c : Value} {k : Value → Value → Value → Prop} (h : k a b c) : Vb (ext 0 (.tuple #[a, b, c])) fun x => Vb (ext 1 (.tuple #[a, b, c])) fun y => Vb (ext 2 (.tuple #[a, b, c])) fun z => k x y z := En.vb (v := a) rfl (En.vb (v := b) rfl (En.vb (v := c) rfl h))
end Go.En
namespace Go.En

variable {h h0 h' : Hp} {F F0 : Fp} {L M : List Res}
/-- cells that can be stored -/
def ones (cs : List Value) : Bool := cs.all Value.oneCell'
theorem ones_mem {cs : List Value} (h : ones cs = true) (v : Value) (hv : v ∈ cs) : v.oneCell' = true := List.all_eq_true.1 h v hv
/-- rows of n cells -/
abbrev Cells (n : Nat) : Type := { cs : List Value // cs.length = n ∧ ones cs = true }
def Eid (n : Nat) : Enc (Cells n) := { n := n, c := fun x => x.1, len := fun x => x.2.1, one := fun x => ones_mem x.2.2 }
/-- a variable at the block r with the cells cs -/
def rV (r : Nat) (cs : List Value) : Res where
  P := fun h F => (∃ ho : ones cs = true, Va (Eid cs.length) h r ⟨cs, rfl, ho⟩) ∧ ∀ q, F q ↔ q = r
  lt := fun ⟨⟨_, v⟩, hf⟩ q hq => by rw [hf] at hq; subst hq; exact v.lt
  loc := fun ⟨⟨ho, v⟩, hf⟩ c hd => ⟨⟨ho, v.ch c (hd r ((hf r).2 rfl))⟩, hf⟩
section
variable {r i o n : Nat} {cs : List Value}
theorem Cx.nv {a : Array Value} (c : Cx F0 h0 h L) {e : TypeId} (hl : a.toList = cs) (ho : ones cs = true) {k : Value → Hp → Prop}
    (hk : ∀ r h', Cx F0 h0 h' (L ++ [rV r cs]) → k (at0 r) h') : Eb (En.nw a e h) k := by
  subst hl
  exact eb rfl (hk h.size _ (c.add (F' := fun q => q = h.size) ⟨⟨ho, Va.new rfl⟩, fun _ => Iff.rfl⟩ (Ch.push _ _) fun r e => by omega))
theorem Cx.rv (c : Cx F0 h0 h L) (hi : L[i]? = some (rV r cs)) : ∃ ho : ones cs = true, Va (Eid cs.length) h r ⟨cs, rfl, ho⟩ := let ⟨_, p, _⟩ := c.get hi; p
/-- a variable is read whole -/
theorem Cx.vl (c : Cx F0 h0 h L) (hi : L[i]? = some (rV r cs)) (hn : n = cs.length) : lda n (at0 r) h = some (.agg ⟨cs⟩) := let ⟨_, v⟩ := c.rv hi; v.whole hn
/-- a cell of a variable is read -/
theorem Cx.vc (c : Cx F0 h0 h L) (hi : L[i]? = some (rV r cs)) {u : Value} (ho : cs[o]? = some u) : ldc (.pointer (some ⟨r, o, none⟩)) h = some u := by
  obtain ⟨_, v⟩ := c.rv hi
  have := v.row.ldc (j := o) ho
  rwa [Nat.zero_add] at this
/-- some cells of a variable are read -/
theorem Cx.vp (c : Cx F0 h0 h L) (hi : L[i]? = some (rV r cs)) {ds : List Value} (hb : Nat.ble (o + n) cs.length = true) (hd : (cs.drop o).take n = ds) : lda n (.pointer (some ⟨r, o, none⟩)) h = some (.agg ⟨ds⟩) := by
  subst hd
  obtain ⟨ho, v⟩ := c.rv hi
  have hn := Nat.le_of_ble_eq_true hb
  have hl : ((cs.drop o).take n).length = n := by rw [List.length_take, List.length_drop]; omega
  have hr : Row (Eid n) h r o ⟨(cs.drop o).take n, hl, List.all_eq_true.2 fun x hx => ones_mem ho x (List.mem_of_mem_drop (List.mem_of_mem_take hx))⟩ := fun j u hu => by
    have hu : ((cs.drop o).take n)[j]? = some u := hu
    rw [List.getElem?_take] at hu
    split at hu
    · rw [List.getElem?_drop] at hu
      have := v.row (o + j) u hu
      rwa [Nat.zero_add] at this
    · cases hu
  exact hr.lda rfl
/-- cells of a variable are set -/
theorem Cx.vS (c : Cx F0 h0 h L) (i : Nat) (hi : L[i]? = some (rV r cs)) {vs ds : List Value} {w : Value} (hw : w.cells.toList = vs) (ho : ones vs = true) (hn : vs.length = n) (hd : ds.length = cs.length) (hj : o + n ≤ cs.length)
    (hy : ∀ j u, ds[j]? = some u → if o ≤ j ∧ j < o + n then vs[j - o]? = some u else cs[j]? = some u) {k : Hp → Prop} (hk : ∀ h', Cx F0 h0 h' (L.set i (rV r ds)) → k h') : Sb (En.sto n (.pointer (some ⟨r, o, none⟩)) w h) k := by
  obtain ⟨F, ⟨⟨hc, v⟩, hf⟩, up⟩ := c.upd hi
  have hone : ones ds = true := List.all_eq_true.2 fun x hx => by
    obtain ⟨j, hj, rfl⟩ := List.mem_iff_getElem.1 hx
    have := hy j _ (List.getElem?_eq_getElem hj)
    split at this
    · exact ones_mem ho _ (List.mem_of_getElem? this)
    · exact ones_mem hc _ (List.mem_of_getElem? this)
  obtain ⟨h1, e, v', ch, _⟩ := Va.put (E := Eid cs.length) v (y := ⟨ds, hd, hone⟩) (j := o) (vs := vs) (fun j u hu => by rw [hn]; exact hy j u hu) (by rw [hn]; exact hj) (ones_mem ho)
  have hsz : w.cells.size = n := by rw [← Array.length_toList, hw, hn]
  refine sb (h' := h1) ?_ (hk h1 (up (F' := F) ⟨⟨hone, ?_⟩, hf⟩ (mv_same (ch.mono fun q _ e => (hf q).2 e))))
  · have hb : Nat.beq w.cells.size n = true := by rw [hsz]; exact Nat.beq_refl n
    show (match Nat.beq w.cells.size n with | true => stores h ⟨r, o, none⟩ 0 w.cells.toList | false => none) = some h1
    rw [hb, hw]
    exact e
  · obtain ⟨a, b, d⟩ := v'
    exact ⟨a, b, fun j hj => d j (show j < cs.length by rw [← hd]; exact hj)⟩
/-- a variable is set whole -/
theorem Cx.vw (c : Cx F0 h0 h L) (i : Nat) (hi : L[i]? = some (rV r cs)) {w : Value} {vs : List Value} (hw : w.cells.toList = vs) (ho : ones vs = true) (hn : vs.length = n) (hd : n = cs.length) {k : Hp → Prop}
    (hk : ∀ h', Cx F0 h0 h' (L.set i (rV r vs)) → k h') : Sb (En.sto n (at0 r) w h) k :=
  c.vS i hi hw ho hn (hn.trans hd) (by omega) (fun j u hu => by
    have := (List.getElem?_eq_some_iff.1 hu).1
    rw [if_pos ⟨Nat.zero_le _, by omega⟩]; exact hu) hk
/-- a cell of a variable is set -/
theorem Cx.vs (c : Cx F0 h0 h L) (i : Nat) (hi : L[i]? = some (rV r cs)) {w : Value} {ds : List Value} (hw : w.oneCell' = true) (hc : w.cells.toList = [w]) (hb : Nat.ble (o + 1) cs.length = true) (hs : cs.set o w = ds) {k : Hp → Prop}
    (hk : ∀ h', Cx F0 h0 h' (L.set i (rV r ds)) → k h') : Sb (En.sto 1 (.pointer (some ⟨r, o, none⟩)) w h) k := by
  subst hs
  have hj : o < cs.length := Nat.le_of_ble_eq_true hb
  exact c.vS (n := 1) (o := o) i hi hc (by simp [ones, hw]) rfl (by rw [List.length_set]) (by omega) (fun j u hu => by
    rw [List.getElem?_set] at hu
    split at hu
    · rename_i e
      subst e
      rw [if_pos ⟨Nat.le_refl _, by omega⟩, Nat.sub_self]
      simpa [hj] using hu
    · rename_i e
      rw [if_neg (by omega)]; exact hu) hk
/-- some cells of a variable are set -/
theorem Cx.vq (c : Cx F0 h0 h L) (i : Nat) (hi : L[i]? = some (rV r cs)) {w : Value} {vs ds : List Value} (hw : w.cells.toList = vs) (ho : ones vs = true) (hn : vs.length = n) (hb : Nat.ble (o + n) cs.length = true) (hs : cs.take o ++ vs ++ cs.drop (o + n) = ds) {k : Hp → Prop}
    (hk : ∀ h', Cx F0 h0 h' (L.set i (rV r ds)) → k h') : Sb (En.sto n (.pointer (some ⟨r, o, none⟩)) w h) k := by
  subst hs hw
  have hj := Nat.le_of_ble_eq_true hb
  exact c.vS i hi rfl ho hn (by rw [List.length_append, List.length_append, List.length_take, List.length_drop]; omega) hj (fun j u hu => by
    have hl : (cs.take o).length = o := by rw [List.length_take]; omega
    rw [List.append_assoc] at hu
    by_cases h1 : j < o
    · rw [List.getElem?_append_left (by omega), List.getElem?_take_of_lt h1] at hu
      rw [if_neg (by omega)]; exact hu
    · rw [List.getElem?_append_right (by omega), hl] at hu
      by_cases h2 : j < o + n
      · rw [List.getElem?_append_left (by omega)] at hu
        rw [if_pos (by omega)]; exact hu
      · rw [List.getElem?_append_right (by omega), List.getElem?_drop] at hu
        rw [if_neg (by omega)]
        rwa [show o + n + (j - o - w.cells.toList.length) = j by omega] at hu) hk
/-- a value whose cells are known -/
theorem one_cells {v : Value} (h : v.oneCell' = true) : v.cells.toList = [v] := by
  cases v <;> first | rfl | cases h
end

/-! ### What holds over a base -/
structure Bs where
  p : Hp → Prop
  up : ∀ {h h' : Hp}, p h → Gr h h' → p h'
/-- the base, and new parts -/
def Bs.and (B : Bs) (M : List Res) : Bs := ⟨fun h => B.p h ∧ ∃ F, (rStar M).P h F, fun ⟨a, F, b⟩ g => ⟨B.up a g, F, (rStar M).loc b g fun _ _ e => e⟩⟩
def Bs.of (h : Hp) : Bs := ⟨fun h' => Gr h h', fun a g => a.trans g⟩
/-- it holds wherever the base stands -/
def On (B : Bs) (P : Hp → Prop) : Prop := ∀ h, B.p h → P h
/-- the one base holds more than the other -/
def Bs.le (B B' : Bs) : Prop := ∀ h, B'.p h → B.p h
theorem Bs.le_refl (B : Bs) : B.le B := fun _ b => b
theorem Bs.le_and (B : Bs) (M : List Res) : B.le (B.and M) := fun _ b => b.1
theorem Bs.le.trans {A B C : Bs} (x : A.le B) (y : B.le C) : A.le C := fun h c => x h (y h c)
/-- what a call leaves: new parts, and what holds over the base and them -/
def Rt (B : Bs) (h : Hp) (Q : Bs → Prop) (K : Hp → Prop) : Prop := ∀ M h', Cx (fun _ => False) h h' [rStar M] → Q (B.and M) → K h'
theorem Rt.nil {B : Bs} {Q : Bs → Prop} {K : Hp → Prop} (H : Rt B h Q K) (hp : Q (B.and [])) {h' : Hp} (g : Gr h h') : K h' :=
  H [] h' (((Cx.start0 h).more g).pack (L := []) (M := [])) hp
theorem On.le {B B' : Bs} {P : Hp → Prop} (H : On B P) (l : B.le B') : On B' P := fun h b => H h (l h b)
theorem On.imp {B : Bs} {P Q : Hp → Prop} (H : On B P) (f : ∀ h, P h → Q h) : On B Q := fun h b => f h (H h b)
theorem Bs.star {B : Bs} {Ms : List Res} (b : (B.and Ms).p h) {M : List Res} {i : Nat} (hi : Ms[i]? = some (rStar M)) : ∃ F, (rStar M).P h F := by
  obtain ⟨_, F, p⟩ := b
  exact (Cx.star p).get hi
theorem Bs.le_at {B : Bs} {M Ms : List Res} {i : Nat} (hi : Ms[i]? = some (rStar M)) : (B.and M).le (B.and Ms) := fun _ b => ⟨b.1, Bs.star b hi⟩
/-- the parts of a call's calls, together -/
theorem Bs.le1 {B : Bs} {M : List Res} : (B.and M).le (B.and [rStar M]) := fun _ b => ⟨b.1, Bs.star b (i := 0) rfl⟩
theorem Bs.le2 {B : Bs} {M N : List Res} : ((B.and M).and N).le (B.and [rStar M, rStar N]) := fun _ b => ⟨⟨b.1, Bs.star b (i := 0) rfl⟩, Bs.star b (i := 1) rfl⟩
theorem Bs.le3 {B : Bs} {M N O : List Res} : (((B.and M).and N).and O).le (B.and [rStar M, rStar N, rStar O]) := fun _ b => ⟨⟨⟨b.1, Bs.star b (i := 0) rfl⟩, Bs.star b (i := 1) rfl⟩, Bs.star b (i := 2) rfl⟩
/-- a resource of the parts, as a fact -/
theorem On.of {B : Bs} {M : List Res} {A : Res} {i : Nat} (hi : M[i]? = some A) : On (B.and M) fun h => ∃ F, A.P h F := fun _ b => by
  obtain ⟨_, F, p⟩ := b
  exact (Cx.star p).get hi
theorem On.sl {B : Bs} {M : List Res} {α : Type} {E : Enc α} {v : Value} {xs : List α} {i : Nat} (hi : M[i]? = some (rSl E v xs)) : On (B.and M) fun h => Sl E h v xs := (On.of hi).imp fun _ ⟨_, p⟩ => p.1.sl
theorem On.mp {B : Bs} {M : List Res} {α : Type} {ik : IntKind} {E : α → Value} {v : Value} {xs : List (Int × α)} {i : Nat} (hi : M[i]? = some (rMp ik E v xs)) : On (B.and M) fun h => Mp ik E h v xs := (On.of hi).imp fun _ ⟨_, p⟩ => p.1

/-! ### Known branches -/
theorem brt {A B : Prop} (h : A) : Br (.bool true) A B := h
theorem brf {A B : Prop} (h : B) : Br (.bool false) A B := h
section
variable {k : IntKind} {a b : Int}
theorem k_eqT (h : a = b) : bin .eql (.int k a) (.int k b) = some (.bool true) := by rw [bin_eql, decide_eq_true h]
theorem k_eqF (h : ¬ a = b) : bin .eql (.int k a) (.int k b) = some (.bool false) := by rw [bin_eql, decide_eq_false h]
theorem k_neT (h : ¬ a = b) : bin .neq (.int k a) (.int k b) = some (.bool true) := by rw [bin_neq, decide_eq_true h]
theorem k_neF (h : a = b) : bin .neq (.int k a) (.int k b) = some (.bool false) := by rw [bin_neq, decide_eq_false fun e => e h]
theorem k_ltT (h : a < b) : bin .lss (.int k a) (.int k b) = some (.bool true) := by rw [bin_lss, decide_eq_true h]
theorem k_ltF (h : ¬ a < b) : bin .lss (.int k a) (.int k b) = some (.bool false) := by rw [bin_lss, decide_eq_false h]
theorem k_leT (h : a ≤ b) : bin .leq (.int k a) (.int k b) = some (.bool true) := by rw [bin_leq, decide_eq_true h]
theorem k_leF (h : ¬ a ≤ b) : bin .leq (.int k a) (.int k b) = some (.bool false) := by rw [bin_leq, decide_eq_false h]
theorem k_gtT (h : b < a) : bin .gtr (.int k a) (.int k b) = some (.bool true) := by rw [bin_gtr, decide_eq_true h]
theorem k_gtF (h : ¬ b < a) : bin .gtr (.int k a) (.int k b) = some (.bool false) := by rw [bin_gtr, decide_eq_false h]
theorem k_geT (h : b ≤ a) : bin .geq (.int k a) (.int k b) = some (.bool true) := by rw [bin_geq, decide_eq_true h]
theorem k_geF (h : ¬ b ≤ a) : bin .geq (.int k a) (.int k b) = some (.bool false) := by rw [bin_geq, decide_eq_false h]
end

theorem nil_get {α : Type} {j : Nat} {u : α} {P : Prop} (h : ([] : List α)[j]? = some u) : P := by simp at h
/-! ### Structs built -/
def fillL (place : Nat → Option (Nat × Nat)) : List Value → List (Nat × Value) → Option (List Value)
  | cs, [] => some cs
  | cs, (i, v) :: r => match place i with
    | none => none
    | some (o, n) => match Nat.beq v.cells.toList.length n, Nat.ble (o + n) cs.length with
      | true, true => fillL place (cs.take o ++ v.cells.toList ++ cs.drop (o + n)) r
      | _, _ => none
theorem fill_ok {place : Nat → Option (Nat × Nat)} : ∀ {parts : List (Nat × Value)} {cs ds : List Value}, fillL place cs parts = some ds → Instr.fill place cs.toArray parts = some ds.toArray
  | [], cs, ds, h => by
    simp only [fillL, Option.some.injEq] at h
    subst h; rfl
  | (i, v) :: r, cs, ds, h => by
    unfold fillL at h
    unfold Instr.fill
    split at h
    · cases h
    · rename_i o n hp
      simp only [hp]
      split at h
      · rename_i h1 h2
        have h1 := Nat.eq_of_beq_eq_true h1
        have h2 := Nat.le_of_ble_eq_true h2
        have hs : v.cells.size = n := by rw [← Array.length_toList]; exact h1
        have hc : (v.cells.size ≠ n || o + v.cells.size > cs.toArray.size) = false := by simp [hs]; omega
        simp only [hc, Bool.false_eq_true, if_false]
        have hf : (v.cells.zipIdx.foldl (fun cs x => cs.setIfInBounds (o + x.2) x.1) cs.toArray) = (cs.take o ++ v.cells.toList ++ cs.drop (o + n)).toArray := by
          apply Array.ext'
          rw [← Array.foldl_toList, Array.toList_zipIdx, fold_set]
          · rw [Nat.add_zero, h1]
          · rw [Nat.add_zero, h1]; omega
        rw [hf]
        exact fill_ok h
      · cases h
theorem bldS_ok {places : List (Nat × Nat)} {zero : Array Value} {parts : List (Nat × Value)} {ds : List Value} (h : fillL (places[·]?) zero.toList parts = some ds) : bldS places zero parts = some (.agg ⟨ds⟩) := by
  have := fill_ok h
  rw [Array.toArray_toList] at this
  unfold bldS
  rw [this]; rfl
end Go.En
namespace Go.En

variable {S : Sys} {I : Ids} {h h0 h' : Hp} {F F0 : Fp} {R : Value → Hp → Prop} {L : List Res}
/-- the package variable -/
def szf : Nat → Int := fun i => ([8, 8, 8, 1, 104, 0, 32] : List Int).getD i 0
structure Zs (h : Hp) : Prop where
  row : Row (EAr .i64 7) h 0 0 szf
theorem Zs.gr (H : Zs h) (g : Gr h h') : Zs h' := ⟨H.row.ch g fun e => e⟩
theorem Zs.get (H : Zs h) {q : IntKind} {z : Int} {i : Nat} (hz : z = i) (hi : i < 7) {k : Value → Prop} (hk : k (.int .i64 (szf i))) : Vb (ixa 7 1 (.pointer (some ⟨0, 0, none⟩)) (.int q z)) fun p => Vb (ldc p h) k := by
  rw [ixa_at hz hi, vb_some]
  exact vb (H.row.ldc (EAr_get hi)) hk
theorem Zs.adr {q : IntKind} {z : Int} {i : Nat} (hz : z = i) (hi : i < 7) : ixa 7 1 (.pointer (some ⟨0, 0, none⟩)) (.int q z) = some (.pointer (some ⟨0, 0 + i, none⟩)) := ixa_at hz hi 0
theorem Zs.ld (H : Zs h) {i : Nat} (hi : i < 7) : ldc (.pointer (some ⟨0, 0 + i, none⟩)) h = some (.int .i64 (szf i)) := H.row.ldc (EAr_get hi)
/-- a call that comes to a value, and turns nothing -/
def Pz (S : Sys) (f : Nat) (args : List Value) (v : Value) : Prop := ∀ h (R : Value → Hp → Prop), Zs h → (∀ h', Gr h h' → R v h') → S.C f args h R
def EL : Enc (Int × Int × Int) := { n := 3, c := fun x => [.int .i64 x.1, .int .i64 x.2.1, .int .i64 x.2.2], len := fun _ => rfl, one := fun a v h => by simp only [List.mem_cons, List.not_mem_nil, or_false] at h; rcases h with rfl | rfl | rfl <;> rfl }
abbrev lay : Int × Int × Int := (3, 8, 0)
def vL : Value := .agg ⟨EL.c lay⟩
def manyV : Nat → Int := fun i => ([1, 3, 3, 8, 3, 0, 0] : List Int).getD i 0
def longV : Nat → Int := fun i => ([8, 24, 24, 8, 312, 0, 0] : List Int).getD i 0
def fromV : Nat → Int := fun i => ([0, 8, 32, 56, 64, 376, 376, 376] : List Int).getD i 0
theorem lt7 {p : Nat} {P : Nat → Prop} (h : p < 7) (h0 : P 0) (h1 : P 1) (h2 : P 2) (h3 : P 3) (h4 : P 4) (h5 : P 5) (h6 : P 6) : P p := by
  match p, h with
  | 0, _ => exact h0
  | 1, _ => exact h1
  | 2, _ => exact h2
  | 3, _ => exact h3
  | 4, _ => exact h4
  | 5, _ => exact h5
  | 6, _ => exact h6
  | p + 7, h => omega
theorem K_many {p : Nat} (hp : p < 7) (hR : ∀ h', Gr h h' → R (.int .i64 (manyV p)) h') : F_layout_Layout_many S I vL (.int .i64 p) h R := by
  unfold F_layout_Layout_many
  refine (Cx.start0 h).nw EL lay rfl fun r h1 c => ?_
  refine (c.va (i := 0) rfl).fld (j := 0) rfl ?_
  refine (c.va (i := 0) rfl).fld (j := 0) rfl ?_
  refine (c.va (i := 0) rfl).fld (j := 1) rfl ?_
  refine (c.va (i := 0) rfl).fld (j := 0) rfl ?_
  refine (c.va (i := 0) rfl).fld (j := 2) rfl ?_
  refine (c.va (i := 0) rfl).fld (j := 2) rfl ?_
  refine En.vb (v := .agg #[.int .i64 1, .int .i64 3, .int .i64 3, .int .i64 8, .int .i64 3, .int .i64 0, .int .i64 0]) (by kernel_rfl) ?_
  refine En.vb (v := .int .i64 (manyV p)) ?_ (hR _ c.gr)
  refine lt7 (P := fun p => idc 7 1 (.agg #[.int .i64 1, .int .i64 3, .int .i64 3, .int .i64 8, .int .i64 3, .int .i64 0, .int .i64 0]) (.int .i64 (p : Int)) = some (.int .i64 (manyV p))) hp ?_ ?_ ?_ ?_ ?_ ?_ ?_ <;> kernel_rfl
structure CeA (S : Sys) (I : Ids) : Prop where
  many : ∀ {p : Nat}, p < 7 → Pz S I.f_layout_Layout_many [vL, .int .i64 p] (.int .i64 (manyV p))
theorem K_long {p : Nat} (cs : CeA S I) (Z : Zs h) (hp : p < 7) (hR : ∀ h', Gr h h' → R (.int .i64 (longV p)) h') : F_layout_Layout_long S I vL (.int .i64 p) h R := by
  unfold F_layout_Layout_long
  refine (Cx.start0 h).nw EL lay rfl fun r h1 c => ?_
  rw [show lda 3 (at0 r) h1 = some vL from (c.va (i := 0) rfl).whole rfl, vb_some]
  rw [Zs.adr rfl hp, vb_some, (Z.gr c.gr).ld hp, vb_some]
  refine cs.many hp h1 _ (Z.gr c.gr) fun h2 g => ?_
  have c := c.more g
  refine ⟨(Z.gr c.gr).ld hp, ?_⟩
  rw [bin_mul, vb_some]
  have fin : ∀ (n : Int) h3, Gr h h3 → ((n + 8 - 1).tdiv 8 * 8 = longV p) → (0 ≤ n ∧ n ≤ 1000) → Vb (bin .add (.int .i64 n) (.int .i64 8)) fun v24 => Vb (bin .sub v24 (.int .i64 1)) fun v25 => Vb (bin .quo v25 (.int .i64 8)) fun v26 => Vb (bin .mul v26 (.int .i64 8)) fun v27 => R v27 h3 := fun n h3 g e hn => by
    have h1 : 0 ≤ (n + 8 - 1) / 8 := by omega
    have h2 : (n + 8 - 1).tdiv 8 = (n + 8 - 1) / 8 := Int.tdiv_eq_ediv_of_nonneg (by omega)
    rw [addI ⟨by omega, by omega⟩, vb_some, subI ⟨by omega, by omega⟩, vb_some, quoI ⟨by omega, by omega⟩ (by decide), vb_some, bin_mul, vb_some, wr64 ⟨by omega, by omega⟩, ← h2, e]
    exact hR h3 g
  refine .here ?_
  refine Jn1.at (fun v h' => v = .bool (decide (szf p = 0 ∧ manyV p > 0)) ∧ Cx (fun _ => False) h h' [rVar EL r lay]) ?_ ?_
  · rw [vb_some, (Z.gr c.gr).ld hp, vb_some, bin_eql, vb_some]
    refine brd (fun e => ?_) fun e => ?_
    · rw [show lda 3 (at0 r) h2 = some vL from (c.va (i := 0) rfl).whole rfl, vb_some]
      refine cs.many hp h2 _ (Z.gr c.gr) fun h3 g => ?_
      rw [bin_gtr, vb_some]
      exact ⟨by congr 1; exact decide_eq_decide.2 ⟨fun h => ⟨e, h⟩, fun h => h.2⟩, c.more g⟩
    · exact ⟨by rw [decide_eq_false fun h => e h.1], c⟩
  rintro v h3 ⟨rfl, c⟩
  refine brd (fun e => ?_) fun e => ?_
  · refine fin 8 h3 c.gr ?_ ⟨by decide, by decide⟩
    revert e
    refine lt7 (P := fun p => szf p = 0 ∧ manyV p > 0 → ((8 : Int) + 8 - 1).tdiv 8 * 8 = longV p) hp ?_ ?_ ?_ ?_ ?_ ?_ ?_ <;> decide
  · have e1 : IntKind.i64.wrap (manyV p * szf p) = manyV p * szf p := by
      refine lt7 (P := fun p => IntKind.i64.wrap (manyV p * szf p) = manyV p * szf p) hp ?_ ?_ ?_ ?_ ?_ ?_ ?_ <;> decide
    rw [e1]
    refine fin _ h3 c.gr ?_ ?_
    · revert e
      refine lt7 (P := fun p => ¬ (szf p = 0 ∧ manyV p > 0) → (manyV p * szf p + 8 - 1).tdiv 8 * 8 = longV p) hp ?_ ?_ ?_ ?_ ?_ ?_ ?_ <;> decide
    · refine lt7 (P := fun p => 0 ≤ manyV p * szf p ∧ manyV p * szf p ≤ 1000) hp ?_ ?_ ?_ ?_ ?_ ?_ ?_ <;> decide
structure CeB (S : Sys) (I : Ids) : Prop extends CeA S I where
  long : ∀ {p : Nat}, p < 7 → Pz S I.f_layout_Layout_long [vL, .int .i64 p] (.int .i64 (longV p))
theorem K_from {p : Nat} (cs : CeB S I) (Z : Zs h) (hp : p < 8) (hR : ∀ h', Gr h h' → R (.int .i64 (fromV p)) h') : F_layout_Layout_from S I vL (.int .i64 p) h R := by
  unfold F_layout_Layout_from
  refine (Cx.start0 h).nw EL lay rfl fun r h1 c => ?_
  refine Lp2.by (fun (i : Nat) u v h' => u = .int .i64 (fromV i) ∧ v = .int .i64 i ∧ i ≤ p ∧ Cx (fun _ => False) h h' [rVar EL r lay]) (fun i => p - i) 0 ⟨rfl, rfl, Nat.zero_le _, c⟩ ?_
  clear c
  rintro i u v h2 ⟨rfl, rfl, hi, c⟩ again hagain
  rw [bin_lss, vb_some]
  refine brd (fun e => ?_) fun e => ?_
  · have hi7 : i < 7 := by omega
    rw [show lda 3 (at0 r) h2 = some vL from (c.va (i := 0) rfl).whole rfl, vb_some]
    refine cs.long hi7 h2 _ (Z.gr c.gr) fun h3 g => ?_
    have ef : bin .add (.int .i64 (fromV i)) (.int .i64 (longV i)) = some (.int .i64 (fromV (i + 1))) := by
      refine lt7 (P := fun i => bin .add (.int .i64 (fromV i)) (.int .i64 (longV i)) = some (.int .i64 (fromV (i + 1)))) hi7 ?_ ?_ ?_ ?_ ?_ ?_ ?_ <;> kernel_rfl
    rw [ef, vb_some, bin_add, vb_some, wrS (by omega)]
    exact hagain (i + 1) _ _ _ ⟨rfl, rfl, by omega, c.more g⟩ (by omega)
  · have : i = p := by omega
    subst this
    exact hR _ c.gr
theorem K_between {n a b : Int} (hR : ∀ h', Gr h h' → R (.bool (decide (a ≤ n ∧ n ≤ b))) h') : F_layout_between S I (.int .i64 n) (.int .i64 a) (.int .i64 b) h R := by
  unfold F_layout_between
  refine .here ?_
  rw [bin_geq, vb_some]
  refine brd (fun e => ?_) fun e => ?_
  · rw [bin_leq, vb_some, show decide (n ≤ b) = decide (a ≤ n ∧ n ≤ b) from decide_eq_decide.2 ⟨fun h => ⟨e, h⟩, fun h => h.2⟩]
    exact hR _ (.refl _ _)
  · rw [show false = decide (a ≤ n ∧ n ≤ b) from (decide_eq_false fun h => e h.1).symm]
    exact hR _ (.refl _ _)
structure CeC (S : Sys) (I : Ids) : Prop extends CeB S I where
  frm : ∀ {p : Nat}, p < 8 → Pz S I.f_layout_Layout_from [vL, .int .i64 p] (.int .i64 (fromV p))
  between : ∀ {n a b : Int}, Pz S I.f_layout_between [.int .i64 n, .int .i64 a, .int .i64 b] (.bool (decide (a ≤ n ∧ n ≤ b)))
theorem K_Check (cs : CeC S I) (Z : Zs h) (hR : ∀ h', Gr h h' → R (.int .i64 0) h') : F_layout_Layout_Check S I vL h R := by
  unfold F_layout_Layout_Check
  refine (Cx.start0 h).nw EL lay rfl fun r h1 c => ?_
  refine Jn1.at (fun v h' => v = .bool false ∧ Cx (fun _ => False) h h' [rVar EL r lay]) ?_ ?_
  · refine (c.va (i := 0) rfl).fld (j := 0) rfl ?_
    refine cs.between h1 _ (Z.gr c.gr) fun h2 g => ?_
    have c := c.more g
    refine En.vb (v := .bool false) rfl ?_
    rw [br_false]
    refine (c.va (i := 0) rfl).fld (j := 1) rfl ?_
    refine cs.between h2 _ (Z.gr c.gr) fun h3 g => ?_
    have c := c.more g
    refine En.vb (v := .bool false) rfl ?_
    rw [br_false]
    refine (c.va (i := 0) rfl).fld (j := 2) rfl ?_
    refine cs.between h3 _ (Z.gr c.gr) fun h4 g => ?_
    refine En.vb (v := .bool false) rfl ?_
    exact ⟨rfl, c.more g⟩
  rintro v h2 ⟨rfl, c⟩
  rw [br_false, show lda 3 (at0 r) h2 = some vL from (c.va (i := 0) rfl).whole rfl, vb_some]
  refine cs.frm (p := 7) (by decide) h2 _ (Z.gr c.gr) fun h3 g => ?_
  refine En.vb (v := .bool false) (by kernel_rfl) ?_
  rw [br_false]
  exact hR _ (c.more g).gr
structure CeD (S : Sys) (I : Ids) : Prop extends CeC S I where
  check : Pz S I.f_layout_Layout_Check [vL] (.int .i64 0)
theorem K_right (cs : CeD S I) (Z : Zs h) (hR : ∀ h', Gr h h' → R (.bool true) h') : F_layout_Layout_right S I vL h R := by
  unfold F_layout_Layout_right
  refine (Cx.start0 h).nw EL lay rfl fun r h1 c => ?_
  rw [show lda 3 (at0 r) h1 = some vL from (c.va (i := 0) rfl).whole rfl, vb_some]
  refine cs.check h1 _ (Z.gr c.gr) fun h2 g => ?_
  rw [eqI, vb_some]
  exact hR _ (c.more g).gr
structure CeE (S : Sys) (I : Ids) : Prop extends CeD S I where
  right : Pz S I.f_layout_Layout_right [vL] (.bool true)
theorem K_Size (cs : CeE S I) (Z : Zs h) (hR : ∀ h', Gr h h' → R (.int .i64 376) h') : F_layout_Layout_Size S I vL h R := by
  unfold F_layout_Layout_Size
  refine (Cx.start0 h).nw EL lay rfl fun r h1 c => ?_
  rw [show lda 3 (at0 r) h1 = some vL from (c.va (i := 0) rfl).whole rfl, vb_some]
  refine cs.right h1 _ (Z.gr c.gr) fun h2 g => ?_
  have c := c.more g
  refine En.vb (v := .bool false) rfl ?_
  rw [br_false, show lda 3 (at0 r) h2 = some vL from (c.va (i := 0) rfl).whole rfl, vb_some]
  exact cs.frm (p := 7) (by decide) h2 _ (Z.gr c.gr) fun h3 g => hR _ (c.more g).gr
theorem K_at {p i more : Nat} (cs : CeE S I) (Z : Zs h) (hp : p < 7) (hi : (i : Int) < manyV p) (hm : more ≤ 1000) (hR : ∀ h', Gr h h' → R (.int .i64 (fromV p + i * szf p + more)) h') : F_layout_Layout_at S I vL (.int .i64 p) (.int .i64 i) (.int .i64 more) h R := by
  have hb : manyV p ≤ 8 ∧ 0 ≤ szf p ∧ szf p ≤ 104 ∧ 0 ≤ fromV p ∧ fromV p ≤ 376 := by
    refine lt7 (P := fun p => manyV p ≤ 8 ∧ 0 ≤ szf p ∧ szf p ≤ 104 ∧ 0 ≤ fromV p ∧ fromV p ≤ 376) hp ?_ ?_ ?_ ?_ ?_ ?_ ?_ <;> decide
  have hmul : 0 ≤ (i : Int) * szf p ∧ (i : Int) * szf p ≤ 832 := by
    have h1 : 0 ≤ (i : Int) := Int.natCast_nonneg i
    have h2 : (i : Int) ≤ 8 := by omega
    exact ⟨Int.mul_nonneg h1 hb.2.1, Int.le_trans (Int.mul_le_mul h2 hb.2.2.1 hb.2.1 (by decide)) (by decide)⟩
  unfold F_layout_Layout_at
  refine (Cx.start0 h).nw EL lay rfl fun r h1 c => ?_
  refine Jn1.at (fun v h' => v = .bool false ∧ Cx (fun _ => False) h h' [rVar EL r lay]) ?_ ?_
  · rw [show lda 3 (at0 r) h1 = some vL from (c.va (i := 0) rfl).whole rfl, vb_some]
    refine cs.right h1 _ (Z.gr c.gr) fun h2 g => ?_
    have c := c.more g
    refine En.vb (v := .bool false) rfl ?_
    rw [br_false, bin_lss, vb_some]
    refine brd (fun e => by omega) fun _ => ?_
    rw [show lda 3 (at0 r) h2 = some vL from (c.va (i := 0) rfl).whole rfl, vb_some]
    refine cs.many hp h2 _ (Z.gr c.gr) fun h3 g => ?_
    rw [bin_geq, vb_some]
    exact ⟨by rw [decide_eq_false]; omega, c.more g⟩
  rintro v h2 ⟨rfl, c⟩
  rw [br_false, show lda 3 (at0 r) h2 = some vL from (c.va (i := 0) rfl).whole rfl, vb_some, Zs.adr rfl hp, vb_some, (Z.gr c.gr).ld hp, vb_some, bin_mul, vb_some, wr64 ⟨by omega, by omega⟩]
  refine cs.frm (p := p) (by omega) h2 _ (Z.gr c.gr) fun h3 g => ?_
  have c := c.more g
  refine ⟨(Z.gr c.gr).ld hp, ?_⟩
  rw [addI ⟨by omega, by omega⟩, vb_some, addI ⟨by omega, by omega⟩, vb_some]
  exact hR _ c.gr
structure CeF (S : Sys) (I : Ids) : Prop extends CeE S I where
  at' : ∀ {p i more : Nat}, p < 7 → (i : Int) < manyV p → more ≤ 1000 → Pz S I.f_layout_Layout_at [vL, .int .i64 p, .int .i64 i, .int .i64 more] (.int .i64 (fromV p + i * szf p + more))
  size : Pz S I.f_layout_Layout_Size [vL] (.int .i64 376)
theorem K_Era (cs : CeF S I) (Z : Zs h) (hR : ∀ h', Gr h h' → R (.int .i64 1) h') : F_layout_Layout_Era S I vL h R := by
  unfold F_layout_Layout_Era
  refine (Cx.start0 h).nw EL lay rfl fun r h1 c => ?_
  rw [show lda 3 (at0 r) h1 = some vL from (c.va (i := 0) rfl).whole rfl, vb_some]
  exact cs.at' (p := 0) (i := 0) (more := 1) (by decide) (by decide) (by decide) h1 _ (Z.gr c.gr) fun h2 g => hR _ (c.more g).gr
end Go.En
