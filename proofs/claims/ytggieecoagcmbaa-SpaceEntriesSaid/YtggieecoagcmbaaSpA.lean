/-
  What one owns: resources, each with the blocks that it stands on; a row of them, apart from each other.
-/
import Derived.Test.YtggieecoagcmbaaEngQ
namespace Go.En

abbrev Fp := Nat → Prop
/-- a step that turns what stands on F; behind it that stands on F' -/
structure Mv (F : Fp) (h : Hp) (F' : Fp) (h' : Hp) : Prop where
  ch : Ch F h h'
  grow : ∀ r, F' r → F r ∨ h.size ≤ r
theorem Mv.refl (F : Fp) (h : Hp) : Mv F h F h := ⟨.refl _ _, fun _ e => .inl e⟩
theorem Mv.trans {F F' F'' : Fp} {a b c : Hp} (x : Mv F a F' b) (y : Mv F' b F'' c) : Mv F a F'' c := by
  refine ⟨⟨Nat.le_trans x.ch.size y.ch.size, fun r hr hn => ?_⟩, fun r hr => ?_⟩
  · rw [y.ch.same r (Nat.lt_of_lt_of_le hr x.ch.size) (fun e => (x.grow r e).elim hn (fun g => by omega)), x.ch.same r hr hn]
  · rcases y.grow r hr with h | h
    · exact x.grow r h
    · exact .inr (Nat.le_trans x.ch.size h)

structure Res where
  P : Hp → Fp → Prop
  lt : ∀ {h F}, P h F → ∀ r, F r → r < h.size
  loc : ∀ {h h' F D}, P h F → Ch D h h' → (∀ r, F r → ¬ D r) → P h' F

/-- resources at hand, each with its blocks -/
inductive Own (h : Hp) : List Res → List Fp → Prop where
  | nil : Own h [] []
  | cons {A : Res} {F : Fp} {L : List Res} {Fs : List Fp} : A.P h F → (∀ G ∈ Fs, ∀ r, F r → ¬ G r) → Own h L Fs → Own h (A :: L) (F :: Fs)
theorem Own.lt {h : Hp} {L : List Res} {Fs : List Fp} (o : Own h L Fs) : ∀ G ∈ Fs, ∀ r, G r → r < h.size := by
  induction o with
  | nil => intro G hG; cases hG
  | cons a _ _ ih =>
    intro G hG
    rcases List.mem_cons.1 hG with rfl | hG
    · exact Res.lt _ a
    · exact ih G hG
theorem Own.loc {h h' : Hp} {D : Fp} {L : List Res} {Fs : List Fp} (o : Own h L Fs) (c : Ch D h h') (hd : ∀ G ∈ Fs, ∀ r, G r → ¬ D r) : Own h' L Fs := by
  induction o with
  | nil => exact .nil
  | cons a d _ ih => exact .cons (Res.loc _ a c (hd _ (List.mem_cons_self ..))) d (ih fun G hG => hd G (List.mem_cons_of_mem _ hG))

/-- resources at hand; whatever stood at h0 outside F0 is as it was -/
def Cx (F0 : Fp) (h0 h : Hp) (L : List Res) : Prop := ∃ Fs, Own h L Fs ∧ Ch F0 h0 h ∧ ∀ G ∈ Fs, ∀ r, G r → F0 r ∨ h0.size ≤ r

section
variable {F0 : Fp} {h0 h h' : Hp} {L : List Res} {A B : Res}
theorem Cx.gr (c : Cx F0 h0 h L) : Ch F0 h0 h := let ⟨_, _, g, _⟩ := c; g
theorem Cx.start {F : Fp} (a : A.P h F) : Cx F h h [A] := ⟨[F], .cons a (fun _ hG => by cases hG) .nil, .refl _ _, fun G hG r hr => by
  rcases List.mem_cons.1 hG with rfl | hG
  · exact .inl hr
  · cases hG⟩
theorem Cx.start0 (h : Hp) : Cx (fun _ => False) h h [] := ⟨[], .nil, .refl _ _, fun G hG => by cases hG⟩

theorem own_get : ∀ {L : List Res} {Fs : List Fp} {i : Nat} {A : Res}, Own h L Fs → L[i]? = some A → ∃ F, A.P h F ∧ Fs[i]? = some F ∧ ∀ {h' : Hp} {F' : Fp} {B : Res}, B.P h' F' → Mv F h F' h' → Own h' (L.set i B) (Fs.set i F')
  | _, _, i, A, .nil, hi => by simp at hi
  | _, _, 0, A, .cons (F := F) a d o, hi => by
    simp only [List.getElem?_cons_zero, Option.some.injEq] at hi
    subst hi
    refine ⟨F, a, rfl, fun {h' F' B} b m => ?_⟩
    refine .cons b (fun G hG r hr hG2 => ?_) (o.loc m.ch fun G hG r hr hF => d G hG r hF hr)
    rcases m.grow r hr with h | h
    · exact d G hG r h hG2
    · have := o.lt G hG r hG2; omega
  | _, _, i + 1, A, .cons (F := F0) (A := A0) a d o, hi => by
    obtain ⟨F, p, hF, f⟩ := own_get o (by simpa using hi)
    refine ⟨F, p, by simpa using hF, fun {h' F' B} b m => ?_⟩
    have hdis : ∀ r, F0 r → ¬ F r := d F (List.mem_of_getElem? hF)
    refine .cons (A0.loc a m.ch hdis) (fun G hG r hr hG2 => ?_) (f b m)
    rcases List.mem_or_eq_of_mem_set hG with h | h
    · exact d G h r hr hG2
    · subst h
      rcases m.grow r hG2 with h | h
      · exact hdis r hr h
      · have := A0.lt a r hr; omega

/-- one resource is looked at, and turned -/
theorem Cx.upd (c : Cx F0 h0 h L) {i : Nat} (hi : L[i]? = some A) : ∃ F, A.P h F ∧ ∀ {h' : Hp} {F' : Fp} {B : Res}, B.P h' F' → Mv F h F' h' → Cx F0 h0 h' (L.set i B) := by
  obtain ⟨Fs, o, g, k⟩ := c
  obtain ⟨F, p, hF, f⟩ := own_get o hi
  refine ⟨F, p, fun {h' F' B} b m => ⟨_, f b m, ?_, fun G hG r hr => ?_⟩⟩
  · have kF := k F (List.mem_of_getElem? hF)
    refine ⟨Nat.le_trans g.size m.ch.size, fun r hr hn => ?_⟩
    rw [m.ch.same r (Nat.lt_of_lt_of_le hr g.size) (fun e => (kF r e).elim hn (fun x => by omega)), g.same r hr hn]
  · rcases List.mem_or_eq_of_mem_set hG with h | h
    · exact k G h r hr
    · subst h
      rcases m.grow r hr with h | h
      · exact k F (List.mem_of_getElem? hF) r h
      · exact .inr (Nat.le_trans g.size h)
theorem Cx.get (c : Cx F0 h0 h L) {i : Nat} (hi : L[i]? = some A) : ∃ F, A.P h F := let ⟨F, p, _⟩ := c.upd hi; ⟨F, p⟩

theorem own_app : ∀ {L : List Res} {Fs : List Fp} {F' : Fp} {h h' : Hp} {B : Res}, Own h L Fs → B.P h' F' → Gr h h' → (∀ r, F' r → h.size ≤ r) → Own h' (L ++ [B]) (Fs ++ [F'])
  | _, _, _, _, _, B, .nil, b, g, n => .cons b (fun G hG => by cases hG) .nil
  | _, _, F', h, h', B, .cons (A := A0) a d o, b, g, n => by
    refine .cons (A0.loc a g fun _ _ e => e) (fun G hG r hr hG2 => ?_) (own_app o b g n)
    rcases List.mem_append.1 hG with h | h
    · exact d G h r hr hG2
    · simp only [List.mem_singleton] at h
      subst h
      have := n r hG2
      have := A0.lt a r hr
      omega
/-- a new resource -/
theorem Cx.add (c : Cx F0 h0 h L) {F' : Fp} (b : B.P h' F') (g : Gr h h') (n : ∀ r, F' r → h.size ≤ r) : Cx F0 h0 h' (L ++ [B]) := by
  obtain ⟨Fs, o, g0, k⟩ := c
  refine ⟨_, own_app o b g n, ⟨Nat.le_trans g0.size g.size, fun r hr hn => by rw [g.same r (Nat.lt_of_lt_of_le hr g0.size) (fun e => e), g0.same r hr hn]⟩, fun G hG r hr => ?_⟩
  rcases List.mem_append.1 hG with h | h
  · exact k G h r hr
  · simp only [List.mem_singleton] at h
    subst h
    exact .inr (Nat.le_trans g0.size (n r hr))
/-- a step that only adds -/
theorem Cx.more (c : Cx F0 h0 h L) (g : Gr h h') : Cx F0 h0 h' L := by
  obtain ⟨Fs, o, g0, k⟩ := c
  exact ⟨Fs, o.loc g fun _ _ _ _ e => e, ⟨Nat.le_trans g0.size g.size, fun r hr hn => by rw [g.same r (Nat.lt_of_lt_of_le hr g0.size) (fun e => e), g0.same r hr hn]⟩, k⟩
theorem own_drop : ∀ {L L' : List Res} {Fs : List Fp}, Own h (L ++ L') Fs → ∃ Fs', Own h L Fs' ∧ ∀ G ∈ Fs', G ∈ Fs
  | [], L', Fs, _ => ⟨[], .nil, fun G hG => by cases hG⟩
  | A :: L, L', _, .cons a d o => by
    obtain ⟨Fs', o', hs⟩ := own_drop (L := L) o
    exact ⟨_, .cons a (fun G hG => d G (hs G hG)) o', fun G hG => by
      rcases List.mem_cons.1 hG with rfl | hG
      · exact List.mem_cons_self ..
      · exact List.mem_cons_of_mem _ (hs G hG)⟩
theorem Cx.drop {L' : List Res} (c : Cx F0 h0 h (L ++ L')) : Cx F0 h0 h L := by
  obtain ⟨Fs, o, g, k⟩ := c
  obtain ⟨Fs', o', hs⟩ := own_drop o
  exact ⟨Fs', o', g, fun G hG => k G (hs G hG)⟩
theorem own_sub : ∀ {L L' : List Res} {Fs : List Fp}, L'.Sublist L → Own h L Fs → ∃ Fs', Own h L' Fs' ∧ ∀ G ∈ Fs', G ∈ Fs
  | _, _, _, .slnil, _ => ⟨[], .nil, fun G hG => by cases hG⟩
  | _, _, _, .cons _ s, .cons a d o => by
    obtain ⟨Fs', o', hs⟩ := own_sub s o
    exact ⟨Fs', o', fun G hG => List.mem_cons_of_mem _ (hs G hG)⟩
  | _, _, _, .cons_cons _ s, .cons a d o => by
    obtain ⟨Fs', o', hs⟩ := own_sub s o
    exact ⟨_, .cons a (fun G hG => d G (hs G hG)) o', fun G hG => by
      rcases List.mem_cons.1 hG with rfl | hG
      · exact List.mem_cons_self ..
      · exact List.mem_cons_of_mem _ (hs G hG)⟩
/-- some of the resources -/
theorem Cx.sub {L' : List Res} (c : Cx F0 h0 h L) (s : L'.Sublist L) : Cx F0 h0 h L' := by
  obtain ⟨Fs, o, g, k⟩ := c
  obtain ⟨Fs', o', hs⟩ := own_sub s o
  exact ⟨Fs', o', g, fun G hG => k G (hs G hG)⟩
/-- what a caller gets back: the first resource -/
theorem Cx.fin {F : Fp} (c : Cx F h0 h (A :: L)) : ∃ F', A.P h F' ∧ Mv F h0 F' h := by
  obtain ⟨Fs, o, g, k⟩ := c
  cases o with
  | cons a d o => exact ⟨_, a, g, fun r hr => k _ (List.mem_cons_self ..) r hr⟩
/-- two resources are apart -/
theorem own_two : ∀ {L : List Res} {Fs : List Fp} {i j : Nat} {A B : Res}, Own h L Fs → L[i]? = some A → L[j]? = some B → i ≠ j → ∃ F G, A.P h F ∧ B.P h G ∧ ∀ r, F r → ¬ G r
  | _, _, i, _, _, _, .nil, hi, _, _ => by simp at hi
  | _, _, 0, 0, _, _, .cons .., _, _, hn => absurd rfl hn
  | _, _, 0, j + 1, A, B, .cons a d o, hi, hj, hn => by
    simp only [List.getElem?_cons_zero, Option.some.injEq] at hi
    subst hi
    obtain ⟨G, b, hG, _⟩ := own_get o (by simpa using hj)
    exact ⟨_, _, a, b, d G (List.mem_of_getElem? hG)⟩
  | _, _, i + 1, 0, A, B, .cons a d o, hi, hj, hn => by
    simp only [List.getElem?_cons_zero, Option.some.injEq] at hj
    subst hj
    obtain ⟨G, b, hG, _⟩ := own_get o (by simpa using hi)
    exact ⟨_, _, b, a, fun r h1 h2 => d G (List.mem_of_getElem? hG) r h2 h1⟩
  | _, _, i + 1, j + 1, A, B, .cons a d o, hi, hj, hn => own_two o (by simpa using hi) (by simpa using hj) (by omega)
theorem Cx.two {i j : Nat} (c : Cx F0 h0 h L) (hi : L[i]? = some A) (hj : L[j]? = some B) (hn : i ≠ j) : ∃ F G, A.P h F ∧ B.P h G ∧ ∀ r, F r → ¬ G r := by
  obtain ⟨Fs, o, g, k⟩ := c
  exact own_two o hi hj hn
end

/-! ### The kinds of resources -/
/-- a variable at the block r -/
def rVar {α : Type} (E : Enc α) (r : Nat) (x : α) : Res where
  P := fun h F => Va E h r x ∧ ∀ q, F q ↔ q = r
  lt := fun ⟨v, hf⟩ q hq => by rw [hf] at hq; subst hq; exact v.lt
  loc := fun ⟨v, hf⟩ c hd => ⟨v.ch c (hd r ((hf r).2 rfl)), hf⟩
/-- a slice of one's own -/
def rSl {α : Type} (E : Enc α) (v : Value) (xs : List α) : Res where
  P := fun h F => Ow E h v xs ∧ ∀ q, F q ↔ blk v = some q
  lt := fun ⟨o, hf⟩ q hq => by rw [hf] at hq; exact o.lt hq
  loc := fun ⟨o, hf⟩ c hd => ⟨o.ch c fun r hr => hd r ((hf r).2 hr), hf⟩
/-- a map with whole-number keys -/
def rMp {α : Type} (ik : IntKind) (E : α → Value) (v : Value) (ps : List (Int × α)) : Res where
  P := fun h F => Mp ik E h v ps ∧ ∀ q, F q ↔ mblk v = some q
  lt := fun ⟨o, hf⟩ q hq => by rw [hf] at hq; exact o.lt hq
  loc := fun ⟨o, hf⟩ c hd => ⟨o.ch c fun r hr => hd r ((hf r).2 hr), hf⟩

section
variable {F0 : Fp} {h0 h h' : Hp} {L : List Res}
/-- a new variable -/
theorem Cx.nw {α : Type} (E : Enc α) (x : α) (c : Cx F0 h0 h L) {cs : Array Value} {e : TypeId} (hc : cs.toList = E.c x) {k : Value → Hp → Prop}
    (hk : ∀ r h', Cx F0 h0 h' (L ++ [rVar E r x]) → k (at0 r) h') : Eb (En.nw cs e h) k :=
  eb rfl (hk h.size _ (c.add (F' := fun q => q = h.size) ⟨Va.new hc, fun _ => Iff.rfl⟩ (Ch.push _ _) fun r e => by omega))
theorem Cx.va {α : Type} {E : Enc α} {r i : Nat} {x : α} (c : Cx F0 h0 h L) (hi : L[i]? = some (rVar E r x)) : Va E h r x := let ⟨_, p, _⟩ := c.get hi; p
theorem Cx.sl {α : Type} {E : Enc α} {v : Value} {i : Nat} {xs : List α} (c : Cx F0 h0 h L) (hi : L[i]? = some (rSl E v xs)) : Ow E h v xs := let ⟨_, p, _⟩ := c.get hi; p
theorem Cx.mp {α : Type} {ik : IntKind} {E : α → Value} {v : Value} {i : Nat} {ps : List (Int × α)} (c : Cx F0 h0 h L) (hi : L[i]? = some (rMp ik E v ps)) : Mp ik E h v ps := let ⟨_, p, _⟩ := c.get hi; p
theorem mv_same {F : Fp} {a b : Hp} (c : Ch F a b) : Mv F a F b := ⟨c, fun _ e => .inl e⟩
/-- a variable is set -/
theorem Cx.sto {α : Type} {E : Enc α} {r : Nat} {x : α} (c : Cx F0 h0 h L) (i : Nat) (hi : L[i]? = some (rVar E r x)) (y : α) {n : Nat} (hn : n = E.n) {w : Value} (hw : w = .agg ⟨E.c y⟩) {k : Hp → Prop}
    (hk : ∀ h', Cx F0 h0 h' (L.set i (rVar E r y)) → k h') : Sb (En.sto n (at0 r) w h) k := by
  obtain ⟨F, ⟨v, hf⟩, f⟩ := c.upd hi
  exact v.sto y hn hw fun h' v' ch => hk h' (f (F' := F) ⟨v', hf⟩ (mv_same (ch.mono fun q _ e => (hf q).2 e)))
theorem Cx.sto1 {α : Type} {E : Enc α} {r : Nat} {x : α} (c : Cx F0 h0 h L) (i : Nat) (hi : L[i]? = some (rVar E r x)) (y : α) (hn : E.n = 1) {w : Value} (hw : E.c y = [w]) {k : Hp → Prop}
    (hk : ∀ h', Cx F0 h0 h' (L.set i (rVar E r y)) → k h') : Sb (En.sto 1 (at0 r) w h) k := by
  obtain ⟨F, ⟨v, hf⟩, f⟩ := c.upd hi
  exact v.sto1 y hn hw fun h' v' ch => hk h' (f (F' := F) ⟨v', hf⟩ (mv_same (ch.mono fun q _ e => (hf q).2 e)))
/-- what is not in a list of its own -/
theorem Cx.old (c : Cx (fun _ => False) h0 h L) : Gr h0 h := c.gr
end

/-! ### Frames -/
section
variable {F0 : Fp} {h0 h h' : Hp} {L : List Res} {A B : Res}
theorem own_loc_ge : ∀ {L : List Res} {Fs : List Fp} {h h' : Hp} {D : Fp}, Own h L Fs → Ch D h h' → (∀ G ∈ Fs, ∀ r, G r → ¬ D r) → Own h' L Fs
  | _, _, _, _, _, o, c, d => o.loc c d
theorem own_append : ∀ {L M : List Res} {Fs Gs : List Fp}, Own h L Fs → Own h M Gs → (∀ F ∈ Fs, ∀ G ∈ Gs, ∀ r, F r → ¬ G r) → Own h (L ++ M) (Fs ++ Gs)
  | _, _, _, _, .nil, o, _ => o
  | _, _, _, _, .cons a d o', o, x => by
    refine .cons a (fun G hG r hr hG2 => ?_) (own_append o' o fun F hF G hG => x F (List.mem_cons_of_mem _ hF) G hG)
    rcases List.mem_append.1 hG with h | h
    · exact d G h r hr hG2
    · exact x _ (List.mem_cons_self ..) G h r hr hG2
theorem own_split : ∀ {L M : List Res} {Fs : List Fp}, Own h (L ++ M) Fs → ∃ Fa Fb, Fs = Fa ++ Fb ∧ Own h L Fa ∧ Own h M Fb ∧ ∀ F ∈ Fa, ∀ G ∈ Fb, ∀ r, F r → ¬ G r
  | [], M, Fs, o => ⟨[], Fs, rfl, .nil, o, fun F hF => by cases hF⟩
  | A :: L, M, _, .cons a d o => by
    obtain ⟨Fa, Fb, rfl, o1, o2, x⟩ := own_split (L := L) o
    refine ⟨_ :: Fa, Fb, rfl, .cons a (fun G hG => d G (List.mem_append_left _ hG)) o1, o2, fun F hF G hG => ?_⟩
    rcases List.mem_cons.1 hF with rfl | hF
    · exact d G (List.mem_append_right _ hG)
    · exact x F hF G hG
theorem own_set : ∀ {L : List Res} {Fs : List Fp} {i : Nat} {A B : Res} {F F' : Fp}, Own h L Fs → L[i]? = some A → Fs[i]? = some F → B.P h F' → (∀ j G, j ≠ i → Fs[j]? = some G → ∀ r, F' r → ¬ G r) → Own h (L.set i B) (Fs.set i F')
  | _, _, _, _, _, _, _, .nil, hi, _, _, _ => by simp at hi
  | _, _, 0, _, _, _, _, .cons a d o, hi, hF, b, x => by
    refine .cons b (fun G hG r hr => ?_) o
    obtain ⟨j, hj, rfl⟩ := List.mem_iff_getElem.1 hG
    exact x (j + 1) _ (by omega) (by simp [List.getElem?_eq_getElem hj]) r hr
  | _, _, i + 1, _, _, _, _, .cons (F := F0) a d o, hi, hF, b, x => by
    refine .cons a (fun G hG r hr hG2 => ?_) (own_set o (by simpa using hi) (by simpa using hF) b fun j G hj hG => x (j + 1) G (by omega) (by simpa using hG))
    rcases List.mem_or_eq_of_mem_set hG with h | h
    · exact d G h r hr hG2
    · subst h; exact x 0 F0 (by omega) (by simp) r hG2 hr

/-- a call that works on one of the resources: seen alone, then put back -/
theorem Cx.frameE (c : Cx F0 h0 h L) {i : Nat} (hi : L[i]? = some A) : ∃ F, Cx F h h [A] ∧ (∀ r, F r → F0 r ∨ h0.size ≤ r) ∧ (∀ (j : Nat) (B : Res), i ≠ j → L[j]? = some B → ∃ G, B.P h G ∧ ∀ r, F r → ¬ G r) ∧ ∀ {h' : Hp} {A' : Res} {M : List Res}, Cx F h h' (A' :: M) → Cx F0 h0 h' (L.set i A' ++ M) := by
  obtain ⟨Fs, o, g, k⟩ := c
  obtain ⟨F, a, hF, f⟩ := own_get o hi
  have hmF := List.mem_of_getElem? hF
  refine ⟨F, Cx.start a, k F hmF, fun j B hij hj => ?_, fun {h' A' M} c' => ?_⟩
  · obtain ⟨G, b, hG, _⟩ := own_get o hj
    exact ⟨G, b, own_apart o hF hG hij⟩
  obtain ⟨Gs, o', g', k'⟩ := c'
  cases o' with
  | cons a' d' o' =>
    rename_i F' Gs
    have hgrow : ∀ r, F' r → F r ∨ h.size ≤ r := fun r hr => k' F' (List.mem_cons_self ..) r hr
    have o1 := f a' ⟨g', hgrow⟩
    have hlt := o.lt
    refine ⟨_, own_append o1 o' fun X hX G hG r hr hG2 => ?_, ?_, fun G hG r hr => ?_⟩
    · rcases k' G (List.mem_cons_of_mem _ hG) r hG2 with h1 | h1
      · -- G stands on what A stood on
        rcases List.mem_or_eq_of_mem_set hX with h2 | h2
        · -- another resource, or the same
          obtain ⟨j, hj, rfl⟩ := List.mem_iff_getElem.1 hX
          rw [List.getElem_set] at hr
          split at hr
          · exact d' G hG r hr hG2
          · rename_i hne
            have hj' : j < Fs.length := by simpa using hj
            exact own_apart o hF (List.getElem?_eq_getElem hj') hne r h1 hr
        · subst h2; exact d' G hG r hr hG2
      · rcases List.mem_or_eq_of_mem_set hX with h2 | h2
        · have := hlt X h2 r hr; omega
        · subst h2; exact d' G hG r hr hG2
    · refine ⟨Nat.le_trans g.size g'.size, fun r hr hn => ?_⟩
      rw [g'.same r (Nat.lt_of_lt_of_le hr g.size) (fun e => (k F hmF r e).elim hn (fun x => by omega)), g.same r hr hn]
    · have fin : F r ∨ h.size ≤ r → F0 r ∨ h0.size ≤ r := fun e => e.elim (k F hmF r) fun e => .inr (Nat.le_trans g.size e)
      rcases List.mem_append.1 hG with h1 | h1
      · rcases List.mem_or_eq_of_mem_set h1 with h2 | h2
        · exact k G h2 r hr
        · subst h2; exact fin (hgrow r hr)
      · exact fin (k' G (List.mem_cons_of_mem _ h1) r hr)
where
  own_apart : ∀ {L : List Res} {Fs : List Fp} {h : Hp} {i j : Nat} {F G : Fp}, Own h L Fs → Fs[i]? = some F → Fs[j]? = some G → i ≠ j → ∀ r, F r → ¬ G r
    | _, _, _, i, _, _, _, .nil, hi, _, _ => by simp at hi
    | _, _, _, 0, 0, _, _, .cons .., _, _, hn => absurd rfl hn
    | _, _, _, 0, j + 1, F, G, .cons a d o, hi, hj, hn => by
      simp only [List.getElem?_cons_zero, Option.some.injEq] at hi
      subst hi
      exact d G (List.mem_of_getElem? (by simpa using hj))
    | _, _, _, i + 1, 0, F, G, .cons a d o, hi, hj, hn => by
      simp only [List.getElem?_cons_zero, Option.some.injEq] at hj
      subst hj
      exact fun r h1 h2 => d F (List.mem_of_getElem? (by simpa using hi)) r h2 h1
    | _, _, _, i + 1, j + 1, F, G, .cons a d o, hi, hj, hn => own_apart o (by simpa using hi) (by simpa using hj) (by omega)
theorem Cx.frameD (c : Cx F0 h0 h L) {i : Nat} (hi : L[i]? = some A) : ∃ F, Cx F h h [A] ∧ (∀ (j : Nat) (B : Res), i ≠ j → L[j]? = some B → ∃ G, B.P h G ∧ ∀ r, F r → ¬ G r) ∧ ∀ {h' : Hp} {A' : Res} {M : List Res}, Cx F h h' (A' :: M) → Cx F0 h0 h' (L.set i A' ++ M) :=
  let ⟨F, c1, _, hd, up⟩ := c.frameE hi
  ⟨F, c1, hd, up⟩
theorem Cx.frame (c : Cx F0 h0 h L) {i : Nat} (hi : L[i]? = some A) : ∃ F, Cx F h h [A] ∧ ∀ {h' : Hp} {A' : Res} {M : List Res}, Cx F h h' (A' :: M) → Cx F0 h0 h' (L.set i A' ++ M) :=
  let ⟨F, c1, _, up⟩ := c.frameD hi
  ⟨F, c1, up⟩
/-- a call that works on none -/
theorem Cx.frame0 (c : Cx F0 h0 h L) {M : List Res} (c' : Cx (fun _ => False) h h' M) : Cx F0 h0 h' (L ++ M) := by
  obtain ⟨Fs, o, g, k⟩ := c
  obtain ⟨Gs, o', g', k'⟩ := c'
  refine ⟨_, own_append (o.loc g' fun _ _ _ _ e => e) o' fun X hX G hG r hr hG2 => ?_, ?_, fun G hG r hr => ?_⟩
  · have := o.lt X hX r hr
    rcases k' G hG r hG2 with h1 | h1
    · exact h1
    · omega
  · exact ⟨Nat.le_trans g.size g'.size, fun r hr hn => by rw [g'.same r (Nat.lt_of_lt_of_le hr g.size) (fun e => e), g.same r hr hn]⟩
  · rcases List.mem_append.1 hG with h1 | h1
    · exact k G h1 r hr
    · rcases k' G h1 r hr with h2 | h2
      · exact h2.elim
      · exact .inr (Nat.le_trans g.size h2)

/-- several resources taken as one -/
def rStar (L : List Res) : Res where
  P := fun h F => ∃ Fs, Own h L Fs ∧ ∀ q, F q ↔ ∃ G ∈ Fs, G q
  lt := fun ⟨Fs, o, hf⟩ q hq => by
    obtain ⟨G, hG, hq⟩ := (hf q).1 hq
    exact o.lt G hG q hq
  loc := fun ⟨Fs, o, hf⟩ c hd => ⟨Fs, o.loc c fun G hG r hr => hd r ((hf r).2 ⟨G, hG, hr⟩), hf⟩
/-- a resource out of several that are alike -/
def rEx {β : Type} (f : β → Res) : Res where
  P := fun h F => ∃ b, (f b).P h F
  lt := fun ⟨b, p⟩ => (f b).lt p
  loc := fun ⟨b, p⟩ c hd => ⟨b, (f b).loc p c hd⟩
/-- a resource with a condition -/
def rIf (p : Prop) (A : Res) : Res where
  P := fun h F => p ∧ A.P h F
  lt := fun ⟨_, a⟩ => A.lt a
  loc := fun ⟨q, a⟩ c hd => ⟨q, A.loc a c hd⟩
theorem Cx.star {F : Fp} (a : (rStar L).P h F) : Cx F h h L := by
  obtain ⟨Fs, o, hf⟩ := a
  exact ⟨Fs, o, .refl _ _, fun G hG r hr => .inl ((hf r).2 ⟨G, hG, hr⟩)⟩
theorem Cx.unstar {F : Fp} (c : Cx F h0 h L) : ∃ F', (rStar L).P h F' ∧ Mv F h0 F' h := by
  obtain ⟨Fs, o, g, k⟩ := c
  exact ⟨fun q => ∃ G ∈ Fs, G q, ⟨Fs, o, fun _ => Iff.rfl⟩, g, fun r ⟨G, hG, hr⟩ => k G hG r hr⟩
theorem Cx.mk1 {F F' : Fp} (a : A.P h F') (m : Mv F h0 F' h) : Cx F h0 h [A] := ⟨[F'], .cons a (fun _ hG => by cases hG) .nil, m.ch, fun G hG r hr => by
  rcases List.mem_cons.1 hG with rfl | hG
  · exact m.grow r hr
  · cases hG⟩
theorem own_perm {L L' : List Res} (s : L.Perm L') : ∀ {Fs : List Fp}, Own h L Fs → ∃ Fs', Own h L' Fs' ∧ Fs.Perm Fs' := by
  induction s with
  | nil => intro Fs o; exact ⟨Fs, o, .refl _⟩
  | cons A _ ih =>
    intro Fs o
    cases o with
    | cons a d o =>
      obtain ⟨Fs', o', hp⟩ := ih o
      exact ⟨_, .cons a (fun G hG => d G (hp.mem_iff.2 hG)) o', hp.cons _⟩
  | swap A B l =>
    intro Fs o
    cases o with
    | cons a d o =>
      cases o with
      | cons b e o =>
        exact ⟨_, .cons b (fun G hG r h1 h2 => by
          rcases List.mem_cons.1 hG with rfl | hG
          · exact d _ (List.mem_cons_self ..) r h2 h1
          · exact e G hG r h1 h2) (.cons a (fun G hG => d G (List.mem_cons_of_mem _ hG)) o), .swap ..⟩
  | trans _ _ ih1 ih2 =>
    intro Fs o
    obtain ⟨F1, o1, p1⟩ := ih1 o
    obtain ⟨F2, o2, p2⟩ := ih2 o1
    exact ⟨F2, o2, p1.trans p2⟩
theorem Cx.perm {L' : List Res} (c : Cx F0 h0 h L) (s : L.Perm L') : Cx F0 h0 h L' := by
  obtain ⟨Fs, o, g, k⟩ := c
  obtain ⟨Fs', o', hp⟩ := own_perm s o
  exact ⟨Fs', o', g, fun G hG => k G (hp.mem_iff.2 hG)⟩
/-- the last ones taken as one -/
theorem Cx.pack {M : List Res} (c : Cx F0 h0 h (L ++ M)) : Cx F0 h0 h (L ++ [rStar M]) := by
  obtain ⟨Fs, o, g, k⟩ := c
  obtain ⟨Fa, Fb, rfl, o1, o2, x⟩ := own_split o
  refine ⟨Fa ++ [fun q => ∃ G ∈ Fb, G q], own_append o1 (.cons ⟨Fb, o2, fun _ => Iff.rfl⟩ (fun _ hG => by cases hG) .nil) fun F hF G hG r hr hG2 => ?_, g, fun G hG r hr => ?_⟩
  · simp only [List.mem_singleton] at hG
    subst hG
    obtain ⟨G, hG, hG2⟩ := hG2
    exact x F hF G hG r hr hG2
  · rcases List.mem_append.1 hG with h1 | h1
    · exact k G (List.mem_append_left _ h1) r hr
    · simp only [List.mem_singleton] at h1
      subst h1
      obtain ⟨G, hG, hr⟩ := hr
      exact k G (List.mem_append_right _ hG) r hr
/-- one resource read as another -/
theorem Cx.conv (c : Cx F0 h0 h L) {i : Nat} (hi : L[i]? = some A) (hc : ∀ F, A.P h F → B.P h F) : Cx F0 h0 h (L.set i B) := by
  obtain ⟨F, a, up⟩ := c.upd hi
  exact up (hc F a) (.refl _ _)
theorem perm_front {α : Type _} : ∀ {l : List α} {i : Nat} {a : α}, l[i]? = some a → l.Perm (a :: l.eraseIdx i)
  | [], i, a, h => by simp at h
  | x :: l, 0, a, h => by simp only [List.getElem?_cons_zero, Option.some.injEq] at h; subst h; exact .refl _
  | x :: l, i + 1, a, h => by
    have := perm_front (l := l) (i := i) (a := a) (by simpa using h)
    exact (this.cons x).trans (.swap ..)
/-- a resource goes to the front -/
theorem Cx.front (c : Cx F0 h0 h L) (i : Nat) (hi : L[i]? = some A) : Cx F0 h0 h (A :: L.eraseIdx i) := c.perm (perm_front hi)
/-- one resource alone -/
theorem Cx.one (c : Cx F0 h0 h L) (i : Nat) (hi : L[i]? = some A) : Cx F0 h0 h [A] := (c.front i hi).drop (L := [A])
theorem perm_set {α : Type _} {b : α} : ∀ {l : List α} {i : Nat} {a : α}, l[i]? = some a → (l ++ [b]).Perm (l.set i b ++ [a])
  | [], i, a, h => by simp at h
  | x :: l, 0, a, h => by
    simp only [List.getElem?_cons_zero, Option.some.injEq] at h
    subst h
    rw [List.set_cons_zero]
    have h1 : (x :: l ++ [b]).Perm (b :: (x :: l)) := List.perm_append_comm (l₁ := x :: l) (l₂ := [b])
    have h2 : (b :: l ++ [x]).Perm (x :: (b :: l)) := List.perm_append_comm (l₁ := b :: l) (l₂ := [x])
    exact h1.trans ((List.Perm.swap ..).trans h2.symm)
  | x :: l, i + 1, a, h => by
    have := perm_set (b := b) (l := l) (i := i) (a := a) (by simpa using h)
    exact this.cons x
/-- the last resource takes the place of another -/
theorem Cx.repl {i : Nat} (c : Cx F0 h0 h (L ++ [B])) (hi : L[i]? = some A) : Cx F0 h0 h (L.set i B) := (c.perm (perm_set hi)).drop
theorem own_pick {Fs : List Fp} (o : Own h L Fs) : ∀ (idx : List Nat), idx.Nodup → ∃ Fs', Own h (idx.filterMap (L[·]?)) Fs' ∧ ∀ G ∈ Fs', ∃ i ∈ idx, Fs[i]? = some G
  | [], _ => ⟨[], .nil, fun G hG => by cases hG⟩
  | i :: idx, hn => by
    obtain ⟨hi, hn⟩ := List.nodup_cons.1 hn
    obtain ⟨Fs', o', hs⟩ := own_pick o idx hn
    rw [List.filterMap_cons]
    cases hA : L[i]? with
    | none => exact ⟨Fs', o', fun G hG => let ⟨j, hj, e⟩ := hs G hG; ⟨j, List.mem_cons_of_mem _ hj, e⟩⟩
    | some A =>
      obtain ⟨F, a, hF, _⟩ := own_get o hA
      refine ⟨F :: Fs', .cons a (fun G hG => ?_) o', fun G hG => ?_⟩
      · obtain ⟨j, hj, e⟩ := hs G hG
        exact Cx.frameE.own_apart o hF e fun e => hi (e ▸ hj)
      · rcases List.mem_cons.1 hG with rfl | hG
        · exact ⟨i, List.mem_cons_self .., hF⟩
        · obtain ⟨j, hj, e⟩ := hs G hG
          exact ⟨j, List.mem_cons_of_mem _ hj, e⟩
/-- some of the resources, in an order of one's own -/
theorem Cx.pick (c : Cx F0 h0 h L) (idx : List Nat) (hn : idx.Nodup := by decide) : Cx F0 h0 h (idx.filterMap (L[·]?)) := by
  obtain ⟨Fs, o, g, k⟩ := c
  obtain ⟨Fs', o', hs⟩ := own_pick o idx hn
  exact ⟨Fs', o', g, fun G hG => let ⟨_, _, e⟩ := hs G hG; k G (List.mem_of_getElem? e)⟩
end
end Go.En
