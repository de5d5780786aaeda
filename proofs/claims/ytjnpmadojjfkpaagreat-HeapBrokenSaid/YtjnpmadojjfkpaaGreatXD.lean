/-
  What one owns: resources, each with the blocks that it stands on; a row of them, apart from each other.
  A space as data; programs over a space; what they come to.
  The methods of a space.
  The methods of a space: Get, Put, Back; a new space.
  Ranges over maps in a context; a new space; the steps as programs.
  Layer 31: the pool.
  Layer 31: the pool: allocation and release as programs.
  A range over a function, in a context.
  Programs over a space that knows its words: memory. No program text in sight.
  Programs over a space with arbitrary words: what is read, and that an error undoes.
-/
import Derived.Test.YtjnpmadojjfkpaaGreatXC
import Derived.Test.YtjnpmadojjfkpaaGreatXT
namespace Go.En

abbrev Fp := Nat → Prop
/-- a step that turns what stands on F; behind it that stands on F' -/
structure Mv (F : Fp) (h : Hp) (F' : Fp) (h' : Hp) : Prop where
  ch : Ch F h h'
  grow : ∀ r, F' r → F r ∨ h.size ≤ r
theorem Mv.refl (F : Fp) (h : Hp) : Mv F h F h := ⟨.refl _ _, fun _ e => .inl e⟩
theorem Mv.trans {F F' F'' : Fp} {a b c : Hp} (x : Mv F a F' b) (y : Mv F' b F'' c) : Mv F a F'' c := by
  refine ⟨⟨Nat.le_trans x.ch.size y.ch.size, fun r hr hn => ?_⟩, fun r hr => ?_⟩
  · rw [y.ch.same r (Nat.lt_of_lt_of_le hr x.ch.size) (fun e => (x.grow r e).elim hn (fun g => by omega)), x.ch.same r hr hn]
  · rcases y.grow r hr with h | h
    · exact x.grow r h
    · exact .inr (Nat.le_trans x.ch.size h)

structure Res where
  P : Hp → Fp → Prop
  lt : ∀ {h F}, P h F → ∀ r, F r → r < h.size
  loc : ∀ {h h' F D}, P h F → Ch D h h' → (∀ r, F r → ¬ D r) → P h' F

/-- resources at hand, each with its blocks -/
inductive Own (h : Hp) : List Res → List Fp → Prop where
  | nil : Own h [] []
  | cons {A : Res} {F : Fp} {L : List Res} {Fs : List Fp} : A.P h F → (∀ G ∈ Fs, ∀ r, F r → ¬ G r) → Own h L Fs → Own h (A :: L) (F :: Fs)
theorem Own.lt {h : Hp} {L : List Res} {Fs : List Fp} (o : Own h L Fs) : ∀ G ∈ Fs, ∀ r, G r → r < h.size := by
  induction o with
  | nil => intro G hG; cases hG
  | cons a _ _ ih =>
    intro G hG
    rcases List.mem_cons.1 hG with rfl | hG
    · exact Res.lt _ a
    · exact ih G hG
theorem Own.loc {h h' : Hp} {D : Fp} {L : List Res} {Fs : List Fp} (o : Own h L Fs) (c : Ch D h h') (hd : ∀ G ∈ Fs, ∀ r, G r → ¬ D r) : Own h' L Fs := by
  induction o with
  | nil => exact .nil
  | cons a d _ ih => exact .cons (Res.loc _ a c (hd _ (List.mem_cons_self ..))) d (ih fun G hG => hd G (List.mem_cons_of_mem _ hG))

/-- resources at hand; whatever stood at h0 outside F0 is as it was -/
def Cx (F0 : Fp) (h0 h : Hp) (L : List Res) : Prop := ∃ Fs, Own h L Fs ∧ Ch F0 h0 h ∧ ∀ G ∈ Fs, ∀ r, G r → F0 r ∨ h0.size ≤ r

section
variable {F0 : Fp} {h0 h h' : Hp} {L : List Res} {A B : Res}
theorem Cx.gr (c : Cx F0 h0 h L) : Ch F0 h0 h := let ⟨_, _, g, _⟩ := c; g
theorem Cx.start {F : Fp} (a : A.P h F) : Cx F h h [A] := ⟨[F], .cons a (fun _ hG => by cases hG) .nil, .refl _ _, fun G hG r hr => by
  rcases List.mem_cons.1 hG with rfl | hG
  · exact .inl hr
  · cases hG⟩
theorem Cx.start0 (h : Hp) : Cx (fun _ => False) h h [] := ⟨[], .nil, .refl _ _, fun G hG => by cases hG⟩

theorem own_get : ∀ {L : List Res} {Fs : List Fp} {i : Nat} {A : Res}, Own h L Fs → L[i]? = some A → ∃ F, A.P h F ∧ Fs[i]? = some F ∧ ∀ {h' : Hp} {F' : Fp} {B : Res}, B.P h' F' → Mv F h F' h' → Own h' (L.set i B) (Fs.set i F')
  | _, _, i, A, .nil, hi => by simp at hi
  | _, _, 0, A, .cons (F := F) a d o, hi => by
    simp only [List.getElem?_cons_zero, Option.some.injEq] at hi
    subst hi
    refine ⟨F, a, rfl, fun {h' F' B} b m => ?_⟩
    refine .cons b (fun G hG r hr hG2 => ?_) (o.loc m.ch fun G hG r hr hF => d G hG r hF hr)
    rcases m.grow r hr with h | h
    · exact d G hG r h hG2
    · have := o.lt G hG r hG2; omega
  | _, _, i + 1, A, .cons (F := F0) (A := A0) a d o, hi => by
    obtain ⟨F, p, hF, f⟩ := own_get o (by simpa using hi)
    refine ⟨F, p, by simpa using hF, fun {h' F' B} b m => ?_⟩
    have hdis : ∀ r, F0 r → ¬ F r := d F (List.mem_of_getElem? hF)
    refine .cons (A0.loc a m.ch hdis) (fun G hG r hr hG2 => ?_) (f b m)
    rcases List.mem_or_eq_of_mem_set hG with h | h
    · exact d G h r hr hG2
    · subst h
      rcases m.grow r hG2 with h | h
      · exact hdis r hr h
      · have := A0.lt a r hr; omega

/-- one resource is looked at, and turned -/
theorem Cx.upd (c : Cx F0 h0 h L) {i : Nat} (hi : L[i]? = some A) : ∃ F, A.P h F ∧ ∀ {h' : Hp} {F' : Fp} {B : Res}, B.P h' F' → Mv F h F' h' → Cx F0 h0 h' (L.set i B) := by
  obtain ⟨Fs, o, g, k⟩ := c
  obtain ⟨F, p, hF, f⟩ := own_get o hi
  refine ⟨F, p, fun {h' F' B} b m => ⟨_, f b m, ?_, fun G hG r hr => ?_⟩⟩
  · have kF := k F (List.mem_of_getElem? hF)
    refine ⟨Nat.le_trans g.size m.ch.size, fun r hr hn => ?_⟩
    rw [m.ch.same r (Nat.lt_of_lt_of_le hr g.size) (fun e => (kF r e).elim hn (fun x => by omega)), g.same r hr hn]
  · rcases List.mem_or_eq_of_mem_set hG with h | h
    · exact k G h r hr
    · subst h
      rcases m.grow r hr with h | h
      · exact k F (List.mem_of_getElem? hF) r h
      · exact .inr (Nat.le_trans g.size h)
theorem Cx.get (c : Cx F0 h0 h L) {i : Nat} (hi : L[i]? = some A) : ∃ F, A.P h F := let ⟨F, p, _⟩ := c.upd hi; ⟨F, p⟩

theorem own_app : ∀ {L : List Res} {Fs : List Fp} {F' : Fp} {h h' : Hp} {B : Res}, Own h L Fs → B.P h' F' → Gr h h' → (∀ r, F' r → h.size ≤ r) → Own h' (L ++ [B]) (Fs ++ [F'])
  | _, _, _, _, _, B, .nil, b, g, n => .cons b (fun G hG => by cases hG) .nil
  | _, _, F', h, h', B, .cons (A := A0) a d o, b, g, n => by
    refine .cons (A0.loc a g fun _ _ e => e) (fun G hG r hr hG2 => ?_) (own_app o b g n)
    rcases List.mem_append.1 hG with h | h
    · exact d G h r hr hG2
    · simp only [List.mem_singleton] at h
      subst h
      have := n r hG2
      have := A0.lt a r hr
      omega
/-- a new resource -/
theorem Cx.add (c : Cx F0 h0 h L) {F' : Fp} (b : B.P h' F') (g : Gr h h') (n : ∀ r, F' r → h.size ≤ r) : Cx F0 h0 h' (L ++ [B]) := by
  obtain ⟨Fs, o, g0, k⟩ := c
  refine ⟨_, own_app o b g n, ⟨Nat.le_trans g0.size g.size, fun r hr hn => by rw [g.same r (Nat.lt_of_lt_of_le hr g0.size) (fun e => e), g0.same r hr hn]⟩, fun G hG r hr => ?_⟩
  rcases List.mem_append.1 hG with h | h
  · exact k G h r hr
  · simp only [List.mem_singleton] at h
    subst h
    exact .inr (Nat.le_trans g0.size (n r hr))
/-- a step that only adds -/
theorem Cx.more (c : Cx F0 h0 h L) (g : Gr h h') : Cx F0 h0 h' L := by
  obtain ⟨Fs, o, g0, k⟩ := c
  exact ⟨Fs, o.loc g fun _ _ _ _ e => e, ⟨Nat.le_trans g0.size g.size, fun r hr hn => by rw [g.same r (Nat.lt_of_lt_of_le hr g0.size) (fun e => e), g0.same r hr hn]⟩, k⟩
theorem own_drop : ∀ {L L' : List Res} {Fs : List Fp}, Own h (L ++ L') Fs → ∃ Fs', Own h L Fs' ∧ ∀ G ∈ Fs', G ∈ Fs
  | [], L', Fs, _ => ⟨[], .nil, fun G hG => by cases hG⟩
  | A :: L, L', _, .cons a d o => by
    obtain ⟨Fs', o', hs⟩ := own_drop (L := L) o
    exact ⟨_, .cons a (fun G hG => d G (hs G hG)) o', fun G hG => by
      rcases List.mem_cons.1 hG with rfl | hG
      · exact List.mem_cons_self ..
      · exact List.mem_cons_of_mem _ (hs G hG)⟩
theorem Cx.drop {L' : List Res} (c : Cx F0 h0 h (L ++ L')) : Cx F0 h0 h L := by
  obtain ⟨Fs, o, g, k⟩ := c
  obtain ⟨Fs', o', hs⟩ := own_drop o
  exact ⟨Fs', o', g, fun G hG => k G (hs G hG)⟩
theorem own_sub : ∀ {L L' : List Res} {Fs : List Fp}, L'.Sublist L → Own h L Fs → ∃ Fs', Own h L' Fs' ∧ ∀ G ∈ Fs', G ∈ Fs
  | _, _, _, .slnil, _ => ⟨[], .nil, fun G hG => by cases hG⟩
  | _, _, _, .cons _ s, .cons a d o => by
    obtain ⟨Fs', o', hs⟩ := own_sub s o
    exact ⟨Fs', o', fun G hG => List.mem_cons_of_mem _ (hs G hG)⟩
  | _, _, _, .cons_cons _ s, .cons a d o => by
    obtain ⟨Fs', o', hs⟩ := own_sub s o
    exact ⟨_, .cons a (fun G hG => d G (hs G hG)) o', fun G hG => by
      rcases List.mem_cons.1 hG with rfl | hG
      · exact List.mem_cons_self ..
      · exact List.mem_cons_of_mem _ (hs G hG)⟩
/-- some of the resources -/
theorem Cx.sub {L' : List Res} (c : Cx F0 h0 h L) (s : L'.Sublist L) : Cx F0 h0 h L' := by
  obtain ⟨Fs, o, g, k⟩ := c
  obtain ⟨Fs', o', hs⟩ := own_sub s o
  exact ⟨Fs', o', g, fun G hG => k G (hs G hG)⟩
/-- what a caller gets back: the first resource -/
theorem Cx.fin {F : Fp} (c : Cx F h0 h (A :: L)) : ∃ F', A.P h F' ∧ Mv F h0 F' h := by
  obtain ⟨Fs, o, g, k⟩ := c
  cases o with
  | cons a d o => exact ⟨_, a, g, fun r hr => k _ (List.mem_cons_self ..) r hr⟩
/-- two resources are apart -/
theorem own_two : ∀ {L : List Res} {Fs : List Fp} {i j : Nat} {A B : Res}, Own h L Fs → L[i]? = some A → L[j]? = some B → i ≠ j → ∃ F G, A.P h F ∧ B.P h G ∧ ∀ r, F r → ¬ G r
  | _, _, i, _, _, _, .nil, hi, _, _ => by simp at hi
  | _, _, 0, 0, _, _, .cons .., _, _, hn => absurd rfl hn
  | _, _, 0, j + 1, A, B, .cons a d o, hi, hj, hn => by
    simp only [List.getElem?_cons_zero, Option.some.injEq] at hi
    subst hi
    obtain ⟨G, b, hG, _⟩ := own_get o (by simpa using hj)
    exact ⟨_, _, a, b, d G (List.mem_of_getElem? hG)⟩
  | _, _, i + 1, 0, A, B, .cons a d o, hi, hj, hn => by
    simp only [List.getElem?_cons_zero, Option.some.injEq] at hj
    subst hj
    obtain ⟨G, b, hG, _⟩ := own_get o (by simpa using hi)
    exact ⟨_, _, b, a, fun r h1 h2 => d G (List.mem_of_getElem? hG) r h2 h1⟩
  | _, _, i + 1, j + 1, A, B, .cons a d o, hi, hj, hn => own_two o (by simpa using hi) (by simpa using hj) (by omega)
theorem Cx.two {i j : Nat} (c : Cx F0 h0 h L) (hi : L[i]? = some A) (hj : L[j]? = some B) (hn : i ≠ j) : ∃ F G, A.P h F ∧ B.P h G ∧ ∀ r, F r → ¬ G r := by
  obtain ⟨Fs, o, g, k⟩ := c
  exact own_two o hi hj hn
end

/-! ### The kinds of resources -/
/-- a variable at the block r -/
def rVar {α : Type} (E : Enc α) (r : Nat) (x : α) : Res where
  P := fun h F => Va E h r x ∧ ∀ q, F q ↔ q = r
  lt := fun ⟨v, hf⟩ q hq => by rw [hf] at hq; subst hq; exact v.lt
  loc := fun ⟨v, hf⟩ c hd => ⟨v.ch c (hd r ((hf r).2 rfl)), hf⟩
/-- a slice of one's own -/
def rSl {α : Type} (E : Enc α) (v : Value) (xs : List α) : Res where
  P := fun h F => Ow E h v xs ∧ ∀ q, F q ↔ blk v = some q
  lt := fun ⟨o, hf⟩ q hq => by rw [hf] at hq; exact o.lt hq
  loc := fun ⟨o, hf⟩ c hd => ⟨o.ch c fun r hr => hd r ((hf r).2 hr), hf⟩
/-- a map with whole-number keys -/
def rMp {α : Type} (ik : IntKind) (E : α → Value) (v : Value) (ps : List (Int × α)) : Res where
  P := fun h F => Mp ik E h v ps ∧ ∀ q, F q ↔ mblk v = some q
  lt := fun ⟨o, hf⟩ q hq => by rw [hf] at hq; exact o.lt hq
  loc := fun ⟨o, hf⟩ c hd => ⟨o.ch c fun r hr => hd r ((hf r).2 hr), hf⟩

section
variable {F0 : Fp} {h0 h h' : Hp} {L : List Res}
/-- a new variable -/
theorem Cx.nw {α : Type} (E : Enc α) (x : α) (c : Cx F0 h0 h L) {cs : Array Value} {e : TypeId} (hc : cs.toList = E.c x) {k : Value → Hp → Prop}
    (hk : ∀ r h', Cx F0 h0 h' (L ++ [rVar E r x]) → k (at0 r) h') : Eb (En.nw cs e h) k :=
  eb rfl (hk h.size _ (c.add (F' := fun q => q = h.size) ⟨Va.new hc, fun _ => Iff.rfl⟩ (Ch.push _ _) fun r e => by omega))
theorem Cx.va {α : Type} {E : Enc α} {r i : Nat} {x : α} (c : Cx F0 h0 h L) (hi : L[i]? = some (rVar E r x)) : Va E h r x := let ⟨_, p, _⟩ := c.get hi; p
theorem Cx.sl {α : Type} {E : Enc α} {v : Value} {i : Nat} {xs : List α} (c : Cx F0 h0 h L) (hi : L[i]? = some (rSl E v xs)) : Ow E h v xs := let ⟨_, p, _⟩ := c.get hi; p
theorem Cx.mp {α : Type} {ik : IntKind} {E : α → Value} {v : Value} {i : Nat} {ps : List (Int × α)} (c : Cx F0 h0 h L) (hi : L[i]? = some (rMp ik E v ps)) : Mp ik E h v ps := let ⟨_, p, _⟩ := c.get hi; p
theorem mv_same {F : Fp} {a b : Hp} (c : Ch F a b) : Mv F a F b := ⟨c, fun _ e => .inl e⟩
/-- a variable is set -/
theorem Cx.sto {α : Type} {E : Enc α} {r : Nat} {x : α} (c : Cx F0 h0 h L) (i : Nat) (hi : L[i]? = some (rVar E r x)) (y : α) {n : Nat} (hn : n = E.n) {w : Value} (hw : w = .agg ⟨E.c y⟩) {k : Hp → Prop}
    (hk : ∀ h', Cx F0 h0 h' (L.set i (rVar E r y)) → k h') : Sb (En.sto n (at0 r) w h) k := by
  obtain ⟨F, ⟨v, hf⟩, f⟩ := c.upd hi
  exact v.sto y hn hw fun h' v' ch => hk h' (f (F' := F) ⟨v', hf⟩ (mv_same (ch.mono fun q _ e => (hf q).2 e)))
theorem Cx.sto1 {α : Type} {E : Enc α} {r : Nat} {x : α} (c : Cx F0 h0 h L) (i : Nat) (hi : L[i]? = some (rVar E r x)) (y : α) (hn : E.n = 1) {w : Value} (hw : E.c y = [w]) {k : Hp → Prop}
    (hk : ∀ h', Cx F0 h0 h' (L.set i (rVar E r y)) → k h') : Sb (En.sto 1 (at0 r) w h) k := by
  obtain ⟨F, ⟨v, hf⟩, f⟩ := c.upd hi
  exact v.sto1 y hn hw fun h' v' ch => hk h' (f (F' := F) ⟨v', hf⟩ (mv_same (ch.mono fun q _ e => (hf q).2 e)))
/-- what is not in a list of its own -/
theorem Cx.old (c : Cx (fun _ => False) h0 h L) : Gr h0 h := c.gr
end

/-! ### Frames -/
section
variable {F0 : Fp} {h0 h h' : Hp} {L : List Res} {A B : Res}
theorem own_loc_ge : ∀ {L : List Res} {Fs : List Fp} {h h' : Hp} {D : Fp}, Own h L Fs → Ch D h h' → (∀ G ∈ Fs, ∀ r, G r → ¬ D r) → Own h' L Fs
  | _, _, _, _, _, o, c, d => o.loc c d
theorem own_append : ∀ {L M : List Res} {Fs Gs : List Fp}, Own h L Fs → Own h M Gs → (∀ F ∈ Fs, ∀ G ∈ Gs, ∀ r, F r → ¬ G r) → Own h (L ++ M) (Fs ++ Gs)
  | _, _, _, _, .nil, o, _ => o
  | _, _, _, _, .cons a d o', o, x => by
    refine .cons a (fun G hG r hr hG2 => ?_) (own_append o' o fun F hF G hG => x F (List.mem_cons_of_mem _ hF) G hG)
    rcases List.mem_append.1 hG with h | h
    · exact d G h r hr hG2
    · exact x _ (List.mem_cons_self ..) G h r hr hG2
theorem own_split : ∀ {L M : List Res} {Fs : List Fp}, Own h (L ++ M) Fs → ∃ Fa Fb, Fs = Fa ++ Fb ∧ Own h L Fa ∧ Own h M Fb ∧ ∀ F ∈ Fa, ∀ G ∈ Fb, ∀ r, F r → ¬ G r
  | [], M, Fs, o => ⟨[], Fs, rfl, .nil, o, fun F hF => by cases hF⟩
  | A :: L, M, _, .cons a d o => by
    obtain ⟨Fa, Fb, rfl, o1, o2, x⟩ := own_split (L := L) o
    refine ⟨_ :: Fa, Fb, rfl, .cons a (fun G hG => d G (List.mem_append_left _ hG)) o1, o2, fun F hF G hG => ?_⟩
    rcases List.mem_cons.1 hF with rfl | hF
    · exact d G (List.mem_append_right _ hG)
    · exact x F hF G hG
theorem own_set : ∀ {L : List Res} {Fs : List Fp} {i : Nat} {A B : Res} {F F' : Fp}, Own h L Fs → L[i]? = some A → Fs[i]? = some F → B.P h F' → (∀ j G, j ≠ i → Fs[j]? = some G → ∀ r, F' r → ¬ G r) → Own h (L.set i B) (Fs.set i F')
  | _, _, _, _, _, _, _, .nil, hi, _, _, _ => by simp at hi
  | _, _, 0, _, _, _, _, .cons a d o, hi, hF, b, x => by
    refine .cons b (fun G hG r hr => ?_) o
    obtain ⟨j, hj, rfl⟩ := List.mem_iff_getElem.1 hG
    exact x (j + 1) _ (by omega) (by simp [List.getElem?_eq_getElem hj]) r hr
  | _, _, i + 1, _, _, _, _, .cons (F := F0) a d o, hi, hF, b, x => by
    refine .cons a (fun G hG r hr hG2 => ?_) (own_set o (by simpa using hi) (by simpa using hF) b fun j G hj hG => x (j + 1) G (by omega) (by simpa using hG))
    rcases List.mem_or_eq_of_mem_set hG with h | h
    · exact d G h r hr hG2
    · subst h; exact x 0 F0 (by omega) (by simp) r hG2 hr

/-- a call that works on one of the resources: seen alone, then put back -/
theorem Cx.frameE (c : Cx F0 h0 h L) {i : Nat} (hi : L[i]? = some A) : ∃ F, Cx F h h [A] ∧ (∀ r, F r → F0 r ∨ h0.size ≤ r) ∧ (∀ (j : Nat) (B : Res), i ≠ j → L[j]? = some B → ∃ G, B.P h G ∧ ∀ r, F r → ¬ G r) ∧ ∀ {h' : Hp} {A' : Res} {M : List Res}, Cx F h h' (A' :: M) → Cx F0 h0 h' (L.set i A' ++ M) := by
  obtain ⟨Fs, o, g, k⟩ := c
  obtain ⟨F, a, hF, f⟩ := own_get o hi
  have hmF := List.mem_of_getElem? hF
  refine ⟨F, Cx.start a, k F hmF, fun j B hij hj => ?_, fun {h' A' M} c' => ?_⟩
  · obtain ⟨G, b, hG, _⟩ := own_get o hj
    exact ⟨G, b, own_apart o hF hG hij⟩
  obtain ⟨Gs, o', g', k'⟩ := c'
  cases o' with
  | cons a' d' o' =>
    rename_i F' Gs
    have hgrow : ∀ r, F' r → F r ∨ h.size ≤ r := fun r hr => k' F' (List.mem_cons_self ..) r hr
    have o1 := f a' ⟨g', hgrow⟩
    have hlt := o.lt
    refine ⟨_, own_append o1 o' fun X hX G hG r hr hG2 => ?_, ?_, fun G hG r hr => ?_⟩
    · rcases k' G (List.mem_cons_of_mem _ hG) r hG2 with h1 | h1
      · -- G stands on what A stood on
        rcases List.mem_or_eq_of_mem_set hX with h2 | h2
        · -- another resource, or the same
          obtain ⟨j, hj, rfl⟩ := List.mem_iff_getElem.1 hX
          rw [List.getElem_set] at hr
          split at hr
          · exact d' G hG r hr hG2
          · rename_i hne
            have hj' : j < Fs.length := by simpa using hj
            exact own_apart o hF (List.getElem?_eq_getElem hj') hne r h1 hr
        · subst h2; exact d' G hG r hr hG2
      · rcases List.mem_or_eq_of_mem_set hX with h2 | h2
        · have := hlt X h2 r hr; omega
        · subst h2; exact d' G hG r hr hG2
    · refine ⟨Nat.le_trans g.size g'.size, fun r hr hn => ?_⟩
      rw [g'.same r (Nat.lt_of_lt_of_le hr g.size) (fun e => (k F hmF r e).elim hn (fun x => by omega)), g.same r hr hn]
    · have fin : F r ∨ h.size ≤ r → F0 r ∨ h0.size ≤ r := fun e => e.elim (k F hmF r) fun e => .inr (Nat.le_trans g.size e)
      rcases List.mem_append.1 hG with h1 | h1
      · rcases List.mem_or_eq_of_mem_set h1 with h2 | h2
        · exact k G h2 r hr
        · subst h2; exact fin (hgrow r hr)
      · exact fin (k' G (List.mem_cons_of_mem _ h1) r hr)
where
  own_apart : ∀ {L : List Res} {Fs : List Fp} {h : Hp} {i j : Nat} {F G : Fp}, Own h L Fs → Fs[i]? = some F → Fs[j]? = some G → i ≠ j → ∀ r, F r → ¬ G r
    | _, _, _, i, _, _, _, .nil, hi, _, _ => by simp at hi
    | _, _, _, 0, 0, _, _, .cons .., _, _, hn => absurd rfl hn
    | _, _, _, 0, j + 1, F, G, .cons a d o, hi, hj, hn => by
      simp only [List.getElem?_cons_zero, Option.some.injEq] at hi
      subst hi
      exact d G (List.mem_of_getElem? (by simpa using hj))
    | _, _, _, i + 1, 0, F, G, .cons a d o, hi, hj, hn => by
      simp only [List.getElem?_cons_zero, Option.some.injEq] at hj
      subst hj
      exact fun r h1 h2 => d F (List.mem_of_getElem? (by simpa using hi)) r h2 h1
    | _, _, _, i + 1, j + 1, F, G, .cons a d o, hi, hj, hn => own_apart o (by simpa using hi) (by simpa using hj) (by omega)
theorem Cx.frameD (c : Cx F0 h0 h L) {i : Nat} (hi : L[i]? = some A) : ∃ F, Cx F h h [A] ∧ (∀ (j : Nat) (B : Res), i ≠ j → L[j]? = some B → ∃ G, B.P h G ∧ ∀ r, F r → ¬ G r) ∧ ∀ {h' : Hp} {A' : Res} {M : List Res}, Cx F h h' (A' :: M) → Cx F0 h0 h' (L.set i A' ++ M) :=
  let ⟨F, c1, _, hd, up⟩ := c.frameE hi
  ⟨F, c1, hd, up⟩
theorem Cx.frame (c : Cx F0 h0 h L) {i : Nat} (hi : L[i]? = some A) : ∃ F, Cx F h h [A] ∧ ∀ {h' : Hp} {A' : Res} {M : List Res}, Cx F h h' (A' :: M) → Cx F0 h0 h' (L.set i A' ++ M) :=
  let ⟨F, c1, _, up⟩ := c.frameD hi
  ⟨F, c1, up⟩
/-- a call that works on none -/
theorem Cx.frame0 (c : Cx F0 h0 h L) {M : List Res} (c' : Cx (fun _ => False) h h' M) : Cx F0 h0 h' (L ++ M) := by
  obtain ⟨Fs, o, g, k⟩ := c
  obtain ⟨Gs, o', g', k'⟩ := c'
  refine ⟨_, own_append (o.loc g' fun _ _ _ _ e => e) o' fun X hX G hG r hr hG2 => ?_, ?_, fun G hG r hr => ?_⟩
  · have := o.lt X hX r hr
    rcases k' G hG r hG2 with h1 | h1
    · exact h1
    · omega
  · exact ⟨Nat.le_trans g.size g'.size, fun r hr hn => by rw [g'.same r (Nat.lt_of_lt_of_le hr g.size) (fun e => e), g.same r hr hn]⟩
  · rcases List.mem_append.1 hG with h1 | h1
    · exact k G h1 r hr
    · rcases k' G h1 r hr with h2 | h2
      · exact h2.elim
      · exact .inr (Nat.le_trans g.size h2)

/-- several resources taken as one -/
def rStar (L : List Res) : Res where
  P := fun h F => ∃ Fs, Own h L Fs ∧ ∀ q, F q ↔ ∃ G ∈ Fs, G q
  lt := fun ⟨Fs, o, hf⟩ q hq => by
    obtain ⟨G, hG, hq⟩ := (hf q).1 hq
    exact o.lt G hG q hq
  loc := fun ⟨Fs, o, hf⟩ c hd => ⟨Fs, o.loc c fun G hG r hr => hd r ((hf r).2 ⟨G, hG, hr⟩), hf⟩
/-- a resource out of several that are alike -/
def rEx {β : Type} (f : β → Res) : Res where
  P := fun h F => ∃ b, (f b).P h F
  lt := fun ⟨b, p⟩ => (f b).lt p
  loc := fun ⟨b, p⟩ c hd => ⟨b, (f b).loc p c hd⟩
/-- a resource with a condition -/
def rIf (p : Prop) (A : Res) : Res where
  P := fun h F => p ∧ A.P h F
  lt := fun ⟨_, a⟩ => A.lt a
  loc := fun ⟨q, a⟩ c hd => ⟨q, A.loc a c hd⟩
theorem Cx.star {F : Fp} (a : (rStar L).P h F) : Cx F h h L := by
  obtain ⟨Fs, o, hf⟩ := a
  exact ⟨Fs, o, .refl _ _, fun G hG r hr => .inl ((hf r).2 ⟨G, hG, hr⟩)⟩
theorem Cx.unstar {F : Fp} (c : Cx F h0 h L) : ∃ F', (rStar L).P h F' ∧ Mv F h0 F' h := by
  obtain ⟨Fs, o, g, k⟩ := c
  exact ⟨fun q => ∃ G ∈ Fs, G q, ⟨Fs, o, fun _ => Iff.rfl⟩, g, fun r ⟨G, hG, hr⟩ => k G hG r hr⟩
theorem Cx.mk1 {F F' : Fp} (a : A.P h F') (m : Mv F h0 F' h) : Cx F h0 h [A] := ⟨[F'], .cons a (fun _ hG => by cases hG) .nil, m.ch, fun G hG r hr => by
  rcases List.mem_cons.1 hG with rfl | hG
  · exact m.grow r hr
  · cases hG⟩
theorem own_perm {L L' : List Res} (s : L.Perm L') : ∀ {Fs : List Fp}, Own h L Fs → ∃ Fs', Own h L' Fs' ∧ Fs.Perm Fs' := by
  induction s with
  | nil => intro Fs o; exact ⟨Fs, o, .refl _⟩
  | cons A _ ih =>
    intro Fs o
    cases o with
    | cons a d o =>
      obtain ⟨Fs', o', hp⟩ := ih o
      exact ⟨_, .cons a (fun G hG => d G (hp.mem_iff.2 hG)) o', hp.cons _⟩
  | swap A B l =>
    intro Fs o
    cases o with
    | cons a d o =>
      cases o with
      | cons b e o =>
        exact ⟨_, .cons b (fun G hG r h1 h2 => by
          rcases List.mem_cons.1 hG with rfl | hG
          · exact d _ (List.mem_cons_self ..) r h2 h1
          · exact e G hG r h1 h2) (.cons a (fun G hG => d G (List.mem_cons_of_mem _ hG)) o), .swap ..⟩
  | trans _ _ ih1 ih2 =>
    intro Fs o
    obtain ⟨F1, o1, p1⟩ := ih1 o
    obtain ⟨F2, o2, p2⟩ := ih2 o1
    exact ⟨F2, o2, p1.trans p2⟩
theorem Cx.perm {L' : List Res} (c : Cx F0 h0 h L) (s : L.Perm L') : Cx F0 h0 h L' := by
  obtain ⟨Fs, o, g, k⟩ := c
  obtain ⟨Fs', o', hp⟩ := own_perm s o
  exact ⟨Fs', o', g, fun G hG => k G (hp.mem_iff.2 hG)⟩
/-- the last ones taken as one -/
theorem Cx.pack {M : List Res} (c : Cx F0 h0 h (L ++ M)) : Cx F0 h0 h (L ++ [rStar M]) := by
  obtain ⟨Fs, o, g, k⟩ := c
  obtain ⟨Fa, Fb, rfl, o1, o2, x⟩ := own_split o
  refine ⟨Fa ++ [fun q => ∃ G ∈ Fb, G q], own_append o1 (.cons ⟨Fb, o2, fun _ => Iff.rfl⟩ (fun _ hG => by cases hG) .nil) fun F hF G hG r hr hG2 => ?_, g, fun G hG r hr => ?_⟩
  · simp only [List.mem_singleton] at hG
    subst hG
    obtain ⟨G, hG, hG2⟩ := hG2
    exact x F hF G hG r hr hG2
  · rcases List.mem_append.1 hG with h1 | h1
    · exact k G (List.mem_append_left _ h1) r hr
    · simp only [List.mem_singleton] at h1
      subst h1
      obtain ⟨G, hG, hr⟩ := hr
      exact k G (List.mem_append_right _ hG) r hr
/-- one resource read as another -/
theorem Cx.conv (c : Cx F0 h0 h L) {i : Nat} (hi : L[i]? = some A) (hc : ∀ F, A.P h F → B.P h F) : Cx F0 h0 h (L.set i B) := by
  obtain ⟨F, a, up⟩ := c.upd hi
  exact up (hc F a) (.refl _ _)
theorem perm_front {α : Type _} : ∀ {l : List α} {i : Nat} {a : α}, l[i]? = some a → l.Perm (a :: l.eraseIdx i)
  | [], i, a, h => by simp at h
  | x :: l, 0, a, h => by simp only [List.getElem?_cons_zero, Option.some.injEq] at h; subst h; exact .refl _
  | x :: l, i + 1, a, h => by
    have := perm_front (l := l) (i := i) (a := a) (by simpa using h)
    exact (this.cons x).trans (.swap ..)
/-- a resource goes to the front -/
theorem Cx.front (c : Cx F0 h0 h L) (i : Nat) (hi : L[i]? = some A) : Cx F0 h0 h (A :: L.eraseIdx i) := c.perm (perm_front hi)
/-- one resource alone -/
theorem Cx.one (c : Cx F0 h0 h L) (i : Nat) (hi : L[i]? = some A) : Cx F0 h0 h [A] := (c.front i hi).drop (L := [A])
theorem perm_set {α : Type _} {b : α} : ∀ {l : List α} {i : Nat} {a : α}, l[i]? = some a → (l ++ [b]).Perm (l.set i b ++ [a])
  | [], i, a, h => by simp at h
  | x :: l, 0, a, h => by
    simp only [List.getElem?_cons_zero, Option.some.injEq] at h
    subst h
    rw [List.set_cons_zero]
    have h1 : (x :: l ++ [b]).Perm (b :: (x :: l)) := List.perm_append_comm (l₁ := x :: l) (l₂ := [b])
    have h2 : (b :: l ++ [x]).Perm (x :: (b :: l)) := List.perm_append_comm (l₁ := b :: l) (l₂ := [x])
    exact h1.trans ((List.Perm.swap ..).trans h2.symm)
  | x :: l, i + 1, a, h => by
    have := perm_set (b := b) (l := l) (i := i) (a := a) (by simpa using h)
    exact this.cons x
/-- the last resource takes the place of another -/
theorem Cx.repl {i : Nat} (c : Cx F0 h0 h (L ++ [B])) (hi : L[i]? = some A) : Cx F0 h0 h (L.set i B) := (c.perm (perm_set hi)).drop
theorem own_pick {Fs : List Fp} (o : Own h L Fs) : ∀ (idx : List Nat), idx.Nodup → ∃ Fs', Own h (idx.filterMap (L[·]?)) Fs' ∧ ∀ G ∈ Fs', ∃ i ∈ idx, Fs[i]? = some G
  | [], _ => ⟨[], .nil, fun G hG => by cases hG⟩
  | i :: idx, hn => by
    obtain ⟨hi, hn⟩ := List.nodup_cons.1 hn
    obtain ⟨Fs', o', hs⟩ := own_pick o idx hn
    rw [List.filterMap_cons]
    cases hA : L[i]? with
    | none => exact ⟨Fs', o', fun G hG => let ⟨j, hj, e⟩ := hs G hG; ⟨j, List.mem_cons_of_mem _ hj, e⟩⟩
    | some A =>
      obtain ⟨F, a, hF, _⟩ := own_get o hA
      refine ⟨F :: Fs', .cons a (fun G hG => ?_) o', fun G hG => ?_⟩
      · obtain ⟨j, hj, e⟩ := hs G hG
        exact Cx.frameE.own_apart o hF e fun e => hi (e ▸ hj)
      · rcases List.mem_cons.1 hG with rfl | hG
        · exact ⟨i, List.mem_cons_self .., hF⟩
        · obtain ⟨j, hj, e⟩ := hs G hG
          exact ⟨j, List.mem_cons_of_mem _ hj, e⟩
/-- some of the resources, in an order of one's own -/
theorem Cx.pick (c : Cx F0 h0 h L) (idx : List Nat) (hn : idx.Nodup := by decide) : Cx F0 h0 h (idx.filterMap (L[·]?)) := by
  obtain ⟨Fs, o, g, k⟩ := c
  obtain ⟨Fs', o', hs⟩ := own_pick o idx hn
  exact ⟨Fs', o', g, fun G hG => let ⟨_, _, e⟩ := hs G hG; k G (List.mem_of_getElem? e)⟩
end
end Go.En
namespace Go.En

abbrev R64 (z : Int) : Prop := -9223372036854775808 ≤ z ∧ z ≤ 9223372036854775807
def w64 (z : Int) : Int := IntKind.i64.wrap z
theorem w64_in (z : Int) : R64 (w64 z) := by unfold w64; rw [IntKind.wrap_i64]; omega
theorem w64_eq {z : Int} (h : R64 z) : w64 z = z := wr64 h
theorem bin_addw (a b : Int) : bin .add (.int .i64 a) (.int .i64 b) = some (.int .i64 (w64 (a + b))) := bin_add
theorem bin_subw (a b : Int) : bin .sub (.int .i64 a) (.int .i64 b) = some (.int .i64 (w64 (a - b))) := bin_sub

structure W3 where
  v : Int
  ver : Int
  ref : Int
def EW : Enc W3 := { n := 3, c := fun w => [.int .i64 w.v, .int .u32 w.ver, .int .u32 w.ref], len := fun _ => rfl, one := fun a v h => by simp only [List.mem_cons, List.not_mem_nil, or_false] at h; rcases h with rfl | rfl | rfl <;> rfl }
def mW (w : W3) : Value := .agg #[.int .i64 w.v, .int .u32 w.ver, .int .u32 w.ref]
def mB (b : Bool) : Value := .bool b
abbrev W0 : W3 := ⟨0, 0, 0⟩
def EI1 : Enc Int := { n := 1, c := fun i => [.int .i64 i], len := fun _ => rfl, one := fun a v h => by simp only [List.mem_singleton] at h; subst h; rfl }
def EB1 : Enc Bool := { n := 1, c := fun i => [.bool i], len := fun _ => rfl, one := fun a v h => by simp only [List.mem_singleton] at h; subst h; rfl }
def EPt : Enc (Int × Int) := { n := 2, c := fun o => [.int .i64 o.1, .int .i64 o.2], len := fun _ => rfl, one := fun a v h => by simp only [List.mem_cons, List.not_mem_nil, or_false] at h; rcases h with rfl | rfl <;> rfl }

/-- a space -/
structure Spc where
  kn : Int → Option W3
  rd : List Int
  pu : List (Int × Int)
  nd : Int
  en : Bool

/-- the last write of a place -/
def lastP (pu : List (Int × Int)) (at' : Int) : Option Int := (pu.reverse.find? fun p => p.1 == at').map (·.2)
theorem lastP_nil (a : Int) : lastP [] a = none := rfl
theorem lastP_app (pu : List (Int × Int)) (b v a : Int) : lastP (pu ++ [(b, v)]) a = if a = b then some v else lastP pu a := by
  unfold lastP
  rw [List.reverse_append, List.reverse_singleton, List.singleton_append, List.find?_cons]
  by_cases h : a = b
  · subst h; simp
  · have : (b == a) = false := by simpa using fun e => h e.symm
    simp [h, this]

namespace Spc
def vw (σ : Spc) (a : Int) : Int := (lastP σ.pu a).getD (((σ.kn a).map (·.v)).getD 0)
def rds (σ : Spc) (a : Int) : Spc := { σ with rd := if a ∈ σ.rd then σ.rd else σ.rd ++ [a] }
def ends (σ : Spc) (a : Int) : Spc := { σ with en := true, nd := a }
def reads (σ : Spc) (a : Int) : Bool × Spc := if σ.en then (false, σ) else if (σ.kn a).isSome then (true, σ.rds a) else (false, σ.ends a)
def get (σ : Spc) (a : Int) : Int × Spc := if σ.en then (0, σ) else if (σ.kn a).isSome then (σ.vw a, σ.rds a) else (0, σ.ends a)
def put (σ : Spc) (a v : Int) : Spc := if σ.en then σ else if (σ.kn a).isSome then { σ.rds a with pu := σ.pu ++ [(a, v)] } else σ.ends a
def back (σ : Spc) (m : Int) : Spc := if σ.en then σ else if 0 ≤ m ∧ m ≤ σ.pu.length then { σ with pu := σ.pu.take m.toNat } else σ
/-- as many writes as can be buffered -/
abbrev big : Nat := 1099511627776
/-- the values are values -/
structure wf (σ : Spc) : Prop where
  len : σ.pu.length ≤ 2305843009213693952
  kn : ∀ a w, σ.kn a = some w → R64 w.v
  pu : ∀ p ∈ σ.pu, R64 p.2
theorem wf.rds {σ : Spc} (h : σ.wf) (a : Int) : (σ.rds a).wf := ⟨h.len, h.kn, h.pu⟩
theorem wf.ends {σ : Spc} (h : σ.wf) (a : Int) : (σ.ends a).wf := ⟨h.len, h.kn, h.pu⟩
theorem wf.vw {σ : Spc} (h : σ.wf) (a : Int) : R64 (σ.vw a) := by
  unfold Spc.vw lastP
  cases hf : σ.pu.reverse.find? fun p => p.1 == a with
  | some p => exact h.pu p (List.mem_reverse.1 (List.mem_of_find?_eq_some hf))
  | none =>
    cases hk : σ.kn a with
    | some w => exact h.kn a w hk
    | none => exact ⟨by simp, by simp⟩
theorem wf.get {σ : Spc} (h : σ.wf) (a : Int) : R64 (σ.get a).1 ∧ (σ.get a).2.wf := by
  unfold Spc.get
  split
  · exact ⟨⟨by simp, by simp⟩, h⟩
  · split
    · exact ⟨h.vw a, h.rds a⟩
    · exact ⟨⟨by simp, by simp⟩, h.ends a⟩
theorem wf.put {σ : Spc} (h : σ.wf) (a : Int) {v : Int} (hv : R64 v) (hl : σ.pu.length ≤ big) : (σ.put a v).wf := by
  unfold Spc.put
  split
  · exact h
  · split
    · refine ⟨by simp only [List.length_append, List.length_singleton]; unfold big at hl; omega, h.kn, fun p hp => ?_⟩
      rcases List.mem_append.1 hp with hp | hp
      · exact h.pu p hp
      · simp only [List.mem_singleton] at hp; subst hp; exact hv
    · exact h.ends a
theorem wf.back {σ : Spc} (h : σ.wf) (m : Int) : (σ.back m).wf := by
  unfold Spc.back
  split
  · exact h
  · split
    · exact ⟨Nat.le_trans (by rw [List.length_take]; omega) h.len, h.kn, fun p hp => h.pu p (List.mem_of_mem_take hp)⟩
    · exact h
end Spc

/-! ### Programs over a space -/
inductive Prog (α : Type) where
  | ret (a : α)
  | get (a : Int) (k : Int → Prog α)
  | put (a v : Int) (k : Prog α)
  | mark (k : Int → Prog α)
  | back (m : Int) (k : Prog α)
namespace Prog
def bind {α β : Type} : Prog α → (α → Prog β) → Prog β
  | .ret a, f => f a
  | .get a k, f => .get a fun v => bind (k v) f
  | .put a v k, f => .put a v (bind k f)
  | .mark k, f => .mark fun v => bind (k v) f
  | .back m k, f => .back m (bind k f)
instance : Monad Prog where
  pure := .ret
  bind := Prog.bind
def run {α : Type} : Prog α → Spc → α × Spc
  | .ret a, σ => (a, σ)
  | .get a k, σ => run (k (σ.get a).1) (σ.get a).2
  | .put a v k, σ => run k (σ.put a v)
  | .mark k, σ => run (k σ.pu.length) σ
  | .back m k, σ => run k (σ.back m)
/-- what holds behind a program, and that its writes fit -/
def wp {α : Type} : Prog α → Spc → (α → Spc → Prop) → Prop
  | .ret a, σ, Q => Q a σ
  | .get a k, σ, Q => wp (k (σ.get a).1) (σ.get a).2 Q
  | .put a v k, σ, Q => R64 v ∧ σ.pu.length ≤ Spc.big ∧ wp k (σ.put a v) Q
  | .mark k, σ, Q => wp (k σ.pu.length) σ Q
  | .back m k, σ, Q => wp k (σ.back m) Q
theorem wp_bind {α β : Type} : ∀ (p : Prog α) (f : α → Prog β) (σ : Spc) (Q : β → Spc → Prop), wp (p >>= f) σ Q = wp p σ fun a σ' => wp (f a) σ' Q
  | .ret a, f, σ, Q => rfl
  | .get a k, f, σ, Q => wp_bind (k _) f _ Q
  | .put a v k, f, σ, Q => by
    show (_ ∧ _ ∧ wp (k >>= f) _ Q) = (_ ∧ _ ∧ wp k _ _)
    rw [wp_bind k f _ Q]
  | .mark k, f, σ, Q => wp_bind (k _) f _ Q
  | .back m k, f, σ, Q => wp_bind k f _ Q
theorem wp_mono {α : Type} : ∀ {p : Prog α} {σ : Spc} {Q Q' : α → Spc → Prop}, wp p σ Q → (∀ a σ', Q a σ' → Q' a σ') → wp p σ Q'
  | .ret a, σ, Q, Q', h, hq => hq _ _ h
  | .get a k, σ, Q, Q', h, hq => wp_mono (p := k _) h hq
  | .put a v k, σ, Q, Q', h, hq => ⟨h.1, h.2.1, wp_mono (p := k) h.2.2 hq⟩
  | .mark k, σ, Q, Q', h, hq => wp_mono (p := k _) h hq
  | .back m k, σ, Q, Q', h, hq => wp_mono (p := k) h hq
theorem wp_run {α : Type} : ∀ {p : Prog α} {σ : Spc} {Q : α → Spc → Prop}, wp p σ Q → Q (p.run σ).1 (p.run σ).2
  | .ret a, σ, Q, h => h
  | .get a k, σ, Q, h => wp_run (p := k _) h
  | .put a v k, σ, Q, h => wp_run (p := k) h.2.2
  | .mark k, σ, Q, h => wp_run (p := k _) h
  | .back m k, σ, Q, h => wp_run (p := k) h
theorem wp_pure {α : Type} (a : α) (σ : Spc) (Q : α → Spc → Prop) : wp (pure a : Prog α) σ Q = Q a σ := rfl
end Prog
/-- the four steps -/
def gt (a : Int) : Prog Int := .get a .ret
def pt (a v : Int) : Prog Unit := .put a v (.ret ())
def mk : Prog Int := .mark .ret
def bk (m : Int) : Prog Unit := .back m (.ret ())
open Prog
theorem wp_gt (a : Int) (σ : Spc) (Q : Int → Spc → Prop) : wp (gt a) σ Q = Q (σ.get a).1 (σ.get a).2 := rfl
theorem wp_pt (a v : Int) (σ : Spc) (Q : Unit → Spc → Prop) : wp (pt a v) σ Q = (R64 v ∧ σ.pu.length ≤ Spc.big ∧ Q () (σ.put a v)) := rfl
theorem wp_mk (σ : Spc) (Q : Int → Spc → Prop) : wp mk σ Q = Q σ.pu.length σ := rfl
theorem wp_bk (m : Int) (σ : Spc) (Q : Unit → Spc → Prop) : wp (bk m) σ Q = Q () (σ.back m) := rfl

/-! ### The space in the heap -/
structure SpV where
  km : Nat
  rm : Nat
  pa : Option Addr
  pl : Nat
  pc : Nat
  nd : Int
  en : Bool
abbrev SpV.pv (u : SpV) : Value := .slice u.pa u.pl u.pc
def ESp : Enc SpV := { n := 5, c := fun u => [.map (some u.km), .map (some u.rm), .slice u.pa u.pl u.pc, .int .i64 u.nd, .bool u.en], len := fun _ => rfl, one := fun a v h => by simp only [List.mem_cons, List.not_mem_nil, or_false] at h; rcases h with rfl | rfl | rfl | rfl | rfl <;> rfl }

def kOf (ps : List (Int × W3)) : Int → Option W3 := lookA ps
/-- the parts of a space -/
abbrev spParts (p : Nat) (u : SpV) (ps : List (Int × W3)) (σ : Spc) : List Res :=
  [rVar ESp p u, rMp .i64 mW (.map (some u.km)) ps, rMp .i64 mB (.map (some u.rm)) (σ.rd.map fun a => (a, true)), rSl EPt u.pv σ.pu]
def rSpace (s : Value) (σ : Spc) : Res := rEx fun x : Nat × SpV × List (Int × W3) => rIf (s = at0 x.1 ∧ x.2.1.nd = σ.nd ∧ x.2.1.en = σ.en ∧ (∀ a, lookA x.2.2 a = σ.kn a) ∧ σ.wf) (rStar (spParts x.1 x.2.1 x.2.2 σ))

section
variable {F0 : Fp} {h0 h h' : Hp} {L : List Res} {s : Value} {σ : Spc}
theorem Cx.wf (c : Cx F0 h0 h L) {i : Nat} (hi : L[i]? = some (rSpace s σ)) : σ.wf := let ⟨_, _, hp, _⟩ := c.get hi; hp.2.2.2.2

/-- a space is opened -/
theorem space_open {F : Fp} (a : (rSpace s σ).P h F) : ∃ p u ps, s = at0 p ∧ u.nd = σ.nd ∧ u.en = σ.en ∧ (∀ a, lookA ps a = σ.kn a) ∧ σ.wf ∧ Cx F h h (spParts p u ps σ) := by
  obtain ⟨⟨p, u, ps⟩, ⟨h1, h2, h3, h4, h5⟩, hs⟩ := a
  exact ⟨p, u, ps, h1, h2, h3, h4, h5, Cx.star hs⟩
/-- and shut -/
theorem space_shut {F : Fp} {p : Nat} {u : SpV} {ps : List (Int × W3)} (c : Cx F h0 h (spParts p u ps σ)) (h1 : u.nd = σ.nd) (h2 : u.en = σ.en) (h3 : ∀ a, lookA ps a = σ.kn a) (h4 : σ.wf) : ∃ F', (rSpace (at0 p) σ).P h F' ∧ Mv F h0 F' h := by
  obtain ⟨F', a, m⟩ := c.unstar
  exact ⟨F', ⟨⟨p, u, ps⟩, ⟨rfl, h1, h2, h3, h4⟩, a⟩, m⟩
end

/-- A call of f with args does to the space at s what the program says. -/
def Does {α : Type} (S : Sys) (f : Nat) (args : List Value) (s : Value) (p : Prog α) (w : α → Value) : Prop :=
  ∀ h F σ R, (rSpace s σ).P h F → wp p σ (fun a σ' => ∀ h' F', (rSpace s σ').P h' F' → Mv F h F' h' → R (w a) h') → S.C f args h R
def uI (z : Int) : Value := .int .i64 z
def uU (_ : Unit) : Value := .tuple #[]
def uB (b : Bool) : Value := .bool b
@[go_sem] theorem uI_def (z : Int) : uI z = .int .i64 z := rfl
@[go_sem] theorem uU_def (z : Unit) : uU z = .tuple #[] := rfl
@[go_sem] theorem uB_def (b : Bool) : uB b = .bool b := rfl

section
variable {F0 : Fp} {h0 h h' : Hp} {L : List Res} {s : Value} {σ : Spc} {S : Sys}
/-- a call, in a walk; the program goes along -/
theorem Cx.does {α β : Type} {f : Nat} {args : List Value} {p : Prog α} {w : α → Value} {R : Value → Hp → Prop} {q : α → Prog β} {Q : β → Spc → Prop} (D : Does S f args s p w) (c : Cx F0 h0 h L) (i : Nat) (hi : L[i]? = some (rSpace s σ))
    (hp : wp (p >>= q) σ Q) (k : ∀ a σ' h', Cx F0 h0 h' (L.set i (rSpace s σ')) → wp (q a) σ' Q → R (w a) h') : S.C f args h R := by
  obtain ⟨F, a, up⟩ := c.upd hi
  rw [Prog.wp_bind] at hp
  exact D h F σ R a (Prog.wp_mono hp fun a σ' hq h' F' a' m => k a σ' h' (up a' m) hq)
/-- what a program's value is, whatever the space -/
def Ens {α : Type} (p : Prog α) (P : α → Prop) : Prop := ∀ σ (Q : α → Spc → Prop), σ.wf → wp p σ Q → wp p σ fun a σ' => P a ∧ σ'.wf ∧ Q a σ'
theorem Ens.pure {α : Type} {a : α} {P : α → Prop} (h : P a) : Ens (pure a : Prog α) P := fun _ _ w hq => ⟨h, w, hq⟩
theorem Ens.bind {α β : Type} {p : Prog α} {f : α → Prog β} {P : α → Prop} {P' : β → Prop} (h : Ens p P) (h' : ∀ a, P a → Ens (f a) P') : Ens (p >>= f) P' := fun σ Q w hq => by
  rw [Prog.wp_bind] at hq ⊢
  exact Prog.wp_mono (h σ _ w hq) fun a σ' ⟨h1, h2, h3⟩ => h' a h1 σ' Q h2 h3
theorem Ens.gt (a : Int) : Ens (gt a) R64 := fun σ _ w hq => ⟨(w.get a).1, (w.get a).2, hq⟩
theorem Ens.pt (a v : Int) : Ens (pt a v) (fun _ => True) := fun σ _ w hq => ⟨hq.1, hq.2.1, trivial, w.put a hq.1 hq.2.1, hq.2.2⟩
theorem Ens.mk : Ens mk (fun n => 0 ≤ n) := fun σ _ w hq => ⟨Int.natCast_nonneg _, w, hq⟩
theorem Ens.bk (m : Int) : Ens (bk m) (fun _ => True) := fun σ _ w hq => ⟨trivial, w.back m, hq⟩
theorem Ens.mono {α : Type} {p : Prog α} {P P' : α → Prop} (h : Ens p P) (h' : ∀ a, P a → P' a) : Ens p P' := fun σ Q w hq => Prog.wp_mono (h σ Q w hq) fun a σ' ⟨a1, a2, a3⟩ => ⟨h' a a1, a2, a3⟩
theorem Ens.any {α : Type} : ∀ (p : Prog α), Ens p (fun _ => True)
  | .ret a => fun _ _ w hq => ⟨trivial, w, hq⟩
  | .get a k => fun σ Q w hq => Ens.any (k _) _ Q (w.get a).2 hq
  | .put a v k => fun σ Q w hq => ⟨hq.1, hq.2.1, Ens.any k _ Q (w.put a hq.1 hq.2.1) hq.2.2⟩
  | .mark k => fun σ Q w hq => Ens.any (k _) _ Q w hq
  | .back m k => fun σ Q w hq => Ens.any k _ Q (w.back m) hq
theorem Cx.doesE {α β : Type} {f : Nat} {args : List Value} {p : Prog α} {w : α → Value} {R : Value → Hp → Prop} {q : α → Prog β} {Q : β → Spc → Prop} {P : α → Prop} (D : Does S f args s p w) (E : Ens p P) (c : Cx F0 h0 h L) (i : Nat) (hi : L[i]? = some (rSpace s σ))
    (hp : wp (p >>= q) σ Q) (k : ∀ a σ' h', P a → Cx F0 h0 h' (L.set i (rSpace s σ')) → wp (q a) σ' Q → R (w a) h') : S.C f args h R := by
  obtain ⟨F, a, up⟩ := c.upd hi
  rw [Prog.wp_bind] at hp
  exact D h F σ R a (Prog.wp_mono (E σ _ (c.wf hi) hp) fun a σ' ⟨e, _, hq⟩ h' F' a' m => k a σ' h' e (up a' m) hq)
theorem Cx.last {α : Type} {f : Nat} {args : List Value} {p : Prog α} {w : α → Value} {R : Value → Hp → Prop} {Q : α → Spc → Prop} (D : Does S f args s p w) (c : Cx F0 h0 h L) (i : Nat) (hi : L[i]? = some (rSpace s σ))
    (hp : wp p σ Q) (k : ∀ a σ' h', Cx F0 h0 h' (L.set i (rSpace s σ')) → Q a σ' → R (w a) h') : S.C f args h R := by
  obtain ⟨F, a, up⟩ := c.upd hi
  exact D h F σ R a (Prog.wp_mono hp fun a σ' hq h' F' a' m => k a σ' h' (up a' m) hq)
/-- how a walk over a space begins -/
theorem Does.of {α : Type} {f : Nat} {args : List Value} {p : Prog α} {w : α → Value}
    (H : ∀ h0 F σ R Q, Cx F h0 h0 [rSpace s σ] → wp p σ Q → (∀ a σ' h' M, Cx F h0 h' (rSpace s σ' :: M) → Q a σ' → R (w a) h') → S.C f args h0 R) : Does S f args s p w := fun h F σ R a hp =>
  H h F σ R _ (Cx.start a) hp fun a σ' h' M c hq => let ⟨F', a', m⟩ := c.fin; hq h' F' a' m
end
end Go.En
namespace Go.En
open Prog

variable {S : Sys} {I : Ids} {h h0 : Hp} {F : Fp} {R : Value → Hp → Prop} {s : Value} {σ : Spc}

theorem eqP_nil (p : Nat) : eqP (at0 p) (.pointer none) = some false := rfl
theorem nck_at (p : Nat) : nck (at0 p) = some (at0 p) := rfl
theorem nckb {p : Nat} {k : Value → Prop} (hk : k (at0 p)) : Vb (nck (at0 p)) k := vb rfl hk

/-- what is read of a space -/
theorem space_fld {L : List Res} {p i : Nat} {u : SpV} (c : Cx F h0 h L) (hi : L[i]? = some (rVar ESp p u)) {j : Nat} {w : Value} (hu : (ESp.c u)[j]? = some w) {k : Value → Prop} (hk : k w) :
    Vb (nck (at0 p)) fun a => Vb (fa j a) fun a => Vb (ldc a h) k := by
  rw [nck_at, vb_some]
  exact (c.va hi).fld hu hk

theorem K_Ended (a : (rSpace s σ).P h F) (hR : R (.bool σ.en) h) : F_space_Space_Ended S I s h R := by
  obtain ⟨p, u, ps, rfl, h1, h2, h3, h4, c⟩ := space_open a
  unfold F_space_Space_Ended
  refine .here ?_
  rw [eqP_nil]
  simp only [go_sem]
  refine space_fld c (i := 0) rfl (j := 4) rfl ?_
  rw [h2]; exact hR

theorem K_Mark (a : (rSpace s σ).P h F) (hR : R (.int .i64 σ.pu.length) h) : F_space_Space_Mark S I s h R := by
  obtain ⟨p, u, ps, rfl, h1, h2, h3, h4, c⟩ := space_open a
  unfold F_space_Space_Mark
  rw [eqP_nil]
  simp only [go_sem]
  refine space_fld c (i := 0) rfl (j := 2) rfl ?_
  exact vb (c.sl (i := 3) rfl).sl.ln hR


theorem rds_map (rd : List Int) (a : Int) : updA (rd.map fun a => (a, true)) a true = (if a ∈ rd then rd else rd ++ [a]).map fun a => (a, true) := by
  by_cases h : a ∈ rd
  · rw [if_pos h]
    induction rd with
    | nil => cases h
    | cons x r ih =>
      simp only [List.map_cons, updA]
      by_cases e : x = a
      · subst e; simp
      · rw [if_neg e, ih (by rcases List.mem_cons.1 h with h | h; exact absurd h.symm e; exact h)]
  · rw [if_neg h, updA_end]
    · simp
    · unfold lookA
      rw [Option.map_eq_none_iff, List.find?_eq_none]
      intro p hp
      obtain ⟨x, hx, rfl⟩ := List.mem_map.1 hp
      simp only [beq_iff_eq]
      exact fun e => h (e ▸ hx)

structure CsA (S : Sys) (I : Ids) : Prop where
  ended : ∀ {s h F σ R}, (rSpace s σ).P h F → R (.bool σ.en) h → S.C I.f_space_Space_Ended [s] h R

/-- a map of a context is set -/
theorem Cx.mup {α : Type} {F0 : Fp} {L : List Res} {E : α → Value} {v : Value} {ps : List (Int × α)} (c : Cx F0 h0 h L) (i : Nat) (hi : L[i]? = some (rMp .i64 E v ps)) (k : Int) (x : α) {w : Value} (hw : w = E x) {K : Hp → Prop}
    (hK : ∀ h', Cx F0 h0 h' (L.set i (rMp .i64 E v (updA ps k x))) → K h') : Sb (En.mup (.int .i64) v (.int .i64 k) w h) K := by
  obtain ⟨F, ⟨m, hf⟩, up⟩ := c.upd hi
  exact m.mup k x hw fun h' m' ch => hK h' (up (F' := F) ⟨m', hf⟩ (mv_same (ch.mono fun q _ e => (hf q).2 e)))
/-- a field of a variable is set -/
theorem Cx.stof {α : Type} {F0 : Fp} {L : List Res} {E : Enc α} {r : Nat} {x : α} (c : Cx F0 h0 h L) (i : Nat) (hi : L[i]? = some (rVar E r x)) (y : α) {j : Nat} {w : Value} (hw : w.oneCell' = true) (hj : j < E.n) (hy : E.c y = (E.c x).set j w) {k : Hp → Prop}
    (hk : ∀ h', Cx F0 h0 h' (L.set i (rVar E r y)) → k h') : Vb (fa j (at0 r)) fun p => Sb (En.sto 1 p w h) k := by
  obtain ⟨F, ⟨v, hf⟩, up⟩ := c.upd hi
  refine vb (fa_add _ _ _) ?_
  obtain ⟨h', e, v', ch, _⟩ := v.put (j := j) (vs := [w]) (y := y) (fun j' u hu => by
    rw [hy, List.getElem?_set] at hu
    by_cases e : j = j'
    · subst e
      have : j < (E.c x).length := by rw [E.len]; exact hj
      simp only [if_true, this] at hu
      simp [hu]
    · rw [if_neg e] at hu
      have : ¬ (j ≤ j' ∧ j' < j + [w].length) := by simp only [List.length_singleton]; omega
      rw [if_neg this]; exact hu) (by simp only [List.length_singleton]; omega) (fun u hu => by simp only [List.mem_singleton] at hu; subst hu; exact hw)
  refine sb ?_ (hk h' (up (F' := F) ⟨v', hf⟩ (mv_same (ch.mono fun q _ e => (hf q).2 e))))
  rw [Nat.zero_add, sto_one hw]; exact e

theorem K_reads {at' : Int} (cs : CsA S I) (a : (rSpace s σ).P h F) (hR : ∀ h' F', (rSpace s (σ.reads at').2).P h' F' → Mv F h F' h' → R (.bool (σ.reads at').1) h') : F_space_Space_reads S I s (.int .i64 at') h R := by
  unfold F_space_Space_reads
  refine cs.ended a ?_
  obtain ⟨p, u, ps, rfl, h1, h2, h3, h4, c⟩ := space_open a
  unfold Spc.reads at hR
  cases he : σ.en with
  | true =>
    simp only [he, if_true] at hR
    simp only [go_sem]
    exact hR _ _ a (.refl _ _)
  | false =>
    simp only [he, Bool.false_eq_true, if_false] at hR
    simp only [go_sem]
    refine space_fld c (i := 0) rfl (j := 0) rfl ?_
    refine vb (c.mp (i := 1) rfl).lookOk ?_
    simp only [go_sem, h3]
    cases hk : σ.kn at' with
    | none =>
      simp only [hk, Option.isSome_none, Bool.false_eq_true, if_false] at hR
      simp only [Option.map_none, Option.getD_none, Option.isSome_none, Bool.not_false, go_sem]
      refine c.nw EW W0 rfl fun r h' c => ?_
      refine c.sto 4 rfl W0 rfl rfl fun h' c => ?_
      refine nckb ?_
      refine c.stof 0 rfl { u with en := true } rfl (by decide) rfl fun h' c => ?_
      refine nckb ?_
      refine c.stof 0 rfl { u with en := true, nd := at' } rfl (by decide) rfl fun h' c => ?_
      obtain ⟨F', a', m⟩ := space_shut (u := { u with en := true, nd := at' }) (σ := σ.ends at') (c.drop (L := spParts _ _ _ _) (L' := [_])) rfl rfl h3 (h4.ends at')
      exact hR _ _ a' m
    | some w =>
      simp only [hk, Option.isSome_some, if_true] at hR
      simp only [Option.map_some, Option.getD_some, Option.isSome_some, Bool.not_true, go_sem]
      refine c.nw EW W0 rfl fun r h' c => ?_
      refine c.sto 4 rfl w rfl rfl fun h' c => ?_
      refine space_fld c (i := 0) rfl (j := 1) rfl ?_
      refine c.mup 2 rfl at' true rfl fun h' c => ?_
      obtain ⟨F', a', m⟩ := space_shut (u := u) (ps := ps) (σ := σ.rds at') (by
        have := c.drop (L := [_, _, _, _]) (L' := [_])
        rw [rds_map] at this
        exact this) h1 h2 h3 (h4.rds at')
      exact hR _ _ a' m

/-- the place of the last write -/
theorem K_last {at' : Int} (a : (rSpace s σ).P h F) (hR : ∀ i : Int, (i = -1 ∧ lastP σ.pu at' = none ∨ ∃ (n : Nat) (v : Int), i = n ∧ σ.pu[n]? = some (at', v) ∧ lastP σ.pu at' = some v) → R (.int .i64 i) h) : F_space_Space_last S I s (.int .i64 at') h R := by
  unfold F_space_Space_last
  obtain ⟨p, u, ps, rfl, h1, h2, h3, h4, c⟩ := space_open a
  have hl := h4.len
  refine space_fld c (i := 0) rfl (j := 2) rfl ?_
  have hs := c.sl (i := 3) rfl
  refine vb hs.sl.ln ?_
  simp only [go_sem]
  refine Lp1.by (fun (n : Nat) v h' => n ≤ σ.pu.length ∧ v = .int .i64 ((n : Int) - 1) ∧ h' = h ∧ lastP σ.pu at' = lastP (σ.pu.take n) at') (fun n => n) σ.pu.length ⟨Nat.le_refl _, by rw [wr64 (by omega)], rfl, by rw [List.take_length]⟩ ?_
  rintro n v h' ⟨hn, rfl, rfl, hlast⟩ again hagain
  simp only [go_sem]
  refine brd (fun h5 => ?_) fun h5 => ?_
  · obtain ⟨m, rfl⟩ : ∃ m, n = m + 1 := ⟨n - 1, by omega⟩
    have hm : m < σ.pu.length := by omega
    have hget : σ.pu[m]? = some σ.pu[m] := List.getElem?_eq_getElem hm
    refine space_fld c (i := 0) rfl (j := 2) rfl ?_
    refine hs.sl.fld rfl hget (by omega) (j := 0) rfl ?_
    simp only [go_sem]
    have htake : lastP (σ.pu.take (m + 1)) at' = if at' = σ.pu[m].1 then some σ.pu[m].2 else lastP (σ.pu.take m) at' := by
      rw [List.take_add_one, hget]
      exact lastP_app _ _ _ _
    refine brd (fun h6 => hR _ (.inr ⟨m, σ.pu[m].2, by omega, by rw [hget, ← h6], ?_⟩)) fun h6 => ?_
    · rw [hlast, htake, if_pos h6.symm]
    · refine hagain m _ _ ⟨by omega, by rw [wr64 (by omega)]; congr 1; omega, rfl, ?_⟩ (by omega)
      rw [hlast, htake, if_neg (fun e => h6 e.symm)]
  · have : n = 0 := by omega
    subst this
    refine hR _ (.inl ⟨rfl, hlast⟩)
end Go.En
namespace Go.En
open Prog Spc

variable {S : Sys} {I : Ids} {h h0 : Hp} {F : Fp} {R : Value → Hp → Prop} {s : Value} {σ : Spc}

structure CsB (S : Sys) (I : Ids) : Prop extends CsA S I where
  reads : ∀ {s h F σ R at'}, (rSpace s σ).P h F → (∀ h' F', (rSpace s (σ.reads at').2).P h' F' → Mv F h F' h' → R (.bool (σ.reads at').1) h') → S.C I.f_space_Space_reads [s, .int .i64 at'] h R
  last : ∀ {s h F σ R} {at' : Int}, (rSpace s σ).P h F → (∀ i : Int, (i = -1 ∧ lastP σ.pu at' = none ∨ ∃ (n : Nat) (v : Int), i = n ∧ σ.pu[n]? = some (at', v) ∧ lastP σ.pu at' = some v) → R (.int .i64 i) h) → S.C I.f_space_Space_last [s, .int .i64 at'] h R

/-- the current value, and whether it was written -/
theorem K_value {at' : Int} (cs : CsB S I) (a : (rSpace s σ).P h F) (hR : R (.tuple #[.int .i64 (σ.vw at'), .bool (lastP σ.pu at').isSome]) h) : F_space_Space_value S I s (.int .i64 at') h R := by
  unfold F_space_Space_value
  refine cs.last a fun i hi => ?_
  obtain ⟨p, u, ps, rfl, h1, h2, h3, h4, c⟩ := space_open a
  simp only [go_sem]
  unfold Spc.vw at hR
  rcases hi with ⟨rfl, hn⟩ | ⟨n, v, rfl, hget, hv⟩
  · rw [hn] at hR
    refine brF (by omega) ?_
    refine space_fld c (i := 0) rfl (j := 0) rfl ?_
    refine vb (c.mp (i := 1) rfl).look ?_
    rw [h3]
    cases hk : σ.kn at' with
    | none =>
      rw [hk] at hR
      exact vb rfl hR
    | some w =>
      rw [hk] at hR
      exact vb rfl hR
  · rw [hv] at hR
    refine brT (by omega) ?_
    refine space_fld c (i := 0) rfl (j := 2) rfl ?_
    refine (c.sl (i := 3) rfl).sl.fld rfl hget rfl (j := 1) rfl ?_
    exact hR

structure CsC (S : Sys) (I : Ids) : Prop extends CsB S I where
  value : ∀ {s h F σ R} {at' : Int}, (rSpace s σ).P h F → R (.tuple #[.int .i64 (σ.vw at'), .bool (lastP σ.pu at').isSome]) h → S.C I.f_space_Space_value [s, .int .i64 at'] h R


/-- the program's step Get; its buffer fits -/
theorem K_Get {at' : Int} (cs : CsC S I) (a : (rSpace s σ).P h F) (hR : ∀ h' F', (rSpace s (σ.get at').2).P h' F' → Mv F h F' h' → R (.int .i64 (σ.get at').1) h') : F_space_Space_Get S I s (.int .i64 at') h R := by
  unfold F_space_Space_Get
  refine cs.reads a fun h' F' a' m => ?_
  unfold Spc.reads at a' ⊢
  unfold Spc.get at hR
  cases he : σ.en with
  | true =>
    simp only [he, if_true] at hR a' ⊢
    simp only [go_sem, Bool.not_false]
    exact hR _ _ a' m
  | false =>
    simp only [he, Bool.false_eq_true, if_false] at hR a' ⊢
    cases hk : σ.kn at' with
    | none =>
      simp only [hk, Option.isSome_none, Bool.false_eq_true, if_false] at hR a' ⊢
      simp only [go_sem, Bool.not_false]
      exact hR _ _ a' m
    | some w =>
      simp only [hk, Option.isSome_some, if_true] at hR a' ⊢
      simp only [go_sem, Bool.not_true]
      refine cs.value (σ := σ.rds at') a' ?_
      simp only [go_sem]
      exact hR _ _ a' m

theorem Ow.cut {α : Type} {E : Enc α} {v : Value} {xs : List α} (H : Ow E h v xs) {n : Nat} {k k' : IntKind} {z : Int} {u : Nat} (hz : z = u) (h2 : u ≤ xs.length) :
    ∃ a l c, slc n v none (some (.int k z)) (some (.int k' z)) = some (.slice a l c) ∧ Ow E h (.slice a l c) (xs.take u) ∧ (∀ r, blk (.slice a l c) = some r → blk v = some r) := by
  subst hz
  have key : ∀ (a : Option Addr) (len cap : Nat), u ≤ cap → slc n (.slice a len cap) none (some (.int k u)) (some (.int k' u)) = some (.slice (if u = 0 then a else a.map (·.add (0 * n))) u u) := by
    intro a len cap hc
    simp [slc, bnds, bndM, bndH, bndL, bnd, slcA, hc]
  rcases H with ⟨rfl, rfl⟩ | ⟨r, o, cap, rfl, h3, hb, hr, hw⟩
  · have : u = 0 := by simpa using h2
    subst this
    exact ⟨_, _, _, key _ _ _ (Nat.zero_le _), .inl ⟨rfl, rfl⟩, fun r e => e⟩
  · have ea : (if u = 0 then (some ⟨r, o, none⟩ : Option Addr) else (some (⟨r, o, none⟩ : Addr)).map (·.add (0 * n))) = some ⟨r, o, none⟩ := by
      split
      · rfl
      · simp [addN]
    refine ⟨some ⟨r, o, none⟩, u, u, by rw [key _ _ _ (Nat.le_trans h2 h3), ea], .inr ⟨r, o, u, ?_, ?_, hb, fun i x hx => ?_, fun j hj => hw j (Nat.lt_of_lt_of_le hj (Nat.mul_le_mul_right _ (Nat.le_trans h2 h3)))⟩, fun r e => e⟩
    · rw [List.length_take, Nat.min_eq_left h2]
    · rw [List.length_take]; omega
    · have hlt := (List.getElem?_eq_some_iff.mp hx).1
      rw [List.length_take] at hlt
      rw [List.getElem?_take_of_lt (by omega)] at hx
      exact hr i x hx

/-- appended to a slice of a context -/
theorem Cx.app1 {α : Type} {F0 : Fp} {L : List Res} {E : Enc α} {v : Value} {xs : List α} (c : Cx F0 h0 h L) (i : Nat) (hi : L[i]? = some (rSl E v xs)) (x : α) {e e' : TypeId} {zero : Array Value} {n bytes : Nat} {w : Value} {k : Value → Hp → Prop}
    (hn : n = E.n) (hz : zero.size = E.n) (hw : w.cells.toList = E.c x) (hb : (xs.length + 1) * bytes ≤ 140737488355328) (hl : xs.length + 1 ≤ 9223372036854775807)
    (hk : ∀ v' h', Cx F0 h0 h' (L.set i (rSl E v' (xs ++ [x]))) → k v' h') : Eb (bsl zero n 1 e [(0, w)] h) fun u h1 => Ap e' zero n bytes v u h1 k := by
  obtain ⟨F, ⟨o, hf⟩, up⟩ := c.upd hi
  refine En.app1 o hn hz hw hb hl fun v' h' o' ch nw => hk v' h' (up (F' := fun q => blk v' = some q) ⟨o', fun _ => Iff.rfl⟩ ⟨ch.mono fun q _ e => (hf q).2 e, fun r hr => ?_⟩)
  rcases nw r hr with h1 | h1
  · exact .inl ((hf r).2 h1)
  · exact .inr h1
/-- a part of a slice of a context in its place -/
theorem Cx.cut {α : Type} {F0 : Fp} {L : List Res} {E : Enc α} {v : Value} {xs : List α} (c : Cx F0 h0 h L) (i : Nat) (hi : L[i]? = some (rSl E v xs)) {n : Nat} {k k' : IntKind} {z : Int} {u : Nat} (hz : z = u) (h2 : u ≤ xs.length) {K : Value → Prop}
    (hK : ∀ a l cp, Cx F0 h0 h (L.set i (rSl E (.slice a l cp) (xs.take u))) → K (.slice a l cp)) : Vb (slc n v none (some (.int k z)) (some (.int k' z))) K := by
  obtain ⟨F, ⟨o, hf⟩, up⟩ := c.upd hi
  obtain ⟨a, l, cp, e, o', hb⟩ := o.cut (n := n) (k := k) (k' := k') hz h2
  exact vb e (hK a l cp (up (F' := fun q => blk (.slice a l cp) = some q) ⟨o', fun _ => Iff.rfl⟩ ⟨.refl _ _, fun r hr => .inl ((hf r).2 (hb r hr))⟩))
theorem ow_slice {α : Type} {E : Enc α} {v : Value} {xs : List α} (o : Ow E h v xs) : ∃ a l c, v = .slice a l c := by
  rcases o with ⟨rfl, _⟩ | ⟨r, o, cap, rfl, _⟩
  · exact ⟨_, _, _, rfl⟩
  · exact ⟨_, _, _, rfl⟩

theorem K_Put {at' v : Int} (cs : CsC S I) (hv : R64 v) (hl : σ.pu.length ≤ big) (a : (rSpace s σ).P h F) (hR : ∀ h' F', (rSpace s (σ.put at' v)).P h' F' → Mv F h F' h' → R (.tuple #[]) h') : F_space_Space_Put S I s (.int .i64 at') (.int .i64 v) h R := by
  unfold F_space_Space_Put
  have hwf := a.choose_spec.1.2.2.2.2
  refine cs.reads a fun h' F' a' m => ?_
  unfold Spc.reads at a' ⊢
  have hwp := hwf.put at' hv hl
  unfold Spc.put at hR hwp
  cases he : σ.en with
  | true =>
    simp only [he, if_true] at hR a' ⊢
    simp only [go_sem]
    exact hR _ _ a' m
  | false =>
    simp only [he, Bool.false_eq_true, if_false] at hR hwp a' ⊢
    cases hk : σ.kn at' with
    | none =>
      simp only [hk, Option.isSome_none, Bool.false_eq_true, if_false] at hR a' ⊢
      simp only [go_sem]
      exact hR _ _ a' m
    | some w =>
      simp only [hk, Option.isSome_some, if_true] at hR hwp a' ⊢
      simp only [go_sem]
      obtain ⟨p, u, ps, rfl, h1, h2, h3, h4, c⟩ := space_open a'
      refine space_fld c (i := 0) rfl (j := 2) rfl ?_
      refine vb rfl ?_
      refine c.app1 3 rfl (at', v) rfl rfl rfl (by have : (σ.rds at').pu = σ.pu := rfl; rw [this]; unfold big at hl; omega) (by have : (σ.rds at').pu = σ.pu := rfl; rw [this]; unfold big at hl; omega) fun v' h2' c => ?_
      obtain ⟨a2, l2, c2, rfl⟩ := ow_slice (c.sl (i := 3) rfl)
      refine nckb ?_
      refine c.stof 0 rfl { u with pa := a2, pl := l2, pc := c2 } rfl (by decide) rfl fun h3' c => ?_
      obtain ⟨F'', a'', m'⟩ := space_shut (u := { u with pa := a2, pl := l2, pc := c2 }) (ps := ps) (σ := { σ.rds at' with pu := σ.pu ++ [(at', v)] }) c h1 h2 h3 hwp
      exact hR _ _ a'' (m.trans m')

theorem K_Back {m' : Int} (cs : CsA S I) (a : (rSpace s σ).P h F) (hR : ∀ h' F', (rSpace s (σ.back m')).P h' F' → Mv F h F' h' → R (.tuple #[]) h') : F_space_Space_Back S I s (.int .i64 m') h R := by
  unfold F_space_Space_Back
  refine .here ?_
  refine cs.ended a ?_
  simp only [go_sem]
  have hwf := a.choose_spec.1.2.2.2.2
  have hwp := hwf.back m'
  unfold Spc.back at hR hwp
  cases he : σ.en with
  | true =>
    simp only [he, if_true] at hR
    simp only [go_sem, Bool.not_true]
    exact hR _ _ a (.refl _ _)
  | false =>
    simp only [he, Bool.false_eq_true, if_false] at hR hwp
    simp only [go_sem, Bool.not_false]
    refine brd (fun h5 => ?_) fun h5 => ?_
    · obtain ⟨p, u, ps, rfl, h1, h2, h3, h4, c⟩ := space_open a
      refine space_fld c (i := 0) rfl (j := 2) rfl ?_
      refine vb (c.sl (i := 3) rfl).sl.ln ?_
      simp only [go_sem]
      refine brd (fun h6 => ?_) fun h6 => ?_
      · rw [if_pos ⟨h5, h6⟩] at hR hwp
        refine space_fld c (i := 0) rfl (j := 2) rfl ?_
        refine c.cut 3 rfl (u := m'.toNat) (by omega) (by omega) fun a2 l2 c2 c => ?_
        refine nckb ?_
        refine c.stof 0 rfl { u with pa := a2, pl := l2, pc := c2 } rfl (by decide) rfl fun h3' c => ?_
        obtain ⟨F'', a'', m'⟩ := space_shut (u := { u with pa := a2, pl := l2, pc := c2 }) (ps := ps) (σ := { σ with pu := σ.pu.take m'.toNat, en := false }) c h1 (h2.trans he) h3 hwp
        exact hR _ _ a'' m'
      · rw [if_neg (fun e => h6 e.2)] at hR
        exact hR _ _ a (.refl _ _)
    · rw [if_neg (fun e => h5 e.1)] at hR
      exact hR _ _ a (.refl _ _)
end Go.En
namespace Go.En
open Prog Spc

variable {S : Sys} {I : Ids} {h h0 h' : Hp} {F F0 : Fp} {R : Value → Hp → Prop} {s : Value} {σ : Spc} {L : List Res}

/-- a range over a map, with the map -/
def rIt {α : Type} (ik : IntKind) (E : α → Value) (r m : Nat) (ps : List (Int × α)) (D : List Nat) : Res where
  P := fun h F => It ik E h r m ps D ∧ ∀ q, F q ↔ q = r ∨ q = m
  lt := fun {h F} ⟨o, hf⟩ q hq => by
    obtain ⟨es, clock, h1, h2, h3⟩ := o.ex
    rcases (hf q).1 hq with rfl | rfl
    · exact (Array.getElem?_eq_some_iff.mp h3).1
    · exact (Array.getElem?_eq_some_iff.mp h1).1
  loc := fun {h h' F D'} ⟨o, hf⟩ c hd => by
    obtain ⟨es, clock, h1, h2, h3⟩ := o.ex
    refine ⟨⟨⟨es, clock, ?_, h2, ?_⟩, o.nodup, o.lt, o.ne⟩, hf⟩
    · rw [c.same m (Array.getElem?_eq_some_iff.mp h1).1 (hd m ((hf m).2 (.inr rfl)))]; exact h1
    · rw [c.same r (Array.getElem?_eq_some_iff.mp h3).1 (hd r ((hf r).2 (.inl rfl)))]; exact h3

section
variable {α : Type} {ik : IntKind} {E : α → Value} {v : Value} {ps : List (Int × α)} {D : List Nat} {r m : Nat}
theorem Cx.range (c : Cx F0 h0 h L) (i : Nat) (hi : L[i]? = some (rMp ik E v ps)) {k : Value → Hp → Prop}
    (hk : ∀ r m h', v = .map (some m) → Cx F0 h0 h' (L.set i (rIt ik E r m ps [])) → k (at0 r) h') : Eb (rng v h) k := by
  obtain ⟨F, ⟨o, hf⟩, up⟩ := c.upd hi
  refine o.range fun m h' hv it g hs => hk _ m h' hv (up (F' := fun q => q = h.size ∨ q = m) ⟨it, fun _ => Iff.rfl⟩ ⟨g.mono fun _ _ e => e.elim, fun q hq => ?_⟩)
  rcases hq with rfl | rfl
  · exact .inr (Nat.le_refl _)
  · exact .inl ((hf q).2 (by rw [hv]; rfl))
theorem Cx.next (c : Cx F0 h0 h L) (i : Nat) (hi : L[i]? = some (rIt ik E r m ps D)) {k : Value → Hp → Prop} (h0' : (∀ j, j < ps.length → j ∈ D) → Cx F0 h0 h (L.set i (rMp ik E (.map (some m)) ps)) → k (.tuple #[.bool false]) h)
    (h1 : ∀ j p h', ps[j]? = some p → j ∉ D → Cx F0 h0 h' (L.set i (rIt ik E r m ps (D ++ [j]))) → ent (at0 r) h' = some (.tuple #[.int ik p.1, E p.2]) → k (.tuple #[.bool true, .int ik p.1, E p.2]) h') : Nx (at0 r) h k := by
  obtain ⟨F, ⟨o, hf⟩, up⟩ := c.upd hi
  refine o.next (fun hall => h0' hall (up (F' := fun q => q = m) ⟨o.mp, fun q => by simp [mblk, eq_comm]⟩ ⟨.refl _ _, fun q hq => .inl ((hf q).2 (.inr hq))⟩)) fun j p h' hp hj it ch he => h1 j p h' hp hj (up (F' := F) ⟨it, hf⟩ (mv_same (ch.mono fun q _ e => (hf q).2 (.inl e)))) he
/-- a new map -/
theorem Cx.mmk {β : Type} (ik : IntKind) (E : β → Value) (c : Cx F0 h0 h L) {k : Value → Hp → Prop} (hk : ∀ m h', Cx F0 h0 h' (L ++ [rMp ik E (.map (some m)) []]) → k (.map (some m)) h') : Eb (En.mmk h) k :=
  eb rfl (hk _ _ (c.add (F' := fun q => q = h.size) ⟨Mp.new, fun q => by simp [mblk, eq_comm]⟩ (Ch.push _ _) fun r e => by omega))
end

/-- a new space over known words -/
def newS (ps : List (Int × W3)) : Spc := { kn := fun a => (lookA ps a).filter fun w => w.ref == 0, rd := [], pu := [], nd := 0, en := false }
theorem newS_wf {ps : List (Int × W3)} (hv : ∀ p ∈ ps, R64 p.2.v) : (newS ps).wf := by
  refine ⟨Nat.zero_le _, fun a w hw => ?_, fun p hp => by cases hp⟩
  simp only [newS, Option.filter_eq_some_iff] at hw
  obtain ⟨h1, _⟩ := hw
  unfold lookA at h1
  rw [Option.map_eq_some_iff] at h1
  obtain ⟨p, hp, rfl⟩ := h1
  exact hv p (List.mem_of_find?_eq_some hp)

theorem nodup_at {α β : Type} {ps : List (α × β)} (hn : (ps.map (·.1)).Nodup) {i j : Nat} {x : α} {y : β} {p : α × β} (hi : ps[i]? = some (x, y)) (hj : ps[j]? = some p) (e : x = p.1) : i = j := by
  have h1 : (ps.map (·.1))[i]? = some x := by simp [hi]
  have h2 : (ps.map (·.1))[j]? = some x := by simp [hj, e]
  obtain ⟨hil, h1⟩ := List.getElem?_eq_some_iff.1 h1
  obtain ⟨hjl, h2⟩ := List.getElem?_eq_some_iff.1 h2
  have hp := List.pairwise_iff_getElem.1 hn
  rcases Nat.lt_trichotomy i j with h | h | h
  · exact absurd (h1.trans h2.symm) (hp i j hil hjl h)
  · exact h
  · exact absurd (h2.trans h1.symm) (hp j i hjl hil h)
theorem nodup_len {D : List Nat} {n : Nat} (hd : D.Nodup) (hl : ∀ i ∈ D, i < n) : D.length ≤ n := by
  have hp : (D ++ (List.range n).filter fun i => !D.contains i).Perm (List.range n) := by
    refine (List.perm_ext_iff_of_nodup ?_ List.nodup_range).mpr fun i => ?_
    · rw [List.nodup_append]
      refine ⟨hd, List.nodup_range.filter _, fun a ha b hb e => ?_⟩
      subst e
      rw [List.mem_filter] at hb
      have := hb.2
      simp only [Bool.not_eq_true', List.contains_eq_mem, decide_eq_false_iff_not] at this
      exact this ha
    · simp only [List.mem_append, List.mem_filter, List.mem_range, Bool.not_eq_true', List.contains_eq_mem, decide_eq_false_iff_not]
      constructor
      · rintro (h | h)
        · exact hl i h
        · exact h.1
      · intro h
        by_cases hm : i ∈ D
        · exact .inl hm
        · exact .inr ⟨h, hm⟩
  have := hp.length_eq
  simp only [List.length_append, List.length_range] at this
  omega

theorem K_New {known : Value} {ps : List (Int × W3)} (hn : (ps.map (·.1)).Nodup) (hv : ∀ p ∈ ps, R64 p.2.v) (c : Cx F0 h0 h [rMp .i64 mW known ps])
    (hR : ∀ v h', Cx F0 h0 h' [rMp .i64 mW known ps, rSpace v (newS ps)] → R v h') : F_space_New S I known h R := by
  unfold F_space_New
  refine c.mmk .i64 mW fun km h1 c => ?_
  refine c.mmk .i64 mB fun rm h1 c => ?_
  refine vb rfl ?_
  let u : SpV := ⟨km, rm, none, 0, 0, 0, false⟩
  refine c.nw ESp u rfl fun p h1 c => ?_
  refine c.range 0 rfl fun r m h1 hm c => ?_
  subst hm
  refine Lp0.by (fun (x : List Nat × List (Int × W3)) h' => Cx F0 h0 h' [rIt .i64 mW r m ps x.1, rMp .i64 mW (.map (some km)) x.2, rMp .i64 mB (.map (some rm)) [], rVar ESp p u] ∧ x.1.Nodup ∧ (∀ j ∈ x.1, j < ps.length) ∧
    ∀ a w, lookA x.2 a = some w ↔ ∃ j ∈ x.1, ps[j]? = some (a, w) ∧ w.ref = 0) (fun x => ps.length - x.1.length) ([], []) ⟨c, List.nodup_nil, (fun j hj => by cases hj), (fun a w => by simp [lookA])⟩ ?_
  rintro ⟨D, qs⟩ h' ⟨c, hnd, hlt, hq⟩ again hagain
  dsimp only at *
  refine c.next 0 rfl (fun hall c => ?_) fun j pr h2 hpj hjD c he => ?_
  · simp only [go_sem]
    have c1 : Cx F0 h0 h' [rMp .i64 mW (.map (some m)) ps, rMp .i64 mW (.map (some km)) qs, rMp .i64 mB (.map (some rm)) [], rVar ESp p u, rSl EPt u.pv []] :=
      c.add (F' := fun _ => False) ⟨.nil, fun q => by simp [blk, u, SpV.pv]⟩ (.refl _ _) fun r e => e.elim
    have hfin : ∀ a, lookA qs a = (newS ps).kn a := by
      intro a
      have key : ∀ w, lookA qs a = some w ↔ (newS ps).kn a = some w := by
        intro w
        rw [hq]
        simp only [newS, Option.filter_eq_some_iff, beq_iff_eq]
        rw [← lookA_mem hn]
        constructor
        · rintro ⟨j, _, hj, hr⟩; exact ⟨List.mem_of_getElem? hj, hr⟩
        · rintro ⟨hm, hr⟩
          obtain ⟨j, hj⟩ := List.mem_iff_getElem?.1 hm
          exact ⟨j, hall j (List.getElem?_eq_some_iff.mp hj).1, hj, hr⟩
      cases h1 : lookA qs a with
      | some w => exact ((key w).1 h1).symm
      | none =>
        cases h2 : (newS ps).kn a with
        | none => rfl
        | some w => rw [(key w).2 h2] at h1; cases h1
    have c2 := (c1.front 3 rfl).front 1 rfl
    have c3 := (c2.pack (L := [_])).conv (i := 1) rfl (B := rSpace (at0 p) (newS ps)) fun F' hF' => ⟨⟨p, u, qs⟩, ⟨rfl, rfl, rfl, hfin, newS_wf hv⟩, hF'⟩
    exact hR _ _ c3
  · simp only [go_sem]
    rw [he]
    simp only [go_sem]
    refine c.nw EW W0 rfl fun rw h3 c => ?_
    refine c.sto 4 rfl pr.2 rfl rfl fun h4 c => ?_
    refine (c.va (i := 4) rfl).fld (j := 2) rfl ?_
    simp only [go_sem]
    have hnd' : (D ++ [j]).Nodup := by
      rw [List.nodup_append]
      exact ⟨hnd, by simp, fun a ha b hb e => hjD (by simp only [List.mem_singleton] at hb; rw [← hb, ← e]; exact ha)⟩
    have hjl := (List.getElem?_eq_some_iff.mp hpj).1
    have hlt' : ∀ x ∈ D ++ [j], x < ps.length := fun x hx => by
      rcases List.mem_append.1 hx with hx | hx
      · exact hlt x hx
      · simp only [List.mem_singleton] at hx; omega
    have hm : ps.length - (D ++ [j]).length < ps.length - D.length := by
      have hle : D.length < ps.length := by
        have := nodup_len hnd' hlt'
        simp only [List.length_append, List.length_singleton] at this
        omega
      simp only [List.length_append, List.length_singleton]; omega
    refine brd (fun h5 => ?_) fun h5 => ?_
    · refine space_fld c (i := 3) rfl (j := 0) rfl ?_
      refine vb ((c.va (i := 4) rfl).whole rfl) ?_
      refine c.mup 1 rfl pr.1 pr.2 rfl fun h6 c => ?_
      refine hagain (D ++ [j], updA qs pr.1 pr.2) _ ⟨c.drop (L := [_, _, _, _]) (L' := [_]), hnd', hlt', fun a w => ?_⟩ hm
      dsimp only
      rw [lookA_updA]
      by_cases e : a = pr.1
      · rw [if_pos e]
        constructor
        · intro e2; simp only [Option.some.injEq] at e2; subst e2
          exact ⟨j, by simp, by rw [hpj, e], h5⟩
        · rintro ⟨i, hi, hpi, hr⟩
          have := nodup_at hn hpi hpj e
          subst this
          rw [hpj] at hpi; cases hpi; rfl
      · rw [if_neg e, hq]
        constructor
        · rintro ⟨i, hi, hpi, hr⟩; exact ⟨i, List.mem_append_left _ hi, hpi, hr⟩
        · rintro ⟨i, hi, hpi, hr⟩
          rcases List.mem_append.1 hi with hi | hi
          · exact ⟨i, hi, hpi, hr⟩
          · simp only [List.mem_singleton] at hi
            subst hi
            rw [hpj] at hpi; cases hpi; exact absurd rfl e
    · refine hagain (D ++ [j], qs) _ ⟨c.drop (L := [_, _, _, _]) (L' := [_]), hnd', hlt', fun a w => ?_⟩ hm
      dsimp only
      rw [hq]
      constructor
      · rintro ⟨i, hi, hpi, hr⟩; exact ⟨i, List.mem_append_left _ hi, hpi, hr⟩
      · rintro ⟨i, hi, hpi, hr⟩
        rcases List.mem_append.1 hi with hi | hi
        · exact ⟨i, hi, hpi, hr⟩
        · simp only [List.mem_singleton] at hi
          subst hi
          rw [hpj] at hpi; cases hpi; exact absurd hr h5

/-! ### The steps as programs -/
structure CsD (S : Sys) (I : Ids) : Prop extends CsC S I where
  get : ∀ {s a}, Does S I.f_space_Space_Get [s, .int .i64 a] s (gt a) uI
  put : ∀ {s a v}, Does S I.f_space_Space_Put [s, .int .i64 a, .int .i64 v] s (pt a v) uU
  back : ∀ {s m}, Does S I.f_space_Space_Back [s, .int .i64 m] s (bk m) uU
  mark : ∀ {s}, Does S I.f_space_Space_Mark [s] s mk uI
  new : ∀ {known ps F0 h0 h R}, (ps.map (·.1)).Nodup → (∀ p ∈ ps, R64 p.2.v) → Cx F0 h0 h [rMp .i64 mW known ps] →
    (∀ v h', Cx F0 h0 h' [rMp .i64 mW known ps, rSpace v (newS ps)] → R v h') → S.C I.f_space_New [known] h R
end Go.En
namespace Go.En
open Prog Spc

variable {S : Sys} {I : Ids} {h h0 h' : Hp} {F F0 : Fp} {R : Value → Hp → Prop} {s : Value} {σ : Spc} {L : List Res}

structure Pl where
  root : Int
  frm : Int
  nodes : Int
def EPl : Enc Pl := { n := 3, c := fun p => [.int .i64 p.root, .int .i64 p.frm, .int .i64 p.nodes], len := fun _ => rfl, one := fun a v h => by simp only [List.mem_cons, List.not_mem_nil, or_false] at h; rcases h with rfl | rfl | rfl <;> rfl }
def vP (p : Pl) : Value := .agg ⟨EPl.c p⟩
structure Pl.good (p : Pl) : Prop where
  r0 : 0 ≤ p.root
  f1 : 1 ≤ p.frm
  n0 : 0 ≤ p.nodes
  n1 : p.nodes ≤ 128
  r1 : p.root ≤ 4093
  f2 : p.frm + 8 * p.nodes ≤ 4096
  ap : p.nodes = 0 ∨ p.root + 3 ≤ p.frm ∨ p.frm + 8 * p.nodes ≤ p.root
instance (p : Pl) : Decidable p.good := decidable_of_iff (0 ≤ p.root ∧ 1 ≤ p.frm ∧ 0 ≤ p.nodes ∧ p.nodes ≤ 128 ∧ p.root ≤ 4093 ∧ p.frm + 8 * p.nodes ≤ 4096 ∧ (p.nodes = 0 ∨ p.root + 3 ≤ p.frm ∨ p.frm + 8 * p.nodes ≤ p.root))
  ⟨fun ⟨a, b, c, d, e, f, g⟩ => ⟨a, b, c, d, e, f, g⟩, fun ⟨a, b, c, d, e, f, g⟩ => ⟨a, b, c, d, e, f, g⟩⟩

/-- a function that gives a value and turns nothing -/
def Pur (S : Sys) (f : Nat) (args : List Value) (v : Value) : Prop := ∀ h R, (∀ h', Gr h h' → R v h') → S.C f args h R
theorem Cx.pur {f : Nat} {args : List Value} {v : Value} (D : Pur S f args v) (c : Cx F0 h0 h L) (k : ∀ h', Cx F0 h0 h' L → R v h') : S.C f args h R := D h R fun h' g => k h' (c.more g)
theorem Pur.of {f : Nat} {args : List Value} {v : Value} (H : ∀ h R, Cx (fun _ => False) h h [] → (∀ h' M, Cx (fun _ => False) h h' M → R v h') → S.C f args h R) : Pur S f args v :=
  fun h R hR => H h R (Cx.start0 h) fun h' _ c => hR h' c.gr

/-- the fields of a pool -/
theorem pl0 {i r : Nat} {p : Pl} (c : Cx F0 h0 h L) (hi : L[i]? = some (rVar EPl r p)) : ldc (.pointer (some ⟨r, 0 + 0, none⟩)) h = some (.int .i64 p.root) := (c.va hi).row.ldc (j := 0) rfl
theorem pl1 {i r : Nat} {p : Pl} (c : Cx F0 h0 h L) (hi : L[i]? = some (rVar EPl r p)) : ldc (.pointer (some ⟨r, 0 + 1, none⟩)) h = some (.int .i64 p.frm) := (c.va hi).row.ldc (j := 1) rfl
theorem pl2 {i r : Nat} {p : Pl} (c : Cx F0 h0 h L) (hi : L[i]? = some (rVar EPl r p)) : ldc (.pointer (some ⟨r, 0 + 2, none⟩)) h = some (.int .i64 p.nodes) := (c.va hi).row.ldc (j := 2) rfl
theorem plA {i r : Nat} {p : Pl} (c : Cx F0 h0 h L) (hi : L[i]? = some (rVar EPl r p)) : lda 3 (.pointer (some ⟨r, 0, none⟩)) h = some (vP p) := (c.va hi).whole rfl

theorem K_Check {p : Pl} : ∀ h R, Cx (fun _ => False) h h [] → (∀ h' M, Cx (fun _ => False) h h' M → R (.int .i64 (if p.good then 0 else 1)) h') → F_pool_Pool_Check S I (vP p) h R := by
  intro h R c hR
  unfold F_pool_Pool_Check
  refine c.nw EPl p rfl fun r h1 c => ?_
  have e0 := pl0 (i := 0) c rfl
  have e1 := pl1 (i := 0) c rfl
  have e2 := pl2 (i := 0) c rfl
  have hR := hR _ _ c
  repeat' first
    | refine Jn1.here ?_
    | simp only [go_sem, e0, e1, e2]
    | rw [wr64 (n := 8 * p.nodes) (by omega)]
    | rw [wr64 (n := 4096 - 8 * p.nodes) (by omega)]
    | rw [wr64 (n := p.root + 3) (by omega)]
    | rw [wr64 (n := p.frm + 8 * p.nodes) (by omega)]
    | refine brd (fun _ => ?_) (fun _ => ?_)
  all_goals first
    | (rw [if_pos ⟨by omega, by omega, by omega, by omega, by omega, by omega, by omega⟩] at hR; exact hR)
    | (rw [if_neg (fun ⟨a, b, c, d, e, f, g⟩ => by omega)] at hR; exact hR)

def Pl.node (p : Pl) (a : Int) : Option Int := if p.good ∧ p.frm ≤ a ∧ (a - p.frm) % 8 = 0 ∧ (a - p.frm) / 8 < p.nodes then some ((a - p.frm) / 8) else none
def vN (o : Option Int) : Value := .tuple #[.int .i64 (o.getD 0), .bool o.isSome]
theorem node_some {p : Pl} {a n : Int} (h : p.node a = some n) : p.good ∧ a = p.frm + 8 * n ∧ 0 ≤ n ∧ n < p.nodes := by
  unfold Pl.node at h
  split at h
  · rename_i g
    simp only [Option.some.injEq] at h
    exact ⟨g.1, by omega, by omega, by omega⟩
  · cases h
theorem node_at {p : Pl} (g : p.good) {n : Int} (h0 : 0 ≤ n) (h1 : n < p.nodes) : p.node (p.frm + 8 * n) = some n := by
  unfold Pl.node
  rw [if_pos ⟨g, by omega, by omega, by omega⟩]
  congr 1; omega
theorem node_lt {p : Pl} {a n : Int} (h : p.node a = some n) : 1 ≤ a ∧ a ≤ 4088 := by
  obtain ⟨g, e, h0, h1⟩ := node_some h
  have := g.f1; have := g.f2; have := g.n1; omega

structure CsP (S : Sys) (I : Ids) : Prop extends CsD S I where
  check : ∀ {p : Pl}, Pur S I.f_pool_Pool_Check [vP p] (.int .i64 (if p.good then 0 else 1))

theorem K_Node {p : Pl} {a : Int} (ha : R64 a) (cs : CsP S I) : ∀ h R, Cx (fun _ => False) h h [] → (∀ h' M, Cx (fun _ => False) h h' M → R (vN (p.node a)) h') → F_pool_Pool_Node S I (vP p) (.int .i64 a) h R := by
  intro h R c hR
  unfold F_pool_Pool_Node
  refine c.nw EPl p rfl fun r h1 c => ?_
  refine .here ?_
  rw [plA (i := 0) c rfl]
  simp only [go_sem]
  refine c.pur cs.check fun h2 c => ?_
  have e1 := pl1 (i := 0) c rfl
  have e2 := pl2 (i := 0) c rfl
  have hR := hR _ _ c
  unfold Pl.node at hR
  simp only [go_sem, e1, e2]
  by_cases g : p.good
  · have := g.f1; have := g.f2; have := g.n1; have := g.n0
    simp only [g, if_true, true_and] at hR ⊢
    simp only [ne_eq, not_true_eq_false, decide_false, go_sem]
    refine brd (fun h3 => ?_) fun h3 => ?_
    · rw [if_neg (fun e => by omega)] at hR; exact hR
    · rw [wr64 (n := a - p.frm) (by omega), bin_rem (by omega), bin_quo (by omega)]
      simp only [go_sem]
      rw [Int.tmod_eq_emod_of_nonneg (by omega), Int.tdiv_eq_ediv_of_nonneg (by omega), wr64 (n := (a - p.frm) / 8) (by omega)]
      refine brd (fun h4 => ?_) fun h4 => ?_
      · rw [if_neg (fun e => h4 e.2.1)] at hR; exact hR
      · refine brd (fun h5 => ?_) fun h5 => ?_
        · rw [if_neg (fun e => by omega)] at hR; exact hR
        · rw [if_pos ⟨by omega, by omega, by omega⟩] at hR; exact hR
  · simp only [g, if_false, false_and] at hR ⊢
    simp only [ne_eq, Int.one_ne_zero, not_false_eq_true, decide_true, go_sem]
    exact hR
end Go.En
namespace Go.En
open Prog Spc

variable {S : Sys} {I : Ids} {h h0 h' : Hp} {F F0 : Fp} {R : Value → Hp → Prop} {s : Value} {σ : Spc} {L : List Res}

def uE (x : Int × Int) : Value := .tuple #[.int .i64 x.1, .int .i64 x.2]
@[go_sem] theorem uE_def (x : Int × Int) : uE x = .tuple #[.int .i64 x.1, .int .i64 x.2] := rfl

def pAdd (p : Pl) (k n : Int) : Prog Unit := do
  let v ← gt (p.root + k)
  pt (p.root + k) (w64 (v + n))
def pTake (p : Pl) : Prog (Int × Int) :=
  if p.good then do
    let first ← gt p.root
    if first ≠ 0 then
      if (p.node first).isSome then do
        let nx ← gt first
        pt p.root nx
        pAdd p 2 (-1)
        pure (first, 0)
      else pure (0, 24)
    else do
      let n ← gt (p.root + 1)
      if n < 0 ∨ p.nodes ≤ n then pure (0, 9)
      else do
        pt (p.root + 1) (n + 1)
        pure (p.frm + 8 * n, 0)
  else pure (0, 1)
def pGive (p : Pl) (a : Int) : Prog Int :=
  if (p.node a).isSome then do
    let r ← gt p.root
    pt a r
    pt p.root a
    pAdd p 2 1
    pure 0
  else pure 1
def pLeft (p : Pl) : Prog Int :=
  if p.good then do
    let f ← gt (p.root + 2)
    let o ← gt (p.root + 1)
    pure (max (w64 (w64 (f + p.nodes) - o)) 0)
  else pure 0

@[go_sem] theorem mx_int (a b : Int) : mx (.int .i64 a) (.int .i64 b) = some (.int .i64 (max a b)) := by
  simp only [mx]; rw [Int.max_def]; split <;> split <;> first | rfl | (congr 2; omega)
structure CsQ (S : Sys) (I : Ids) : Prop extends CsP S I where
  node : ∀ {p : Pl} {a : Int}, R64 a → Pur S I.f_pool_Pool_Node [vP p, .int .i64 a] (vN (p.node a))

theorem K_add {p : Pl} {k n : Int} (cs : CsQ S I) (hr : 0 ≤ p.root ∧ p.root ≤ 4093) (hk : 0 ≤ k ∧ k ≤ 2) :
    ∀ h0 F σ R Q, Cx F h0 h0 [rSpace s σ] → wp (pAdd p k n) σ Q → (∀ a σ' h' M, Cx F h0 h' (rSpace s σ' :: M) → Q a σ' → R (uU a) h') → F_pool_Pool_add S I (vP p) s (.int .i64 k) (.int .i64 n) h0 R := by
  intro h0 F σ R Q c hp hR
  unfold F_pool_Pool_add
  refine c.nw EPl p rfl fun r h1 c => ?_
  simp only [go_sem, pl0 (i := 1) c rfl]
  rw [wr64 (n := p.root + k) (by omega)]
  refine c.does cs.get 0 rfl hp fun v σ h2 c hp => ?_
  refine ⟨pl0 (i := 1) c rfl, ?_⟩
  simp only [go_sem]
  refine c.last cs.put 0 rfl hp fun _ σ h3 c hp => ?_
  exact hR _ _ _ _ c hp

structure CsR (S : Sys) (I : Ids) : Prop extends CsQ S I where
  add : ∀ {p : Pl} {k n : Int} {s}, 0 ≤ p.root ∧ p.root ≤ 4093 → 0 ≤ k ∧ k ≤ 2 → Does S I.f_pool_Pool_add [vP p, s, .int .i64 k, .int .i64 n] s (pAdd p k n) uU

theorem K_Take {p : Pl} (cs : CsR S I) :
    ∀ h0 F σ R Q, Cx F h0 h0 [rSpace s σ] → wp (pTake p) σ Q → (∀ a σ' h' M, Cx F h0 h' (rSpace s σ' :: M) → Q a σ' → R (uE a) h') → F_pool_Pool_Take S I (vP p) s h0 R := by
  intro h0 F σ R Q c hp hR
  unfold F_pool_Pool_Take
  refine c.nw EPl p rfl fun r h1 c => ?_
  rw [plA (i := 1) c rfl]
  simp only [go_sem]
  refine c.pur cs.check fun h2 c => ?_
  unfold pTake at hp
  by_cases g : p.good
  · have := g.f1; have := g.f2; have := g.n1; have := g.n0; have := g.r0; have := g.r1
    simp only [g, if_true] at hp ⊢
    simp only [go_sem, pl0 (i := 1) c rfl, ne_eq, not_true_eq_false, decide_false]
    refine c.doesE cs.get (Ens.gt _) 0 rfl hp fun v σ h2 hv c hp => ?_
    simp only [go_sem]
    refine brd (fun h3 => ?_) fun h3 => ?_
    · rw [if_pos h3] at hp
      rw [plA (i := 1) c rfl]
      simp only [go_sem]
      refine c.pur (cs.node hv) fun h4 c => ?_
      simp only [vN, go_sem]
      cases hn : p.node v with
      | none =>
        simp only [hn, Option.isSome_none, Bool.false_eq_true, if_false] at hp
        simp only [Option.isSome_none, Bool.not_false, go_sem]
        exact hR _ _ _ _ c hp
      | some n =>
        simp only [hn, Option.isSome_some, if_true] at hp
        simp only [Option.isSome_some, Bool.not_true, go_sem, pl0 (i := 1) c rfl]
        refine c.does cs.get 0 rfl hp fun nx σ h5 c hp => ?_
        refine ⟨pl0 (i := 1) c rfl, ?_⟩
        refine c.does cs.put 0 rfl hp fun _ σ h6 c hp => ?_
        rw [plA (i := 1) c rfl]
        simp only [go_sem]
        refine c.does (cs.add ⟨by omega, by omega⟩ ⟨by omega, by omega⟩) 0 rfl hp fun _ σ h7 c hp => ?_
        exact hR _ _ _ _ c hp
    · rw [if_neg h3] at hp
      simp only [go_sem, pl0 (i := 1) c rfl]
      rw [wr64 (n := p.root + 1) (by omega)]
      refine c.doesE cs.get (Ens.gt _) 0 rfl hp fun n σ h4 hn c hp => ?_
      refine .here ?_
      simp only [go_sem]
      have hfull : n < 0 ∨ p.nodes ≤ n → R (.tuple #[.int .i64 0, .int .i64 9]) h4 := fun e => by
        rw [if_pos e] at hp
        exact hR _ _ _ _ c hp
      refine brd (fun h5 => hfull (.inl h5)) fun h5 => ?_
      simp only [go_sem, pl2 (i := 1) c rfl]
      refine brd (fun h6 => hfull (.inr h6)) fun h6 => ?_
      rw [if_neg (by omega)] at hp
      simp only [go_sem, pl0 (i := 1) c rfl]
      rw [wr64 (n := p.root + 1) (by omega), wr64 (n := n + 1) (by omega)]
      refine c.does cs.put 0 rfl hp fun _ σ h7 c hp => ?_
      simp only [go_sem, pl1 (i := 1) c rfl]
      rw [wr64 (n := 8 * n) (by omega), wr64 (n := p.frm + 8 * n) (by omega)]
      exact hR _ _ _ _ c hp
  · simp only [g, if_false] at hp ⊢
    simp only [ne_eq, Int.one_ne_zero, not_false_eq_true, decide_true, go_sem]
    exact hR _ _ _ _ c hp

theorem K_Give {p : Pl} {a : Int} (ha : R64 a) (cs : CsR S I) :
    ∀ h0 F σ R Q, Cx F h0 h0 [rSpace s σ] → wp (pGive p a) σ Q → (∀ a σ' h' M, Cx F h0 h' (rSpace s σ' :: M) → Q a σ' → R (uI a) h') → F_pool_Pool_Give S I (vP p) s (.int .i64 a) h0 R := by
  intro h0 F σ R Q c hp hR
  unfold F_pool_Pool_Give
  refine c.nw EPl p rfl fun r h1 c => ?_
  rw [plA (i := 1) c rfl]
  simp only [go_sem]
  refine c.pur (cs.node ha) fun h2 c => ?_
  simp only [vN, go_sem]
  unfold pGive at hp
  cases hn : p.node a with
  | none =>
    simp only [hn, Option.isSome_none, Bool.false_eq_true, if_false] at hp
    simp only [Option.isSome_none, Bool.not_false, go_sem]
    exact hR _ _ _ _ c hp
  | some n =>
    obtain ⟨g, _⟩ := node_some hn
    have := g.r0; have := g.r1
    simp only [hn, Option.isSome_some, if_true] at hp
    simp only [Option.isSome_some, Bool.not_true, go_sem, pl0 (i := 1) c rfl]
    refine c.does cs.get 0 rfl hp fun v σ h3 c hp => ?_
    refine c.does cs.put 0 rfl hp fun _ σ h4 c hp => ?_
    simp only [go_sem, pl0 (i := 1) c rfl]
    refine c.does cs.put 0 rfl hp fun _ σ h5 c hp => ?_
    rw [plA (i := 1) c rfl]
    simp only [go_sem]
    refine c.does (cs.add ⟨by omega, by omega⟩ ⟨by omega, by omega⟩) 0 rfl hp fun _ σ h7 c hp => ?_
    exact hR _ _ _ _ c hp

theorem K_Left {p : Pl} (cs : CsR S I) :
    ∀ h0 F σ R Q, Cx F h0 h0 [rSpace s σ] → wp (pLeft p) σ Q → (∀ a σ' h' M, Cx F h0 h' (rSpace s σ' :: M) → Q a σ' → R (uI a) h') → F_pool_Pool_Left S I (vP p) s h0 R := by
  intro h0 F σ R Q c hp hR
  unfold F_pool_Pool_Left
  refine c.nw EPl p rfl fun r h1 c => ?_
  rw [plA (i := 1) c rfl]
  simp only [go_sem]
  refine c.pur cs.check fun h2 c => ?_
  unfold pLeft at hp
  by_cases g : p.good
  · have := g.f1; have := g.f2; have := g.n1; have := g.n0; have := g.r0; have := g.r1
    simp only [g, if_true] at hp ⊢
    simp only [go_sem, pl0 (i := 1) c rfl, pl2 (i := 1) c rfl, ne_eq, not_true_eq_false, decide_false]
    rw [wr64 (n := p.root + 2) (by omega), wr64 (n := p.root + 1) (by omega)]
    refine c.does cs.get 0 rfl hp fun f σ h3 c hp => ?_
    refine ⟨pl0 (i := 1) c rfl, pl2 (i := 1) c rfl, ?_⟩
    simp only [go_sem]
    refine c.does cs.get 0 rfl hp fun o σ h4 c hp => ?_
    refine ⟨pl2 (i := 1) c rfl, ?_⟩
    simp only [uI, go_sem]
    exact hR _ _ _ _ c hp
  · simp only [g, if_false] at hp ⊢
    simp only [ne_eq, Int.one_ne_zero, not_false_eq_true, decide_true, go_sem]
    exact hR _ _ _ _ c hp

structure CsT (S : Sys) (I : Ids) : Prop extends CsR S I where
  take : ∀ {p : Pl} {s}, Does S I.f_pool_Pool_Take [vP p, s] s (pTake p) uE
  give : ∀ {p : Pl} {a : Int} {s}, R64 a → Does S I.f_pool_Pool_Give [vP p, s, .int .i64 a] s (pGive p a) uI
  left : ∀ {p : Pl} {s}, Does S I.f_pool_Pool_Left [vP p, s] s (pLeft p) uI

theorem Ens.ite {α : Type} {c : Prop} [Decidable c] {p q : Prog α} {P : α → Prop} (h1 : c → Ens p P) (h2 : ¬c → Ens q P) : Ens (if c then p else q) P := by
  split
  · exact h1 (by assumption)
  · exact h2 (by assumption)
theorem Ens.then {α β : Type} {p : Prog α} {f : α → Prog β} {P' : β → Prop} (h' : ∀ a, Ens (f a) P') : Ens (p >>= f) P' := Ens.bind (Ens.any p) fun a _ => h' a
/-- what an allocation gives -/
theorem Ens.take (p : Pl) : Ens (pTake p) fun r => (r.2 = 0 ∧ (p.node r.1).isSome = true) ∨ (r.1 = 0 ∧ (r.2 = 1 ∨ r.2 = 9 ∨ r.2 = 24)) := by
  unfold pTake
  refine .ite (fun g => ?_) fun _ => .pure (.inr ⟨rfl, .inl rfl⟩)
  refine .then fun first => .ite (fun _ => .ite (fun hn => ?_) fun _ => .pure (.inr ⟨rfl, .inr (.inr rfl)⟩)) fun _ => ?_
  · exact .then fun _ => .then fun _ => .then fun _ => .pure (.inl ⟨rfl, hn⟩)
  · refine .then fun n => .ite (fun _ => .pure (.inr ⟨rfl, .inr (.inl rfl)⟩)) fun hn => .then fun _ => .pure (.inl ⟨rfl, ?_⟩)
    rw [node_at g (by omega) (by omega)]; rfl
end Go.En
namespace Go.En
open Prog Spc

variable {S : Sys} {I : Ids} {h h0 h' : Hp} {F F0 : Fp} {s : Value} {σ : Spc} {L : List Res}

/-- the block r holds ob -/
def rObj (r : Nat) (ob : Obj) : Res where
  P := fun h F => h[r]? = some ob ∧ ∀ q, F q ↔ q = r
  lt := fun {h F} ⟨v, hf⟩ q hq => by rw [hf] at hq; subst hq; exact (Array.getElem?_eq_some_iff.mp v).1
  loc := fun {h h' F D} ⟨v, hf⟩ c hd => ⟨by rw [c.same r (Array.getElem?_eq_some_iff.mp v).1 (hd r ((hf r).2 rfl))]; exact v, hf⟩
theorem Cx.obj {i r : Nat} {ob : Obj} (c : Cx F0 h0 h L) (hi : L[i]? = some (rObj r ob)) : h[r]? = some ob := let ⟨_, p, _⟩ := c.get hi; p
theorem Cx.pushObj (c : Cx F0 h0 h L) (ob : Obj) : Cx F0 h0 (h.push ob) (L ++ [rObj h.size ob]) :=
  c.add (F' := fun q => q = h.size) ⟨by simp, fun _ => Iff.rfl⟩ (Ch.push _ _) fun r e => by omega
theorem Cx.setObj {i r : Nat} {ob : Obj} (c : Cx F0 h0 h L) (hi : L[i]? = some (rObj r ob)) (ob' : Obj) : Cx F0 h0 (h.setIfInBounds r ob') (L.set i (rObj r ob')) := by
  obtain ⟨F, ⟨v, hf⟩, up⟩ := c.upd hi
  have hlt := (Array.getElem?_eq_some_iff.mp v).1
  refine up (F' := F) ⟨by rw [Array.getElem?_setIfInBounds, if_pos rfl, if_pos hlt], hf⟩ (mv_same ⟨by simp, fun q hq hn => ?_⟩)
  rw [Array.getElem?_setIfInBounds, if_neg (fun e => hn ((hf q).2 e.symm))]
/-- the loop's record -/
def lpO (o : Loop) (st : LoopState) (pd : Option Code) : Obj := .loop { o with state := st, pending := pd }
theorem Cx.lpat {i l : Nat} {o : Loop} {st : LoopState} {pd : Option Code} (c : Cx F0 h0 h L) (hi : L[i]? = some (rObj l (lpO o st pd))) : LpAt o l h := ⟨st, pd, c.obj hi⟩
theorem Cx.bgn {i l : Nat} {o : Loop} {pd : Option Code} (c : Cx F0 h0 h L) (hi : L[i]? = some (rObj l (lpO o .ready pd))) {k : Hp → Prop} (hk : ∀ h', Cx F0 h0 h' (L.set i (rObj l (lpO o .busy pd))) → k h') : Sb (En.bgn l h) k := by
  refine sb ?_ (hk _ (c.setObj hi _))
  unfold En.bgn
  rw [c.obj hi]
  rfl
theorem Cx.fin' {i l : Nat} {o : Loop} {st : LoopState} {pd : Option Code} (j : Option Code) (c : Cx F0 h0 h L) (hi : L[i]? = some (rObj l (lpO o st pd))) {k : Hp → Prop} (hk : ∀ h', Cx F0 h0 h' (L.set i (rObj l (lpO o (if j.isNone then .ready else .done) j))) → k h') : Sb (En.fin l j h) k := by
  refine sb ?_ (hk _ (c.setObj hi _))
  unfold En.fin
  rw [c.obj hi]
  rfl
theorem Cx.endl {i l : Nat} {o : Loop} {st : LoopState} {pd : Option Code} (c : Cx F0 h0 h L) (hi : L[i]? = some (rObj l (lpO o st pd))) (hs : st ≠ .busy) : ∃ h', En.endl l h = some (pd, h') ∧ Cx F0 h0 h' (L.set i (rObj l (lpO o .exhausted pd))) := by
  refine ⟨_, ?_, c.setObj hi _⟩
  unfold En.endl
  rw [c.obj hi]
  cases st <;> first | rfl | exact absurd rfl hs
theorem Cx.tkd {i r : Nat} (c : Cx F0 h0 h L) (hi : L[i]? = some (rObj r (.deferred (some [])))) {k : Hp → Prop} (hk : ∀ h', Cx F0 h0 h' (L.set i (rObj r (.deferred none))) → k h') : Sb (En.tkd r h) k := by
  refine sb ?_ (hk _ (c.setObj hi _))
  unfold En.tkd
  rw [c.obj hi]
/-- a range over a function: the function is called with the loop's record at hand -/
theorem Cx.rg {g : Value} {round : Nat → List Value → Hp → (Value → Hp → Prop) → Prop} {aft : Option Code → Hp → Prop} (c : Cx F0 h0 h L) {f : FuncId} {first cap : List Value} (hg : g = .func (.func f) ⟨first⟩ ⟨cap⟩)
    (hk : ∀ l d o h', d = h.size → (∀ args h' R, LpAt o l h' → round l args h' R → S.Y l args h' R) → Cx F0 h0 h' (L ++ [rObj d (.deferred (some []))] ++ [rObj l (lpO o .ready none)]) →
      S.C f (first ++ [.func (.yield l) #[] #[]] ++ cap) h' fun _ h2 => ∃ j h3, En.endl l h2 = some (j, h3) ∧ aft j h3) : Rg S.C S.Y g h round aft := by
  intro o ho hp hY
  have c1 := (c.pushObj (.deferred (some []))).pushObj (.loop o)
  have e1 : (h.push (.deferred (some []))).size = h.size + 1 := by simp
  rw [e1] at c1
  have e2 : Obj.loop o = lpO o .ready none := by unfold lpO; rw [← ho, ← hp]
  refine ⟨f, ⟨first⟩, ⟨cap⟩, hg, ?_⟩
  rw [e2] at c1 ⊢
  exact hk _ _ o _ rfl hY c1
/-- a new slice of one element -/
theorem Cx.bsl1 {α : Type} (E : Enc α) (x : α) (c : Cx F0 h0 h L) {e : TypeId} {zero : Array Value} {n : Nat} {w : Value} {k : Value → Hp → Prop} (hn : n = E.n) (hw : w.cells.toList = E.c x)
    (hk : ∀ u h', Cx F0 h0 h' (L ++ [rSl E u [x]]) → k u h') : Eb (bsl zero n 1 e [(0, w)] h) k := by
  refine eb (bsl_ok (us := [w]) rfl rfl (fun u hu => by simp only [List.mem_singleton] at hu; subst hu; rw [hn, ← E.len x, ← hw]; rfl)) (hk _ _ (c.add (F' := fun q => q = h.size) ⟨Ow.lit (xs := [x]) (by simp [hw]) rfl, fun q => by simp [blk, eq_comm]⟩ (Ch.push _ _) fun r e => by omega))
/-- a new slice of no elements -/
theorem Cx.bsl0 {α : Type} (E : Enc α) (c : Cx F0 h0 h L) {e : TypeId} {zero : Array Value} {n : Nat} {k : Value → Hp → Prop}
    (hk : ∀ u h', Cx F0 h0 h' (L ++ [rSl E u []]) → k u h') : Eb (bsl zero n 0 e [] h) k := by
  refine eb (bsl_ok (us := []) rfl rfl (fun u hu => by cases hu)) (hk _ _ (c.add (F' := fun q => q = h.size) ⟨Ow.lit (xs := ([] : List α)) (by simp) rfl, fun q => by simp [blk, eq_comm]⟩ (Ch.push _ _) fun r e => by omega))
/-- a slice appended to a slice of the context -/
theorem Cx.ap {α : Type} {E : Enc α} {v : Value} {xs ys : List α} (c : Cx F0 h0 h L) (i : Nat) (hi : L[i]? = some (rSl E v xs)) {x : Value} (hx : Sl E h x ys) {e : TypeId} {zero : Array Value} {n bytes : Nat} {k : Value → Hp → Prop}
    (hn : n = E.n) (hz : zero.size = E.n) (hb : (xs.length + ys.length) * bytes ≤ 140737488355328) (hl : xs.length + ys.length ≤ 9223372036854775807)
    (hk : ∀ v' h', Cx F0 h0 h' (L.set i (rSl E v' (xs ++ ys))) → k v' h') : Ap e zero n bytes v x h k := by
  obtain ⟨F, ⟨o, hf⟩, up⟩ := c.upd hi
  refine apw o hx hn hz hb hl fun v' h' o' ch nw => hk v' h' (up (F' := fun q => blk v' = some q) ⟨o', fun _ => Iff.rfl⟩ ⟨ch.mono fun q _ e => (hf q).2 e, fun r hr => ?_⟩)
  rcases nw r hr with h1 | h1
  · exact .inl ((hf r).2 h1)
  · exact .inr h1
/-- a literal slice -/
theorem Cx.bslN {α : Type} (E : Enc α) (xs : List α) (us : List Value) (c : Cx F0 h0 h L) {e : TypeId} {zero : Array Value} {n len : Nat} {parts : List (Nat × Value)} {k : Value → Hp → Prop}
    (hp : parts = us.zipIdx.map fun x => (x.2, x.1)) (hl : us.length = len) (hl2 : xs.length = len) (hu : ∀ u, u ∈ us → u.cells.size = n) (hc : (us.flatMap fun u => u.cells.toList) = xs.flatMap E.c)
    (hk : ∀ a h', Cx F0 h0 h' (L ++ [rSl E (.slice (some a) len len) xs]) → k (.slice (some a) len len) h') : Eb (bsl zero n len e parts h) k :=
  eb (bsl_ok hp hl hu) (hk _ _ (c.add (F' := fun q => q = h.size) ⟨Ow.lit hc hl2, fun q => by simp [blk, eq_comm]⟩ (Ch.push _ _) fun r e => by omega))
/-- a nil slice is added -/
theorem Cx.nil {α : Type} (E : Enc α) (c : Cx F0 h0 h L) : Cx F0 h0 h (L ++ [rSl E (.slice none 0 0) []]) :=
  c.add (F' := fun _ => False) ⟨.nil, fun q => by simp [blk]⟩ (.refl _ _) fun r e => e.elim

theorem ext0t {x y : Value} {k : Value → Prop} (hk : k x) : Vb (ext 0 (.tuple #[x, y])) k := by
  have e : ext 0 (.tuple #[x, y]) = some x := by rfl
  rw [e, vb_some]; exact hk
theorem ext1t {x y : Value} {k : Value → Prop} (hk : k y) : Vb (ext 1 (.tuple #[x, y])) k := by
  have e : ext 1 (.tuple #[x, y]) = some y := by rfl
  rw [e, vb_some]; exact hk
/-- a new slice of zeroes -/
theorem Cx.mksl {α : Type} (E : Enc α) (x0 : α) (c : Cx F0 h0 h L) {zero : Array Value} {n : Nat} {size bytes : Nat} {e : TypeId} {z : Int} (hz : z = n) (h0' : zero.toList = E.c x0) (hs : size = E.n) (hb : n ≤ 1000000000) (hb2 : bytes ≤ 10000) {k : Value → Hp → Prop}
    (hk : ∀ a h', Cx F0 h0 h' (L ++ [rSl E (.slice (some a) n n) (List.replicate n x0)]) → k (.slice (some a) n n) h') : Eb (msl zero size bytes e (.int .i64 z) (.int .i64 z) h) k := by
  subst hz
  refine make_ok h0' hs hb hb2 fun h' o g hsz => hk _ h' (c.add (F' := fun q => q = h.size) ⟨o, fun q => by simp [blk, eq_comm]⟩ g fun r e => by omega)
end Go.En
namespace Go.En
open Prog Spc

/-! ### Evaluation -/
namespace Prog
def runB {α : Type} : Prog α → Spc → Option (α × Spc)
  | .ret a, σ => some (a, σ)
  | .get a k, σ => runB (k (σ.get a).1) (σ.get a).2
  | .put a v k, σ => if R64 v ∧ σ.pu.length ≤ Spc.big then runB k (σ.put a v) else none
  | .mark k, σ => runB (k σ.pu.length) σ
  | .back m k, σ => runB k (σ.back m)
theorem wp_runB {α : Type} : ∀ {p : Prog α} {σ : Spc} {x : α × Spc} {Q : α → Spc → Prop}, runB p σ = some x → Q x.1 x.2 → wp p σ Q
  | .ret a, σ, x, Q, h, hq => by simp only [runB, Option.some.injEq] at h; subst h; exact hq
  | .get a k, σ, x, Q, h, hq => wp_runB (p := k _) h hq
  | .put a v k, σ, x, Q, h, hq => by
    simp only [runB] at h
    split at h
    · rename_i hh; exact ⟨hh.1, hh.2, wp_runB h hq⟩
    · cases h
  | .mark k, σ, x, Q, h, hq => wp_runB (p := k _) h hq
  | .back m k, σ, x, Q, h, hq => wp_runB (p := k) h hq
end Prog

/-! ### Memory -/
def upd (m : Int → Int) (a v : Int) : Int → Int := fun b => if b = a then v else m b
theorem upd_eq (m : Int → Int) (a v : Int) : upd m a v a = v := by simp [upd]
theorem upd_ne (m : Int → Int) {a b : Int} (v : Int) (h : b ≠ a) : upd m a v b = m b := by simp [upd, h]
/-- the space σ, since σ0: not ended, its words known at D, its values m, at most c writes more -/
structure Sm (D : Int → Prop) (σ0 σ : Spc) (m : Int → Int) (c : Nat) : Prop where
  kn : σ.kn = σ0.kn
  en : σ.en = false
  dom : ∀ a, D a → (σ.kn a).isSome = true
  pu : ∃ ex, σ.pu = σ0.pu ++ ex ∧ ex.length ≤ c
  vw : ∀ a, σ.vw a = m a
  rg : ∀ a, R64 (m a)
section
variable {D : Int → Prop} {σ0 σ σ' : Spc} {m : Int → Int} {c c' : Nat} {α β : Type} {Q : α → Spc → Prop}
theorem Sm.start (hd : ∀ a, D a → (σ.kn a).isSome = true) (he : σ.en = false) (hw : σ.wf) : Sm D σ σ σ.vw 0 := ⟨rfl, he, hd, ⟨[], by simp, by simp⟩, fun _ => rfl, hw.vw⟩
theorem Sm.rds (S : Sm D σ0 σ m c) (a : Int) : Sm D σ0 (σ.rds a) m c := ⟨S.kn, S.en, S.dom, S.pu, S.vw, S.rg⟩
theorem Sm.mono (S : Sm D σ0 σ m c) (h : c ≤ c') : Sm D σ0 σ m c' := let ⟨ex, h1, h2⟩ := S.pu; ⟨S.kn, S.en, S.dom, ⟨ex, h1, by omega⟩, S.vw, S.rg⟩
theorem Sm.trans {σ1 : Spc} {m1 : Int → Int} (S : Sm D σ0 σ1 m1 c) (S' : Sm D σ1 σ m c') : Sm D σ0 σ m (c + c') := by
  obtain ⟨e1, h1, h2⟩ := S.pu
  obtain ⟨e2, h3, h4⟩ := S'.pu
  exact ⟨S'.kn.trans S.kn, S'.en, S'.dom, ⟨e1 ++ e2, by rw [h3, h1, List.append_assoc], by rw [List.length_append]; omega⟩, S'.vw, S'.rg⟩
theorem Sm.fresh (S : Sm D σ0 σ m c) : Sm D σ σ m 0 := ⟨rfl, S.en, S.dom, ⟨[], by simp, by simp⟩, S.vw, S.rg⟩
theorem Sm.len (S : Sm D σ0 σ m c) : σ.pu.length ≤ σ0.pu.length + c := by
  obtain ⟨ex, h1, h2⟩ := S.pu
  rw [h1, List.length_append]; omega
theorem Sm.get (S : Sm D σ0 σ m c) {a : Int} (ha : D a) : σ.get a = (m a, σ.rds a) := by
  unfold Spc.get
  rw [S.en, S.dom a ha, S.vw]; rfl
theorem wp_get {q : Int → Prog α} (S : Sm D σ0 σ m c) {a : Int} (ha : D a) (k : ∀ σ', Sm D σ0 σ' m c → wp (q (m a)) σ' Q) : wp (gt a >>= q) σ Q := by
  rw [wp_bind, wp_gt, S.get ha]
  exact k _ (S.rds a)
theorem Sm.put (S : Sm D σ0 σ m c) {a v : Int} (ha : D a) (hv : R64 v) : Sm D σ0 (σ.put a v) (upd m a v) (c + 1) := by
  unfold Spc.put
  rw [S.en, S.dom a ha]
  obtain ⟨ex, h1, h2⟩ := S.pu
  refine ⟨S.kn, S.en, S.dom, ⟨ex ++ [(a, v)], ?_, ?_⟩, fun b => ?_, fun b => ?_⟩
  · show σ.pu ++ [(a, v)] = _
    rw [h1, List.append_assoc]
  · rw [List.length_append, List.length_singleton]; omega
  · show (lastP (σ.pu ++ [(a, v)]) b).getD _ = _
    rw [lastP_app]
    by_cases e : b = a
    · rw [if_pos e, e, upd_eq]; rfl
    · rw [if_neg e, upd_ne _ _ e, ← S.vw b]; rfl
  · unfold upd
    split
    · exact hv
    · exact S.rg b
theorem wp_put {q : Unit → Prog α} (S : Sm D σ0 σ m c) {a v : Int} (ha : D a) (hv : R64 v) (hl : σ0.pu.length + c ≤ big) (k : ∀ σ', Sm D σ0 σ' (upd m a v) (c + 1) → wp (q ()) σ' Q) : wp (pt a v >>= q) σ Q := by
  rw [wp_bind, wp_pt]
  exact ⟨hv, Nat.le_trans S.len hl, k _ (S.put ha hv)⟩
theorem wp_mark {q : Int → Prog α} (k : wp (q σ.pu.length) σ Q) : wp (mk >>= q) σ Q := by
  rw [wp_bind, wp_mk]
  exact k
theorem Sm.back {m0 : Int → Int} (S : Sm D σ0 σ m c) (h0 : ∀ a, σ0.vw a = m0 a) (hr : ∀ a, R64 (m0 a)) : Sm D σ0 (σ.back σ0.pu.length) m0 0 := by
  unfold Spc.back
  obtain ⟨ex, h1, h2⟩ := S.pu
  rw [S.en, if_neg (by simp), if_pos ⟨by omega, by rw [h1, List.length_append]; omega⟩]
  have e : σ.pu.take (Int.toNat (σ0.pu.length : Int)) = σ0.pu := by rw [h1, Int.toNat_natCast, List.take_left']; rfl
  refine ⟨S.kn, rfl, S.dom, ⟨[], by simpa using e, by simp⟩, fun a => ?_, hr⟩
  rw [← h0 a]
  unfold Spc.vw
  show (lastP (σ.pu.take _) a).getD _ = _
  rw [e]
  show (lastP σ0.pu a).getD (((σ.kn a).map (·.v)).getD 0) = _
  rw [S.kn]
theorem wp_back {m0 : Int → Int} {q : Unit → Prog α} (S : Sm D σ0 σ m c) (h0 : ∀ a, σ0.vw a = m0 a) (hr : ∀ a, R64 (m0 a)) (k : ∀ σ', Sm D σ0 σ' m0 0 → wp (q ()) σ' Q) : wp (bk σ0.pu.length >>= q) σ Q := by
  rw [wp_bind, wp_bk]
  exact k _ (S.back h0 hr)
theorem w64_R {z : Int} (h : R64 z) : w64 z = z := w64_eq h
end

/-! ### Linked nodes -/
/-- from the location a on, by the cell o of each node: the nodes l, and then 0 -/
def Lk (m : Int → Int) (o : Int) : Int → List Int → Prop
  | a, [] => a = 0
  | a, x :: r => a = x ∧ Lk m o (m (x + o)) r
theorem Lk.ext {m m' : Int → Int} {o : Int} : ∀ {l : List Int} {a : Int}, Lk m o a l → (∀ x ∈ l, m' (x + o) = m (x + o)) → Lk m' o a l
  | [], a, h, _ => h
  | x :: r, a, h, e => ⟨h.1, by rw [e x (List.mem_cons_self ..)]; exact h.2.ext fun y hy => e y (List.mem_cons_of_mem _ hy)⟩
theorem Lk.upd {m : Int → Int} {o : Int} {l : List Int} {a b v : Int} (h : Lk m o a l) (hb : ∀ x ∈ l, x + o ≠ b) : Lk (upd m b v) o a l := h.ext fun x hx => upd_ne _ _ (hb x hx)

/-- x is a node's location -/
def isN (p : Pl) (x : Int) : Prop := ∃ i, 0 ≤ i ∧ i < p.nodes ∧ x = p.frm + 8 * i
theorem isN_node {p : Pl} (g : p.good) {x : Int} (h : isN p x) : (p.node x).isSome = true := by
  obtain ⟨i, h0, h1, rfl⟩ := h
  rw [node_at g h0 h1]; rfl
theorem node_isN {p : Pl} {x : Int} (h : (p.node x).isSome = true) : isN p x := by
  obtain ⟨n, hn⟩ := Option.isSome_iff_exists.1 h
  obtain ⟨_, e, h0, h1⟩ := node_some hn
  exact ⟨n, h0, h1, e⟩
theorem isN_pos {p : Pl} (g : p.good) {x : Int} (h : isN p x) : 1 ≤ x ∧ x + 7 ≤ 4095 ∧ p.frm ≤ x ∧ x + 8 ≤ p.frm + 8 * p.nodes := by
  obtain ⟨i, h0, h1, rfl⟩ := h
  have := g.f1; have := g.f2; omega
/-- cells of nodes are apart -/
theorem isN_ne {p : Pl} {x y o o' : Int} (hx : isN p x) (hy : isN p y) (h : x ≠ y) (h0 : 0 ≤ o ∧ o ≤ 7) (h1 : 0 ≤ o' ∧ o' ≤ 7) : x + o ≠ y + o' := by
  obtain ⟨i, _, _, rfl⟩ := hx
  obtain ⟨j, _, _, rfl⟩ := hy
  omega

/-! ### The pool -/
/-- the free nodes, the head of the list first, and how many were ever handed out -/
structure PoolR (m : Int → Int) (p : Pl) (fr : List Int) (out : Int) : Prop where
  good : p.good
  link : Lk m 0 (m p.root) fr
  outE : m (p.root + 1) = out
  frE : m (p.root + 2) = fr.length
  out0 : 0 ≤ out
  out1 : out ≤ p.nodes
  fN : ∀ x ∈ fr, ∃ i, 0 ≤ i ∧ i < out ∧ x = p.frm + 8 * i
  nd : fr.Nodup
theorem PoolR.isN {m : Int → Int} {p : Pl} {fr : List Int} {out : Int} (P : PoolR m p fr out) {x : Int} (h : x ∈ fr) : En.isN p x := by
  obtain ⟨i, h0, h1, e⟩ := P.fN x h
  exact ⟨i, h0, by have := P.out1; omega, e⟩
theorem nodes_len {f out : Int} {l : List Int} (h : ∀ x ∈ l, ∃ i, 0 ≤ i ∧ i < out ∧ x = f + 8 * i) (hn : l.Nodup) (h0 : 0 ≤ out) : (l.length : Int) ≤ out := by
  have h1 : (l.map fun x => ((x - f) / 8).toNat).Nodup := by
    unfold List.Nodup
    rw [List.pairwise_map]
    refine List.Pairwise.imp_of_mem (R := (· ≠ ·)) (fun {a b} ha hb hne e => ?_) hn
    obtain ⟨i, i0, i1, rfl⟩ := h a ha
    obtain ⟨j, j0, j1, rfl⟩ := h b hb
    omega
  have := nodup_len (n := out.toNat) h1 fun k hk => by
    obtain ⟨x, hx, rfl⟩ := List.mem_map.1 hk
    obtain ⟨i, i0, i1, rfl⟩ := h x hx
    omega
  rw [List.length_map] at this
  omega
theorem PoolR.len {m : Int → Int} {p : Pl} {fr : List Int} {out : Int} (P : PoolR m p fr out) : (fr.length : Int) ≤ out := nodes_len P.fN P.nd P.out0
/-- a write elsewhere -/
theorem PoolR.ext {m m' : Int → Int} {p : Pl} {fr : List Int} {out : Int} (P : PoolR m p fr out) (h : ∀ a, (a = p.root ∨ a = p.root + 1 ∨ a = p.root + 2 ∨ a ∈ fr) → m' a = m a) : PoolR m' p fr out :=
  ⟨P.good, by rw [h _ (.inl rfl)]; exact P.link.ext fun x hx => by rw [Int.add_zero]; exact h x (.inr (.inr (.inr hx))), by rw [h _ (.inr (.inl rfl))]; exact P.outE, by rw [h _ (.inr (.inr (.inl rfl)))]; exact P.frE, P.out0, P.out1, P.fN, P.nd⟩
/-- the words of the pool -/
structure PoolD (D : Int → Prop) (p : Pl) : Prop where
  r : ∀ i, 0 ≤ i → i ≤ 2 → D (p.root + i)
  n : ∀ x, isN p x → ∀ i, 0 ≤ i → i ≤ 7 → D (x + i)

section
variable {D : Int → Prop} {σ0 σ σ' : Spc} {m : Int → Int} {c c' : Nat} {α β : Type} {Q : α → Spc → Prop} {p : Pl} {fr : List Int} {out : Int}
theorem root_ne (g : p.good) {x : Int} (h : isN p x) {i j : Int} (hi : 0 ≤ i ∧ i ≤ 2) (hj : 0 ≤ j ∧ j ≤ 7) : p.root + i ≠ x + j := by
  have := isN_pos g h
  obtain ⟨k, h0, h1, rfl⟩ := h
  have := g.ap
  omega
theorem wp_add {q : Unit → Prog α} (S : Sm D σ0 σ m c) (hD : PoolD D p) {k n : Int} (hk : 0 ≤ k ∧ k ≤ 2) (hl : σ0.pu.length + c ≤ big) (h : ∀ σ', Sm D σ0 σ' (upd m (p.root + k) (w64 (m (p.root + k) + n))) (c + 1) → wp (q ()) σ' Q) : wp (pAdd p k n >>= q) σ Q := by
  unfold pAdd
  rw [wp_bind]
  refine wp_get S (hD.r k hk.1 hk.2) fun σ1 S => ?_
  rw [← wp_bind]
  exact wp_put S (hD.r k hk.1 hk.2) (w64_in _) hl h
/-- an allocation -/
theorem wp_take {q : Int × Int → Prog α} (S : Sm D σ0 σ m c) (P : PoolR m p fr out) (hD : PoolD D p) (hl : σ0.pu.length + c + 2 ≤ big)
    (h1 : ∀ x fr' σ' m', fr = x :: fr' → isN p x → Sm D σ0 σ' m' (c + 2) → PoolR m' p fr' out → (∀ a, a ≠ p.root → a ≠ p.root + 2 → m' a = m a) → wp (q (x, 0)) σ' Q)
    (h2 : ∀ σ' m', fr = [] → out < p.nodes → isN p (p.frm + 8 * out) → Sm D σ0 σ' m' (c + 2) → PoolR m' p [] (out + 1) → (∀ a, a ≠ p.root + 1 → m' a = m a) → wp (q (p.frm + 8 * out, 0)) σ' Q)
    (h3 : ∀ σ', fr = [] → out = p.nodes → Sm D σ0 σ' m c → wp (q (0, 9)) σ' Q) : wp (pTake p >>= q) σ Q := by
  have g := P.good
  have g1 := g.f1; have g2 := g.f2; have g3 := g.n1
  unfold pTake
  rw [if_pos g, wp_bind]
  have hD0 := hD.r 0 (by omega) (by omega)
  rw [Int.add_zero] at hD0
  refine wp_get S hD0 fun σ1 S => ?_
  have hlk := P.link
  cases fr with
  | nil =>
    have e : m p.root = 0 := hlk
    rw [e, if_neg (by simp)]
    refine wp_get S (hD.r 1 (by omega) (by omega)) fun σ1 S => ?_
    rw [P.outE]
    have := P.out0; have := P.out1
    by_cases hf : out < p.nodes
    · rw [if_neg (by omega)]
      refine wp_put S (hD.r 1 (by omega) (by omega)) ⟨by omega, by omega⟩ (by omega) fun σ1 S => ?_
      refine h2 σ1 _ rfl hf ⟨out, P.out0, hf, rfl⟩ (S.mono (by omega)) ⟨g, ?_, upd_eq _ _ _, ?_, by omega, by omega, fun x hx => (by cases hx), List.nodup_nil⟩ (fun a ha => upd_ne _ _ ha)
      · rw [upd_ne _ _ (by omega)]; exact e
      · rw [upd_ne _ _ (by omega)]; exact P.frE
    · rw [if_pos (.inr (by omega))]
      exact h3 σ1 rfl (by omega) S
  | cons x fr' =>
    obtain ⟨e, hlk⟩ := hlk
    have hx : isN p x := P.isN (List.mem_cons_self ..)
    have hxp := isN_pos g hx
    rw [e, if_pos (by omega), if_pos (isN_node g hx)]
    have hDx := hD.n x hx 0 (by omega) (by omega)
    rw [Int.add_zero] at hDx
    refine wp_get S hDx fun σ1 S => ?_
    refine wp_put S hD0 (S.rg x) (by omega) fun σ1 S => ?_
    refine wp_add S hD ⟨by omega, by omega⟩ (by omega) fun σ1 S => ?_
    have hfe : (m (p.root + 2) : Int) = fr'.length + 1 := by rw [P.frE]; simp
    have hb : (fr'.length : Int) + 1 ≤ 128 := by have h3 := P.out1; have h2 := P.len; simp only [List.length_cons] at h2; omega
    have hlen : w64 (upd m p.root (m x) (p.root + 2) + -1) = fr'.length := by
      rw [upd_ne _ _ (by omega), hfe, w64_R ⟨by omega, by omega⟩]; omega
    rw [hlen] at S
    refine h1 x fr' σ1 _ rfl hx S ⟨g, ?_, ?_, upd_eq _ _ _, P.out0, P.out1, fun y hy => P.fN y (List.mem_cons_of_mem _ hy), (List.nodup_cons.1 P.nd).2⟩ (fun a ha hb => by rw [upd_ne _ _ hb, upd_ne _ _ ha])
    · rw [upd_ne _ _ (by omega), upd_eq]
      rw [Int.add_zero] at hlk
      refine hlk.ext fun y hy => ?_
      have hyN := P.isN (List.mem_cons_of_mem _ hy)
      have := root_ne g hyN (i := 0) (j := 0) (by omega) (by omega)
      have := root_ne g hyN (i := 2) (j := 0) (by omega) (by omega)
      rw [upd_ne _ _ (by omega), upd_ne _ _ (by omega)]
    · rw [upd_ne _ _ (by omega), upd_ne _ _ (by omega)]; exact P.outE
/-- a release -/
theorem wp_give {q : Int → Prog α} (S : Sm D σ0 σ m c) (P : PoolR m p fr out) (hD : PoolD D p) (hl : σ0.pu.length + c + 3 ≤ big) {x i : Int} (hx : x = p.frm + 8 * i) (hi : 0 ≤ i ∧ i < out) (hn : x ∉ fr)
    (h1 : ∀ σ' m', Sm D σ0 σ' m' (c + 3) → PoolR m' p (x :: fr) out → (∀ a, a ≠ p.root → a ≠ p.root + 2 → a ≠ x → m' a = m a) → wp (q 0) σ' Q) : wp (pGive p x >>= q) σ Q := by
  have g := P.good
  have g1 := g.f1; have g2 := g.f2; have g3 := g.n1
  have hxN : isN p x := ⟨i, hi.1, by have := P.out1; omega, hx⟩
  have hxp := isN_pos g hxN
  unfold pGive
  rw [if_pos (isN_node g hxN), wp_bind]
  have hD0 := hD.r 0 (by omega) (by omega)
  rw [Int.add_zero] at hD0
  have hDx := hD.n x hxN 0 (by omega) (by omega)
  rw [Int.add_zero] at hDx
  refine wp_get S hD0 fun σ1 S => ?_
  refine wp_put S hDx (S.rg _) (by omega) fun σ1 S => ?_
  refine wp_put S hD0 ⟨by omega, by omega⟩ (by omega) fun σ1 S => ?_
  refine wp_add S hD ⟨by omega, by omega⟩ (by omega) fun σ1 S => ?_
  have r0 := root_ne g hxN (i := 0) (j := 0) (by omega) (by omega)
  have r1 := root_ne g hxN (i := 1) (j := 0) (by omega) (by omega)
  have r2 := root_ne g hxN (i := 2) (j := 0) (by omega) (by omega)
  have hfl : (fr.length : Int) ≤ 128 := by have := P.len; have := P.out1; omega
  have hlen : w64 (upd (upd m x (m p.root)) p.root x (p.root + 2) + 1) = (x :: fr).length := by
    rw [upd_ne _ _ (by omega), upd_ne _ _ (by omega), P.frE, w64_R ⟨by omega, by omega⟩]; simp
  rw [hlen] at S
  refine h1 σ1 _ S ⟨g, ?_, ?_, upd_eq _ _ _, P.out0, P.out1, ?_, List.nodup_cons.2 ⟨hn, P.nd⟩⟩ (fun a h1 h2 h3 => by rw [upd_ne _ _ h2, upd_ne _ _ h1, upd_ne _ _ h3])
  · rw [upd_ne _ _ (by omega), upd_eq]
    refine ⟨rfl, ?_⟩
    rw [Int.add_zero, upd_ne _ _ (by omega), upd_ne _ _ (by omega), upd_eq]
    refine P.link.ext fun y hy => ?_
    have hyN := P.isN hy
    have := root_ne g hyN (i := 0) (j := 0) (by omega) (by omega)
    have := root_ne g hyN (i := 2) (j := 0) (by omega) (by omega)
    have hxy : y ≠ x := fun e => hn (e ▸ hy)
    rw [upd_ne _ _ (by omega), upd_ne _ _ (by omega), upd_ne _ _ (by omega)]
  · rw [upd_ne _ _ (by omega), upd_ne _ _ (by omega), upd_ne _ _ (by omega)]; exact P.outE
  · intro y hy
    rcases List.mem_cons.1 hy with rfl | hy
    · exact ⟨i, hi.1, hi.2, hx⟩
    · exact P.fN y hy
end
end Go.En
namespace Go.En
open Prog Spc

/-- the space σ, since σ0: read at A only, at most c writes more -/
structure Wld (A : Int → Prop) (σ0 σ : Spc) (c : Nat) : Prop where
  kn : σ.kn = σ0.kn
  wf : σ.wf
  rd : ∀ a ∈ σ.rd, a ∈ σ0.rd ∨ A a
  nd : σ0.rd.Nodup → σ.rd.Nodup
  pu : ∃ ex, σ.pu = σ0.pu ++ ex ∧ ex.length ≤ c
  en : σ0.en = false → (∀ a, A a → (σ0.kn a).isSome = true) → σ.en = false
  kd : (∀ a ∈ σ0.rd, (σ0.kn a).isSome = true) → ∀ a ∈ σ.rd, (σ0.kn a).isSome = true
section
variable {A : Int → Prop} {σ0 σ σ' : Spc} {c c' : Nat} {α β : Type} {Q : α → Spc → Prop} {p : Pl}
theorem Wld.start (h : σ.wf) : Wld A σ σ 0 := ⟨rfl, h, fun _ h => .inl h, fun h => h, ⟨[], by simp, by simp⟩, fun h _ => h, fun h => h⟩
theorem Wld.mono (H : Wld A σ0 σ c) (h : c ≤ c') : Wld A σ0 σ c' := let ⟨ex, h1, h2⟩ := H.pu; ⟨H.kn, H.wf, H.rd, H.nd, ⟨ex, h1, by omega⟩, H.en, H.kd⟩
theorem Wld.len (H : Wld A σ0 σ c) : σ.pu.length ≤ σ0.pu.length + c := by
  obtain ⟨ex, h1, h2⟩ := H.pu
  rw [h1, List.length_append]; omega
theorem Wld.rds (H : Wld A σ0 σ c) {a : Int} (hk : (σ.kn a).isSome = true) (ha : A a) : Wld A σ0 (σ.rds a) c := by
  refine ⟨H.kn, H.wf.rds a, fun b hb => ?_, fun h => ?_, H.pu, H.en, fun h b hb => ?_⟩
  · have hb : b ∈ (if a ∈ σ.rd then σ.rd else σ.rd ++ [a]) := hb
    split at hb
    · exact H.rd b hb
    · rcases List.mem_append.1 hb with h | h
      · exact H.rd b h
      · simp only [List.mem_singleton] at h
        subst h; exact .inr ha
  · show (if a ∈ σ.rd then σ.rd else σ.rd ++ [a]).Nodup
    split
    · exact H.nd h
    · rename_i hn
      rw [List.nodup_append]
      exact ⟨H.nd h, by simp, fun x hx y hy e => hn (by simp only [List.mem_singleton] at hy; rw [← hy, ← e]; exact hx)⟩
  · have hb : b ∈ (if a ∈ σ.rd then σ.rd else σ.rd ++ [a]) := hb
    split at hb
    · exact H.kd h b hb
    · rcases List.mem_append.1 hb with h2 | h2
      · exact H.kd h b h2
      · simp only [List.mem_singleton] at h2
        subst h2; rw [← H.kn]; exact hk
theorem Wld.ends (H : Wld A σ0 σ c) {a : Int} (hk : σ.kn a = none) (ha : A a) : Wld A σ0 (σ.ends a) c :=
  ⟨H.kn, H.wf.ends a, H.rd, H.nd, H.pu, (fun _ h2 => by have := h2 a ha; rw [← H.kn, hk] at this; cases this), H.kd⟩
theorem Wld.get (H : Wld A σ0 σ c) {a : Int} (ha : A a) : Wld A σ0 (σ.get a).2 c := by
  unfold Spc.get
  split
  · exact H
  · cases hk : σ.kn a with
    | some w => exact H.rds (by rw [hk]; rfl) ha
    | none => exact H.ends hk ha
theorem Wld.put (H : Wld A σ0 σ c) {a v : Int} (ha : A a) (hv : R64 v) (hl : σ0.pu.length + c ≤ big) : Wld A σ0 (σ.put a v) (c + 1) := by
  have hw := H.wf.put a hv (Nat.le_trans H.len hl)
  unfold Spc.put at hw ⊢
  split
  · exact H.mono (by omega)
  · rename_i he
    rw [if_neg he] at hw
    cases hk : σ.kn a with
    | some w =>
      rw [hk] at hw
      have R := H.rds (by rw [hk]; rfl) ha
      obtain ⟨ex, h1, h2⟩ := H.pu
      exact ⟨R.kn, hw, R.rd, R.nd, ⟨ex ++ [(a, v)], by show σ.pu ++ _ = _; rw [h1, List.append_assoc], by rw [List.length_append, List.length_singleton]; omega⟩, R.en, R.kd⟩
    | none => exact (H.ends hk ha).mono (by omega)
theorem Wld.back (H : Wld A σ0 σ c) : Wld A σ0 (σ.back σ0.pu.length) c ∧ ((σ.back σ0.pu.length).en = false → (σ.back σ0.pu.length).pu = σ0.pu) := by
  have hw := H.wf.back (σ0.pu.length : Int)
  obtain ⟨ex, h1, h2⟩ := H.pu
  unfold Spc.back at hw ⊢
  split
  · rename_i he
    exact ⟨H, fun e => by rw [he] at e; cases e⟩
  · rename_i he
    rw [if_neg he, if_pos ⟨by omega, by rw [h1, List.length_append]; omega⟩] at hw
    rw [if_pos ⟨by omega, by rw [h1, List.length_append]; omega⟩]
    have e : σ.pu.take (Int.toNat (σ0.pu.length : Int)) = σ0.pu := by rw [h1, Int.toNat_natCast, List.take_left']; rfl
    exact ⟨⟨H.kn, hw, H.rd, H.nd, ⟨[], by rw [List.append_nil]; exact e, by simp⟩, H.en, H.kd⟩, fun _ => e⟩
theorem wd_get {q : Int → Prog α} (H : Wld A σ0 σ c) {a : Int} (ha : A a) (k : ∀ v σ', R64 v → σ'.pu = σ.pu → Wld A σ0 σ' c → wp (q v) σ' Q) : wp (gt a >>= q) σ Q := by
  rw [wp_bind, wp_gt]
  refine k _ _ (H.wf.get a).1 ?_ (H.get ha)
  unfold Spc.get
  split
  · rfl
  · split <;> rfl
theorem wd_put {q : Unit → Prog α} (H : Wld A σ0 σ c) {a v : Int} (ha : A a) (hv : R64 v) (hl : σ0.pu.length + c ≤ big) (k : ∀ σ', Wld A σ0 σ' (c + 1) → wp (q ()) σ' Q) : wp (pt a v >>= q) σ Q := by
  rw [wp_bind, wp_pt]
  exact ⟨hv, Nat.le_trans H.len hl, k _ (H.put ha hv hl)⟩
theorem wd_mark {q : Int → Prog α} (k : wp (q σ.pu.length) σ Q) : wp (mk >>= q) σ Q := by
  rw [wp_bind, wp_mk]; exact k
theorem wd_back {q : Unit → Prog α} (H : Wld A σ0 σ c) (k : ∀ σ', Wld A σ0 σ' c → (σ'.en = false → σ'.pu = σ0.pu) → wp (q ()) σ' Q) : wp (bk σ0.pu.length >>= q) σ Q := by
  rw [wp_bind, wp_bk]
  exact k _ H.back.1 H.back.2
theorem wd_add {q : Unit → Prog α} (H : Wld A σ0 σ c) {k n : Int} (ha : A (p.root + k)) (hl : σ0.pu.length + c ≤ big) (hk : ∀ σ', Wld A σ0 σ' (c + 1) → wp (q ()) σ' Q) : wp (pAdd p k n >>= q) σ Q := by
  unfold pAdd
  rw [wp_bind]
  refine wd_get H ha fun v σ1 hv _ H => ?_
  rw [← wp_bind]
  exact wd_put H ha (w64_in _) hl hk
/-- the words of a pool -/
structure PoolA (A : Int → Prop) (p : Pl) : Prop where
  r : ∀ i, 0 ≤ i → i ≤ 2 → A (p.root + i)
  n : ∀ a, (p.node a).isSome = true → A a
theorem wd_take {q : Int × Int → Prog α} (H : Wld A σ0 σ c) (hA : PoolA A p) (hl : σ0.pu.length + c + 2 ≤ big)
    (k1 : ∀ x σ', (p.node x).isSome = true → Wld A σ0 σ' (c + 2) → wp (q (x, 0)) σ' Q)
    (k2 : ∀ e σ', (e = 1 ∧ ¬ p.good ∧ σ' = σ ∨ p.good ∧ (e = 9 ∨ e = 24)) → Wld A σ0 σ' c → σ'.pu = σ.pu → wp (q (0, e)) σ' Q) : wp (pTake p >>= q) σ Q := by
  unfold pTake
  have r0 := hA.r 0 (by omega) (by omega)
  rw [Int.add_zero] at r0
  split
  · rename_i g
    have g1 := g.f1; have g2 := g.f2; have g3 := g.n1
    rw [wp_bind]
    refine wd_get H r0 fun first σ1 hv e1 H => ?_
    split
    · split
      · rename_i hn
        refine wd_get H (hA.n _ hn) fun nx σ2 hnx _ H => ?_
        refine wd_put H r0 hnx (by omega) fun σ3 H => ?_
        refine wd_add H (hA.r 2 (by omega) (by omega)) (by omega) fun σ4 H => ?_
        exact k1 _ _ hn H
      · exact k2 24 _ (.inr ⟨g, .inr rfl⟩) H e1
    · refine wd_get H (hA.r 1 (by omega) (by omega)) fun n σ2 hn e2 H => ?_
      split
      · exact k2 9 _ (.inr ⟨g, .inl rfl⟩) H (e2.trans e1)
      · rename_i hx
        refine wd_put H (hA.r 1 (by omega) (by omega)) ⟨by omega, by omega⟩ (by omega) fun σ3 H => ?_
        refine k1 _ _ ?_ (H.mono (by omega))
        rw [node_at g (by omega) (by omega)]; rfl
  · rename_i g
    exact k2 1 _ (.inl ⟨rfl, g, rfl⟩) H rfl
theorem wd_give {q : Int → Prog α} (H : Wld A σ0 σ c) (hA : PoolA A p) (hl : σ0.pu.length + c + 3 ≤ big) {a : Int} (hr : R64 a)
    (k1 : ∀ σ', (p.node a).isSome = true → Wld A σ0 σ' (c + 3) → wp (q 0) σ' Q) (k2 : (p.node a).isSome = false → wp (q 1) σ Q) : wp (pGive p a >>= q) σ Q := by
  unfold pGive
  have r0 := hA.r 0 (by omega) (by omega)
  rw [Int.add_zero] at r0
  split
  · rename_i hn
    rw [wp_bind]
    refine wd_get H r0 fun r σ1 hv _ H => ?_
    refine wd_put H (hA.n _ hn) hv (by omega) fun σ2 H => ?_
    refine wd_put H r0 hr (by omega) fun σ3 H => ?_
    refine wd_add H (hA.r 2 (by omega) (by omega)) (by omega) fun σ4 H => ?_
    exact k1 _ hn H
  · rename_i hn
    exact k2 (by simpa using hn)
end
abbrev All : Int → Prop := fun _ => True
theorem poolAll (p : Pl) : PoolA All p := ⟨fun _ _ _ => trivial, fun _ _ => trivial⟩
end Go.En
