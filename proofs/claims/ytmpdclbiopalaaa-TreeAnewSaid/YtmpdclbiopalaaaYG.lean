/-
  Layer 37: keys in order, ranks.
  Layer 37: Put and Drop.
  Layer 37: Put and Drop on a tree in memory.
  Layer 37: a new key; a key that goes.
-/
import Derived.Test.YtmpdclbiopalaaaYF
namespace Go.En
open Prog Spc

abbrev kI (l : List (Int × Int)) : List Int := l.map (·.1)
/-- keys in order -/
abbrev Srt (l : List (Int × Int)) : Prop := l.Pairwise fun a b => a.1 < b.1
def HO : Tr → Prop
  | .nil => True
  | .nd _ l x _ r => (∀ y ∈ l.ks ++ r.ks, rk y.1 < rk x) ∧ HO l ∧ HO r
def lks : List Fr → List (Int × Int)
  | [] => []
  | f :: fs => if f.d then lks fs else f.o.ks ++ (f.x, f.w) :: lks fs
def rks : List Fr → List (Int × Int)
  | [] => []
  | f :: fs => if f.d then rks fs ++ (f.x, f.w) :: f.o.ks else rks fs
section
variable {k : Int} {s s' : Tr}
theorem plug_ks : ∀ {fs : List Fr}, (plug fs s).ks = lks fs ++ s.ks ++ rks fs
  | [] => by simp [plug, lks, rks]
  | f :: fs => by
    have ih := plug_ks (fs := fs)
    show (f.node (plug fs s)).ks = _
    unfold Fr.node lks rks
    split <;> simp only [Tr.ks, ih, List.append_assoc, List.cons_append]
theorem lks_app : ∀ {fs gs : List Fr}, lks (fs ++ gs) = lks fs ++ lks gs
  | [], gs => rfl
  | f :: fs, gs => by
    have ih := lks_app (fs := fs) (gs := gs)
    show (if f.d then lks (fs ++ gs) else f.o.ks ++ (f.x, f.w) :: lks (fs ++ gs)) = (if f.d then lks fs else f.o.ks ++ (f.x, f.w) :: lks fs) ++ lks gs
    split
    · exact ih
    · rw [ih]; simp
theorem rks_app : ∀ {fs gs : List Fr}, rks (fs ++ gs) = rks gs ++ rks fs
  | [], gs => by simp [rks]
  | f :: fs, gs => by
    have ih := rks_app (fs := fs) (gs := gs)
    show (if f.d then rks (fs ++ gs) ++ (f.x, f.w) :: f.o.ks else rks (fs ++ gs)) = rks gs ++ (if f.d then rks fs ++ (f.x, f.w) :: f.o.ks else rks fs)
    split
    · rw [ih]; simp
    · exact ih
theorem srt_nd {l r : List (Int × Int)} {x v : Int} (h : Srt (l ++ (x, v) :: r)) : Srt l ∧ Srt r ∧ (∀ y ∈ l, y.1 < x) ∧ (∀ y ∈ r, x < y.1) := by
  obtain ⟨h1, h2, h3⟩ := List.pairwise_append.1 h
  obtain ⟨h4, h5⟩ := List.pairwise_cons.1 h2
  exact ⟨h1, h5, fun y hy => h3 y hy (x, v) (List.mem_cons_self ..), fun y hy => h4 y hy⟩
theorem frs_lr : ∀ {t : Tr}, Srt t.ks → (∀ y ∈ lks (frs k t).1, y.1 < k) ∧ (∀ y ∈ rks (frs k t).1, k < y.1)
  | .nil, _ => ⟨fun y hy => (by cases hy), fun y hy => (by cases hy)⟩
  | .nd a l x v r, h => by
    obtain ⟨h1, h2, h3, h4⟩ := srt_nd h
    have i1 := frs_lr h1; have i2 := frs_lr h2
    unfold frs
    split
    · exact ⟨fun y hy => (by cases hy), fun y hy => (by cases hy)⟩
    · rename_i hx
      split
      · rename_i hlt
        refine ⟨i1.1, fun y hy => ?_⟩
        have hy : y ∈ rks (frs k l).1 ++ (x, v) :: r.ks := hy
        rcases List.mem_append.1 hy with h | h
        · exact i1.2 y h
        · rcases List.mem_cons.1 h with rfl | h
          · exact hlt
          · have := h4 y h; omega
      · rename_i hlt
        refine ⟨fun y hy => ?_, i2.2⟩
        have hy : y ∈ l.ks ++ (x, v) :: lks (frs k r).1 := hy
        rcases List.mem_append.1 hy with h | h
        · have := h3 y h; omega
        · rcases List.mem_cons.1 h with rfl | h
          · show x < k; omega
          · exact i2.1 y h
theorem spl_lr : ∀ {t : Tr}, Srt t.ks → (∀ y ∈ (spl k t).1.ks, y.1 < k) ∧ (∀ y ∈ (spl k t).2.ks, ¬ y.1 < k)
  | .nil, _ => ⟨fun y hy => (by cases hy), fun y hy => (by cases hy)⟩
  | .nd a l x v r, h => by
    obtain ⟨h1, h2, h3, h4⟩ := srt_nd h
    have i1 := spl_lr h1; have i2 := spl_lr h2
    unfold spl
    split
    · rename_i hx
      refine ⟨fun y hy => ?_, i2.2⟩
      have hy : y ∈ l.ks ++ (x, v) :: (spl k r).1.ks := hy
      rcases List.mem_append.1 hy with h | h
      · have := h3 y h; omega
      · rcases List.mem_cons.1 h with rfl | h
        · exact hx
        · exact i2.1 y h
    · rename_i hx
      refine ⟨i1.1, fun y hy => ?_⟩
      have hy : y ∈ (spl k l).2.ks ++ (x, v) :: r.ks := hy
      rcases List.mem_append.1 hy with h | h
      · exact i1.2 y h
      · rcases List.mem_cons.1 h with rfl | h
        · exact hx
        · have := h4 y h; omega
theorem cut_eq {l1 l2 l3 l4 : List (Int × Int)} (h : l1 ++ l2 = l3 ++ l4) (h1 : ∀ y ∈ l1, y.1 < k) (h2 : ∀ y ∈ l2, ¬ y.1 < k) (h3 : ∀ y ∈ l3, y.1 < k) (h4 : ∀ y ∈ l4, ¬ y.1 < k) : l1 = l3 ∧ l2 = l4 := by
  have f : ∀ {a b : List (Int × Int)}, (∀ y ∈ a, y.1 < k) → (∀ y ∈ b, ¬ y.1 < k) → (a ++ b).filter (fun y => decide (y.1 < k)) = a := fun {a b} ha hb => by
    rw [List.filter_append, List.filter_eq_self.2 fun y hy => decide_eq_true (ha y hy), List.filter_eq_nil_iff.2 fun y hy => by simpa using Int.not_lt.1 (hb y hy), List.append_nil]
  have e : l1 = l3 := by rw [← f h1 h2, h, f h3 h4]
  subst e
  exact ⟨rfl, List.append_cancel_left h⟩
/-! ### Heap order -/
theorem HO.spl : ∀ {t : Tr}, HO t → HO (En.spl k t).1 ∧ HO (En.spl k t).2
  | .nil, _ => ⟨trivial, trivial⟩
  | .nd a l x v r, ⟨h1, h2, h3⟩ => by
    have i1 := HO.spl h2; have i2 := HO.spl h3
    have k1 : ∀ y ∈ (En.spl k l).1.ks ++ (En.spl k l).2.ks, y ∈ l.ks := fun y hy => by rwa [spl_ks] at hy
    have k2 : ∀ y ∈ (En.spl k r).1.ks ++ (En.spl k r).2.ks, y ∈ r.ks := fun y hy => by rwa [spl_ks] at hy
    unfold En.spl
    split
    · refine ⟨⟨fun y hy => ?_, h2, i2.1⟩, i2.2⟩
      rcases List.mem_append.1 hy with h | h
      · exact h1 y (List.mem_append_left _ h)
      · exact h1 y (List.mem_append_right _ (k2 y (List.mem_append_left _ h)))
    · refine ⟨i1.1, ⟨fun y hy => ?_, i1.2, h3⟩⟩
      rcases List.mem_append.1 hy with h | h
      · exact h1 y (List.mem_append_left _ (k1 y (List.mem_append_right _ h)))
      · exact h1 y (List.mem_append_right _ h)
theorem HO.mrgF : ∀ (a b : Tr), HO a → HO b → (∀ x ∈ a.ks, ∀ y ∈ b.ks, rk x.1 ≠ rk y.1) → HO (En.mrgF rk a b)
  | .nil, b, _, hb, _ => by rw [En.mrgF]; exact hb
  | .nd a l x v r, .nil, ha, _, _ => by rw [En.mrgF]; exact ha
  | .nd a l x v r, .nd b l' y w r', ha, hb, hd => by
    obtain ⟨a1, a2, a3⟩ := id ha
    obtain ⟨b1, b2, b3⟩ := id hb
    have hxy := hd (x, v) (by simp [Tr.ks]) (y, w) (by simp [Tr.ks])
    have i1 := HO.mrgF r (.nd b l' y w r') a3 hb fun p hp q hq => hd p (by simp [Tr.ks, hp]) q hq
    have i2 := HO.mrgF (.nd a l x v r) l' ha b2 fun p hp q hq => hd p hp q (by simp [Tr.ks, hq])
    have e1 := mrg_ks rk r (.nd b l' y w r'); have e2 := mrg_ks rk (.nd a l x v r) l'
    rw [En.mrgF]
    split
    · rename_i hr
      refine ⟨fun p hp => ?_, a2, i1⟩
      rw [e1] at hp
      rcases List.mem_append.1 hp with h | h
      · exact a1 p (List.mem_append_left _ h)
      · rcases List.mem_append.1 h with h | h
        · exact a1 p (List.mem_append_right _ h)
        · rcases List.mem_append.1 h with h | h
          · exact Int.lt_trans (b1 p (List.mem_append_left _ h)) hr
          · rcases List.mem_cons.1 h with rfl | h
            · exact hr
            · exact Int.lt_trans (b1 p (List.mem_append_right _ h)) hr
    · rename_i hr
      have hr' : rk x < rk y := by
        have h1 : rk x ≠ rk y := hxy
        omega
      refine ⟨fun p hp => ?_, i2, b3⟩
      rw [e2] at hp
      rcases List.mem_append.1 hp with h | h
      · rcases List.mem_append.1 h with h | h
        · rcases List.mem_append.1 h with h | h
          · exact Int.lt_trans (a1 p (List.mem_append_left _ h)) hr'
          · rcases List.mem_cons.1 h with rfl | h
            · exact hr'
            · exact Int.lt_trans (a1 p (List.mem_append_right _ h)) hr'
        · exact b1 p (List.mem_append_left _ h)
      · exact b1 p (List.mem_append_right _ h)
termination_by a b => a.sz + b.sz
decreasing_by all_goals simp only [Tr.sz]; omega
theorem HO.plug : ∀ {fs : List Fr}, HO (En.plug fs s) → HO s ∧ (∀ y ∈ s.ks, ∀ f ∈ fs, rk y.1 < rk f.x) ∧ ((∀ y ∈ s'.ks, ∀ f ∈ fs, rk y.1 < rk f.x) → HO s' → HO (En.plug fs s'))
  | [], h => ⟨h, (fun y _ f hf => by cases hf), fun _ h' => h'⟩
  | f :: fs, h => by
    have h : HO (f.node (En.plug fs s)) := h
    have e := plug_ks (s := s) (fs := fs)
    have e' := plug_ks (s := s') (fs := fs)
    have key : HO (En.plug fs s) → (∀ y ∈ (En.plug fs s).ks, rk y.1 < rk f.x) → ((∀ y ∈ (En.plug fs s').ks, rk y.1 < rk f.x) → HO (En.plug fs s') → HO (f.node (En.plug fs s'))) →
        HO s ∧ (∀ y ∈ s.ks, ∀ g ∈ f :: fs, rk y.1 < rk g.x) ∧ ((∀ y ∈ s'.ks, ∀ g ∈ f :: fs, rk y.1 < rk g.x) → HO s' → HO (En.plug (f :: fs) s')) := fun h1 h2 h3 => by
      obtain ⟨i1, i2, i3⟩ := HO.plug h1
      refine ⟨i1, fun y hy g hg => ?_, fun a b => h3 (fun y hy => ?_) (i3 (fun y hy g hg => a y hy g (List.mem_cons_of_mem _ hg)) b)⟩
      · rcases List.mem_cons.1 hg with rfl | hg
        · exact h2 y (by rw [e]; exact List.mem_append_left _ (List.mem_append_right _ hy))
        · exact i2 y hy g hg
      · rw [e'] at hy
        rcases List.mem_append.1 hy with h | h
        · rcases List.mem_append.1 h with h | h
          · exact h2 y (by rw [e]; exact List.mem_append_left _ (List.mem_append_left _ h))
          · exact a y h f (List.mem_cons_self ..)
        · exact h2 y (by rw [e]; exact List.mem_append_right _ h)
    unfold Fr.node at h key
    cases hd : f.d with
    | true =>
      rw [hd, if_pos rfl] at h
      rw [hd, if_pos rfl] at key
      obtain ⟨a1, a2, a3⟩ := h
      exact key a2 (fun y hy => a1 y (List.mem_append_left _ hy)) fun b1 b2 => ⟨fun y hy => by
        rcases List.mem_append.1 hy with h | h
        · exact b1 y h
        · exact a1 y (List.mem_append_right _ h), b2, a3⟩
    | false =>
      rw [hd, if_neg (by simp)] at h
      rw [hd, if_neg (by simp)] at key
      obtain ⟨a1, a2, a3⟩ := h
      exact key a3 (fun y hy => a1 y (List.mem_append_right _ hy)) fun b1 b2 => ⟨fun y hy => by
        rcases List.mem_append.1 hy with h | h
        · exact a1 y (List.mem_append_left _ h)
        · exact b1 y h, a2, b2⟩
/-- in a heap the keys below a node rank below it -/
theorem HO.top {fs : List Fr} {f : Fr} (h : HO (En.plug (f :: fs) s)) : ∀ y ∈ (En.plug (f :: fs) s).ks, rk y.1 ≤ rk f.x := by
  have h : HO (f.node (En.plug fs s)) := h
  intro y hy
  have hy : y ∈ (f.node (En.plug fs s)).ks := hy
  unfold Fr.node at h hy
  cases hd : f.d with
  | true =>
    rw [hd, if_pos rfl] at h hy
    rcases List.mem_append.1 hy with h2 | h2
    · exact Int.le_of_lt (h.1 y (List.mem_append_left _ h2))
    · rcases List.mem_cons.1 h2 with rfl | h2
      · exact Int.le_refl _
      · exact Int.le_of_lt (h.1 y (List.mem_append_right _ h2))
  | false =>
    rw [hd, if_neg (by simp)] at h hy
    rcases List.mem_append.1 hy with h2 | h2
    · exact Int.le_of_lt (h.1 y (List.mem_append_left _ h2))
    · rcases List.mem_cons.1 h2 with rfl | h2
      · exact Int.le_refl _
      · exact Int.le_of_lt (h.1 y (List.mem_append_right _ h2))
end
/-! ### Ranks are told apart -/
def rkS (x : BitVec 64) : BitVec 64 := x ^^^ (x >>> 33)
theorem rkS_twice (x : BitVec 64) : rkS (rkS x) = x := by
  unfold rkS
  apply BitVec.eq_of_getLsbD_eq
  intro i hi
  simp only [BitVec.getLsbD_xor, BitVec.getLsbD_ushiftRight]
  have : x.getLsbD (33 + (33 + i)) = false := BitVec.getLsbD_of_ge _ _ (by omega)
  rw [this]
  cases x.getLsbD i <;> cases x.getLsbD (33 + i) <;> rfl
theorem rkB_eq (x : BitVec 64) : rkB x = rkS (rkS x * 18397679294719823053#64) := rfl
theorem rkB_inj {x y : BitVec 64} (h : rkB x = rkB y) : x = y := by
  rw [rkB_eq, rkB_eq] at h
  have h1 : rkS x * 18397679294719823053#64 = rkS y * 18397679294719823053#64 := by
    rw [← rkS_twice (rkS x * 18397679294719823053#64), h, rkS_twice]
  have ec : (18397679294719823053#64 * 5725274745694666757#64 : BitVec 64) = 1#64 := by decide
  have h2 : rkS x = rkS y := by
    have := congrArg (· * 5725274745694666757#64) h1
    rw [BitVec.mul_assoc, BitVec.mul_assoc, ec, BitVec.mul_one, BitVec.mul_one] at this
    exact this
  rw [← rkS_twice x, h2, rkS_twice]
theorem rk_inj {x y : Int} (hx : R64 x) (hy : R64 y) (h : rk x = rk y) : x = y := by
  unfold rk at h
  have h1 : (rkB (BitVec.ofInt 64 x)).toNat = (rkB (BitVec.ofInt 64 y)).toNat := Int.ofNat.inj h
  have h2 := rkB_inj (BitVec.eq_of_toNat_eq h1)
  have h3 := congrArg BitVec.toInt h2
  rw [BitVec.toInt_ofInt, BitVec.toInt_ofInt] at h3
  have e : ∀ z : Int, R64 z → z.bmod (2 ^ 64) = z := fun z hz => by
    rw [Int.bmod_eq_of_le] <;> omega
  rw [e x hx, e y hy] at h3
  exact h3
end Go.En
namespace Go.En
open Prog Spc

/-! ### Programs -/
section
variable (p : Pl)
def wk0 : Wk := .ok (Fin.ofNat 1000001 (64 * (p.nodes.toNat + 1)))
def fu : Nat := 64 * (p.nodes.toNat + 1) + 1
def tFnd (k : Int) (l : List (Int × Int)) : Bool := match l.getLast? with
  | none => false
  | some x => decide (x.2 = k)
def cutL (k : Int) (l : List (Int × Int)) : List (Int × Int) := l.takeWhile fun x => decide (rk k < rk x.2)
def tPutU (root k v m : Int) (l : List (Int × Int)) (s : (Int × Int) × Wk) (n : Int) : Prog (Int × Bool × Int) :=
  pt (n + 2) s.1.1 >>= fun _ => pt (n + 3) s.1.2 >>= fun _ => tRef p s.2 n >>= fun w => tAdd 1 v l >>= fun _ => tHang root k n l >>= fun _ => gt (root + 7) >>= fun c => pt (root + 7) (w64 (c + 1)) >>= fun _ =>
    if w.lost = true then dUn 24 m >>= fun _ => pure (0, false, 24) else dUn 0 m >>= fun _ => pure (0, false, 0)
def tPutT (root k v m : Int) (l : List (Int × Int)) (w : Wk) (n : Int) : Prog (Int × Bool × Int) :=
  pt n k >>= fun _ => pt (n + 1) v >>= fun _ => (match l.drop (cutL k l).length with
    | [] => pure ((0, 0), w)
    | y :: _ => tSpl p k (fu p) w y.1) >>= fun s => tPutU p root k v m (cutL k l) s n
def tPutF (k v m : Int) (l : List (Int × Int)) : Prog (Int × Bool × Int) :=
  gt ((l.getLast?.map (·.1)).getD 0 + 1) >>= fun old => pt ((l.getLast?.map (·.1)).getD 0 + 1) v >>= fun _ => tAdd 0 (w64 (v - old)) l >>= fun _ => dUn 0 m >>= fun _ => pure (old, true, 0)
def tPut (root k v : Int) : Prog (Int × Bool × Int) :=
  mk >>= fun m => tPath p root k (wk0 p) >>= fun r =>
    if r.2.lost = true then dUn 24 m >>= fun _ => pure (0, false, 24) else
    if tFnd k r.1 = true then tPutF k v m r.1 else
    pTake p >>= fun t => if t.2 ≠ 0 then dUn t.2 m >>= fun _ => pure (0, false, t.2) else tPutT p root k v m r.1 r.2 t.1
def tDropU (root m a old : Int) (w : Wk) : Prog (Int × Bool × Int) :=
  gt (root + 7) >>= fun c => pt (root + 7) (w64 (c - 1)) >>= fun _ =>
    if w.lost = true then dUn 24 m >>= fun _ => pure (0, false, 24) else
    pGive p a >>= fun e => if e ≠ 0 then dUn e m >>= fun _ => pure (0, false, e) else dUn 0 m >>= fun _ => pure (old, true, 0)
def tDropT (root k m : Int) (l : List (Int × Int)) (w : Wk) (a : Int) : Prog (Int × Bool × Int) :=
  gt (a + 1) >>= fun old => gt (a + 2) >>= fun x => gt (a + 3) >>= fun y => tMrg p (fu p) w x y >>= fun s => tHang root k s.1 l >>= fun _ => tAdd (-1) (w64 (-old)) l >>= fun _ => tDropU p root m a old s.2
def tDrop (root k : Int) : Prog (Int × Bool × Int) :=
  mk >>= fun m => tPath p root k (wk0 p) >>= fun r =>
    if r.2.lost = true then dUn 24 m >>= fun _ => pure (0, false, 24) else
    if tFnd k r.1 = true then tDropT p root k m r.1.dropLast r.2 ((r.1.getLast?.map (·.1)).getD 0) else dUn 0 m >>= fun _ => pure (0, false, 0)
end

/-- where a tree lies -/
structure TG (D : Int → Prop) (p : Pl) (root : Int) : Prop where
  dp : PoolD D p
  R : RootD D root
  A : RA p root
/-! ### What the reference does -/
def rPut (l : List (Int × Int)) (k v : Int) : List (Int × Int) := l.filter (fun y => decide (y.1 < k)) ++ (k, v) :: l.filter (fun y => decide (k < y.1))
def rDrp (l : List (Int × Int)) (k : Int) : List (Int × Int) := l.filter fun y => decide (y.1 ≠ k)
section
variable {D : Int → Prop} {σ0 σ σ' : Spc} {m m' : Int → Int} {c c' : Nat} {α β : Type} {Q : α → Spc → Prop} {p : Pl} {root k v hole hv a : Int} {hs : Nat} {fs gs : List Fr} {t s s' : Tr} {fr : List Int} {out : Int}
theorem flt_lr {l1 l2 l3 : List (Int × Int)} (h1 : ∀ y ∈ l1, y.1 < k) (h2 : ∀ y ∈ l2, y.1 = k) (h3 : ∀ y ∈ l3, k < y.1) : (l1 ++ l2 ++ l3).filter (fun y => decide (y.1 < k)) = l1 ∧ (l1 ++ l2 ++ l3).filter (fun y => decide (k < y.1)) = l3 ∧ (l1 ++ l2 ++ l3).filter (fun y => decide (y.1 ≠ k)) = l1 ++ l3 := by
  have e1 : l1.filter (fun y => decide (y.1 < k)) = l1 := List.filter_eq_self.2 fun y hy => decide_eq_true (h1 y hy)
  have e2 : l2.filter (fun y => decide (y.1 < k)) = [] := List.filter_eq_nil_iff.2 fun y hy => by simp [h2 y hy]
  have e3 : l3.filter (fun y => decide (y.1 < k)) = [] := List.filter_eq_nil_iff.2 fun y hy => by have := h3 y hy; simp; omega
  have f1 : l1.filter (fun y => decide (k < y.1)) = [] := List.filter_eq_nil_iff.2 fun y hy => by have := h1 y hy; simp; omega
  have f2 : l2.filter (fun y => decide (k < y.1)) = [] := List.filter_eq_nil_iff.2 fun y hy => by simp [h2 y hy]
  have f3 : l3.filter (fun y => decide (k < y.1)) = l3 := List.filter_eq_self.2 fun y hy => decide_eq_true (h3 y hy)
  have g1 : l1.filter (fun y => decide (y.1 ≠ k)) = l1 := List.filter_eq_self.2 fun y hy => by have := h1 y hy; simp; omega
  have g2 : l2.filter (fun y => decide (y.1 ≠ k)) = [] := List.filter_eq_nil_iff.2 fun y hy => by simp [h2 y hy]
  have g3 : l3.filter (fun y => decide (y.1 ≠ k)) = l3 := List.filter_eq_self.2 fun y hy => by have := h3 y hy; simp; omega
  refine ⟨?_, ?_, ?_⟩
  · rw [List.filter_append, List.filter_append, e1, e2, e3]; simp
  · rw [List.filter_append, List.filter_append, f1, f2, f3]; simp
  · rw [List.filter_append, List.filter_append, g1, g2, g3]; simp
theorem szF_app : ∀ {fs : List Fr}, szF hs (fs ++ gs) = szF (szF hs gs) fs
  | [] => rfl
  | f :: fs => by show f.o.sz + szF hs (fs ++ gs) + 1 = f.o.sz + szF (szF hs gs) fs + 1; rw [szF_app]
theorem smF_app : ∀ {fs : List Fr}, smF hv (fs ++ gs) = smF (smF hv gs) fs
  | [] => rfl
  | f :: fs => by show f.o.sm + f.w + smF hv (fs ++ gs) = f.o.sm + f.w + smF (smF hv gs) fs; rw [smF_app]
theorem adF_app : adF hole (fs ++ gs) = adF (adF hole gs) fs := by cases fs <;> rfl
/-- a node on a path: its cells -/
abbrev FC (m : Int → Int) (f : Fr) (ad : Int) (sz : Nat) (sm : Int) : Prop := if f.d then Nc m f.a f.x f.w ad f.o.at' sz sm else Nc m f.a f.x f.w f.o.at' ad sz sm
theorem FR_app : ∀ {fs : List Fr}, FR m hole hs hv (fs ++ gs) ↔ FR m (adF hole gs) (szF hs gs) (smF hv gs) fs ∧ FR m hole hs hv gs
  | [] => ⟨fun h => ⟨trivial, h⟩, fun h => h.2⟩
  | f :: fs => by
    have ih := FR_app (fs := fs)
    show (FC m f (adF hole (fs ++ gs)) (f.o.sz + szF hs (fs ++ gs) + 1) (f.o.sm + f.w + smF hv (fs ++ gs)) ∧ TR m f.o ∧ FR m hole hs hv (fs ++ gs)) ↔
      (FC m f (adF (adF hole gs) fs) (f.o.sz + szF (szF hs gs) fs + 1) (f.o.sm + f.w + smF (smF hv gs) fs) ∧ TR m f.o ∧ FR m (adF hole gs) (szF hs gs) (smF hv gs) fs) ∧ FR m hole hs hv gs
    rw [ih, adF_app, szF_app, smF_app]
    exact ⟨fun ⟨h1, h2, h3, h4⟩ => ⟨⟨h1, h2, h3⟩, h4⟩, fun ⟨⟨h1, h2, h3⟩, h4⟩ => ⟨h1, h2, h3, h4⟩⟩
theorem FN_app : FN (fs ++ gs) = FN fs ++ FN gs := by simp [FN]
theorem pt2_app : pt2 (fs ++ gs) = pt2 fs ++ pt2 gs := by simp [pt2]
theorem pt2_FN {y : Int × Int} (h : y ∈ pt2 fs) : y.1 ∈ FN fs := by
  obtain ⟨f, hf, rfl⟩ := List.mem_map.1 h
  exact List.mem_flatMap.2 ⟨f, hf, List.mem_cons_self ..⟩
/-- where the root's cells lie -/
theorem rt_ne (G : TG D p root) (g : p.good) {x i j : Int} (hx : isN p x) (hi : 0 ≤ i ∧ i ≤ 7) (hj : 0 ≤ j ∧ j ≤ 7) : root + i ≠ x + j := by
  have := isN_pos g hx
  have := G.A.b
  omega
/-- a node hangs elsewhere -/
theorem wp_tHang {q : Unit → Prog α} {a' : Int} (G : TG D p root) (g : p.good) (S : Sm D σ0 σ m c) (hdir : ∀ f ∈ fs, f.d = decide (k < f.x)) (H : FR m hole hs hv fs) (hr : m root = adF hole fs) (hN : ∀ x ∈ FN fs, isN p x) (hd : (FN fs).Nodup) (ha : R64 a') (hb : σ0.pu.length + c + 1 ≤ big)
    (h : ∀ σ' m', Sm D σ0 σ' m' (c + 1) → FR m' a' hs hv fs → m' root = adF a' fs → (∀ b, b ≠ root → (∀ x ∈ FN fs, ∀ i, 2 ≤ i → i ≤ 3 → b ≠ x + i) → m' b = m b) → wp (q ()) σ' Q) : wp (tHang root k a' (pt2 fs) >>= q) σ Q := by
  have hr0 := G.R 0 (by decide) (by decide)
  rw [Int.add_zero] at hr0
  rcases List.eq_nil_or_concat fs with rfl | ⟨gs, f, rfl⟩
  · refine wp_put S hr0 ha (by omega) fun σ1 S1 => ?_
    exact h σ1 _ S1 trivial (upd_eq _ _ _) fun b hb _ => upd_ne _ _ hb
  · rw [List.concat_eq_append] at *
    have hf := hdir f (by simp)
    have hgl : (pt2 (gs ++ [f])).getLast? = some (f.a, f.x) := by rw [pt2_app]; exact List.getLast?_concat
    rw [FR_app] at H
    obtain ⟨Hg, Hf, Ho, _⟩ := H
    have hfN : f.a ∈ FN (gs ++ [f]) := by rw [FN_app]; exact List.mem_append_right _ (by simp [FN])
    have haN := hN f.a hfN
    rw [FN_app] at hd
    obtain ⟨hd1, hd2, hd3⟩ := List.nodup_append.1 hd
    have hfo : f.a ∉ f.o.ns := by
      have : (f.a :: (f.o.ns ++ [])).Nodup := hd2
      rw [List.append_nil, List.nodup_cons] at this
      exact this.1
    have hfg : f.a ∉ FN gs := fun hx => hd3 _ hx f.a (by simp [FN]) rfl
    have hk : kidc k f.x = if f.d then 2 else 3 := by unfold kidc; rw [hf]; by_cases e : k < f.x <;> simp [e]
    have hk23 : kidc k f.x = 2 ∨ kidc k f.x = 3 := by rw [hk]; split <;> simp
    have hDa := G.dp.n f.a haN (kidc k f.x) (by omega) (by omega)
    unfold tHang
    rw [hgl]
    show wp (pt (f.a + kidc k f.x) a' >>= q) σ Q
    refine wp_put S hDa ha (by omega) fun σ1 S1 => ?_
    have hoff : ∀ x i, x ∈ FN gs ++ f.o.ns → 0 ≤ i → i ≤ 5 → upd m (f.a + kidc k f.x) a' (x + i) = m (x + i) := fun x i hx h0 h5 => by
      have hxN : isN p x := by
        rcases List.mem_append.1 hx with h | h
        · exact hN x (by rw [FN_app]; exact List.mem_append_left _ h)
        · exact hN x (by rw [FN_app]; exact List.mem_append_right _ (by simp [FN, h]))
      have hne : x ≠ f.a := fun e => by
        subst e
        rcases List.mem_append.1 hx with h | h
        · exact hfg h
        · exact hfo h
      exact upd_ne _ _ (isN_ne hxN haN hne ⟨h0, by omega⟩ ⟨by omega, by omega⟩)
    refine h σ1 _ S1 ?_ ?_ fun b hb hb2 => upd_ne _ _ (by rcases hk23 with e | e <;> (rw [e]; exact hb2 f.a hfN _ (by decide) (by decide)))
    · rw [FR_app]
      refine ⟨Hg.ext fun x hx i h0 h5 => hoff x i (List.mem_append_left _ hx) h0 h5, ?_, Ho.ext fun x hx i h0 h5 => hoff x i (List.mem_append_right _ hx) h0 h5, trivial⟩
      have hself : ∀ i, i ≠ kidc k f.x → upd m (f.a + kidc k f.x) a' (f.a + i) = m (f.a + i) := fun i hi => upd_ne _ _ (by omega)
      have h0 := hself 0 (by omega)
      rw [Int.add_zero] at h0
      cases hdd : f.d with
      | true =>
        rw [hdd, if_pos rfl] at Hf hk
        rw [if_pos rfl]
        exact ⟨by rw [h0]; exact Hf.k, by rw [hself 1 (by omega)]; exact Hf.v, by rw [hk]; exact upd_eq _ _ _, by rw [hself 3 (by omega)]; exact Hf.r, by rw [hself 4 (by omega)]; exact Hf.c, by rw [hself 5 (by omega)]; exact Hf.s⟩
      | false =>
        rw [hdd, if_neg (by simp)] at Hf hk
        rw [if_neg (by simp)]
        exact ⟨by rw [h0]; exact Hf.k, by rw [hself 1 (by omega)]; exact Hf.v, by rw [hself 2 (by omega)]; exact Hf.l, by rw [hk]; exact upd_eq _ _ _, by rw [hself 4 (by omega)]; exact Hf.c, by rw [hself 5 (by omega)]; exact Hf.s⟩
    · have hrn := rt_ne G g haN (i := 0) (j := kidc k f.x) (by omega) (by omega)
      rw [Int.add_zero] at hrn
      rw [upd_ne _ _ hrn, hr, adF_app, adF_app]
      rfl
end
end Go.En
namespace Go.En
open Prog Spc

structure TS (p : Pl) (root : Int) (m : Int → Int) (t : Tr) (fr : List Int) (out : Int) : Prop where
  P : PoolR m p fr out
  rt : m root = t.at'
  tr : TR m t
  nd : t.ns.Nodup
  hl : Held p fr out t.ns
  cnt : (t.sz : Int) + fr.length = out
  n7 : m (root + 7) = t.sz
  srt : Srt t.ks
  kr : ∀ y ∈ t.ks, R64 y.1
  ho : HO t
section
variable {D : Int → Prop} {σ0 σ σ' : Spc} {m m' : Int → Int} {c c' : Nat} {α β : Type} {Q : α → Spc → Prop} {p : Pl} {root k v a : Int} {fs gs : List Fr} {t s s' : Tr} {fr : List Int} {out : Int}
theorem TS.isN (X : TS p root m t fr out) {x : Int} (h : x ∈ t.ns) : En.isN p x := by
  obtain ⟨⟨i, h0, h1, e⟩, _⟩ := X.hl x h
  exact ⟨i, h0, by have := X.P.out1; omega, e⟩
theorem TS.len (X : TS p root m t fr out) : (t.sz : Int) ≤ p.nodes := by have := X.cnt; have := X.P.out1; omega
/-- off the nodes of a tree nothing is turned -/
abbrev Off (l : List Int) (m m' : Int → Int) : Prop := ∀ b, (∀ x ∈ l, ∀ i, 0 ≤ i → i ≤ 7 → b ≠ x + i) → m' b = m b
theorem PoolR.off {l : List Int} (P : PoolR m p fr out) (hl : Held p fr out l) (h : Off l m m') : PoolR m' p fr out := by
  have hN : ∀ x ∈ l, En.isN p x := fun x hx => by
    obtain ⟨⟨i, h0, h1, e⟩, _⟩ := hl x hx
    exact ⟨i, h0, by have := P.out1; omega, e⟩
  refine P.ext fun b hb => h b fun x hx i h0 h7 => ?_
  have r0 := root_ne P.good (hN x hx) (i := 0) (j := i) (by omega) ⟨h0, h7⟩
  have r1 := root_ne P.good (hN x hx) (i := 1) (j := i) (by omega) ⟨h0, h7⟩
  have r2 := root_ne P.good (hN x hx) (i := 2) (j := i) (by omega) ⟨h0, h7⟩
  rcases hb with rfl | rfl | rfl | hb
  · omega
  · exact r1
  · exact r2
  · have hne : b ≠ x := fun e => (hl x hx).2 (e ▸ hb)
    have := isN_ne (P.isN hb) (hN x hx) hne (o := 0) (o' := i) ⟨by omega, by omega⟩ ⟨h0, h7⟩
    rwa [Int.add_zero] at this
theorem wk0_val (h : 0 ≤ p.nodes ∧ p.nodes ≤ 1000) : (Fin.ofNat 1000001 (64 * (p.nodes.toNat + 1))).val = 64 * (p.nodes.toNat + 1) := by
  show 64 * (p.nodes.toNat + 1) % 1000001 = _
  exact Nat.mod_eq_of_lt (by omega)
theorem wp_tPath {q : List (Int × Int) × Wk → Prog α} (G : TG D p root) (S : Sm D σ0 σ m c) (X : TS p root m t fr out) (h : ∀ n' σ', 63 * t.sz + 64 ≤ n'.val → Sm D σ0 σ' m c → wp (q (stp k t, .ok n')) σ' Q) : wp (tPath p root k (wk0 p) >>= q) σ Q := by
  have g := X.P.good
  have g3 := g.n1; have g4 := g.n0
  have hl := X.len
  have hv := wk0_val (p := p) ⟨by omega, by omega⟩
  have hr0 := G.R 0 (by decide) (by decide)
  rw [Int.add_zero] at hr0
  unfold tPath
  rw [wp_bind]
  refine wp_get S hr0 fun σ1 S => ?_
  rw [X.rt]
  have key := wp_ret' (Q := fun a σ' => wp (q a) σ' Q) (wp_pathL (k := k) (q := Prog.ret) (n := Fin.ofNat 1000001 (64 * (p.nodes.toNat + 1))) g G.dp t p.nodes.toNat [] S X.tr (fun x hx => X.isN hx) (by rw [hv]; omega) (by omega) fun n' σ2 hn S2 => by
    rw [List.nil_append]
    exact h n' σ2 (by rw [hv] at hn; omega) S2)
  exact key
theorem fnd_nil (h : ∀ f ∈ fs, f.x ≠ k) : tFnd k (pt2 fs) = false := by
  unfold tFnd
  rcases List.eq_nil_or_concat fs with rfl | ⟨gs, f, rfl⟩
  · rfl
  · rw [List.concat_eq_append] at *
    rw [pt2_app, show pt2 [f] = [(f.a, f.x)] from rfl, List.getLast?_concat]
    exact decide_eq_false (h f (by simp))
theorem fnd_some : tFnd k (pt2 fs ++ [(a, k)]) = true := by
  unfold tFnd
  rw [List.getLast?_concat]
  exact decide_eq_true rfl
theorem plug_cong_ns (h : s.ns = s'.ns) : ∀ {fs : List Fr}, (plug fs s).ns = (plug fs s').ns
  | [] => h
  | f :: fs => by
    have ih := plug_cong_ns h (fs := fs)
    show (f.node _).ns = (f.node _).ns
    unfold Fr.node
    split <;> simp only [Tr.ns, ih]
/-- a lookup in a row of keys in order -/
theorem lk_mid {l1 l3 : List (Int × Int)} {old : Int} (h1 : ∀ y ∈ l1, y.1 < k) (h3 : ∀ y ∈ l3, k < y.1) : (k, old) ∈ l1 ++ [(k, old)] ++ l3 ∧ (∀ y ∈ l1 ++ l3, y.1 ≠ k) := by
  refine ⟨by simp, fun y hy => ?_⟩
  rcases List.mem_append.1 hy with h | h
  · have := h1 y h; omega
  · have := h3 y h; omega
theorem srt_mid {l1 l3 : List (Int × Int)} {v : Int} (h : Srt (l1 ++ l3)) (h1 : ∀ y ∈ l1, y.1 < k) (h3 : ∀ y ∈ l3, k < y.1) : Srt (l1 ++ (k, v) :: l3) := by
  obtain ⟨a1, a2, a3⟩ := List.pairwise_append.1 h
  refine List.pairwise_append.2 ⟨a1, List.pairwise_cons.2 ⟨fun y hy => h3 y hy, a2⟩, fun x hx y hy => ?_⟩
  rcases List.mem_cons.1 hy with rfl | hy
  · exact h1 x hx
  · exact a3 x hx y hy
theorem srt_out {l1 l2 l3 : List (Int × Int)} (h : Srt (l1 ++ l2 ++ l3)) : Srt (l1 ++ l3) :=
  h.sublist ((List.sublist_append_left l1 l2).append_right l3)
theorem FN_ns {x : Int} (hx : x ∈ FN fs) : x ∈ (plug fs s).ns := plug_ns.mem_iff.2 (List.mem_append_left _ hx)
theorem sub_ns {x : Int} (hx : x ∈ s.ns) : x ∈ (plug fs s).ns := plug_ns.mem_iff.2 (List.mem_append_right _ hx)
theorem plug_nd (h : (plug fs s).ns.Nodup) : (FN fs).Nodup ∧ s.ns.Nodup ∧ ∀ x ∈ FN fs, x ∉ s.ns := by
  obtain ⟨h1, h2, h3⟩ := List.nodup_append.1 (plug_ns.nodup_iff.1 h)
  exact ⟨h1, h2, fun x hx hx2 => h3 x hx x hx2 rfl⟩
theorem szF_ge {hs : Nat} : ∀ {fs : List Fr}, hs + fs.length ≤ szF hs fs
  | [] => Nat.le_refl _
  | f :: fs => by
    have := szF_ge (hs := hs) (fs := fs)
    show hs + (fs.length + 1) ≤ f.o.sz + szF hs fs + 1
    omega
/-- a found key's value is set -/
theorem wp_putF (G : TG D p root) (S0 : Sm D σ σ m 0) {n' : Wk} {σ1 : Spc} (S : Sm D σ σ1 m 0) {l r : Tr} {old : Int} (hf : frs k t = (fs, .nd a l k old r)) (X : TS p root m t fr out) (hk : R64 k) (hv : R64 v) (hl : σ.pu.length + 4000 ≤ big) {mk0 : Int} :
    wp (tPutF k v mk0 (stp k t)) σ1 fun e σ' => ∃ t' m', (k, old) ∈ t.ks ∧ e = (old, true, 0) ∧ Sm D σ σ' m' 3000 ∧ TS p root m' t' fr out ∧ t'.ks = rPut t.ks k v := by
  have g := X.P.good
  have g3 := g.n1
  have hlen := X.len
  have ht : plug fs (.nd a l k old r) = t := by have := frs_plug (k := k) (t := t); rw [hf] at this; exact this
  have hp : stp k t = pt2 fs ++ [(a, k)] := by rw [stp_frs, hf]
  have hlr := frs_lr (k := k) X.srt
  rw [hf] at hlr
  have hks : t.ks = lks fs ++ (l.ks ++ (k, old) :: r.ks) ++ rks fs := by rw [← ht, plug_ks]; rfl
  let F : Fr := ⟨a, k, v, l, false⟩
  have ht' : plug (fs ++ [F]) r = plug fs (.nd a l k v r) := by rw [plug_app]; rfl
  have hns : (plug (fs ++ [F]) r).ns = t.ns := by rw [ht', ← ht]; exact plug_cong_ns (s := .nd a l k v r) (s' := .nd a l k old r) rfl
  have hTR := X.tr
  rw [← ht, plug_TR] at hTR
  obtain ⟨HF, Ha, Hl, Hr⟩ := hTR
  have hnd := plug_nd (fs := fs ++ [F]) (s := r) (by rw [hns]; exact X.nd)
  have haF : a ∈ FN (fs ++ [F]) := by rw [FN_app]; exact List.mem_append_right _ (by simp [FN, F])
  have hNF : ∀ x ∈ FN (fs ++ [F]), isN p x := fun x hx => X.isN (by rw [← hns]; exact FN_ns hx)
  have hNr : ∀ x ∈ r.ns, isN p x := fun x hx => X.isN (by rw [← hns]; exact sub_ns hx)
  have haN := hNF a haF
  have hDa := G.dp.n a haN 1 (by decide) (by decide)
  have hnd1 := hnd.1
  rw [FN_app] at hnd1
  obtain ⟨hd1, hd2, hd3⟩ := List.nodup_append.1 hnd1
  have hal : a ∉ l.ns := by
    have h : (a :: (l.ns ++ [])).Nodup := hd2
    rw [List.append_nil, List.nodup_cons] at h
    exact h.1
  have hafs : a ∉ FN fs := fun hx => hd3 a hx a (by simp [FN, F]) rfl
  unfold tPutF
  rw [hp, List.getLast?_concat]
  show wp (gt (a + 1) >>= fun old => pt (a + 1) v >>= fun _ => tAdd 0 (w64 (v - old)) (pt2 fs ++ [(a, k)]) >>= fun _ => dUn 0 mk0 >>= fun _ => pure (old, true, 0)) σ1 _
  refine wp_get S hDa fun σ2 S2 => ?_
  rw [Ha.v]
  refine wp_put S2 hDa hv (by omega) fun σ3 S3 => ?_
  have e1 : pt2 fs ++ [(a, k)] = pt2 (fs ++ [F]) := by rw [pt2_app]; rfl
  rw [e1]
  have hu : ∀ x i, isN p x → x ≠ a → 0 ≤ i → i ≤ 5 → upd m (a + 1) v (x + i) = m (x + i) := fun x i hx hne h0 h5 => upd_ne _ _ (isN_ne hx haN hne ⟨h0, by omega⟩ ⟨by decide, by decide⟩)
  have R0 : FR (upd m (a + 1) v) r.at' r.sz (r.sm + old - v) (fs ++ [F]) := by
    rw [FR_app]
    refine ⟨?_, ?_, ?_, trivial⟩
    · have e : smF (r.sm + old - v) [F] = (Tr.nd a l k old r).sm := by show l.sm + v + (r.sm + old - v) = l.sm + old + r.sm; omega
      rw [e]
      exact HF.ext fun x hx i h0 h5 => hu x i (hNF x (by rw [FN_app]; exact List.mem_append_left _ hx)) (fun e => hafs (e ▸ hx)) h0 h5
    · show Nc (upd m (a + 1) v) a k v l.at' r.at' (l.sz + r.sz + 1) (l.sm + v + (r.sm + old - v))
      rw [show l.sm + v + (r.sm + old - v) = l.sm + old + r.sm by omega]
      exact ⟨by rw [upd_ne _ _ (by omega)]; exact Ha.k, upd_eq _ _ _, by rw [upd_ne _ _ (by omega)]; exact Ha.l, by rw [upd_ne _ _ (by omega)]; exact Ha.r, by rw [upd_ne _ _ (by omega)]; exact Ha.c, by rw [upd_ne _ _ (by omega)]; exact Ha.s⟩
    · exact Hl.ext fun x hx i h0 h5 => hu x i (hNF x (by rw [FN_app]; exact List.mem_append_right _ (by simp [FN, F, hx]))) (fun e => hal (e ▸ hx)) h0 h5
  have hsz0 : szF r.sz (fs ++ [F]) = t.sz := by
    rw [← plug_sz, ht', ← ht, plug_sz, plug_sz]; rfl
  have hge := szF_ge (hs := r.sz) (fs := fs ++ [F])
  refine wp_tAdd (d := v - old) (hs := r.sz) (hs' := r.sz) (hole := r.at') g G.dp rfl ⟨by decide, by decide⟩ (by omega) (fs ++ [F]) S3 R0 hNF hnd.1 (by omega) (by omega) fun σ4 m4 S4 R4 hfr => ?_
  rw [show r.sm + old - v + (v - old) = r.sm by omega] at R4
  refine wp_un0 ?_
  have hoff1 : ∀ x i, isN p x → x ∉ FN (fs ++ [F]) → 0 ≤ i → i ≤ 7 → m4 (x + i) = m (x + i) := fun x i hx hno h0 h7 => by
    rw [hfr _ fun y hy => ?_]
    · exact upd_ne _ _ (isN_ne hx haN (fun e => hno (e ▸ haF)) ⟨h0, h7⟩ ⟨by decide, by decide⟩)
    · have hyF := pt2_FN hy
      have hne : x ≠ y.1 := fun e => hno (e ▸ hyF)
      exact ⟨isN_ne hx (hNF _ hyF) hne ⟨h0, h7⟩ ⟨by decide, by decide⟩, isN_ne hx (hNF _ hyF) hne ⟨h0, h7⟩ ⟨by decide, by decide⟩⟩
  have hOff : Off t.ns m m4 := fun b hb => by
    rw [hfr b fun y hy => ?_]
    · exact upd_ne _ _ (hb a (by rw [← hns]; exact FN_ns haF) 1 (by decide) (by decide))
    · have hyt : y.1 ∈ t.ns := by rw [← hns]; exact FN_ns (pt2_FN hy)
      exact ⟨hb y.1 hyt 4 (by decide) (by decide), hb y.1 hyt 5 (by decide) (by decide)⟩
  have hT' : TR m4 (plug (fs ++ [F]) r) := plug_TR.2 ⟨R4, Hr.ext fun x hx i h0 h5 => hoff1 x i (hNr x hx) (fun hx2 => hnd.2.2 x hx2 hx) h0 (by omega)⟩
  have hrt : ∀ i, 0 ≤ i → i ≤ 7 → m4 (root + i) = m (root + i) := fun i h0 h7 => hOff _ fun x hx j j0 j7 => rt_ne G g (X.isN hx) ⟨h0, h7⟩ ⟨j0, j7⟩
  have hr0 := hrt 0 (by decide) (by decide)
  rw [Int.add_zero] at hr0
  have hks' : (plug (fs ++ [F]) r).ks = lks fs ++ (l.ks ++ (k, v) :: r.ks) ++ rks fs := by rw [ht', plug_ks]; rfl
  have hsrt := X.srt
  rw [hks, show lks fs ++ (l.ks ++ (k, old) :: r.ks) ++ rks fs = (lks fs ++ l.ks) ++ (k, old) :: (r.ks ++ rks fs) by simp] at hsrt
  obtain ⟨q1, q2, q3, q4⟩ := srt_nd hsrt
  have hrp : (plug (fs ++ [F]) r).ks = rPut t.ks k v := by
    rw [hks', hks]
    have := flt_lr (l1 := lks fs ++ l.ks) (l2 := [(k, old)]) (l3 := r.ks ++ rks fs) q3 (fun y hy => by rw [List.mem_singleton] at hy; rw [hy]) q4
    unfold rPut
    rw [show lks fs ++ (l.ks ++ (k, old) :: r.ks) ++ rks fs = (lks fs ++ l.ks) ++ [(k, old)] ++ (r.ks ++ rks fs) by simp, this.1, this.2.1]
    simp
  have hki : kI (plug (fs ++ [F]) r).ks = kI t.ks := by rw [hks', hks]; simp
  refine ⟨plug (fs ++ [F]) r, m4, by rw [hks]; simp, rfl, S4.mono (by omega), ⟨X.P.off X.hl hOff, ?_, hT', by rw [hns]; exact X.nd, by rw [hns]; exact X.hl, ?_, ?_, ?_, ?_, ?_⟩, hrp⟩
  · rw [hr0, X.rt, ← ht, ht', plug_at, plug_at]; rfl
  · rw [plug_sz, hsz0]; exact X.cnt
  · rw [hrt 7 (by decide) (by decide), X.n7, plug_sz, hsz0]
  · rw [hks', show lks fs ++ (l.ks ++ (k, v) :: r.ks) ++ rks fs = (lks fs ++ l.ks) ++ (k, v) :: (r.ks ++ rks fs) by simp]
    have hs0 : Srt ((lks fs ++ l.ks) ++ (r.ks ++ rks fs)) := hsrt.sublist ((List.Sublist.refl _).append (List.sublist_cons_self _ _))
    exact srt_mid hs0 q3 q4
  · intro y hy
    have : y.1 ∈ kI t.ks := by rw [← hki]; exact List.mem_map.2 ⟨y, hy, rfl⟩
    obtain ⟨z, hz, e⟩ := List.mem_map.1 this
    rw [← e]; exact X.kr z hz
  · have h0 := X.ho
    rw [← ht] at h0
    have hp := HO.plug (s' := .nd a l k v r) h0
    rw [ht']
    refine hp.2.2 (fun y hy f hf => ?_) ⟨hp.1.1, hp.1.2⟩
    have hy : y ∈ l.ks ++ (k, v) :: r.ks := hy
    rcases List.mem_append.1 hy with h | h
    · exact hp.2.1 y (by show y ∈ l.ks ++ (k, old) :: r.ks; exact List.mem_append_left _ h) f hf
    · rcases List.mem_cons.1 h with rfl | h
      · exact hp.2.1 (k, old) (by show _ ∈ l.ks ++ (k, old) :: r.ks; simp) f hf
      · exact hp.2.1 y (by show y ∈ l.ks ++ (k, old) :: r.ks; simp [h]) f hf
end
end Go.En
namespace Go.En
open Prog Spc

section
variable {D : Int → Prop} {σ0 σ σ' : Spc} {m m' : Int → Int} {c c' : Nat} {α β : Type} {Q : α → Spc → Prop} {p : Pl} {root k v a : Int} {fs gs : List Fr} {t s s' : Tr} {fr : List Int} {out : Int}
theorem tw_mem {α : Type} {p : α → Bool} {x : α} : ∀ {l : List α}, x ∈ l.takeWhile p → p x = true
  | [], h => by cases h
  | y :: l, h => by
    rw [List.takeWhile_cons] at h
    split at h
    · rename_i hy
      rcases List.mem_cons.1 h with rfl | h
      · exact hy
      · exact tw_mem h
    · cases h
theorem pt2_take : cutL k (pt2 fs) = pt2 (fs.takeWhile fun f => decide (rk k < rk f.x)) := by
  unfold cutL pt2
  rw [List.takeWhile_map]; rfl
theorem pt2_drop : (pt2 fs).drop (cutL k (pt2 fs)).length = pt2 (fs.dropWhile fun f => decide (rk k < rk f.x)) := by
  rw [pt2_take]
  have e : pt2 fs = pt2 (fs.takeWhile fun f => decide (rk k < rk f.x)) ++ pt2 (fs.dropWhile fun f => decide (rk k < rk f.x)) := by rw [← pt2_app, List.takeWhile_append_dropWhile]
  conv => lhs; rw [e]
  exact List.drop_left
theorem head_drop {f : Fr} {gs : List Fr} (h : fs.dropWhile (fun f => decide (rk k < rk f.x)) = f :: gs) : ¬ rk k < rk f.x := by
  have := List.head?_dropWhile_not (fun f : Fr => decide (rk k < rk f.x)) fs
  rw [h] at this
  simpa using this
/-- a new key's node takes its place -/
theorem wp_putN (G : TG D p root) (S0 : Sm D σ σ m 0) {n1 : Fin 1000001} (hn1 : 63 * t.sz + 64 ≤ n1.val) {σ1 : Spc} (hf : frs k t = (fs, .nil)) (X : TS p root m t fr out) (hk : R64 k) (hv : R64 v) (hl : σ.pu.length + 4000 ≤ big) {m1 : Int → Int} {n out' : Int} {fr' : List Int} (S : Sm D σ σ1 m1 2)
    (T : Took p fr out n fr' out') (hn : ∃ i, 0 ≤ i ∧ i < out' ∧ n = p.frm + 8 * i) (hnf : n ∉ fr') (P1 : PoolR m1 p fr' out') (hm1 : ∀ a, a ≠ p.root → a ≠ p.root + 1 → a ≠ p.root + 2 → m1 a = m a) :
    wp (tPutT p root k v σ.pu.length (stp k t) (.ok n1) n) σ1 fun e σ' => e = (0, false, 0) ∧ ∃ t' m', Sm D σ σ' m' 3000 ∧ TS p root m' t' fr' out' ∧ t'.ks = rPut t.ks k v := by
  have g := X.P.good
  have g3 := g.n1; have g4 := g.n0; have g5 := g.r0
  have hlen := X.len
  have ht0 : plug fs .nil = t := by have := frs_plug (k := k) (t := t); rw [hf] at this; exact this
  have hp : stp k t = pt2 fs := by rw [stp_frs, hf]; simp
  have hlr := frs_lr (k := k) X.srt
  have hdir := frs_dir (k := k) (t := t)
  rw [hf] at hlr hdir
  obtain ⟨hnt, hheld, hoo, hcn⟩ := T.held X.P X.hl
  have hnN : isN p n := by
    obtain ⟨i, h0, h1, e⟩ := hn
    exact ⟨i, h0, by have := P1.out1; omega, e⟩
  obtain ⟨ra, rb⟩ := G.A
  -- the two parts of the path
  let fs1 := fs.takeWhile fun f => decide (rk k < rk f.x)
  let fs2 := fs.dropWhile fun f => decide (rk k < rk f.x)
  have e12 : fs1 ++ fs2 = fs := List.takeWhile_append_dropWhile
  let s2 : Tr := plug fs2 .nil
  have ht : plug fs1 s2 = t := by show plug fs1 (plug fs2 .nil) = t; rw [← plug_app, e12, ht0]
  have hnd := plug_nd (fs := fs1) (s := s2) (by rw [ht]; exact X.nd)
  have hN1 : ∀ x ∈ FN fs1, isN p x := fun x hx => X.isN (by rw [← ht]; exact FN_ns hx)
  have hN2 : ∀ x ∈ s2.ns, isN p x := fun x hx => X.isN (by rw [← ht]; exact sub_ns hx)
  have hn1t : n ∉ FN fs1 := fun hx => hnt (by rw [← ht]; exact FN_ns hx)
  have hn2t : n ∉ s2.ns := fun hx => hnt (by rw [← ht]; exact sub_ns hx)
  have hsz : szF s2.sz fs1 = t.sz := by rw [← plug_sz, ht]
  have hge := szF_ge (hs := s2.sz) (fs := fs1)
  have hDn := fun i (hi : 0 ≤ i ∧ i ≤ 7) => G.dp.n n hnN i hi.1 hi.2
  have hDn0 := hDn 0 (by omega)
  rw [Int.add_zero] at hDn0
  unfold tPutT
  rw [hp, pt2_drop, pt2_take]
  refine wp_put S hDn0 hk (by omega) fun σ2 S2 => ?_
  refine wp_put S2 (hDn 1 (by omega)) hv (by omega) fun σ3 S3 => ?_
  have hTR := X.tr
  rw [← ht, plug_TR] at hTR
  obtain ⟨HF, Hs⟩ := hTR
  have hoff1 : ∀ x i, isN p x → x ≠ n → 0 ≤ i → i ≤ 7 → upd (upd m1 n k) (n + 1) v (x + i) = m (x + i) := fun x i hx hne h0 h7 => by
    have a1 := isN_ne hx hnN hne (o := i) (o' := 1) ⟨h0, h7⟩ ⟨by decide, by decide⟩
    have a0 := isN_ne hx hnN hne (o := i) (o' := 0) ⟨h0, h7⟩ ⟨by decide, by decide⟩
    have r0 := root_ne g hx (i := 0) (j := i) (by omega) ⟨h0, h7⟩
    have r1 := root_ne g hx (i := 1) (j := i) (by omega) ⟨h0, h7⟩
    have r2 := root_ne g hx (i := 2) (j := i) (by omega) ⟨h0, h7⟩
    rw [upd_ne _ _ a1, upd_ne _ _ (by omega), hm1 _ (by omega) (by omega) (by omega)]
  have Hs3 : TR (upd (upd m1 n k) (n + 1) v) s2 := Hs.ext fun x hx i h0 h5 => hoff1 x i (hN2 x hx) (fun e => hn2t (e ▸ hx)) h0 (by omega)
  have HF3 : FR (upd (upd m1 n k) (n + 1) v) s2.at' s2.sz s2.sm fs1 := HF.ext fun x hx i h0 h5 => hoff1 x i (hN1 x hx) (fun e => hn1t (e ▸ hx)) h0 (by omega)
  generalize hm3 : upd (upd m1 n k) (n + 1) v = m3 at *
  have hm3n : m3 n = k := by rw [← hm3, upd_ne _ _ (by omega), upd_eq]
  have hm3v : m3 (n + 1) = v := by rw [← hm3]; exact upd_eq _ _ _
  have hm3o : ∀ b, b ≠ p.root → b ≠ p.root + 1 → b ≠ p.root + 2 → b ≠ n → b ≠ n + 1 → m3 b = m b := fun b b1 b2 b3 b4 b5 => by rw [← hm3, upd_ne _ _ b5, upd_ne _ _ b4]; exact hm1 b b1 b2 b3
  have hm3p : Off [n] m1 m3 := fun b hb => by
    have h0 := hb n (by simp) 0 (by decide) (by decide)
    rw [Int.add_zero] at h0
    rw [← hm3, upd_ne _ _ (hb n (by simp) 1 (by decide) (by decide)), upd_ne _ _ h0]
  -- the split
  have split : ∀ {q : (Int × Int) × Wk → Prog (Int × Bool × Int)} {Q' : (Int × Bool × Int) → Spc → Prop}, (∀ n' σ' m', n1.val ≤ n'.val + 5 * s2.sz → Sm D σ σ' m' (4 + 3 * s2.sz) → TR m' (spl k s2).1 → TR m' (spl k s2).2 → Frm s2.ns m3 m' → wp (q (((spl k s2).1.at', (spl k s2).2.at'), .ok n')) σ' Q') →
      wp ((match pt2 fs2 with | [] => pure ((0, 0), .ok n1) | y :: _ => tSpl p k (fu p) (.ok n1) y.1) >>= q) σ3 Q' := fun {q Q'} h => by
    cases h2 : fs2 with
    | nil =>
      have es : s2 = .nil := by show plug fs2 .nil = .nil; rw [h2]; rfl
      rw [es] at h
      exact h n1 σ3 m3 (by omega) (S3.mono (by omega)) trivial trivial fun _ _ => rfl
    | cons f gs =>
      have es : f.a = s2.at' := by show f.a = (plug fs2 .nil).at'; rw [h2, plug_at]; rfl
      show wp (tSpl p k (fu p) (.ok n1) f.a >>= q) σ3 Q'
      rw [es]
      refine wp_spl g G.dp s2 (fu p) S3 Hs3 hN2 hnd.2.1 (by omega) (by unfold fu; omega) (by omega) fun n' σ' m' a1 a2 a3 a4 a5 => h n' σ' m' a1 (a2.mono (by omega)) a3 a4 a5
  refine split fun n4 σ4 m4 hn4 S4 TA TB hfr4 => ?_
  have esz := spl_sz (k := k) (t := s2); have esm := spl_sm (k := k) (t := s2)
  have hNA : ∀ x ∈ (spl k s2).1.ns, isN p x := fun x hx => hN2 x (spl_sub1 hx)
  have hNB : ∀ x ∈ (spl k s2).2.ns, isN p x := fun x hx => hN2 x (spl_sub2 hx)
  have hnA : n ∉ (spl k s2).1.ns := fun hx => hn2t (spl_sub1 hx)
  have hnB : n ∉ (spl k s2).2.ns := fun hx => hn2t (spl_sub2 hx)
  have HF4 : FR m4 s2.at' s2.sz s2.sm fs1 := HF3.ext fun x hx i h0 h5 => hfr4 _ fun y hy j j2 j5 => isN_ne (hN1 x hx) (hN2 y hy) (fun e => hnd.2.2 x hx (e ▸ hy)) ⟨h0, by omega⟩ ⟨by omega, by omega⟩
  have hm4n : ∀ i, 0 ≤ i → i ≤ 7 → m4 (n + i) = m3 (n + i) := fun i h0 h7 => hfr4 _ fun y hy j j2 j5 => isN_ne hnN (hN2 y hy) (fun e => hn2t (e ▸ hy)) ⟨h0, h7⟩ ⟨by omega, by omega⟩
  have hm4k : m4 n = k := by have := hm4n 0 (by decide) (by decide); rw [Int.add_zero] at this; rw [this, hm3n]
  have hm4v : m4 (n + 1) = v := by rw [hm4n 1 (by decide) (by decide), hm3v]
  unfold tPutU
  refine wp_put S4 (hDn 2 (by omega)) (at_R g hNA) (by omega) fun σ5 S5 => ?_
  refine wp_put S5 (hDn 3 (by omega)) (at_R g hNB) (by omega) fun σ6 S6 => ?_
  have hu6 : ∀ x i, isN p x → x ≠ n → 0 ≤ i → i ≤ 7 → upd (upd m4 (n + 2) (spl k s2).1.at') (n + 3) (spl k s2).2.at' (x + i) = m4 (x + i) := fun x i hx hne h0 h7 => by
    rw [upd_ne _ _ (isN_ne hx hnN hne ⟨h0, h7⟩ ⟨by decide, by decide⟩), upd_ne _ _ (isN_ne hx hnN hne ⟨h0, h7⟩ ⟨by decide, by decide⟩)]
  refine wp_ref (l := (spl k s2).1) (r := (spl k s2).2) (v := v) S6 g G.dp hnN hNA hNB hnA hnB (by rw [upd_ne _ _ (by omega), upd_ne _ _ (by omega)]; exact hm4v) (by rw [upd_ne _ _ (by omega), upd_eq]) (upd_eq _ _ _)
    (TA.ext fun x hx i h0 h5 => hu6 x i (hNA x hx) (fun e => hnA (e ▸ hx)) h0 (by omega)) (TB.ext fun x hx i h0 h5 => hu6 x i (hNB x hx) (fun e => hnB (e ▸ hx)) h0 (by omega)) (by omega) (by omega) (by omega) fun n7 σ7 hn7 S7 => ?_
  generalize hm7 : upd (upd (upd (upd m4 (n + 2) (spl k s2).1.at') (n + 3) (spl k s2).2.at') (n + 4) ((spl k s2).1.sz + (spl k s2).2.sz + 1 : Nat)) (n + 5) (w64 ((spl k s2).1.sm + v + (spl k s2).2.sm)) = m7 at S7
  have hm7o : ∀ b, b ≠ n + 2 → b ≠ n + 3 → b ≠ n + 4 → b ≠ n + 5 → m7 b = m4 b := fun b b2 b3 b4 b5 => by rw [← hm7, upd_ne _ _ b5, upd_ne _ _ b4, upd_ne _ _ b3, upd_ne _ _ b2]
  have hu7 : ∀ x i, isN p x → x ≠ n → 0 ≤ i → i ≤ 7 → m7 (x + i) = m4 (x + i) := fun x i hx hne h0 h7 => hm7o _ (isN_ne hx hnN hne ⟨h0, h7⟩ ⟨by decide, by decide⟩) (isN_ne hx hnN hne ⟨h0, h7⟩ ⟨by decide, by decide⟩) (isN_ne hx hnN hne ⟨h0, h7⟩ ⟨by decide, by decide⟩) (isN_ne hx hnN hne ⟨h0, h7⟩ ⟨by decide, by decide⟩)
  have T7 : TR m7 (.nd n (spl k s2).1 k v (spl k s2).2) := by
    refine ⟨⟨?_, ?_, ?_, ?_, ?_, ?_⟩, TA.ext fun x hx i h0 h5 => hu7 x i (hNA x hx) (fun e => hnA (e ▸ hx)) h0 (by omega), TB.ext fun x hx i h0 h5 => hu7 x i (hNB x hx) (fun e => hnB (e ▸ hx)) h0 (by omega)⟩
    · rw [hm7o _ (by omega) (by omega) (by omega) (by omega)]; exact hm4k
    · rw [hm7o _ (by omega) (by omega) (by omega) (by omega)]; exact hm4v
    · rw [← hm7, upd_ne _ _ (by omega), upd_ne _ _ (by omega), upd_ne _ _ (by omega), upd_eq]
    · rw [← hm7, upd_ne _ _ (by omega), upd_ne _ _ (by omega), upd_eq]
    · rw [← hm7, upd_ne _ _ (by omega), upd_eq]
    · rw [← hm7]; exact upd_eq _ _ _
  have HF7 : FR m7 s2.at' s2.sz s2.sm fs1 := HF4.ext fun x hx i h0 h5 => hu7 x i (hN1 x hx) (fun e => hn1t (e ▸ hx)) h0 (by omega)
  refine wp_tAdd (d := v) (hs := s2.sz) (hs' := s2.sz + 1) (hole := s2.at') g G.dp (w64_R hv).symm ⟨by decide, by decide⟩ (by omega) fs1 S7 HF7 hN1 hnd.1 (by omega) (by omega) fun σ8 m8 S8 HF8 hfr8 => ?_
  have hoff8 : ∀ x i, isN p x → x ∉ FN fs1 → 0 ≤ i → i ≤ 7 → m8 (x + i) = m7 (x + i) := fun x i hx hno h0 h7 => hfr8 _ fun y hy => by
    have hyF := pt2_FN hy
    have hne : x ≠ y.1 := fun e => hno (e ▸ hyF)
    exact ⟨isN_ne hx (hN1 _ hyF) hne ⟨h0, h7⟩ ⟨by decide, by decide⟩, isN_ne hx (hN1 _ hyF) hne ⟨h0, h7⟩ ⟨by decide, by decide⟩⟩
  -- what the steps so far turn outside the nodes
  have hOff8 : ∀ b, (∀ x ∈ n :: t.ns, ∀ i, 0 ≤ i → i ≤ 7 → b ≠ x + i) → m8 b = m1 b := fun b hb => by
    have hbn := fun i h0 h7 => hb n (List.mem_cons_self ..) i h0 h7
    have hbt := fun x (hx : x ∈ t.ns) i h0 h7 => hb x (List.mem_cons_of_mem _ hx) i h0 h7
    have hb0 := hbn 0 (by decide) (by decide)
    rw [Int.add_zero] at hb0
    rw [hfr8 b fun y hy => ?_]
    · rw [hm7o b (hbn 2 (by decide) (by decide)) (hbn 3 (by decide) (by decide)) (hbn 4 (by decide) (by decide)) (hbn 5 (by decide) (by decide)), hfr4 b fun x hx i h2 h5 => hbt x (by rw [← ht]; exact sub_ns hx) i (by omega) (by omega)]
      exact hm3p b fun x hx i h0 h7 => by rw [List.mem_singleton] at hx; subst hx; exact hbn i h0 h7
    · have hyt : y.1 ∈ t.ns := by rw [← ht]; exact FN_ns (pt2_FN hy)
      exact ⟨hbt _ hyt 4 (by decide) (by decide), hbt _ hyt 5 (by decide) (by decide)⟩
  have hNt : ∀ x ∈ n :: t.ns, isN p x := fun x hx => by
    rcases List.mem_cons.1 hx with rfl | hx
    · exact hnN
    · exact X.isN hx
  have hrt8 : ∀ i, 0 ≤ i → i ≤ 7 → m8 (root + i) = m (root + i) := fun i h0 h7 => by
    rw [hOff8 _ fun x hx j j0 j7 => rt_ne G g (hNt x hx) ⟨h0, h7⟩ ⟨j0, j7⟩]
    exact hm1 _ (by omega) (by omega) (by omega)
  have hr80 := hrt8 0 (by decide) (by decide)
  rw [Int.add_zero] at hr80
  refine wp_tHang (k := k) (hole := s2.at') G g S8 (fun f hf => (hdir f (by rw [← e12]; exact List.mem_append_left _ hf)).1) HF8 (by rw [hr80, X.rt, ← ht, plug_at]) hN1 hnd.1 (by have := isN_pos g hnN; exact ⟨by omega, by omega⟩) (by omega) fun σ9 m9 S9 HF9 hr9 hfr9 => ?_
  have hr7 := G.R 7 (by decide) (by decide)
  have hrn : ∀ x ∈ n :: t.ns, ∀ i, 0 ≤ i → i ≤ 7 → root + 7 ≠ x + i := fun x hx i h0 h7 => rt_ne G g (hNt x hx) ⟨by decide, by decide⟩ ⟨h0, h7⟩
  have h97 : m9 (root + 7) = t.sz := by
    rw [hfr9 _ (by omega) fun x hx i h2 h3 => hrn x (List.mem_cons_of_mem _ (by rw [← ht]; exact FN_ns hx)) i (by omega) (by omega), hrt8 7 (by decide) (by decide)]
    exact X.n7
  refine wp_get S9 hr7 fun σ10 S10 => ?_
  rw [h97, w64_R (z := (t.sz : Int) + 1) ⟨by omega, by omega⟩]
  refine wp_put S10 hr7 ⟨by omega, by omega⟩ (by omega) fun σ11 S11 => ?_
  show wp (if (Wk.ok n7).lost = true then _ else _) σ11 _
  rw [if_neg (by simp [Wk.lost])]
  refine wp_un0 ?_
  -- the new tree
  have hszN : (Tr.nd n (spl k s2).1 k v (spl k s2).2).sz = s2.sz + 1 := by show (spl k s2).1.sz + (spl k s2).2.sz + 1 = _; omega
  have hsmN : (Tr.nd n (spl k s2).1 k v (spl k s2).2).sm = s2.sm + v := by show (spl k s2).1.sm + v + (spl k s2).2.sm = _; omega
  have hnsN : (Tr.nd n (spl k s2).1 k v (spl k s2).2).ns.Perm (n :: s2.ns) := by
    show ((spl k s2).1.ns ++ n :: (spl k s2).2.ns).Perm _
    have := List.perm_middle (l₁ := (spl k s2).1.ns) (l₂ := (spl k s2).2.ns) (a := n)
    rwa [spl_ns] at this
  have hsubN : ∀ x ∈ (Tr.nd n (spl k s2).1 k v (spl k s2).2).ns, x = n ∨ x ∈ s2.ns := fun x hx => by
    have := hnsN.mem_iff.1 hx
    rwa [List.mem_cons] at this
  have hNN : ∀ x ∈ (Tr.nd n (spl k s2).1 k v (spl k s2).2).ns, isN p x ∧ x ∉ FN fs1 := fun x hx => by
    rcases hsubN x hx with rfl | h
    · exact ⟨hnN, hn1t⟩
    · exact ⟨hN2 x h, fun h2 => hnd.2.2 x h2 h⟩
  have hperm : (plug fs1 (.nd n (spl k s2).1 k v (spl k s2).2)).ns.Perm (n :: t.ns) := by
    refine plug_ns.trans ((List.Perm.append_left _ hnsN).trans ?_)
    refine List.perm_middle.trans (.cons _ ?_)
    rw [← ht]
    exact plug_ns.symm
  have T9 : ∀ {u : Tr}, (∀ x ∈ u.ns, isN p x ∧ x ∉ FN fs1) → TR m7 u → TR (upd m9 (root + 7) ((t.sz : Int) + 1)) u := fun {u} hu Hu => Hu.ext fun x hx i h0 h5 => by
    have h1 := hu x hx
    have hrx : root + 7 ≠ x + i := rt_ne G g h1.1 ⟨by decide, by decide⟩ ⟨h0, by omega⟩
    have hr0 : root + 0 ≠ x + i := rt_ne G g h1.1 ⟨by decide, by decide⟩ ⟨h0, by omega⟩
    rw [upd_ne _ _ (fun e => hrx e.symm), hfr9 _ (by omega) fun y hy j j2 j3 => isN_ne h1.1 (hN1 y hy) (fun e => h1.2 (e ▸ hy)) ⟨h0, by omega⟩ ⟨by omega, by omega⟩]
    exact hoff8 x i h1.1 h1.2 h0 (by omega)
  have HF11 : FR (upd m9 (root + 7) ((t.sz : Int) + 1)) n (s2.sz + 1) (s2.sm + v) fs1 := HF9.ext fun x hx i h0 h5 => upd_ne _ _ fun e => rt_ne G g (hN1 x hx) (i := 7) (j := i) ⟨by decide, by decide⟩ ⟨h0, by omega⟩ e.symm
  have hkl := spl_lr (k := k) (t := s2) (by
    have := X.srt
    rw [← ht, plug_ks] at this
    exact this.sublist ((List.sublist_append_right _ _).trans (List.sublist_append_left _ _)))
  have hks2 : s2.ks = lks fs2 ++ rks fs2 := by show (plug fs2 .nil).ks = _; rw [plug_ks]; simp [Tr.ks]
  have hlk2 : ∀ y ∈ lks fs2, y.1 < k := fun y hy => hlr.1 y (by rw [← e12, lks_app]; exact List.mem_append_right _ hy)
  have hrk2 : ∀ y ∈ rks fs2, k < y.1 := fun y hy => hlr.2 y (by rw [← e12, rks_app]; exact List.mem_append_left _ hy)
  obtain ⟨eA, eB⟩ := cut_eq (k := k) (by rw [spl_ks, hks2] : (spl k s2).1.ks ++ (spl k s2).2.ks = lks fs2 ++ rks fs2) hkl.1 hkl.2 hlk2 fun y hy => by have := hrk2 y hy; omega
  have hksN : (plug fs1 (.nd n (spl k s2).1 k v (spl k s2).2)).ks = lks fs ++ (k, v) :: rks fs := by
    rw [plug_ks]
    show lks fs1 ++ ((spl k s2).1.ks ++ (k, v) :: (spl k s2).2.ks) ++ rks fs1 = _
    rw [eA, eB, ← e12, lks_app, rks_app]
    simp
  have hkst : t.ks = lks fs ++ [] ++ rks fs := by rw [← ht0, plug_ks]; rfl
  have hsrt := X.srt
  rw [hkst, List.append_nil] at hsrt
  have hrp : (plug fs1 (.nd n (spl k s2).1 k v (spl k s2).2)).ks = rPut t.ks k v := by
    have := flt_lr (l1 := lks fs) (l2 := []) (l3 := rks fs) hlr.1 (fun y hy => by cases hy) hlr.2
    unfold rPut
    rw [hksN, hkst, this.1, this.2.1]
  have hOff9 : Off (n :: t.ns) m1 m9 → True := fun _ => trivial
  have hPool : PoolR (upd m9 (root + 7) ((t.sz : Int) + 1)) p fr' out' := by
    refine P1.ext fun b hb => ?_
    have hbb : (∀ x ∈ n :: t.ns, ∀ i, 0 ≤ i → i ≤ 7 → b ≠ x + i) ∧ b ≠ root ∧ b ≠ root + 7 := by
      refine ⟨fun x hx i h0 h7 => ?_, ?_, ?_⟩
      · have hxN := hNt x hx
        have r0 := root_ne g hxN (i := 0) (j := i) (by omega) ⟨h0, h7⟩
        have r1 := root_ne g hxN (i := 1) (j := i) (by omega) ⟨h0, h7⟩
        have r2 := root_ne g hxN (i := 2) (j := i) (by omega) ⟨h0, h7⟩
        rcases hb with rfl | rfl | rfl | hb
        · omega
        · exact r1
        · exact r2
        · have hne : b ≠ x := fun e => by
            subst e
            rcases List.mem_cons.1 hx with e | hx
            · exact hnf (e ▸ hb)
            · exact (hheld b hx).2 hb
          have := isN_ne (P1.isN hb) hxN hne (o := 0) (o' := i) ⟨by omega, by omega⟩ ⟨h0, h7⟩
          rwa [Int.add_zero] at this
      · rcases hb with rfl | rfl | rfl | hb
        · omega
        · omega
        · omega
        · have := isN_pos g (P1.isN hb); omega
      · rcases hb with rfl | rfl | rfl | hb
        · omega
        · omega
        · omega
        · have := isN_pos g (P1.isN hb); omega
    rw [upd_ne _ _ hbb.2.2, hfr9 b hbb.2.1 fun x hx i h2 h3 => hbb.1 x (List.mem_cons_of_mem _ (by rw [← ht]; exact FN_ns hx)) i (by omega) (by omega)]
    exact hOff8 b hbb.1
  refine ⟨rfl, plug fs1 (.nd n (spl k s2).1 k v (spl k s2).2), _, S11.mono (by omega), ⟨hPool, ?_, plug_TR.2 ⟨?_, T9 hNN T7⟩, ?_, ?_, ?_, ?_, ?_, ?_, ?_⟩, hrp⟩
  · rw [upd_ne _ _ (by omega), hr9, plug_at]; rfl
  · rw [hszN, hsmN]; exact HF11
  · exact hperm.nodup_iff.2 (List.nodup_cons.2 ⟨hnt, X.nd⟩)
  · intro x hx
    rcases List.mem_cons.1 (hperm.mem_iff.1 hx) with rfl | h
    · exact ⟨hn, hnf⟩
    · exact hheld x h
  · have e : (plug fs1 (.nd n (spl k s2).1 k v (spl k s2).2)).sz = t.sz + 1 := by rw [← Tr.sz_ns, hperm.length_eq, List.length_cons, Tr.sz_ns]
    rw [e]
    have := X.cnt
    omega
  · have e : (plug fs1 (.nd n (spl k s2).1 k v (spl k s2).2)).sz = t.sz + 1 := by rw [← Tr.sz_ns, hperm.length_eq, List.length_cons, Tr.sz_ns]
    rw [upd_eq, e]; omega
  · rw [hksN]; exact srt_mid hsrt hlr.1 hlr.2
  · intro y hy
    rw [hksN] at hy
    rcases List.mem_append.1 hy with h | h
    · exact X.kr y (by rw [hkst]; simp [h])
    · rcases List.mem_cons.1 h with rfl | h
      · exact hk
      · exact X.kr y (by rw [hkst]; simp [h])
  · have h0 := X.ho
    rw [← ht] at h0
    have hp := HO.plug (s' := .nd n (spl k s2).1 k v (spl k s2).2) h0
    have hne : ∀ y ∈ t.ks, y.1 ≠ k := fun y hy => by
      rw [hkst, List.append_nil] at hy
      rcases List.mem_append.1 hy with h | h
      · have := hlr.1 y h; omega
      · have := hlr.2 y h; omega
    have hs2k : ∀ y ∈ s2.ks, rk y.1 < rk k := fun y hy => by
      have hyt : y ∈ t.ks := by rw [← ht, plug_ks]; exact List.mem_append_left _ (List.mem_append_right _ hy)
      cases h2 : fs2 with
      | nil =>
        have es : s2 = .nil := by show plug fs2 .nil = .nil; rw [h2]; rfl
        rw [es] at hy; cases hy
      | cons f gs =>
        have es : s2 = plug (f :: gs) .nil := by show plug fs2 .nil = _; rw [h2]
        have h1 := HO.top (by rw [← es]; exact hp.1) y (by rw [← es]; exact hy)
        have h3 := head_drop (k := k) h2
        have h4 : rk y.1 ≠ rk k := fun e => hne y hyt (rk_inj (X.kr y hyt) hk e)
        omega
    have hsubk : ∀ y ∈ (spl k s2).1.ks ++ (spl k s2).2.ks, y ∈ s2.ks := fun y hy => by rwa [spl_ks] at hy
    refine hp.2.2 (fun y hy f hf => ?_) ⟨fun y hy => hs2k y (hsubk y hy), (HO.spl hp.1).1, (HO.spl hp.1).2⟩
    have hy : y ∈ (spl k s2).1.ks ++ (k, v) :: (spl k s2).2.ks := hy
    have hkf : rk k < rk f.x := by
      have := tw_mem hf
      simpa using this
    rcases List.mem_append.1 hy with h | h
    · exact hp.2.1 y (hsubk y (List.mem_append_left _ h)) f hf
    · rcases List.mem_cons.1 h with rfl | h
      · exact hkf
      · exact hp.2.1 y (hsubk y (List.mem_append_right _ h)) f hf
end
end Go.En
