/-
  The engine, part O: the user's rules: accumulators, local variables, map entries.
-/
import Derived.Test.YtggieecoagcmbaaEngN
namespace Go.En

/-- a slice's block is no older than the heap h -/
def Fs (h : Hp) (v : Value) : Prop := ∀ r, blk v = some r → h.size ≤ r
/-- two slices in different blocks -/
def Dj (a b : Value) : Prop := ∀ r, blk a = some r → blk b ≠ some r
/-- the block of v is that of s, or new since h -/
def Nw (h : Hp) (s v : Value) : Prop := ∀ r, blk v = some r → blk s = some r ∨ h.size ≤ r
theorem Dj.symm {a b : Value} (h : Dj a b) : Dj b a := fun r h1 h2 => h r h2 h1
theorem Fs.nil (h : Hp) : Fs h (.slice none 0 0) := fun r e => by simp [blk] at e
theorem Dj.nil (v : Value) : Dj (.slice none 0 0) v := fun r e => by simp [blk] at e
theorem Dj.nil' (v : Value) : Dj v (.slice none 0 0) := (Dj.nil v).symm
theorem Fs.old {h h' : Hp} {D : Nat → Prop} {v : Value} (f : Fs h' v) (c : Ch D h h') : Fs h v := fun r e => Nat.le_trans c.size (f r e)
theorem Fs.next {h0 h : Hp} {D : Nat → Prop} {s v : Value} (f : Fs h0 s) (g : Ch D h0 h) (n : Nw h s v) : Fs h0 v := fun r e => (n r e).elim (f r) (fun l => Nat.le_trans g.size l)
theorem Dj.next {h : Hp} {s v b : Value} (d : Dj s b) (hb : ∀ r, blk b = some r → r < h.size) (n : Nw h s v) : Dj v b := fun r e e2 => (n r e).elim (fun l => d r l e2) (fun l => by have := hb r e2; omega)
theorem Dj.fresh {h : Hp} {v b : Value} (f : Fs h v) (hb : ∀ r, blk b = some r → r < h.size) : Dj v b := fun r e e2 => by have := f r e; have := hb r e2; omega
theorem Fs.not {h : Hp} {v : Value} (f : Fs h v) {r : Nat} (hr : r < h.size) : ¬ blk v = some r := fun e => by have := f r e; omega

section
variable {α : Type} {E : Enc α} {h h0 h' : Hp} {v s : Value} {xs ys : List α}
/-- old blocks are read as before when a young slice is written -/
theorem Sl.old (H : Sl E h0 v xs) (g : Gr h0 h) : Sl E h v xs := H.gr g
theorem Ow.other (H : Ow E h v xs) (c : Ch (fun r => blk s = some r) h h') (d : Dj v s) : Ow E h' v xs := H.ch c fun r e e2 => d r e e2
theorem Sl.other (H : Sl E h v xs) (c : Ch (fun r => blk s = some r) h h') (d : Dj v s) : Sl E h' v xs := H.ch c fun r e e2 => d r e e2
theorem Gr.write (g : Gr h0 h) (c : Ch (fun r => blk s = some r) h h') (f : Fs h0 s) : Gr h0 h' := g.young c fun r e => f r e

theorem apw {e : TypeId} {zero : Array Value} {n bytes : Nat} {x : Value} {k : Value → Hp → Prop}
    (hs : Ow E h s xs) (hx : Sl E h x ys) (hn : n = E.n) (hz : zero.size = E.n) (hb : (xs.length + ys.length) * bytes ≤ 140737488355328) (hl : xs.length + ys.length ≤ 9223372036854775807)
    (hk : ∀ v h', Ow E h' v (xs ++ ys) → Ch (fun r => blk s = some r) h h' → Nw h s v → k v h') : Ap e zero n bytes s x h k :=
  ap hs hx hn hz hb hl fun v h' a b c => hk v h' a b fun r e => by
    rcases c with c | c
    · exact .inl (c ▸ e)
    · rw [c] at e; simp only [Option.some.injEq] at e; exact .inr (by omega)

theorem app1 {e e' : TypeId} {zero : Array Value} {n bytes : Nat} {x : α} {w : Value} {k : Value → Hp → Prop}
    (hs : Ow E h s xs) (hn : n = E.n) (hz : zero.size = E.n) (hw : w.cells.toList = E.c x) (hb : (xs.length + 1) * bytes ≤ 140737488355328) (hl : xs.length + 1 ≤ 9223372036854775807)
    (hk : ∀ v h', Ow E h' v (xs ++ [x]) → Ch (fun r => blk s = some r) h h' → Nw h s v → k v h') : Eb (bsl zero n 1 e [(0, w)] h) fun u h1 => Ap e' zero n bytes s u h1 k := by
  refine eb (bsl_ok (us := [w]) rfl rfl (fun u hu => by
    simp only [List.mem_singleton] at hu; subst hu; rw [← Array.length_toList, hw, E.len, hn])) ?_
  refine apw (hs.gr (Ch.push _ _)) (Ow.lit (xs := [x]) (by simp [hw]) rfl).sl hn hz (by simpa using hb) (by simpa using hl) fun v h' a b c => hk v h' a (Ch.trans (Ch.push h _) b (fun _ _ e => e.elim) fun _ _ e => e) fun r e => (c r e).imp id fun l => by simp at l; omega
end

/-! ### Local variables -/
/-- a variable of one's own at the block r -/
structure Va {α : Type} (E : Enc α) (h : Hp) (r : Nat) (x : α) : Prop where
  lt : r < h.size
  row : Row E h r 0 x
  wr : ∀ j, j < E.n → (cl h r j).isSome = true ∧ fz h r j = false
abbrev at0 (r : Nat) : Value := .pointer (some ⟨r, 0, none⟩)
section
variable {α : Type} {E : Enc α} {h h' : Hp} {x y : α} {r : Nat} {D : Nat → Prop}
theorem Va.ch (H : Va E h r x) (c : Ch D h h') (hd : ¬ D r) : Va E h' r x :=
  ⟨Nat.lt_of_lt_of_le H.lt c.size, H.row.ch c hd, fun j hj => by
    obtain ⟨a, b⟩ := H.wr j hj
    obtain ⟨u, hu⟩ := Option.isSome_iff_exists.mp a
    exact ⟨by rw [c.cl hd hu]; rfl, by rw [c.fz H.lt hd]; exact b⟩⟩
theorem Va.gr (H : Va E h r x) (c : Gr h h') : Va E h' r x := H.ch c fun e => e
theorem Va.whole (H : Va E h r x) {n : Nat} (hn : n = E.n) : lda n (at0 r) h = some (.agg ⟨E.c x⟩) := H.row.lda hn
theorem Va.one (H : Va E h r x) {u : Value} (hu : (E.c x)[0]? = some u) : ldc (at0 r) h = some u := H.row.ldc0 hu
theorem Va.fld (H : Va E h r x) {j : Nat} {u : Value} (hu : (E.c x)[j]? = some u) {k : Value → Prop} (hk : k u) : Vb (fa j (at0 r)) fun p => Vb (ldc p h) k :=
  vb (fa_add _ _ _) (vb (H.row.ldc hu) hk)
theorem Va.new {cs : Array Value} {e : TypeId} (hc : cs.toList = E.c x) : Va E (h.push (.cells cs e)) h.size x := by
  have hs : cs.size = E.n := by rw [← Array.length_toList, hc, E.len]
  refine ⟨by simp, fun j u hu => ?_, fun j hj => ?_⟩
  · unfold cl
    simp only [Array.getElem?_push_size, Nat.zero_add]
    rw [← hc] at hu
    simpa using hu
  · unfold cl fz
    simp only [Array.getElem?_push_size]
    exact ⟨by rw [Array.getElem?_eq_getElem (by omega)]; rfl, by simp⟩
/-- stores into a variable -/
theorem Va.put (H : Va E h r x) {j : Nat} {vs : List Value} (hy : ∀ j' u, (E.c y)[j']? = some u → if j ≤ j' ∧ j' < j + vs.length then vs[j' - j]? = some u else (E.c x)[j']? = some u)
    (hj : j + vs.length ≤ E.n) (hone : ∀ u, u ∈ vs → u.oneCell' = true) : ∃ h', stores h ⟨r, j, none⟩ 0 vs = some h' ∧ Va E h' r y ∧ Ch (fun q => q = r) h h' ∧ h'.size = h.size := by
  obtain ⟨h', e2, up⟩ := stores_ok (r := r) (o := j) vs 0 h hone (fun j' hj' => by rw [Nat.add_zero]; exact H.wr _ (by omega))
  rw [Nat.add_zero] at up
  refine ⟨h', e2, ⟨by rw [up.size]; exact H.lt, fun j' u hu => ?_, fun j' hj' => ⟨up.some (H.wr j' hj').1, by rw [up.fz]; exact (H.wr j' hj').2⟩⟩, up.ch, up.size⟩
  rw [Nat.zero_add]
  have := hy j' u hu
  split at this
  · have h3 := up.put (j' - j) u this
    rw [show j + (j' - j) = j' by omega] at h3
    exact h3
  · rw [up.keep _ (fun q hq => by omega)]
    have := H.row j' u this
    rw [Nat.zero_add] at this; exact this
theorem Va.sto (H : Va E h r x) (y : α) {n : Nat} (hn : n = E.n) {w : Value} (hw : w = .agg ⟨E.c y⟩) {k : Hp → Prop} (hk : ∀ h', Va E h' r y → Ch (fun q => q = r) h h' → k h') : Sb (sto n (at0 r) w h) k := by
  obtain ⟨h', e1, e2, e3, _⟩ := H.put (y := y) (j := 0) (vs := E.c y) (fun j' u hu => by
    rw [if_pos ⟨Nat.zero_le _, by have := (List.getElem?_eq_some_iff.mp hu).1; omega⟩]; exact hu) (by rw [E.len]; omega) (E.one y)
  subst hw
  exact sb ((sto_agg (by rw [E.len, hn])).trans e1) (hk h' e2 e3)
theorem Va.sto1 (H : Va E h r x) (y : α) (hn : E.n = 1) {w : Value} (hw : E.c y = [w]) {k : Hp → Prop} (hk : ∀ h', Va E h' r y → Ch (fun q => q = r) h h' → k h') : Sb (En.sto 1 (at0 r) w h) k := by
  obtain ⟨h', e1, e2, e3, _⟩ := H.put (y := y) (j := 0) (vs := E.c y) (fun j' u hu => by
    rw [if_pos ⟨Nat.zero_le _, by have := (List.getElem?_eq_some_iff.mp hu).1; omega⟩]; exact hu) (by rw [E.len]; omega) (E.one y)
  rw [hw] at e1
  exact sb ((sto_one (E.one y w (by rw [hw]; simp))).trans e1) (hk h' e2 e3)
/-- a variable that is made and set -/
theorem nwset (x y : α) {cs : Array Value} {e : TypeId} {n : Nat} (hn : n = E.n) (hc : cs.toList = E.c x) {w : Value} (hw : w = .agg ⟨E.c y⟩) {k : Value → Hp → Prop}
    (hk : ∀ h', Va E h' h.size y → Gr h h' → k (at0 h.size) h') : Eb (nw cs e h) fun p h1 => Sb (En.sto n p w h1) (k p) := by
  refine eb rfl ?_
  refine (Va.new (e := e) hc).sto y hn hw fun h' a b => hk h' a ?_
  exact Gr.young (Ch.push h _) b fun q e => by omega
end

/-! ### Entries of maps -/
section
variable {α : Type} {ik : IntKind} {E : α → Value} {h h' : Hp} {v : Value} {ps : List (Int × α)}
theorem findIdx_mid {es1 es2 : List MapEntry} {e : MapEntry} (hn : ((es1 ++ e :: es2).map (·.born)).Nodup) : (es1 ++ e :: es2).findIdx? (fun x => (x.born : Int) == (e.born : Int)) = some es1.length := by
  rw [List.findIdx?_append, List.findIdx?_eq_none_iff.mpr, List.findIdx?_cons]
  · simp
  · intro x hx
    rw [List.map_append, List.nodup_append] at hn
    have := hn.2.2 x.born (List.mem_map.mpr ⟨x, hx, rfl⟩) e.born (by simp)
    simp only [beq_eq_false_iff_ne, ne_eq]
    omega
theorem mst_eq {r : Nat} {es : Array MapEntry} {clock i : Nat} {b : Nat} {w : Value} (hh : h[r]? = some (.map es clock)) (hi : es.findIdx? (fun x => (x.born : Int) == (b : Int)) = some i) :
    mst (.map (some r)) (goInt b) w h = some (h.setIfInBounds r (.map (es.modify i fun e => { e with val := w }) clock)) := by
  simp only [mst, mkey, hh, goInt, hi]
theorem arr_find {es : Array MapEntry} {l : List MapEntry} {f : MapEntry → Bool} {i : Nat} (h : es.toList = l) (hi : l.findIdx? f = some i) : es.findIdx? f = some i := by
  have : es = l.toArray := Array.ext' h
  rw [this, List.findIdx?_toArray]; exact hi
theorem Mp.entry (H : Mp ik E h v ps) (k : Int) (x z : α) {K : Hp → Prop} (hK : ∀ h', Mp ik E h' v (updA ps k x) → Ch (fun r => mblk v = some r) h h' → K h') :
    Eb (men (.int ik) (E z) v (.int ik k) h) fun t h1 => Vb (ext 1 t) fun s => Sb (mst v s (E x) h1) K := by
  obtain ⟨r, es, clock, rfl, hh, he⟩ := H
  obtain ⟨f, h1, h2, h3⟩ := find_ok (k := k) 0 he.dat
  have hlt := (Array.getElem?_eq_some_iff.mp hh).1
  have hch : ∀ o o', Ch (fun r' => mblk (.map (some r)) = some r') h ((h.setIfInBounds r o).setIfInBounds r o') := fun o o' => ⟨by simp, fun r' _ hn => by rw [Array.getElem?_setIfInBounds, if_neg (fun e => hn (by rw [← e]; rfl)), Array.getElem?_setIfInBounds, if_neg (fun e => hn (by rw [← e]; rfl))]⟩
  cases f with
  | some y =>
    obtain ⟨j, u⟩ := y
    obtain ⟨es1, e, es2, ps1, p, ps2, a1, rfl, a3, a4, a5, a6, a7, a8⟩ := h3 j u rfl
    have hj : j = es1.length := by omega
    subst hj
    have hget : es[es1.length]? = some e := by rw [← Array.getElem?_toList, a1]; simp
    refine eb (by simp only [men, mkey, hh, h1, hget, Option.map_some, Option.getD_some]; rfl) (vb (ext1 _ _ _) ?_)
    have hm1 : (es.modify es1.length fun e => { e with key := .int ik k }).toList = es1 ++ { e with key := .int ik k } :: es2 := by
      rw [Array.toList_modify, a1, List.modify_eq_take_cons_drop (by simp)]; simp
    have hb : ((es1 ++ { e with key := .int ik k } :: es2).map (·.born)).Nodup := by have := he.nodup; rw [a1] at this; simpa using this
    have hi : (es.modify es1.length fun e => { e with key := .int ik k }).findIdx? (fun x => (x.born : Int) == (e.born : Int)) = some es1.length := by
      exact arr_find hm1 (findIdx_mid (e := { e with key := .int ik k }) hb)
    refine sb (mst_eq (by rw [Array.getElem?_setIfInBounds, if_pos rfl, if_pos hlt]) hi) (hK _ ⟨r, _, clock, rfl, by rw [Array.getElem?_setIfInBounds, if_pos rfl, if_pos (by simpa using hlt)], ?_⟩ (hch _ _))
    have hm2 : ((es.modify es1.length fun e => { e with key := .int ik k }).modify es1.length fun e => { e with val := E x }).toList = es1 ++ { e with key := .int ik k, val := E x } :: es2 := by
      rw [Array.toList_modify, hm1, List.modify_eq_take_cons_drop (by simp)]; simp
    rw [hm2]
    have hd := he.dat
    rw [a1, List.map_append, List.map_append, List.map_cons, List.map_cons] at hd
    obtain ⟨d1, d2⟩ := List.append_inj hd (by simp [a5])
    simp only [List.cons.injEq] at d2
    refine ⟨?_, ?_, ?_⟩
    · rw [updA_mid a7 a6, List.map_append, List.map_append, List.map_cons, List.map_cons, d1, d2.2]
    · intro e' he'
      rcases List.mem_append.mp he' with m | m
      · exact he.born e' (by rw [a1]; simp [m])
      · rcases List.mem_cons.mp m with rfl | m
        · exact he.born e (by rw [a1]; simp)
        · exact he.born e' (by rw [a1]; simp [m])
    · simpa using hb
  | none =>
    have hnone : lookA ps k = none := by simpa using h2.symm
    refine eb (by simp only [men, mkey, hh, h1]; rfl) (vb (ext1 _ _ _) ?_)
    have hb : ((es.toList ++ [({ key := .int ik k, val := E z, born := clock } : MapEntry)]).map (·.born)).Nodup := by
      rw [List.map_append, List.nodup_append]
      refine ⟨he.nodup, by simp, fun a ha b hb => ?_⟩
      obtain ⟨e', hm, rfl⟩ := List.mem_map.mp ha
      simp only [List.map_cons, List.map_nil, List.mem_singleton] at hb
      have := he.born e' hm
      omega
    have hi : (es.push { key := .int ik k, val := E z, born := clock }).findIdx? (fun x => (x.born : Int) == (clock : Int)) = some es.size := by
      have := findIdx_mid (es1 := es.toList) (es2 := []) (e := { key := .int ik k, val := E z, born := clock }) hb
      exact arr_find (Array.toList_push ..) (by simpa using this)
    refine sb (mst_eq (by rw [Array.getElem?_setIfInBounds, if_pos rfl, if_pos hlt]) hi) (hK _ ⟨r, _, clock + 1, rfl, by rw [Array.getElem?_setIfInBounds, if_pos rfl, if_pos (by simpa using hlt)], ?_⟩ (hch _ _))
    have hm2 : ((es.push { key := .int ik k, val := E z, born := clock }).modify es.size fun e => { e with val := E x }).toList = es.toList ++ [{ key := .int ik k, val := E x, born := clock }] := by
      rw [Array.toList_modify, Array.toList_push, List.modify_eq_take_cons_drop (by simp)]; simp
    rw [hm2]
    refine ⟨?_, ?_, ?_⟩
    · rw [updA_end hnone, List.map_append, List.map_append, he.dat]; rfl
    · intro e' he'
      rcases List.mem_append.mp he' with m | m
      · exact Nat.lt_succ_of_lt (he.born e' m)
      · simp only [List.mem_singleton] at m; subst m; exact Nat.lt_succ_self _
    · simpa using hb
theorem Mp.mup (H : Mp ik E h v ps) (k : Int) (x : α) {w : Value} (hw : w = E x) {K : Hp → Prop} (hK : ∀ h', Mp ik E h' v (updA ps k x) → Ch (fun r => mblk v = some r) h h' → K h') :
    Sb (En.mup (.int ik) v (.int ik k) w h) K := by
  subst hw
  obtain ⟨h', a, b, c, _⟩ := H.put k x
  exact sb a (hK h' b c)
end
/-! ### make -/
theorem make_ok {α : Type} {E : Enc α} {h : Hp} {x0 : α} {zero : Array Value} {n size bytes : Nat} {e : TypeId} (hz : zero.toList = E.c x0) (hs : size = E.n) (hb : n ≤ 1000000000) (hb2 : bytes ≤ 10000) {k : Value → Hp → Prop}
    (hk : ∀ h', Ow E h' (.slice (some ⟨h.size, 0, none⟩) n n) (List.replicate n x0) → Gr h h' → h'.size = h.size + 1 → k (.slice (some ⟨h.size, 0, none⟩) n n) h') : Eb (msl zero size bytes e (.int .i64 n) (.int .i64 n) h) k := by
  have hm : n * bytes ≤ 1000000000 * 10000 := Nat.mul_le_mul hb hb2
  refine eb (h' := h.push (.cells ((Array.range (n * size)).map (zero[· % zero.size]!)) e)) (v := .slice (some ⟨h.size, 0, none⟩) n n) ?_ (hk _ ?_ (Ch.push _ _) (by simp))
  · simp only [msl]
    rw [if_pos ⟨by omega, by omega, by omega, by have : ((n * bytes : Nat) : Int) = (n : Int) * (bytes : Int) := by simp
                                                 omega⟩]
    simp
  · have hzs : zero.size = E.n := by rw [← Array.length_toList, hz, E.len]
    have := Ow.new (E := E) (h := h) (xs := List.replicate n x0) (cs := (Array.range (n * size)).map (zero[· % zero.size]!)) (e := e) (cap := n) (fun j u hj => ?_) (by simp) (by simp [hs])
    · simpa using this
    · obtain ⟨i, x, j', e1, e2, rfl⟩ := flat_at E _ j u hj
      have hx : x = x0 := by rw [List.getElem?_replicate] at e1; split at e1 <;> simp_all
      subst hx
      have hi : i < n := by have := (List.getElem?_eq_some_iff.mp e1).1; simpa using this
      have hj' : j' < E.n := by have := (List.getElem?_eq_some_iff.mp e2).1; rwa [E.len] at this
      have hlt : i * E.n + j' < n * size := by
        have : (i + 1) * E.n ≤ n * E.n := Nat.mul_le_mul_right _ hi
        rw [Nat.succ_mul] at this; rw [hs]; omega
      have hmod : (i * E.n + j') % zero.size = j' := by rw [hzs, Nat.mul_comm, Nat.mul_add_mod, Nat.mod_eq_of_lt hj']
      have hz' : zero[j']? = some u := by rw [← Array.getElem?_toList, hz]; exact e2
      simp only [Array.getElem?_map, Array.getElem?_range, hlt, if_true, Option.map_some, hmod]
      have hlz : j' < zero.size := by omega
      rw [getElem!_pos zero j' hlz]
      rw [Array.getElem?_eq_getElem hlz] at hz'
      exact hz'
end Go.En
