/-
  Programs over a space that knows its words: memory. No program text in sight.
-/
import Derived.Test.YtggieecoagcmbaaSpG
namespace Go.En
open Prog Spc

/-! ### Evaluation -/
namespace Prog
def runB {α : Type} : Prog α → Spc → Option (α × Spc)
  | .ret a, σ => some (a, σ)
  | .get a k, σ => runB (k (σ.get a).1) (σ.get a).2
  | .put a v k, σ => if R64 v ∧ σ.pu.length ≤ Spc.big then runB k (σ.put a v) else none
  | .mark k, σ => runB (k σ.pu.length) σ
  | .back m k, σ => runB k (σ.back m)
theorem wp_runB {α : Type} : ∀ {p : Prog α} {σ : Spc} {x : α × Spc} {Q : α → Spc → Prop}, runB p σ = some x → Q x.1 x.2 → wp p σ Q
  | .ret a, σ, x, Q, h, hq => by simp only [runB, Option.some.injEq] at h; subst h; exact hq
  | .get a k, σ, x, Q, h, hq => wp_runB (p := k _) h hq
  | .put a v k, σ, x, Q, h, hq => by
    simp only [runB] at h
    split at h
    · rename_i hh; exact ⟨hh.1, hh.2, wp_runB h hq⟩
    · cases h
  | .mark k, σ, x, Q, h, hq => wp_runB (p := k _) h hq
  | .back m k, σ, x, Q, h, hq => wp_runB (p := k) h hq
end Prog

/-! ### Memory -/
def upd (m : Int → Int) (a v : Int) : Int → Int := fun b => if b = a then v else m b
theorem upd_eq (m : Int → Int) (a v : Int) : upd m a v a = v := by simp [upd]
theorem upd_ne (m : Int → Int) {a b : Int} (v : Int) (h : b ≠ a) : upd m a v b = m b := by simp [upd, h]
/-- the space σ, since σ0: not ended, its words known at D, its values m, at most c writes more -/
structure Sm (D : Int → Prop) (σ0 σ : Spc) (m : Int → Int) (c : Nat) : Prop where
  kn : σ.kn = σ0.kn
  en : σ.en = false
  dom : ∀ a, D a → (σ.kn a).isSome = true
  pu : ∃ ex, σ.pu = σ0.pu ++ ex ∧ ex.length ≤ c
  vw : ∀ a, σ.vw a = m a
  rg : ∀ a, R64 (m a)
section
variable {D : Int → Prop} {σ0 σ σ' : Spc} {m : Int → Int} {c c' : Nat} {α β : Type} {Q : α → Spc → Prop}
theorem Sm.start (hd : ∀ a, D a → (σ.kn a).isSome = true) (he : σ.en = false) (hw : σ.wf) : Sm D σ σ σ.vw 0 := ⟨rfl, he, hd, ⟨[], by simp, by simp⟩, fun _ => rfl, hw.vw⟩
theorem Sm.rds (S : Sm D σ0 σ m c) (a : Int) : Sm D σ0 (σ.rds a) m c := ⟨S.kn, S.en, S.dom, S.pu, S.vw, S.rg⟩
theorem Sm.mono (S : Sm D σ0 σ m c) (h : c ≤ c') : Sm D σ0 σ m c' := let ⟨ex, h1, h2⟩ := S.pu; ⟨S.kn, S.en, S.dom, ⟨ex, h1, by omega⟩, S.vw, S.rg⟩
theorem Sm.trans {σ1 : Spc} {m1 : Int → Int} (S : Sm D σ0 σ1 m1 c) (S' : Sm D σ1 σ m c') : Sm D σ0 σ m (c + c') := by
  obtain ⟨e1, h1, h2⟩ := S.pu
  obtain ⟨e2, h3, h4⟩ := S'.pu
  exact ⟨S'.kn.trans S.kn, S'.en, S'.dom, ⟨e1 ++ e2, by rw [h3, h1, List.append_assoc], by rw [List.length_append]; omega⟩, S'.vw, S'.rg⟩
theorem Sm.fresh (S : Sm D σ0 σ m c) : Sm D σ σ m 0 := ⟨rfl, S.en, S.dom, ⟨[], by simp, by simp⟩, S.vw, S.rg⟩
theorem Sm.len (S : Sm D σ0 σ m c) : σ.pu.length ≤ σ0.pu.length + c := by
  obtain ⟨ex, h1, h2⟩ := S.pu
  rw [h1, List.length_append]; omega
theorem Sm.get (S : Sm D σ0 σ m c) {a : Int} (ha : D a) : σ.get a = (m a, σ.rds a) := by
  unfold Spc.get
  rw [S.en, S.dom a ha, S.vw]; rfl
theorem wp_get {q : Int → Prog α} (S : Sm D σ0 σ m c) {a : Int} (ha : D a) (k : ∀ σ', Sm D σ0 σ' m c → wp (q (m a)) σ' Q) : wp (gt a >>= q) σ Q := by
  rw [wp_bind, wp_gt, S.get ha]
  exact k _ (S.rds a)
theorem Sm.put (S : Sm D σ0 σ m c) {a v : Int} (ha : D a) (hv : R64 v) : Sm D σ0 (σ.put a v) (upd m a v) (c + 1) := by
  unfold Spc.put
  rw [S.en, S.dom a ha]
  obtain ⟨ex, h1, h2⟩ := S.pu
  refine ⟨S.kn, S.en, S.dom, ⟨ex ++ [(a, v)], ?_, ?_⟩, fun b => ?_, fun b => ?_⟩
  · show σ.pu ++ [(a, v)] = _
    rw [h1, List.append_assoc]
  · rw [List.length_append, List.length_singleton]; omega
  · show (lastP (σ.pu ++ [(a, v)]) b).getD _ = _
    rw [lastP_app]
    by_cases e : b = a
    · rw [if_pos e, e, upd_eq]; rfl
    · rw [if_neg e, upd_ne _ _ e, ← S.vw b]; rfl
  · unfold upd
    split
    · exact hv
    · exact S.rg b
theorem wp_put {q : Unit → Prog α} (S : Sm D σ0 σ m c) {a v : Int} (ha : D a) (hv : R64 v) (hl : σ0.pu.length + c ≤ big) (k : ∀ σ', Sm D σ0 σ' (upd m a v) (c + 1) → wp (q ()) σ' Q) : wp (pt a v >>= q) σ Q := by
  rw [wp_bind, wp_pt]
  exact ⟨hv, Nat.le_trans S.len hl, k _ (S.put ha hv)⟩
theorem wp_mark {q : Int → Prog α} (k : wp (q σ.pu.length) σ Q) : wp (mk >>= q) σ Q := by
  rw [wp_bind, wp_mk]
  exact k
theorem Sm.back {m0 : Int → Int} (S : Sm D σ0 σ m c) (h0 : ∀ a, σ0.vw a = m0 a) (hr : ∀ a, R64 (m0 a)) : Sm D σ0 (σ.back σ0.pu.length) m0 0 := by
  unfold Spc.back
  obtain ⟨ex, h1, h2⟩ := S.pu
  rw [S.en, if_neg (by simp), if_pos ⟨by omega, by rw [h1, List.length_append]; omega⟩]
  have e : σ.pu.take (Int.toNat (σ0.pu.length : Int)) = σ0.pu := by rw [h1, Int.toNat_natCast, List.take_left']; rfl
  refine ⟨S.kn, rfl, S.dom, ⟨[], by simpa using e, by simp⟩, fun a => ?_, hr⟩
  rw [← h0 a]
  unfold Spc.vw
  show (lastP (σ.pu.take _) a).getD _ = _
  rw [e]
  show (lastP σ0.pu a).getD (((σ.kn a).map (·.v)).getD 0) = _
  rw [S.kn]
theorem wp_back {m0 : Int → Int} {q : Unit → Prog α} (S : Sm D σ0 σ m c) (h0 : ∀ a, σ0.vw a = m0 a) (hr : ∀ a, R64 (m0 a)) (k : ∀ σ', Sm D σ0 σ' m0 0 → wp (q ()) σ' Q) : wp (bk σ0.pu.length >>= q) σ Q := by
  rw [wp_bind, wp_bk]
  exact k _ (S.back h0 hr)
theorem w64_R {z : Int} (h : R64 z) : w64 z = z := w64_eq h
end

/-! ### Linked nodes -/
/-- from the location a on, by the cell o of each node: the nodes l, and then 0 -/
def Lk (m : Int → Int) (o : Int) : Int → List Int → Prop
  | a, [] => a = 0
  | a, x :: r => a = x ∧ Lk m o (m (x + o)) r
theorem Lk.ext {m m' : Int → Int} {o : Int} : ∀ {l : List Int} {a : Int}, Lk m o a l → (∀ x ∈ l, m' (x + o) = m (x + o)) → Lk m' o a l
  | [], a, h, _ => h
  | x :: r, a, h, e => ⟨h.1, by rw [e x (List.mem_cons_self ..)]; exact h.2.ext fun y hy => e y (List.mem_cons_of_mem _ hy)⟩
theorem Lk.upd {m : Int → Int} {o : Int} {l : List Int} {a b v : Int} (h : Lk m o a l) (hb : ∀ x ∈ l, x + o ≠ b) : Lk (upd m b v) o a l := h.ext fun x hx => upd_ne _ _ (hb x hx)

/-- x is a node's location -/
def isN (p : Pl) (x : Int) : Prop := ∃ i, 0 ≤ i ∧ i < p.nodes ∧ x = p.frm + 8 * i
theorem isN_node {p : Pl} (g : p.good) {x : Int} (h : isN p x) : (p.node x).isSome = true := by
  obtain ⟨i, h0, h1, rfl⟩ := h
  rw [node_at g h0 h1]; rfl
theorem node_isN {p : Pl} {x : Int} (h : (p.node x).isSome = true) : isN p x := by
  obtain ⟨n, hn⟩ := Option.isSome_iff_exists.1 h
  obtain ⟨_, e, h0, h1⟩ := node_some hn
  exact ⟨n, h0, h1, e⟩
theorem isN_pos {p : Pl} (g : p.good) {x : Int} (h : isN p x) : 1 ≤ x ∧ x + 7 ≤ 4095 ∧ p.frm ≤ x ∧ x + 8 ≤ p.frm + 8 * p.nodes := by
  obtain ⟨i, h0, h1, rfl⟩ := h
  have := g.f1; have := g.f2; omega
/-- cells of nodes are apart -/
theorem isN_ne {p : Pl} {x y o o' : Int} (hx : isN p x) (hy : isN p y) (h : x ≠ y) (h0 : 0 ≤ o ∧ o ≤ 7) (h1 : 0 ≤ o' ∧ o' ≤ 7) : x + o ≠ y + o' := by
  obtain ⟨i, _, _, rfl⟩ := hx
  obtain ⟨j, _, _, rfl⟩ := hy
  omega

/-! ### The pool -/
/-- the free nodes, the head of the list first, and how many were ever handed out -/
structure PoolR (m : Int → Int) (p : Pl) (fr : List Int) (out : Int) : Prop where
  good : p.good
  link : Lk m 0 (m p.root) fr
  outE : m (p.root + 1) = out
  frE : m (p.root + 2) = fr.length
  out0 : 0 ≤ out
  out1 : out ≤ p.nodes
  fN : ∀ x ∈ fr, ∃ i, 0 ≤ i ∧ i < out ∧ x = p.frm + 8 * i
  nd : fr.Nodup
theorem PoolR.isN {m : Int → Int} {p : Pl} {fr : List Int} {out : Int} (P : PoolR m p fr out) {x : Int} (h : x ∈ fr) : En.isN p x := by
  obtain ⟨i, h0, h1, e⟩ := P.fN x h
  exact ⟨i, h0, by have := P.out1; omega, e⟩
theorem nodes_len {f out : Int} {l : List Int} (h : ∀ x ∈ l, ∃ i, 0 ≤ i ∧ i < out ∧ x = f + 8 * i) (hn : l.Nodup) (h0 : 0 ≤ out) : (l.length : Int) ≤ out := by
  have h1 : (l.map fun x => ((x - f) / 8).toNat).Nodup := by
    unfold List.Nodup
    rw [List.pairwise_map]
    refine List.Pairwise.imp_of_mem (R := (· ≠ ·)) (fun {a b} ha hb hne e => ?_) hn
    obtain ⟨i, i0, i1, rfl⟩ := h a ha
    obtain ⟨j, j0, j1, rfl⟩ := h b hb
    omega
  have := nodup_len (n := out.toNat) h1 fun k hk => by
    obtain ⟨x, hx, rfl⟩ := List.mem_map.1 hk
    obtain ⟨i, i0, i1, rfl⟩ := h x hx
    omega
  rw [List.length_map] at this
  omega
theorem PoolR.len {m : Int → Int} {p : Pl} {fr : List Int} {out : Int} (P : PoolR m p fr out) : (fr.length : Int) ≤ out := nodes_len P.fN P.nd P.out0
/-- a write elsewhere -/
theorem PoolR.ext {m m' : Int → Int} {p : Pl} {fr : List Int} {out : Int} (P : PoolR m p fr out) (h : ∀ a, (a = p.root ∨ a = p.root + 1 ∨ a = p.root + 2 ∨ a ∈ fr) → m' a = m a) : PoolR m' p fr out :=
  ⟨P.good, by rw [h _ (.inl rfl)]; exact P.link.ext fun x hx => by rw [Int.add_zero]; exact h x (.inr (.inr (.inr hx))), by rw [h _ (.inr (.inl rfl))]; exact P.outE, by rw [h _ (.inr (.inr (.inl rfl)))]; exact P.frE, P.out0, P.out1, P.fN, P.nd⟩
/-- the words of the pool -/
structure PoolD (D : Int → Prop) (p : Pl) : Prop where
  r : ∀ i, 0 ≤ i → i ≤ 2 → D (p.root + i)
  n : ∀ x, isN p x → ∀ i, 0 ≤ i → i ≤ 7 → D (x + i)

section
variable {D : Int → Prop} {σ0 σ σ' : Spc} {m : Int → Int} {c c' : Nat} {α β : Type} {Q : α → Spc → Prop} {p : Pl} {fr : List Int} {out : Int}
theorem root_ne (g : p.good) {x : Int} (h : isN p x) {i j : Int} (hi : 0 ≤ i ∧ i ≤ 2) (hj : 0 ≤ j ∧ j ≤ 7) : p.root + i ≠ x + j := by
  have := isN_pos g h
  obtain ⟨k, h0, h1, rfl⟩ := h
  have := g.ap
  omega
theorem wp_add {q : Unit → Prog α} (S : Sm D σ0 σ m c) (hD : PoolD D p) {k n : Int} (hk : 0 ≤ k ∧ k ≤ 2) (hl : σ0.pu.length + c ≤ big) (h : ∀ σ', Sm D σ0 σ' (upd m (p.root + k) (w64 (m (p.root + k) + n))) (c + 1) → wp (q ()) σ' Q) : wp (pAdd p k n >>= q) σ Q := by
  unfold pAdd
  rw [wp_bind]
  refine wp_get S (hD.r k hk.1 hk.2) fun σ1 S => ?_
  rw [← wp_bind]
  exact wp_put S (hD.r k hk.1 hk.2) (w64_in _) hl h
/-- an allocation -/
theorem wp_take {q : Int × Int → Prog α} (S : Sm D σ0 σ m c) (P : PoolR m p fr out) (hD : PoolD D p) (hl : σ0.pu.length + c + 2 ≤ big)
    (h1 : ∀ x fr' σ' m', fr = x :: fr' → isN p x → Sm D σ0 σ' m' (c + 2) → PoolR m' p fr' out → (∀ a, a ≠ p.root → a ≠ p.root + 2 → m' a = m a) → wp (q (x, 0)) σ' Q)
    (h2 : ∀ σ' m', fr = [] → out < p.nodes → isN p (p.frm + 8 * out) → Sm D σ0 σ' m' (c + 2) → PoolR m' p [] (out + 1) → (∀ a, a ≠ p.root + 1 → m' a = m a) → wp (q (p.frm + 8 * out, 0)) σ' Q)
    (h3 : ∀ σ', fr = [] → out = p.nodes → Sm D σ0 σ' m c → wp (q (0, 9)) σ' Q) : wp (pTake p >>= q) σ Q := by
  have g := P.good
  have g1 := g.f1; have g2 := g.f2; have g3 := g.n1
  unfold pTake
  rw [if_pos g, wp_bind]
  have hD0 := hD.r 0 (by omega) (by omega)
  rw [Int.add_zero] at hD0
  refine wp_get S hD0 fun σ1 S => ?_
  have hlk := P.link
  cases fr with
  | nil =>
    have e : m p.root = 0 := hlk
    rw [e, if_neg (by simp)]
    refine wp_get S (hD.r 1 (by omega) (by omega)) fun σ1 S => ?_
    rw [P.outE]
    have := P.out0; have := P.out1
    by_cases hf : out < p.nodes
    · rw [if_neg (by omega)]
      refine wp_put S (hD.r 1 (by omega) (by omega)) ⟨by omega, by omega⟩ (by omega) fun σ1 S => ?_
      refine h2 σ1 _ rfl hf ⟨out, P.out0, hf, rfl⟩ (S.mono (by omega)) ⟨g, ?_, upd_eq _ _ _, ?_, by omega, by omega, fun x hx => (by cases hx), List.nodup_nil⟩ (fun a ha => upd_ne _ _ ha)
      · rw [upd_ne _ _ (by omega)]; exact e
      · rw [upd_ne _ _ (by omega)]; exact P.frE
    · rw [if_pos (.inr (by omega))]
      exact h3 σ1 rfl (by omega) S
  | cons x fr' =>
    obtain ⟨e, hlk⟩ := hlk
    have hx : isN p x := P.isN (List.mem_cons_self ..)
    have hxp := isN_pos g hx
    rw [e, if_pos (by omega), if_pos (isN_node g hx)]
    have hDx := hD.n x hx 0 (by omega) (by omega)
    rw [Int.add_zero] at hDx
    refine wp_get S hDx fun σ1 S => ?_
    refine wp_put S hD0 (S.rg x) (by omega) fun σ1 S => ?_
    refine wp_add S hD ⟨by omega, by omega⟩ (by omega) fun σ1 S => ?_
    have hfe : (m (p.root + 2) : Int) = fr'.length + 1 := by rw [P.frE]; simp
    have hb : (fr'.length : Int) + 1 ≤ 128 := by have h3 := P.out1; have h2 := P.len; simp only [List.length_cons] at h2; omega
    have hlen : w64 (upd m p.root (m x) (p.root + 2) + -1) = fr'.length := by
      rw [upd_ne _ _ (by omega), hfe, w64_R ⟨by omega, by omega⟩]; omega
    rw [hlen] at S
    refine h1 x fr' σ1 _ rfl hx S ⟨g, ?_, ?_, upd_eq _ _ _, P.out0, P.out1, fun y hy => P.fN y (List.mem_cons_of_mem _ hy), (List.nodup_cons.1 P.nd).2⟩ (fun a ha hb => by rw [upd_ne _ _ hb, upd_ne _ _ ha])
    · rw [upd_ne _ _ (by omega), upd_eq]
      rw [Int.add_zero] at hlk
      refine hlk.ext fun y hy => ?_
      have hyN := P.isN (List.mem_cons_of_mem _ hy)
      have := root_ne g hyN (i := 0) (j := 0) (by omega) (by omega)
      have := root_ne g hyN (i := 2) (j := 0) (by omega) (by omega)
      rw [upd_ne _ _ (by omega), upd_ne _ _ (by omega)]
    · rw [upd_ne _ _ (by omega), upd_ne _ _ (by omega)]; exact P.outE
/-- a release -/
theorem wp_give {q : Int → Prog α} (S : Sm D σ0 σ m c) (P : PoolR m p fr out) (hD : PoolD D p) (hl : σ0.pu.length + c + 3 ≤ big) {x i : Int} (hx : x = p.frm + 8 * i) (hi : 0 ≤ i ∧ i < out) (hn : x ∉ fr)
    (h1 : ∀ σ' m', Sm D σ0 σ' m' (c + 3) → PoolR m' p (x :: fr) out → (∀ a, a ≠ p.root → a ≠ p.root + 2 → a ≠ x → m' a = m a) → wp (q 0) σ' Q) : wp (pGive p x >>= q) σ Q := by
  have g := P.good
  have g1 := g.f1; have g2 := g.f2; have g3 := g.n1
  have hxN : isN p x := ⟨i, hi.1, by have := P.out1; omega, hx⟩
  have hxp := isN_pos g hxN
  unfold pGive
  rw [if_pos (isN_node g hxN), wp_bind]
  have hD0 := hD.r 0 (by omega) (by omega)
  rw [Int.add_zero] at hD0
  have hDx := hD.n x hxN 0 (by omega) (by omega)
  rw [Int.add_zero] at hDx
  refine wp_get S hD0 fun σ1 S => ?_
  refine wp_put S hDx (S.rg _) (by omega) fun σ1 S => ?_
  refine wp_put S hD0 ⟨by omega, by omega⟩ (by omega) fun σ1 S => ?_
  refine wp_add S hD ⟨by omega, by omega⟩ (by omega) fun σ1 S => ?_
  have r0 := root_ne g hxN (i := 0) (j := 0) (by omega) (by omega)
  have r1 := root_ne g hxN (i := 1) (j := 0) (by omega) (by omega)
  have r2 := root_ne g hxN (i := 2) (j := 0) (by omega) (by omega)
  have hfl : (fr.length : Int) ≤ 128 := by have := P.len; have := P.out1; omega
  have hlen : w64 (upd (upd m x (m p.root)) p.root x (p.root + 2) + 1) = (x :: fr).length := by
    rw [upd_ne _ _ (by omega), upd_ne _ _ (by omega), P.frE, w64_R ⟨by omega, by omega⟩]; simp
  rw [hlen] at S
  refine h1 σ1 _ S ⟨g, ?_, ?_, upd_eq _ _ _, P.out0, P.out1, ?_, List.nodup_cons.2 ⟨hn, P.nd⟩⟩ (fun a h1 h2 h3 => by rw [upd_ne _ _ h2, upd_ne _ _ h1, upd_ne _ _ h3])
  · rw [upd_ne _ _ (by omega), upd_eq]
    refine ⟨rfl, ?_⟩
    rw [Int.add_zero, upd_ne _ _ (by omega), upd_ne _ _ (by omega), upd_eq]
    refine P.link.ext fun y hy => ?_
    have hyN := P.isN hy
    have := root_ne g hyN (i := 0) (j := 0) (by omega) (by omega)
    have := root_ne g hyN (i := 2) (j := 0) (by omega) (by omega)
    have hxy : y ≠ x := fun e => hn (e ▸ hy)
    rw [upd_ne _ _ (by omega), upd_ne _ _ (by omega), upd_ne _ _ (by omega)]
  · rw [upd_ne _ _ (by omega), upd_ne _ _ (by omega), upd_ne _ _ (by omega)]; exact P.outE
  · intro y hy
    rcases List.mem_cons.1 hy with rfl | hy
    · exact ⟨i, hi.1, hi.2, hx⟩
    · exact P.fN y hy
end
end Go.En
