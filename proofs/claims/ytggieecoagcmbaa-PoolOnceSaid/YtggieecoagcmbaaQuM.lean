/-
  Layer 34: the queue in memory. No program text in sight.
-/
import Derived.Test.YtggieecoagcmbaaSpM
import Derived.Test.YtggieecoagcmbaaQuA
namespace Go.En
open Prog Spc

/-- a queue: its nodes and their values -/
structure QueueR (m : Int → Int) (root : Int) (ns vs : List Int) : Prop where
  link : Lk m 1 (m root) ns
  last : m (root + 1) = ns.getLast?.getD 0
  held : m (root + 7) = ns.length
  vals : vs = ns.map m
theorem QueueR.ext {m m' : Int → Int} {root : Int} {ns vs : List Int} (q : QueueR m root ns vs) (h : ∀ a, (a = root ∨ a = root + 1 ∨ a = root + 7 ∨ ∃ x ∈ ns, a = x ∨ a = x + 1) → m' a = m a) : QueueR m' root ns vs :=
  ⟨by rw [h _ (.inl rfl)]; exact q.link.ext fun x hx => h _ (.inr (.inr (.inr ⟨x, hx, .inr rfl⟩))), by rw [h _ (.inr (.inl rfl))]; exact q.last, by rw [h _ (.inr (.inr (.inl rfl)))]; exact q.held,
   by rw [q.vals]; exact List.map_congr_left fun x hx => (h _ (.inr (.inr (.inr ⟨x, hx, .inl rfl⟩)))).symm⟩
/-- which node was taken -/
def Took (p : Pl) (fr : List Int) (out x : Int) (fr' : List Int) (out' : Int) : Prop := (fr = x :: fr' ∧ out' = out) ∨ (fr = [] ∧ fr' = [] ∧ out < p.nodes ∧ x = p.frm + 8 * out ∧ out' = out + 1)

/-- a chain with one more at its end -/
theorem Lk.snoc {m : Int → Int} {o y : Int} : ∀ {l : List Int} {a z : Int}, Lk m o a (l ++ [z]) → Lk m o (m (z + o)) [y] → m (y + o) = 0 → Lk m o a (l ++ [z, y])
  | [], a, z, h, h2, h3 => ⟨h.1, h2.1, h3⟩
  | x :: r, a, z, h, h2, h3 => ⟨h.1, Lk.snoc h.2 h2 h3⟩
theorem Lk.last {m : Int → Int} {o : Int} : ∀ {l : List Int} {a z : Int}, Lk m o a (l ++ [z]) → m (z + o) = 0
  | [], a, z, h => h.2
  | x :: r, a, z, h => Lk.last (l := r) h.2
/-- the last link is turned to a further node -/
theorem Lk.push {m m' : Int → Int} {o y : Int} : ∀ {l : List Int} {a z : Int}, Lk m o a (l ++ [z]) → (∀ x ∈ l, m' (x + o) = m (x + o)) → m' (z + o) = y → m' (y + o) = 0 → Lk m' o a (l ++ [z] ++ [y])
  | [], a, z, h, _, h2, h3 => ⟨h.1, h2, h3⟩
  | x :: r, a, z, h, e, h2, h3 => ⟨h.1, by
    rw [e x (List.mem_cons_self ..)]
    exact Lk.push h.2 (fun w hw => e w (List.mem_cons_of_mem _ hw)) h2 h3⟩

section
variable {D : Int → Prop} {σ σ' : Spc} {m : Int → Int} {α : Type} {Q : α → Spc → Prop} {p : Pl} {fr : List Int} {out root : Int} {ns vs : List Int}

structure QDom (D : Int → Prop) (p : Pl) (root : Int) : Prop where
  pool : PoolD D p
  r : ∀ i, 0 ≤ i → i ≤ 7 → D (root + i)
  lo : p.root + 3 ≤ root
  hi : root + 8 ≤ p.frm

/-- the memory behind the end of a Put -/
def mTail (m : Int → Int) (root x v n : Int) : Int → Int := upd (upd (upd (upd m x v) (x + 1) 0) (root + 1) x) (root + 7) (n + 1)
theorem mTail_at (m : Int → Int) (root x v n a : Int) : mTail m root x v n a = if a = root + 7 then n + 1 else if a = root + 1 then x else if a = x + 1 then 0 else if a = x then v else m a := rfl

theorem wp_qTail {q : Int → Prog α} {σ0 : Spc} {c : Nat} {x v n : Int} (S : Sm D σ0 σ m c) (hD : QDom D p root) (hl : σ0.pu.length + c + 10 ≤ big) (hv : R64 v) (hx : isN p x) (g : p.good) (h7 : m (root + 7) = n) (hn : 0 ≤ n ∧ n ≤ 1000)
    (h : ∀ σ', Sm D σ0 σ' (mTail m root x v n) (c + 5) → wp (q 0) σ' Q) : wp (qTail root x v >>= q) σ Q := by
  have hxp := isN_pos g hx
  have hi := hD.hi
  have hD1 := hD.r 1 (by omega) (by omega)
  have hD7 := hD.r 7 (by omega) (by omega)
  have hDx0 := hD.pool.n x hx 0 (by omega) (by omega)
  rw [Int.add_zero] at hDx0
  have hDx1 := hD.pool.n x hx 1 (by omega) (by omega)
  unfold qTail
  rw [wp_bind]
  refine wp_put S hDx0 hv (by omega) fun σ4 S => ?_
  refine wp_put S hDx1 ⟨by omega, by omega⟩ (by omega) fun σ4 S => ?_
  refine wp_put S hD1 ⟨by omega, by omega⟩ (by omega) fun σ4 S => ?_
  refine wp_get S hD7 fun σ4 S => ?_
  refine wp_put S hD7 (w64_in _) (by omega) fun σ4 S => ?_
  rw [upd_ne _ _ (by omega), upd_ne _ _ (by omega), upd_ne _ _ (by omega), h7, w64_R ⟨by omega, by omega⟩] at S
  exact h _ (S.mono (by omega))

theorem getLast_snoc {l : List Int} {z : Int} : (l ++ [z]).getLast?.getD 0 = z := by simp

theorem wp_qPut {q : Int → Prog α} {v : Int} (S : Sm D σ σ m 0) (P : PoolR m p fr out) (hq : QueueR m root ns vs) (hD : QDom D p root) (hl : σ.pu.length + 30 ≤ big) (hv : R64 v)
    (hns : ∀ x ∈ ns, ∃ i, 0 ≤ i ∧ i < out ∧ x = p.frm + 8 * i) (hap : ∀ x ∈ ns, x ∉ fr) (hnd : ns.Nodup)
    (h1 : ∀ x fr' out' σ' m', Took p fr out x fr' out' → isN p x → Sm D σ σ' m' 20 → PoolR m' p fr' out' → QueueR m' root (ns ++ [x]) (vs ++ [v]) →
      (∀ a, a ≠ p.root → a ≠ p.root + 1 → a ≠ p.root + 2 → a ≠ root → a ≠ root + 1 → a ≠ root + 7 → (∀ y ∈ ns ++ [x], a ≠ y ∧ a ≠ y + 1) → m' a = m a) → wp (q 0) σ' Q)
    (h2 : ∀ σ', fr = [] → out = p.nodes → Sm D σ σ' m 20 → wp (q 9) σ' Q) : wp (qPut p root v >>= q) σ Q := by
  have S0 := S
  have g := P.good
  have g1 := g.f1; have g2 := g.f2; have g3 := g.n1; have lo := hD.lo; have hi := hD.hi; have g4 := g.r0
  have hlen : (ns.length : Int) ≤ out := nodes_len hns hnd P.out0
  have hout := P.out1
  unfold qPut
  rw [wp_bind]
  refine wp_mark ?_
  -- the node is at hand
  have main : ∀ x fr' out' σ1 m1, Took p fr out x fr' out' → isN p x → Sm D σ σ1 m1 2 → PoolR m1 p fr' out' → (∀ a, a ≠ p.root → a ≠ p.root + 1 → a ≠ p.root + 2 → m1 a = m a) →
      wp (do
        let en ← gt (root + 1)
        if en = 0 then do
          pt root x
          qTail root x v
        else if (p.node en).isSome then do
          pt (en + 1) x
          qTail root x v
        else do
          unP 24 σ.pu.length
          pure 24) σ1 fun a σ' => wp (q a) σ' Q := by
    intro x fr' out' σ1 m1 hT hx S P1 hm
    have hxp := isN_pos g hx
    have hD1 := hD.r 1 (by omega) (by omega)
    have hD0 := hD.r 0 (by omega) (by omega)
    rw [Int.add_zero] at hD0
    have hxf : ∀ y ∈ fr', y ≠ x := by
      intro y hy e
      subst e
      rcases hT with ⟨rfl, _⟩ | ⟨rfl, rfl, _⟩
      · exact (List.nodup_cons.1 P.nd).1 hy
      · cases hy
    have hxn : ∀ y ∈ ns, y ≠ x := by
      intro y hy e
      subst e
      rcases hT with ⟨rfl, _⟩ | ⟨rfl, rfl, h3, h4, _⟩
      · exact hap y hy (List.mem_cons_self ..)
      · obtain ⟨i, _, i1, e⟩ := hns y hy; omega
    have hnf : ∀ y ∈ ns, y ∉ fr' := by
      intro y hy h
      rcases hT with ⟨rfl, _⟩ | ⟨rfl, rfl, _⟩
      · exact hap y hy (List.mem_cons_of_mem _ h)
      · cases h
    have hfrN : ∀ y ∈ fr', isN p y := fun y hy => P1.isN hy
    refine wp_get S hD1 fun σ2 S => ?_
    rw [hm (root + 1) (by omega) (by omega) (by omega), hq.last]
    obtain ⟨i, i0, i1, rfl⟩ := hx
    have h7 : m1 (root + 7) = ns.length := by rw [hm _ (by omega) (by omega) (by omega), hq.held]
    have hroot : m1 root = m root := hm _ (by omega) (by omega) (by omega)
    have hx : isN p (p.frm + 8 * i) := ⟨i, i0, i1, rfl⟩
    have nsm : ∀ y ∈ ns, m1 y = m y ∧ m1 (y + 1) = m (y + 1) := fun y hy => by
      obtain ⟨j, j0, j1, rfl⟩ := hns y hy
      have := g.ap
      exact ⟨hm _ (by omega) (by omega) (by omega), hm _ (by omega) (by omega) (by omega)⟩
    -- what the end leaves
    have fin : ∀ (m2 m' : Int → Int) σ', m' = mTail m2 root (p.frm + 8 * i) v ns.length → (∀ a, a ≠ root → (∀ y ∈ ns, a ≠ y + 1) → m2 a = m1 a) → Lk m' 1 (m' root) (ns ++ [p.frm + 8 * i]) → Sm D σ σ' m' 20 → wp (q 0) σ' Q := by
      intro m2 m' σ' e hm2 hlk S
      have ha := mTail_at m2 root (p.frm + 8 * i) v ns.length
      rw [← e] at ha
      have hnsa : ∀ y ∈ ns, m' y = m y := by
        intro y hy
        obtain ⟨j, j0, j1, rfl⟩ := hns y hy
        have := hxn _ hy
        rw [ha, if_neg (by omega), if_neg (by omega), if_neg (by omega), if_neg (by omega), hm2 _ (by omega) (fun z hz => by obtain ⟨k, k0, k1, rfl⟩ := hns z hz; omega), (nsm _ hy).1]
      refine h1 _ fr' out' σ' m' hT hx S (P1.ext fun a h => ?_) ⟨hlk, ?_, ?_, ?_⟩ fun a a1 a2 a3 a4 a5 a6 a7 => ?_
      · have hP : a < root ∨ ∃ y ∈ fr', a = y := by
          rcases h with h | h | h | h
          · left; omega
          · left; omega
          · left; omega
          · exact .inr ⟨a, h, rfl⟩
        rcases hP with h | ⟨y, hy, rfl⟩
        · rw [ha, if_neg (by omega), if_neg (by omega), if_neg (by omega), if_neg (by omega), hm2 _ (by omega) (fun z hz => by obtain ⟨k, k0, k1, rfl⟩ := hns z hz; omega)]
        · obtain ⟨j, j0, j1, rfl⟩ := hfrN a hy
          have := hxf _ hy
          rw [ha, if_neg (by omega), if_neg (by omega), if_neg (by omega), if_neg (by omega), hm2 _ (by omega) (fun z hz => by obtain ⟨k, k0, k1, rfl⟩ := hns z hz; omega)]
      · rw [getLast_snoc, ha, if_neg (by omega), if_pos rfl]
      · rw [ha, if_pos rfl]; simp
      · rw [hq.vals, List.map_append, List.map_cons, List.map_nil]
        congr 1
        · exact (List.map_congr_left hnsa).symm
        · rw [ha, if_neg (by omega), if_neg (by omega), if_neg (by omega), if_pos rfl]
      · have h8 := a7 _ (List.mem_append_right _ (List.mem_singleton.2 rfl))
        rw [ha, if_neg (by omega), if_neg (by omega), if_neg (by omega), if_neg (by omega), hm2 _ a4 (fun z hz => (a7 z (List.mem_append_left _ hz)).2), hm _ a1 a2 a3]
    rcases List.eq_nil_or_concat ns with rfl | ⟨l, z, rfl⟩
    · simp only [List.getLast?_nil, Option.getD_none, if_true]
      refine wp_put S hD0 ⟨by omega, by omega⟩ (by omega) fun σ3 S => ?_
      rw [← wp_bind]
      refine wp_qTail S hD (by omega) hv hx g (n := 0) (by rw [upd_ne _ _ (by omega)]; exact h7) (by omega) fun σ4 S => ?_
      refine fin _ _ σ4 rfl (fun a a1 _ => upd_ne _ _ a1) ?_ (S.mono (by omega))
      refine ⟨?_, ?_⟩
      · rw [mTail_at, if_neg (by omega), if_neg (by omega), if_neg (by omega), if_neg (by omega), upd_eq]
      · show mTail _ _ _ _ _ _ = 0
        rw [mTail_at, if_neg (by omega), if_neg (by omega), if_pos rfl]
    · rw [List.concat_eq_append] at *
      have hz : z ∈ l ++ [z] := List.mem_append_right _ (List.mem_singleton.2 rfl)
      obtain ⟨j, j0, j1, hzj⟩ := hns z hz
      have hzN : isN p z := ⟨j, j0, by omega, hzj⟩
      have hzp := isN_pos g hzN
      have hzx := hxn z hz
      rw [getLast_snoc, if_neg (by omega), if_pos (isN_node g hzN)]
      refine wp_put S (hD.pool.n z hzN 1 (by omega) (by omega)) ⟨by omega, by omega⟩ (by omega) fun σ3 S => ?_
      rw [← wp_bind]
      refine wp_qTail S hD (by omega) hv hx g (n := ((l ++ [z]).length : Nat)) (by rw [upd_ne _ _ (by omega)]; exact h7) ⟨by omega, by omega⟩ fun σ4 S => ?_
      refine fin _ _ σ4 rfl (fun a _ a1 => upd_ne _ _ (a1 z hz)) ?_ (S.mono (by omega))
      have hlk := hq.link
      have e0 : mTail (upd m1 (z + 1) (p.frm + 8 * i)) root (p.frm + 8 * i) v ((l ++ [z]).length : Nat) root = m root := by
        rw [mTail_at, if_neg (by omega), if_neg (by omega), if_neg (by omega), if_neg (by omega), upd_ne _ _ (by omega), hroot]
      rw [e0]
      refine hlk.push (fun w hw => ?_) ?_ ?_
      · have hw' : w ∈ l ++ [z] := List.mem_append_left _ hw
        have hwx := hxn w hw'
        have hwz : w ≠ z := fun e => by
          subst e
          rw [List.nodup_append] at hnd
          exact hnd.2.2 w hw w (List.mem_singleton.2 rfl) rfl
        have h9 := (nsm w hw').2
        obtain ⟨k, k0, k1, rfl⟩ := hns w hw'
        rw [mTail_at, if_neg (by omega), if_neg (by omega), if_neg (by omega), if_neg (by omega), upd_ne _ _ (by omega), h9]
      · rw [mTail_at, if_neg (by omega), if_neg (by omega), if_neg (by omega), if_neg (by omega), upd_eq]
      · rw [mTail_at, if_neg (by omega), if_neg (by omega), if_pos rfl]
  refine wp_take S P hD.pool (by omega) (fun x fr' σ' m' e hx S P' hm => ?_) (fun σ' m' e ho hx S P' hm => ?_) fun σ' e ho S => ?_
  · dsimp only
    rw [if_neg (by simp)]
    exact main x fr' out σ' m' (.inl ⟨e, rfl⟩) hx S P' fun a a1 a2 a3 => hm a a1 a3
  · dsimp only
    rw [if_neg (by simp)]
    exact main _ [] _ σ' m' (.inr ⟨e, rfl, ho, rfl, rfl⟩) hx S P' fun a a1 a2 a3 => hm a a2
  · dsimp only
    rw [if_pos (by simp)]
    unfold unP
    rw [if_pos (by simp)]
    refine wp_back S S0.vw S0.rg fun σ' S => ?_
    exact h2 σ' e ho (S.mono (by omega))

theorem wp_qTake {q : Int × Int → Prog α} (S : Sm D σ σ m 0) (P : PoolR m p fr out) (hq : QueueR m root ns vs) (hD : QDom D p root) (hl : σ.pu.length + 30 ≤ big)
    (hns : ∀ x ∈ ns, ∃ i, 0 ≤ i ∧ i < out ∧ x = p.frm + 8 * i) (hap : ∀ x ∈ ns, x ∉ fr) (hnd : ns.Nodup)
    (h1 : ∀ x ns' v vs' σ' m', ns = x :: ns' → vs = v :: vs' → isN p x → Sm D σ σ' m' 20 → PoolR m' p (x :: fr) out → QueueR m' root ns' vs' →
      (∀ a, a ≠ p.root → a ≠ p.root + 2 → a ≠ root → a ≠ root + 1 → a ≠ root + 7 → a ≠ x → m' a = m a) → wp (q (v, 0)) σ' Q)
    (h2 : ∀ σ', ns = [] → Sm D σ σ' m 20 → wp (q (0, 8)) σ' Q) : wp (qTake p root >>= q) σ Q := by
  have S0 := S
  have g := P.good
  have g1 := g.f1; have g2 := g.f2; have g3 := g.n1; have lo := hD.lo; have hi := hD.hi; have g4 := g.r0
  have hlen : (ns.length : Int) ≤ out := nodes_len hns hnd P.out0
  have hout := P.out1
  have hD0 := hD.r 0 (by omega) (by omega)
  rw [Int.add_zero] at hD0
  have hD1 := hD.r 1 (by omega) (by omega)
  have hD7 := hD.r 7 (by omega) (by omega)
  unfold qTake
  rw [wp_bind]
  refine wp_mark ?_
  refine wp_get S hD0 fun σ1 S => ?_
  cases ns with
  | nil =>
    have e : m root = 0 := hq.link
    rw [e, if_pos rfl]
    unfold unP
    rw [if_pos (by simp)]
    refine wp_back S S0.vw S0.rg fun σ' S => ?_
    exact h2 σ' rfl (S.mono (by omega))
  | cons x ns' =>
    obtain ⟨e, hlk⟩ := hq.link
    obtain ⟨i, i0, i1, hxi⟩ := hns x (List.mem_cons_self ..)
    have hx : isN p x := ⟨i, i0, by omega, hxi⟩
    have hxp := isN_pos g hx
    have hxf := hap x (List.mem_cons_self ..)
    rw [List.nodup_cons] at hnd
    have hN' : ∀ y ∈ ns', ∃ j, 0 ≤ j ∧ j < out ∧ y = p.frm + 8 * j ∧ y ≠ x := fun y hy => by
      obtain ⟨j, j0, j1, e⟩ := hns y (List.mem_cons_of_mem _ hy)
      exact ⟨j, j0, j1, e, fun h => hnd.1 (h ▸ hy)⟩
    rw [e, if_neg (by omega), if_pos (isN_node g hx)]
    have hDx := hD.pool.n x hx 0 (by omega) (by omega)
    rw [Int.add_zero] at hDx
    refine wp_get S hDx fun σ1 S => ?_
    refine wp_get S (hD.pool.n x hx 1 (by omega) (by omega)) fun σ1 S => ?_
    refine wp_give S P hD.pool (by omega) hxi ⟨i0, i1⟩ hxf fun σ2 m2 S P2 hm => ?_
    rw [if_neg (by simp)]
    refine wp_put S hD0 (by have := S0.rg (x + 1); exact this) (by omega) fun σ3 S => ?_
    have hfrN : ∀ y ∈ x :: fr, ∃ j, y = p.frm + 8 * j ∧ 0 ≤ j := fun y hy => by
      obtain ⟨j, j0, j1, e⟩ := P2.fN y hy; exact ⟨j, e, j0⟩
    -- the end
    have fin : ∀ (m3 : Int → Int) σ3, Sm D σ σ3 m3 6 → (∀ a, a ≠ root + 1 → m3 a = upd m2 root (m (x + 1)) a) → m3 (root + 1) = ns'.getLast?.getD 0 → wp (qEnd root (m x)) σ3 fun a σ' => wp (q a) σ' Q := by
      intro m3 σ3 S hm3 hlast
      unfold qEnd
      refine wp_get S hD7 fun σ4 S => ?_
      refine wp_put S hD7 (w64_in _) (by omega) fun σ4 S => ?_
      have e7 : w64 (m3 (root + 7) - 1) = (ns'.length : Nat) := by
        rw [hm3 _ (by omega), upd_ne _ _ (by omega), hm _ (by omega) (by omega) (by omega), hq.held]
        simp only [List.length_cons] at hlen ⊢
        rw [w64_R ⟨by omega, by omega⟩]; omega
      rw [e7] at S
      have ha : ∀ a, a ≠ root → a ≠ root + 1 → a ≠ root + 7 → upd m3 (root + 7) (ns'.length : Nat) a = m2 a := fun a a1 a2 a3 => by
        rw [upd_ne _ _ a3, hm3 a a2, upd_ne _ _ a1]
      refine h1 x ns' (m x) (ns'.map m) σ4 _ rfl (by rw [hq.vals]; rfl) hx (S.mono (by omega)) (P2.ext fun a h => ?_) ⟨?_, ?_, upd_eq _ _ _, ?_⟩ fun a a1 a2 a3 a4 a5 a6 => ?_
      · have hP : a < root ∨ root + 7 < a := by
          rcases h with h | h | h | h
          · left; omega
          · left; omega
          · left; omega
          · obtain ⟨j, e, _⟩ := hfrN a h; right; omega
        exact ha a (by omega) (by omega) (by omega)
      · rw [upd_ne _ _ (by omega), hm3 root (by omega), upd_eq]
        refine hlk.ext fun y hy => ?_
        obtain ⟨j, j0, j1, rfl, hne⟩ := hN' y hy
        have := g.ap
        rw [ha _ (by omega) (by omega) (by omega), hm _ (by omega) (by omega) (by omega)]
      · rw [upd_ne _ _ (by omega)]; exact hlast
      · refine List.map_congr_left fun y hy => ?_
        obtain ⟨j, j0, j1, rfl, hne⟩ := hN' y hy
        have := g.ap
        rw [ha _ (by omega) (by omega) (by omega), hm _ (by omega) (by omega) (by omega)]
      · rw [ha a a3 a4 a5, hm a a1 a2 a6]
    by_cases hz : m (x + 1) = 0
    · rw [if_pos hz]
      refine wp_put S hD1 ⟨by omega, by omega⟩ (by omega) fun σ4 S => ?_
      have hnil : ns' = [] := by
        cases ns' with
        | nil => rfl
        | cons y r =>
          obtain ⟨e2, _⟩ := hlk
          obtain ⟨j, j0, j1, e3, _⟩ := hN' y (List.mem_cons_self ..)
          omega
      refine fin _ σ4 (S.mono (by omega)) (fun a ha => upd_ne _ _ ha) ?_
      rw [upd_eq, hnil]; rfl
    · rw [if_neg hz]
      refine fin _ σ3 (S.mono (by omega)) (fun _ _ => rfl) ?_
      rw [upd_ne _ _ (by omega), hm _ (by omega) (by omega) (by omega), hq.last]
      cases ns' with
      | nil => exact absurd hlk hz
      | cons y r => rw [List.getLast?_cons_cons]

def qHead : List Int → Int × Int
  | [] => (0, 8)
  | v :: _ => (v, 0)
theorem wp_qFirst {q : Int × Int → Prog α} {σ0 : Spc} {c : Nat} (S : Sm D σ0 σ m c) (g : p.good) (hq : QueueR m root ns vs) (hD : QDom D p root) (hns : ∀ x ∈ ns, isN p x)
    (h : ∀ σ', Sm D σ0 σ' m c → wp (q (qHead vs)) σ' Q) : wp (qFirst root >>= q) σ Q := by
  have hD0 := hD.r 0 (by omega) (by omega)
  rw [Int.add_zero] at hD0
  unfold qFirst
  rw [wp_bind]
  refine wp_get S hD0 fun σ1 S => ?_
  have hv := hq.vals
  cases ns with
  | nil =>
    have e : m root = 0 := hq.link
    subst hv
    rw [e, if_pos rfl]
    exact h _ S
  | cons x r =>
    obtain ⟨e, hlk⟩ := hq.link
    have hx := hns x (List.mem_cons_self ..)
    have hxp := isN_pos g hx
    subst hv
    rw [e, if_neg (by omega)]
    have hDx := hD.pool.n x hx 0 (by omega) (by omega)
    rw [Int.add_zero] at hDx
    refine wp_get S hDx fun σ1 S => ?_
    exact h _ S
theorem wp_qLoop {q : Option (List Int) → Prog α} {σ0 : Spc} {c : Nat} (g : p.good) (hD : PoolD D p) : ∀ (l : List Int) (n : Nat) (a : Int) (acc : List Int) (σ : Spc), Sm D σ0 σ m c → Lk m 1 a l → (∀ x ∈ l, isN p x) → l.length ≤ n →
    (∀ σ', Sm D σ0 σ' m c → wp (q (some (acc ++ l.map m))) σ' Q) → wp (qLoop p n a acc >>= q) σ Q
  | [], n, a, acc, σ, S, hlk, _, _, h => by
    have e : a = 0 := hlk
    subst e
    have : qLoop p n 0 acc = pure (some acc) := by cases n <;> rfl
    rw [this]
    have := h σ S
    rw [List.map_nil, List.append_nil] at this
    exact this
  | x :: r, n, a, acc, σ, S, hlk, hN, hn, h => by
    obtain ⟨e, hlk⟩ := hlk
    subst e
    have hx := hN a (List.mem_cons_self ..)
    have hxp := isN_pos g hx
    cases n with
    | zero => simp at hn
    | succ n =>
      unfold qLoop
      rw [if_neg (by omega), if_pos (isN_node g hx), wp_bind]
      have hDx := hD.n a hx 0 (by omega) (by omega)
      rw [Int.add_zero] at hDx
      refine wp_get S hDx fun σ1 S => ?_
      refine wp_get S (hD.n a hx 1 (by omega) (by omega)) fun σ1 S => ?_
      rw [← wp_bind]
      refine wp_qLoop g hD r n _ _ σ1 S hlk (fun y hy => hN y (List.mem_cons_of_mem _ hy)) (by simpa using hn) fun σ2 S => ?_
      have := h σ2 S
      rw [List.append_assoc]
      exact this
theorem wp_qWalk {q : Option (List Int) → Prog α} {σ0 : Spc} {c : Nat} (S : Sm D σ0 σ m c) (g : p.good) (hq : QueueR m root ns vs) (hD : QDom D p root) (hns : ∀ x ∈ ns, isN p x) (hlen : (ns.length : Int) ≤ p.nodes)
    (h : ∀ σ', Sm D σ0 σ' m c → wp (q (some vs)) σ' Q) : wp (qWalk p root >>= q) σ Q := by
  have hD0 := hD.r 0 (by omega) (by omega)
  rw [Int.add_zero] at hD0
  unfold qWalk
  rw [wp_bind]
  refine wp_get S hD0 fun σ1 S => ?_
  rw [← wp_bind]
  refine wp_qLoop g hD.pool ns _ _ [] σ1 S hq.link hns (by omega) fun σ2 S => ?_
  rw [List.nil_append, ← hq.vals]
  exact h σ2 S
theorem wp_pLeft {q : Int → Prog α} {σ0 : Spc} {c : Nat} (S : Sm D σ0 σ m c) (P : PoolR m p fr out) (hD : PoolD D p) (h : ∀ σ', Sm D σ0 σ' m c → wp (q (fr.length + p.nodes - out)) σ' Q) : wp (pLeft p >>= q) σ Q := by
  have g := P.good
  have g1 := g.f1; have g2 := g.f2; have g3 := g.n1; have g4 := g.n0
  have := P.len; have := P.out0; have := P.out1
  unfold pLeft
  rw [if_pos g, wp_bind]
  refine wp_get S (hD.r 2 (by omega) (by omega)) fun σ1 S => ?_
  refine wp_get S (hD.r 1 (by omega) (by omega)) fun σ1 S => ?_
  rw [P.frE, P.outE, w64_R (z := fr.length + p.nodes) ⟨by omega, by omega⟩, w64_R ⟨by omega, by omega⟩, Int.max_eq_left (by omega)]
  exact h _ S
end
end Go.En
