/-
  Layer 37: the law Shaped.
  Layer 37: the last contracts.
-/
import Derived.Test.YtmpdclbiopalaaaYN
import Derived.Test.YtmpdclbiopalaaaXD
import Derived.Test.YtmpdclbiopalaaaYJ
namespace Go.En
open Prog Spc Go.Sort

variable {S : Sys} {I : Ids} {h h0 h' : Hp} {F F0 : Fp} {R : Value → Hp → Prop} {L : List Res} {s : Value} {σ τ : Spc}
structure CsX4 (S : Sys) (I : Ids) : Prop extends CsX3 S I where
  shp : ∀ {a b c h R}, F_simulcastlaw37_shaped S I a b c h R → S.C I.f_simulcastlaw37_shaped [a, b, c] h R
  hh : CsH S I
  free : ∀ {α : Type} {A : α → Res} {fn : Value} {p : Pl} {m : Int → Int} {x0 : α} {F0 h0 h R}, p.good → (∀ a, R64 (m a)) →
    (∀ x a h F R, (a = p.root ∨ (p.node a).isSome = true) → (A x).P h F → (∀ x' h' F', (A x').P h' F' → Mv F h F' h' → R (.int .i64 (m a)) h') → Cv S.C S.Y fn [.int .i64 a] h R) →
    Cx F0 h0 h [A x0] → (∀ x v h', Cx F0 h0 h' [A x, rSl EI1 v ((freeM p m p.nodes.toNat (m p.root) []).getD [])] → R (.tuple #[v, .int .i64 (if (freeM p m p.nodes.toNat (m p.root) []).isSome then 0 else 24)]) h') →
    S.C I.f_pool_Pool_Free [vP p, fn] h R
theorem top_nd {l r : List (Int × Int)} {x v t : Int} (H : TopAt (l ++ (x, v) :: r) t) (ho : ∀ y ∈ l ++ r, rk y.1 < rk x) : t = l.length := by
  rcases H with ⟨e, _⟩ | ⟨a, y, rfl, hy, hall⟩
  · simp at e
  · have hx := hall (x, v) (by simp)
    have key : y ∉ l ++ r := fun hm => by
      have := ho y hm
      have hx : rk x ≤ rk y.1 := hx
      omega
    rcases Nat.lt_trichotomy a l.length with h | h | h
    · rw [List.getElem?_append_left h] at hy
      exact absurd (List.mem_append_left _ (List.mem_of_getElem? hy)) key
    · rw [h]
    · rw [List.getElem?_append_right (by omega)] at hy
      obtain ⟨b, hb⟩ : ∃ b, a - l.length = b + 1 := ⟨a - l.length - 1, by omega⟩
      rw [hb, List.getElem?_cons_succ] at hy
      exact absurd (List.mem_append_right _ (List.mem_of_getElem? hy)) key
section
variable {n : Int} {ks l0 : List (Int × Int)} {cnt c0 : Nat} {lv0 : Value} {m : Int → Int} {σ0 : Spc}
theorem n37_D {a i : Int} (_ : 0 ≤ n ∧ n ≤ 100) (h : isN (p37 n) a) (h0 : 0 ≤ i ∧ i ≤ 7) : D37 n (a + i) ∧ 24 ≤ a ∧ a ≤ 900 := by
  obtain ⟨j, j0, j1, rfl⟩ := h
  have j1 : j < n := j1
  exact ⟨⟨by show 0 ≤ 24 + 8 * j + i; omega, by show 24 + 8 * j + i < _; omega⟩, by show 24 ≤ 24 + 8 * j; omega, by show 24 + 8 * j ≤ 900; omega⟩
set_option maxHeartbeats 1600000 in
theorem shp_ (cs : CsX4 S I) (hn : 0 ≤ n ∧ n ≤ 100) : ∀ (t : Tr) {h : Hp} {σ : Spc} {lv : Value} {R : Value → Hp → Prop}, (∀ h', Sl E2I h' lv0 l0 → Sl E2I h' lv t.ks) → Cx F0 h0 h [rSpace s σ, rSl E2I lv0 l0] → Sm (D37 n) σ0 σ m c0 → TR m t → HO t → (∀ x ∈ t.ns, isN (p37 n) x) → t.ks.length ≤ 100 →
    (∀ σ' h', Cx F0 h0 h' [rSpace s σ', rSl E2I lv0 l0] → Sm (D37 n) σ0 σ' m c0 → R (.bool true) h') → S.C I.f_simulcastlaw37_shaped [s, .int .i64 t.at', lv] h R
  | .nil, h, σ, lv, R, hs, c, S0, ht, ho, hN, hl, hR => by
    refine cs.shp ?_
    unfold F_simulcastlaw37_shaped
    refine cs.rtop (hs _ (c.sl (i := 1) rfl).sl) (by show 0 ≤ _; omega) fun t ht => ?_
    rcases ht with ⟨_, rfl⟩ | ⟨a, y, _, hy, _⟩
    · rw [bin_lss, vb_some, show decide ((-1 : Int) < 0) = true from rfl, br_true]
      refine En.vb (v := .bool true) (eqI 0) ?_
      exact hR _ _ c S0
    · cases hy
  | .nd a l x v r, h, σ, lv, R, hs, c, S0, ht, ho, hN, hl, hR => by
    refine cs.shp ?_
    unfold F_simulcastlaw37_shaped
    obtain ⟨hc, htl, htr⟩ := ht
    obtain ⟨ho1, hol, hor⟩ := ho
    have hs' : ∀ h', Sl E2I h' lv0 l0 → Sl E2I h' lv (l.ks ++ (x, v) :: r.ks) := hs
    have hl' : (l.ks ++ (x, v) :: r.ks).length ≤ 100 := hl
    have hll : l.ks.length + r.ks.length + 1 ≤ 100 := by rw [List.length_append, List.length_cons] at hl'; omega
    have hlen : ((l.ks ++ (x, v) :: r.ks).length : Int) = ((l.sz + r.sz + 1 : Nat) : Int) := by rw [List.length_append, List.length_cons, Tr.sz_ks, Tr.sz_ks]; omega
    have hat : (l.ks ++ (x, v) :: r.ks)[l.ks.length]? = some (x, v) := by rw [List.getElem?_append_right (Nat.le_refl _), Nat.sub_self]; rfl
    have hNa : isN (p37 n) a := hN a (by simp [Tr.ns])
    have hD := fun (i : Int) (hi : 0 ≤ i ∧ i ≤ 7) => (n37_D hn hNa hi).1
    have hD0 := hD 0 (by decide)
    rw [Int.add_zero] at hD0
    have ha := (n37_D hn hNa (i := 0) (by decide)).2
    refine cs.rtop (hs' _ (c.sl (i := 1) rfl).sl) (by omega) fun t ht => ?_
    have et := top_nd ht ho1
    subst et
    clear ht
    rw [bin_lss, vb_some, decide_eq_false (by omega), br_false, (hs' _ (c.sl (i := 1) rfl).sl).ln, vb_some]
    refine Lp2.by (fun (i : Nat) u w h' => u = .int .i64 (w64 (sumO true (fun _ => true) ((l.ks ++ (x, v) :: r.ks).take i))) ∧ w = .int .i64 i ∧ i ≤ (l.ks ++ (x, v) :: r.ks).length ∧ h' = h) (fun i => (l.ks ++ (x, v) :: r.ks).length - i) 0 ⟨rfl, rfl, Nat.zero_le _, rfl⟩ ?_
    rintro i u w h2 ⟨rfl, rfl, hi, rfl⟩ again hagain
    rw [vb_some, bin_lss, vb_some]
    refine brd (fun h3 => ?_) fun h3 => ?_
    · have hx : (l.ks ++ (x, v) :: r.ks)[i]? = some (l.ks ++ (x, v) :: r.ks)[i] := List.getElem?_eq_getElem (by omega)
      generalize (l.ks ++ (x, v) :: r.ks)[i] = y at hx
      refine (hs' _ (c.sl (i := 1) rfl).sl).fld rfl hx rfl (j := 1) rfl ?_
      rw [bin_addw, vb_some, w64_add, bin_add, vb_some, wrS (by omega)]
      refine hagain (i + 1) _ _ _ ⟨by rw [sumO_take hx]; rfl, rfl, by omega, rfl⟩ (by omega)
    clear hagain again
    rw [List.take_of_length_le (by omega)]
    have esm : sumO true (fun _ => true) (l.ks ++ (x, v) :: r.ks) = l.sm + v + r.sm := sumO_all (sq := true) (q := fun _ => true) (t := .nd a l x v r) fun _ _ => rfl
    rw [esm, hlen]
    refine .here ?_
    have ea : (Tr.nd a l x v r).at' = a := rfl
    rw [ea, bin_gtr, vb_some]
    refine brd (fun _ => ?_) fun h => absurd (by omega) h
    obtain ⟨p0, q0, e1, e2, e3⟩ := (hs' _ (c.sl (i := 1) rfl).sl).at2 (n := 2) rfl hat (q := .i64) (z := (l.ks.length : Int)) rfl (j := 0) (u := .int .i64 x) rfl
    obtain ⟨p1, q1, f1, f2, f3⟩ := (hs' _ (c.sl (i := 1) rfl).sl).at2 (n := 2) rfl hat (q := .i64) (z := (l.ks.length : Int)) rfl (j := 1) (u := .int .i64 v) rfl
    rw [e1] at f1
    cases f1
    rw [e1, vb_some, e2, vb_some, e3 _ (hs' _ (c.sl (i := 1) rfl).sl), vb_some]
    refine c.cGet cs.toCsD 0 rfl fun h4 c => ?_
    refine ⟨e3 _ (hs' _ (c.sl (i := 1) rfl).sl), ?_⟩
    rw [S0.get hD0] at c ⊢
    have S1 := S0.rds a
    rw [hc.k, eqI, vb_some, br_true]
    refine En.vb (addI (by show R64 (a + 1); exact ⟨by omega, by omega⟩)) ?_
    rw [vb_some, f2, vb_some, f3 _ (hs' _ (c.sl (i := 1) rfl).sl), vb_some]
    refine c.cGet cs.toCsD 0 rfl fun h5 c => ?_
    refine ⟨f3 _ (hs' _ (c.sl (i := 1) rfl).sl), ?_⟩
    rw [S1.get (hD 1 (by decide))] at c ⊢
    have S2 := S1.rds (a + 1)
    rw [hc.v, eqI, vb_some, br_true]
    refine En.vb (addI (by show R64 (a + 4); exact ⟨by omega, by omega⟩)) ?_
    refine c.cGet cs.toCsD 0 rfl fun h6 c => ?_
    rw [S2.get (hD 4 (by decide))] at c ⊢
    have S3 := S2.rds (a + 4)
    rw [hc.c, eqI, vb_some, br_true]
    refine En.vb (addI (by show R64 (a + 5); exact ⟨by omega, by omega⟩)) ?_
    refine c.cGet cs.toCsD 0 rfl fun h7 c => ?_
    rw [S3.get (hD 5 (by decide))] at c ⊢
    have S4 := S3.rds (a + 5)
    rw [hc.s, eqI, vb_some, br_true]
    refine En.vb (addI (by show R64 (a + 2); exact ⟨by omega, by omega⟩)) ?_
    obtain ⟨w1, g1, G1⟩ := sl_take (hs' _ (c.sl (i := 1) rfl).sl) (u := l.ks.length) (by rw [List.length_append]; omega)
    rw [g1, vb_some]
    refine c.cGet cs.toCsD 0 rfl fun h8 c => ?_
    rw [S4.get (hD 2 (by decide))] at c ⊢
    have S5 := S4.rds (a + 2)
    rw [hc.l]
    refine shp_ cs hn l (fun h' H => ?_) c S5 htl hol (fun y hy => hN y (by simp [Tr.ns, hy])) (by omega) fun σ2 h9 c S6 => ?_
    · have := G1 h' (hs' _ H)
      rwa [List.take_left] at this
    rw [br_true]
    refine En.vb (addI (by show R64 (a + 3); exact ⟨by omega, by omega⟩)) ?_
    rw [bin_add, vb_some, wrS (by omega)]
    obtain ⟨w2, g2, G2⟩ := sl_drop (hs' _ (c.sl (i := 1) rfl).sl) (u := l.ks.length + 1) (by rw [List.length_append, List.length_cons]; omega)
    rw [g2, vb_some]
    refine c.cGet cs.toCsD 0 rfl fun h10 c => ?_
    rw [S6.get (hD 3 (by decide))] at c ⊢
    have S7 := S6.rds (a + 3)
    rw [hc.r]
    refine shp_ cs hn r (fun h' H => ?_) c S7 htr hor (fun y hy => hN y (by simp [Tr.ns, hy])) (by omega) fun σ3 h11 c S8 => ?_
    · have := G2 h' (hs' _ H)
      rw [List.drop_append, List.drop_eq_nil_of_le (by omega), List.nil_append] at this
      rw [show l.ks.length + 1 - l.ks.length = 1 by omega] at this
      exact this
    exact hR _ _ c S8
/-- the free nodes of the tree's pool, read through the space -/
theorem Cx.tfree {t : Tr} {fr : List Int} {out : Int} (cs : CsX4 S I) (hn : 0 ≤ n ∧ n ≤ 100) (S0 : Sm (D37 n) σ0 σ m c0) (X : TS (p37 n) 8 m t fr out) (c : Cx F0 h0 h L) (i : Nat) (hi : L[i]? = some (rSpace s σ))
    (k : ∀ σ' v h', Sm (D37 n) σ0 σ' m c0 → Cx F0 h0 h' (L.set i (rSpace s σ') ++ [rSl EI1 v (fr.map fun x => (x - 24) / 8)]) → R (.tuple #[v, .int .i64 0]) h') :
    S.C I.f_pool_Pool_Free [vP (p37 n), .func (.func I.f_space_Space_Get) #[s] #[]] h R := by
  have G := p37_G hn
  have hfl : (fr.length : Int) ≤ n := by have := X.P.len; have h2 : out ≤ n := X.P.out1; omega
  have hfree : freeM (p37 n) m (p37 n).nodes.toNat (m (p37 n).root) [] = some ([] ++ fr.map fun x => (x - (p37 n).frm) / 8) := freeM_lk X.P.good [] X.P.link (fun x hx => X.P.isN hx) (by show fr.length ≤ n.toNat; omega)
  obtain ⟨F1, c1, up⟩ := c.frame hi
  have c2 := c1.conv (i := 0) rfl (B := rIf (Sm (D37 n) σ0 σ m c0) (rSpace s σ)) fun F' a => ⟨S0, a⟩
  refine cs.free (A := fun x => rIf (Sm (D37 n) σ0 x m c0) (rSpace s x)) (m := m) (x0 := σ) X.P.good S0.rg (fun x a h F R ha ⟨S', pa⟩ k => ?_) c2 fun x v h' c3 => ?_
  · refine .inl ⟨_, _, _, rfl, ?_⟩
    show S.C I.f_space_Space_Get [s, .int .i64 a] h R
    have hD : D37 n a := by
      rcases ha with rfl | ha
      · have := G.dp.r 0 (by decide) (by decide)
        rwa [Int.add_zero] at this
      · have := G.dp.n a (node_isN ha) 0 (by decide) (by decide)
        rwa [Int.add_zero] at this
    refine (Cx.start pa).cGet cs.toCsD 0 rfl fun h' c => ?_
    rw [S'.get hD] at c ⊢
    obtain ⟨F', a', mv⟩ := c.fin
    exact k _ h' F' ⟨S'.rds a, a'⟩ mv
  · rw [hfree] at c3 ⊢
    obtain ⟨_, S', _⟩ := c3.get (i := 0) rfl
    have c4 := c3.conv (i := 0) rfl (B := rSpace s x) fun F' a => a.2
    exact k x v h' S' (up (M := [_]) c4)
end
section
variable {l : List C37} {b1 : Value}
set_option maxHeartbeats 800000 in
theorem L_TreeShaped {k : Int} (cs : CsX4 S I) (s1 : Sl ECl h b1 l) (w1 : ∀ x ∈ l, x.ok) (hk : 0 ≤ k ∧ k ≤ 255) (hR : ∀ h', Gr h h' → R (.bool true) h') : F_simulcastlaw37_TreeShaped S I b1 (.int .u8 k) h R := by
  unfold F_simulcastlaw37_TreeShaped
  refine cs.awake37 fun h1 g => ?_
  have c := (Cx.start0 h).more g
  rw [uno_nb, vb_some, Bool.not_true, br_false, s1.ln, vb_some, bin_gtr, vb_some]
  refine brd (fun _ => hR _ c.gr) fun hlen => ?_
  rw [show bin .rem (.int .u8 k) (.int .u8 24) = some (.int .u8 (k % 24)) by rw [bin_rem (by omega), Int.tmod_eq_emod_of_nonneg hk.1], vb_some, cvi_int, vb_some, wr64 (by omega)]
  obtain ⟨n, hm⟩ : ∃ n : Nat, k % 24 + 1 = n := ⟨(k % 24 + 1).toNat, by omega⟩
  refine En.vb (v := .int .i64 n) (by rw [← hm]; exact addI ⟨by omega, by omega⟩) ?_
  have hm100 : n ≤ 100 := by omega
  refine cs.made37 (n := n) ⟨by omega, by omega⟩ fun h3 g => ?_
  have c := c.more g
  rw [show (24 + 8 * (n : Int)) = ((N37 n : Nat) : Int) by show _ = ((24 + 8 * n : Nat) : Int); omega]
  refine ext0t (ext1t ?_)
  refine c.nw ET (⟨0, 0, 0⟩, 0) rfl fun rt h4 c => ?_
  refine c.sto 0 rfl (p37 n, 8) rfl rfl fun h5 c => ?_
  refine cs.empty37 (N := N37 n) (by show 24 + 8 * n ≤ _; omega) fun s h6 c2 => ?_
  have c := c.frame0 c2
  clear c2
  have c := c.nil E2I
  have H0 : ST n [] 0 (newS (knF (fun _ => W0) (N37 n))) := ST.start hm100 fun _ => rfl
  generalize newS (knF (fun _ => W0) (N37 n)) = σ0 at *
  refine Lp2.by (fun (q : Nat × Spc × List (Int × Int)) lv v h' => v = .int .i64 q.1 ∧ q.1 ≤ l.length ∧ ST n q.2.2 (3000 * q.1) q.2.1 ∧ Cx (fun _ => False) h h' ([rVar ET rt (p37 n, 8)] ++ [rSpace s q.2.1, rSl E2I lv q.2.2])) (fun q => l.length - q.1) (0, σ0, []) ⟨rfl, Nat.zero_le _, H0, c⟩ ?_
  clear c H0
  rintro ⟨i, σ, ks⟩ lv v h8 ⟨rfl, hi, H, c⟩ again hagain
  dsimp only at *
  rw [vb_some, bin_lss, vb_some]
  refine brd (fun hlt => ?_) fun hge => ?_
  · have hx : l[i]? = some l[i] := List.getElem?_eq_getElem (by omega)
    have hok := w1 l[i] (List.getElem_mem _)
    generalize l[i] = x at *
    rw [tW (i := 0) c rfl, vb_some]
    refine (s1.gr c.gr).whole rfl hx rfl ?_
    obtain ⟨F1, c1, _, up⟩ := Cx.frameL (L := [rVar ET rt (p37 n, 8)]) (M := [rSpace s σ, rSl E2I lv ks]) c
    refine cs.do37 (x := x) hok H (by unfold big; omega) c1 fun σ' ks' lv' h9 c2 H' => ?_
    have c := up c2
    rw [e2_0, vb_some, e2_1, vb_some, uno_nb, vb_some, Bool.not_true, br_false, bin_add, vb_some, wrS (by omega)]
    exact hagain (i + 1, σ', ks') _ _ _ ⟨rfl, by dsimp only; omega, H'.mono (by omega) (by unfold big; omega), c⟩ (by dsimp only; omega)
  · have hln := H.len
    obtain ⟨hn, hcb, m, t, fr, out, S0, X, rfl, hpl⟩ := H
    have hsz : t.ks.length = t.sz := Tr.sz_ks
    have hD : ∀ a : Int, 0 ≤ a ∧ a < 24 → D37 n a := fun a ha => ⟨ha.1, by omega⟩
    have hfb : (fr.length : Int) ≤ n := by have := X.P.len; have h2 : out ≤ n := X.P.out1; omega
    refine .here ?_
    refine c.cGet cs.toCsD 1 rfl fun h9 c => ?_
    rw [S0.get (hD 8 (by decide))] at c ⊢
    have S1 := S0.rds 8
    have c : Cx (fun _ => False) h h9 ([rVar ET rt (p37 n, 8)] ++ [rSpace s (σ.rds 8), rSl E2I lv t.ks]) := c
    rw [show m 8 = t.at' from X.rt]
    obtain ⟨F1, c1, _, up⟩ := Cx.frameL (L := [rVar ET rt (p37 n, 8)]) (M := [rSpace s (σ.rds 8), rSl E2I lv t.ks]) c
    refine shp_ cs hn t (fun h' H => H) c1 S1 X.tr X.ho (fun x hx => X.isN hx) (by omega) fun σ2 h10 c2 S2 => ?_
    have c := up c2
    rw [uno_nb, vb_some, Bool.not_true, br_false]
    refine c.cGet cs.toCsD 1 rfl fun h11 c => ?_
    rw [S2.get (hD 15 (by decide))] at c ⊢
    have S3 := S2.rds 15
    rw [show m 15 = (t.sz : Int) from X.n7, (c.sl (i := 2) rfl).sl.ln, hsz, vb_some, neI, vb_some]
    show Br _ _ _
    rw [br_false]
    refine tP (i := 0) c rfl ?_
    rw [vb_some]
    refine c.tfree cs hn S3 X 1 rfl fun σ4 v4 h12 S4 c => ?_
    have c : Cx (fun _ => False) h h12 [rVar ET rt (p37 n, 8), rSpace s σ4, rSl E2I lv t.ks, rSl EI1 v4 (fr.map fun x => (x - 24) / 8)] := c
    rw [e2_0, vb_some, e2_1, vb_some]
    refine .here ?_
    have hfl : ((fr.map fun x => (x - 24) / 8).length : Int) = fr.length := by rw [List.length_map]
    have e3 : m 3 = fr.length := X.P.frE
    have e2 : m 2 = out := X.P.outE
    have hcnt := X.cnt
    rw [eqI, vb_some, br_true, (c.sl (i := 3) rfl).sl.ln, hfl, vb_some]
    refine c.cGet cs.toCsD 1 rfl fun h13 c => ?_
    rw [S4.get (hD 3 (by decide))] at c ⊢
    have S5 := S4.rds 3
    rw [e3, eqI, vb_some, br_true]
    refine c.cGet cs.toCsD 1 rfl fun h14 c => ?_
    rw [S5.get (hD 2 (by decide))] at c ⊢
    rw [vb_some, vb_some, e2]
    refine En.vb (v := .int .i64 out) (by rw [bin_add, wr64 ⟨by omega, by omega⟩]; congr 2; omega) ?_
    rw [eqI, vb_some]
    exact hR _ c.gr
end
end Go.En
namespace Go.En
open Go.ChangeShapes Go.WideShapes Prog Go.Sort
theorem csX4 : CsX4 (Sys.of Go.Proofs.Try.prog) ids := { csX3 with
  shp := fun k => C_simulcastlaw37_shaped k
  hh := csH
  free := fun a b c d k => C_pool_Pool_Free (K_Free csQ a b c d k) }
end Go.En
