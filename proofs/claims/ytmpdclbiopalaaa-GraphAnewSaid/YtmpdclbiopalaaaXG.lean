/-
  The graph in memory: edges cut, a vertex dropped.
  The graph in memory: a vertex dropped; what is read.
  Layer 40: counting edges. No program in sight.
  The graph's programs on arbitrary words; their costs.
-/
import Derived.Test.YtmpdclbiopalaaaXF
namespace Go.En
open Prog Spc

section
variable {D : Int → Prop} {σ0 σ σ' : Spc} {m m' : Int → Int} {c c' : Nat} {α β : Type} {Q : α → Spc → Prop} {p : Pl} {fr : List Int} {out root v w n hd nx pv k a b : Int} {V : List (Int × Int)} {E : List Ed}
def rmE (E : List Ed) (n : Int) : List Ed := E.filter fun x => decide (x.id ≠ n)
theorem oL_rm : oL (rmE E n) v = (oL E v).filter fun x => decide (x ≠ n) := by
  unfold oL rmE
  rw [List.filter_map, List.filter_filter, List.filter_filter]
  congr 1
  refine List.filter_congr fun x _ => ?_
  rw [Bool.and_comm]; rfl
theorem iL_rm : iL (rmE E n) v = (iL E v).filter fun x => decide (x ≠ n) := by
  unfold iL rmE
  rw [List.filter_map, List.filter_filter, List.filter_filter]
  congr 1
  refine List.filter_congr fun x _ => ?_
  rw [Bool.and_comm]; rfl
theorem eI_rm : eI (rmE E n) = (eI E).filter fun x => decide (x ≠ n) := by
  unfold rmE
  rw [List.filter_map]; rfl
theorem filter_mid {l1 l2 : List Int} (h : (l1 ++ n :: l2).Nodup) : (l1 ++ n :: l2).filter (fun x => decide (x ≠ n)) = l1 ++ l2 := by
  rw [List.nodup_append] at h
  obtain ⟨_, h2, h3⟩ := h
  rw [List.nodup_cons] at h2
  rw [List.filter_append, List.filter_cons_of_neg (by simp), List.filter_eq_self.2 (fun x hx => by simpa using h3 x hx n (List.mem_cons_self ..)), List.filter_eq_self.2 fun x hx => by simpa using fun e : x = n => h2.1 (e ▸ hx)]
theorem filter_no {l : List Int} (h : n ∉ l) : l.filter (fun x => decide (x ≠ n)) = l := List.filter_eq_self.2 fun x hx => by simpa using fun e : x = n => h (e ▸ hx)
theorem rmE_mem {x : Ed} : x ∈ rmE E n ↔ x ∈ E ∧ x.id ≠ n := by unfold rmE; simp
theorem eI_rm_mem {x : Int} : x ∈ eI (rmE E n) ↔ x ∈ eI E ∧ x ≠ n := by rw [eI_rm]; simp
theorem rmE_len (h : (eI E).Nodup) (hn : n ∈ eI E) : (rmE E n).length + 1 = E.length := by
  obtain ⟨l1, l2, e⟩ := List.append_of_mem hn
  have h1 : (eI (rmE E n)).length = (rmE E n).length := List.length_map _
  have h2 : (eI E).length = E.length := List.length_map _
  rw [eI_rm, e, filter_mid (e ▸ h), List.length_append] at h1
  rw [e, List.length_append, List.length_cons] at h2
  omega
theorem mid_mem {l1 l2 : List Int} {x : Int} (hx : x ∈ l1 ++ l2) : x ∈ l1 ++ n :: l2 := by
  rcases List.mem_append.1 hx with h | h
  · exact List.mem_append_left _ h
  · exact List.mem_append_right _ (List.mem_cons_of_mem _ h)

theorem wp_cutI {q : Int → Prog α} (G : GS D p root) (S : Sm D σ0 σ m c) (X : GRep p root m V E fr out) {e : Ed} (he : e ∈ E) (hl : σ0.pu.length + c + 20 ≤ big)
    (h : ∀ σ' m', Sm D σ0 σ' m' (c + 11) → GRep p root m' V (rmE E e.id) (e.id :: fr) out → wp (q 0) σ' Q) : wp (gCutI p root e.id >>= q) σ Q := by
  have g := X.P.good
  have g1 := g.f1; have g2 := g.f2; have g3 := g.n1; have g4 := g.r0
  obtain ⟨ra, rb⟩ := G.A
  obtain ⟨c1, c2, c3, c4⟩ := X.ec e he
  obtain ⟨hfa, hfb⟩ := X.fv e he
  have hnE : e.id ∈ eI E := List.mem_map_of_mem (f := (·.id)) he
  have hnN := X.eN hnE
  have hp1 := X.P.out1
  generalize hn : e.id = n at *
  generalize ha : e.f = a at *
  generalize hb : e.t = b at *
  have haN := X.vN hfa
  have hbN := X.vN hfb
  have hnV : n ∉ vI V := fun h => X.apart h hnE rfl
  obtain ⟨⟨j, j0, j1, ej⟩, hnf⟩ := X.hl n (List.mem_append_right _ hnE)
  have hidx : ∀ x ∈ vI V ++ eI E, ∃ i, 0 ≤ i ∧ i < p.nodes ∧ (x ≠ n → i ≠ j) ∧ x = p.frm + 8 * i := fun x hx => by
    obtain ⟨i, i0, i1, e⟩ := X.isN hx
    exact ⟨i, i0, i1, fun hne h => hne (by rw [ej, ← h, ← e]), e⟩
  have hoE : ∀ x ∈ oL E a, x ∈ eI E := fun x hx => oL_sub.subset hx
  have hiE : ∀ x ∈ iL E b, x ∈ eI E := fun x hx => iL_sub.subset hx
  obtain ⟨ja, ja0, ja1, jaj, eja⟩ := hidx a (List.mem_append_left _ hfa)
  obtain ⟨jb, jb0, jb1, jbj, ejb⟩ := hidx b (List.mem_append_left _ hfb)
  have jaj := jaj (fun h => hnV (h ▸ hfa))
  have jbj := jbj (fun h => hnV (h ▸ hfb))
  have hno : n ∈ oL E a := oL_mem.2 ⟨e, he, ha, hn⟩
  have hni : n ∈ iL E b := iL_mem.2 ⟨e, he, hb, hn⟩
  obtain ⟨l1, l2, el⟩ := List.append_of_mem hno
  obtain ⟨k1, k2, ek⟩ := List.append_of_mem hni
  have hlo : ∀ x ∈ l1 ++ l2, x ∈ oL E a := fun x hx => by rw [el]; exact mid_mem hx
  have hki : ∀ x ∈ k1 ++ k2, x ∈ iL E b := fun x hx => by rw [ek]; exact mid_mem hx
  have hndo : (oL E a).Nodup := X.ndE.sublist oL_sub
  have hndi : (iL E b).Nodup := X.ndE.sublist iL_sub
  unfold gCutI
  rw [wp_bind]
  refine wp_get S (G.dp.n n hnN 1 (by omega) (by omega)) fun σ1 S => ?_
  refine wp_get S (G.dp.n n hnN 2 (by omega) (by omega)) fun σ1 S => ?_
  rw [c2, c3, if_pos ⟨isN_node g haN, isN_node g hbN⟩]
  have Lo := X.vo a hfa
  rw [el] at Lo
  have A1 : LA p (a + 4) 4 5 (l1 ++ n :: l2) := by
    rw [← el]
    refine ⟨by omega, by omega, by omega, fun x hx => X.eN (hoE x hx), fun x hx => ?_⟩
    obtain ⟨k, k0, k1, kj, e⟩ := hidx x (List.mem_append_right _ (hoE x hx))
    have := X.apart hfa (hoE x hx)
    omega
  refine wp_unl S g G.dp (G.dp.n a haN 4 (by omega) (by omega)) Lo A1 (el ▸ hndo) (by omega) fun σ2 m1 S L1 hf1 => ?_
  rw [if_neg (by simp)]
  have hm1 : ∀ x ∈ vI V ++ eI E, ∀ i, 0 ≤ i → i ≤ 7 → (x = a → i ≠ 4) → (x ∈ oL E a → i ≠ 4 ∧ i ≠ 5) → m1 (x + i) = m (x + i) := fun x hx i i0 i1 h1 h2 => by
    obtain ⟨k, k0, k1, kj, e⟩ := hidx x hx
    refine hf1 _ (fun h => ?_) (fun y hy => ?_)
    · have : x = a := by omega
      have := h1 this; omega
    · obtain ⟨k', k0', k1', kj', e'⟩ := hidx y (List.mem_append_right _ (hoE y (hlo y hy)))
      by_cases hxy : x = y
      · have := h2 (hxy ▸ hlo y hy); omega
      · omega
  have Li : DL m1 (b + 5) 6 7 (k1 ++ n :: k2) := by
    rw [← ek]
    refine (X.vi b hfb).ext (hm1 b (List.mem_append_left _ hfb) 5 (by omega) (by omega) (fun _ => by omega) fun h => absurd rfl (X.apart hfb (hoE b h))) fun x hx => ?_
    have hxa : x ≠ a := fun h => X.apart hfa (hiE x hx) h.symm
    exact ⟨hm1 x (List.mem_append_right _ (hiE x hx)) 6 (by omega) (by omega) (fun h => absurd h hxa) fun _ => by omega, hm1 x (List.mem_append_right _ (hiE x hx)) 7 (by omega) (by omega) (fun h => absurd h hxa) fun _ => by omega⟩
  have A2 : LA p (b + 5) 6 7 (k1 ++ n :: k2) := by
    rw [← ek]
    refine ⟨by omega, by omega, by omega, fun x hx => X.eN (hiE x hx), fun x hx => ?_⟩
    obtain ⟨k, k0, k1, kj, e⟩ := hidx x (List.mem_append_right _ (hiE x hx))
    have := X.apart hfb (hiE x hx)
    omega
  refine wp_unl S g G.dp (G.dp.n b hbN 5 (by omega) (by omega)) Li A2 (ek ▸ hndi) (by omega) fun σ3 m2 S L2 hf2 => ?_
  rw [if_neg (by simp)]
  unfold gCutU
  refine wp_more S (G.dp.n a haN 6 (by omega) (by omega)) (by omega) fun σ5 S => ?_
  generalize w64 (m2 (a + 6) + -1) = x1 at S
  refine wp_more S (G.dp.n b hbN 7 (by omega) (by omega)) (by omega) fun σ5 S => ?_
  generalize w64 (upd m2 (a + 6) x1 (b + 7) + -1) = x2 at S
  refine wp_more S (G.R 2 (by omega) (by omega)) (by omega) fun σ5 S => ?_
  refine wp_more S (G.R 7 (by omega) (by omega)) (by omega) fun σ5 S => ?_
  have hVl := X.lenB
  have hlen := rmE_len X.ndE hnE
  have hr2 : ∀ i, 0 ≤ i → i ≤ 7 → m2 (root + i) = m (root + i) := fun i i0 i1 => by
    rw [hf2 _ (by omega) (fun y hy => ?_), hf1 _ (by omega) fun y hy => ?_]
    · obtain ⟨k', k0', k1', kj', e'⟩ := hidx y (List.mem_append_right _ (hoE y (hlo y hy))); omega
    · obtain ⟨k', k0', k1', kj', e'⟩ := hidx y (List.mem_append_right _ (hiE y (hki y hy))); omega
  have e2 : w64 (upd (upd m2 (a + 6) x1) (b + 7) x2 (root + 2) + -1) = ((rmE E n).length : Int) := by
    rw [upd_ne _ _ (by omega), upd_ne _ _ (by omega), hr2 2 (by omega) (by omega), X.n2, w64_R ⟨by omega, by omega⟩]; omega
  rw [e2] at S
  have e7 : w64 (upd (upd (upd m2 (a + 6) x1) (b + 7) x2) (root + 2) ((rmE E n).length : Int) (root + 7) + -1) = (V.length : Int) + (rmE E n).length := by
    rw [upd_ne _ _ (by omega), upd_ne _ _ (by omega), upd_ne _ _ (by omega), hr2 7 (by omega) (by omega), X.n7, w64_R ⟨by omega, by omega⟩]; omega
  rw [e7] at S
  have at3 : ∀ x, upd (upd (upd (upd m2 (a + 6) x1) (b + 7) x2) (root + 2) ((rmE E n).length : Int)) (root + 7) ((V.length : Int) + (rmE E n).length) x = if x = root + 7 then (V.length : Int) + (rmE E n).length else if x = root + 2 then ((rmE E n).length : Int) else if x = b + 7 then x2 else if x = a + 6 then x1 else m2 x := fun x => rfl
  generalize upd (upd (upd (upd m2 (a + 6) x1) (b + 7) x2) (root + 2) ((rmE E n).length : Int)) (root + 7) ((V.length : Int) + (rmE E n).length) = m3 at *
  have hf3 : ∀ x, (∀ i, 0 ≤ i → i ≤ 7 → x ≠ root + i) → x ≠ a + 6 → x ≠ b + 7 → m3 x = m2 x := fun x h1 h2 h3 => by
    rw [at3, if_neg (h1 7 (by omega) (by omega)), if_neg (h1 2 (by omega) (by omega)), if_neg h3, if_neg h2]
  have hoff : ∀ x, (∀ i, 0 ≤ i → i ≤ 7 → x ≠ root + i) → (∀ y ∈ vI V ++ eI E, ∀ i, 0 ≤ i → i ≤ 7 → x ≠ y + i) → m3 x = m x := fun x h1 hnd => by
    have hA := hnd a (List.mem_append_left _ hfa)
    have hB := hnd b (List.mem_append_left _ hfb)
    rw [hf3 x h1 (hA 6 (by omega) (by omega)) (hB 7 (by omega) (by omega)), hf2 x (hB 5 (by omega) (by omega)) (fun y hy => ?_), hf1 x (hA 4 (by omega) (by omega)) fun y hy => ?_]
    · have hy' := List.mem_append_right (vI V) (hoE y (hlo y hy))
      exact ⟨hnd y hy' 4 (by omega) (by omega), hnd y hy' 5 (by omega) (by omega)⟩
    · have hy' := List.mem_append_right (vI V) (hiE y (hki y hy))
      exact ⟨hnd y hy' 6 (by omega) (by omega), hnd y hy' 7 (by omega) (by omega)⟩
  have P3 : PoolR m3 p fr out := X.P.ext fun x hx => by
    refine hoff x (fun i i0 i1 => ?_) fun y hy i i0 i1 => ?_
    · rcases hx with h | h | h | h
      · omega
      · omega
      · omega
      · obtain ⟨k, k0, k1, e⟩ := X.P.fN x h; omega
    · obtain ⟨⟨k, k0, k1, e⟩, hyf⟩ := X.hl y hy
      rcases hx with h | h | h | h
      · omega
      · omega
      · omega
      · obtain ⟨k', k0', k1', e'⟩ := X.P.fN x h
        intro h2
        have : k = k' := by omega
        exact hyf (by rw [e, this, ← e']; exact h)
  show wp (pGive p n) σ5 fun a σ' => wp (q a) σ' Q
  rw [← wp_bind]
  refine wp_give S P3 G.dp (by omega) ej ⟨j0, j1⟩ hnf fun σ6 m4 S P4 hf4 => ?_
  refine h σ6 m4 S ?_
  have hxo : ∀ x ∈ vI V ++ eI E, x ≠ n → ∀ i, 0 ≤ i → i ≤ 7 → (x ∈ vI V → i ≠ 6 ∧ i ≠ 7 ∧ (x = a → i ≠ 4) ∧ (x = b → i ≠ 5)) → (x ∈ oL E a → i ≠ 4 ∧ i ≠ 5) → (x ∈ iL E b → i ≠ 6 ∧ i ≠ 7) → m4 (x + i) = m (x + i) := fun x hx hxn i i0 i1 h1 h2 h3 => by
    obtain ⟨k, k0, k1, kj, e⟩ := hidx x hx
    have kj := kj hxn
    rw [hf4 _ (by omega) (by omega) (by omega), hf3 _ (fun i' _ _ => by omega) (fun h => ?_) (fun h => ?_), hf2 _ (fun h => ?_) (fun y hy => ?_), hm1 x hx i i0 i1 (fun h => ?_) h2]
    · subst h; exact (h1 hfa).2.2.1 rfl
    · have hxb : x = b := by omega
      subst hxb; have := (h1 hfb).2.2.2 rfl; omega
    · obtain ⟨k', k0', k1', kj', e'⟩ := hidx y (List.mem_append_right _ (hiE y (hki y hy)))
      by_cases hxy : x = y
      · have := h3 (hxy ▸ hki y hy); omega
      · omega
    · have hxa : x = a := by omega
      subst hxa; have := (h1 hfa).1; omega
    · have hxb : x = b := by omega
      subst hxb; have := (h1 hfb).2.1; omega
  have hsub : ∀ x ∈ vI V ++ eI (rmE E n), x ∈ vI V ++ eI E ∧ x ≠ n := fun x hx => by
    rcases List.mem_append.1 hx with h | h
    · exact ⟨List.mem_append_left _ h, fun e => hnV (e ▸ h)⟩
    · have := eI_rm_mem.1 h
      exact ⟨List.mem_append_right _ this.1, this.2⟩
  have hVe : ∀ x ∈ vI V, x ∉ oL E a ∧ x ∉ iL E b ∧ x ≠ n := fun x hx => ⟨fun h => X.apart hx (hoE x h) rfl, fun h => X.apart hx (hiE x h) rfl, fun h => hnV (h ▸ hx)⟩
  have hroot : ∀ i, 0 ≤ i → i ≤ 7 → m4 (root + i) = m3 (root + i) := fun i i0 i1 => hf4 _ (by omega) (by omega) (by omega)
  refine ⟨P4, ?_, ?_, ?_, ?_, ?_, ?_, ?_, ?_, ?_, ?_, ?_, ?_, ?_, ?_⟩
  · refine X.nd.sublist (List.Sublist.append_left ?_ _)
    rw [eI_rm]; exact List.filter_sublist
  · intro x hx
    obtain ⟨h1, h2⟩ := hsub x hx
    refine ⟨(X.hl x h1).1, fun h => ?_⟩
    rcases List.mem_cons.1 h with h | h
    · exact h2 h
    · exact (X.hl x h1).2 h
  · intro i i0 i1
    rcases X.cov i i0 i1 with h | h
    · by_cases hx : p.frm + 8 * i = n
      · exact .inr (by rw [hx]; exact List.mem_cons_self ..)
      · refine .inl ?_
        rcases List.mem_append.1 h with h | h
        · exact List.mem_append_left _ h
        · exact List.mem_append_right _ (eI_rm_mem.2 ⟨h, hx⟩)
    · exact .inr (List.mem_cons_of_mem _ h)
  · intro i i0 i1
    rw [hf4 _ (by omega) (by omega) (by omega), hoff _ (fun i' _ _ => by omega) fun y hy i' _ _ => ?_]
    · exact X.new i i0 i1
    · obtain ⟨⟨k, k0, k1, e⟩, hyf⟩ := X.hl y hy
      omega
  · have := X.cnt
    simp only [List.length_cons]
    omega
  · exact fun x hx => X.fv x (rmE_mem.1 hx).1
  · have h0 : m4 root = m root := by
      have h1 := hroot 0 (by omega) (by omega)
      have h2 := hr2 0 (by omega) (by omega)
      rw [Int.add_zero] at h1 h2
      rw [h1, at3, if_neg (by omega), if_neg (by omega), if_neg (by omega), if_neg (by omega)]
      exact h2
    exact X.vs.ext h0 fun x hx => ⟨hxo x (List.mem_append_left _ hx) (hVe x hx).2.2 2 (by omega) (by omega) (fun _ => by omega) (fun h => absurd h (hVe x hx).1) fun h => absurd h (hVe x hx).2.1,
      hxo x (List.mem_append_left _ hx) (hVe x hx).2.2 3 (by omega) (by omega) (fun _ => by omega) (fun h => absurd h (hVe x hx).1) fun h => absurd h (hVe x hx).2.1⟩
  · intro x hx
    have hxV := List.mem_map_of_mem (f := (·.1)) hx
    have hm := List.mem_append_left (eI E) hxV
    obtain ⟨q1, q2, q3⟩ := hVe x.1 hxV
    have h0 := hxo x.1 hm q3 0 (by omega) (by omega) (fun _ => by omega) (fun h => absurd h q1) fun h => absurd h q2
    rw [Int.add_zero] at h0
    exact ⟨h0.trans (X.vm x hx).1, (hxo x.1 hm q3 1 (by omega) (by omega) (fun _ => by omega) (fun h => absurd h q1) fun h => absurd h q2).trans (X.vm x hx).2⟩
  · intro x hx
    obtain ⟨q1, q2, q3⟩ := hVe x hx
    rw [oL_rm]
    by_cases hxa : x = a
    · rw [hxa, el, filter_mid (el ▸ hndo)]
      have hk : ∀ y ∈ l1 ++ l2, ∃ k, 0 ≤ k ∧ y = p.frm + 8 * k ∧ k ≠ ja ∧ k ≠ jb ∧ k ≠ j := fun y hy => by
        obtain ⟨k', k0', k1', kj', e'⟩ := hidx y (List.mem_append_right _ (hoE y (hlo y hy)))
        have h1 := X.apart hfa (hoE y (hlo y hy)); have h2 := X.apart hfb (hoE y (hlo y hy))
        have hyn : y ≠ n := fun e => by
          have hnd := el ▸ hndo
          rw [List.nodup_append] at hnd
          obtain ⟨_, d2, d3⟩ := hnd
          rcases List.mem_append.1 hy with h | h
          · exact d3 y h n (List.mem_cons_self ..) e
          · exact (List.nodup_cons.1 d2).1 (e ▸ h)
        exact ⟨k', k0', e', by omega, by omega, kj' hyn⟩
      have hk4 : ∀ z ∈ k1 ++ k2, ∃ k, z = p.frm + 8 * k := fun z hz => by
        obtain ⟨k', k0', k1', kj', e'⟩ := hidx z (List.mem_append_right _ (hiE z (hki z hz))); exact ⟨k', e'⟩
      refine L1.ext ?_ fun y hy => ?_
      · rw [hf4 _ (by omega) (by omega) (by omega), hf3 _ (fun i' _ _ => by omega) (by omega) (by omega), hf2 _ (by omega) fun z hz => ?_]
        obtain ⟨k', e'⟩ := hk4 z hz
        omega
      · obtain ⟨k, k0, e, ka, kb, kj⟩ := hk y hy
        refine ⟨?_, ?_⟩
        · rw [hf4 _ (by omega) (by omega) (by omega), hf3 _ (fun i' _ _ => by omega) (by omega) (by omega), hf2 _ (by omega) fun z hz => ?_]
          obtain ⟨k', e'⟩ := hk4 z hz
          omega
        · rw [hf4 _ (by omega) (by omega) (by omega), hf3 _ (fun i' _ _ => by omega) (by omega) (by omega), hf2 _ (by omega) fun z hz => ?_]
          obtain ⟨k', e'⟩ := hk4 z hz
          omega
    · have hdis : ∀ y ∈ oL E x, y ∉ oL E a := fun y hy h => by
        obtain ⟨e1, h1, h2, h3⟩ := oL_mem.1 hy
        obtain ⟨e2, h4, h5, h6⟩ := oL_mem.1 h
        have : e1 = e2 := nodup_inj X.ndE h1 h4 (h3.trans h6.symm)
        subst this
        exact hxa (h2.symm.trans h5)
      have hnx : n ∉ oL E x := fun h => hdis n h hno
      rw [filter_no hnx]
      refine (X.vo x hx).ext (hxo x (List.mem_append_left _ hx) q3 4 (by omega) (by omega) (fun _ => ⟨by omega, by omega, fun h => absurd h hxa, fun _ => by omega⟩) (fun h => absurd h q1) fun h => absurd h q2) fun y hy => ?_
      have hyE : y ∈ eI E := oL_sub.subset hy
      have hyV : y ∉ vI V := fun h => X.apart h hyE rfl
      have hyn : y ≠ n := fun e => hnx (e ▸ hy)
      exact ⟨hxo y (List.mem_append_right _ hyE) hyn 4 (by omega) (by omega) (fun h => absurd h hyV) (fun h => absurd h (hdis y hy)) fun _ => by omega, hxo y (List.mem_append_right _ hyE) hyn 5 (by omega) (by omega) (fun h => absurd h hyV) (fun h => absurd h (hdis y hy)) fun _ => by omega⟩
  · intro x hx
    obtain ⟨q1, q2, q3⟩ := hVe x hx
    rw [iL_rm]
    by_cases hxb : x = b
    · rw [hxb, ek, filter_mid (ek ▸ hndi)]
      refine L2.ext ?_ fun y hy => ?_
      · rw [hf4 _ (by omega) (by omega) (by omega), hf3 _ (fun i' _ _ => by omega) (by omega) (by omega)]
      · obtain ⟨k', k0', k1', kj', e'⟩ := hidx y (List.mem_append_right _ (hiE y (hki y hy)))
        have h1 := X.apart hfa (hiE y (hki y hy)); have h2 := X.apart hfb (hiE y (hki y hy))
        have hyn : y ≠ n := fun e => by
          have hnd := ek ▸ hndi
          rw [List.nodup_append] at hnd
          obtain ⟨_, d2, d3⟩ := hnd
          rcases List.mem_append.1 hy with h | h
          · exact d3 y h n (List.mem_cons_self ..) e
          · exact (List.nodup_cons.1 d2).1 (e ▸ h)
        have kj := kj' hyn
        exact ⟨by rw [hf4 _ (by omega) (by omega) (by omega), hf3 _ (fun i' _ _ => by omega) (by omega) (by omega)], by rw [hf4 _ (by omega) (by omega) (by omega), hf3 _ (fun i' _ _ => by omega) (by omega) (by omega)]⟩
    · have hdis : ∀ y ∈ iL E x, y ∉ iL E b := fun y hy h => by
        obtain ⟨e1, h1, h2, h3⟩ := iL_mem.1 hy
        obtain ⟨e2, h4, h5, h6⟩ := iL_mem.1 h
        have : e1 = e2 := nodup_inj X.ndE h1 h4 (h3.trans h6.symm)
        subst this
        exact hxb (h2.symm.trans h5)
      have hnx : n ∉ iL E x := fun h => hdis n h hni
      rw [filter_no hnx]
      refine (X.vi x hx).ext (hxo x (List.mem_append_left _ hx) q3 5 (by omega) (by omega) (fun _ => ⟨by omega, by omega, fun _ => by omega, fun h => absurd h hxb⟩) (fun h => absurd h q1) fun h => absurd h q2) fun y hy => ?_
      have hyE : y ∈ eI E := iL_sub.subset hy
      have hyV : y ∉ vI V := fun h => X.apart h hyE rfl
      have hyn : y ≠ n := fun e => hnx (e ▸ hy)
      exact ⟨hxo y (List.mem_append_right _ hyE) hyn 6 (by omega) (by omega) (fun h => absurd h hyV) (fun _ => by omega) fun h => absurd h (hdis y hy), hxo y (List.mem_append_right _ hyE) hyn 7 (by omega) (by omega) (fun h => absurd h hyV) (fun _ => by omega) fun h => absurd h (hdis y hy)⟩
  · intro x hx
    obtain ⟨hx, hxn⟩ := rmE_mem.1 hx
    have hm := List.mem_append_right (vI V) (List.mem_map_of_mem (f := (·.id)) hx)
    have hyV : x.id ∉ vI V := fun h => X.apart h (List.mem_map_of_mem (f := (·.id)) hx) rfl
    obtain ⟨h1, h2, h3, h4⟩ := X.ec x hx
    have hh : ∀ i, 0 ≤ i → i ≤ 3 → m4 (x.id + i) = m (x.id + i) := fun i i0 i1 => hxo x.id hm hxn i i0 (by omega) (fun h => absurd h hyV) (fun _ => by omega) fun _ => by omega
    have h0 := hh 0 (by omega) (by omega)
    rw [Int.add_zero] at h0
    exact ⟨h0.trans h1, (hh 1 (by omega) (by omega)).trans h2, (hh 2 (by omega) (by omega)).trans h3, (hh 3 (by omega) (by omega)).trans h4⟩
  · rw [hroot 1 (by omega) (by omega), at3, if_neg (by omega), if_neg (by omega), if_neg (by omega), if_neg (by omega), hr2 1 (by omega) (by omega)]; exact X.n1
  · rw [hroot 2 (by omega) (by omega), at3, if_neg (by omega), if_pos rfl]
  · rw [hroot 7 (by omega) (by omega), at3, if_pos rfl]
end
end Go.En
namespace Go.En
open Prog Spc

section
variable {D : Int → Prop} {σ0 σ σ' : Spc} {m m' : Int → Int} {c c' : Nat} {α β : Type} {Q : α → Spc → Prop} {p : Pl} {fr : List Int} {out root v w n hd nx pv k a b : Int} {V : List (Int × Int)} {E : List Ed}
def noF (E : List Ed) (n : Int) : List Ed := E.filter fun e => decide (e.f ≠ n)
def noT (E : List Ed) (n : Int) : List Ed := E.filter fun e => decide (e.t ≠ n)
def rmG (E : List Ed) (n : Int) : List Ed := E.filter fun e => decide (e.f ≠ n) && decide (e.t ≠ n)
def rmV (V : List (Int × Int)) (n : Int) : List (Int × Int) := V.filter fun x => decide (x.1 ≠ n)
theorem noT_noF : noT (noF E n) n = rmG E n := by
  unfold noT noF rmG
  rw [List.filter_filter]
  exact List.filter_congr fun x _ => by rw [Bool.and_comm]
theorem noF_rm (h : ∀ x ∈ E, x.id = n → x.f = v) : noF (rmE E n) v = noF E v := by
  unfold noF rmE
  rw [List.filter_filter]
  refine List.filter_congr fun x hx => ?_
  by_cases hv : x.f = v
  · simp [hv]
  · have : x.id ≠ n := fun e => hv (h x hx e)
    simp [hv, this]
theorem noT_rm (h : ∀ x ∈ E, x.id = n → x.t = v) : noT (rmE E n) v = noT E v := by
  unfold noT rmE
  rw [List.filter_filter]
  refine List.filter_congr fun x hx => ?_
  by_cases hv : x.t = v
  · simp [hv]
  · have : x.id ≠ n := fun e => hv (h x hx e)
    simp [hv, this]
theorem noF_self (h : oL E v = []) : noF E v = E := by
  unfold noF
  refine List.filter_eq_self.2 fun x hx => ?_
  have : x.f ≠ v := fun e => by
    have := oL_mem.2 ⟨x, hx, e, rfl⟩
    rw [h] at this; cases this
  simpa using this
theorem noT_self (h : iL E v = []) : noT E v = E := by
  unfold noT
  refine List.filter_eq_self.2 fun x hx => ?_
  have : x.t ≠ v := fun e => by
    have := iL_mem.2 ⟨x, hx, e, rfl⟩
    rw [h] at this; cases this
  simpa using this
theorem wp_empO {q : Int → Prog α} (G : GS D p root) (hv : v ∈ vI V) : ∀ (k : Nat) {E : List Ed} {fr : List Int} {σ : Spc} {m : Int → Int} {c : Nat}, Sm D σ0 σ m c → GRep p root m V E fr out → (oL E v).length ≤ k → σ0.pu.length + c + 11 * k + 20 ≤ big →
    (∀ σ' m' fr', Sm D σ0 σ' m' (c + 11 * k) → GRep p root m' V (noF E v) fr' out → wp (q 0) σ' Q) → wp (gEmp p root (v + 4) k >>= q) σ Q := by
  intro k
  induction k with
  | zero =>
    intro E fr σ m c S X hl hb h
    have hnil : oL E v = [] := List.eq_nil_of_length_eq_zero (by omega)
    have hvN := X.vN hv
    unfold gEmp
    rw [wp_bind]
    refine wp_get S (G.dp.n v hvN 4 (by omega) (by omega)) fun σ1 S => ?_
    have L := X.vo v hv
    rw [hnil] at L
    have e0 : m (v + 4) = 0 := L
    rw [e0, if_pos rfl]
    exact h σ1 m fr (S.mono (by omega)) (by rw [noF_self hnil]; exact X)
  | succ k ih =>
    intro E fr σ m c S X hl hb h
    have hvN := X.vN hv
    have L := X.vo v hv
    unfold gEmp
    rw [wp_bind]
    refine wp_get S (G.dp.n v hvN 4 (by omega) (by omega)) fun σ1 S => ?_
    cases ho : oL E v with
    | nil =>
      rw [ho] at L
      have e0 : m (v + 4) = 0 := L
      rw [e0, if_pos rfl]
      exact h σ1 m fr (S.mono (by omega)) (by rw [noF_self ho]; exact X)
    | cons n t =>
      rw [ho] at L hl
      have e0 : m (v + 4) = n := L.1
      obtain ⟨e, he, hef, hen⟩ := oL_mem.1 (show n ∈ oL E v by rw [ho]; exact List.mem_cons_self ..)
      have hnE : n ∈ eI E := hen ▸ List.mem_map_of_mem (f := (·.id)) he
      have hnN := X.eN hnE
      have := isN_pos X.P.good hnN
      rw [e0, if_neg (show ¬ n = 0 by omega), if_pos (isN_node X.P.good hnN)]
      have hnd : (n :: t).Nodup := ho ▸ X.ndE.sublist oL_sub
      have ht : oL (rmE E n) v = t := by rw [oL_rm, ho]; exact filter_mid (l1 := []) hnd
      have hF : noF (rmE E n) v = noF E v := noF_rm fun x hx hxn => by
        have : x = e := nodup_inj X.ndE hx he (hxn.trans hen.symm)
        rw [this]; exact hef
      rw [← hen]
      refine wp_cutI G S X he (by omega) fun σ2 m2 S X2 => ?_
      rw [if_neg (by simp), ← wp_bind]
      rw [hen] at X2
      refine ih S X2 (by rw [ht]; simpa using hl) (by omega) fun σ3 m3 fr3 S X3 => ?_
      rw [hF] at X3
      exact h σ3 m3 fr3 (S.mono (by omega)) X3
theorem wp_empI {q : Int → Prog α} (G : GS D p root) (hv : v ∈ vI V) : ∀ (k : Nat) {E : List Ed} {fr : List Int} {σ : Spc} {m : Int → Int} {c : Nat}, Sm D σ0 σ m c → GRep p root m V E fr out → (iL E v).length ≤ k → σ0.pu.length + c + 11 * k + 20 ≤ big →
    (∀ σ' m' fr', Sm D σ0 σ' m' (c + 11 * k) → GRep p root m' V (noT E v) fr' out → wp (q 0) σ' Q) → wp (gEmp p root (v + 5) k >>= q) σ Q := by
  intro k
  induction k with
  | zero =>
    intro E fr σ m c S X hl hb h
    have hnil : iL E v = [] := List.eq_nil_of_length_eq_zero (by omega)
    have hvN := X.vN hv
    unfold gEmp
    rw [wp_bind]
    refine wp_get S (G.dp.n v hvN 5 (by omega) (by omega)) fun σ1 S => ?_
    have L := X.vi v hv
    rw [hnil] at L
    have e0 : m (v + 5) = 0 := L
    rw [e0, if_pos rfl]
    exact h σ1 m fr (S.mono (by omega)) (by rw [noT_self hnil]; exact X)
  | succ k ih =>
    intro E fr σ m c S X hl hb h
    have hvN := X.vN hv
    have L := X.vi v hv
    unfold gEmp
    rw [wp_bind]
    refine wp_get S (G.dp.n v hvN 5 (by omega) (by omega)) fun σ1 S => ?_
    cases ho : iL E v with
    | nil =>
      rw [ho] at L
      have e0 : m (v + 5) = 0 := L
      rw [e0, if_pos rfl]
      exact h σ1 m fr (S.mono (by omega)) (by rw [noT_self ho]; exact X)
    | cons n t =>
      rw [ho] at L hl
      have e0 : m (v + 5) = n := L.1
      obtain ⟨e, he, hef, hen⟩ := iL_mem.1 (show n ∈ iL E v by rw [ho]; exact List.mem_cons_self ..)
      have hnE : n ∈ eI E := hen ▸ List.mem_map_of_mem (f := (·.id)) he
      have hnN := X.eN hnE
      have := isN_pos X.P.good hnN
      rw [e0, if_neg (show ¬ n = 0 by omega), if_pos (isN_node X.P.good hnN)]
      have hnd : (n :: t).Nodup := ho ▸ X.ndE.sublist iL_sub
      have ht : iL (rmE E n) v = t := by rw [iL_rm, ho]; exact filter_mid (l1 := []) hnd
      have hF : noT (rmE E n) v = noT E v := noT_rm fun x hx hxn => by
        have : x = e := nodup_inj X.ndE hx he (hxn.trans hen.symm)
        rw [this]; exact hef
      rw [← hen]
      refine wp_cutI G S X he (by omega) fun σ2 m2 S X2 => ?_
      rw [if_neg (by simp), ← wp_bind]
      rw [hen] at X2
      refine ih S X2 (by rw [ht]; simpa using hl) (by omega) fun σ3 m3 fr3 S X3 => ?_
      rw [hF] at X3
      exact h σ3 m3 fr3 (S.mono (by omega)) X3
theorem rmV_ids : vI (rmV V n) = (vI V).filter fun x => decide (x ≠ n) := by unfold rmV; rw [List.filter_map]; rfl
theorem rmV_mem {x : Int × Int} : x ∈ rmV V n ↔ x ∈ V ∧ x.1 ≠ n := by unfold rmV; simp
theorem rmV_idm {x : Int} : x ∈ vI (rmV V n) ↔ x ∈ vI V ∧ x ≠ n := by rw [rmV_ids]; simp
theorem rmG_mem {x : Ed} : x ∈ rmG E n ↔ x ∈ E ∧ x.f ≠ n ∧ x.t ≠ n := by unfold rmG; simp
theorem rmV_len (h : (vI V).Nodup) (hn : n ∈ vI V) : (rmV V n).length + 1 = V.length := by
  obtain ⟨l1, l2, e⟩ := List.append_of_mem hn
  have h1 : (vI (rmV V n)).length = (rmV V n).length := List.length_map _
  have h2 : (vI V).length = V.length := List.length_map _
  rw [rmV_ids, e, filter_mid (e ▸ h), List.length_append] at h1
  rw [e, List.length_append, List.length_cons] at h2
  omega
/-- a vertex without edges goes -/
theorem wp_gDropU {lab : Int} (G : GS D p root) (S : Sm D σ0 σ m c) (X : GRep p root m V E fr out) (hn : n ∈ vI V) (hE : ∀ e ∈ E, e.f ≠ n ∧ e.t ≠ n) (hl : σ0.pu.length + c + 20 ≤ big) :
    wp (gDropU p root n lab k) σ fun e σ' => e = (lab, 0) ∧ ∃ m', Sm D σ0 σ' m' (c + 8) ∧ GRep p root m' (rmV V n) E (n :: fr) out := by
  have g := X.P.good
  have g1 := g.f1; have g2 := g.f2; have g3 := g.n1; have g4 := g.r0
  obtain ⟨ra, rb⟩ := G.A
  have hnN := X.vN hn
  have hp1 := X.P.out1
  have hnE : n ∉ eI E := fun h => X.apart hn h rfl
  obtain ⟨⟨j, j0, j1, ej⟩, hnf⟩ := X.hl n (List.mem_append_left _ hn)
  have hidx : ∀ x ∈ vI V ++ eI E, ∃ i, 0 ≤ i ∧ i < p.nodes ∧ (x ≠ n → i ≠ j) ∧ x = p.frm + 8 * i := fun x hx => by
    obtain ⟨i, i0, i1, e⟩ := X.isN hx
    exact ⟨i, i0, i1, fun hne h => hne (by rw [ej, ← h, ← e]), e⟩
  obtain ⟨l1, l2, el⟩ := List.append_of_mem hn
  have hlo : ∀ x ∈ l1 ++ l2, x ∈ vI V := fun x hx => by rw [el]; exact mid_mem hx
  have hnd := X.ndV
  have hR0 := G.R 0 (by omega) (by omega)
  rw [Int.add_zero] at hR0
  have L := X.vs
  rw [el] at L
  have A1 : LA p root 2 3 (l1 ++ n :: l2) := by
    rw [← el]
    refine ⟨by omega, by omega, by omega, fun x hx => X.vN hx, fun x hx => ?_⟩
    obtain ⟨k, k0, k1, kj, e⟩ := hidx x (List.mem_append_left _ hx)
    omega
  unfold gDropU
  refine wp_unl S g G.dp hR0 L A1 (el ▸ hnd) (by omega) fun σ2 m1 S L1 hf1 => ?_
  rw [if_neg (by simp)]
  refine wp_more S (G.R 1 (by omega) (by omega)) (by omega) fun σ5 S => ?_
  refine wp_more S (G.R 7 (by omega) (by omega)) (by omega) fun σ5 S => ?_
  have hVl := X.lenB
  have hlen := rmV_len hnd hn
  have hr1 : ∀ i, 1 ≤ i → i ≤ 7 → m1 (root + i) = m (root + i) := fun i i0 i1 => by
    rw [hf1 _ (by omega) (fun y hy => ?_)]
    obtain ⟨k', k0', k1', kj', e'⟩ := hidx y (List.mem_append_left _ (hlo y hy)); omega
  have e1 : w64 (m1 (root + 1) + -1) = ((rmV V n).length : Int) := by
    rw [hr1 1 (by omega) (by omega), X.n1, w64_R ⟨by omega, by omega⟩]; omega
  rw [e1] at S
  have e7 : w64 (upd m1 (root + 1) ((rmV V n).length : Int) (root + 7) + -1) = ((rmV V n).length : Int) + E.length := by
    rw [upd_ne _ _ (by omega), hr1 7 (by omega) (by omega), X.n7, w64_R ⟨by omega, by omega⟩]; omega
  rw [e7] at S
  have at3 : ∀ x, upd (upd m1 (root + 1) ((rmV V n).length : Int)) (root + 7) (((rmV V n).length : Int) + E.length) x = if x = root + 7 then ((rmV V n).length : Int) + E.length else if x = root + 1 then ((rmV V n).length : Int) else m1 x := fun x => rfl
  generalize upd (upd m1 (root + 1) ((rmV V n).length : Int)) (root + 7) (((rmV V n).length : Int) + E.length) = m3 at *
  have hf3 : ∀ x, (∀ i, 0 ≤ i → i ≤ 7 → x ≠ root + i) → m3 x = m1 x := fun x h1 => by
    rw [at3, if_neg (h1 7 (by omega) (by omega)), if_neg (h1 1 (by omega) (by omega))]
  have hoff : ∀ x, (∀ i, 0 ≤ i → i ≤ 7 → x ≠ root + i) → (∀ y ∈ vI V, x ≠ y + 2 ∧ x ≠ y + 3) → m3 x = m x := fun x h1 hnd => by
    have := h1 0 (by omega) (by omega)
    rw [hf3 x h1, hf1 x (by omega) fun y hy => hnd y (hlo y hy)]
  have P3 : PoolR m3 p fr out := X.P.ext fun x hx => by
    refine hoff x (fun i i0 i1 => ?_) fun y hy => ?_
    · rcases hx with h | h | h | h
      · omega
      · omega
      · omega
      · obtain ⟨k, k0, k1, e⟩ := X.P.fN x h; omega
    · obtain ⟨k, k0, k1, kj, e⟩ := hidx y (List.mem_append_left _ hy)
      rcases hx with h | h | h | h
      · omega
      · omega
      · omega
      · obtain ⟨k', k0', k1', e'⟩ := X.P.fN x h
        omega
  refine wp_give S P3 G.dp (by omega) ej ⟨j0, j1⟩ hnf fun σ6 m4 S P4 hf4 => ?_
  rw [if_neg (by simp)]
  refine wp_un0 ?_
  refine ⟨rfl, m4, S.mono (by omega), ?_⟩
  have hxo : ∀ x ∈ vI V ++ eI E, x ≠ n → ∀ i, 0 ≤ i → i ≤ 7 → (x ∈ vI V → i ≠ 2 ∧ i ≠ 3) → m4 (x + i) = m (x + i) := fun x hx hxn i i0 i1 h1 => by
    obtain ⟨k, k0, k1, kj, e⟩ := hidx x hx
    have kj := kj hxn
    rw [hf4 _ (by omega) (by omega) (by omega), hoff _ (fun i' _ _ => by omega) fun y hy => ?_]
    obtain ⟨k', k0', k1', kj', e'⟩ := hidx y (List.mem_append_left _ hy)
    by_cases hxy : x = y
    · have := h1 (hxy ▸ hy); omega
    · omega
  have hsub : ∀ x ∈ vI (rmV V n) ++ eI E, x ∈ vI V ++ eI E ∧ x ≠ n := fun x hx => by
    rcases List.mem_append.1 hx with h | h
    · have := rmV_idm.1 h
      exact ⟨List.mem_append_left _ this.1, this.2⟩
    · exact ⟨List.mem_append_right _ h, fun e => hnE (e ▸ h)⟩
  have hroot : ∀ i, 0 ≤ i → i ≤ 7 → m4 (root + i) = m3 (root + i) := fun i i0 i1 => hf4 _ (by omega) (by omega) (by omega)
  refine ⟨P4, ?_, ?_, ?_, ?_, ?_, ?_, ?_, ?_, ?_, ?_, ?_, ?_, ?_, ?_⟩
  · refine X.nd.sublist (List.Sublist.append_right ?_ _)
    rw [rmV_ids]; exact List.filter_sublist
  · intro x hx
    obtain ⟨h1, h2⟩ := hsub x hx
    refine ⟨(X.hl x h1).1, fun h => ?_⟩
    rcases List.mem_cons.1 h with h | h
    · exact h2 h
    · exact (X.hl x h1).2 h
  · intro i i0 i1
    rcases X.cov i i0 i1 with h | h
    · by_cases hx : p.frm + 8 * i = n
      · exact .inr (by rw [hx]; exact List.mem_cons_self ..)
      · refine .inl ?_
        rcases List.mem_append.1 h with h | h
        · exact List.mem_append_left _ (rmV_idm.2 ⟨h, hx⟩)
        · exact List.mem_append_right _ h
    · exact .inr (List.mem_cons_of_mem _ h)
  · intro i i0 i1
    rw [hf4 _ (by omega) (by omega) (by omega), hoff _ (fun i' _ _ => by omega) fun y hy => ?_]
    · exact X.new i i0 i1
    · obtain ⟨k', k0', k1', kj', e'⟩ := hidx y (List.mem_append_left _ hy); omega
  · have := X.cnt
    simp only [List.length_cons]
    omega
  · exact fun x hx => ⟨rmV_idm.2 ⟨(X.fv x hx).1, (hE x hx).1⟩, rmV_idm.2 ⟨(X.fv x hx).2, (hE x hx).2⟩⟩
  · rw [rmV_ids, el, filter_mid (el ▸ hnd)]
    have h0 : m4 root = m1 root := by
      have h1 := hroot 0 (by omega) (by omega)
      rw [Int.add_zero] at h1
      rw [h1, at3, if_neg (by omega), if_neg (by omega)]
    refine L1.ext h0 fun y hy => ?_
    obtain ⟨k', k0', k1', kj', e'⟩ := hidx y (List.mem_append_left _ (hlo y hy))
    have hyn : y ≠ n := fun e => by
      have hnd := el ▸ hnd
      rw [List.nodup_append] at hnd
      obtain ⟨_, d2, d3⟩ := hnd
      rcases List.mem_append.1 hy with h | h
      · exact d3 y h n (List.mem_cons_self ..) e
      · exact (List.nodup_cons.1 d2).1 (e ▸ h)
    have kj := kj' hyn
    exact ⟨by rw [hf4 _ (by omega) (by omega) (by omega), hf3 _ (fun i' _ _ => by omega)], by rw [hf4 _ (by omega) (by omega) (by omega), hf3 _ (fun i' _ _ => by omega)]⟩
  · intro x hx
    obtain ⟨hx, hxn⟩ := rmV_mem.1 hx
    have hm := List.mem_append_left (eI E) (List.mem_map_of_mem (f := (·.1)) hx)
    have h0 := hxo x.1 hm hxn 0 (by omega) (by omega) (fun _ => by omega)
    rw [Int.add_zero] at h0
    exact ⟨h0.trans (X.vm x hx).1, (hxo x.1 hm hxn 1 (by omega) (by omega) (fun _ => by omega)).trans (X.vm x hx).2⟩
  · intro x hx
    obtain ⟨hx, hxn⟩ := rmV_idm.1 hx
    refine (X.vo x hx).ext (hxo x (List.mem_append_left _ hx) hxn 4 (by omega) (by omega) (fun _ => by omega)) fun y hy => ?_
    have hyE : y ∈ eI E := oL_sub.subset hy
    have hyV : y ∉ vI V := fun h => X.apart h hyE rfl
    have hyn : y ≠ n := fun e => hnE (e ▸ hyE)
    exact ⟨hxo y (List.mem_append_right _ hyE) hyn 4 (by omega) (by omega) (fun h => absurd h hyV), hxo y (List.mem_append_right _ hyE) hyn 5 (by omega) (by omega) (fun h => absurd h hyV)⟩
  · intro x hx
    obtain ⟨hx, hxn⟩ := rmV_idm.1 hx
    refine (X.vi x hx).ext (hxo x (List.mem_append_left _ hx) hxn 5 (by omega) (by omega) (fun _ => by omega)) fun y hy => ?_
    have hyE : y ∈ eI E := iL_sub.subset hy
    have hyV : y ∉ vI V := fun h => X.apart h hyE rfl
    have hyn : y ≠ n := fun e => hnE (e ▸ hyE)
    exact ⟨hxo y (List.mem_append_right _ hyE) hyn 6 (by omega) (by omega) (fun h => absurd h hyV), hxo y (List.mem_append_right _ hyE) hyn 7 (by omega) (by omega) (fun h => absurd h hyV)⟩
  · intro x hx
    have hxE := List.mem_map_of_mem (f := (·.id)) hx
    have hm := List.mem_append_right (vI V) hxE
    have hyV : x.id ∉ vI V := fun h => X.apart h hxE rfl
    have hxn : x.id ≠ n := fun e => hnE (e ▸ hxE)
    obtain ⟨h1, h2, h3, h4⟩ := X.ec x hx
    have hh : ∀ i, 0 ≤ i → i ≤ 3 → m4 (x.id + i) = m (x.id + i) := fun i i0 i1 => hxo x.id hm hxn i i0 (by omega) (fun h => absurd h hyV)
    have h0 := hh 0 (by omega) (by omega)
    rw [Int.add_zero] at h0
    exact ⟨h0.trans h1, (hh 1 (by omega) (by omega)).trans h2, (hh 2 (by omega) (by omega)).trans h3, (hh 3 (by omega) (by omega)).trans h4⟩
  · rw [hroot 1 (by omega) (by omega), at3, if_neg (by omega), if_pos rfl]
  · rw [hroot 2 (by omega) (by omega), at3, if_neg (by omega), if_neg (by omega), hr1 2 (by omega) (by omega)]; exact X.n2
  · rw [hroot 7 (by omega) (by omega), at3, if_pos rfl]
theorem wp_gDrop (G : GS D p root) (S : Sm D σ σ m 0) (X : GRep p root m V E fr out) (hl : σ.pu.length + 4000 ≤ big) :
    wp (gDrop p root n) σ fun e σ' => (n ∉ vI V ∧ e = (0, 10) ∧ Sm D σ σ' m 3000) ∨ (∃ lab m' fr', (n, lab) ∈ V ∧ e = (lab, 0) ∧ Sm D σ σ' m' 3000 ∧ GRep p root m' (rmV V n) (rmG E n) fr' out) := by
  have g := X.P.good
  have g3 := g.n1
  unfold gDrop
  refine wp_mark ?_
  refine wp_is S G.dp fun σ1 S1 => ?_
  by_cases hn : n ∈ vI V
  rotate_left
  · rw [decide_eq_false (fun h => hn ((X.isV G).1 h)), if_neg (by simp)]
    refine wp_undo S S1 (by decide) fun σ2 S2 => ?_
    exact .inl ⟨hn, rfl, S2.mono (by omega)⟩
  rw [decide_eq_true ((X.isV G).2 hn), if_pos rfl]
  have hnN := X.vN hn
  obtain ⟨x, hx, hxn⟩ := List.mem_map.1 hn
  have hlab : m (n + 1) = x.2 := by rw [← hxn]; exact (X.vm x hx).2
  have hVl := X.lenB
  unfold gDropT
  refine wp_get S1 (G.dp.n n hnN 1 (by omega) (by omega)) fun σ2 S1 => ?_
  rw [hlab]
  have hk : ((p.nodes.toNat + 1 : Nat) : Int) ≤ 129 := by omega
  refine wp_empO G hn _ S1 X (by have := oL_len (E := E) (v := n); omega) (by omega) fun σ3 m3 fr3 S3 X3 => ?_
  rw [if_neg (by simp)]
  have hVl3 := X3.lenB
  refine wp_empI G hn _ S3 X3 (by have := iL_len (E := noF E n) (v := n); omega) (by omega) fun σ4 m4 fr4 S4 X4 => ?_
  rw [if_neg (by simp)]
  rw [noT_noF] at X4
  refine Prog.wp_mono (wp_gDropU (lab := x.2) G S4 X4 hn (fun e he => (rmG_mem.1 he).2) (by omega)) fun e σ5 ⟨h1, m5, S5, X5⟩ => ?_
  exact .inr ⟨x.2, m5, _, by rw [← hxn]; exact hx, h1, S5.mono (by omega), X5⟩

theorem wp_gCut (G : GS D p root) (S : Sm D σ σ m 0) (X : GRep p root m V E fr out) (hl : σ.pu.length + 40 ≤ big) :
    wp (gCut p root n) σ fun e σ' => (n ∉ eI E ∧ e = 10 ∧ Sm D σ σ' m 20) ∨ (n ∈ eI E ∧ e = 0 ∧ ∃ m', Sm D σ σ' m' 20 ∧ GRep p root m' V (rmE E n) (n :: fr) out) := by
  unfold gCut
  refine wp_mark ?_
  refine wp_is S G.dp fun σ1 S1 => ?_
  by_cases hn : n ∈ eI E
  rotate_left
  · rw [decide_eq_false (fun h => hn ((X.isE G).1 h)), if_neg (by simp)]
    refine wp_undo S S1 (by decide) fun σ2 S2 => ?_
    exact .inl ⟨hn, rfl, S2.mono (by omega)⟩
  rw [decide_eq_true ((X.isE G).2 hn), if_pos rfl]
  obtain ⟨e, he, hen⟩ := List.mem_map.1 hn
  subst hen
  refine wp_cutI G S1 X he (by omega) fun σ2 m2 S2 X2 => ?_
  refine wp_un0 ?_
  exact .inr ⟨hn, rfl, m2, S2.mono (by omega), X2⟩

/-! ### What is read -/
def gOut (p : Pl) (root n : Int) := gEdg p root n (w64 (n + 4)) 4 2
def gIn (p : Pl) (root n : Int) := gEdg p root n (w64 (n + 5)) 6 1
def oP (E : List Ed) (v : Int) : List (Int × Int) := (E.filter fun e => decide (e.f = v)).map fun e => (e.t, e.w)
def iP (E : List Ed) (v : Int) : List (Int × Int) := (E.filter fun e => decide (e.t = v)).map fun e => (e.f, e.w)
theorem wp_edgL {whom : Int} (g : p.good) (hD : PoolD D p) (hw : 0 ≤ whom ∧ whom ≤ 7) (hnx : 0 ≤ nx ∧ nx ≤ 7) (f : Ed → Int) : ∀ (es : List Ed) (k : Nat) (pr n : Int) (acc : List (Int × Int)) (σ' : Spc), Sm D σ0 σ' m c → DLf m nx pv pr n (es.map (·.id)) → (∀ e ∈ es, En.isN p e.id ∧ m (e.id + whom) = f e ∧ m (e.id + 3) = e.w) → es.length ≤ k →
    wp (gEdgL p nx whom k n acc) σ' fun r σ2 => r = some (acc ++ es.map fun e => (f e, e.w)) ∧ Sm D σ0 σ2 m c
  | [], k, pr, n, acc, σ', S, h, _, _ => by
    have e : n = 0 := h
    cases k with
    | zero => unfold gEdgL; rw [if_pos e]; exact ⟨by simp, S⟩
    | succ k => unfold gEdgL; rw [if_pos e]; exact ⟨by simp, S⟩
  | x :: es, k, pr, n, acc, σ', S, h, hN, hl => by
    obtain ⟨rfl, _, h⟩ := h
    obtain ⟨hx, hm, hm3⟩ := hN x (List.mem_cons_self ..)
    have hp := isN_pos g hx
    cases k with
    | zero => simp at hl
    | succ k =>
      unfold gEdgL
      rw [if_neg (show ¬ x.id = 0 by omega), if_pos (isN_node g hx)]
      refine wp_get S (hD.n _ hx _ hw.1 hw.2) fun σ1 S => ?_
      refine wp_get S (hD.n _ hx 3 (by omega) (by omega)) fun σ1 S => ?_
      refine wp_get S (hD.n _ hx _ hnx.1 hnx.2) fun σ1 S => ?_
      rw [hm, hm3]
      refine Prog.wp_mono (wp_edgL g hD hw hnx f es k _ _ _ _ S h (fun y hy => hN y (List.mem_cons_of_mem _ hy)) (by simpa using hl)) fun r σ2 ⟨e, S⟩ => ⟨?_, S⟩
      rw [e, List.append_assoc]; rfl
theorem wp_gOut (G : GS D p root) (S : Sm D σ0 σ m c) (X : GRep p root m V E fr out) : wp (gOut p root n) σ fun r σ' => Sm D σ0 σ' m c ∧ (n ∈ vI V ∧ r = (some (oP E n), 0) ∨ n ∉ vI V ∧ r = (none, 10)) := by
  have g := X.P.good
  have g2 := g.f2; have g3 := g.n1
  have hVl := X.lenB
  unfold gOut gEdg
  refine wp_is S G.dp fun σ1 S1 => ?_
  by_cases hn : n ∈ vI V
  · rw [decide_eq_true ((X.isV G).2 hn), if_pos rfl]
    have hnN := X.vN hn
    have := isN_pos g hnN
    rw [w64_R ⟨by omega, by omega⟩]
    refine wp_get S1 (G.dp.n n hnN 4 (by omega) (by omega)) fun σ2 S2 => ?_
    rw [wp_bind]
    have hol := oL_len (E := E) (v := n)
    refine Prog.wp_mono (wp_edgL g G.dp (by omega) (by omega) (fun e => e.t) (E.filter fun e => decide (e.f = n)) _ 0 _ [] _ S2 (X.vo n hn) (fun e he => ?_) (by unfold oL at hol; rw [List.length_map] at hol; omega)) fun r σ3 ⟨e, S3⟩ => ?_
    · have he := (List.mem_filter.1 he).1
      exact ⟨X.eN (List.mem_map_of_mem (f := (·.id)) he), (X.ec e he).2.2.1, (X.ec e he).2.2.2⟩
    · subst e
      exact ⟨S3, .inl ⟨hn, rfl⟩⟩
  · rw [decide_eq_false (fun h => hn ((X.isV G).1 h)), if_neg (by simp)]
    exact ⟨S1, .inr ⟨hn, rfl⟩⟩
theorem wp_gIn (G : GS D p root) (S : Sm D σ0 σ m c) (X : GRep p root m V E fr out) : wp (gIn p root n) σ fun r σ' => Sm D σ0 σ' m c ∧ (n ∈ vI V ∧ r = (some (iP E n), 0) ∨ n ∉ vI V ∧ r = (none, 10)) := by
  have g := X.P.good
  have g2 := g.f2; have g3 := g.n1
  have hVl := X.lenB
  unfold gIn gEdg
  refine wp_is S G.dp fun σ1 S1 => ?_
  by_cases hn : n ∈ vI V
  · rw [decide_eq_true ((X.isV G).2 hn), if_pos rfl]
    have hnN := X.vN hn
    have := isN_pos g hnN
    rw [w64_R ⟨by omega, by omega⟩]
    refine wp_get S1 (G.dp.n n hnN 5 (by omega) (by omega)) fun σ2 S2 => ?_
    rw [wp_bind]
    have hol := iL_len (E := E) (v := n)
    refine Prog.wp_mono (wp_edgL g G.dp (by omega) (by omega) (fun e => e.f) (E.filter fun e => decide (e.t = n)) _ 0 _ [] _ S2 (X.vi n hn) (fun e he => ?_) (by unfold iL at hol; rw [List.length_map] at hol; omega)) fun r σ3 ⟨e, S3⟩ => ?_
    · have he := (List.mem_filter.1 he).1
      exact ⟨X.eN (List.mem_map_of_mem (f := (·.id)) he), (X.ec e he).2.1, (X.ec e he).2.2.2⟩
    · subst e
      exact ⟨S3, .inl ⟨hn, rfl⟩⟩
  · rw [decide_eq_false (fun h => hn ((X.isV G).1 h)), if_neg (by simp)]
    exact ⟨S1, .inr ⟨hn, rfl⟩⟩
theorem wp_gLab (G : GS D p root) (S : Sm D σ0 σ m c) (X : GRep p root m V E fr out) : wp (gLab p root n) σ fun r σ' => Sm D σ0 σ' m c ∧ ((∃ lab, (n, lab) ∈ V ∧ r = (lab, 0)) ∨ n ∉ vI V ∧ r = (0, 10)) := by
  unfold gLab
  refine wp_is S G.dp fun σ1 S1 => ?_
  by_cases hn : n ∈ vI V
  · rw [decide_eq_true ((X.isV G).2 hn), if_pos rfl]
    obtain ⟨x, hx, rfl⟩ := List.mem_map.1 hn
    refine wp_get S1 (G.dp.n _ (X.vN hn) 1 (by omega) (by omega)) fun σ2 S2 => ?_
    exact ⟨S2, .inl ⟨x.2, hx, by rw [(X.vm x hx).2]⟩⟩
  · rw [decide_eq_false (fun h => hn ((X.isV G).1 h)), if_neg (by simp)]
    exact ⟨S1, .inr ⟨hn, rfl⟩⟩
theorem wp_verL (g : p.good) (hD : PoolD D p) : ∀ (l : List Int) (k : Nat) (pr n : Int) (acc : List Int) (σ' : Spc), Sm D σ0 σ' m c → DLf m 2 3 pr n l → (∀ x ∈ l, En.isN p x) → l.length ≤ k →
    wp (gVerL p k n acc) σ' fun r σ2 => r = some (acc ++ l) ∧ Sm D σ0 σ2 m c
  | [], k, pr, n, acc, σ', S, h, _, _ => by
    have e : n = 0 := h
    cases k with
    | zero => unfold gVerL; rw [if_pos e]; exact ⟨by simp, S⟩
    | succ k => unfold gVerL; rw [if_pos e]; exact ⟨by simp, S⟩
  | x :: l, k, pr, n, acc, σ', S, h, hN, hl => by
    obtain ⟨e, _, h⟩ := h
    subst e
    have hx := hN n (List.mem_cons_self ..)
    have hp := isN_pos g hx
    cases k with
    | zero => simp at hl
    | succ k =>
      unfold gVerL
      rw [if_neg (show ¬ n = 0 by omega), if_pos (isN_node g hx)]
      refine wp_get S (hD.n _ hx 2 (by omega) (by omega)) fun σ1 S => ?_
      refine Prog.wp_mono (wp_verL g hD l k _ _ _ _ S h (fun y hy => hN y (List.mem_cons_of_mem _ hy)) (by simpa using hl)) fun r σ2 ⟨e, S⟩ => ⟨?_, S⟩
      rw [e, List.append_assoc]; rfl
theorem wp_gVer (G : GS D p root) (S : Sm D σ0 σ m c) (X : GRep p root m V E fr out) : wp (gVer p root) σ fun r σ' => r = some (vI V) ∧ Sm D σ0 σ' m c := by
  have hVl := X.lenB
  have hR0 := G.R 0 (by omega) (by omega)
  rw [Int.add_zero] at hR0
  unfold gVer
  refine wp_get S hR0 fun σ1 S1 => ?_
  refine wp_verL X.P.good G.dp (vI V) _ 0 _ [] _ S1 X.vs (fun x hx => X.vN hx) ?_
  rw [List.length_map]; omega
theorem wp_gWei (G : GS D p root) (S : Sm D σ0 σ m c) (X : GRep p root m V E fr out) : wp (gWei p root a b) σ fun r σ' => Sm D σ0 σ' m c ∧ (a ∈ vI V ∧ b ∈ vI V ∧ r = (((fE E a b).map (·.w)).getD 0, (fE E a b).isSome) ∨ ¬ (a ∈ vI V ∧ b ∈ vI V) ∧ r = (0, false)) := by
  unfold gWei
  refine wp_is S G.dp fun σ1 S1 => ?_
  by_cases ha : a ∈ vI V
  rotate_left
  · rw [decide_eq_false (fun h => ha ((X.isV G).1 h)), if_neg (by simp)]
    exact ⟨S1, .inr ⟨fun h => ha h.1, rfl⟩⟩
  rw [decide_eq_true ((X.isV G).2 ha), if_pos rfl]
  refine wp_is S1 G.dp fun σ1 S1 => ?_
  by_cases hb : b ∈ vI V
  rotate_left
  · rw [decide_eq_false (fun h => hb ((X.isV G).1 h)), if_neg (by simp)]
    exact ⟨S1, .inr ⟨fun h => hb h.2, rfl⟩⟩
  rw [decide_eq_true ((X.isV G).2 hb), if_pos rfl]
  unfold gWeiT
  refine wp_find G S1 X ha fun σ1 S1 => ?_
  cases hf : fE E a b with
  | none =>
    rw [if_pos (.inl (by rfl))]
    exact ⟨S1, .inl ⟨ha, hb, rfl⟩⟩
  | some e =>
    have heE : e ∈ E := List.mem_of_find?_eq_some hf
    have heN := X.eN (List.mem_map_of_mem (f := (·.id)) heE)
    have := isN_pos X.P.good heN
    have e1 : ((some e).map (·.id)).getD 0 = e.id := rfl
    rw [e1, if_neg (by simp; omega)]
    refine wp_get S1 (G.dp.n _ heN 3 (by omega) (by omega)) fun σ2 S2 => ?_
    rw [(X.ec e heE).2.2.2]
    exact ⟨S2, .inl ⟨ha, hb, rfl⟩⟩
end
end Go.En
namespace Go.En

theorem flt_or {E : List Ed} {p q r : Ed → Bool} (h : ∀ e, r e = (p e || q e)) (d : ∀ e, p e = true → q e = true → False) : (E.filter r).length = (E.filter p).length + (E.filter q).length := by
  induction E with
  | nil => rfl
  | cons e E ih =>
    simp only [List.filter_cons, h]
    cases hp : p e with
    | true =>
      cases hq : q e with
      | true => exact (d e hp hq).elim
      | false => simp only [Bool.true_or, if_true, List.length_cons, ih, Bool.false_eq_true, if_false]; omega
    | false =>
      cases hq : q e with
      | true => simp only [Bool.or_true, if_true, List.length_cons, ih, Bool.false_eq_true, if_false]; omega
      | false => simp only [Bool.or_false, Bool.false_eq_true, if_false, ih]
def sumL (E : List Ed) (f : Ed → Int) : List Int → Nat
  | [] => 0
  | v :: l => (E.filter fun e => decide (f e = v)).length + sumL E f l
theorem sumL_mem {E : List Ed} {f : Ed → Int} : ∀ {l : List Int}, l.Nodup → sumL E f l = (E.filter fun e => decide (f e ∈ l)).length
  | [], _ => by
    rw [List.filter_eq_nil_iff.2]
    · rfl
    · intro e _; simp
  | v :: l, hn => by
    have hn := List.nodup_cons.1 hn
    rw [sumL, sumL_mem hn.2]
    refine (flt_or (fun e => ?_) fun e h1 h2 => ?_).symm
    · simp only [List.mem_cons, Bool.decide_or]
    · have h1 := of_decide_eq_true h1
      have h2 := of_decide_eq_true h2
      rw [h1] at h2
      exact hn.1 h2
theorem sumL_all {E : List Ed} {f : Ed → Int} {l : List Int} (hn : l.Nodup) (h : ∀ e ∈ E, f e ∈ l) : sumL E f l = E.length := by
  rw [sumL_mem hn, List.filter_eq_self.2]
  intro e he
  simpa using h e he
theorem sumL_snoc {E : List Ed} {f : Ed → Int} {v : Int} : ∀ {l : List Int}, sumL E f (l ++ [v]) = sumL E f l + (E.filter fun e => decide (f e = v)).length
  | [] => by simp [sumL]
  | x :: l => by
    rw [List.cons_append, sumL, sumL, sumL_snoc]; omega
theorem sumL_take {E : List Ed} {f : Ed → Int} {l : List Int} {i : Nat} {v : Int} (h : l[i]? = some v) : sumL E f (l.take (i + 1)) = sumL E f (l.take i) + (E.filter fun e => decide (f e = v)).length := by
  rw [List.take_add_one, h, Option.toList_some, sumL_snoc]
theorem sumL_le {E : List Ed} {f : Ed → Int} {l : List Int} (hn : l.Nodup) {i : Nat} : sumL E f (l.take i) ≤ E.length := by
  rw [sumL_mem (hn.sublist (List.take_sublist _ _))]
  exact List.length_filter_le ..
theorem oP_len {E : List Ed} {v : Int} : (oP E v).length = (E.filter fun e => decide (e.f = v)).length := List.length_map ..
theorem iP_len {E : List Ed} {v : Int} : (iP E v).length = (E.filter fun e => decide (e.t = v)).length := List.length_map ..
theorem oP_le {E : List Ed} {v : Int} : (oP E v).length ≤ E.length := by rw [oP_len]; exact List.length_filter_le ..
theorem iP_le {E : List Ed} {v : Int} : (iP E v).length ≤ E.length := by rw [iP_len]; exact List.length_filter_le ..
theorem oP_mem {E : List Ed} {v : Int} {x : Int × Int} (h : x ∈ oP E v) : ∃ e ∈ E, e.f = v ∧ x = (e.t, e.w) := by
  obtain ⟨e, he, rfl⟩ := List.mem_map.1 h
  have := List.mem_filter.1 he
  exact ⟨e, this.1, of_decide_eq_true this.2, rfl⟩
theorem iP_mem {E : List Ed} {v : Int} {x : Int × Int} (h : x ∈ iP E v) : ∃ e ∈ E, e.t = v ∧ x = (e.f, e.w) := by
  obtain ⟨e, he, rfl⟩ := List.mem_map.1 h
  have := List.mem_filter.1 he
  exact ⟨e, this.1, of_decide_eq_true this.2, rfl⟩
theorem iP_cons {x : Ed} {E : List Ed} {v : Int} : iP (x :: E) v = if x.t = v then (x.f, x.w) :: iP E v else iP E v := by
  unfold iP
  rw [List.filter_cons]
  by_cases h : x.t = v
  · rw [if_pos h, if_pos (by simpa using h)]; rfl
  · rw [if_neg h, if_neg (by simpa using h)]
/-- an edge occurs once among those that enter -/
theorem both_one : ∀ {E : List Ed}, (E.Pairwise fun x y => ¬ (x.f = y.f ∧ x.t = y.t)) → ∀ {e : Ed}, e ∈ E → (iP E e.t).count (e.f, e.w) = 1
  | [], _, e, he => by cases he
  | x :: E, hu, e, he => by
    obtain ⟨h1, h2⟩ := List.pairwise_cons.1 hu
    rw [iP_cons]
    rcases List.mem_cons.1 he with rfl | he
    · rw [if_pos rfl, List.count_cons_self, List.count_eq_zero.2]
      intro hm
      obtain ⟨y, hy, e1, e2⟩ := iP_mem hm
      exact h1 y hy ⟨congrArg Prod.fst e2, e1.symm⟩
    · have ih := both_one h2 he
      split
      · rename_i h3
        rw [List.count_cons_of_ne, ih]
        intro h4
        exact h1 e he ⟨congrArg Prod.fst h4, h3⟩
      · exact ih
theorem count_take {α : Type} [BEq α] [LawfulBEq α] [DecidableEq α] {l : List α} {i : Nat} {v x : α} (h : l[i]? = some v) : (l.take (i + 1)).count x = (l.take i).count x + if v = x then 1 else 0 := by
  rw [List.take_add_one, h, Option.toList_some, List.count_append]
  congr 1
  by_cases e : v = x
  · subst e; simp
  · rw [if_neg e, List.count_eq_zero.2]
    simpa using fun h => e h.symm
/-- the edges at a vertex that goes -/
theorem gone_all {E : List Ed} {p : Int} : E.length + (E.filter fun e => decide (e.f = p) && decide (e.t = p)).length = (rmG E p).length + (oP E p).length + (iP E p).length := by
  rw [oP_len, iP_len]
  unfold rmG
  induction E with
  | nil => rfl
  | cons e E ih =>
    simp only [List.filter_cons]
    by_cases h1 : e.f = p <;> by_cases h2 : e.t = p <;> simp [h1, h2] <;> simp at ih <;> omega
theorem self_le : ∀ {E : List Ed}, (E.Pairwise fun x y => ¬ (x.f = y.f ∧ x.t = y.t)) → ∀ {p q : Int}, (E.filter fun e => decide (e.f = p) && decide (e.t = q)).length = if (fE E p q).isSome then 1 else 0
  | [], _, p, q => rfl
  | x :: E, hu, p, q => by
    obtain ⟨h1, h2⟩ := List.pairwise_cons.1 hu
    have ih := self_le h2 (p := p) (q := q)
    unfold fE at ih ⊢
    rw [List.filter_cons, List.find?_cons]
    by_cases h : x.f = p ∧ x.t = q
    · have e : (decide (x.f = p) && decide (x.t = q)) = true := by simp [h.1, h.2]
      rw [if_pos e, e, List.length_cons]
      have : (E.filter fun e => decide (e.f = p) && decide (e.t = q)) = [] := by
        rw [List.filter_eq_nil_iff]
        intro y hy hc
        simp only [Bool.and_eq_true, decide_eq_true_eq] at hc
        exact h1 y hy ⟨h.1.trans hc.1.symm, h.2.trans hc.2.symm⟩
      rw [this]; rfl
    · have e : (decide (x.f = p) && decide (x.t = q)) = false := by
        rw [Bool.eq_false_iff]
        intro hc
        simp only [Bool.and_eq_true, decide_eq_true_eq] at hc
        exact h hc
      rw [if_neg (by rw [e]; simp), e]
      exact ih
end Go.En
namespace Go.En
open Prog Spc

section
variable {A : Int → Prop} {σ0 σ σ' : Spc} {c : Nat} {α : Type} {Q : α → Spc → Prop} {p : Pl} {root v w n hd nx pv k a b : Int}
theorem PoolD.toA (h : PoolD A p) : PoolA A p := ⟨h.r, fun a ha => by have := h.n a (node_isN ha) 0 (by omega) (by omega); rwa [Int.add_zero] at this⟩
theorem node_R5 {x : Int} (h : (p.node x).isSome = true) : R64 x := by
  obtain ⟨n, hn⟩ := Option.isSome_iff_exists.1 h
  have := node_lt hn
  exact ⟨by omega, by omega⟩
theorem wd_more {q : Unit → Prog α} (H : Wld A σ0 σ c) (ha : A a) (hl : σ0.pu.length + c ≤ big) (hk : ∀ σ', Wld A σ0 σ' (c + 1) → wp (q ()) σ' Q) : wp (dMore a n >>= q) σ Q := by
  unfold dMore
  rw [wp_bind]
  refine wd_get H ha fun v σ1 hv _ H => ?_
  rw [← wp_bind]
  exact wd_put H ha (w64_in _) hl hk
theorem wd_dUn {q : Unit → Prog α} {e : Int} (H : Wld A σ0 σ c) (he : e ≠ 0) (hk : ∀ σ', Wld A σ0 σ' c → (σ'.en = false → σ'.pu = σ0.pu) → wp (q ()) σ' Q) : wp (dUn e σ0.pu.length >>= q) σ Q := by
  unfold dUn
  rw [if_pos he]
  exact wd_back H hk
theorem wd_is {q : Bool → Prog α} (H : Wld A σ0 σ c) (hD : PoolD A p) (hk : ∀ bb σ', (bb = true → (p.node n).isSome = true) → Wld A σ0 σ' c → σ'.pu = σ.pu → wp (q bb) σ' Q) : wp (gIs p k n >>= q) σ Q := by
  unfold gIs
  split
  · rename_i hn
    rw [wp_bind]
    have := hD.n n (node_isN hn) 0 (by omega) (by omega)
    rw [Int.add_zero] at this
    exact wd_get H this fun v σ1 hv hp H => hk _ σ1 (fun _ => hn) H hp
  · exact hk false σ (fun e => by cases e) H rfl
theorem wd_lnk {q : Int → Prog α} (H : Wld A σ0 σ c) (hD : PoolD A p) (hh : A hd) (hn : (p.node n).isSome = true) (h1 : 0 ≤ nx ∧ nx ≤ 7) (h2 : 0 ≤ pv ∧ pv ≤ 7) (hl : σ0.pu.length + c + 4 ≤ big) (hk : ∀ e σ', Wld A σ0 σ' (c + 4) → wp (q e) σ' Q) : wp (gLnk p hd nx pv n >>= q) σ Q := by
  have hN := node_isN hn
  have hR := node_R5 hn
  unfold gLnk
  rw [wp_bind]
  refine wd_get H hh fun was σ1 hw _ H => ?_
  refine wd_put H (hD.n n hN _ h1.1 h1.2) hw (by omega) fun σ2 H => ?_
  refine wd_put H (hD.n n hN _ h2.1 h2.2) ⟨by decide, by decide⟩ (by omega) fun σ2 H => ?_
  refine wd_put H hh hR (by omega) fun σ2 H => ?_
  split
  · exact hk _ _ (H.mono (by omega))
  · split
    · rename_i hw
      exact wd_put H (hD.n was (node_isN hw) _ h2.1 h2.2) hR (by omega) fun σ2 H => hk _ _ H
    · exact hk _ _ (H.mono (by omega))
theorem wd_unlT {q : Int → Prog α} (H : Wld A σ0 σ c) (hD : PoolD A p) (ha : R64 a) (h2 : 0 ≤ pv ∧ pv ≤ 7) (hl : σ0.pu.length + c + 1 ≤ big) (hk : ∀ e σ', Wld A σ0 σ' (c + 1) → wp (q e) σ' Q) : wp (gUnlT p pv a b >>= q) σ Q := by
  unfold gUnlT
  split
  · exact hk _ _ (H.mono (by omega))
  · split
    · rename_i hb
      rw [wp_bind]
      exact wd_put H (hD.n b (node_isN hb) _ h2.1 h2.2) ha (by omega) fun σ2 H => hk _ _ H
    · exact hk _ _ (H.mono (by omega))
theorem wd_unl {q : Int → Prog α} (H : Wld A σ0 σ c) (hD : PoolD A p) (hh : A hd) (hn : (p.node n).isSome = true) (h1 : 0 ≤ nx ∧ nx ≤ 7) (h2 : 0 ≤ pv ∧ pv ≤ 7) (hl : σ0.pu.length + c + 2 ≤ big) (hk : ∀ e σ', Wld A σ0 σ' (c + 2) → wp (q e) σ' Q) : wp (gUnl p hd nx pv n >>= q) σ Q := by
  have hN := node_isN hn
  unfold gUnl
  rw [wp_bind]
  refine wd_get H (hD.n n hN _ h2.1 h2.2) fun a σ1 ha _ H => ?_
  refine wd_get H (hD.n n hN _ h1.1 h1.2) fun b σ1 hb _ H => ?_
  split
  · refine wd_put H hh hb (by omega) fun σ2 H => ?_
    show wp (gUnlT p pv a b) σ2 fun a σ' => wp (q a) σ' Q
    rw [← wp_bind]
    exact wd_unlT H hD ha h2 (by omega) hk
  · split
    · rename_i han
      refine wd_put H (hD.n a (node_isN han) _ h1.1 h1.2) hb (by omega) fun σ2 H => ?_
      show wp (gUnlT p pv a b) σ2 fun a σ' => wp (q a) σ' Q
      rw [← wp_bind]
      exact wd_unlT H hD ha h2 (by omega) hk
    · exact hk _ _ (H.mono (by omega))
theorem wd_findL (hD : PoolD A p) : ∀ (k : Nat) (n : Int) {σ : Spc}, R64 n → Wld A σ0 σ c → wp (gFindL p b k n) σ fun r σ' => Wld A σ0 σ' c ∧ σ'.pu = σ.pu ∧ (r.1 ≠ 0 → (p.node r.1).isSome = true)
  | 0, n, σ, _, H => ⟨H, rfl, fun h => absurd rfl h⟩
  | k + 1, n, σ, hr, H => by
    unfold gFindL
    split
    · exact ⟨H, rfl, fun h => absurd rfl h⟩
    · split
      · rename_i hn
        refine wd_get H (hD.n n (node_isN hn) 2 (by omega) (by omega)) fun t σ1 _ e1 H => ?_
        split
        · exact ⟨H, e1, fun _ => hn⟩
        · refine wd_get H (hD.n n (node_isN hn) 4 (by omega) (by omega)) fun n' σ2 hn' e2 H => ?_
          exact Prog.wp_mono (wd_findL hD k n' hn' H) fun r σ' ⟨h1, h2, h3⟩ => ⟨h1, h2.trans (e2.trans e1), h3⟩
      · exact ⟨H, rfl, fun h => absurd rfl h⟩
theorem wd_find {q : Int × Int → Prog α} (H : Wld A σ0 σ c) (hD : PoolD A p) (ha : (p.node a).isSome = true) (hk : ∀ r σ', Wld A σ0 σ' c → σ'.pu = σ.pu → (r.1 ≠ 0 → (p.node r.1).isSome = true) → wp (q r) σ' Q) : wp (gFind p a b >>= q) σ Q := by
  unfold gFind
  rw [wp_bind]
  refine wd_get H (hD.n a (node_isN ha) 4 (by omega) (by omega)) fun n σ1 hn e1 H => ?_
  exact Prog.wp_mono (wd_findL hD _ n hn H) fun r σ' ⟨h1, h2, h3⟩ => hk r σ' h1 (h2.trans e1) h3
theorem mk_R64 (hr : 0 ≤ root ∧ root ≤ 4000) : R64 (gMk root) ∧ R64 (gEk root) := by unfold gMk gEk; exact ⟨⟨by omega, by omega⟩, ⟨by omega, by omega⟩⟩
abbrev Undone (σ σ' : Spc) (e : Int × Int) : Prop := e.2 ≠ 0 → e.1 = 0 ∧ (σ'.en = false → σ'.pu = σ.pu)
theorem wd_gAdd (hw : σ.wf) (hD : PoolD A p) (hRD : RootD A root) (hr : 0 ≤ root ∧ root ≤ 4000) (hv : R64 v) (hl : σ.pu.length + 20 ≤ big) : wp (gAdd p root v) σ fun e σ' => Wld A σ σ' 20 ∧ Undone σ σ' e := by
  have hm := (mk_R64 hr).1
  have z : R64 0 := ⟨by decide, by decide⟩
  have r0 := hRD 0 (by omega) (by omega)
  rw [Int.add_zero] at r0
  unfold gAdd
  refine wd_mark ?_
  refine wd_take (Wld.start (A := A) hw) hD.toA (by omega) (fun x σ1 hx H => ?_) fun e σ1 he H hpu => ?_
  · have hN := node_isN hx
    have x0 := hD.n x hN 0 (by omega) (by omega)
    rw [Int.add_zero] at x0
    rw [if_neg (by simp)]
    refine wd_put H x0 hm (by omega) fun σ2 H => ?_
    refine wd_put H (hD.n x hN 1 (by omega) (by omega)) hv (by omega) fun σ2 H => ?_
    refine wd_put H (hD.n x hN 4 (by omega) (by omega)) z (by omega) fun σ2 H => ?_
    refine wd_put H (hD.n x hN 5 (by omega) (by omega)) z (by omega) fun σ2 H => ?_
    refine wd_put H (hD.n x hN 6 (by omega) (by omega)) z (by omega) fun σ2 H => ?_
    refine wd_put H (hD.n x hN 7 (by omega) (by omega)) z (by omega) fun σ2 H => ?_
    refine wd_lnk H hD r0 hx (by omega) (by omega) (by omega) fun e σ3 H => ?_
    split
    · rename_i he
      exact wd_dUn H he fun σ4 H hu => ⟨H.mono (by omega), fun _ => ⟨rfl, hu⟩⟩
    · refine wd_more H (hRD 1 (by omega) (by omega)) (by omega) fun σ4 H => ?_
      refine wd_more H (hRD 7 (by omega) (by omega)) (by omega) fun σ4 H => ?_
      exact ⟨H.mono (by omega), fun h => absurd rfl h⟩
  · have hne : e ≠ 0 := by omega
    rw [if_pos hne]
    exact wd_dUn H hne fun σ4 H hu => ⟨H.mono (by omega), fun _ => ⟨rfl, hu⟩⟩
theorem wd_gLink (hw : σ.wf) (hD : PoolD A p) (hRD : RootD A root) (hr : 0 ≤ root ∧ root ≤ 4000) (hv : R64 w) (hl : σ.pu.length + 20 ≤ big) : wp (gLink p root a b w) σ fun e σ' => Wld A σ σ' 20 ∧ Undone σ σ' e := by
  have hm := (mk_R64 hr).2
  unfold gLink
  refine wd_mark ?_
  refine wd_is (Wld.start (A := A) hw) hD fun bb σ1 hb H _ => ?_
  cases bb with
  | false => rw [if_neg (by simp)]; exact wd_dUn H (by decide) fun σ4 H hu => ⟨H.mono (by omega), fun _ => ⟨rfl, hu⟩⟩
  | true =>
  have ha := hb rfl
  clear hb
  rw [if_pos rfl]
  refine wd_is H hD fun bb σ1 hb H _ => ?_
  cases bb with
  | false => rw [if_neg (by simp)]; exact wd_dUn H (by decide) fun σ4 H hu => ⟨H.mono (by omega), fun _ => ⟨rfl, hu⟩⟩
  | true =>
  have hb := hb rfl
  rw [if_pos rfl]
  unfold gLinkS
  refine wd_find H hD ha fun r σ1 H _ _ => ?_
  split
  · exact wd_dUn H (by decide) fun σ4 H hu => ⟨H.mono (by omega), fun _ => ⟨rfl, hu⟩⟩
  refine wd_take H hD.toA (by omega) (fun x σ1 hx H => ?_) fun e σ1 he H hpu => ?_
  · have hN := node_isN hx
    have x0 := hD.n x hN 0 (by omega) (by omega)
    rw [Int.add_zero] at x0
    rw [if_neg (by simp)]
    split
    · rename_i he
      exact wd_dUn H he fun σ4 H hu => ⟨H.mono (by omega), fun _ => ⟨rfl, hu⟩⟩
    unfold gLinkT
    refine wd_put H x0 hm (by omega) fun σ2 H => ?_
    refine wd_put H (hD.n x hN 1 (by omega) (by omega)) (node_R5 ha) (by omega) fun σ2 H => ?_
    refine wd_put H (hD.n x hN 2 (by omega) (by omega)) (node_R5 hb) (by omega) fun σ2 H => ?_
    refine wd_put H (hD.n x hN 3 (by omega) (by omega)) hv (by omega) fun σ2 H => ?_
    refine wd_lnk H hD (hD.n a (node_isN ha) 4 (by omega) (by omega)) hx (by omega) (by omega) (by omega) fun e σ3 H => ?_
    split
    · rename_i he
      exact wd_dUn H he fun σ4 H hu => ⟨H.mono (by omega), fun _ => ⟨rfl, hu⟩⟩
    refine wd_lnk H hD (hD.n b (node_isN hb) 5 (by omega) (by omega)) hx (by omega) (by omega) (by omega) fun e σ3 H => ?_
    split
    · rename_i he
      exact wd_dUn H he fun σ4 H hu => ⟨H.mono (by omega), fun _ => ⟨rfl, hu⟩⟩
    unfold gLinkU
    refine wd_more H (hD.n a (node_isN ha) 6 (by omega) (by omega)) (by omega) fun σ4 H => ?_
    refine wd_more H (hD.n b (node_isN hb) 7 (by omega) (by omega)) (by omega) fun σ4 H => ?_
    refine wd_more H (hRD 2 (by omega) (by omega)) (by omega) fun σ4 H => ?_
    refine wd_more H (hRD 7 (by omega) (by omega)) (by omega) fun σ4 H => ?_
    exact ⟨H.mono (by omega), fun h => absurd rfl h⟩
  · have hne : e ≠ 0 := by omega
    rw [if_pos hne]
    exact wd_dUn H hne fun σ4 H hu => ⟨H.mono (by omega), fun _ => ⟨rfl, hu⟩⟩
theorem wd_cutI {q : Int → Prog α} (H : Wld A σ0 σ c) (hD : PoolD A p) (hRD : RootD A root) (hn : (p.node n).isSome = true) (hl : σ0.pu.length + c + 11 ≤ big) (hk : ∀ e σ', Wld A σ0 σ' (c + 11) → wp (q e) σ' Q) : wp (gCutI p root n >>= q) σ Q := by
  have hN := node_isN hn
  unfold gCutI
  rw [wp_bind]
  refine wd_get H (hD.n n hN 1 (by omega) (by omega)) fun a σ1 _ _ H => ?_
  refine wd_get H (hD.n n hN 2 (by omega) (by omega)) fun b σ1 _ _ H => ?_
  split
  · rename_i hab
    obtain ⟨ha, hb⟩ := hab
    refine wd_unl H hD (hD.n a (node_isN ha) 4 (by omega) (by omega)) hn (by omega) (by omega) (by omega) fun e σ2 H => ?_
    split
    · exact hk _ _ (H.mono (by omega))
    refine wd_unl H hD (hD.n b (node_isN hb) 5 (by omega) (by omega)) hn (by omega) (by omega) (by omega) fun e σ2 H => ?_
    split
    · exact hk _ _ (H.mono (by omega))
    unfold gCutU
    refine wd_more H (hD.n a (node_isN ha) 6 (by omega) (by omega)) (by omega) fun σ4 H => ?_
    refine wd_more H (hD.n b (node_isN hb) 7 (by omega) (by omega)) (by omega) fun σ4 H => ?_
    refine wd_more H (hRD 2 (by omega) (by omega)) (by omega) fun σ4 H => ?_
    refine wd_more H (hRD 7 (by omega) (by omega)) (by omega) fun σ4 H => ?_
    show wp (pGive p n) σ4 fun a σ' => wp (q a) σ' Q
    rw [← wp_bind]
    exact wd_give H hD.toA (by omega) (node_R5 hn) (fun σ5 _ H => hk _ _ (H.mono (by omega))) fun _ => hk _ _ (H.mono (by omega))
  · exact hk _ _ (H.mono (by omega))
theorem wd_gCut (hw : σ.wf) (hD : PoolD A p) (hRD : RootD A root) (hl : σ.pu.length + 20 ≤ big) : wp (gCut p root n) σ fun e σ' => Wld A σ σ' 20 ∧ (e ≠ 0 → σ'.en = false → σ'.pu = σ.pu) := by
  unfold gCut
  refine wd_mark ?_
  refine wd_is (Wld.start (A := A) hw) hD fun bb σ1 hb H _ => ?_
  cases bb with
  | false => rw [if_neg (by simp)]; exact wd_dUn H (by decide) fun σ4 H hu => ⟨H.mono (by omega), fun _ => hu⟩
  | true =>
  rw [if_pos rfl]
  refine wd_cutI H hD hRD (hb rfl) (by omega) fun e σ2 H => ?_
  by_cases he : e = 0
  · subst he
    exact ⟨H.mono (by omega), fun h => absurd rfl h⟩
  · exact wd_dUn H he fun σ4 H hu => ⟨H.mono (by omega), fun _ => hu⟩
theorem wd_emp (hD : PoolD A p) (hRD : RootD A root) (hh : A hd) : ∀ (k : Nat) {σ : Spc} {c : Nat} {α : Type} {Q : α → Spc → Prop} {q : Int → Prog α}, Wld A σ0 σ c → σ0.pu.length + c + 11 * k + 20 ≤ big → (∀ e σ', Wld A σ0 σ' (c + 11 * k) → wp (q e) σ' Q) → wp (gEmp p root hd k >>= q) σ Q
  | 0, σ, c, α, Q, q, H, _, hk => by
    unfold gEmp
    rw [wp_bind]
    exact wd_get H hh fun n σ1 _ _ H => hk _ _ (H.mono (by omega))
  | k + 1, σ, c, α, Q, q, H, hl, hk => by
    unfold gEmp
    rw [wp_bind]
    refine wd_get H hh fun n σ1 _ _ H => ?_
    split
    · exact hk _ _ (H.mono (by omega))
    · split
      · rename_i hn
        refine wd_cutI H hD hRD hn (by omega) fun e σ2 H => ?_
        split
        · exact hk _ _ (H.mono (by omega))
        · rw [← wp_bind]
          exact wd_emp hD hRD hh k H (by omega) fun e σ3 H => hk _ _ (H.mono (by omega))
      · exact hk _ _ (H.mono (by omega))
theorem wd_gDrop (hw : σ.wf) (hD : PoolD A p) (hRD : RootD A root) (hp : 0 ≤ p.nodes ∧ p.nodes ≤ 128) (hl : σ.pu.length + 4000 ≤ big) : wp (gDrop p root n) σ fun e σ' => Wld A σ σ' 3000 ∧ Undone σ σ' e := by
  have r0 := hRD 0 (by omega) (by omega)
  rw [Int.add_zero] at r0
  have hk : ((p.nodes.toNat + 1 : Nat) : Int) ≤ 129 := by omega
  unfold gDrop
  refine wd_mark ?_
  refine wd_is (Wld.start (A := A) hw) hD fun bb σ1 hb H _ => ?_
  cases bb with
  | false => rw [if_neg (by simp)]; exact wd_dUn H (by decide) fun σ4 H hu => ⟨H.mono (by omega), fun _ => ⟨rfl, hu⟩⟩
  | true =>
  rw [if_pos rfl]
  have hn := hb rfl
  have hN := node_isN hn
  unfold gDropT
  refine wd_get H (hD.n n hN 1 (by omega) (by omega)) fun v σ1 _ _ H => ?_
  refine wd_emp hD hRD (hD.n n hN 4 (by omega) (by omega)) _ H (by omega) fun e σ2 H => ?_
  split
  · rename_i he
    exact wd_dUn H he fun σ4 H hu => ⟨H.mono (by omega), fun _ => ⟨rfl, hu⟩⟩
  refine wd_emp hD hRD (hD.n n hN 5 (by omega) (by omega)) _ H (by omega) fun e σ2 H => ?_
  split
  · rename_i he
    exact wd_dUn H he fun σ4 H hu => ⟨H.mono (by omega), fun _ => ⟨rfl, hu⟩⟩
  unfold gDropU
  refine wd_unl H hD r0 hn (by omega) (by omega) (by omega) fun e σ2 H => ?_
  split
  · rename_i he
    exact wd_dUn H he fun σ4 H hu => ⟨H.mono (by omega), fun _ => ⟨rfl, hu⟩⟩
  refine wd_more H (hRD 1 (by omega) (by omega)) (by omega) fun σ4 H => ?_
  refine wd_more H (hRD 7 (by omega) (by omega)) (by omega) fun σ4 H => ?_
  refine wd_give H hD.toA (by omega) (node_R5 hn) (fun σ5 _ H => ?_) fun _ => ?_
  · rw [if_neg (by simp)]
    exact ⟨H.mono (by omega), fun h => absurd rfl h⟩
  · rw [if_pos (by decide)]
    exact wd_dUn H (by decide) fun σ4 H hu => ⟨H.mono (by omega), fun _ => ⟨rfl, hu⟩⟩
theorem wd_gWei (hw : σ.wf) (hD : PoolD A p) : wp (gWei p root a b) σ fun _ σ' => Wld A σ σ' 0 ∧ σ'.pu = σ.pu := by
  unfold gWei
  refine wd_is (Wld.start (A := A) hw) hD fun bb σ1 hb H e1 => ?_
  cases bb with
  | false => rw [if_neg (by simp)]; exact ⟨H, e1⟩
  | true =>
  rw [if_pos rfl]
  have ha := hb rfl
  refine wd_is H hD fun bb σ2 hb H e2 => ?_
  cases bb with
  | false => rw [if_neg (by simp)]; exact ⟨H, e2.trans e1⟩
  | true =>
  rw [if_pos rfl]
  unfold gWeiT
  refine wd_find H hD ha fun r σ3 H e3 hr => ?_
  split
  · exact ⟨H, e3.trans (e2.trans e1)⟩
  · rename_i h
    refine wd_get H (hD.n _ (node_isN (hr (by omega))) 3 (by omega) (by omega)) fun v σ4 _ e4 H => ?_
    exact ⟨H, e4.trans (e3.trans (e2.trans e1))⟩
theorem wd_edgL {whom : Int} (hD : PoolD A p) (h1 : 0 ≤ nx ∧ nx ≤ 7) (h2 : 0 ≤ whom ∧ whom ≤ 7) : ∀ (k : Nat) (n : Int) (acc : List (Int × Int)) {σ : Spc}, Wld A σ0 σ c → wp (gEdgL p nx whom k n acc) σ fun _ σ' => Wld A σ0 σ' c ∧ σ'.pu = σ.pu
  | 0, n, acc, σ, H => ⟨H, rfl⟩
  | k + 1, n, acc, σ, H => by
    unfold gEdgL
    split
    · exact ⟨H, rfl⟩
    · split
      · rename_i hn
        have hN := node_isN hn
        refine wd_get H (hD.n n hN _ h2.1 h2.2) fun t σ1 _ e1 H => ?_
        refine wd_get H (hD.n n hN 3 (by omega) (by omega)) fun t σ1 _ e2 H => ?_
        refine wd_get H (hD.n n hN _ h1.1 h1.2) fun t σ1 _ e3 H => ?_
        exact Prog.wp_mono (wd_edgL hD h1 h2 k _ _ H) fun r σ' ⟨h1, h2⟩ => ⟨h1, h2.trans (e3.trans (e2.trans e1))⟩
      · exact ⟨H, rfl⟩
theorem wd_gEdg {whom : Int} (hw : σ.wf) (hD : PoolD A p) (h1 : 0 ≤ nx ∧ nx ≤ 7) (h2 : 0 ≤ whom ∧ whom ≤ 7) (hh : (p.node n).isSome = true → A hd) : wp (gEdg p root n hd nx whom) σ fun r σ' => Wld A σ σ' 0 ∧ σ'.pu = σ.pu ∧ (r.2 ≠ 0 → r.1 = none) := by
  unfold gEdg
  refine wd_is (Wld.start (A := A) hw) hD fun bb σ1 hb H e1 => ?_
  cases bb with
  | false => rw [if_neg (by simp)]; exact ⟨H, e1, fun _ => rfl⟩
  | true =>
  rw [if_pos rfl]
  refine wd_get H (hh (hb rfl)) fun x σ2 _ e2 H => ?_
  rw [wp_bind]
  refine Prog.wp_mono (wd_edgL hD h1 h2 _ _ _ H) fun o σ3 ⟨H, e3⟩ => ⟨H, e3.trans (e2.trans e1), fun h => ?_⟩
  cases o with
  | none => rfl
  | some l => exact absurd rfl h
theorem wd_verL (hD : PoolD A p) : ∀ (k : Nat) (n : Int) (acc : List Int) {σ : Spc}, Wld A σ0 σ c → wp (gVerL p k n acc) σ fun _ σ' => Wld A σ0 σ' c ∧ σ'.pu = σ.pu
  | 0, n, acc, σ, H => ⟨H, rfl⟩
  | k + 1, n, acc, σ, H => by
    unfold gVerL
    split
    · exact ⟨H, rfl⟩
    · split
      · rename_i hn
        refine wd_get H (hD.n n (node_isN hn) 2 (by omega) (by omega)) fun t σ1 _ e1 H => ?_
        exact Prog.wp_mono (wd_verL hD k _ _ H) fun r σ' ⟨h1, h2⟩ => ⟨h1, h2.trans e1⟩
      · exact ⟨H, rfl⟩
theorem wd_gVer (hw : σ.wf) (hD : PoolD A p) (hRD : RootD A root) : wp (gVer p root) σ fun _ σ' => Wld A σ σ' 0 ∧ σ'.pu = σ.pu := by
  have r0 := hRD 0 (by omega) (by omega)
  rw [Int.add_zero] at r0
  unfold gVer
  refine wd_get (Wld.start (A := A) hw) r0 fun n σ1 _ e1 H => ?_
  exact Prog.wp_mono (wd_verL hD _ _ _ H) fun r σ' ⟨h1, h2⟩ => ⟨h1, h2.trans e1⟩
end
end Go.En
