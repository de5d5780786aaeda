/-
  Layer 37: how many words a look reads; the law Orders.
  Layer 37: the law Orders.
  Layer 37: the contract of reads, joined; a list of small numbers among the arguments.
-/
import Derived.Test.YtmpdclbiopalaaaYM
namespace Go.En
open Prog Spc Go.Sort

variable {S : Sys} {I : Ids} {h h0 h' : Hp} {F F0 : Fp} {R : Value → Hp → Prop} {L : List Res} {s : Value} {σ σ0 τ : Spc}
section
variable {D : Int → Prop} {m m' : Int → Int} {c : Nat} {p : Pl} {root k : Int} {α : Type} {Q : α → Spc → Prop}
theorem wp_getR {q : Int → Prog α} {a : Int} (S : Sm D σ0 σ m c) (hD : D a) (hk : Sm D σ0 (σ.rds a) m c → wp (q (m a)) (σ.rds a) Q) : wp (gt a >>= q) σ Q := by
  rw [wp_bind, wp_gt, S.get hD]; exact hk (S.rds a)
theorem rds_new {a : Int} (h : a ∉ σ.rd) : (σ.rds a).rd = σ.rd ++ [a] := if_neg h
/-- every node visited costs two words -/
theorem wp_getC (g : p.good) (hD : PoolD D p) : ∀ (t : Tr) (f : Nat) {n : Fin 1000001} {σ : Spc}, Sm D σ0 σ m c → TR m t → (∀ x ∈ t.ns, isN p x) → t.ns.Nodup → t.sz ≤ n.val → t.sz ≤ f → (∀ x ∈ t.ns, ∀ i, 0 ≤ i → i ≤ 7 → x + i ∉ σ.rd) →
    wp (tGetL p k f (.ok n) t.at') σ fun _ σ' => Sm D σ0 σ' m c ∧ σ'.rd.length = σ.rd.length + 2 * (stp k t).length
  | .nil, f, n, σ, S, H, hN, hs, hn, hf, hr => by
    cases f with
    | zero => exact ⟨S, rfl⟩
    | succ f =>
      unfold tGetL
      rw [show Tr.nil.at' = 0 from rfl, tIs_0, if_neg (by simp)]
      exact ⟨S, rfl⟩
  | .nd a l x v r, 0, n, σ, S, H, hN, hs, hn, hf, hr => by
    have : (Tr.nd a l x v r).sz = l.sz + r.sz + 1 := rfl
    omega
  | .nd a l x v r, f + 1, n, σ, S, ⟨Ha, Hl, Hr⟩, hN, hs, hn, hf, hr => by
    have ha := hN a in_a
    have hsz : (Tr.nd a l x v r).sz = l.sz + r.sz + 1 := rfl
    have hns : (l.ns ++ a :: r.ns).Nodup := hs
    obtain ⟨hnl, hnr, hlr⟩ := List.nodup_append.1 hns
    obtain ⟨har, hnr⟩ := List.nodup_cons.1 hnr
    have hal : ∀ y ∈ l.ns, y ≠ a := fun y hy => hlr y hy a (List.mem_cons_self ..)
    have har : ∀ y ∈ r.ns, y ≠ a := fun y hy e => har (e ▸ hy)
    have hDa := fun i (hi : 0 ≤ i ∧ i ≤ 7) => hD.n a ha i hi.1 hi.2
    have hDa0 := hDa 0 (by omega)
    rw [Int.add_zero] at hDa0
    have ra : a ∉ σ.rd := by have := hr a in_a 0 (by omega) (by omega); rwa [Int.add_zero] at this
    have e1 := rds_new ra
    have ri : ∀ i : Int, 1 ≤ i → i ≤ 7 → ((σ.rds a).rds (a + i)).rd = σ.rd ++ [a] ++ [a + i] := fun i h1 h7 => by
      rw [rds_new, e1]
      rw [e1]
      intro hm
      rcases List.mem_append.1 hm with h | h
      · exact hr a in_a i (by omega) h7 h
      · rw [List.mem_singleton] at h; omega
    have rk' : ∀ (i : Int) (t : Tr), 1 ≤ i → i ≤ 7 → (∀ y ∈ t.ns, y ≠ a ∧ y ∈ (Tr.nd a l x v r).ns) → ∀ y ∈ t.ns, ∀ j, 0 ≤ j → j ≤ 7 → y + j ∉ ((σ.rds a).rds (a + i)).rd := fun i t h1 h7 ht y hy j j0 j7 hm => by
      obtain ⟨hya, hyn⟩ := ht y hy
      rw [ri i h1 h7] at hm
      have hyN := hN y hyn
      rcases List.mem_append.1 hm with h | h
      · rcases List.mem_append.1 h with h | h
        · exact hr y hyn j j0 j7 h
        · rw [List.mem_singleton] at h
          have := isN_ne hyN ha hya (o := j) (o' := 0) ⟨j0, j7⟩ (by omega)
          omega
      · rw [List.mem_singleton] at h
        exact isN_ne hyN ha hya (o := j) (o' := i) ⟨j0, j7⟩ ⟨by omega, h7⟩ h
    rw [hsz] at hn hf
    unfold tGetL
    rw [show (Tr.nd a l x v r).at' = a from rfl, tIs_nd g ha (by omega), if_pos rfl]
    refine wp_getR S hDa0 fun S => ?_
    rw [Ha.k]
    have est : stp k (.nd a l x v r) = (a, x) :: if x = k then [] else if k < x then stp k l else stp k r := rfl
    rw [est]
    by_cases e : x = k
    · rw [if_pos e, if_pos e]
      refine wp_getR S (hDa 1 (by omega)) fun S => ?_
      refine ⟨S, ?_⟩
      rw [ri 1 (by omega) (by omega)]
      simp
    · rw [if_neg e, if_neg e]
      by_cases e2 : k < x
      · rw [show kidc k x = 2 from if_pos e2, if_pos e2]
        refine wp_getR S (hDa 2 (by omega)) fun S => ?_
        rw [Ha.l]
        refine Prog.wp_mono (wp_getC g hD l f S Hl (fun y hy => hN y (in_l hy)) hnl (by rw [dn_val]; omega) (by omega) (rk' 2 l (by omega) (by omega) fun y hy => ⟨hal y hy, in_l hy⟩)) fun r' σ' ⟨h1, h2⟩ => ⟨h1, ?_⟩
        rw [h2, ri 2 (by omega) (by omega)]
        simp only [List.length_append, List.length_cons, List.length_nil]
        omega
      · rw [show kidc k x = 3 from if_neg e2, if_neg e2]
        refine wp_getR S (hDa 3 (by omega)) fun S => ?_
        rw [Ha.r]
        refine Prog.wp_mono (wp_getC g hD r f S Hr (fun y hy => hN y (in_r hy)) hnr (by rw [dn_val]; omega) (by omega) (rk' 3 r (by omega) (by omega) fun y hy => ⟨har y hy, in_r hy⟩)) fun r' σ' ⟨h1, h2⟩ => ⟨h1, ?_⟩
        rw [h2, ri 3 (by omega) (by omega)]
        simp only [List.length_append, List.length_cons, List.length_nil]
        omega
/-- equal keys, equal shapes -/
theorem shape_eq : ∀ (t1 t2 : Tr), t1.ks = t2.ks → HO t1 → HO t2 → (stp k t1).length = (stp k t2).length
  | .nil, .nil, _, _, _ => rfl
  | .nil, .nd _ l x v r, e, _, _ => by
    have e : ([] : List (Int × Int)) = l.ks ++ (x, v) :: r.ks := e
    simp at e
  | .nd _ l x v r, .nil, e, _, _ => by
    have e : l.ks ++ (x, v) :: r.ks = [] := e
    simp at e
  | .nd a l x v r, .nd b l' y w r', e, h1, h2 => by
    have e : l.ks ++ (x, v) :: r.ks = l'.ks ++ (y, w) :: r'.ks := e
    have ht : TopAt (l.ks ++ (x, v) :: r.ks) (l'.ks.length : Int) := by
      rw [e]
      refine .inr ⟨l'.ks.length, (y, w), rfl, by rw [List.getElem?_append_right (Nat.le_refl _), Nat.sub_self]; rfl, fun z hz => ?_⟩
      rcases List.mem_append.1 hz with h | h
      · exact Int.le_of_lt (h2.1 z (List.mem_append_left _ h))
      · rcases List.mem_cons.1 h with rfl | h
        · exact Int.le_refl _
        · exact Int.le_of_lt (h2.1 z (List.mem_append_right _ h))
    have hl : l.ks.length = l'.ks.length := by have := top_nd ht h1.1; omega
    obtain ⟨e1, e2⟩ := List.append_inj e hl
    injection e2 with e3 e4
    injection e3 with e5 e6
    subst e5
    have i1 := shape_eq l l' e1 h1.2.1 h2.2.1
    have i2 := shape_eq r r' e4 h1.2.2 h2.2.2
    show ((a, x) :: if x = k then [] else if k < x then stp k l else stp k r).length = ((b, x) :: if x = k then [] else if k < x then stp k l' else stp k r').length
    rw [List.length_cons, List.length_cons]
    split
    · rfl
    · split <;> omega
end
section
variable {ks ks' : List (Int × Int)} {cnt : Nat}
set_option maxHeartbeats 800000 in
theorem K_reads37 {n : Nat} {k : Int} (cs : CsX4 S I) (hn : n ≤ 100) (H : ST n ks cnt σ) (c : Cx F h0 h0 [rSpace s σ])
    (hR : ∀ t σ' h', t.ks = ks → HO t → Cx F h0 h' [rSpace s σ'] → ST n ks cnt σ' → R (.int .i64 ((1 + 2 * (stp k t).length : Nat) : Int)) h') : F_simulcastlaw37_reads S I (vT (p37 n) 8) s (.int .i64 ((N37 n : Nat) : Int)) (.int .i64 k) h0 R := by
  have r8 : R64 8 := by decide
  have hnI : 0 ≤ (n : Int) ∧ (n : Int) ≤ 100 := ⟨by omega, by omega⟩
  have hp0 : 0 ≤ (p37 n).nodes ∧ (p37 n).nodes ≤ 1000 := ⟨hnI.1, by show (n : Int) ≤ 1000; omega⟩
  have hH := H
  obtain ⟨_, hcb, m, t, fr, out, S0, X, rfl, hpl⟩ := H
  have hNN : ((N37 n : Nat) : Int) = 24 + 8 * n := by show ((24 + 8 * n : Nat) : Int) = _; omega
  unfold F_simulcastlaw37_reads
  refine c.nw ET (p37 n, 8) rfl fun rt h1 c => ?_
  refine c.mmk .i64 mW fun km h2 c => ?_
  refine Lp1.by (fun (q : Nat × Spc) v h' => v = .int .i64 q.1 ∧ q.1 ≤ N37 n ∧ Sm (D37 n) σ q.2 m 0 ∧ Cx F h0 h' [rSpace s q.2, rVar ET rt (p37 n, 8), rMp .i64 mW (.map (some km)) (knF (fun i => ⟨m (i : Int), 0, 0⟩) q.1)]) (fun q => N37 n - q.1) (0, σ) ⟨rfl, Nat.zero_le _, S0, c⟩ ?_
  clear c
  rintro ⟨j, σ1⟩ v h3 ⟨rfl, hj, S1, c⟩ again hagain
  dsimp only at *
  rw [bin_lss, vb_some]
  refine brd (fun hlt => ?_) fun hge => ?_
  · refine c.cGet cs.toCsD 0 rfl fun h14 c => ?_
    rw [S1.get (a := (j : Int)) ⟨by omega, by omega⟩] at c ⊢
    rw [bldW0, vb_some]
    refine c.mup 2 rfl (j : Int) (⟨m (j : Int), 0, 0⟩ : W3) rfl fun h15 c => ?_
    rw [bin_add, vb_some, wrS (by omega)]
    have ek : updA (knF (fun i => (⟨m (i : Int), 0, 0⟩ : W3)) j) (j : Int) ⟨m (j : Int), 0, 0⟩ = knF (fun i => ⟨m (i : Int), 0, 0⟩) (j + 1) := knF_upd (g := fun i => ⟨m (i : Int), 0, 0⟩) (n := j)
    rw [ek] at c
    exact hagain (j + 1, σ1.rds j) _ _ ⟨rfl, by dsimp only; omega, S1.rds j, c⟩ (by dsimp only; omega)
  have ej : j = N37 n := by omega
  subst ej
  clear hagain again hge
  have hgv : ∀ i, i < N37 n → R64 ((fun i : Nat => (⟨m (i : Int), 0, 0⟩ : W3)) i).v := fun i _ => S1.rg _
  refine c.cNew cs.toCsD 2 rfl (knF_nodup _ _) (knF_val hgv) fun sw h4 c => ?_
  have hkn : ∀ a, (newS (knF (fun i : Nat => (⟨m (i : Int), 0, 0⟩ : W3)) (N37 n))).kn a = if 0 ≤ a ∧ a < ((N37 n : Nat) : Int) then some ⟨m (a.toNat : Int), 0, 0⟩ else none := fun a => newS_knF (g := fun i : Nat => (⟨m (i : Int), 0, 0⟩ : W3)) fun i _ => rfl
  have hvw : ∀ a, D37 n a → (newS (knF (fun i : Nat => (⟨m (i : Int), 0, 0⟩ : W3)) (N37 n))).vw a = m a := fun a ha => by
    unfold Spc.vw
    show (none : Option Int).getD _ = _
    rw [hkn, if_pos ⟨ha.1, by have := ha.2; omega⟩]
    show m (a.toNat : Int) = m a
    rw [Int.toNat_of_nonneg ha.1]
  have hT : Sm (D37 n) (newS (knF (fun i : Nat => (⟨m (i : Int), 0, 0⟩ : W3)) (N37 n))) (newS (knF (fun i : Nat => (⟨m (i : Int), 0, 0⟩ : W3)) (N37 n))) (newS (knF (fun i : Nat => (⟨m (i : Int), 0, 0⟩ : W3)) (N37 n))).vw 0 :=
    Sm.start (fun a ha => by rw [hkn, if_pos ⟨ha.1, by have := ha.2; omega⟩]; rfl) rfl (newS_wf (knF_val hgv))
  have hrd0 : (newS (knF (fun i : Nat => (⟨m (i : Int), 0, 0⟩ : W3)) (N37 n))).rd = [] := rfl
  have c : Cx F h0 h4 [rSpace s σ1, rVar ET rt (p37 n, 8), rSpace sw (newS (knF (fun i : Nat => (⟨m (i : Int), 0, 0⟩ : W3)) (N37 n)))] := c.pick [0, 1, 3]
  generalize newS (knF (fun i : Nat => (⟨m (i : Int), 0, 0⟩ : W3)) (N37 n)) = τ at *
  have G := p37_G hnI
  have hNs : ∀ x ∈ t.ns, isN (p37 n) x := fun x hx => X.isN hx
  have hTR : TR τ.vw t := X.tr.ext fun x hx i i0 i5 => hvw _ (G.dp.n x (hNs x hx) i i0 (by omega))
  have h8D : D37 n 8 := ⟨by decide, by omega⟩
  have hr8 : τ.vw 8 = t.at' := by rw [hvw 8 h8D]; exact X.rt
  have hlen := X.len
  have hlen' : (t.sz : Int) ≤ n := hlen
  have hg : wp (tGet (p37 n) 8 k) τ fun _ σ' => σ'.rd.length = 1 + 2 * (stp k t).length := by
    unfold tGet
    refine wp_getR hT h8D fun hT => ?_
    rw [hr8]
    have e8 : (τ.rds 8).rd = [8] := by rw [rds_new (by rw [hrd0]; simp), hrd0]; rfl
    refine Prog.wp_mono (wp_getC X.P.good G.dp t (p37 n).nodes.toNat hT hTR hNs X.nd (by rw [wk0_val ⟨hp0.1, hp0.2⟩]; omega) (by omega) fun x hx i i0 i7 hm => ?_) fun _ σ' ⟨_, h2⟩ => by rw [h2, e8]; rfl
    rw [e8, List.mem_singleton] at hm
    have := (n37_D hnI (hNs x hx) (i := 0) (by decide)).2
    omega
  rw [tW (i := 1) c rfl, vb_some]
  refine c.last (cs.tget' hp0 r8) 2 rfl hg fun e τ1 h5 c hq => ?_
  have hst : (stp k t).length ≤ 100000 := by
    have : ∀ t : Tr, (stp k t).length ≤ t.sz := fun t => by
      induction t with
      | nil => exact Nat.le_refl _
      | nd a l x v r i1 i2 =>
        show ((a, x) :: if x = k then [] else if k < x then stp k l else stp k r).length ≤ l.sz + r.sz + 1
        rw [List.length_cons]
        split
        · simp
        · split <;> omega
    have := this t
    omega
  refine c.cReads cs.hh 2 rfl (by omega) fun v h6 c => ?_
  rw [(c.sl (i := 3) rfl).sl.ln, vb_some, sorted_len, hq]
  exact hR t σ1 h6 rfl X.ho (c.pick [0]) (hH.look S1 X)
structure CsX5 (S : Sys) (I : Ids) : Prop extends CsX4 S I where
  reads37 : ∀ {n : Nat} {k ks cnt σ s F h0 R}, n ≤ 100 → ST n ks cnt σ → Cx F h0 h0 [rSpace s σ] → (∀ t σ' h', t.ks = ks → HO t → Cx F h0 h' [rSpace s σ'] → ST n ks cnt σ' → R (.int .i64 ((1 + 2 * (stp k t).length : Nat) : Int)) h') →
    S.C I.f_simulcastlaw37_reads [vT (p37 n) 8, s, .int .i64 ((N37 n : Nat) : Int), .int .i64 k] h0 R
/-! ### Keys that are put again -/
theorem mem_put {l : List (Int × Int)} {k v : Int} {y : Int × Int} : y ∈ rPut l k v ↔ (y ∈ l ∧ y.1 ≠ k) ∨ y = (k, v) := by
  unfold rPut
  rw [List.mem_append, List.mem_cons, List.mem_filter, List.mem_filter]
  simp only [decide_eq_true_eq]
  constructor
  · rintro (⟨h1, h2⟩ | h | ⟨h1, h2⟩)
    · exact .inl ⟨h1, by omega⟩
    · exact .inr h
    · exact .inl ⟨h1, by omega⟩
  · rintro (⟨h1, h2⟩ | h)
    · rcases Int.lt_or_gt_of_ne h2 with h | h
      · exact .inl ⟨h1, h⟩
      · exact .inr (.inr ⟨h1, h⟩)
    · exact .inr (.inl h)
theorem mem_drp {l : List (Int × Int)} {k : Int} {y : Int × Int} (h : y ∈ rDrp l k) : y ∈ l := (List.mem_filter.1 h).1
theorem srt_ext : ∀ {a b : List (Int × Int)}, Srt a → Srt b → (∀ y, y ∈ a ↔ y ∈ b) → a = b
  | [], [], _, _, _ => rfl
  | [], y :: b, _, _, h => by have := (h y).2 (List.mem_cons_self ..); cases this
  | x :: a, [], _, _, h => by have := (h x).1 (List.mem_cons_self ..); cases this
  | x :: a, y :: b, ha, hb, h => by
    obtain ⟨ha1, ha2⟩ := List.pairwise_cons.1 ha
    obtain ⟨hb1, hb2⟩ := List.pairwise_cons.1 hb
    have e : x = y := by
      rcases List.mem_cons.1 ((h x).1 (List.mem_cons_self ..)) with h1 | h1
      · exact h1
      · rcases List.mem_cons.1 ((h y).2 (List.mem_cons_self ..)) with h2 | h2
        · exact h2.symm
        · have := hb1 x h1; have := ha1 y h2; omega
    subst e
    rw [srt_ext ha2 hb2 fun z => ⟨fun hz => by
      rcases List.mem_cons.1 ((h z).1 (List.mem_cons_of_mem _ hz)) with rfl | h1
      · have := ha1 z hz; omega
      · exact h1, fun hz => by
      rcases List.mem_cons.1 ((h z).2 (List.mem_cons_of_mem _ hz)) with rfl | h1
      · have := hb1 z hz; omega
      · exact h1⟩]
theorem srt_len {ks : List (Int × Int)} {keys : List Int} (hs : Srt ks) (h : ∀ y ∈ ks, y.1 ∈ keys) : ks.length ≤ keys.length := by
  have hnd : (kI ks).Nodup := List.pairwise_map.2 (hs.imp fun h => Int.ne_of_lt h)
  have := nodup_sub hnd fun a ha => by
    obtain ⟨y, hy, rfl⟩ := List.mem_map.1 ha
    exact h y hy
  rwa [List.length_map] at this
/-- the value that goes with a key -/
def val3 (k : Int) : Int := w64 (k * 3)
theorem ST.putk {n : Int} {keys : List Int} {k v : Int} (H : ST n ks cnt σ) (hk : R64 k) (hv : R64 v) (hb : cnt + 3000 + 10000 ≤ big) (hin : ∀ y ∈ ks, y.1 ∈ keys) (hl : (keys.length : Int) < n) : wp (tPut (p37 n) 8 k v) σ fun _ σ' => ST n (rPut ks k v) (cnt + 3000) σ' :=
  Prog.wp_mono (H.put hk hv hb) fun e σ' hq => by
    rcases hq with ⟨_, h2, _⟩ | ⟨_, _, h3⟩
    · have := srt_len H.srt hin
      omega
    · exact h3
def EU8 : Enc Int := { n := 1, c := fun i => [.int .u8 i], len := fun _ => rfl, one := fun a v h => by simp only [List.mem_singleton] at h; subst h; rfl }
end
end Go.En
namespace Go.En
open Prog Spc Go.Sort

variable {S : Sys} {I : Ids} {h h0 h' : Hp} {F F0 : Fp} {R : Value → Hp → Prop} {L : List Res} {s : Value} {σ σ0 τ : Spc}
section
variable {b1 b2 : Value} {keys us : List Int}
set_option maxHeartbeats 1600000 in
set_option maxRecDepth 4000 in
theorem L_TreeOrders {k : Int} (cs : CsX5 S I) (s0 : Sl EI1 h b1 keys) (w0 : ∀ x ∈ keys, R64 x) (s1 : Sl EU8 h b2 us) (w1 : ∀ x ∈ us, 0 ≤ x ∧ x ≤ 255) (_ : R64 k) (hR : ∀ h', Gr h h' → R (.bool true) h') : F_simulcastlaw37_TreeOrders S I b1 b2 (.int .i64 k) h R := by
  have h8 : (0 : Int) ≤ 8 ∧ (8 : Int) ≤ 4000 := by decide
  have r8 : R64 8 := by decide
  have hp0 : 0 ≤ (p37 24).nodes ∧ (p37 24).nodes ≤ 1000 := by decide
  unfold F_simulcastlaw37_TreeOrders
  refine cs.awake37 fun h1 g => ?_
  have c := (Cx.start0 h).more g
  rw [uno_nb, vb_some, Bool.not_true, br_false]
  refine Jn1.at (fun v h' => ∃ bb : Bool, v = .bool bb ∧ (bb = false → keys.length ≤ 20 ∧ us.length ≤ 60) ∧ h' = h1) ?_ ?_
  · rw [s0.ln, vb_some, bin_gtr, vb_some]
    refine brd (fun h2 => ⟨true, rfl, (fun e => by cases e), rfl⟩) fun h2 => ?_
    rw [s1.ln, vb_some, bin_gtr, vb_some]
    exact ⟨_, rfl, fun e => ⟨by omega, by have := of_decide_eq_false e; omega⟩, rfl⟩
  rintro v h2 ⟨bb, rfl, hbb, rfl⟩
  cases bb with
  | true => rw [br_true]; exact hR _ c.gr
  | false =>
  obtain ⟨hkl, hul⟩ := hbb rfl
  rw [br_false]
  refine cs.made37 (n := 24) ⟨by decide, by decide⟩ fun h3 g => ?_
  have c := c.more g
  rw [show (24 + 8 * (24 : Int)) = ((N37 24 : Nat) : Int) from rfl]
  refine ext0t (ext1t ?_)
  refine c.nw ET (⟨0, 0, 0⟩, 0) rfl fun rt h4 c => ?_
  refine c.sto 0 rfl (p37 24, 8) rfl rfl fun h5 c => ?_
  refine cs.empty37 (N := N37 24) (by decide) fun sa h6 c2 => ?_
  have c := c.frame0 c2
  clear c2
  refine cs.empty37 (N := N37 24) (by decide) fun sb h7 c2 => ?_
  have c := c.frame0 c2
  clear c2
  have H0 : ST 24 [] 0 (newS (knF (fun _ => W0) (N37 24))) := ST.start (j := 24) (by decide) fun _ => rfl
  generalize newS (knF (fun _ => W0) (N37 24)) = σ0 at *
  -- the keys in their order
  refine Lp1.by (fun (q : Nat × Spc × List (Int × Int)) v h' => v = .int .i64 q.1 ∧ q.1 ≤ keys.length ∧ ST 24 q.2.2 (3000 * q.1) q.2.1 ∧ (∀ y, y ∈ q.2.2 ↔ y.1 ∈ keys.take q.1 ∧ y.2 = val3 y.1) ∧ Cx (fun _ => False) h h' [rVar ET rt (p37 24, 8), rSpace sa q.2.1, rSpace sb σ0]) (fun q => keys.length - q.1) (0, σ0, [])
    ⟨rfl, Nat.zero_le _, H0, (fun y => ⟨(fun h => by cases h), fun h => by simp at h⟩), c⟩ ?_
  clear c
  rintro ⟨i, σ, ks⟩ v h9 ⟨rfl, hi, H, hks, c⟩ again hagain
  dsimp only at *
  rw [s0.ln, vb_some, bin_lss, vb_some]
  refine brd (fun hlt => ?_) fun hge => ?_
  · have hx : keys[i]? = some keys[i] := List.getElem?_eq_getElem (by omega)
    have hxR := w0 keys[i] (List.getElem_mem _)
    generalize keys[i] = x at *
    rw [tW (i := 0) c rfl, vb_some]
    refine (s0.gr c.gr).one rfl hx rfl rfl ?_
    refine (s0.gr c.gr).one rfl hx rfl rfl ?_
    rw [show bin .mul (.int .i64 x) (.int .i64 3) = some (.int .i64 (val3 x)) from bin_mul, vb_some]
    have hvR : R64 (val3 x) := w64_in _
    refine c.last (cs.tput' hp0 h8 hxR) 1 rfl (H.putk (keys := keys) hxR hvR (by unfold big; omega) (fun y hy => List.mem_of_mem_take ((hks y).1 hy).1) (by omega)) fun e σ' h10 c H' => ?_
    rw [bin_add, vb_some, wrS (by omega)]
    refine hagain (i + 1, σ', rPut ks x (val3 x)) _ _ ⟨rfl, by dsimp only; omega, H', fun y => ?_, c⟩ (by dsimp only; omega)
    have et : keys.take (i + 1) = keys.take i ++ [x] := by rw [List.take_add_one, hx]; rfl
    rw [et, List.mem_append, List.mem_singleton, mem_put, hks]
    constructor
    · rintro (⟨⟨h1, h2⟩, _⟩ | rfl)
      · exact ⟨.inl h1, h2⟩
      · exact ⟨.inr rfl, rfl⟩
    · rintro ⟨h1, h2⟩
      by_cases e : y.1 = x
      · exact .inr (by rw [← e, ← h2])
      · exact .inl ⟨⟨h1.resolve_right e, h2⟩, e⟩
  have ei : i = keys.length := by omega
  subst ei
  rw [List.take_length] at hks
  clear hagain again hge
  -- random turns
  refine Lp1.by (fun (q : Nat × Spc × List (Int × Int)) v h' => v = .int .i64 q.1 ∧ q.1 ≤ us.length ∧ ST 24 q.2.2 (3000 * q.1) q.2.1 ∧ (∀ y ∈ q.2.2, y.1 ∈ keys) ∧ Cx (fun _ => False) h h' [rVar ET rt (p37 24, 8), rSpace sa σ, rSpace sb q.2.1]) (fun q => us.length - q.1) (0, σ0, [])
    ⟨rfl, Nat.zero_le _, H0, (fun y hy => by cases hy), c⟩ ?_
  clear c H0
  rintro ⟨i, σb, kb⟩ v h10 ⟨rfl, hi, Hb, hkb, c⟩ again hagain
  dsimp only at *
  refine Jn1.at (fun v h' => v = .bool (decide (i < us.length ∧ 0 < keys.length)) ∧ h' = h10) ?_ ?_
  · rw [s1.ln, vb_some, bin_lss, vb_some]
    refine brd (fun h3 => ?_) fun h3 => ?_
    · rw [vb_some, bin_gtr, vb_some]
      exact ⟨by congr 1; exact decide_eq_decide.2 ⟨fun h => ⟨by omega, by omega⟩, fun h => by omega⟩, rfl⟩
    · exact ⟨by rw [decide_eq_false (by rintro ⟨h, _⟩; omega)], rfl⟩
  rintro v h11 ⟨rfl, rfl⟩
  refine brd (fun hlt => ?_) fun hge => ?_
  · have hx : us[i]? = some us[i] := List.getElem?_eq_getElem (by omega)
    have hxR := w1 us[i] (List.getElem_mem _)
    generalize us[i] = u at *
    refine Jn0.at (fun h' => ∃ σ' ks', ST 24 ks' (3000 * (i + 1)) σ' ∧ (∀ y ∈ ks', y.1 ∈ keys) ∧ Cx (fun _ => False) h h' [rVar ET rt (p37 24, 8), rSpace sa σ, rSpace sb σ']) ?_ ?_
    · refine (s1.gr c.gr).one rfl hx rfl rfl ?_
      have ec : cvi .i64 (.int .u8 u) = some (.int .i64 u) := by rw [cvi_int, wr64 ⟨by omega, by omega⟩]
      have hlt2 : u.toNat % keys.length < keys.length := Nat.mod_lt _ (by omega)
      have hkx : keys[u.toNat % keys.length]? = some keys[u.toNat % keys.length] := List.getElem?_eq_getElem hlt2
      have hkm : keys[u.toNat % keys.length] ∈ keys := List.getElem_mem _
      have ez : u.tmod keys.length = ((u.toNat % keys.length : Nat) : Int) := by
        rw [Int.tmod_eq_emod_of_nonneg (by omega), Int.natCast_emod, Int.toNat_of_nonneg (by omega)]
      generalize keys[u.toNat % keys.length] = x at *
      have hxk := w0 x hkm
      rw [ec, vb_some, vb_some, bin_rem (by omega), vb_some]
      refine (s0.gr c.gr).one rfl hkx ez rfl ?_
      refine (s1.gr c.gr).one rfl hx rfl rfl ?_
      rw [show bin .rem (.int .u8 u) (.int .u8 3) = some (.int .u8 (u % 3)) by rw [bin_rem (by omega), Int.tmod_eq_emod_of_nonneg hxR.1], vb_some, bin_eql, vb_some]
      refine brd (fun _ => ?_) fun _ => ?_
      · rw [tW (i := 0) c rfl, vb_some]
        refine c.last (cs.tdrop' hp0 h8) 2 rfl (Hb.drop (k := x) (by unfold big; omega)) fun e σ' h12 c hq => ?_
        exact ⟨σ', _, hq.2, fun y hy => hkb y (mem_drp hy), c⟩
      · rw [tW (i := 0) c rfl, vb_some]
        refine (s1.gr c.gr).one rfl hx rfl rfl ?_
        rw [ec, vb_some]
        refine c.last (cs.tput' hp0 h8 hxk) 2 rfl (Hb.putk (keys := keys) (v := u) hxk ⟨by omega, by omega⟩ (by unfold big; omega) hkb (by omega)) fun e σ' h12 c H' => ?_
        refine ⟨σ', _, H', fun y hy => ?_, c⟩
        rcases mem_put.1 hy with ⟨h1, _⟩ | rfl
        · exact hkb y h1
        · exact hkm
    · clear c
      rintro h12 ⟨σ', ks', H', hk', c⟩
      rw [bin_add, vb_some, wrS (by omega)]
      exact hagain (i + 1, σ', ks') _ _ ⟨rfl, by dsimp only; omega, H', hk', c⟩ (by dsimp only; omega)
  clear hagain again hge
  -- the keys once more, from the last to the first
  have Hb' : ST 24 kb 180000 σb := Hb.mono (by omega) (by unfold big; omega)
  rw [vb_some]
  refine En.vb (v := .int .i64 ((keys.length : Int) - 1)) (by rw [bin_sub, wr64 ⟨by omega, by omega⟩]) ?_
  refine Lp1.by (fun (q : Nat × Spc × List (Int × Int)) v h' => v = .int .i64 ((q.1 : Int) - 1) ∧ q.1 ≤ keys.length ∧ ST 24 q.2.2 (180000 + 3000 * (keys.length - q.1)) q.2.1 ∧ (∀ y ∈ q.2.2, y.1 ∈ keys) ∧ (∀ x ∈ keys.drop q.1, (x, val3 x) ∈ q.2.2) ∧ (∀ y ∈ q.2.2, y.1 ∈ keys.drop q.1 → y.2 = val3 y.1) ∧
      Cx (fun _ => False) h h' [rVar ET rt (p37 24, 8), rSpace sa σ, rSpace sb q.2.1]) (fun q => q.1) (keys.length, σb, kb)
    ⟨rfl, Nat.le_refl _, by rw [Nat.sub_self]; exact Hb', hkb, (fun x hx => by rw [List.drop_length] at hx; cases hx), (fun y _ hx => by rw [List.drop_length] at hx; cases hx), c⟩ ?_
  clear c Hb' Hb hkb
  rintro ⟨j, σb, kb⟩ v h12 ⟨rfl, hj, Hb, hkb, hk1, hk2, c⟩ again hagain
  dsimp only at *
  rw [bin_geq, vb_some]
  refine brd (fun hlt => ?_) fun hge => ?_
  · obtain ⟨j, rfl⟩ : ∃ j', j = j' + 1 := ⟨j - 1, by omega⟩
    have hx : keys[j]? = some keys[j] := List.getElem?_eq_getElem (by omega)
    have hm := List.getElem_mem (l := keys) (n := j) (by omega)
    have ed : keys.drop j = keys[j] :: keys.drop (j + 1) := List.drop_eq_getElem_cons (by omega)
    have hxR := w0 keys[j] hm
    generalize keys[j] = x at *
    rw [tW (i := 0) c rfl, vb_some]
    refine (s0.gr c.gr).one rfl hx (by omega) rfl ?_
    refine (s0.gr c.gr).one rfl hx (by omega) rfl ?_
    rw [show bin .mul (.int .i64 x) (.int .i64 3) = some (.int .i64 (val3 x)) from bin_mul, vb_some]
    have hvR : R64 (val3 x) := w64_in _
    refine c.last (cs.tput' hp0 h8 hxR) 2 rfl (Hb.putk (keys := keys) hxR hvR (by unfold big; omega) hkb (by omega)) fun e σ' h13 c H' => ?_
    refine En.vb (v := .int .i64 ((j : Int) - 1)) (by rw [bin_sub, wr64 ⟨by omega, by omega⟩]; congr 2; omega) ?_
    refine hagain (j, σ', rPut kb x (val3 x)) _ _ ⟨rfl, by dsimp only; omega, H'.mono (by dsimp only; omega) (by unfold big; dsimp only; omega), fun y hy => ?_, fun y hy => ?_, fun y hy hd => ?_, c⟩ (by dsimp only; omega)
    · rcases mem_put.1 hy with ⟨h1, _⟩ | rfl
      · exact hkb y h1
      · exact hm
    · rw [ed] at hy
      by_cases e : y = x
      · rw [e]; exact mem_put.2 (.inr rfl)
      · exact mem_put.2 (.inl ⟨hk1 y ((List.mem_cons.1 hy).resolve_left e), e⟩)
    · rcases mem_put.1 hy with ⟨h1, h2⟩ | rfl
      · rw [ed] at hd
        exact hk2 y h1 ((List.mem_cons.1 hd).resolve_left h2)
      · rfl
  have ej : j = 0 := by omega
  subst ej
  clear hagain again hge
  rw [List.drop_zero] at hk1 hk2
  have eks : kb = ks := srt_ext Hb.srt H.srt fun y => by
    rw [hks]
    constructor
    · exact fun hy => ⟨hkb y hy, hk2 y hy (hkb y hy)⟩
    · rintro ⟨h1, h2⟩
      have := hk1 y.1 h1
      rwa [← h2] at this
  subst eks
  refine .here ?_
  rw [tW (i := 0) c rfl, vb_some, vb_some]
  obtain ⟨F1, c1, up⟩ := c.frame (i := 1) rfl
  refine cs.reads37 (n := 24) (by decide) H c1 fun t1 σ1 h13 et1 ht1 c2 H1 => ?_
  have c := up (M := []) c2
  refine ⟨tW (i := 0) c rfl, ?_⟩
  obtain ⟨F1, c1, up⟩ := c.frame (i := 2) rfl
  refine cs.reads37 (n := 24) (by decide) Hb c1 fun t2 σ2 h14 et2 ht2 c2 H2 => ?_
  have c := up (M := []) c2
  rw [shape_eq t1 t2 (et1.trans et2.symm) ht1 ht2, eqI, vb_some, br_true, tW (i := 0) c rfl, vb_some, bin_addw, vb_some, vb_some, vb_some]
  refine c.last (cs.tsum hp0 r8) 1 rfl H1.btw fun e σ3 h15 c hq => ?_
  obtain ⟨rfl, H3⟩ := hq
  refine ⟨tW (i := 0) c rfl, ?_⟩
  refine c.last (cs.tsum hp0 r8) 2 rfl H2.btw fun e σ4 h16 c hq => ?_
  obtain ⟨rfl, H4⟩ := hq
  unfold uI
  rw [eqI, vb_some, br_true, tW (i := 0) c rfl, vb_some, vb_some]
  refine c.last (cs.tlen h8) 1 rfl H3.len' fun e σ5 h17 c hq => ?_
  obtain ⟨rfl, H5⟩ := hq
  refine ⟨tW (i := 0) c rfl, ?_⟩
  refine c.last (cs.tlen h8) 2 rfl H4.len' fun e σ6 h18 c hq => ?_
  obtain ⟨rfl, H6⟩ := hq
  unfold uI
  rw [eqI, vb_some]
  exact hR _ c.gr
end
end Go.En
namespace Go.En
open Go.ChangeShapes Go.WideShapes Prog Go.Sort
theorem csX5 : CsX5 (Sys.of Go.Proofs.Try.prog) ids := { csX4 with
  reads37 := fun a b c k => C_simulcastlaw37_reads (K_reads37 csX4 a b c k) }
theorem el_u8 {H : Type} {enc : TypeId × Value → H} {P : Program} {W : World} {e : TypeId} (he : P.underlying e = some (.int .u8)) : ∀ n cs y, DataW.trod enc P W 0 (fun _ => true) true n e cs = some y → ∃ x : Int, cs = [.int .u8 x] ∧ (0 ≤ x ∧ x ≤ 255) := by
  intro n cs y h
  obtain ⟨z, rfl, _, hw⟩ := DataW.trod_int he h
  exact ⟨z, rfl, wf_u8 hw⟩
end Go.En
