/-
  Layer 33: the law Nodes.
-/
import Derived.Test.YtalhmlnmbgpleaaDoorYD
import Derived.Test.YtalhmlnmbgpleaaDoorXD
namespace Go.En
open Prog Spc Go.Sort

variable {S : Sys} {I : Ids} {h h0 h' : Hp} {F F0 : Fp} {R : Value → Hp → Prop} {L : List Res} {s : Value} {σ τ : Spc}
structure CsS12' (S : Sys) (I : Ids) : Prop extends CsS8' S I where
  free : ∀ {α : Type} {A : α → Res} {fn : Value} {p : Pl} {m : Int → Int} {x0 : α} {F0 h0 h R}, p.good → (∀ a, R64 (m a)) →
    (∀ x a h F R, (a = p.root ∨ (p.node a).isSome = true) → (A x).P h F → (∀ x' h' F', (A x').P h' F' → Mv F h F' h' → R (.int .i64 (m a)) h') → Cv S.C S.Y fn [.int .i64 a] h R) →
    Cx F0 h0 h [A x0] → (∀ x v h', Cx F0 h0 h' [A x, rSl EI1 v ((freeM p m p.nodes.toNat (m p.root) []).getD [])] → R (.tuple #[v, .int .i64 (if (freeM p m p.nodes.toNat (m p.root) []).isSome then 0 else 24)]) h') →
    S.C I.f_pool_Pool_Free [vP p, fn] h R
  unod1 : ∀ {a b : Value} {h K}, F_simulcastlaw33_StackNodes_1 S I a b h K → S.C I.f_simulcastlaw33_StackNodes_1 [a, b] h K
def ix33 (x : Int) : Int := (x - 64) / 8
abbrev used33 (N : List Int) (q : Nat) : List (Int × Bool) := (N.take q).map fun y => (ix33 y, true)
theorem used_step {N : List Int} {q : Nat} {x : Int} (hnd : (N.map ix33).Nodup) (hx : N[q]? = some x) : updA (used33 N q) (ix33 x) true = used33 N (q + 1) ∧ lookA (used33 N q) (ix33 x) = none := by
  obtain ⟨hq, hxe⟩ := List.getElem?_eq_some_iff.1 hx
  have e : N = N.take q ++ x :: N.drop (q + 1) := by
    have h1 := List.drop_eq_getElem_cons hq
    rw [hxe] at h1
    rw [← h1, List.take_append_drop]
  have hno : ix33 x ∉ (N.take q).map ix33 := fun hm => by
    rw [e, List.map_append, List.nodup_append] at hnd
    exact hnd.2.2 _ hm _ (List.mem_map.2 ⟨x, List.mem_cons_self .., rfl⟩) rfl
  have hl : lookA (used33 N q) (ix33 x) = none := by
    unfold lookA
    rw [Option.map_eq_none_iff, List.find?_eq_none]
    intro p hp
    obtain ⟨y, hy, rfl⟩ := List.mem_map.1 hp
    simp only [beq_iff_eq]
    exact fun e => hno (List.mem_map.2 ⟨y, hy, e⟩)
  refine ⟨?_, hl⟩
  rw [updA_end hl]
  show _ = (N.take (q + 1)).map _
  rw [List.take_add_one, hx, List.map_append]; rfl
section
variable {x : X33} {n : Int} {ps : List (Int × W3)} {m : Int → Int} {V : Int} {b1 : Value} {cl : List C33}
theorem WoR.lk33 (W : WoR 192 ps m V) {a : Int} (ha : D33 a) : ∃ w, lookA ps a = some w ∧ w.v = m a := by
  obtain ⟨w, hw⟩ := Option.isSome_iff_exists.1 ((W.dom a).2 ⟨ha.1, ha.2⟩)
  exact ⟨w, hw, (W.val a w hw).1⟩
/-- a word's value in the state's world -/
theorem Cx.word {r5 i i2 : Nat} (c : Cx F0 h0 h L) (hi : L[i]? = some (rVar ESt r5 x)) (hi2 : L[i2]? = some (rMp .i64 mW (.map x.k) ps)) (W : WoR 192 ps m V) {a : Int} (ha : D33 a) {k : Value → Prop} (hk : k (.int .i64 (m a))) :
    Vb (fa 0 (at0 r5)) fun v => Vb (ldc v h) fun v => Vb (lkm (.int .i64) (Value.agg #[Value.int IntKind.i64 0, Value.int IntKind.u32 0, Value.int IntKind.u32 0]) false v (.int .i64 a) h) fun v => Vb (fdc 0 v) k := by
  refine (c.va hi).fld (j := 0) rfl ?_
  obtain ⟨w, hw, hv⟩ := W.lk33 ha
  rw [(c.mp hi2).look, vb_some, hw]
  refine En.vb (show fdc 0 (mW w) = some (.int .i64 w.v) from rfl) ?_
  rw [hv]; exact hk
set_option maxRecDepth 4000 in
set_option maxHeartbeats 3200000 in
theorem L_StackNodes (cs : CsS12' S I) (hn0 : 0 ≤ n ∧ n ≤ 255) (s1 : Sl ECs h b1 cl) (w1 : ∀ y ∈ cl, y.ok) (hRt : Rt (fun _ => False) h) (hR : ∀ h', Gr h h' → R (.bool true) h') : F_simulcastlaw33_StackNodes S I (.int .u8 n) b1 h R := by
  unfold F_simulcastlaw33_StackNodes
  refine cs.great s1 ?_
  refine brd (fun _ => cs.awake hRt hR) fun hlen => ?_
  refine cs.played hn0 s1 w1 (by omega) hRt fun x ps m h1 H c => ?_
  generalize acts33 (n % 17) cl = l at *
  generalize n % 17 = n at *
  have hn := H.nn
  have W := H.W
  obtain ⟨l0, l1, fr, out, t⟩ := H.T
  have hG := t.P.good
  have hD := p33_D hn
  have ho1 : out ≤ n := t.P.out1
  have ho0 := t.P.out0
  have hcnt := t.cnt
  -- all nodes
  have hmem : ∀ y ∈ fr ++ (l0 ++ l1), ∃ i, 0 ≤ i ∧ i < out ∧ y = 64 + 8 * i := fun y hy => by
    rcases List.mem_append.1 hy with hy | hy
    · exact t.P.fN y hy
    · exact (t.ha y hy).1
  have hNd : (fr ++ (l0 ++ l1)).Nodup := by
    rw [List.nodup_append]
    exact ⟨t.P.nd, t.nd, fun a ha b hb e => (t.ha b hb).2 (e ▸ ha)⟩
  have hix : ((fr ++ (l0 ++ l1)).map ix33).Nodup := by
    rw [List.Nodup, List.pairwise_map]
    refine List.Pairwise.imp_of_mem (fun {a b} ha hb hab e => ?_) hNd
    obtain ⟨i, _, _, ei⟩ := hmem a ha
    obtain ⟨k, _, _, ek⟩ := hmem b hb
    unfold ix33 at e
    exact hab (by omega)
  have hnode : ∀ y ∈ fr ++ (l0 ++ l1), (p33 n).node y = some (ix33 y) := fun y hy => by
    obtain ⟨i, i0, i1, e⟩ := hmem y hy
    have hk := node_at hG i0 (show i < (p33 n).nodes by show i < n; omega)
    have e2 : ix33 y = i := by unfold ix33; omega
    rw [e2, e]; exact hk
  have hll : ∀ j, j = 0 ∨ j = 1 → Lk m 0 (m (rt j)) (if j = 0 then l0 else l1) ∧ m (rt j + 1) = ((if j = 0 then l0 else l1).length : Int) ∧ ∀ q, q < (if j = 0 then l0 else l1).length → (fr ++ (l0 ++ l1))[(fr.length + if j = 0 then 0 else l0.length) + q]? = (if j = 0 then l0 else l1)[q]? := fun j hj => by
    rcases hj with rfl | rfl
    · refine ⟨t.a.lk, t.a.n1, fun q hq => ?_⟩
      rw [if_pos rfl] at hq ⊢
      rw [if_pos rfl, List.getElem?_append_right (by omega), List.getElem?_append_left (by omega)]
      congr 1; omega
    · refine ⟨t.b.lk, t.b.n1, fun q hq => ?_⟩
      rw [if_neg (by decide)] at hq ⊢
      rw [if_neg (by decide), List.getElem?_append_right (by omega), List.getElem?_append_right (by omega)]
      congr 1; omega
  have hNl : (fr ++ (l0 ++ l1)).length = fr.length + (l0.length + l1.length) := by rw [List.length_append, List.length_append]
  have hfN : ∀ q, q < fr.length → (fr ++ (l0 ++ l1))[q]? = fr[q]? := fun q hq => by rw [List.getElem?_append_left hq]
  have e2 : m 2 = out := t.P.outE
  have e3 : m 3 = fr.length := t.P.frE
  have hfree : freeM (p33 n) m (p33 n).nodes.toNat (m (p33 n).root) [] = some ([] ++ fr.map fun x => (x - (p33 n).frm) / 8) := freeM_lk hG [] t.P.link (fun x hx => t.P.isN hx) (by show fr.length ≤ n.toNat; omega)
  generalize fr ++ (l0 ++ l1) = N at *
  refine ext0t (ext1t ?_)
  refine c.nw ESt X0 rfl fun r5 h2 c => ?_
  refine c.sto 3 rfl x rfl rfl fun h3 c => ?_
  rw [uno_nb, vb_some, Bool.not_true, br_false]
  refine c.getP (i := 3) rfl ?_
  rw [vb_some, H.p]
  have c := Cx.pack (L := []) (M := [rMp .i64 mW (.map x.k) ps, rVar ESt r5 x]) (c.pick [0, 3])
  refine cs.free (A := fun _ : Unit => rStar [rMp .i64 mW (.map x.k) ps, rVar ESt r5 x]) (m := m) (x0 := ()) hG W.rg (fun _ a h F R ha pa k => ?_) c fun _ v h4 c => ?_
  · refine .inl ⟨_, _, _, rfl, cs.unod1 ?_⟩
    have hda : D33 a := by
      rcases ha with rfl | ha
      · have := hD.r 0 (by decide) (by decide)
        rwa [Int.add_zero] at this
      · have := hD.n a (node_isN ha) 0 (by decide) (by decide)
        rwa [Int.add_zero] at this
    unfold F_simulcastlaw33_StackNodes_1
    exact (Cx.star pa).word (i := 1) rfl (i2 := 0) rfl W hda (k () h F pa (.refl _ _))
  rw [hfree] at c ⊢
  have c := Cx.unpack (L := [rSl EI1 v (fr.map ix33)]) (M := [rMp .i64 mW (.map x.k) ps, rVar ESt r5 x]) (c.pick [1, 0])
  refine ext0t (ext1t ?_)
  rw [show (if (some ([] ++ fr.map fun x => (x - (p33 n).frm) / 8)).isSome = true then (0 : Int) else 24) = 0 from rfl, neI, vb_some, br_false]
  refine c.mmk .i64 Value.bool fun k1 h5 c => ?_
  rw [(c.sl (i := 0) rfl).sl.ln, List.length_map, vb_some]
  refine Lp1.by (fun (i : Nat) v' h' => v' = .int .i64 i ∧ i ≤ fr.length ∧ Cx (fun _ => False) h h' [rSl EI1 v (fr.map ix33), rMp .i64 mW (.map x.k) ps, rVar ESt r5 x, rMp .i64 Value.bool (.map (some k1)) (used33 N i)]) (fun i => fr.length - i) 0 ⟨rfl, Nat.zero_le _, c⟩ ?_
  clear c
  rintro i v' h6 ⟨rfl, hi, c⟩ again hagain
  rw [bin_lss, vb_some]
  refine brd (fun hlt => ?_) fun hge => ?_
  · have hlt : i < fr.length := by omega
    have hx : fr[i]? = some fr[i] := List.getElem?_eq_getElem hlt
    have hx2 := (hfN i hlt).trans hx
    generalize fr[i] = y at *
    refine (c.sl (i := 0) rfl).sl.one (i := i) (x := ix33 y) rfl (by rw [List.getElem?_map, hx]; rfl) rfl rfl ?_
    refine c.mup 3 rfl (ix33 y) true rfl fun h7 c => ?_
    rw [(used_step hix hx2).1] at c
    rw [bin_add, vb_some, wrS (by omega)]
    exact hagain (i + 1) _ _ ⟨rfl, by omega, c⟩ (by omega)
  have ei : i = fr.length := by omega
  subst ei
  clear hagain again hge hi
  refine En.vb ((c.toRt hRt).row.lda (n := 2) rfl) ?_
  refine Lp1.by (fun (j : Nat) v' h' => v' = .int .i64 j ∧ j ≤ 2 ∧ Cx (fun _ => False) h h' [rSl EI1 v (fr.map ix33), rMp .i64 mW (.map x.k) ps, rVar ESt r5 x, rMp .i64 Value.bool (.map (some k1)) (used33 N (fr.length + if j = 0 then 0 else if j = 1 then l0.length else l0.length + l1.length))]) (fun j => 2 - j) 0 ⟨rfl, by decide, c⟩ ?_
  clear c
  rintro j v' h7 ⟨rfl, hj2, c⟩ again hagain
  rw [bin_lss, vb_some]
  refine brd (fun hlt => ?_) fun hge => ?_
  · have hj : j = 0 ∨ j = 1 := by omega
    have hr := r33_j hn hj
    have r0 := hr.D 0 (by omega) (by omega)
    rw [Int.add_zero] at r0
    have r1 := hr.D 1 (by omega) (by omega)
    obtain ⟨hlk, hl1, hNq⟩ := hll j hj
    have c : Cx (fun _ => False) h h7 [rSl EI1 v (fr.map ix33), rMp .i64 mW (.map x.k) ps, rVar ESt r5 x, rMp .i64 Value.bool (.map (some k1)) (used33 N ((fr.length + if j = 0 then 0 else l0.length) + 0))] := by
      rcases hj with rfl | rfl
      · exact c
      · exact c
    have hnext : (fr.length + if j + 1 = 0 then 0 else if j + 1 = 1 then l0.length else l0.length + l1.length) = (fr.length + if j = 0 then 0 else l0.length) + (if j = 0 then l0 else l1).length := by
      rcases hj with rfl | rfl
      · simp
      · simp; omega
    have hlx : ∀ y ∈ (if j = 0 then l0 else l1), ∃ q, q < (if j = 0 then l0 else l1).length ∧ (if j = 0 then l0 else l1)[q]? = some y := fun y hy => by
      obtain ⟨q, hq⟩ := List.getElem?_of_mem hy
      exact ⟨q, (List.getElem?_eq_some_iff.1 hq).1, hq⟩
    have hlb : (if j = 0 then l0 else l1).length ≤ 16 := by
      split <;> omega
    generalize (if j = 0 then l0 else l1) = ll at *
    generalize (fr.length + if j = 0 then 0 else l0.length) = off at *
    rw [idc_rt hj, vb_some]
    refine c.word (i := 2) rfl (i2 := 1) rfl W r0 ?_
    refine (c.va (i := 2) rfl).fld (j := 0) rfl ?_
    refine En.vb (addI ⟨by have := (rt_le (j := j)); omega, by have := (rt_le (j := j)); omega⟩) ?_
    obtain ⟨w1', hw1, hv1⟩ := W.lk33 r1
    rw [(c.mp (i := 1) rfl).look, vb_some, hw1]
    refine En.vb (show fdc 0 (mW w1') = some (.int .i64 w1'.v) from rfl) ?_
    rw [hv1, hl1]
    refine Lp2.by (fun (z : Nat × Int) a v' h' => a = .int .i64 z.2 ∧ v' = .int .i64 z.1 ∧ z.1 ≤ ll.length ∧ Lk m 0 z.2 (ll.drop z.1) ∧ Cx (fun _ => False) h h' [rSl EI1 v (fr.map ix33), rMp .i64 mW (.map x.k) ps, rVar ESt r5 x, rMp .i64 Value.bool (.map (some k1)) (used33 N (off + z.1))]) (fun z => ll.length - z.1) (0, m (rt j)) ⟨rfl, rfl, Nat.zero_le _, hlk, c⟩ ?_
    clear c
    rintro ⟨q, a⟩ a' v' h8 ⟨rfl, rfl, hq, hlk, c⟩ again2 hagain2
    dsimp only at *
    rw [bin_lss, vb_some]
    refine brd (fun hlt2 => ?_) fun hge2 => ?_
    · have hlt2 : q < ll.length := by omega
      rw [List.drop_eq_getElem_cons hlt2] at hlk
      obtain ⟨ea, hlk⟩ := hlk
      have hx : ll[q]? = some ll[q] := List.getElem?_eq_getElem hlt2
      have hx2 := (hNq q hlt2).trans hx
      generalize ll[q] = y at *
      subst ea
      rw [Int.add_zero] at hlk
      have hyN := List.mem_of_getElem? hx2
      have hno := hnode a hyN
      have hlt3 := node_lt hno
      have hD0 := hD.n a (node_isN (by rw [hno]; rfl)) 0 (by omega) (by omega)
      rw [Int.add_zero] at hD0
      refine c.getP (i := 2) rfl ?_
      rw [H.p]
      refine c.pur (cs.node ⟨by omega, by omega⟩) fun h9 c => ?_
      rw [hno]
      unfold vN
      refine ext0t (ext1t ?_)
      refine .here ?_
      rw [Option.isSome_some, uno_nb, vb_some, Bool.not_true, br_false, Option.getD_some]
      obtain ⟨u1, u2⟩ := used_step hix hx2
      rw [(c.mp (i := 3) rfl).look, u2, vb_some]
      show Br (.bool false) _ _
      rw [br_false]
      refine c.mup 3 rfl (ix33 a) true rfl fun h10 c => ?_
      rw [u1] at c
      refine c.word (i := 2) rfl (i2 := 1) rfl W hD0 ?_
      rw [bin_add, vb_some, wrS (by omega)]
      exact hagain2 (q + 1, m a) _ _ _ ⟨rfl, rfl, by dsimp only; omega, hlk, c⟩ (by dsimp only; omega)
    · have eq : q = ll.length := by omega
      subst eq
      rw [List.drop_length] at hlk
      have ea : a = 0 := hlk
      subst ea
      rw [neI, vb_some, br_false, bin_add, vb_some, wrS (by omega)]
      exact hagain (j + 1) _ _ ⟨rfl, by omega, by rw [hnext]; exact c⟩ (by omega)
  · have ej : j = 2 := by omega
    subst ej
    have c : Cx (fun _ => False) h h7 [rSl EI1 v (fr.map ix33), rMp .i64 mW (.map x.k) ps, rVar ESt r5 x, rMp .i64 Value.bool (.map (some k1)) (used33 N N.length)] := by
      rw [hNl]; exact c
    refine .here ?_
    rw [(c.mp (i := 3) rfl).ln, List.length_map, List.take_length, vb_some]
    refine c.word (i := 2) rfl (i2 := 1) rfl W (a := 2) ⟨by decide, by decide⟩ ?_
    rw [e2, show (N.length : Int) = out by omega, eqI, vb_some, br_true, vb_some]
    refine c.word (i := 2) rfl (i2 := 1) rfl W (a := 3) ⟨by decide, by decide⟩ ?_
    rw [e3, eqI, vb_some, br_true]
    exact cs.awake (hRt.gr c.gr) fun h4 g => hR h4 (c.more g).gr
end
end Go.En
