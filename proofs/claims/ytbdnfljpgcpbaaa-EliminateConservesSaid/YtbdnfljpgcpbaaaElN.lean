/-
  Layer 53: the walk of EliminateSpares.
-/
import Derived.Test.YtbdnfljpgcpbaaaElM
namespace Go.En
variable {S : Sys} {I : Ids} {h : Hp} {R : Value → Hp → Prop}

theorem L_Spares (C : Cs6 S I) {s vl : Value} {st vs : List Int} {w : Int} (hs : Sl EI h s st) (hv : Sl EI h vl vs) (hw : (Lit.int .u8 w).wf = true) (hR : ∀ h', Gr h h' → R (.bool true) h') : F_simulcastlaw53_EliminateSpares S I s vl (.int .u8 w) h R := by
  have hw2 : 0 ≤ w ∧ w ≤ 255 := by
    have h1 : IntKind.u8.min = 0 := rfl
    have h2 : IntKind.u8.max = 255 := rfl
    simp only [Lit.wf, Bool.and_eq_true, decide_eq_true_eq] at hw
    omega
  unfold F_simulcastlaw53_EliminateSpares
  refine .at (fun v h' => h' = h ∧ ∃ b : Bool, v = .bool b ∧ (b = false → st.length ≤ 100 ∧ vs.length ≤ 25)) ?_ ?_
  · refine vb hs.ln ?_
    rw [bin_gtr, vb_some]
    refine brd (fun h1 => ⟨rfl, _, rfl, fun e => by simp at e⟩) fun h1 => ?_
    refine vb hv.ln ?_
    rw [bin_gtr, vb_some]
    exact ⟨rfl, _, rfl, fun e => by simp at e; omega⟩
  rintro v h1 ⟨rfl, b, rfl, hb⟩
  refine br (fun _ => C.awake hR) fun hf => ?_
  obtain ⟨b1, b2⟩ := hb hf
  refine vb hv.ln ?_
  refine .by (fun (i : Nat) l v h' => i ≤ vs.length ∧ v = .int .i64 i ∧ Ow EO h' l (mkL (vs.take i) 0) ∧ Gr h1 h' ∧ Fs h1 l) (fun i => vs.length - i) 0 ⟨by omega, rfl, by simpa [mkL] using Ow.nil, .refl _ _, .nil _⟩ ?_
  rintro i l v h3 ⟨hi, rfl, ol, g3, fl⟩ again hagain
  rw [bin_lss, vb_some]
  have hlen := mkL_len (vs.take i) 0
  rw [List.length_take] at hlen
  refine brd (fun h2 => ?_) fun h2 => ?_
  · have hi' : i < vs.length := by omega
    refine (hv.gr g3).one rfl (idx_get hi') rfl rfl ?_
    have e2 : bin .mul (.int .i64 2) (.int .i64 i) = some (.int .i64 (2 * (i : Nat))) := by rw [bin_mul, wr64 (by omega)]
    refine vb e2 (vb (v := .agg ⟨EO.c ⟨2 * (i : Nat), true, vs[i]⟩⟩) rfl (vb e2 ?_))
    have e3 : bin .add (.int .i64 (2 * (i : Nat))) (.int .i64 1) = some (.int .i64 (2 * (i : Nat) + 1)) := by rw [bin_add, wr64 (by omega)]
    refine vb e3 (vb (v := .agg ⟨EO.c ⟨2 * (i : Nat) + 1, false, 0⟩⟩) rfl ?_)
    refine eb (bsl_ok (us := [.agg ⟨EO.c ⟨2 * (i : Nat), true, vs[i]⟩⟩, .agg ⟨EO.c ⟨2 * (i : Nat) + 1, false, 0⟩⟩]) rfl rfl (fun u hu => by
      simp only [List.mem_cons, List.not_mem_nil, or_false] at hu; rcases hu with rfl | rfl <;> rfl)) ?_
    refine apw (E := EO) (xs := mkL (vs.take i) 0) (ys := [⟨2 * (i : Nat), true, vs[i]⟩, ⟨2 * (i : Nat) + 1, false, 0⟩]) (ol.gr (Ch.push _ _)) (Ow.lit (E := EO) (xs := [⟨2 * (i : Nat), true, vs[i]⟩, ⟨2 * (i : Nat) + 1, false, 0⟩]) (len := 2) rfl rfl).sl rfl rfl
      (by simp only [List.length_cons, List.length_nil]; omega) (by simp only [List.length_cons, List.length_nil]; omega) fun l' h5 q1 q2 q3 => ?_
    have gp := g3.trans (Ch.push h3 (.cells ⟨[Value.agg ⟨EO.c ⟨2 * (i : Nat), true, vs[i]⟩⟩, .agg ⟨EO.c ⟨2 * (i : Nat) + 1, false, 0⟩⟩].flatMap fun u => u.cells.toList⟩ I.t_eliminate_Op))
    refine vb (inc (n := i) (by omega)) ?_
    refine hagain (i + 1) _ _ _ ⟨by omega, rfl, ?_, gp.write q2 fl, fl.next gp q3⟩ (by omega)
    rw [List.take_add_one, idx_get hi']
    simp only [Option.toList_some]
    rw [mkL_snoc, List.length_take, Nat.min_eq_left (by omega), Nat.zero_add]
    exact q1
  · have : i = vs.length := by omega
    subst this
    rw [List.take_length] at ol
    rw [Nat.min_self] at hlen
    have hlen : (mkL vs 0).length = 2 * vs.length := mkL_len vs 0
    refine .at (fun v h' => h' = h3 ∧ ∃ n : Nat, n ≤ (mkL vs 0).length ∧ v = .int .i64 n) ?_ ?_
    · refine vb ol.sl.ln ?_
      rw [bin_gtr, vb_some]
      refine brd (fun h4 => ?_) fun h4 => ?_
      · refine vb (v := .int .i64 w) (by rw [cvi_int, wr64 (by omega)]) ?_
        refine vb ol.sl.ln ?_
        refine vb (bin_rem (by omega)) ?_
        refine ⟨rfl, (w.toNat % (mkL vs 0).length), Nat.le_of_lt (Nat.mod_lt _ (by omega)), ?_⟩
        congr 1
        rw [Int.tmod_eq_emod_of_nonneg hw2.1]
        obtain ⟨m, rfl⟩ := Int.eq_ofNat_of_zero_le hw2.1
        simp
      · exact ⟨rfl, 0, by omega, rfl⟩
    rintro v h' ⟨rfl, n, hn, rfl⟩
    have hE := even_rot vs n
    obtain ⟨p1, e1, s1, q1⟩ := ol.sl.sub (n := 3) rfl (lo := some (.int .i64 n)) (l := n) (.inr ⟨_, _, rfl, rfl⟩) (hi := none) (u := (mkL vs 0).length) (.inl ⟨rfl, rfl⟩) hn (Nat.le_refl _)
    obtain ⟨p2, e2, s2, q2⟩ := ol.sl.sub (n := 3) rfl (lo := none) (l := 0) (.inl ⟨rfl, rfl⟩) (hi := some (.int .i64 n)) (u := n) (.inr ⟨_, _, rfl, rfl⟩) (by omega) hn
    rw [List.take_length] at s1
    rw [List.drop_zero] at s2
    refine vb e1 (vb e2 ?_)
    refine C.cloneO s1 (by rw [List.length_drop]; omega) fun c h7 oc g7 fc => ?_
    have hL : ((mkL vs 0).drop n ++ (mkL vs 0).take n).length = 2 * vs.length := by rw [List.length_append, List.length_drop, List.length_take]; omega
    refine apw oc (s2.gr g7) rfl rfl (by rw [← List.length_append, hL]; omega) (by rw [← List.length_append, hL]; omega) fun lv h8 o8 c8 n8 => ?_
    generalize (mkL vs 0).drop n ++ (mkL vs 0).take n = L at *
    have g8 : Gr h' h8 := g7.write c8 fc
    have g18 : Gr h1 h8 := g3.trans g8
    refine C.cFast (hs.gr g18) o8.sl (by omega) (by omega) fun a b h9 oa ob g9 fa fb => ?_
    simp only [ext0', ext1', vb_some]
    obtain ⟨n1, n2⟩ := fast_len st L
    obtain ⟨f1, f2⟩ := even_fast hE st
    refine .at (fun v h'' => h'' = h9 ∧ v = .bool false) ?_ ?_
    · refine C.eqI oa.sl ((hs.gr g18).gr g9) (by omega) ?_
      rw [f1, decide_eq_true rfl, uno_not, vb_some]
      refine br (fun e => by simp at e) fun _ => ?_
      refine vb ob.sl.ln (vb (o8.sl.gr g9).ln ?_)
      rw [bin_neq, vb_some, n1]
      exact ⟨rfl, by simp⟩
    rintro v h'' ⟨rfl, rfl⟩
    rw [br_false]
    have sl9 := o8.sl.gr g9
    have sb9 := ob.sl
    refine vb sl9.ln ?_
    have hfl : ∀ (f : Nat → Bool) (i : Nat), ((List.range i).filter f).length ≤ i := fun f i => by have := List.length_filter_le f (List.range i); rw [List.length_range] at this; exact this
    refine .by (fun (i : Nat) pu po v h' => i ≤ L.length ∧ v = .int .i64 i ∧ Ow EI h' pu (((List.range i).filter fun j => (opAt L j).p).map fun j => (opAt L j).v) ∧ Ow EI h' po (((List.range i).filter fun j => !(opAt L j).p).map fun j => (ansAt st L j).2) ∧ Gr h'' h' ∧ Fs h'' pu ∧ Fs h'' po ∧ Dj pu po)
      (fun i => L.length - i) 0 ⟨by omega, rfl, by simpa using Ow.nil, by simpa using Ow.nil, .refl _ _, .nil _, .nil _, .nil _⟩ ?_
    rintro i pu po v h10 ⟨hi, rfl, opu, opo, g10, fpu, fpo, hd⟩ again hagain
    rw [bin_lss, vb_some]
    refine brd (fun h4 => ?_) fun h4 => ?_
    · have hi' : i < L.length := by omega
      refine .at (fun pu po h' => Ow EI h' pu (((List.range (i + 1)).filter fun j => (opAt L j).p).map fun j => (opAt L j).v) ∧ Ow EI h' po (((List.range (i + 1)).filter fun j => !(opAt L j).p).map fun j => (ansAt st L j).2) ∧ Gr h'' h' ∧ Fs h'' pu ∧ Fs h'' po ∧ Dj pu po) ?_ ?_
      · refine (sl9.gr g10).whole rfl (opAt_get hi') rfl ?_
        refine nwset (E := EO) ⟨0, false, 0⟩ (opAt L i) rfl rfl rfl fun h11 hv11 g11 => ?_
        have g1011 := g10.trans g11
        have hans : (fast st L).2[i]? = some (ansAt st L i) := by unfold ansAt; rw [idx_get (by omega)]; rfl
        refine (sb9.gr g1011).fld rfl hans rfl (j := 0) rfl ?_
        rw [even_zero hE st hi', bin_neq, vb_some]
        refine brF (by simp) ?_
        refine hv11.fld (j := 1) rfl ?_
        rw [filter_step, filter_step, List.map_append, List.map_append]
        refine br (fun hp => ?_) fun hp => ?_
        · refine hv11.fld (j := 2) rfl ?_
          have := hfl (fun j => (opAt L j).p) i
          refine app1 (E := EI) (x := (opAt L i).v) (opu.gr g11) rfl rfl rfl (by rw [List.length_map]; omega) (by rw [List.length_map]; omega) fun pu' h12 q1 q2 q3 => ?_
          exact ⟨by simpa [hp] using q1, by simpa [hp] using (opo.gr g11).other q2 hd.symm, g1011.write q2 fpu, fpu.next g1011 q3, fpo, hd.next (fun r e => (opo.gr g11).lt e) q3⟩
        · refine (sb9.gr g1011).fld rfl hans rfl (j := 1) rfl ?_
          have := hfl (fun j => !(opAt L j).p) i
          refine app1 (E := EI) (x := (ansAt st L i).2) (opo.gr g11) rfl rfl rfl (by rw [List.length_map]; omega) (by rw [List.length_map]; omega) fun po' h12 q1 q2 q3 => ?_
          exact ⟨by simpa [hp] using (opu.gr g11).other q2 hd, by simpa [hp] using q1, g1011.write q2 fpo, fpu, fpo.next g1011 q3, (hd.symm.next (fun r e => (opu.gr g11).lt e) q3).symm⟩
      · rintro pu' po' h12 ⟨a1, a2, a3, a4, a5, a6⟩
        refine vb (inc (n := i) (by omega)) ?_
        exact hagain (i + 1) _ _ _ _ ⟨by omega, rfl, a1, a2, a3, a4, a5, a6⟩ (by omega)
    · have : i = L.length := by omega
      subst this
      have := hfl (fun j => (opAt L j).p) L.length
      refine .here ?_
      refine C.eqI opu.sl opo.sl (by rw [List.length_map]; omega) ?_
      rw [decide_eq_true (even_popped hE st), br_true]
      exact C.awake fun h' g => hR h' (((g18.trans g9).trans g10).trans g)
end Go.En
