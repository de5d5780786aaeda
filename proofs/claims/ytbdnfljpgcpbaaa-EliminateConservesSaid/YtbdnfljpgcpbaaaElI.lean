/-
  Layer 53: the statements that compare with the reference.
-/
import Derived.Test.YtbdnfljpgcpbaaaElH
namespace Go.En
variable {S : Sys} {I : Ids} {h : Hp} {R : Value → Hp → Prop}

structure Cs5 (S : Sys) (I : Ids) : Prop where
  great : ∀ {h R s l} {xs : List Int} {ys : List Op}, Sl EI h s xs → Sl EO h l ys → (∀ b : Bool, (b = false → xs.length ≤ 100 ∧ ys.length ≤ 60) → R (.bool b) h) → S.C I.f_simulcastlaw53_great [s, l] h R
  of : ∀ {h R l xs}, Sl EO h l xs → xs.length ≤ 1000 → (∀ v h', Ow EO h' v xs → Gr h h' → Fs h v → R v h') → S.C I.f_simulcastlaw53_of [l] h R
  eqN : ∀ {h R a b} {xs ys : List Nat}, Sl EN h a xs → Sl EN h b ys → xs.length ≤ 1000000 → R (.bool (decide (xs = ys))) h → S.C I.f_slices_Equal_int_int [a, b] h R
  eqI : ∀ {h R a b} {xs ys : List Int}, Sl EI h a xs → Sl EI h b ys → xs.length ≤ 1000000 → R (.bool (decide (xs = ys))) h → S.C I.f_slices_Equal_int64_int64 [a, b] h R
  eqA' : ∀ {h R a b} {xs ys : List (Int × Int)}, Sl EA h a xs → Sl EA h b ys → xs.length ≤ 1000000 → R (.bool (decide (xs = ys))) h → S.C I.f_slices_Equal_api_Answer_api_Answer [a, b] h R
  same : ∀ {h R a b} {xs ys : List (Int × Int)}, Sl EA h a xs → Sl EA h b ys → xs.length ≤ 1000000 → R (.bool (decide (xs = ys))) h → S.C I.f_simulcastlaw53_same [a, b] h R
  cloneI : ∀ {h R s xs}, Sl EI h s xs → xs.length ≤ 1000000 → (∀ v h', Ow EI h' v xs → Gr h h' → Fs h v → R v h') → S.C I.f_slices_Clone_int64_int64 [s] h R
  cloneO : ∀ {h R s xs}, Sl EO h s xs → xs.length ≤ 1000000 → (∀ v h', Ow EO h' v xs → Gr h h' → Fs h v → R v h') → S.C I.f_slices_Clone_eliminate_Op_eliminate_Op [s] h R
  cPairs : ∀ {h R l xs}, Sl EO h l xs → xs.length ≤ 1000 → (∀ p r h', Ow EP h' p (pairs xs) → Ow EN h' r (others xs) → Gr h h' → Fs h p → Fs h r → Dj p r → R (.tuple #[p, r]) h') → S.C I.f_eliminate_Pairs [l] h R
  refPairs : ∀ {h R l xs}, Sl EO h l xs → xs.length ≤ 1000 → (∀ a b r h', Sl EN h' a ((pairs xs).map (·.1)) → Sl EN h' b ((pairs xs).map (·.2)) → Sl EN h' r (others xs) → Gr h h' → Fs h a → Fs h b → Fs h r → R (.tuple #[a, b, r]) h') → S.C I.f_simulcastref53_Pairs [l] h R
  cOrder : ∀ {h R l xs}, Sl EO h l xs → xs.length ≤ 1000 → (∀ v h', Ow EN h' v (order xs) → Gr h h' → Fs h v → R v h') → S.C I.f_eliminate_Order [l] h R
  cApply : ∀ {h R s l st xs}, Sl EI h s st → Sl EO h l xs → st.length ≤ 1000 → xs.length ≤ 1000 → (∀ a b h', Ow EI h' a (appAll st xs).1 → Ow EA h' b (appAll st xs).2 → Gr h h' → Fs h a → Fs h b → Dj a b → R (.tuple #[a, b]) h') → S.C I.f_eliminate_Apply [s, l] h R
  refApply : ∀ {h R s l st xs}, Sl EI h s st → Sl EO h l xs → st.length ≤ 1000 → xs.length ≤ 1000 → (∀ a b h', Ow EI h' a (appAll st xs).1 → Ow EA h' b (appAll st xs).2 → Gr h h' → Fs h a → Fs h b → Dj a b → R (.tuple #[a, b]) h') → S.C I.f_simulcastref53_Apply [s, l] h R
  cFast : ∀ {h R s l st xs}, Sl EI h s st → Sl EO h l xs → st.length ≤ 1000 → xs.length ≤ 1000 → (∀ a b h', Ow EI h' a (fast st xs).1 → Ow EA h' b (fast st xs).2 → Gr h h' → Fs h a → Fs h b → R (.tuple #[a, b]) h') → S.C I.f_eliminate_Fast [s, l] h R
  refFast : ∀ {h R s l st xs}, Sl EI h s st → Sl EO h l xs → st.length ≤ 1000 → xs.length ≤ 1000 → (∀ a b h', Sl EI h' a (fast st xs).1 → Sl EA h' b (fast st xs).2 → Gr h h' → Fs h a → Fs h b → R (.tuple #[a, b]) h') → S.C I.f_simulcastref53_Fast [s, l] h R

def exs : List Op := [⟨1, false, 0⟩, ⟨2, true, 7⟩, ⟨3, true, 8⟩]
theorem ex_pairs : pairs exs = [(1, 0)] := by decide
theorem ex_others : others exs = [2] := by decide
theorem ex_order : order exs = [1, 0, 2] := by decide
theorem ex_fast : fast [5] exs = ([5, 8], [(0, 7), (0, 7), (0, 8)]) := by decide

theorem K_awake (C : Cs5 S I) (hR : ∀ h', Gr h h' → R (.bool true) h') : F_simulcastlaw53_awake S I h R := by
  unfold F_simulcastlaw53_awake
  refine vb (v := .agg ⟨EO.c ⟨1, false, 0⟩⟩) rfl (vb (v := .agg ⟨EO.c ⟨2, true, 7⟩⟩) rfl (vb (v := .agg ⟨EO.c ⟨3, true, 8⟩⟩) rfl ?_))
  refine eb (bsl_ok (us := [.agg ⟨EO.c ⟨1, false, 0⟩⟩, .agg ⟨EO.c ⟨2, true, 7⟩⟩, .agg ⟨EO.c ⟨3, true, 8⟩⟩]) rfl rfl (fun u hu => by
    simp only [List.mem_cons, List.not_mem_nil, or_false] at hu; rcases hu with rfl | rfl | rfl <;> rfl)) ?_
  have hl : Sl EO (h.push (.cells ⟨[Value.agg ⟨EO.c ⟨1, false, 0⟩⟩, .agg ⟨EO.c ⟨2, true, 7⟩⟩, .agg ⟨EO.c ⟨3, true, 8⟩⟩].flatMap fun u => u.cells.toList⟩ I.t_eliminate_Op)) (.slice (some ⟨h.size, 0, none⟩) 3 3) exs := (Ow.lit (E := EO) (xs := exs) (len := 3) rfl rfl).sl
  have g1 := Ch.push h (.cells ⟨[Value.agg ⟨EO.c ⟨1, false, 0⟩⟩, .agg ⟨EO.c ⟨2, true, 7⟩⟩, .agg ⟨EO.c ⟨3, true, 8⟩⟩].flatMap fun u => u.cells.toList⟩ I.t_eliminate_Op)
  generalize (h.push (.cells ⟨[Value.agg ⟨EO.c ⟨1, false, 0⟩⟩, .agg ⟨EO.c ⟨2, true, 7⟩⟩, .agg ⟨EO.c ⟨3, true, 8⟩⟩].flatMap fun u => u.cells.toList⟩ I.t_eliminate_Op)) = h1 at *
  generalize (Value.slice (some ⟨h.size, 0, none⟩) 3 3) = l at *
  refine C.cPairs hl (by decide) fun p r h2 op orr g2 _ _ _ => ?_
  simp only [ext0', ext1', vb_some]
  rw [ex_pairs] at op
  rw [ex_others] at orr
  refine eb (bsl_ok (us := [.int .i64 5]) rfl rfl (fun u hu => by simp only [List.mem_singleton] at hu; subst hu; rfl)) ?_
  have hst : Sl EI (h2.push (.cells ⟨[Value.int .i64 5].flatMap fun u => u.cells.toList⟩ I.t_int64)) (.slice (some ⟨h2.size, 0, none⟩) 1 1) [5] := (Ow.lit (E := EI) (xs := [5]) (len := 1) rfl rfl).sl
  have g3 := Ch.push h2 (.cells ⟨[Value.int .i64 5].flatMap fun u => u.cells.toList⟩ I.t_int64)
  generalize (h2.push (.cells ⟨[Value.int .i64 5].flatMap fun u => u.cells.toList⟩ I.t_int64)) = h3 at *
  generalize (Value.slice (some ⟨h2.size, 0, none⟩) 1 1) = s at *
  refine C.cFast hst (hl.gr (g2.trans g3)) (by decide) (by decide) fun a b h4 oa ob g4 _ _ => ?_
  simp only [ext0', ext1', vb_some]
  rw [ex_fast] at oa ob
  have sp := (op.sl.gr g3).gr g4
  refine .here ?_
  refine vb sp.ln ?_
  rw [bin_eql, vb_some]
  refine brT rfl ?_
  refine sp.whole rfl (i := 0) rfl rfl ?_
  refine vb (v := .agg ⟨EP.c (1, 0)⟩) rfl ?_
  refine vb (v := .bool true) rfl ?_
  rw [br_true]
  refine eb (bsl_ok (us := [.int .i64 2]) rfl rfl (fun u hu => by simp only [List.mem_singleton] at hu; subst hu; rfl)) ?_
  have h5 : Sl EN (h4.push (.cells ⟨[Value.int .i64 2].flatMap fun u => u.cells.toList⟩ I.t_int)) (.slice (some ⟨h4.size, 0, none⟩) 1 1) [2] := (Ow.lit (E := EN) (xs := [2]) (len := 1) rfl rfl).sl
  have g5 := Ch.push h4 (.cells ⟨[Value.int .i64 2].flatMap fun u => u.cells.toList⟩ I.t_int)
  generalize (h4.push (.cells ⟨[Value.int .i64 2].flatMap fun u => u.cells.toList⟩ I.t_int)) = hh5 at *
  generalize (Value.slice (some ⟨h4.size, 0, none⟩) 1 1) = s5 at *
  refine C.eqN (((orr.sl.gr g3).gr g4).gr g5) h5 (by decide) ?_
  refine brT rfl ?_
  have gl : Gr h1 hh5 := ((g2.trans g3).trans g4).trans g5
  refine C.cOrder (hl.gr gl) (by decide) fun o h6 oo g6 _ => ?_
  rw [ex_order] at oo
  refine eb (bsl_ok (us := [.int .i64 1, .int .i64 0, .int .i64 2]) rfl rfl (fun u hu => by
    simp only [List.mem_cons, List.not_mem_nil, or_false] at hu; rcases hu with rfl | rfl | rfl <;> rfl)) ?_
  have h7 : Sl EN (h6.push (.cells ⟨[Value.int .i64 1, .int .i64 0, .int .i64 2].flatMap fun u => u.cells.toList⟩ I.t_int)) (.slice (some ⟨h6.size, 0, none⟩) 3 3) [1, 0, 2] := (Ow.lit (E := EN) (xs := [1, 0, 2]) (len := 3) rfl rfl).sl
  have g7 := Ch.push h6 (.cells ⟨[Value.int .i64 1, .int .i64 0, .int .i64 2].flatMap fun u => u.cells.toList⟩ I.t_int)
  generalize (h6.push (.cells ⟨[Value.int .i64 1, .int .i64 0, .int .i64 2].flatMap fun u => u.cells.toList⟩ I.t_int)) = hh7 at *
  generalize (Value.slice (some ⟨h6.size, 0, none⟩) 3 3) = s7 at *
  refine C.eqN (oo.sl.gr g7) h7 (by decide) ?_
  refine brT rfl ?_
  refine eb (bsl_ok (us := [.int .i64 5, .int .i64 8]) rfl rfl (fun u hu => by
    simp only [List.mem_cons, List.not_mem_nil, or_false] at hu; rcases hu with rfl | rfl <;> rfl)) ?_
  have h8 : Sl EI (hh7.push (.cells ⟨[Value.int .i64 5, .int .i64 8].flatMap fun u => u.cells.toList⟩ I.t_int64)) (.slice (some ⟨hh7.size, 0, none⟩) 2 2) [5, 8] := (Ow.lit (E := EI) (xs := [5, 8]) (len := 2) rfl rfl).sl
  have g8 := Ch.push hh7 (.cells ⟨[Value.int .i64 5, .int .i64 8].flatMap fun u => u.cells.toList⟩ I.t_int64)
  generalize (hh7.push (.cells ⟨[Value.int .i64 5, .int .i64 8].flatMap fun u => u.cells.toList⟩ I.t_int64)) = hh8 at *
  generalize (Value.slice (some ⟨hh7.size, 0, none⟩) 2 2) = s8 at *
  have g48 : Gr h4 hh8 := ((g5.trans g6).trans g7).trans g8
  refine C.eqI (oa.sl.gr g48) h8 (by decide) ?_
  refine brT rfl ?_
  have sb := ob.sl.gr g48
  refine vb sb.ln ?_
  rw [bin_eql, vb_some]
  refine brT rfl ?_
  refine sb.fld rfl (i := 0) rfl rfl rfl ?_
  rw [bin_eql, vb_some]
  refine brT rfl ?_
  refine sb.fld rfl (i := 2) rfl rfl rfl ?_
  rw [bin_eql, vb_some]
  exact hR _ (g1.trans ((((g2.trans g3).trans g4).trans g48)))

structure Cs6 (S : Sys) (I : Ids) : Prop extends Cs5 S I where
  awake : ∀ {h R}, (∀ h', Gr h h' → R (.bool true) h') → S.C I.f_simulcastlaw53_awake [] h R

theorem fast_len (st : List Int) (xs : List Op) : (fast st xs).2.length = xs.length ∧ (fast st xs).1.length ≤ st.length + xs.length := by
  unfold fast
  have := appAll_len (restOps xs) st
  have h2 : (restOps xs).length ≤ xs.length := by simp only [restOps, List.length_map]; exact len_others xs
  exact ⟨by rw [setAll_len, ans1_len], by simp only; omega⟩

theorem L_Fast (C : Cs6 S I) {s l : Value} {st : List Int} {xs : List Op} (hs : Sl EI h s st) (hl : Sl EO h l xs) (hR : ∀ h', Gr h h' → R (.bool true) h') : F_simulcastlaw53_EliminateFast S I s l h R := by
  unfold F_simulcastlaw53_EliminateFast
  refine C.great hs hl fun b hb => br (fun _ => C.awake hR) fun hf => ?_
  obtain ⟨b1, b2⟩ := hb hf
  refine C.cloneI hs (by omega) fun o h3 oo g3 _ => ?_
  refine C.cFast (hs.gr g3) (hl.gr g3) (by omega) (by omega) fun a c h4 oa oc g4 _ _ => ?_
  simp only [ext0', ext1', vb_some]
  refine C.of (hl.gr (g3.trans g4)) (by omega) fun v h5 ov g5 _ => ?_
  refine C.refFast ((oo.sl.gr g4).gr g5) ov.sl (by omega) (by omega) fun a' c' h6 oa' oc' g6 _ _ => ?_
  simp only [ext0', ext1', vb_some]
  obtain ⟨n1, n2⟩ := fast_len st xs
  refine .here ?_
  refine C.eqI ((oa.sl.gr g5).gr g6) oa' (by omega) ?_
  refine brT rfl ?_
  refine C.same ((oc.sl.gr g5).gr g6) oc' (by omega) ?_
  refine brT rfl ?_
  have ge : Gr h3 h6 := (g4.trans g5).trans g6
  refine C.eqI (hs.gr (g3.trans ge)) (oo.sl.gr ge) (by omega) ?_
  refine brT rfl ?_
  exact C.awake fun h' g => hR h' ((g3.trans ge).trans g)

theorem L_Applies (C : Cs6 S I) {s l : Value} {st : List Int} {xs : List Op} (hs : Sl EI h s st) (hl : Sl EO h l xs) (hR : ∀ h', Gr h h' → R (.bool true) h') : F_simulcastlaw53_EliminateApplies S I s l h R := by
  unfold F_simulcastlaw53_EliminateApplies
  refine C.great hs hl fun b hb => br (fun _ => C.awake hR) fun hf => ?_
  obtain ⟨b1, b2⟩ := hb hf
  refine C.cloneI hs (by omega) fun o h3 oo g3 _ => ?_
  refine C.cApply (hs.gr g3) (hl.gr g3) (by omega) (by omega) fun a c h4 oa oc g4 _ _ _ => ?_
  simp only [ext0', ext1', vb_some]
  refine C.of (hl.gr (g3.trans g4)) (by omega) fun v h5 ov g5 _ => ?_
  refine C.refApply ((oo.sl.gr g4).gr g5) ov.sl (by omega) (by omega) fun a' c' h6 oa' oc' g6 _ _ _ => ?_
  simp only [ext0', ext1', vb_some]
  obtain ⟨n1, n2⟩ := appAll_len xs st
  refine .here ?_
  refine C.eqI ((oa.sl.gr g5).gr g6) oa'.sl (by omega) ?_
  refine brT rfl ?_
  refine C.same ((oc.sl.gr g5).gr g6) oc'.sl (by omega) ?_
  refine brT rfl ?_
  have ge : Gr h3 h6 := (g4.trans g5).trans g6
  refine C.eqI (hs.gr (g3.trans ge)) (oo.sl.gr ge) (by omega) ?_
  refine brT rfl ?_
  exact C.awake fun h' g => hR h' ((g3.trans ge).trans g)

theorem eqL_twoP {x y : Nat × Nat} : eqA [true, true] (.agg (EP.c x).toArray) (.agg (EP.c y).toArray) = some (decide (x = y)) := by
  obtain ⟨a, b⟩ := x
  obtain ⟨c, d⟩ := y
  simp only [EP, eqA, eqL, eq1, if_true, Option.bind_some, Bool.and_true, Prod.mk.injEq, Option.some.injEq]
  have e : ∀ p q : Nat, ((p : Int) == (q : Int)) = decide (p = q) := fun p q => by rw [Bool.eq_iff_iff, beq_iff_eq, decide_eq_true_iff]; omega
  rw [e, e]
  by_cases h1 : a = c <;> by_cases h2 : b = d <;> simp [h1, h2]

theorem L_Pairs (C : Cs6 S I) {l : Value} {xs : List Op} (hl : Sl EO h l xs) (hR : ∀ h', Gr h h' → R (.bool true) h') : F_simulcastlaw53_EliminatePairs S I l h R := by
  unfold F_simulcastlaw53_EliminatePairs
  refine C.great .nil hl fun b hb => br (fun _ => C.awake hR) fun hf => ?_
  obtain ⟨b1, b2⟩ := hb hf
  refine C.cPairs hl (by omega) fun p r h3 op orr g3 fp fr d => ?_
  simp only [ext0', ext1', vb_some]
  refine C.of (hl.gr g3) (by omega) fun v h4 ov g4 _ => ?_
  refine C.refPairs ov.sl (by omega) fun a c q h5 sa sc sq g5 fa fc fq => ?_
  simp only [ext0', ext1', ext2', vb_some]
  have l1 := len_pairs xs
  have l2 := len_pushes xs
  have l3 := len_others xs
  have sp := (op.sl.gr g4).gr g5
  have sr := (orr.sl.gr g4).gr g5
  refine .at (fun v h' => h' = h5 ∧ v = .bool false) ?_ ?_
  · refine vb sp.ln (vb sa.ln ?_)
    rw [bin_neq, vb_some]
    refine brF (by simp) ?_
    refine C.eqN sr sq (by omega) ?_
    rw [decide_eq_true rfl, uno_not, vb_some]
    exact ⟨rfl, rfl⟩
  rintro v h' ⟨rfl, rfl⟩
  rw [br_false]
  refine vb sp.ln ?_
  have g0 : Gr h h' := (g3.trans g4).trans g5
  refine .by (fun (i : Nat) o v h6 => i ≤ (pairs xs).length ∧ v = .int .i64 i ∧ Ow EN h6 o (((pairs xs).take i).flatMap fun p => [p.1, p.2]) ∧ Gr h' h6 ∧ Fs h' o) (fun i => (pairs xs).length - i) 0 ⟨by omega, rfl, by simpa using Ow.nil, .refl _ _, .nil _⟩ ?_
  rintro i o v h6 ⟨hi, rfl, oo, g6, fo⟩ again hagain
  rw [bin_lss, vb_some]
  have hle : (((pairs xs).take i).flatMap fun p => [p.1, p.2]).length ≤ 200 := by rw [len_flat, List.length_take]; omega
  refine brd (fun h7 => ?_) fun h7 => ?_
  · have hi' : i < (pairs xs).length := by omega
    have e1 : ((pairs xs).map (·.1))[i]? = some (pairs xs)[i].1 := by rw [List.getElem?_map, idx_get hi']; rfl
    have e2 : ((pairs xs).map (·.2))[i]? = some (pairs xs)[i].2 := by rw [List.getElem?_map, idx_get hi']; rfl
    refine (sp.gr g6).whole rfl (idx_get hi') rfl ?_
    refine (sa.gr g6).one rfl e1 rfl rfl ((sc.gr g6).one rfl e2 rfl rfl ?_)
    refine vb (v := .agg (EP.c (pairs xs)[i]).toArray) rfl ?_
    refine vb (congrArg neg? eqL_twoP) ?_
    rw [decide_eq_true rfl]
    refine br (fun e => by simp at e) fun _ => ?_
    refine (sa.gr g6).one rfl e1 rfl rfl ((sc.gr g6).one rfl e2 rfl rfl ?_)
    refine eb (bsl_ok (us := [.int .i64 (pairs xs)[i].1, .int .i64 (pairs xs)[i].2]) rfl rfl (fun u hu => by
      simp only [List.mem_cons, List.not_mem_nil, or_false] at hu; rcases hu with rfl | rfl <;> rfl)) ?_
    refine apw (xs := ((pairs xs).take i).flatMap fun p => [p.1, p.2]) (ys := [(pairs xs)[i].1, (pairs xs)[i].2]) (oo.gr (Ch.push _ _)) (Ow.lit (E := EN) (xs := [(pairs xs)[i].1, (pairs xs)[i].2]) (len := 2) rfl rfl).sl rfl rfl (by simp only [List.length_cons, List.length_nil]; omega) (by simp only [List.length_cons, List.length_nil]; omega) fun o' h8 q1 q2 q3 => ?_
    have gp : Gr h' (h6.push (.cells ⟨[Value.int .i64 (pairs xs)[i].1, .int .i64 (pairs xs)[i].2].flatMap fun u => u.cells.toList⟩ I.t_int)) := g6.trans (Ch.push _ _)
    refine vb (inc (n := i) (by omega)) ?_
    refine hagain (i + 1) _ _ _ ⟨by omega, rfl, ?_, gp.write q2 fo, fo.next gp q3⟩ (by omega)
    rw [List.take_add_one, idx_get hi', List.flatMap_append]
    simpa using q1
  · have : i = (pairs xs).length := by omega
    subst this
    rw [List.take_length] at oo hle
    refine .here ?_
    refine C.cOrder (hl.gr (g0.trans g6)) (by omega) fun w h8 ow g8 fw => ?_
    refine apw (oo.gr g8) ((sq.gr g6).gr g8) rfl rfl (by omega) (by omega) fun z h9 q1 q2 q3 => ?_
    have hd : Dj w o := Dj.fresh fw fun r e => oo.lt e
    have g9 : Gr h' h9 := (g6.trans g8).write q2 fo
    refine C.eqN (ow.sl.other q2 hd) q1.sl (by rw [order, List.length_append]; omega) ?_
    rw [show decide (order xs = ((pairs xs).flatMap fun p => [p.1, p.2]) ++ others xs) = true from decide_eq_true rfl, br_true]
    exact C.awake fun h' g => hR h' ((g0.trans g9).trans g)
end Go.En
