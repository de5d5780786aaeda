/-
  Layer 53: operations of one thread, pushes alone, pops alone; the witness order.
-/
import Derived.Test.YtbdnfljpgcpbaaaElK
namespace Go.En
variable {S : Sys} {I : Ids} {h : Hp} {R : Value → Hp → Prop}

theorem set_upd {α : Type} (f : α → α) (xs : List α) {i : Nat} (h : i < xs.length) : ((xs.take i).map f ++ xs.drop i).set i (f xs[i]) = (xs.take (i + 1)).map f ++ xs.drop (i + 1) := by
  have hl : ((xs.take i).map f).length = i := by simp; omega
  rw [List.set_append_right _ _ (by omega), hl, Nat.sub_self, List.drop_eq_getElem_cons h, List.set_cons_zero, List.take_add_one, idx_get h, List.map_append]
  simp
theorem get_upd {α : Type} (f : α → α) (xs : List α) {i : Nat} (h : i < xs.length) : ((xs.take i).map f ++ xs.drop i)[i]? = some xs[i] := by
  have hl : ((xs.take i).map f).length = i := by simp; omega
  rw [List.getElem?_append_right (by omega), hl, Nat.sub_self, List.getElem?_drop, Nat.add_zero, idx_get h]

def alone (w : Int) (o : Op) : Op := if w.tmod 2 = 0 then { o with t := 3 } else { o with p := decide (w.tmod 4 = 1) }
theorem alone_pairs (w : Int) (xs : List Op) : pairs (xs.map (alone w)) = [] := by
  by_cases h : w.tmod 2 = 0
  · refine pairs_alone (t := 3) fun o ho => ?_
    obtain ⟨q, _, rfl⟩ := List.mem_map.mp ho
    simp [alone, h]
  · refine pairs_same (p := decide (w.tmod 4 = 1)) fun o ho => ?_
    obtain ⟨q, _, rfl⟩ := List.mem_map.mp ho
    simp [alone, h]

theorem L_Alone (C : Cs6 S I) {s l : Value} {st : List Int} {xs : List Op} {w : Int} (hs : Sl EI h s st) (hl : Sl EO h l xs) (_ : (Lit.int .u8 w).wf = true) (hR : ∀ h', Gr h h' → R (.bool true) h') : F_simulcastlaw53_EliminateAlone S I s l (.int .u8 w) h R := by
  unfold F_simulcastlaw53_EliminateAlone
  refine C.great hs hl fun b hb => br (fun _ => C.awake hR) fun hf => ?_
  obtain ⟨b1, b2⟩ := hb hf
  refine C.cloneO hl (by omega) fun k h3 ok g3 fk => ?_
  refine vb ok.sl.ln ?_
  refine .by (fun (i : Nat) v h' => i ≤ xs.length ∧ v = .int .i64 i ∧ Ow EO h' k ((xs.take i).map (alone w) ++ xs.drop i) ∧ Gr h h') (fun i => xs.length - i) 0 ⟨by omega, rfl, by simpa using ok, g3⟩ ?_
  rintro i v h' ⟨hi, rfl, oi, gi⟩ again hagain
  rw [bin_lss, vb_some]
  refine brd (fun h2 => ?_) fun h2 => ?_
  · have hi' : i < xs.length := by omega
    have hlen : ((xs.take i).map (alone w) ++ xs.drop i).length = xs.length := by simp; omega
    refine .at (fun h' => Ow EO h' k ((xs.take (i + 1)).map (alone w) ++ xs.drop (i + 1)) ∧ Gr h h') ?_ ?_
    · refine vb (bin_rem (by decide)) ?_
      rw [bin_eql, vb_some]
      refine brd (fun h4 => ?_) fun h4 => ?_
      · have e : alone w xs[i] = { xs[i] with t := 3 } := by simp [alone, h4]
        refine oi.setf (get_upd (alone w) xs hi') (alone w xs[i]) rfl rfl (j := 0) rfl (by decide) (by rw [e]; rfl) fun h5 o5 c5 => ?_
        rw [set_upd _ _ hi'] at o5
        exact ⟨o5, gi.write c5 fk⟩
      · have e : alone w xs[i] = { xs[i] with p := decide (w.tmod 4 = 1) } := by simp [alone, h4]
        refine vb (bin_rem (by decide)) ?_
        rw [bin_eql, vb_some]
        refine oi.setf (get_upd (alone w) xs hi') (alone w xs[i]) rfl rfl (j := 1) rfl (by decide) (by rw [e]; rfl) fun h5 o5 c5 => ?_
        rw [set_upd _ _ hi'] at o5
        exact ⟨o5, gi.write c5 fk⟩
    · rintro h5 ⟨p1, p2⟩
      refine vb (inc (n := i) (by omega)) ?_
      exact hagain (i + 1) _ _ ⟨by omega, rfl, p1, p2⟩ (by omega)
  · have : i = xs.length := by omega
    subst this
    rw [List.take_length, List.drop_length, List.append_nil] at oi
    have hp := alone_pairs w xs
    have hlen : (xs.map (alone w)).length = xs.length := by simp
    obtain ⟨f1, f2⟩ := fast_none st hp
    generalize xs.map (alone w) = ks at *
    refine C.cPairs oi.sl (by omega) fun p r h4 op orr g4 _ _ _ => ?_
    simp only [ext0', ext1', vb_some]
    refine C.cFast ((hs.gr gi).gr g4) (oi.sl.gr g4) (by omega) (by omega) fun a b h5 oa ob g5 _ _ => ?_
    simp only [ext0', ext1', vb_some]
    refine C.cApply (((hs.gr gi).gr g4).gr g5) ((oi.sl.gr g4).gr g5) (by omega) (by omega) fun a' b' h6 oa' ob' g6 _ _ _ => ?_
    simp only [ext0', ext1', vb_some]
    rw [f1] at oa ob
    obtain ⟨n1, n2⟩ := appAll_len ks st
    have g46 := (g4.trans g5).trans g6
    refine .here ?_
    refine vb (op.sl.gr (g5.trans g6)).ln ?_
    rw [hp, bin_eql, vb_some]
    refine brT rfl ?_
    refine vb (orr.sl.gr (g5.trans g6)).ln (vb (oi.sl.gr g46).ln ?_)
    rw [bin_eql, vb_some, f2]
    refine brT rfl ?_
    refine C.eqI (oa.sl.gr g6) oa'.sl (by omega) ?_
    refine brT rfl ?_
    refine C.eqA' (ob.sl.gr g6) ob'.sl (by omega) ?_
    refine brT rfl ?_
    exact C.awake fun h' g => hR h' ((gi.trans g46).trans g)

/-- the order keeps each thread's own order -/
theorem isF_min {xs : List Op} {i j : Nat} (hF : isF xs i = true) (hj : j < i) : (opAt xs j).t ≠ (opAt xs i).t := by
  unfold isF at hF
  split at hF
  · rename_i o ho
    rw [List.all_eq_true] at hF
    have hi := (List.getElem?_eq_some_iff.mp ho).1
    have hm : xs[j] ∈ xs.take i := List.mem_take_iff_getElem.mpr ⟨j, by omega, rfl⟩
    have := hF _ hm
    have e1 : opAt xs j = xs[j] := by unfold opAt; rw [idx_get (by omega)]; rfl
    have e2 : opAt xs i = o := by unfold opAt; rw [ho]; rfl
    rw [e1, e2]
    simpa using this
  · contradiction
theorem paired_isF {xs : List Op} {i : Nat} (h : paired xs i = true) : isF xs i = true := by
  unfold paired at h
  obtain ⟨p, hp, h⟩ := List.any_eq_true.mp h
  have := List.of_mem_zip (a := p.1) (b := p.2) hp
  simp only [Bool.or_eq_true, beq_iff_eq] at h
  rcases h with rfl | rfl
  · exact (isF_of_push this.1).1
  · exact (isF_of_pop this.2).1
theorem others_sorted (xs : List Op) : (others xs).Pairwise (· < ·) := List.pairwise_lt_range.filter _
theorem order_mono {xs : List Op} {a b i j : Nat} (hab : a < b) (ha : (order xs)[a]? = some i) (hb : (order xs)[b]? = some j) (ht : (opAt xs i).t = (opAt xs j).t) : i < j := by
  have hne : i ≠ j := by
    intro e
    subst e
    have h1 := (List.getElem?_eq_some_iff.mp ha)
    have h2 := (List.getElem?_eq_some_iff.mp hb)
    have := (List.getElem?_inj h1.1 (nodup_order xs)).mp (ha.trans hb.symm)
    omega
  rw [order_eq] at ha hb
  by_cases h1 : a < (flatP xs).length
  · rw [List.getElem?_append_left h1] at ha
    have hF := paired_isF (mem_flatP.mp (List.mem_of_getElem? ha))
    rcases Nat.lt_or_gt_of_ne hne with h | h
    · exact h
    · exact absurd ht.symm (isF_min hF h)
  · rw [List.getElem?_append_right (by omega)] at ha hb
    have h1 := (List.getElem?_eq_some_iff.mp ha)
    have h2 := (List.getElem?_eq_some_iff.mp hb)
    have := List.pairwise_iff_getElem.mp (others_sorted xs) _ _ h1.1 h2.1 (by omega)
    rw [h1.2, h2.2] at this
    exact this

def marks (n : Nat) (l : List Nat) : List Bool := (List.range n).map fun j => l.contains j
theorem marks_set {n : Nat} {l : List Nat} {k : Nat} (hk : k < n) : (marks n l).set k true = marks n (l ++ [k]) := by
  apply List.ext_getElem?
  intro j
  rw [List.getElem?_set]
  unfold marks
  by_cases hj : j < n
  · rw [List.getElem?_map, List.getElem?_map, List.getElem?_range hj]
    by_cases e : k = j
    · subst e; simp [hj]
    · have e' : ¬ j = k := fun h => e h.symm
      simp [e, e']
  · rw [List.getElem?_eq_none (by simpa using hj), List.getElem?_eq_none (by simpa using hj)]
    simp; omega
theorem marks_get {n : Nat} {l : List Nat} {k : Nat} (hk : k < n) : (marks n l)[k]? = some (l.contains k) := by
  unfold marks; rw [List.getElem?_map, List.getElem?_range hk]; rfl
theorem marks_nil (n : Nat) : marks n [] = List.replicate n false := by
  unfold marks
  apply List.ext_getElem?
  intro j
  rw [List.getElem?_map, List.getElem?_replicate]
  by_cases hj : j < n
  · rw [List.getElem?_range hj, if_pos hj]; rfl
  · rw [List.getElem?_eq_none (by simpa using hj), if_neg hj]; rfl

def mi (n : Nat) : Value := .int .i64 n

theorem L_Witness (C : Cs6 S I) {s l : Value} {st : List Int} {xs : List Op} (hs : Sl EI h s st) (hl : Sl EO h l xs) (hR : ∀ h', Gr h h' → R (.bool true) h') : F_simulcastlaw53_EliminateWitness S I s l h R := by
  unfold F_simulcastlaw53_EliminateWitness
  refine C.great hs hl fun b hb => br (fun _ => C.awake hR) fun hf => ?_
  obtain ⟨b1, b2⟩ := hb hf
  refine C.cOrder hl (by omega) fun od h3 ood g3 fod => ?_
  have hol := order_len xs
  refine vb hl.ln ?_
  refine make_ok (E := EB) (x0 := false) rfl rfl (by omega) (by omega) fun h4 osn g4 hsz4 => ?_
  have fsn : Fs h3 (.slice (some ⟨h3.size, 0, none⟩) xs.length xs.length) := fun r e => by simp only [blk, Option.some.injEq] at e; omega
  have bsn : ∀ r, blk (.slice (some ⟨h3.size, 0, none⟩) xs.length xs.length) = some r → r < h4.size := fun r e => osn.lt e
  generalize (Value.slice (some ⟨h3.size, 0, none⟩) xs.length xs.length) = sn at *
  refine eb rfl ?_
  have hg5 := Ch.push h4 (.map #[] 0)
  have hm5 : Mp .i64 mi (h4.push (.map #[] 0)) (.map (some h4.size)) [] := Mp.new
  have hsz5 : (h4.push (.map #[] 0)).size = h4.size + 1 := by simp
  generalize h4.push (.map #[] 0) = h5 at *
  have gb : Gr h3 h5 := g4.trans hg5
  refine vb ood.sl.ln ?_
  refine .by (fun (i : Nat) t v h' => i ≤ xs.length ∧ v = .int .i64 i ∧ Ow EO h' t (((order xs).take i).map (opAt xs)) ∧ Ow EB h' sn (marks xs.length ((order xs).take i)) ∧ Gr h3 h' ∧ h5.size ≤ h'.size ∧ Fs h5 t ∧
      ∃ ps, Mp .i64 mi h' (.map (some h4.size)) ps ∧ ∀ k m, lookA ps k = some m → ∃ a, a < i ∧ (order xs)[a]? = some m ∧ (opAt xs m).t = k) (fun i => xs.length - i) 0
    ⟨by omega, rfl, by simpa using Ow.nil, by rw [List.take_zero, marks_nil]; exact osn.gr hg5, gb, Nat.le_refl _, .nil _, [], hm5, fun k m e => by simp [lookA] at e⟩ ?_
  rintro i t v h' ⟨hi, rfl, ot, on, hg, hsz, ft, ps, hm, hps⟩ again hagain
  rw [hol, bin_lss, vb_some]
  have hnm : ∀ {q : Value}, Fs h5 q → ∀ r, blk q = some r → ¬ mblk (.map (some h4.size)) = some r := fun f r e e2 => by
    simp only [mblk, Option.some.injEq] at e2; have := f r e; omega
  have hns : ∀ r, blk sn = some r → ¬ mblk (.map (some h4.size)) = some r := fun r e e2 => by
    simp only [mblk, Option.some.injEq] at e2; have := bsn r e; omega
  have dts : Dj t sn := Dj.fresh (h := h5) ft fun r e => by have := bsn r e; omega
  refine brd (fun h6 => ?_) fun h6 => ?_
  · have hi' : i < (order xs).length := by omega
    have hn : (order xs)[i] < xs.length := mem_order.mp (List.getElem_mem hi')
    have hget := idx_get hi'
    have htk : (order xs).take (i + 1) = (order xs).take i ++ [(order xs)[i]] := by rw [List.take_add_one, hget]; rfl
    have hnot : ((order xs).take i).contains (order xs)[i] = false := by
      rw [Bool.eq_false_iff]
      intro hc
      rw [List.contains_iff_mem] at hc
      obtain ⟨j, hj, e⟩ := List.mem_take_iff_getElem.mp hc
      have := (List.getElem?_inj (i := j) (j := i) (by omega) (nodup_order xs)).mp (by rw [idx_get (by omega), idx_get hi', e])
      omega
    generalize (order xs)[i] = n at *
    refine (ood.sl.gr hg).one rfl hget rfl rfl ?_
    refine .at (fun v h'' => h'' = h' ∧ v = .bool false) ?_ ?_
    · rw [bin_lss, vb_some]
      refine brF (by omega) ?_
      refine vb hl.ln ?_
      rw [bin_geq, vb_some]
      refine brF (by omega) ?_
      refine on.sl.one rfl (marks_get hn) rfl rfl ?_
      exact ⟨rfl, by rw [hnot]⟩
    rintro v h'' ⟨rfl, rfl⟩
    rw [br_false]
    refine on.set1 (by unfold marks; simpa using hn) true rfl rfl rfl rfl fun h7 on7 c7 => ?_
    rw [marks_set hn, ← htk] at on7
    have g7 : Gr h3 h7 := hg.write c7 fsn
    have hm7 : Mp .i64 mi h7 (.map (some h4.size)) ps := hm.ch c7 fun r e e2 => hns r e2 e
    have ot7 := ot.other c7 dts
    refine (hl.gr (g3.trans g7)).fld rfl (opAt_get hn) rfl rfl ?_
    refine vb hm7.lookOk ?_
    simp only [ext0', ext1', vb_some]
    refine .at (fun v h'' => h'' = h7 ∧ v = .bool false) ?_ ?_
    · cases hk : lookA ps (opAt xs n).t with
      | none => exact br (fun e => by simp at e) fun _ => ⟨rfl, rfl⟩
      | some m =>
        obtain ⟨a, ha, hga, hta⟩ := hps _ _ hk
        have := order_mono ha hga hget hta
        refine br (fun _ => ?_) fun e => by simp at e
        refine vb (v := .bool false) ?_ ⟨rfl, rfl⟩
        simp only [Option.map_some, Option.getD_some, mi]
        rw [bin_gtr]
        have : ¬ ((n : Int) < (m : Int)) := by omega
        simp [this]
    rintro v h'' ⟨rfl, rfl⟩
    rw [br_false]
    refine (hl.gr (g3.trans g7)).fld rfl (opAt_get hn) rfl rfl ?_
    refine hm7.mup (opAt xs n).t n rfl fun h8 hm8 c8 => ?_
    have g8 : Gr h3 h8 := g7.young c8 fun r e => by simp only [mblk, Option.some.injEq] at e; have := g4.size; omega
    refine (hl.gr (g3.trans g8)).whole rfl (opAt_get hn) rfl ?_
    have ot8 := ot7.ch c8 (hnm ft)
    have on8 := on7.ch c8 hns
    refine app1 (E := EO) (x := opAt xs n) ot8 rfl rfl rfl (by simp; omega) (by simp; omega) fun t' h9 q1 q2 q3 => ?_
    have hs8 : h5.size ≤ h8.size := by have := c7.size; have := c8.size; omega
    have ft' : Fs h5 t' := fun r e => (q3 r e).elim (ft r) fun l => by omega
    refine vb (inc (n := i) (by omega)) ?_
    refine hagain (i + 1) _ _ _ ⟨by omega, rfl, ?_, on8.other q2 dts.symm, g8.write q2 (ft.old gb), Nat.le_trans hs8 q2.size, ft', _, hm8.ch q2 (fun r e e2 => hnm ft r e2 e), fun k m e => ?_⟩ (by omega)
    · rw [htk, List.map_append]; exact q1
    · rw [lookA_updA] at e
      split at e
      · rename_i hk
        simp only [Option.some.injEq] at e
        subst e
        exact ⟨i, by omega, hget, hk.symm⟩
      · obtain ⟨a, ha, h1, h2⟩ := hps k m e
        exact ⟨a, by omega, h1, h2⟩
  · have : i = xs.length := by omega
    subst this
    have hall : (order xs).take xs.length = order xs := List.take_of_length_le (by omega)
    rw [hall] at ot
    have ot : Ow EO h' t (ordOps xs) := ot
    have hol2 := ordOps_len xs
    refine C.cFast (hs.gr (g3.trans hg)) (hl.gr (g3.trans hg)) (by omega) (by omega) fun a b h7 oa ob g7 _ _ => ?_
    simp only [ext0', ext1', vb_some]
    refine C.cApply ((hs.gr (g3.trans hg)).gr g7) (ot.sl.gr g7) (by omega) (by omega) fun a' b' h8 oa' ob' g8 _ _ _ => ?_
    simp only [ext0', ext1', vb_some]
    obtain ⟨n1, n2⟩ := fast_len st xs
    obtain ⟨n3, n4⟩ := appAll_len (ordOps xs) st
    have f1 : (fast st xs).1 = (appAll st (ordOps xs)).1 := by rw [fast_order]
    have go8 : Gr h3 h8 := (hg.trans g7).trans g8
    refine .at (fun v h'' => h'' = h8 ∧ v = .bool false) ?_ ?_
    · refine vb (ood.sl.gr go8).ln (vb hl.ln ?_)
      rw [bin_neq, vb_some, hol]
      refine brF (by simp) ?_
      refine C.eqI (oa.sl.gr g8) oa'.sl (by omega) ?_
      rw [f1, decide_eq_true rfl, uno_not, vb_some]
      refine br (fun e => by simp at e) fun _ => ?_
      refine vb (ob.sl.gr g8).ln (vb hl.ln ?_)
      rw [bin_neq, vb_some, n1]
      refine brF (by simp) ?_
      refine vb ob'.sl.ln (vb hl.ln ?_)
      rw [bin_neq, vb_some, n3, hol2]
      exact ⟨rfl, by simp⟩
    rintro v h'' ⟨rfl, rfl⟩
    rw [br_false]
    refine vb (ood.sl.gr go8).ln ?_
    refine .by (fun (i : Nat) v h9 => i ≤ xs.length ∧ v = .int .i64 i ∧ h9 = h'') (fun i => xs.length - i) 0 ⟨by omega, rfl, rfl⟩ ?_
    rintro i v h9 ⟨hi, rfl, rfl⟩ again hagain
    rw [hol, bin_lss, vb_some]
    refine brd (fun h10 => ?_) fun h10 => ?_
    · have hi' : i < (order xs).length := by omega
      have hn : (order xs)[i] < xs.length := mem_order.mp (List.getElem_mem hi')
      refine (ood.sl.gr go8).one rfl (idx_get hi') rfl rfl ?_
      have hfa := fast_at xs st (idx_get hi')
      have hlt : (order xs)[i] < (fast st xs).2.length := by omega
      have hlt2 : i < (appAll st (ordOps xs)).2.length := by omega
      refine (ob.sl.gr g8).whole rfl (idx_get hlt) rfl (ob'.sl.whole rfl (idx_get hlt2) rfl ?_)
      rw [idx_get hlt, idx_get hlt2, Option.some.injEq] at hfa
      refine vb (congrArg neg? eqL_two) ?_
      rw [hfa, decide_eq_true rfl]
      refine br (fun e => by simp at e) fun _ => ?_
      refine vb (inc (n := i) (by omega)) ?_
      exact hagain (i + 1) _ _ ⟨by omega, rfl, rfl⟩ (by omega)
    · exact C.awake fun h' g => hR h' ((g3.trans go8).trans g)
end Go.En
