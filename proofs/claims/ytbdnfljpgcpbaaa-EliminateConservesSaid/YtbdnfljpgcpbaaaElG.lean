/-
  Layer 53: Fast, and the reference's.
-/
import Derived.Test.YtbdnfljpgcpbaaaElF
namespace Go.En
variable {S : Sys} {I : Ids} {h : Hp} {R : Value → Hp → Prop}

def op0 : Op := ⟨0, false, 0⟩
def opAt (xs : List Op) (i : Nat) : Op := (xs[i]?).getD op0
def setP (xs : List Op) (a : List (Int × Int)) (p : Nat × Nat) : List (Int × Int) := (a.set p.1 (0, (opAt xs p.1).v)).set p.2 (0, (opAt xs p.1).v)
def ans1 (xs : List Op) : List (Int × Int) := (pairs xs).foldl (setP xs) (List.replicate xs.length (0, 0))
def restOps (xs : List Op) : List Op := (others xs).map (opAt xs)
def setAll (a : List (Int × Int)) : List (Nat × (Int × Int)) → List (Int × Int)
  | [] => a
  | p :: r => setAll (a.set p.1 p.2) r
def fast (st : List Int) (xs : List Op) : List Int × List (Int × Int) :=
  ((appAll st (restOps xs)).1, setAll (ans1 xs) ((others xs).zip (appAll st (restOps xs)).2))
theorem setAll_snoc (p : Nat × (Int × Int)) : ∀ (l : List (Nat × (Int × Int))) (a : List (Int × Int)), setAll a (l ++ [p]) = (setAll a l).set p.1 p.2
  | [], _ => rfl
  | _ :: l, a => setAll_snoc p l _
theorem setAll_len : ∀ (l : List (Nat × (Int × Int))) (a : List (Int × Int)), (setAll a l).length = a.length
  | [], _ => rfl
  | _ :: l, a => by rw [setAll, setAll_len l]; simp
theorem foldP_len (xs : List Op) : ∀ (l : List (Nat × Nat)) (a : List (Int × Int)), (l.foldl (setP xs) a).length = a.length
  | [], _ => rfl
  | p :: l, a => by rw [List.foldl_cons, foldP_len xs l]; simp [setP]
theorem ans1_len (xs : List Op) : (ans1 xs).length = xs.length := by rw [ans1, foldP_len]; simp
theorem opAt_get {xs : List Op} {i : Nat} (h : i < xs.length) : xs[i]? = some (opAt xs i) := by unfold opAt; rw [idx_get h]; rfl

theorem mem_pushes {xs : List Op} {i : Nat} (h : i ∈ pushes xs) : i < xs.length := by
  unfold pushes at h; rw [List.mem_filter, List.mem_range] at h; exact h.1
theorem mem_pops {xs : List Op} {i : Nat} (h : i ∈ pops xs) : i < xs.length := by
  unfold pops at h; rw [List.mem_filter, List.mem_range] at h; exact h.1
theorem mem_others {xs : List Op} {i : Nat} (h : i ∈ others xs) : i < xs.length := by
  unfold others at h; rw [List.mem_filter, List.mem_range] at h; exact h.1
theorem mem_pairs {xs : List Op} {p : Nat × Nat} (h : p ∈ pairs xs) : p.1 < xs.length ∧ p.2 < xs.length := by
  obtain ⟨a, b⟩ := p
  have := List.of_mem_zip h
  exact ⟨mem_pushes this.1, mem_pops this.2⟩

theorem zip_snoc {α β : Type} : ∀ (os : List α) (B : List β) (y : β) (h : B.length < os.length), os.zip (B ++ [y]) = os.zip B ++ [(os[B.length], y)]
  | [], _, _, h => by simp at h
  | _ :: _, [], _, _ => by simp
  | o :: os, z :: B, y, h => by
    have := zip_snoc os B y (by simpa using h)
    simp only [List.cons_append, List.zip_cons_cons, this, List.length_cons, List.getElem_cons_succ]

theorem K_Fast (C : Cs3 S I) {s l : Value} {st : List Int} {xs : List Op} (hs : Sl EI h s st) (hl : Sl EO h l xs) (hb : st.length ≤ 1000) (hb2 : xs.length ≤ 1000)
    (hR : ∀ a b h', Ow EI h' a (fast st xs).1 → Ow EA h' b (fast st xs).2 → Gr h h' → Fs h a → Fs h b → R (.tuple #[a, b]) h') : F_eliminate_Fast S I s l h R := by
  unfold F_eliminate_Fast
  refine C.cPairs hl hb2 fun p r h1 op orr g1 fp fr d => ?_
  simp only [ext0', ext1', vb_some]
  have l1 := len_pairs xs
  have l2 := len_pushes xs
  have l3 := len_others xs
  refine .at (fun b h2 => Ow EA h2 b (List.replicate xs.length (0, 0)) ∧ Gr h1 h2 ∧ Fs h1 b) ?_ ?_
  · refine vb hl.ln ?_
    rw [bin_gtr, vb_some]
    refine brd (fun h2 => ?_) fun h2 => ?_
    · refine vb hl.ln ?_
      refine make_ok (E := EA) (x0 := (0, 0)) rfl rfl (by omega) (by omega) fun h' a b c => ?_
      exact ⟨a, b, fun r e => by simp only [blk, Option.some.injEq] at e; omega⟩
    · have : xs.length = 0 := by omega
      rw [this]
      exact ⟨Ow.nil, .refl _ _, .nil _⟩
  rintro b h2 ⟨ob0, g2, fb0⟩
  refine vb op.sl.ln ?_
  refine .by (fun (i : Nat) v h' => i ≤ (pairs xs).length ∧ v = .int .i64 i ∧ Ow EA h' b (((pairs xs).take i).foldl (setP xs) (List.replicate xs.length (0, 0))) ∧ Gr h1 h') (fun i => (pairs xs).length - i) 0 ⟨by omega, rfl, by simpa using ob0, g2⟩ ?_
  rintro i v h' ⟨hi, rfl, ob, hg⟩ again hagain
  rw [bin_lss, vb_some]
  refine brd (fun h3 => ?_) fun h3 => ?_
  · have hi' : i < (pairs xs).length := by omega
    obtain ⟨m1, m2⟩ := mem_pairs (List.getElem_mem hi')
    refine (op.sl.gr hg).whole rfl (idx_get hi') rfl ?_
    refine nwset (E := EP) (0, 0) (pairs xs)[i] rfl rfl rfl fun h4 hv g4 => ?_
    refine vb (hv.whole rfl) ?_
    have hsucc : ((pairs xs).take (i + 1)).foldl (setP xs) (List.replicate xs.length (0, 0)) = setP xs (((pairs xs).take i).foldl (setP xs) (List.replicate xs.length (0, 0))) (pairs xs)[i] := by
      rw [List.take_add_one, idx_get hi', List.foldl_append]; rfl
    have hA : (((pairs xs).take i).foldl (setP xs) (List.replicate xs.length (0, 0))).length = xs.length := by rw [foldP_len]; simp
    generalize ((pairs xs).take i).foldl (setP xs) (List.replicate xs.length (0, 0)) = A at *
    generalize (pairs xs)[i] = q at *
    have hnb : ¬ blk b = some h'.size := fun e => by have := ob.lt e; omega
    let AJ : Nat → List (Int × Int) := fun j => match j with
      | 0 => A
      | 1 => A.set q.1 (0, (opAt xs q.1).v)
      | _ => setP xs A q
    refine .by (fun (j : Nat) v h5 => j ≤ 2 ∧ v = .int .i64 j ∧ Ow EA h5 b (AJ j) ∧ Gr h1 h5 ∧ Va EP h5 h'.size q) (fun j => 2 - j) 0 ⟨by omega, rfl, ob.gr g4, hg.trans g4, hv⟩ ?_
    rintro j v h5 ⟨hj, rfl, ob5, g5, hv5⟩ again2 hagain2
    rw [bin_lss, vb_some]
    have step : ∀ (jn : Nat), jn < xs.length → ∀ (h5 : Hp) (L L' : List (Int × Int)), L.length = xs.length → L.set jn (0, (opAt xs q.1).v) = L' → Ow EA h5 b L → Gr h1 h5 → Va EP h5 h'.size q → ∀ k : Hp → Prop, (∀ h6, Ow EA h6 b L' → Gr h1 h6 → Va EP h6 h'.size q → k h6) →
        Vb (ixa 2 1 (at0 h'.size) (Value.int IntKind.i64 0)) fun v40 => Vb (ldc v40 h5) fun v41 => Vb (ixs 3 l v41) fun v42 => Vb (fa 2 v42) fun v43 => Vb (ldc v43 h5) fun v44 =>
          Vb (bldS [(0, 1), (1, 1)] #[Value.int IntKind.i64 0, Value.int IntKind.i64 0] [(1, v44)]) fun v45 => Vb (ixs 2 b (.int .i64 jn)) fun v46 => Sb (sto 2 v46 v45 h5) k := by
      intro jn hjn h5 L L' hL hL' ob5 g5 hv5 k hk
      refine vb (v := at0 h'.size) rfl ?_
      refine vb (hv5.one (u := .int .i64 q.1) rfl) ?_
      refine (hl.gr (g1.trans g5)).fld rfl (opAt_get m1) rfl rfl ?_
      refine vb (v := .agg ⟨EA.c (0, (opAt xs q.1).v)⟩) rfl ?_
      refine ob5.set (by omega) (0, (opAt xs q.1).v) rfl rfl rfl fun h6 o6 c6 => ?_
      exact hk h6 (hL' ▸ o6) (g5.write c6 fb0) (hv5.ch c6 hnb)
    refine brd (fun h6 => ?_) fun h6 => ?_
    · have hj2 : j = 0 ∨ j = 1 := by omega
      rcases hj2 with rfl | rfl
      · refine vb (v := .int .i64 q.1) rfl ?_
        refine step q.1 m1 h5 A (AJ 1) hA rfl ob5 g5 hv5 _ fun h7 a1 a2 a3 => ?_
        refine vb (inc (n := 0) (by omega)) ?_
        exact hagain2 1 _ _ ⟨by omega, rfl, a1, a2, a3⟩ (by omega)
      · refine vb (v := .int .i64 q.2) rfl ?_
        refine step q.2 m2 h5 (AJ 1) (AJ 2) (by simp [AJ, hA]) rfl ob5 g5 hv5 _ fun h7 a1 a2 a3 => ?_
        refine vb (inc (n := 1) (by omega)) ?_
        exact hagain2 2 _ _ ⟨by omega, rfl, a1, a2, a3⟩ (by omega)
    · have : j = 2 := by omega
      subst this
      refine vb (inc (n := i) (by omega)) ?_
      refine hagain (i + 1) _ _ ⟨by omega, rfl, ?_, g5⟩ (by omega)
      rw [hsucc]; exact ob5
  · have : i = (pairs xs).length := by omega
    subst this
    rw [List.take_length] at ob
    refine C.cClone (hs.gr (g1.trans hg)) (by omega) fun o2 h4 oo g4 fo => ?_
    refine vb orr.sl.ln ?_
    have hro : (restOps xs).length = (others xs).length := by simp [restOps]
    have ob : Ow EA h' b (ans1 xs) := ob
    have g14 : Gr h1 h4 := hg.trans g4
    have fo' : Fs h1 o2 := fo.old hg
    refine .by (fun (i : Nat) a v h' => i ≤ (others xs).length ∧ v = .int .i64 i ∧ Ow EI h' a (appAll st ((restOps xs).take i)).1 ∧ Ow EA h' b (setAll (ans1 xs) (((others xs).zip (appAll st ((restOps xs).take i)).2))) ∧ Gr h1 h' ∧ Fs h1 a ∧ Dj a b)
      (fun i => (others xs).length - i) 0 ⟨by omega, rfl, by simpa [appAll] using oo, by simpa [appAll, setAll] using ob.gr g4, g14, fo', Dj.fresh fo fun r e => ob.lt e⟩ ?_
    rintro i a v h5 ⟨hi, rfl, oa, ob5, hg5, fa, hd⟩ again hagain
    rw [bin_lss, vb_some]
    refine brd (fun h6 => ?_) fun h6 => ?_
    · have hi' : i < (others xs).length := by omega
      have hm := mem_others (List.getElem_mem hi')
      have hi2 : i < (restOps xs).length := by omega
      have hop : (restOps xs)[i] = opAt xs (others xs)[i] := by simp [restOps]
      obtain ⟨n1, n2⟩ := appAll_len ((restOps xs).take i) st
      rw [List.length_take] at n1 n2
      refine (orr.sl.gr hg5).one rfl (idx_get hi') rfl rfl ?_
      refine (hl.gr (g1.trans hg5)).whole rfl (opAt_get hm) rfl ?_
      refine C.cApply oa (by omega) fun a' h7 oa' c7 n7 => ?_
      simp only [ext0', ext1', vb_some]
      have ob7 := ob5.other c7 hd.symm
      have d7 : Dj a' b := hd.next (fun r e => ob5.lt e) n7
      refine ob7.set (by rw [setAll_len, ans1_len]; exact hm) _ rfl rfl rfl fun h8 o8 c8 => ?_
      have g7 := hg5.write c7 fa
      refine vb (inc (n := i) (by omega)) ?_
      refine hagain (i + 1) _ _ _ ⟨by omega, rfl, ?_, ?_, g7.write c8 fb0, fa.next hg5 n7, d7⟩ (by omega)
      · rw [appAll_take hi2, hop]; exact oa'.other c8 d7
      · rw [appAll_take hi2, hop]
        have hz : (others xs).zip ((appAll st ((restOps xs).take i)).2 ++ [(appl (appAll st ((restOps xs).take i)).1 (opAt xs (others xs)[i])).2]) = (others xs).zip (appAll st ((restOps xs).take i)).2 ++ [((others xs)[i], (appl (appAll st ((restOps xs).take i)).1 (opAt xs (others xs)[i])).2)] := by
          have hlen : (appAll st ((restOps xs).take i)).2.length = i := by omega
          have := zip_snoc (others xs) (appAll st ((restOps xs).take i)).2 (appl (appAll st ((restOps xs).take i)).1 (opAt xs (others xs)[i])).2 (by omega)
          simp only [hlen] at this
          exact this
        simp only [hz, setAll_snoc]; exact o8
    · have : i = (others xs).length := by omega
      subst this
      rw [← hro, List.take_length] at oa ob5
      exact hR _ _ _ oa ob5 (g1.trans hg5) (fa.old g1) (fb0.old g1)
end Go.En
