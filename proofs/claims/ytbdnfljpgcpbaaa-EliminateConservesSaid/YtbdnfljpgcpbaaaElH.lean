/-
  Layer 53: the reference's Fast.
-/
import Derived.Test.YtbdnfljpgcpbaaaElG
namespace Go.En
variable {S : Sys} {I : Ids} {h : Hp} {R : Value → Hp → Prop}

structure Cs4 (S : Sys) (I : Ids) : Prop extends Cs3 S I where
  cRefApply : ∀ {h R s l st xs}, Sl EI h s st → Sl EO h l xs → st.length ≤ 1000 → xs.length ≤ 1000 →
    (∀ a b h', Ow EI h' a (appAll st xs).1 → Ow EA h' b (appAll st xs).2 → Gr h h' → Fs h a → Fs h b → Dj a b → R (.tuple #[a, b]) h') → S.C I.f_simulcastref53_Apply [s, l] h R

theorem K_refFast (C : Cs4 S I) {s l : Value} {st : List Int} {xs : List Op} (hs : Sl EI h s st) (hl : Sl EO h l xs) (hb : st.length ≤ 1000) (hb2 : xs.length ≤ 1000)
    (hR : ∀ a b h', Sl EI h' a (fast st xs).1 → Sl EA h' b (fast st xs).2 → Gr h h' → Fs h a → Fs h b → R (.tuple #[a, b]) h') : F_simulcastref53_Fast S I s l h R := by
  unfold F_simulcastref53_Fast
  refine C.cRef hl hb2 fun p q r h1 sp sq sr g1 fp fq fr => ?_
  simp only [ext0', ext1', ext2', vb_some]
  have l1 := len_pairs xs
  have l2 := len_pushes xs
  have l3 := len_others xs
  refine vb hl.ln ?_
  refine make_ok (E := EA) (x0 := (0, 0)) rfl rfl (by omega) (by omega) fun h2 ob0 g2 _ => ?_
  have fb0 : Fs h1 (.slice (some ⟨h1.size, 0, none⟩) xs.length xs.length) := fun r e => by simp only [blk, Option.some.injEq] at e; omega
  generalize (Value.slice (some ⟨h1.size, 0, none⟩) xs.length xs.length) = b at *
  refine .by (fun (i : Nat) v h' => i ≤ (pairs xs).length ∧ v = .int .i64 i ∧ Ow EA h' b (((pairs xs).take i).foldl (setP xs) (List.replicate xs.length (0, 0))) ∧ Gr h1 h') (fun i => (pairs xs).length - i) 0 ⟨by omega, rfl, by simpa using ob0, g2⟩ ?_
  rintro i v h' ⟨hi, rfl, ob, hg⟩ again hagain
  have sp' := sp.gr hg
  have sq' := sq.gr hg
  refine vb sp'.ln ?_
  rw [List.length_map, bin_lss, vb_some]
  refine brd (fun h3 => ?_) fun h3 => ?_
  · have hi' : i < (pairs xs).length := by omega
    obtain ⟨m1, m2⟩ := mem_pairs (List.getElem_mem hi')
    have hsucc : ((pairs xs).take (i + 1)).foldl (setP xs) (List.replicate xs.length (0, 0)) = setP xs (((pairs xs).take i).foldl (setP xs) (List.replicate xs.length (0, 0))) (pairs xs)[i] := by
      rw [List.take_add_one, idx_get hi', List.foldl_append]; rfl
    have hA : (((pairs xs).take i).foldl (setP xs) (List.replicate xs.length (0, 0))).length = xs.length := by rw [foldP_len]; simp
    have e1 : ((pairs xs).map (·.1))[i]? = some (pairs xs)[i].1 := by rw [List.getElem?_map, idx_get hi']; rfl
    have e2 : ((pairs xs).map (·.2))[i]? = some (pairs xs)[i].2 := by rw [List.getElem?_map, idx_get hi']; rfl
    generalize ((pairs xs).take i).foldl (setP xs) (List.replicate xs.length (0, 0)) = A at *
    generalize (pairs xs)[i] = q at *
    refine sp'.one rfl e1 rfl rfl (sp'.one rfl e1 rfl rfl ?_)
    refine (hl.gr (g1.trans hg)).fld rfl (opAt_get m1) rfl rfl ?_
    refine vb (v := .agg ⟨EA.c (0, (opAt xs q.1).v)⟩) rfl ?_
    refine ob.set (by omega) (0, (opAt xs q.1).v) rfl rfl rfl fun h6 o6 c6 => ?_
    have g6 := hg.write c6 fb0
    refine (sq.gr g6).one rfl e2 rfl rfl ((sp.gr g6).one rfl e1 rfl rfl ?_)
    refine (hl.gr (g1.trans g6)).fld rfl (opAt_get m1) rfl rfl ?_
    refine vb (v := .agg ⟨EA.c (0, (opAt xs q.1).v)⟩) rfl ?_
    refine o6.set (by simp; omega) (0, (opAt xs q.1).v) rfl rfl rfl fun h7 o7 c7 => ?_
    refine vb (inc (n := i) (by omega)) ?_
    refine hagain (i + 1) _ _ ⟨by omega, rfl, ?_, g6.write c7 fb0⟩ (by omega)
    rw [hsucc]; exact o7
  · have : i = (pairs xs).length := by omega
    subst this
    rw [List.take_length] at ob
    have ob : Ow EA h' b (ans1 xs) := ob
    have hro : (restOps xs).length = (others xs).length := by simp [restOps]
    refine .by (fun (i : Nat) o v h5 => i ≤ (others xs).length ∧ v = .int .i64 i ∧ Ow EO h5 o ((restOps xs).take i) ∧ Gr h' h5 ∧ Fs h' o) (fun i => (others xs).length - i) 0 ⟨by omega, rfl, by simpa using Ow.nil, .refl _ _, .nil _⟩ ?_
    rintro i o v h5 ⟨hi, rfl, oo, hg5, fo⟩ again hagain
    have sr' := (sr.gr hg).gr hg5
    refine vb sr'.ln ?_
    rw [bin_lss, vb_some]
    refine brd (fun h6 => ?_) fun h6 => ?_
    · have hi' : i < (others xs).length := by omega
      have hm := mem_others (List.getElem_mem hi')
      refine sr'.one rfl (idx_get hi') rfl rfl ?_
      refine (hl.gr ((g1.trans hg).trans hg5)).whole rfl (opAt_get hm) rfl ?_
      refine app1 (E := EO) (x := opAt xs (others xs)[i]) oo rfl rfl rfl (by simp; omega) (by simp; omega) fun o' h7 q1 q2 q3 => ?_
      refine vb (inc (n := i) (by omega)) ?_
      refine hagain (i + 1) _ _ _ ⟨by omega, rfl, ?_, hg5.write q2 fo, fo.next hg5 q3⟩ (by omega)
      rw [List.take_add_one]
      have : (restOps xs)[i]? = some (opAt xs (others xs)[i]) := by simp [restOps, hi']
      rw [this]; exact q1
    · have : i = (others xs).length := by omega
      subst this
      rw [← hro, List.take_length] at oo
      refine C.cRefApply (hs.gr ((g1.trans hg).trans hg5)) oo.sl hb (by omega) fun a c h8 oa oc g8 fa fc d => ?_
      simp only [ext0', ext1', vb_some]
      obtain ⟨n1, n2⟩ := appAll_len (restOps xs) st
      have ob8 : Ow EA h8 b (ans1 xs) := ((ob.gr hg5).gr g8)
      have ga : Gr h' h8 := hg5.trans g8
      have hab : Dj a b := Dj.fresh fa fun r e => (ob.gr hg5).lt e
      have hcb : Dj c b := Dj.fresh fc fun r e => (ob.gr hg5).lt e
      refine .by (fun (i : Nat) v h9 => i ≤ (others xs).length ∧ v = .int .i64 i ∧ Ow EI h9 a (appAll st (restOps xs)).1 ∧ Ow EA h9 c (appAll st (restOps xs)).2 ∧ Ow EA h9 b (setAll (ans1 xs) (((others xs).zip (appAll st (restOps xs)).2).take i)) ∧ Gr h1 h9)
        (fun i => (others xs).length - i) 0 ⟨by omega, rfl, oa, oc, by simpa [setAll] using ob8, hg.trans ga⟩ ?_
      rintro i v h9 ⟨hi, rfl, oa, oc, ob9, hg9⟩ again hagain
      have sr' := sr.gr hg9
      refine vb sr'.ln ?_
      rw [bin_lss, vb_some]
      refine brd (fun h6 => ?_) fun h6 => ?_
      · have hi' : i < (others xs).length := by omega
        have hic : i < (appAll st (restOps xs)).2.length := by omega
        have hm := mem_others (List.getElem_mem hi')
        refine sr'.one rfl (idx_get hi') rfl rfl ?_
        refine oc.sl.whole rfl (idx_get hic) rfl ?_
        refine ob9.set (by rw [setAll_len, ans1_len]; exact hm) (appAll st (restOps xs)).2[i] rfl rfl rfl fun h10 o10 c10 => ?_
        refine vb (inc (n := i) (by omega)) ?_
        refine hagain (i + 1) _ _ ⟨by omega, rfl, oa.other c10 hab, oc.other c10 hcb, ?_, hg9.write c10 fb0⟩ (by omega)
        have hz : ((others xs).zip (appAll st (restOps xs)).2)[i]? = some ((others xs)[i], (appAll st (restOps xs)).2[i]) := by
          rw [List.getElem?_zip_eq_some]; exact ⟨idx_get hi', idx_get hic⟩
        rw [List.take_add_one, hz]
        simp only [Option.toList_some, setAll_snoc]
        exact o10
      · have : i = (others xs).length := by omega
        subst this
        rw [List.take_of_length_le (by rw [List.length_zip]; omega)] at ob9
        exact hR _ _ _ oa.sl ob9.sl (g1.trans hg9) (fa.old (g1.trans (hg.trans hg5))) (fb0.old g1)
end Go.En
