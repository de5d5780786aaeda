/-
  Layer 53: Order, apply, Apply, and the reference's Apply.
-/
import Derived.Test.YtbdnfljpgcpbaaaElD
namespace Go.En
variable {S : Sys} {I : Ids} {h : Hp} {R : Value → Hp → Prop}

def order (xs : List Op) : List Nat := ((pairs xs).flatMap fun p => [p.1, p.2]) ++ others xs

structure Cs2 (S : Sys) (I : Ids) : Prop where
  cPairs : ∀ {h R l xs}, Sl EO h l xs → xs.length ≤ 1000 → (∀ p r h', Ow EP h' p (pairs xs) → Ow EN h' r (others xs) → Gr h h' → Fs h p → Fs h r → Dj p r → R (.tuple #[p, r]) h') → S.C I.f_eliminate_Pairs [l] h R
  cRef : ∀ {h R l xs}, Sl EO h l xs → xs.length ≤ 1000 → (∀ a b r h', Sl EN h' a ((pairs xs).map (·.1)) → Sl EN h' b ((pairs xs).map (·.2)) → Sl EN h' r (others xs) → Gr h h' → Fs h a → Fs h b → Fs h r → R (.tuple #[a, b, r]) h') → S.C I.f_simulcastref53_Pairs [l] h R
  cClone : ∀ {h R s xs}, Sl EI h s xs → xs.length ≤ 1000000 → (∀ v h', Ow EI h' v xs → Gr h h' → Fs h v → R v h') → S.C I.f_slices_Clone_int64_int64 [s] h R

theorem len_flat (ps : List (Nat × Nat)) : (ps.flatMap fun p => [p.1, p.2]).length = ps.length * 2 := by
  induction ps with
  | nil => rfl
  | cons p ps ih => rw [List.flatMap_cons, List.length_append, ih, List.length_cons]; simp; omega

theorem K_Order (C : Cs2 S I) {l : Value} {xs : List Op} (hl : Sl EO h l xs) (hb : xs.length ≤ 1000) (hR : ∀ v h', Ow EN h' v (order xs) → Gr h h' → Fs h v → R v h') : F_eliminate_Order S I l h R := by
  unfold F_eliminate_Order
  refine C.cPairs hl hb fun p r h1 op orr g1 fp fr d => ?_
  simp only [ext0', ext1', vb_some]
  refine vb op.sl.ln ?_
  have l1 := len_pairs xs
  have l2 := len_pushes xs
  have l3 := len_others xs
  refine .by (fun (i : Nat) o v h' => i ≤ (pairs xs).length ∧ v = .int .i64 i ∧ Ow EN h' o (((pairs xs).take i).flatMap fun p => [p.1, p.2]) ∧ Gr h1 h' ∧ Fs h1 o) (fun i => (pairs xs).length - i) 0 ⟨by omega, rfl, by simpa using Ow.nil, .refl _ _, .nil _⟩ ?_
  rintro i o v h' ⟨hi, rfl, ho, hg, hf⟩ again hagain
  rw [bin_lss, vb_some]
  have hle : (((pairs xs).take i).flatMap fun p => [p.1, p.2]).length ≤ 2000 := by rw [len_flat, List.length_take]; omega
  refine brd (fun h2 => ?_) fun h2 => ?_
  · have hi' : i < (pairs xs).length := by omega
    refine (op.sl.gr hg).whole rfl (idx_get hi') rfl ?_
    refine nwset (E := EP) (0, 0) (pairs xs)[i] rfl rfl rfl fun h2 hv hg2 => ?_
    have e : sla 2 1 (at0 h'.size) none none none = some (.slice (some ⟨h'.size, 0, none⟩) 2 2) := rfl
    refine vb e ?_
    have hs : Sl EN h2 (.slice (some ⟨h'.size, 0, none⟩) 2 2) [(pairs xs)[i].1, (pairs xs)[i].2] := by
      refine ⟨_, 2, rfl, by simp, fun e => by simp at e, fun j x hx => ⟨h'.size, 0, rfl, fun q u hu => ?_⟩⟩
      have hr := hv.row
      match j, hx with
      | 0, hx =>
        simp only [List.getElem?_cons_zero, Option.some.injEq] at hx
        subst hx
        match q, hu with
        | 0, hu => exact hr 0 u hu
      | 1, hx =>
        simp only [List.getElem?_cons_succ, List.getElem?_cons_zero, Option.some.injEq] at hx
        subst hx
        match q, hu with
        | 0, hu => exact hr 1 u hu
    refine apw (ho.gr hg2) hs rfl rfl (by simp at *; omega) (by simp at *; omega) fun o' h3 a b c => ?_
    refine vb (inc (n := i) (by omega)) ?_
    refine hagain (i + 1) _ _ _ ⟨by omega, rfl, ?_, (hg.trans hg2).write b hf, hf.next (hg.trans hg2) c⟩ (by omega)
    rw [List.take_add_one, idx_get hi', List.flatMap_append]
    simpa using a
  · have : i = (pairs xs).length := by omega
    subst this
    rw [List.take_length] at ho hle
    refine apw ho (orr.sl.gr hg) rfl rfl (by omega) (by omega) fun o' h3 a b c => ?_
    exact hR _ _ a (g1.trans (hg.write b hf)) ((hf.next hg c).old g1)

/-- one operation on a stack -/
def appl (s : List Int) (o : Op) : List Int × (Int × Int) :=
  if o.p then (s ++ [o.v], (0, o.v)) else match s.getLast? with
    | none => (s, (8, 0))
    | some v => (s.take (s.length - 1), (0, v))
def appAll (s : List Int) : List Op → List Int × List (Int × Int)
  | [] => (s, [])
  | o :: r => ((appAll (appl s o).1 r).1, (appl s o).2 :: (appAll (appl s o).1 r).2)
theorem appAll_snoc (o : Op) : ∀ (l : List Op) (s : List Int), appAll s (l ++ [o]) = ((appl (appAll s l).1 o).1, (appAll s l).2 ++ [(appl (appAll s l).1 o).2])
  | [], s => rfl
  | x :: l, s => by simp [appAll, appAll_snoc o l]
theorem appAll_len : ∀ (l : List Op) (s : List Int), (appAll s l).2.length = l.length ∧ (appAll s l).1.length ≤ s.length + l.length
  | [], s => by simp [appAll]
  | x :: l, s => by
    have := appAll_len l (appl s x).1
    have h1 : (appl s x).1.length ≤ s.length + 1 := by unfold appl; split <;> (try split) <;> simp; omega
    simp only [appAll, List.length_cons]; omega
theorem appAll_take {l : List Op} {s : List Int} {i : Nat} (h : i < l.length) : appAll s (l.take (i + 1)) = ((appl (appAll s (l.take i)).1 l[i]).1, (appAll s (l.take i)).2 ++ [(appl (appAll s (l.take i)).1 l[i]).2]) := by
  rw [List.take_add_one, idx_get h]; exact appAll_snoc _ _ _

/-- apply on a stack of one's own -/
theorem K_apply {s : Value} {o : Op} {xs : List Int} (hs : Ow EI h s xs) (hb : xs.length ≤ 1000000)
    (hR : ∀ v h', Ow EI h' v (appl xs o).1 → Ch (fun r => blk s = some r) h h' → Nw h s v → R (.tuple #[v, .agg ⟨EA.c (appl xs o).2⟩]) h') : F_eliminate_apply S I s (.agg ⟨EO.c o⟩) h R := by
  unfold F_eliminate_apply
  have hv1 : Va EO (h.push (.cells (Value.cells (.agg ⟨EO.c o⟩)) I.t_eliminate_Op)) h.size o := Va.new rfl
  have g1 := Ch.push h (.cells (Value.cells (.agg ⟨EO.c o⟩)) I.t_eliminate_Op)
  refine eb rfl ?_
  have hsz : (h.push (.cells (Value.cells (.agg ⟨EO.c o⟩)) I.t_eliminate_Op)).size = h.size + 1 := by simp
  generalize (h.push (.cells (Value.cells (.agg ⟨EO.c o⟩)) I.t_eliminate_Op)) = h1 at *
  have hv2 : Va EA (h1.push (.cells #[.int .i64 0, .int .i64 0] I.t_api_Answer)) h1.size (0, 0) := Va.new rfl
  have g2 := Ch.push h1 (.cells #[.int .i64 0, .int .i64 0] I.t_api_Answer)
  refine eb rfl ?_
  have hsz2 : (h1.push (.cells #[.int .i64 0, .int .i64 0] I.t_api_Answer)).size = h1.size + 1 := by simp
  generalize (h1.push (.cells #[.int .i64 0, .int .i64 0] I.t_api_Answer)) = h2 at *
  have hv1 := hv1.gr g2
  have hs2 := (hs.gr g1).gr g2
  have g := g1.trans g2
  refine vb hs.sl.ln ?_
  refine hv1.fld (j := 1) rfl ?_
  refine br (fun hp => ?_) fun hp => ?_
  · refine hv1.fld (j := 2) rfl ?_
    refine vb (fa_add _ _ _) ?_
    refine vb (hv1.row.ldc (j := 2) rfl) ?_
    refine vb (v := .agg ⟨EA.c (0, o.v)⟩) rfl ?_
    refine eb (bsl_ok (us := [.int .i64 o.v]) rfl rfl (fun u hu => by simp only [List.mem_singleton] at hu; subst hu; rfl)) ?_
    have g3 := Ch.push h2 (.cells ⟨[Value.int .i64 o.v].flatMap fun u => u.cells.toList⟩ I.t_int64)
    have hx : Sl EI (h2.push (.cells ⟨[Value.int .i64 o.v].flatMap fun u => u.cells.toList⟩ I.t_int64)) (.slice (some ⟨h2.size, 0, none⟩) 1 1) [o.v] := (Ow.lit (xs := [o.v]) rfl rfl).sl
    generalize (h2.push (.cells ⟨[Value.int .i64 o.v].flatMap fun u => u.cells.toList⟩ I.t_int64)) = h3 at *
    refine ⟨(hv1.gr g3).row.ldc (j := 2) rfl, ?_⟩
    refine apw (hs2.gr g3) hx rfl rfl (by simp; omega) (by simp; omega) fun v h4 a b c => ?_
    have hnb : ¬ blk s = some h.size := fun e => by have := hs.lt e; omega
    have hnb2 : ¬ blk s = some h1.size := fun e => by have := hs.lt e; omega
    refine ⟨((hv1.gr g3).ch b hnb).row.ldc (j := 2) rfl, ?_⟩
    refine ((hv2.gr g3).ch b hnb2).sto (0, o.v) rfl rfl fun h5 q1 q2 => ?_
    refine vb (q1.whole rfl) ?_
    have ea : appl xs o = (xs ++ [o.v], (0, o.v)) := by simp [appl, hp]
    rw [ea] at hR
    have hsz3 := g3.size
    refine hR v h5 (a.ch q2 fun r e e2 => ?_) ?_ fun r e => (c r e).imp id fun l => by omega
    · subst e2
      exact (c _ e).elim hnb2 fun l => by omega
    · exact Ch.trans (Ch.trans (g.trans g3) b (fun _ _ e => e.elim) fun _ _ e => e) q2 (fun _ _ e => e) fun r hr e => by omega
  · rw [bin_eql, vb_some]
    have ch5 : ∀ {h5 : Hp}, Ch (fun q => q = h1.size) h2 h5 → Gr h h5 := fun q => g.young q fun r e => by omega
    refine brd (fun h0 => ?_) fun h0 => ?_
    · have : xs = [] := List.length_eq_zero_iff.mp (by omega)
      subst this
      refine vb (v := .agg ⟨EA.c (8, 0)⟩) rfl ?_
      refine hv2.sto (8, 0) rfl rfl fun h5 q1 q2 => ?_
      refine vb (q1.whole rfl) ?_
      have ea : appl [] o = ([], (8, 0)) := by simp [appl, hp]
      rw [ea] at hR
      exact hR _ h5 (hs.gr (ch5 q2)) ((ch5 q2).mono fun _ _ e => e.elim) fun r e => .inl e
    · have hpos : 0 < xs.length := by omega
      have e1 : bin .sub (.int .i64 xs.length) (.int .i64 1) = some (.int .i64 (xs.length - 1 : Nat)) := by
        rw [bin_sub, wr64 (by omega)]; congr 2; omega
      obtain ⟨w, ew, ow, bw⟩ := hs2.sub (n := 1) rfl (hi := some (.int .i64 (xs.length - 1 : Nat))) (u := xs.length - 1) (.inr ⟨_, _, rfl, rfl⟩) (by omega)
      refine vb e1 (vb ew (vb e1 ?_))
      have hlast : xs[xs.length - 1]? = some xs[xs.length - 1] := idx_get (by omega)
      refine hs2.sl.one rfl hlast rfl rfl ?_
      refine vb (v := .agg ⟨EA.c (0, xs[xs.length - 1])⟩) rfl ?_
      refine hv2.sto (0, xs[xs.length - 1]) rfl rfl fun h5 q1 q2 => ?_
      refine vb (q1.whole rfl) ?_
      have ea : appl xs o = (xs.take (xs.length - 1), (0, xs[xs.length - 1])) := by
        unfold appl
        rw [if_neg (by simp [hp]), List.getLast?_eq_getElem?, hlast]
      rw [ea] at hR
      refine hR w h5 (ow.ch q2 fun r e e2 => ?_) ((ch5 q2).mono fun _ _ e => e.elim) fun r e => .inl (bw ▸ e)
      rw [bw] at e
      have := hs.lt e
      omega
end Go.En
