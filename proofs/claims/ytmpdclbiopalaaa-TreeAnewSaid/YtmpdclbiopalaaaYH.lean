/-
  Layer 37: Put and Drop, whole.
  Layer 37: what is read of a tree.
  Layer 37: the walk; a tree's answers.
  Layer 37: the small functions, over a context with the space and the operation's state ahead.
-/
import Derived.Test.YtmpdclbiopalaaaYG
import Derived.Test.YtmpdclbiopalaaaXE
import Derived.Test.YtmpdclbiopalaaaXD
namespace Go.En
open Prog Spc

section
variable {D : Int → Prop} {σ0 σ σ' : Spc} {m m' : Int → Int} {c c' : Nat} {α β : Type} {Q : α → Spc → Prop} {p : Pl} {root k v a : Int} {fs gs : List Fr} {t s s' : Tr} {fr : List Int} {out : Int}
/-- what the reference finds -/
theorem key_in (hf : frs k t = (fs, .nil)) (hs : Srt t.ks) : k ∉ kI t.ks := by
  have ht0 : plug fs .nil = t := by have := frs_plug (k := k) (t := t); rw [hf] at this; exact this
  have hlr := frs_lr (k := k) hs
  rw [hf] at hlr
  intro h
  obtain ⟨y, hy, e⟩ := List.mem_map.1 h
  rw [← ht0, plug_ks] at hy
  rcases List.mem_append.1 hy with h | h
  · rcases List.mem_append.1 h with h | h
    · have := hlr.1 y h; omega
    · cases h
  · have := hlr.2 y h; omega
theorem wp_tPut (G : TG D p root) (S : Sm D σ σ m 0) (X : TS p root m t fr out) (hk : R64 k) (hv : R64 v) (hl : σ.pu.length + 4000 ≤ big) :
    wp (tPut p root k v) σ fun e σ' => (∃ old t' m', (k, old) ∈ t.ks ∧ e = (old, true, 0) ∧ Sm D σ σ' m' 3000 ∧ TS p root m' t' fr out ∧ t'.ks = rPut t.ks k v) ∨
      (k ∉ kI t.ks ∧ (p.nodes ≤ t.sz ∧ e = (0, false, 9) ∧ Sm D σ σ' m 3000 ∨ (t.sz : Int) < p.nodes ∧ e = (0, false, 0) ∧ ∃ t' m' fr' out', Sm D σ σ' m' 3000 ∧ TS p root m' t' fr' out' ∧ t'.ks = rPut t.ks k v)) := by
  have g := X.P.good
  unfold tPut
  refine wp_mark ?_
  refine wp_tPath G S X fun n1 σ1 hn1 S1 => ?_
  show wp (if (Wk.ok n1).lost = true then _ else _) σ1 _
  rw [if_neg (by simp [Wk.lost])]
  obtain ⟨fs, sub, hf⟩ : ∃ fs sub, frs k t = (fs, sub) := ⟨_, _, rfl⟩
  have hend := frs_end (k := k) (t := t)
  rw [hf] at hend
  have hst := stp_frs (k := k) (t := t)
  rw [hf] at hst
  rcases hend with e | ⟨a, l, old, r, e⟩
  · have e : sub = .nil := e
    subst e
    have hp : stp k t = pt2 fs := by rw [hst]; simp
    have hdir := frs_dir (k := k) (t := t)
    rw [hf] at hdir
    have hnf : tFnd k (stp k t) = false := by rw [hp]; exact fnd_nil fun f hf => (hdir f hf).2
    have hno := key_in hf X.srt
    show wp (if tFnd k (stp k t) = true then _ else _) σ1 _
    rw [hnf, if_neg (by simp)]
    have hcnt := X.cnt
    have hP1 := X.P.out1
    refine wp_took S1 X.P G.dp (by omega) (fun n fr' out' σ2 m1 T hn hnfr S2 P1 hm1 => ?_) fun σ2 e ho S2 => ?_
    · rw [if_neg (by simp)]
      have hlt : (t.sz : Int) < p.nodes := by
        have h1 := P1.out1
        have h2 := P1.len
        obtain ⟨_, _, h3, h4⟩ := T.held X.P X.hl
        omega
      refine Prog.wp_mono (wp_putN G S hn1 hf X hk hv hl S2 T hn hnfr P1 hm1) fun e σ' ⟨h1, h2⟩ => .inr ⟨hno, .inr ⟨hlt, h1, ?_⟩⟩
      obtain ⟨t', m', h3, h4, h5⟩ := h2
      exact ⟨t', m', fr', out', h3, h4, h5⟩
    · rw [if_pos (by decide)]
      refine wp_undo S S2 (by decide) fun σ3 S3 => ?_
      refine .inr ⟨hno, .inl ⟨?_, rfl, S3.mono (by omega)⟩⟩
      rw [e] at hcnt
      simp only [List.length_nil] at hcnt
      omega
  · have e : sub = .nd a l k old r := e
    subst e
    have hp : stp k t = pt2 fs ++ [(a, k)] := by rw [hst]
    have hfd : tFnd k (stp k t) = true := by rw [hp]; exact fnd_some
    show wp (if tFnd k (stp k t) = true then _ else _) σ1 _
    rw [if_pos hfd]
    exact Prog.wp_mono (wp_putF G S S1 (n' := .ok n1) hf X hk hv hl) fun e σ' ⟨t', m', h1, h2, h3, h4, h5⟩ => .inl ⟨old, t', m', h1, h2, h3, h4, h5⟩
set_option maxHeartbeats 400000 in
theorem wp_tDrop (G : TG D p root) (S : Sm D σ σ m 0) (X : TS p root m t fr out) (hl : σ.pu.length + 4000 ≤ big) :
    wp (tDrop p root k) σ fun e σ' => (k ∉ kI t.ks ∧ e = (0, false, 0) ∧ Sm D σ σ' m 3000) ∨
      (∃ old t' m' fr', (k, old) ∈ t.ks ∧ e = (old, true, 0) ∧ Sm D σ σ' m' 3000 ∧ TS p root m' t' fr' out ∧ t'.ks = rDrp t.ks k) := by
  have g := X.P.good
  have g3 := g.n1; have g4 := g.n0; have g5 := g.r0
  have hlen := X.len
  unfold tDrop
  refine wp_mark ?_
  refine wp_tPath G S X fun n1 σ1 hn1 S1 => ?_
  show wp (if (Wk.ok n1).lost = true then _ else _) σ1 _
  rw [if_neg (by simp [Wk.lost])]
  obtain ⟨fs, sub, hf⟩ : ∃ fs sub, frs k t = (fs, sub) := ⟨_, _, rfl⟩
  have hend := frs_end (k := k) (t := t)
  rw [hf] at hend
  have hst := stp_frs (k := k) (t := t)
  rw [hf] at hst
  have hdir := frs_dir (k := k) (t := t)
  rw [hf] at hdir
  rcases hend with e | ⟨a, l, old, r, e⟩
  · have e : sub = .nil := e
    subst e
    have hp : stp k t = pt2 fs := by rw [hst]; simp
    have hnf : tFnd k (stp k t) = false := by rw [hp]; exact fnd_nil fun f hf => (hdir f hf).2
    have hno := key_in hf X.srt
    show wp (if tFnd k (stp k t) = true then _ else _) σ1 _
    rw [hnf, if_neg (by simp)]
    refine wp_un0 ?_
    exact .inl ⟨hno, rfl, S1.mono (by omega)⟩
  · have e : sub = .nd a l k old r := e
    subst e
    have hp : stp k t = pt2 fs ++ [(a, k)] := by rw [hst]
    have hfd : tFnd k (stp k t) = true := by rw [hp]; exact fnd_some
    show wp (if tFnd k (stp k t) = true then _ else _) σ1 _
    rw [if_pos hfd]
    dsimp only
    rw [hp, List.getLast?_concat, List.dropLast_concat]
    dsimp only [Option.map_some, Option.getD_some]
    have ht : plug fs (.nd a l k old r) = t := by have := frs_plug (k := k) (t := t); rw [hf] at this; exact this
    have hlr := frs_lr (k := k) X.srt
    rw [hf] at hlr
    have hks : t.ks = lks fs ++ (l.ks ++ (k, old) :: r.ks) ++ rks fs := by rw [← ht, plug_ks]; rfl
    have hTR := X.tr
    rw [← ht, plug_TR] at hTR
    obtain ⟨HF, Ha, Hl, Hr⟩ := hTR
    obtain ⟨ndF, ndS, ndX⟩ := plug_nd (fs := fs) (s := .nd a l k old r) (by rw [ht]; exact X.nd)
    obtain ⟨hdl, hdr, hal, har, hlr'⟩ := nd_parts ndS
    have hNF : ∀ x ∈ FN fs, isN p x := fun x hx => X.isN (by rw [← ht]; exact FN_ns hx)
    have hNS : ∀ x ∈ (Tr.nd a l k old r).ns, isN p x := fun x hx => X.isN (by rw [← ht]; exact sub_ns hx)
    have haN := hNS a in_a
    have haF : a ∉ FN fs := fun hx => ndX a hx in_a
    have hDa := fun i (hi : 0 ≤ i ∧ i ≤ 7) => G.dp.n a haN i hi.1 hi.2
    obtain ⟨ra, rb⟩ := G.A
    have hszS : (Tr.nd a l k old r).sz = l.sz + r.sz + 1 := rfl
    have hsz : szF (l.sz + r.sz + 1) fs = t.sz := by rw [← hszS, ← plug_sz, ht]
    have hge := szF_ge (hs := l.sz + r.sz + 1) (fs := fs)
    unfold tDropT
    refine wp_get S1 (hDa 1 (by omega)) fun σ2 S2 => ?_
    rw [Ha.v]
    refine wp_get S2 (hDa 2 (by omega)) fun σ2 S2 => ?_
    refine wp_get S2 (hDa 3 (by omega)) fun σ2 S2 => ?_
    rw [Ha.l, Ha.r]
    have hNlr : ∀ x ∈ l.ns ++ r.ns, isN p x := fun x hx => by
      rcases List.mem_append.1 hx with h | h
      · exact hNS x (in_l h)
      · exact hNS x (in_r h)
    have hSlr : ∀ x ∈ l.ns ++ r.ns, x ∈ (Tr.nd a l k old r).ns := fun x hx => by
      rcases List.mem_append.1 hx with h | h
      · exact in_l h
      · exact in_r h
    have halr : a ∉ l.ns ++ r.ns := fun hx => by
      rcases List.mem_append.1 hx with h | h
      · exact hal h
      · exact har h
    refine wp_mrg g G.dp (fu p) l r S2 Hl Hr hNlr (List.nodup_append.2 ⟨hdl, hdr, fun x hx y hy e => hlr' x hx (e ▸ hy)⟩) (by omega) (by unfold fu; omega) (by omega) fun n3 σ3 m3 hn3 S3 T3 hfr3 => ?_
    have ens := mrg_ns rk l r
    have esz := mrg_sz (f := rk) (a := l) (b := r)
    have esm := mrg_sm rk l r
    have eks := mrg_ks rk l r
    have HF3 : FR m3 a (l.sz + r.sz + 1) (l.sm + old + r.sm) fs := HF.ext fun x hx i h0 h5 => hfr3 _ fun y hy j j2 j5 => isN_ne (hNF x hx) (hNlr y hy) (fun e => ndX x hx (e ▸ hSlr y hy)) ⟨h0, by omega⟩ ⟨by omega, by omega⟩
    have hrt3 : ∀ i, 0 ≤ i → i ≤ 7 → m3 (root + i) = m (root + i) := fun i h0 h7 => hfr3 _ fun y hy j j2 j5 => rt_ne G g (hNlr y hy) ⟨h0, h7⟩ ⟨by omega, by omega⟩
    have hr30 := hrt3 0 (by decide) (by decide)
    rw [Int.add_zero] at hr30
    have hNM : ∀ x ∈ (mrg l r).ns, isN p x := by rw [ens]; exact hNlr
    refine wp_tHang (k := k) (hole := a) G g S3 (fun f hf => (hdir f hf).1) HF3 (by rw [hr30, X.rt, ← ht, plug_at]; rfl) hNF ndF (at_R g hNM) (by omega) fun σ4 m4 S4 HF4 hr4 hfr4 => ?_
    refine wp_tAdd (d := -old) (hs := l.sz + r.sz + 1) (hs' := l.sz + r.sz) (hole := (mrg l r).at') g G.dp rfl ⟨by decide, by decide⟩ (by omega) fs S4 HF4 hNF ndF (by omega) (by omega) fun σ5 m5 S5 HF5 hfr5 => ?_
    rw [show l.sm + old + r.sm + -old = l.sm + r.sm by omega, ← esm, ← esz] at HF5
    have hoff5 : ∀ x i, isN p x → x ∉ FN fs → 0 ≤ i → i ≤ 7 → m5 (x + i) = m3 (x + i) := fun x i hx hno h0 h7 => by
      have hr0 := rt_ne G g hx (i := 0) (j := i) ⟨by decide, by decide⟩ ⟨h0, h7⟩
      rw [hfr5 _ fun y hy => ?_, hfr4 _ (by omega) fun y hy j j2 j3 => isN_ne hx (hNF y hy) (fun e => hno (e ▸ hy)) ⟨h0, h7⟩ ⟨by omega, by omega⟩]
      have hyF := pt2_FN hy
      have hne : x ≠ y.1 := fun e => hno (e ▸ hyF)
      exact ⟨isN_ne hx (hNF _ hyF) hne ⟨h0, h7⟩ ⟨by decide, by decide⟩, isN_ne hx (hNF _ hyF) hne ⟨h0, h7⟩ ⟨by decide, by decide⟩⟩
    have hMF : ∀ x ∈ (mrg l r).ns, x ∉ FN fs := fun x hx h2 => by rw [ens] at hx; exact ndX x h2 (hSlr x hx)
    have T5 : TR m5 (mrg l r) := T3.ext fun x hx i h0 h5 => hoff5 x i (hNM x hx) (hMF x hx) h0 (by omega)
    have hroff : ∀ i, 0 ≤ i → i ≤ 7 → ∀ x ∈ t.ns, ∀ j, 0 ≤ j → j ≤ 7 → root + i ≠ x + j := fun i h0 h7 x hx j j0 j7 => rt_ne G g (X.isN hx) ⟨h0, h7⟩ ⟨j0, j7⟩
    have hOff5 : ∀ b, b ≠ root → (∀ x ∈ t.ns, ∀ i, 0 ≤ i → i ≤ 7 → b ≠ x + i) → m5 b = m b := fun b hbr hb => by
      rw [hfr5 b fun y hy => ?_, hfr4 b hbr fun x hx i h2 h3 => hb x (by rw [← ht]; exact FN_ns hx) i (by omega) (by omega), hfr3 b fun x hx i h2 h5 => hb x (by rw [← ht]; exact sub_ns (hSlr x hx)) i (by omega) (by omega)]
      have hyt : y.1 ∈ t.ns := by rw [← ht]; exact FN_ns (pt2_FN hy)
      exact ⟨hb _ hyt 4 (by decide) (by decide), hb _ hyt 5 (by decide) (by decide)⟩
    have hr5 : m5 root = adF (mrg l r).at' fs := by
      rw [← hr4]
      refine hfr5 _ fun y hy => ?_
      have hyN := hNF _ (pt2_FN hy)
      have h4 := rt_ne G g hyN (i := 0) (j := 4) ⟨by decide, by decide⟩ ⟨by decide, by decide⟩
      have h5 := rt_ne G g hyN (i := 0) (j := 5) ⟨by decide, by decide⟩ ⟨by decide, by decide⟩
      exact ⟨by omega, by omega⟩
    have hr57 : m5 (root + 7) = t.sz := by
      rw [hOff5 _ (by omega) fun x hx i h0 h7 => hroff 7 (by decide) (by decide) x hx i h0 h7]
      exact X.n7
    have hr7 := G.R 7 (by decide) (by decide)
    unfold tDropU
    refine wp_get S5 hr7 fun σ6 S6 => ?_
    rw [hr57, w64_R (z := (t.sz : Int) - 1) ⟨by omega, by omega⟩]
    refine wp_put S6 hr7 ⟨by omega, by omega⟩ (by omega) fun σ7 S7 => ?_
    show wp (if (Wk.ok n3).lost = true then _ else _) σ7 _
    rw [if_neg (by simp [Wk.lost])]
    have hat : a ∈ t.ns := by rw [← ht]; exact sub_ns in_a
    have hPool : PoolR (upd m5 (root + 7) ((t.sz : Int) - 1)) p fr out := by
      refine X.P.ext fun b hb => ?_
      have hbb : (∀ x ∈ t.ns, ∀ i, 0 ≤ i → i ≤ 7 → b ≠ x + i) ∧ b ≠ root ∧ b ≠ root + 7 := by
        refine ⟨fun x hx i h0 h7 => ?_, ?_, ?_⟩
        · have hxN := X.isN hx
          have r0 := root_ne g hxN (i := 0) (j := i) (by omega) ⟨h0, h7⟩
          have r1 := root_ne g hxN (i := 1) (j := i) (by omega) ⟨h0, h7⟩
          have r2 := root_ne g hxN (i := 2) (j := i) (by omega) ⟨h0, h7⟩
          rcases hb with rfl | rfl | rfl | hb
          · omega
          · exact r1
          · exact r2
          · have hne : b ≠ x := fun e => (X.hl x hx).2 (e ▸ hb)
            have := isN_ne (X.P.isN hb) hxN hne (o := 0) (o' := i) ⟨by omega, by omega⟩ ⟨h0, h7⟩
            rwa [Int.add_zero] at this
        · rcases hb with rfl | rfl | rfl | hb
          · omega
          · omega
          · omega
          · have := isN_pos g (X.P.isN hb); omega
        · rcases hb with rfl | rfl | rfl | hb
          · omega
          · omega
          · omega
          · have := isN_pos g (X.P.isN hb); omega
      rw [upd_ne _ _ hbb.2.2, hOff5 b hbb.2.1 hbb.1]
    obtain ⟨⟨ai, ai0, ai1, ae⟩, hafr⟩ := X.hl a hat
    refine wp_give S7 hPool G.dp (by omega) ae ⟨ai0, ai1⟩ hafr fun σ8 m8 S8 P8 hm8 => ?_
    rw [if_neg (by simp)]
    refine wp_un0 ?_
    -- the new tree
    have hperm : (plug fs (mrg l r)).ns.Perm (FN fs ++ (l.ns ++ r.ns)) := by rw [← ens]; exact plug_ns
    have hperm2 : t.ns.Perm (a :: (FN fs ++ (l.ns ++ r.ns))) := by
      rw [← ht]
      refine plug_ns.trans ?_
      have h1 : (Tr.nd a l k old r).ns.Perm (a :: (l.ns ++ r.ns)) := List.perm_middle
      exact (List.Perm.append_left _ h1).trans List.perm_middle
    have hnd2 := hperm2.nodup_iff.1 X.nd
    rw [List.nodup_cons] at hnd2
    have hsub : ∀ x ∈ (plug fs (mrg l r)).ns, x ∈ t.ns ∧ x ≠ a := fun x hx => by
      have h1 := hperm.mem_iff.1 hx
      exact ⟨hperm2.mem_iff.2 (List.mem_cons_of_mem _ h1), fun e => hnd2.1 (e ▸ h1)⟩
    have esz2 : (plug fs (mrg l r)).sz + 1 = t.sz := by
      rw [← Tr.sz_ns, ← Tr.sz_ns (t := t), hperm.length_eq, hperm2.length_eq, List.length_cons]
    have hm87 : ∀ b, b ≠ p.root → b ≠ p.root + 2 → b ≠ a → b ≠ root + 7 → m8 b = m5 b := fun b b1 b2 b3 b4 => by rw [hm8 b b1 b2 b3, upd_ne _ _ b4]
    have hcell : ∀ x ∈ (plug fs (mrg l r)).ns, ∀ i, 0 ≤ i → i ≤ 5 → m8 (x + i) = m5 (x + i) := fun x hx i h0 h5 => by
      have h1 := hsub x hx
      have hxN := X.isN h1.1
      have r0 := root_ne g hxN (i := 0) (j := i) (by omega) ⟨h0, by omega⟩
      have r2 := root_ne g hxN (i := 2) (j := i) (by omega) ⟨h0, by omega⟩
      have ha0 := isN_ne hxN haN h1.2 (o := i) (o' := 0) ⟨h0, by omega⟩ ⟨by decide, by decide⟩
      have h7 := rt_ne G g hxN (i := 7) (j := i) ⟨by decide, by decide⟩ ⟨h0, by omega⟩
      exact hm87 _ (by omega) (by omega) (by omega) (by omega)
    have hks' : (plug fs (mrg l r)).ks = lks fs ++ (l.ks ++ r.ks) ++ rks fs := by rw [plug_ks, eks]
    have hsrt := X.srt
    rw [hks, show lks fs ++ (l.ks ++ (k, old) :: r.ks) ++ rks fs = (lks fs ++ l.ks) ++ (k, old) :: (r.ks ++ rks fs) by simp] at hsrt
    obtain ⟨q1, q2, q3, q4⟩ := srt_nd hsrt
    have hkin : ∀ y ∈ (plug fs (mrg l r)).ks, y ∈ t.ks := fun y hy => by
      rw [hks'] at hy
      rw [hks]
      simp only [List.mem_append, List.mem_cons] at hy ⊢
      rcases hy with (h | h | h) | h
      · exact .inl (.inl h)
      · exact .inl (.inr (.inl h))
      · exact .inl (.inr (.inr (.inr h)))
      · exact .inr h
    refine .inr ⟨old, plug fs (mrg l r), m8, a :: fr, by rw [hks]; simp, rfl, S8.mono (by omega), ⟨P8, ?_, (plug_TR.2 ⟨HF5, T5⟩).ext hcell, hperm.nodup_iff.2 hnd2.2, ?_, ?_, ?_, ?_, fun y hy => X.kr y (hkin y hy), ?_⟩, ?_⟩
    · have := isN_pos g haN
      rw [hm87 root (by omega) (by omega) (by omega) (by omega), hr5, plug_at]
    · intro x hx
      have h1 := hsub x hx
      obtain ⟨h2, h3⟩ := X.hl x h1.1
      refine ⟨h2, fun h => ?_⟩
      rcases List.mem_cons.1 h with e | h
      · exact h1.2 e
      · exact h3 h
    · have := X.cnt
      simp only [List.length_cons]
      omega
    · have := isN_pos g haN
      rw [hm8 _ (by omega) (by omega) (by omega), upd_eq]; omega
    · rw [hks', show lks fs ++ (l.ks ++ r.ks) ++ rks fs = (lks fs ++ l.ks) ++ (r.ks ++ rks fs) by simp]
      exact hsrt.sublist ((List.Sublist.refl _).append (List.sublist_cons_self _ _))
    · have h0 := X.ho
      rw [← ht] at h0
      have hp := HO.plug (s' := mrg l r) h0
      have hS := hp.1
      refine hp.2.2 (fun y hy f hf => ?_) (HO.mrgF l r hS.2.1 hS.2.2 fun x hx y hy e => ?_)
      · have hy : y ∈ l.ks ++ r.ks := by rw [← eks]; exact hy
        refine hp.2.1 y ?_ f hf
        show y ∈ l.ks ++ (k, old) :: r.ks
        rcases List.mem_append.1 hy with h | h
        · exact List.mem_append_left _ h
        · exact List.mem_append_right _ (List.mem_cons_of_mem _ h)
      · have hx1 := q3 x (List.mem_append_right _ hx)
        have hy1 := q4 y (List.mem_append_left _ hy)
        have := rk_inj (X.kr x (by rw [hks]; simp [hx])) (X.kr y (by rw [hks]; simp [hy])) e
        omega
    · have := flt_lr (l1 := lks fs ++ l.ks) (l2 := [(k, old)]) (l3 := r.ks ++ rks fs) q3 (fun y hy => by rw [List.mem_singleton] at hy; rw [hy]) q4
      unfold rDrp
      rw [hks', hks, show lks fs ++ (l.ks ++ (k, old) :: r.ks) ++ rks fs = (lks fs ++ l.ks) ++ [(k, old)] ++ (r.ks ++ rks fs) by simp, this.2.2]
      simp
end
end Go.En
namespace Go.En
open Prog Spc

/-! ### Programs -/
section
variable (p : Pl)
def tGetL (k : Int) : Nat → Wk → Int → Prog (Int × Bool)
  | 0, _, _ => pure (0, false)
  | f + 1, w, a => if (tIs p w a).1 = true then gt a >>= fun x => if x = k then gt (a + 1) >>= fun v => pure (v, true) else gt (a + kidc k x) >>= fun b => tGetL k f (tIs p w a).2 b else pure (0, false)
def tGet (root k : Int) : Prog (Int × Bool) := gt root >>= fun a => tGetL p k p.nodes.toNat (wk0 p) a
def bst (k x : Int) (b : Int × Bool) : Int × Bool := if k ≤ x then (x, true) else b
def tNextL (k : Int) : Nat → Wk → Int → Int × Bool → Prog (Int × Bool)
  | 0, _, _, b => pure b
  | f + 1, w, a, b => if (tIs p w a).1 = true then gt a >>= fun x => if x = k then pure (bst k x b) else gt (a + kidc k x) >>= fun a' => tNextL k f (tIs p w a).2 a' (bst k x b) else pure b
def tNext (root k : Int) : Prog (Int × Bool) := gt root >>= fun a => tNextL p k p.nodes.toNat (wk0 p) a (0, false)
def tOwn (sq : Bool) (a : Int) : Prog Int := if sq = true then gt (a + 1) else pure 1
def cel (sq : Bool) : Int := if sq = true then 5 else 4
def tUntL (k : Int) (wi sq : Bool) : Nat → Wk → Int → Int → Prog Int
  | 0, _, _, tot => pure tot
  | f + 1, w, a, tot => if (tIs p w a).1 = true then gt a >>= fun x =>
      if k < x ∨ x = k ∧ wi = false then gt (a + 2) >>= fun b => tUntL k wi sq f (tIs p w a).2 b tot
      else tOwn sq a >>= fun o => gt (a + 2) >>= fun l => tOf p (wk0 p) l (cel sq) >>= fun s => gt (a + 3) >>= fun r => tUntL k wi sq f (tIs p w a).2 r (w64 (tot + w64 (o + s.1)))
    else pure tot
def tUnt (root k : Int) (wi sq : Bool) : Prog Int := gt root >>= fun a => tUntL p k wi sq p.nodes.toNat (wk0 p) a 0
def tBtw (root fr to : Int) (sq : Bool) : Prog Int := if to < fr then pure 0 else tUnt p root to true sq >>= fun x => tUnt p root fr false sq >>= fun y => pure (w64 (x - y))
def tNthL : Nat → Wk → Int → Int → Prog (Int × Bool)
  | 0, _, _, _ => pure (0, false)
  | f + 1, w, a, n => if (tIs p w a).1 = true then gt (a + 2) >>= fun l => tOf p (wk0 p) l 4 >>= fun s =>
      if n = s.1 then gt a >>= fun x => pure (x, true)
      else if n < s.1 then tNthL f (tIs p w a).2 l n
      else gt (a + 3) >>= fun r => tNthL f (tIs p w a).2 r (w64 (n - w64 (s.1 + 1)))
    else pure (0, false)
def tNth (root n : Int) : Prog (Int × Bool) := if n < 0 then pure (0, false) else gt root >>= fun a => tNthL p p.nodes.toNat (wk0 p) a n
structure Wlk where
  w : Wk
  ks : List Int
  vs : List Int
  bad : Bool
def tBelE (a : Int) (nv : Int × Int) (x : Wlk) : Prog ((Int × Int) × Wlk) :=
  if x.bad = true then pure (nv, { x with bad := true }) else gt (a + 4) >>= fun c => if c ≠ nv.1 then pure (nv, { x with bad := true }) else gt (a + 5) >>= fun s => pure (nv, { x with bad := decide (s ≠ nv.2) })
def tBel : Nat → Wlk → Int → Prog ((Int × Int) × Wlk)
  | 0, x, _ => pure ((0, 0), x)
  | f + 1, x, a =>
    if a = 0 ∨ x.bad = true then pure ((0, 0), x) else
    if (tIs p x.w a).1 = true then gt (a + 2) >>= fun l => tBel f { x with w := (tIs p x.w a).2 } l >>= fun s => gt a >>= fun k =>
      if s.2.bad = true ∨ p.nodes ≤ s.2.ks.length ∨ (0 < s.2.ks.length ∧ k ≤ (s.2.ks.getLast?).getD 0) then pure ((0, 0), { s.2 with bad := true }) else
      gt (a + 1) >>= fun v => gt (a + 3) >>= fun r => tBel f { s.2 with ks := s.2.ks ++ [k], vs := s.2.vs ++ [v] } r >>= fun u => gt (a + 1) >>= fun v2 =>
        tBelE a (w64 (w64 (s.1.1 + u.1.1) + 1), w64 (w64 (s.1.2 + u.1.2) + v2)) u.2
    else pure ((0, 0), { x with w := (tIs p x.w a).2, bad := true })
def tWlk (root : Int) : Prog (Option (List Int × List Int)) :=
  gt root >>= fun a => tBel p (fu p) ⟨wk0 p, [], [], false⟩ a >>= fun s => if s.2.bad = true then pure none else gt (root + 7) >>= fun c => if s.1.1 ≠ c then pure none else pure (some (s.2.ks, s.2.vs))
end

/-! ### Answers -/
def rGet (l : List (Int × Int)) (k : Int) : Int × Bool := (((l.find? fun y => decide (y.1 = k)).map (·.2)).getD 0, (l.find? fun y => decide (y.1 = k)).isSome)
def rNxt (l : List (Int × Int)) (k : Int) : Int × Bool := (((l.find? fun y => decide (k ≤ y.1)).map (·.1)).getD 0, (l.find? fun y => decide (k ≤ y.1)).isSome)
def ownS (sq : Bool) (y : Int × Int) : Int := if sq = true then y.2 else 1
def sumO (sq : Bool) (q : Int → Bool) : List (Int × Int) → Int
  | [] => 0
  | y :: l => (if q y.1 then ownS sq y else 0) + sumO sq q l
def unt (k : Int) (wi : Bool) (x : Int) : Bool := decide (x < k) || (decide (x = k) && wi)
section
variable {D : Int → Prop} {σ0 σ σ' : Spc} {m m' : Int → Int} {c c' : Nat} {p : Pl} {root k : Int} {t : Tr} {fr : List Int} {out : Int} {sq wi : Bool} {q : Int → Bool}
theorem sumO_app : ∀ {l1 l2 : List (Int × Int)}, sumO sq q (l1 ++ l2) = sumO sq q l1 + sumO sq q l2
  | [], l2 => by simp [sumO]
  | y :: l1, l2 => by
    have ih := sumO_app (l1 := l1) (l2 := l2)
    show (if q y.1 then ownS sq y else 0) + sumO sq q (l1 ++ l2) = (if q y.1 then ownS sq y else 0) + sumO sq q l1 + sumO sq q l2
    omega
theorem sumO_none : ∀ {l : List (Int × Int)}, (∀ y ∈ l, q y.1 = false) → sumO sq q l = 0
  | [], _ => rfl
  | y :: l, h => by
    have ih := sumO_none (l := l) fun z hz => h z (List.mem_cons_of_mem _ hz)
    show (if q y.1 then ownS sq y else 0) + sumO sq q l = 0
    rw [h y (List.mem_cons_self ..), if_neg (by simp), ih]; rfl
theorem sumO_all : ∀ {t : Tr}, (∀ y ∈ t.ks, q y.1 = true) → sumO sq q t.ks = if sq = true then t.sm else t.sz
  | .nil, _ => by cases sq <;> rfl
  | .nd a l x v r, h => by
    have h1 := sumO_all (t := l) fun y hy => h y (by simp [Tr.ks, hy])
    have h2 := sumO_all (t := r) fun y hy => h y (by simp [Tr.ks, hy])
    have hx := h (x, v) (by simp [Tr.ks])
    show sumO sq q (l.ks ++ ([(x, v)] ++ r.ks)) = _
    rw [sumO_app, sumO_app, h1, h2]
    show _ + ((if q x then ownS sq (x, v) else 0) + 0 + _) = _
    rw [show q x = true from hx, if_pos rfl]
    cases sq with
    | true => simp only [if_true, ownS, Tr.sm]; omega
    | false => simp only [ownS, Tr.sz, Bool.false_eq_true, if_false]; omega
theorem find_app {l1 l2 : List (Int × Int)} {f : Int × Int → Bool} (h : ∀ y ∈ l1, f y = false) : (l1 ++ l2).find? f = l2.find? f := by
  rw [List.find?_append, List.find?_eq_none.2 fun y hy => by rw [h y hy]; simp]; rfl
theorem find_hd {l1 l2 : List (Int × Int)} {f : Int × Int → Bool} (h : ∀ y ∈ l2, f y = false) : (l1 ++ l2).find? f = l1.find? f := by
  have e2 : l2.find? f = none := List.find?_eq_none.2 fun y hy => by rw [h y hy]; simp
  rw [List.find?_append, e2]
  cases l1.find? f <;> rfl
theorem wp_getL (g : p.good) (hD : PoolD D p) : ∀ (t : Tr) (f : Nat) {n : Fin 1000001} {σ : Spc}, Sm D σ0 σ m c → TR m t → (∀ x ∈ t.ns, isN p x) → Srt t.ks → t.sz ≤ n.val → t.sz ≤ f → wp (tGetL p k f (.ok n) t.at') σ fun r σ' => r = rGet t.ks k ∧ Sm D σ0 σ' m c
  | .nil, f, n, σ, S, H, hN, hs, hn, hf => by
    cases f with
    | zero => exact ⟨rfl, S⟩
    | succ f =>
      unfold tGetL
      rw [show Tr.nil.at' = 0 from rfl, tIs_0, if_neg (by simp)]
      exact ⟨rfl, S⟩
  | .nd a l x v r, 0, n, σ, S, H, hN, hs, hn, hf => by
    have : (Tr.nd a l x v r).sz = l.sz + r.sz + 1 := rfl
    omega
  | .nd a l x v r, f + 1, n, σ, S, ⟨Ha, Hl, Hr⟩, hN, hs, hn, hf => by
    have ha := hN a in_a
    have hsz : (Tr.nd a l x v r).sz = l.sz + r.sz + 1 := rfl
    obtain ⟨s1, s2, s3, s4⟩ := srt_nd hs
    have hDa := fun i (hi : 0 ≤ i ∧ i ≤ 7) => hD.n a ha i hi.1 hi.2
    have hDa0 := hDa 0 (by omega)
    rw [Int.add_zero] at hDa0
    rw [hsz] at hn hf
    unfold tGetL
    rw [show (Tr.nd a l x v r).at' = a from rfl, tIs_nd g ha (by omega), if_pos rfl]
    refine wp_get S hDa0 fun σ1 S => ?_
    rw [Ha.k]
    by_cases e : x = k
    · rw [if_pos e]
      refine wp_get S (hDa 1 (by omega)) fun σ1 S => ?_
      refine ⟨?_, S⟩
      rw [Ha.v]
      unfold rGet
      rw [show (Tr.nd a l x v r).ks = l.ks ++ (x, v) :: r.ks from rfl, find_app fun y hy => decide_eq_false (by have := s3 y hy; omega), List.find?_cons, decide_eq_true e]
      rfl
    · rw [if_neg e]
      by_cases e2 : k < x
      · rw [show kidc k x = 2 from if_pos e2]
        refine wp_get S (hDa 2 (by omega)) fun σ1 S => ?_
        rw [Ha.l]
        refine Prog.wp_mono (wp_getL g hD l f S Hl (fun y hy => hN y (in_l hy)) s1 (by rw [dn_val]; omega) (by omega)) fun r' σ' ⟨h1, h2⟩ => ⟨?_, h2⟩
        rw [h1]
        unfold rGet
        rw [show (Tr.nd a l x v r).ks = l.ks ++ (x, v) :: r.ks from rfl, find_hd fun y hy => decide_eq_false (by
          rcases List.mem_cons.1 hy with rfl | hy
          · exact e
          · have := s4 y hy; omega)]
      · rw [show kidc k x = 3 from if_neg e2]
        refine wp_get S (hDa 3 (by omega)) fun σ1 S => ?_
        rw [Ha.r]
        refine Prog.wp_mono (wp_getL g hD r f S Hr (fun y hy => hN y (in_r hy)) s2 (by rw [dn_val]; omega) (by omega)) fun r' σ' ⟨h1, h2⟩ => ⟨?_, h2⟩
        rw [h1]
        unfold rGet
        rw [show (Tr.nd a l x v r).ks = l.ks ++ ([(x, v)] ++ r.ks) from rfl, find_app fun y hy => decide_eq_false (by have := s3 y hy; omega), find_app fun y hy => by
          rw [List.mem_singleton] at hy; rw [hy]; exact decide_eq_false e]
theorem wp_nextL (g : p.good) (hD : PoolD D p) : ∀ (t : Tr) (f : Nat) {n : Fin 1000001} {σ : Spc} (b : Int × Bool), Sm D σ0 σ m c → TR m t → (∀ x ∈ t.ns, isN p x) → Srt t.ks → t.sz ≤ n.val → t.sz ≤ f →
    wp (tNextL p k f (.ok n) t.at' b) σ fun r σ' => r = (match t.ks.find? fun y => decide (k ≤ y.1) with | some y => (y.1, true) | none => b) ∧ Sm D σ0 σ' m c
  | .nil, f, n, σ, b, S, H, hN, hs, hn, hf => by
    cases f with
    | zero => exact ⟨rfl, S⟩
    | succ f =>
      unfold tNextL
      rw [show Tr.nil.at' = 0 from rfl, tIs_0, if_neg (by simp)]
      exact ⟨rfl, S⟩
  | .nd a l x v r, 0, n, σ, b, S, H, hN, hs, hn, hf => by
    have : (Tr.nd a l x v r).sz = l.sz + r.sz + 1 := rfl
    omega
  | .nd a l x v r, f + 1, n, σ, b, S, ⟨Ha, Hl, Hr⟩, hN, hs, hn, hf => by
    have ha := hN a in_a
    have hsz : (Tr.nd a l x v r).sz = l.sz + r.sz + 1 := rfl
    obtain ⟨s1, s2, s3, s4⟩ := srt_nd hs
    have hDa := fun i (hi : 0 ≤ i ∧ i ≤ 7) => hD.n a ha i hi.1 hi.2
    have hDa0 := hDa 0 (by omega)
    rw [Int.add_zero] at hDa0
    rw [hsz] at hn hf
    unfold tNextL
    rw [show (Tr.nd a l x v r).at' = a from rfl, tIs_nd g ha (by omega), if_pos rfl]
    refine wp_get S hDa0 fun σ1 S => ?_
    rw [Ha.k]
    have ek : (Tr.nd a l x v r).ks = l.ks ++ (x, v) :: r.ks := rfl
    by_cases e : x = k
    · rw [if_pos e]
      refine ⟨?_, S⟩
      rw [ek, find_app fun y hy => decide_eq_false (by have := s3 y hy; omega), List.find?_cons, decide_eq_true (by show k ≤ x; omega)]
      unfold bst
      rw [if_pos (by omega)]
    · rw [if_neg e]
      by_cases e2 : k < x
      · rw [show kidc k x = 2 from if_pos e2]
        refine wp_get S (hDa 2 (by omega)) fun σ1 S => ?_
        rw [Ha.l]
        refine Prog.wp_mono (wp_nextL g hD l f (bst k x b) S Hl (fun y hy => hN y (in_l hy)) s1 (by rw [dn_val]; omega) (by omega)) fun r' σ' ⟨h1, h2⟩ => ⟨?_, h2⟩
        rw [h1, ek, List.find?_append, List.find?_cons, decide_eq_true (by show k ≤ x; omega)]
        cases hl : l.ks.find? fun y => decide (k ≤ y.1) with
        | some y => rfl
        | none => show bst k x b = (x, true); unfold bst; rw [if_pos (by omega)]
      · rw [show kidc k x = 3 from if_neg e2]
        refine wp_get S (hDa 3 (by omega)) fun σ1 S => ?_
        rw [Ha.r]
        refine Prog.wp_mono (wp_nextL g hD r f (bst k x b) S Hr (fun y hy => hN y (in_r hy)) s2 (by rw [dn_val]; omega) (by omega)) fun r' σ' ⟨h1, h2⟩ => ⟨?_, h2⟩
        rw [h1, show (Tr.nd a l x v r).ks = l.ks ++ ([(x, v)] ++ r.ks) from rfl, find_app fun y hy => decide_eq_false (by have := s3 y hy; omega), find_app fun y hy => by
          rw [List.mem_singleton] at hy; rw [hy]; exact decide_eq_false (by show ¬ k ≤ x; omega)]
        unfold bst
        rw [if_neg (by omega)]
theorem w64_a3 (tot o s z : Int) : w64 (w64 (w64 tot + w64 (o + w64 s)) + z) = w64 (tot + o + s + z) := by
  unfold w64
  simp only [IntKind.wrap_i64]
  omega
theorem w64_a2 (tot o s : Int) : w64 (w64 tot + w64 (o + w64 s)) = w64 (tot + o + s) := by
  unfold w64
  simp only [IntKind.wrap_i64]
  omega
theorem wp_untL (g : p.good) (hD : PoolD D p) (hp0 : 0 ≤ p.nodes ∧ p.nodes ≤ 1000) : ∀ (t : Tr) (f : Nat) {n : Fin 1000001} {σ : Spc} (tot : Int), Sm D σ0 σ m c → TR m t → (∀ x ∈ t.ns, isN p x) → Srt t.ks → t.sz ≤ n.val → t.sz ≤ f → t.sz ≤ 1000000 →
    wp (tUntL p k wi sq f (.ok n) t.at' (w64 tot)) σ fun r σ' => r = w64 (tot + sumO sq (unt k wi) t.ks) ∧ Sm D σ0 σ' m c
  | .nil, f, n, σ, tot, S, H, hN, hs, hn, hf, hz => by
    have e : sumO sq (unt k wi) Tr.nil.ks = 0 := rfl
    rw [e, Int.add_zero]
    cases f with
    | zero => exact ⟨rfl, S⟩
    | succ f =>
      unfold tUntL
      rw [show Tr.nil.at' = 0 from rfl, tIs_0, if_neg (by simp)]
      exact ⟨rfl, S⟩
  | .nd a l x v r, 0, n, σ, tot, S, H, hN, hs, hn, hf, hz => by
    have : (Tr.nd a l x v r).sz = l.sz + r.sz + 1 := rfl
    omega
  | .nd a l x v r, f + 1, n, σ, tot, S, ⟨Ha, Hl, Hr⟩, hN, hs, hn, hf, hz => by
    have ha := hN a in_a
    have hsz : (Tr.nd a l x v r).sz = l.sz + r.sz + 1 := rfl
    obtain ⟨s1, s2, s3, s4⟩ := srt_nd hs
    have hDa := fun i (hi : 0 ≤ i ∧ i ≤ 7) => hD.n a ha i hi.1 hi.2
    have hDa0 := hDa 0 (by omega)
    rw [Int.add_zero] at hDa0
    rw [hsz] at hn hf hz
    unfold tUntL
    rw [show (Tr.nd a l x v r).at' = a from rfl, tIs_nd g ha (by omega), if_pos rfl]
    refine wp_get S hDa0 fun σ1 S => ?_
    rw [Ha.k]
    have ek : sumO sq (unt k wi) (Tr.nd a l x v r).ks = sumO sq (unt k wi) l.ks + ((if unt k wi x then ownS sq (x, v) else 0) + sumO sq (unt k wi) r.ks) := by
      show sumO sq (unt k wi) (l.ks ++ (x, v) :: r.ks) = _
      rw [sumO_app]; rfl
    by_cases e : k < x ∨ x = k ∧ wi = false
    · rw [if_pos e]
      refine wp_get S (hDa 2 (by omega)) fun σ1 S => ?_
      rw [Ha.l]
      refine Prog.wp_mono (wp_untL g hD hp0 l f tot S Hl (fun y hy => hN y (in_l hy)) s1 (by rw [dn_val]; omega) (by omega) (by omega)) fun r' σ' ⟨h1, h2⟩ => ⟨?_, h2⟩
      have hx : unt k wi x = false := by
        show (decide (x < k) || (decide (x = k) && wi)) = false
        rcases e with e | ⟨e, e'⟩
        · have h1 : ¬ x < k := by omega
          have h2 : ¬ x = k := by omega
          simp [h1, h2]
        · have h1 : ¬ x < k := by omega
          simp [h1, e']
      have hr : sumO sq (unt k wi) r.ks = 0 := sumO_none fun y hy => by
        have := s4 y hy
        have h1 : ¬ y.1 < k := by omega
        have h2 : ¬ y.1 = k := by omega
        show (decide (y.1 < k) || (decide (y.1 = k) && wi)) = false
        simp [h1, h2]
      rw [h1, ek, hr, if_neg (by rw [hx]; simp)]
      rw [show sumO sq (unt k wi) l.ks + (0 + 0) = sumO sq (unt k wi) l.ks by omega]
    · rw [if_neg e]
      have hx : unt k wi x = true := by
        unfold unt
        by_cases h : x < k
        · rw [decide_eq_true h]; rfl
        · have h1 : x = k := by omega
          have h2 : wi = true := by cases wi with
            | true => rfl
            | false => exact absurd (.inr ⟨h1, rfl⟩) e
          rw [h2, decide_eq_true h1]; simp
      have hl : sumO sq (unt k wi) l.ks = if sq = true then l.sm else l.sz := sumO_all fun y hy => by
        have := s3 y hy
        unfold unt
        rw [decide_eq_true (by omega)]; rfl
      have own : ∀ {α : Type} {Q : α → Spc → Prop} {q : Int → Prog α}, (∀ σ', Sm D σ0 σ' m c → wp (q (ownS sq (x, v))) σ' Q) → wp (tOwn sq a >>= q) σ1 Q := fun {α Q q} h => by
        cases sq with
        | true =>
          show wp (gt (a + 1) >>= q) σ1 Q
          refine wp_get S (hDa 1 (by omega)) fun σ2 S2 => ?_
          rw [Ha.v]
          exact h σ2 S2
        | false => exact h σ1 S
      refine own fun σ2 S2 => ?_
      refine wp_get S2 (hDa 2 (by omega)) fun σ3 S3 => ?_
      rw [Ha.l]
      unfold wk0
      have hwv := wk0_val hp0
      refine wp_of (x := w64 (if sq = true then l.sm else l.sz)) S3 g hD l (fun y hy => hN y (in_l hy)) (by unfold cel; split <;> decide) (by rw [hwv]; omega) (fun e => by rw [e]; cases sq <;> exact w64_0) (fun e => by
        unfold cel
        cases sq with
        | true => rw [if_pos rfl, if_pos rfl]; exact Hl.c5 e
        | false => rw [if_neg (by simp), if_neg (by simp), w64_R ⟨by omega, by omega⟩]; exact Hl.c4 e) fun n4 σ4 _ S4 => ?_
      refine wp_get S4 (hDa 3 (by omega)) fun σ5 S5 => ?_
      rw [Ha.r, w64_a2]
      refine Prog.wp_mono (wp_untL g hD hp0 r f _ S5 Hr (fun y hy => hN y (in_r hy)) s2 (by rw [dn_val]; omega) (by omega) (by omega)) fun r' σ' ⟨h1, h2⟩ => ⟨?_, h2⟩
      rw [h1, ek, hl, if_pos hx]
      congr 1
      omega
theorem wp_nthL (g : p.good) (hD : PoolD D p) (hp0 : 0 ≤ p.nodes ∧ p.nodes ≤ 1000) : ∀ (t : Tr) (f : Nat) {n : Fin 1000001} {σ : Spc} (i : Int), Sm D σ0 σ m c → TR m t → (∀ x ∈ t.ns, isN p x) → t.sz ≤ n.val → t.sz ≤ f → t.sz ≤ 1000000 → 0 ≤ i → R64 i →
    wp (tNthL p f (.ok n) t.at' i) σ fun r σ' => r = (((t.ks[i.toNat]?).map (·.1)).getD 0, (t.ks[i.toNat]?).isSome) ∧ Sm D σ0 σ' m c
  | .nil, f, n, σ, i, S, H, hN, hn, hf, hz, hi, hi2 => by
    cases f with
    | zero => exact ⟨rfl, S⟩
    | succ f =>
      unfold tNthL
      rw [show Tr.nil.at' = 0 from rfl, tIs_0, if_neg (by simp)]
      exact ⟨rfl, S⟩
  | .nd a l x v r, 0, n, σ, i, S, H, hN, hn, hf, hz, hi, hi2 => by
    have : (Tr.nd a l x v r).sz = l.sz + r.sz + 1 := rfl
    omega
  | .nd a l x v r, f + 1, n, σ, i, S, ⟨Ha, Hl, Hr⟩, hN, hn, hf, hz, hi, hi2 => by
    have ha := hN a in_a
    have hsz : (Tr.nd a l x v r).sz = l.sz + r.sz + 1 := rfl
    have hDa := fun i (hi : 0 ≤ i ∧ i ≤ 7) => hD.n a ha i hi.1 hi.2
    have hDa0 := hDa 0 (by omega)
    rw [Int.add_zero] at hDa0
    rw [hsz] at hn hf hz
    have hlk := Tr.sz_ks (t := l)
    have ek : (Tr.nd a l x v r).ks = l.ks ++ (x, v) :: r.ks := rfl
    unfold tNthL
    rw [show (Tr.nd a l x v r).at' = a from rfl, tIs_nd g ha (by omega), if_pos rfl]
    refine wp_get S (hDa 2 (by omega)) fun σ1 S => ?_
    rw [Ha.l]
    unfold wk0
    have hwv := wk0_val hp0
    refine wp_of (x := l.sz) S g hD l (fun y hy => hN y (in_l hy)) (by decide) (by rw [hwv]; omega) (fun e => by rw [e]; rfl) (fun e => Hl.c4 e) fun n4 σ4 _ S4 => ?_
    dsimp only
    by_cases e : i = l.sz
    · rw [if_pos e]
      refine wp_get S4 hDa0 fun σ5 S5 => ?_
      refine ⟨?_, S5⟩
      rw [Ha.k, ek, List.getElem?_append_right (by omega), show i.toNat - l.ks.length = 0 by omega]
      rfl
    · rw [if_neg e]
      by_cases e2 : i < l.sz
      · rw [if_pos e2]
        refine Prog.wp_mono (wp_nthL g hD hp0 l f i S4 Hl (fun y hy => hN y (in_l hy)) (by rw [dn_val]; omega) (by omega) (by omega) hi hi2) fun r' σ' ⟨h1, h2⟩ => ⟨?_, h2⟩
        rw [h1, ek, List.getElem?_append_left (by omega)]
      · rw [if_neg e2]
        refine wp_get S4 (hDa 3 (by omega)) fun σ5 S5 => ?_
        rw [Ha.r, w64_R (z := (l.sz : Int) + 1) ⟨by omega, by omega⟩, w64_R (z := i - ((l.sz : Int) + 1)) ⟨by omega, by omega⟩]
        refine Prog.wp_mono (wp_nthL g hD hp0 r f _ S5 Hr (fun y hy => hN y (in_r hy)) (by rw [dn_val]; omega) (by omega) (by omega) (by omega) ⟨by omega, by omega⟩) fun r' σ' ⟨h1, h2⟩ => ⟨?_, h2⟩
        have ei : i.toNat = l.ks.length + ((i - ((l.sz : Int) + 1)).toNat + 1) := by omega
        rw [h1, ek, List.getElem?_append_right (by omega), show i.toNat - l.ks.length = (i - ((l.sz : Int) + 1)).toNat + 1 by omega, List.getElem?_cons_succ]
end
end Go.En
namespace Go.En
open Prog Spc

section
variable {D : Int → Prop} {σ0 σ σ' : Spc} {m m' : Int → Int} {c c' : Nat} {p : Pl} {root k : Int} {t : Tr} {fr : List Int} {out : Int} {sq wi : Bool} {q : Int → Bool}
abbrev vI' (l : List (Int × Int)) : List Int := l.map (·.2)
theorem w64_s2 (a b v : Int) : w64 (w64 (w64 a + w64 b) + v) = w64 (a + v + b) := by
  unfold w64
  simp only [IntKind.wrap_i64]
  omega
theorem wp_bel (g : p.good) (hD : PoolD D p) : ∀ (t : Tr) (f : Nat) {α : Type} {Q : α → Spc → Prop} {q : (Int × Int) × Wlk → Prog α} {n : Fin 1000001} {σ : Spc} {ks vs : List Int}, Sm D σ0 σ m c → TR m t → (∀ x ∈ t.ns, isN p x) → Srt t.ks → (∀ z, ks.getLast? = some z → ∀ y ∈ t.ks, z < y.1) → t.sz ≤ n.val → t.sz < f → (ks.length : Int) + t.sz ≤ p.nodes → t.sz ≤ 1000000 →
    (∀ n' σ', n.val ≤ n'.val + t.sz → Sm D σ0 σ' m c → wp (q (((t.sz : Int), w64 t.sm), ⟨.ok n', ks ++ kI t.ks, vs ++ vI' t.ks, false⟩)) σ' Q) → wp (tBel p f ⟨.ok n, ks, vs, false⟩ t.at' >>= q) σ Q
  | t, 0, α, Q, q, n, σ, ks, vs, S, H, hN, hs, hz, hn, hf, hm, hb, h => absurd hf (Nat.not_lt_zero _)
  | .nil, f + 1, α, Q, q, n, σ, ks, vs, S, H, hN, hs, hz, hn, hf, hm, hb, h => by
    have := h n σ (by omega) S
    unfold tBel
    rw [if_pos (.inl rfl)]
    simp only [Tr.ks, List.map_nil, List.append_nil] at this
    exact this
  | .nd a l x v r, f + 1, α, Q, q, n, σ, ks, vs, S, ⟨Ha, Hl, Hr⟩, hN, hs, hz, hn, hf, hm, hb, h => by
    have ha := hN a in_a
    have hap := isN_pos g ha
    have hsz : (Tr.nd a l x v r).sz = l.sz + r.sz + 1 := rfl
    obtain ⟨s1, s2, s3, s4⟩ := srt_nd hs
    have hDa := fun i (hi : 0 ≤ i ∧ i ≤ 7) => hD.n a ha i hi.1 hi.2
    have hDa0 := hDa 0 (by omega)
    rw [Int.add_zero] at hDa0
    have hlk := Tr.sz_ks (t := l)
    have hrk := Tr.sz_ks (t := r)
    rw [hsz] at hn hf hm hb h
    unfold tBel
    rw [show (Tr.nd a l x v r).at' = a from rfl, if_neg (by simp; omega)]
    show wp ((if (tIs p (.ok n) a).1 = true then _ else _) >>= q) σ Q
    rw [tIs_nd g ha (by omega), if_pos rfl, wp_bind]
    refine wp_get S (hDa 2 (by omega)) fun σ1 S1 => ?_
    rw [Ha.l]
    refine wp_bel (ks := ks) (vs := vs) (n := dn n) g hD l f S1 Hl (fun y hy => hN y (in_l hy)) s1 (fun z hz2 y hy => hz z hz2 y (by show y ∈ l.ks ++ (x, v) :: r.ks; simp [hy])) (by rw [dn_val]; omega) (by omega) (by omega) (by omega) fun n2 σ2 hn2 S2 => ?_
    rw [dn_val] at hn2
    refine wp_get S2 hDa0 fun σ3 S3 => ?_
    rw [Ha.k]
    dsimp only
    have hlen : (ks ++ kI l.ks).length = ks.length + l.sz := by rw [List.length_append, List.length_map, hlk]
    have hlast : 0 < (ks ++ kI l.ks).length → ¬ x ≤ ((ks ++ kI l.ks).getLast?).getD 0 := fun h0 => by
      rcases List.eq_nil_or_concat l.ks with e | ⟨l', y, e⟩
      · rw [e] at h0 ⊢
        simp only [List.map_nil, List.append_nil] at h0 ⊢
        cases hg : ks.getLast? with
        | none => rw [List.getLast?_eq_none_iff] at hg; rw [hg] at h0; simp at h0
        | some z => have := hz z hg (x, v) (by show _ ∈ l.ks ++ (x, v) :: r.ks; simp); show ¬ x ≤ z; omega
      · rw [List.concat_eq_append] at e
        have hy := s3 y (by rw [e]; simp)
        rw [e, show ks ++ kI (l' ++ [y]) = ks ++ l'.map (·.1) ++ [y.1] by simp]
        rw [List.getLast?_concat]
        show ¬ x ≤ y.1
        omega
    rw [if_neg (by
      rintro (h | h | ⟨h1, h2⟩)
      · cases h
      · rw [hlen] at h; omega
      · exact hlast h1 h2)]
    refine wp_get S3 (hDa 1 (by omega)) fun σ4 S4 => ?_
    refine wp_get S4 (hDa 3 (by omega)) fun σ5 S5 => ?_
    rw [Ha.v, Ha.r]
    refine wp_bel (ks := ks ++ kI l.ks ++ [x]) (vs := vs ++ vI' l.ks ++ [v]) (n := n2) g hD r f S5 Hr (fun y hy => hN y (in_r hy)) s2 (fun z hz2 y hy => ?_) (by omega) (by omega) (by rw [List.length_append, hlen]; simp only [List.length_singleton]; omega) (by omega) fun n6 σ6 hn6 S6 => ?_
    · rw [List.getLast?_concat] at hz2
      cases hz2
      exact s4 y hy
    refine wp_get S6 (hDa 1 (by omega)) fun σ7 S7 => ?_
    rw [Ha.v]
    dsimp only
    rw [w64_s2, w64_R (z := (l.sz : Int) + r.sz) ⟨by omega, by omega⟩, w64_R (z := (l.sz : Int) + r.sz + 1) ⟨by omega, by omega⟩]
    have ec : ((l.sz + r.sz + 1 : Nat) : Int) = (l.sz : Int) + r.sz + 1 := by omega
    unfold tBelE
    show wp (if (false : Bool) = true then _ else _) σ7 _
    rw [if_neg (by simp)]
    refine wp_get S7 (hDa 4 (by omega)) fun σ8 S8 => ?_
    rw [Ha.c, ec, if_neg (by simp)]
    refine wp_get S8 (hDa 5 (by omega)) fun σ9 S9 => ?_
    rw [Ha.s]
    have := h n6 σ9 (by omega) S9
    rw [ec] at this
    have e1 : ks ++ kI l.ks ++ [x] ++ kI r.ks = ks ++ kI (Tr.nd a l x v r).ks := by show _ = ks ++ kI (l.ks ++ (x, v) :: r.ks); simp
    have e2 : vs ++ vI' l.ks ++ [v] ++ vI' r.ks = vs ++ vI' (Tr.nd a l x v r).ks := by show _ = vs ++ vI' (l.ks ++ (x, v) :: r.ks); simp
    rw [← e1, ← e2] at this
    have e3 : decide (w64 (l.sm + v + r.sm) ≠ w64 (l.sm + v + r.sm)) = false := by simp
    show wp (q (((l.sz : Int) + r.sz + 1, w64 (l.sm + v + r.sm)), ⟨.ok n6, ks ++ kI l.ks ++ [x] ++ kI r.ks, vs ++ vI' l.ks ++ [v] ++ vI' r.ks, decide (w64 (l.sm + v + r.sm) ≠ w64 (l.sm + v + r.sm))⟩)) σ9 Q
    rw [e3]
    exact this
theorem TS.np (X : TS p root m t fr out) : 0 ≤ p.nodes ∧ p.nodes ≤ 1000 ∧ (t.sz : Int) ≤ p.nodes := by
  have g3 := X.P.good.n1; have g4 := X.P.good.n0; have := X.len
  omega
section
variable (G : TG D p root) (S : Sm D σ0 σ m c) (X : TS p root m t fr out)
include G S X
theorem wp_root {α : Type} {Q : α → Spc → Prop} {q : Int → Prog α} (h : ∀ σ', Sm D σ0 σ' m c → wp (q t.at') σ' Q) : wp (gt root >>= q) σ Q := by
  have hr0 := G.R 0 (by decide) (by decide)
  rw [Int.add_zero] at hr0
  refine wp_get S hr0 fun σ1 S1 => ?_
  rw [X.rt]
  exact h σ1 S1
theorem wp_tGet : wp (tGet p root k) σ fun r σ' => r = rGet t.ks k ∧ Sm D σ0 σ' m c := by
  have hp := X.np
  unfold tGet
  refine wp_root G S X fun σ1 S1 => ?_
  exact wp_getL X.P.good G.dp t p.nodes.toNat S1 X.tr (fun x hx => X.isN hx) X.srt (by rw [wk0_val ⟨hp.1, hp.2.1⟩]; omega) (by omega)
theorem wp_tNext : wp (tNext p root k) σ fun r σ' => r = rNxt t.ks k ∧ Sm D σ0 σ' m c := by
  have hp := X.np
  unfold tNext
  refine wp_root G S X fun σ1 S1 => ?_
  refine Prog.wp_mono (wp_nextL X.P.good G.dp t p.nodes.toNat (0, false) S1 X.tr (fun x hx => X.isN hx) X.srt (by rw [wk0_val ⟨hp.1, hp.2.1⟩]; omega) (by omega)) fun r σ' ⟨h1, h2⟩ => ⟨?_, h2⟩
  rw [h1]
  unfold rNxt
  cases t.ks.find? fun y => decide (k ≤ y.1) <;> rfl
theorem wp_tUnt : wp (tUnt p root k wi sq) σ fun r σ' => r = w64 (sumO sq (unt k wi) t.ks) ∧ Sm D σ0 σ' m c := by
  have hp := X.np
  unfold tUnt
  refine wp_root G S X fun σ1 S1 => ?_
  have := wp_untL (k := k) (wi := wi) (sq := sq) (n := Fin.ofNat 1000001 (64 * (p.nodes.toNat + 1))) X.P.good G.dp ⟨hp.1, hp.2.1⟩ t p.nodes.toNat 0 S1 X.tr (fun x hx => X.isN hx) X.srt (by rw [wk0_val ⟨hp.1, hp.2.1⟩]; omega) (by omega) (by omega)
  rw [w64_0, Int.zero_add] at this
  exact this
theorem wp_tNth {n : Int} (hn : R64 n) : wp (tNth p root n) σ fun r σ' => r = (if 0 ≤ n then (((t.ks[n.toNat]?).map (·.1)).getD 0, (t.ks[n.toNat]?).isSome) else (0, false)) ∧ Sm D σ0 σ' m c := by
  have hp := X.np
  unfold tNth
  by_cases h : n < 0
  · rw [if_pos h, if_neg (by omega)]
    exact ⟨rfl, S⟩
  · rw [if_neg h, if_pos (by omega)]
    refine wp_root G S X fun σ1 S1 => ?_
    exact wp_nthL X.P.good G.dp ⟨hp.1, hp.2.1⟩ t p.nodes.toNat n S1 X.tr (fun x hx => X.isN hx) (by rw [wk0_val ⟨hp.1, hp.2.1⟩]; omega) (by omega) (by omega) (by omega) hn
theorem wp_tWlk : wp (tWlk p root) σ fun r σ' => r = some (kI t.ks, vI' t.ks) ∧ Sm D σ0 σ' m c := by
  have hp := X.np
  unfold tWlk
  refine wp_root G S X fun σ1 S1 => ?_
  unfold wk0
  refine wp_bel X.P.good G.dp t (fu p) S1 X.tr (fun x hx => X.isN hx) X.srt (fun z hz => by cases hz) (by rw [wk0_val ⟨hp.1, hp.2.1⟩]; omega) (by unfold fu; omega) (by simp only [List.length_nil]; omega) (by omega) fun n2 σ2 hn2 S2 => ?_
  rw [List.nil_append, List.nil_append]
  show wp (if (false : Bool) = true then _ else _) σ2 _
  rw [if_neg (by simp)]
  refine wp_get S2 (G.R 7 (by decide) (by decide)) fun σ3 S3 => ?_
  rw [X.n7, if_neg (by simp)]
  exact ⟨rfl, S3⟩
end
theorem sumO_btw {a b : Int} (h : a ≤ b) : ∀ {l : List (Int × Int)}, sumO sq (unt b true) l - sumO sq (unt a false) l = sumO sq (fun x => decide (a ≤ x) && decide (x ≤ b)) l
  | [] => rfl
  | y :: l => by
    have ih := sumO_btw h (l := l)
    show (if unt b true y.1 then ownS sq y else 0) + sumO sq (unt b true) l - ((if unt a false y.1 then ownS sq y else 0) + sumO sq (unt a false) l) = (if (decide (a ≤ y.1) && decide (y.1 ≤ b)) then ownS sq y else 0) + sumO sq (fun x => decide (a ≤ x) && decide (x ≤ b)) l
    have e1 : unt b true y.1 = decide (y.1 ≤ b) := by
      show (decide (y.1 < b) || (decide (y.1 = b) && true)) = _
      rw [Bool.and_true, ← Bool.decide_or]
      exact decide_eq_decide.2 (by omega)
    have e2 : unt a false y.1 = decide (y.1 < a) := by
      show (decide (y.1 < a) || (decide (y.1 = a) && false)) = _
      rw [Bool.and_false, Bool.or_false]
    rw [e1, e2]
    by_cases h1 : y.1 ≤ b <;> by_cases h2 : a ≤ y.1
    · have h3 : ¬ y.1 < a := by omega
      simp [h1, h2, h3]; omega
    · have h3 : y.1 < a := by omega
      simp [h1, h2, h3]; omega
    · have h3 : ¬ y.1 < a := by omega
      simp [h1, h2, h3]; omega
    · omega
end
end Go.En
namespace Go.En
open Prog Spc Go.Sort

variable {S : Sys} {I : Ids} {h h0 h' : Hp} {F F0 : Fp} {R : Value → Hp → Prop} {L : List Res} {s : Value} {σ τ : Spc}

theorem Cx.ptr {i : Nat} (c : Cx F0 h0 h L) (hi : L[i]? = some (rSpace s σ)) : ∃ p, s = at0 p := let ⟨_, x, hp, _⟩ := c.get hi; ⟨x.1, hp.1⟩
theorem addI {a b : Int} (h : R64 (a + b)) : bin .add (.int .i64 a) (.int .i64 b) = some (.int .i64 (a + b)) := by rw [bin_add, wr64 h]
theorem uno_nb (r : Bool) : uno .not (.bool r) = some (.bool !r) := rfl
theorem eqI (a : Int) : bin .eql (.int .i64 a) (.int .i64 a) = some (.bool true) := by rw [bin_eql]; simp
theorem neI (a : Int) : bin .neq (.int .i64 a) (.int .i64 a) = some (.bool false) := by rw [bin_neq]; simp
abbrev In7 (i : Int) : Prop := 0 ≤ i ∧ i ≤ 7
def EPtr : Enc (Option Addr) := { n := 1, c := fun a => [.pointer a], len := fun _ => rfl, one := fun a v h => by simp only [List.mem_singleton] at h; subst h; rfl }
def ET : Enc (Pl × Int) := { n := 4, c := fun g => [.int .i64 g.1.root, .int .i64 g.1.frm, .int .i64 g.1.nodes, .int .i64 g.2], len := fun _ => rfl, one := fun a v h => by simp only [List.mem_cons, List.not_mem_nil, or_false] at h; rcases h with rfl | rfl | rfl | rfl <;> rfl }
def vT (p : Pl) (root : Int) : Value := .agg ⟨ET.c (p, root)⟩
theorem tW {i r : Nat} {p : Pl} {root : Int} (c : Cx F0 h0 h L) (hi : L[i]? = some (rVar ET r (p, root))) : lda 4 (at0 r) h = some (vT p root) := (c.va hi).whole rfl
theorem tP {i r : Nat} {p : Pl} {root : Int} (c : Cx F0 h0 h L) (hi : L[i]? = some (rVar ET r (p, root))) {k : Value → Prop} (hk : k (vP p)) : Vb (fa 0 (at0 r)) fun v => Vb (lda 3 v h) k := by
  refine vb (fa_add _ _ _) (vb ?_ hk)
  have hr : Row EPl h r 0 p := fun j u hu => (c.va hi).row j u (by
    match j, hu with
    | 0, hu => exact hu
    | 1, hu => exact hu
    | 2, hu => exact hu
    | j + 3, hu => simp [EPl] at hu)
  exact hr.lda rfl
theorem tN {i r : Nat} {p : Pl} {root : Int} (c : Cx F0 h0 h L) (hi : L[i]? = some (rVar ET r (p, root))) {k : Value → Prop} (hk : k (.int .i64 p.nodes)) : Vb (fa 0 (at0 r)) fun v => Vb (fa 2 v) fun w => Vb (ldc w h) k := by
  refine vb (fa_add _ _ _) (vb (fa_add _ _ _) (vb ?_ hk))
  exact (c.va hi).row.ldc (j := 2) rfl
/-- the state of an operation, in memory -/
def EWk : Enc (Pl × Int × Nat × Bool × Int) := { n := 7, c := fun x => [.int .i64 x.1.root, .int .i64 x.1.frm, .int .i64 x.1.nodes, .int .i64 x.2.1, at0 x.2.2.1, .bool x.2.2.2.1, .int .i64 x.2.2.2.2], len := fun _ => rfl, one := fun a v h => by simp only [List.mem_cons, List.not_mem_nil, or_false] at h; rcases h with rfl | rfl | rfl | rfl | rfl | rfl | rfl <;> rfl }
def Wk.left : Wk → Int
  | .ok n => n.val
  | .no l => l
abbrev rW (rw : Nat) (p : Pl) (root : Int) (sp : Nat) (w : Wk) : Res := rVar EWk rw (p, root, sp, w.lost, w.left)
abbrev WL (sp rw : Nat) (p : Pl) (root : Int) (σ : Spc) (w : Wk) (L : List Res) : List Res := rSpace (at0 sp) σ :: rW rw p root sp w :: L
structure CsW0 (S : Sys) (I : Ids) : Prop extends CsT S I where
  rank : ∀ {k : Int}, R64 k → Pur S I.f_tree_rank [.int .i64 k] (.int .u64 (rk k))
  tkid : ∀ {a b h R}, F_tree_kid S I a b h R → S.C I.f_tree_kid [a, b] h R
  twork : ∀ {a b h R}, F_tree_Tree_work S I a b h R → S.C I.f_tree_Tree_work [a, b] h R
  tis : ∀ {a b h R}, F_tree_work_is S I a b h R → S.C I.f_tree_work_is [a, b] h R
  tget : ∀ {a b c h R}, F_tree_work_get S I a b c h R → S.C I.f_tree_work_get [a, b, c] h R
  tput : ∀ {a b c d h R}, F_tree_work_put S I a b c d h R → S.C I.f_tree_work_put [a, b, c, d] h R
  tof : ∀ {a b c h R}, F_tree_work_of S I a b c h R → S.C I.f_tree_work_of [a, b, c] h R
  tref : ∀ {a b h R}, F_tree_work_refresh S I a b h R → S.C I.f_tree_work_refresh [a, b] h R
  tspl : ∀ {a b c h R}, F_tree_work_split S I a b c h R → S.C I.f_tree_work_split [a, b, c] h R
  tmrg : ∀ {a b c h R}, F_tree_work_merge S I a b c h R → S.C I.f_tree_work_merge [a, b, c] h R
  tadd : ∀ {a b c d h R}, F_tree_work_add S I a b c d h R → S.C I.f_tree_work_add [a, b, c, d] h R
  thang : ∀ {a b c d h R}, F_tree_work_hang S I a b c d h R → S.C I.f_tree_work_hang [a, b, c, d] h R
  tway : ∀ {a b h R}, F_tree_work_way S I a b h R → S.C I.f_tree_work_way [a, b] h R
  tway1 : ∀ {a b c h R}, F_tree_work_way_1 S I a b c h R → S.C I.f_tree_work_way_1 [a, b, c] h R
  tpath : ∀ {a b h R}, F_tree_work_path S I a b h R → S.C I.f_tree_work_path [a, b] h R
section
variable {sp rw : Nat} {p : Pl} {root a b k v : Int} {w : Wk}
theorem kid_ (cs : CsW0 S I) {key : Int} (hR : R (.int .i64 (kidc k key)) h) : S.C I.f_tree_kid [.int .i64 k, .int .i64 key] h R := by
  refine cs.tkid ?_
  unfold F_tree_kid
  unfold kidc at hR
  rw [bin_lss, vb_some]
  refine brd (fun h1 => ?_) fun h1 => ?_
  · rw [if_pos h1] at hR; exact hR
  · rw [if_neg h1] at hR; exact hR
theorem bldK (p : Pl) (root : Int) (sp : Nat) (l : Int) : bldS [(0, 4), (4, 1), (5, 1), (6, 1)] #[Value.int IntKind.i64 0, Value.int IntKind.i64 0, Value.int IntKind.i64 0, Value.int IntKind.i64 0, Value.pointer none, Value.bool false, Value.int IntKind.i64 0] [(0, vT p root), (1, at0 sp), (3, .int .i64 l)] = some (.agg ⟨EWk.c (p, root, sp, false, l)⟩) := by kernel_rfl
/-- an operation begins -/
theorem work_ (cs : CsW0 S I) (hp0 : 0 ≤ p.nodes ∧ p.nodes ≤ 1000) (c : Cx F0 h0 h L) (k : ∀ rw h', Cx F0 h0 h' (L ++ [rW rw p root sp (wk0 p)]) → R (at0 rw) h') : S.C I.f_tree_Tree_work [vT p root, at0 sp] h R := by
  refine cs.twork ?_
  unfold F_tree_Tree_work
  have c0 := Cx.start0 h
  refine c0.nw ET (p, root) rfl fun rt h1 c0 => ?_
  rw [tW (i := 0) c0 rfl, vb_some]
  refine tN (i := 0) c0 rfl ?_
  refine En.vb (v := .int .i64 (p.nodes + 1)) (addI ⟨by omega, by omega⟩) ?_
  refine En.vb (v := .int .i64 (64 * (p.nodes + 1))) (by rw [bin_mul, wr64 ⟨by omega, by omega⟩]) ?_
  rw [bldK, vb_some]
  refine c0.nw EWk (p, root, sp, false, 64 * (p.nodes + 1)) rfl fun rw h2 c0 => ?_
  have c := c.frame0 (c0.pick [1])
  refine k rw _ ?_
  have e : (wk0 p).left = 64 * (p.nodes + 1) := by
    show ((Fin.ofNat 1000001 (64 * (p.nodes.toNat + 1))).val : Int) = _
    rw [wk0_val hp0]; omega
  show Cx F0 h0 h2 (L ++ [rVar EWk rw (p, root, sp, false, (wk0 p).left)])
  rw [e]
  exact c
theorem is_ (cs : CsW0 S I) (c : Cx F0 h0 h (WL sp rw p root σ w L)) (ha : R64 a) (hk : ∀ h', Cx F0 h0 h' (WL sp rw p root σ (tIs p w a).2 L) → R (.bool (tIs p w a).1) h') : S.C I.f_tree_work_is [at0 rw, .int .i64 a] h R := by
  refine cs.tis ?_
  unfold F_tree_work_is
  refine Jn1.at (fun u h' => u = .bool (decide (a = 0) || w.lost) ∧ h' = h) ?_ ?_
  · rw [bin_eql, vb_some]
    refine brd (fun h1 => ?_) fun h1 => ?_
    · rw [decide_eq_true h1]; exact ⟨rfl, rfl⟩
    · refine nckb ?_
      refine (c.va (i := 1) rfl).fld (j := 5) rfl ?_
      rw [decide_eq_false h1]; exact ⟨rfl, rfl⟩
  rintro u h1 ⟨rfl, rfl⟩
  cases w with
  | no l =>
    have e : tIs p (.no l) a = (false, .no l) := rfl
    rw [e] at hk
    rw [show (decide (a = 0) || (Wk.no l).lost) = true by simp [Wk.lost], br_true]
    exact hk _ c
  | ok n =>
    by_cases h0' : a = 0
    · subst h0'
      rw [tIs_0] at hk
      rw [show (decide ((0 : Int) = 0) || (Wk.ok n).lost) = true from rfl, br_true]
      exact hk _ c
    · have hn := n.isLt
      rw [show (decide (a = 0) || (Wk.ok n).lost) = false by simp [h0', Wk.lost], br_false]
      refine nckb ?_
      have hrow : Row EPl h1 rw 0 p := fun j u hu => (c.va (i := 1) rfl).row j u (by
        match j, hu with
        | 0, hu => exact hu
        | 1, hu => exact hu
        | 2, hu => exact hu
        | j + 3, hu => simp [EPl] at hu)
      refine En.vb (fa_add _ _ _) (En.vb (fa_add _ _ _) (En.vb (hrow.lda rfl) ?_))
      refine c.pur (cs.node ha) fun h2 c => ?_
      unfold vN
      refine ext0t (ext1t ?_)
      refine nckb ?_
      refine (c.va (i := 1) rfl).fld (j := 6) rfl ?_
      refine En.vb (v := .int .i64 ((n.val : Int) - 1)) (by show bin .sub (.int .i64 (n.val : Int)) (.int .i64 1) = _; rw [bin_sub, wr64 ⟨by omega, by omega⟩]) ?_
      refine nckb ?_
      refine c.stof 1 rfl (j := 6) (p, root, sp, false, (n.val : Int) - 1) rfl (by decide) rfl fun h3 c => ?_
      have c : Cx F0 h0 h3 (rSpace (at0 sp) σ :: rVar EWk rw (p, root, sp, false, (n.val : Int) - 1) :: L) := c
      refine Jn0.at (fun h' => Cx F0 h0 h' (WL sp rw p root σ (tIs p (.ok n) a).2 L)) ?_ ?_
      · rw [uno_nb, vb_some]
        have ht : tIs p (.ok n) a = if (p.node a).isSome = true ∧ 1 ≤ n.val then (true, .ok (dn n)) else (false, .no ((n.val : Int) - 1)) := by
          unfold tIs
          dsimp only
          rw [if_neg h0']; rfl
        rw [ht]
        cases hN : (p.node a).isSome with
        | false =>
          rw [Bool.not_false, br_true, if_neg (by simp)]
          refine nckb ?_
          refine c.stof 1 rfl (j := 5) (p, root, sp, true, (n.val : Int) - 1) rfl (by decide) rfl fun h4 c => ?_
          exact c
        | true =>
          rw [Bool.not_true, br_false]
          refine nckb ?_
          refine (c.va (i := 1) rfl).fld (j := 6) rfl ?_
          rw [bin_lss, vb_some]
          refine nckb ?_
          refine c.stof 1 rfl (j := 5) (p, root, sp, decide ((n.val : Int) - 1 < 0), (n.val : Int) - 1) rfl (by decide) rfl fun h4 c => ?_
          by_cases h1 : 1 ≤ n.val
          · rw [if_pos ⟨rfl, h1⟩]
            rw [decide_eq_false (by omega)] at c
            have e : (Wk.ok (dn n)).left = (n.val : Int) - 1 := by show ((dn n).val : Int) = _; rw [dn_val]; omega
            show Cx F0 h0 h4 (rSpace (at0 sp) σ :: rVar EWk rw (p, root, sp, false, (Wk.ok (dn n)).left) :: L)
            rw [e]; exact c
          · rw [if_neg (by simp [h1])]
            rw [decide_eq_true (by omega)] at c
            exact c
      · clear c
        intro h4 c
        refine nckb ?_
        refine (c.va (i := 1) rfl).fld (j := 5) rfl ?_
        rw [uno_nb, vb_some]
        have e : (!(tIs p (.ok n) a).2.lost) = (tIs p (.ok n) a).1 := by
          unfold tIs
          dsimp only
          rw [if_neg h0']
          split <;> rfl
        rw [e]
        exact hk _ c
theorem get_ {β : Type} {q : Int → Prog β} {Q : β → Spc → Prop} (cs : CsW0 S I) (c : Cx F0 h0 h (WL sp rw p root σ w L)) (hr : R64 (a + b)) (hp : wp (gt (a + b) >>= q) σ Q) (hk : ∀ v σ' h', R64 v → Cx F0 h0 h' (WL sp rw p root σ' w L) → wp (q v) σ' Q → R (.int .i64 v) h') :
    S.C I.f_tree_work_get [at0 rw, .int .i64 a, .int .i64 b] h R := by
  refine cs.tget ?_
  unfold F_tree_work_get
  refine nckb ?_
  refine (c.va (i := 1) rfl).fld (j := 4) rfl ?_
  rw [addI hr, vb_some]
  refine c.doesE cs.get (Ens.gt _) 0 rfl hp fun v σ' h1 hv c hp => ?_
  exact hk v σ' _ hv c hp
theorem put_ {β : Type} {q : Unit → Prog β} {Q : β → Spc → Prop} (cs : CsW0 S I) (c : Cx F0 h0 h (WL sp rw p root σ w L)) (hr : R64 (a + b)) (hp : wp (pt (a + b) v >>= q) σ Q) (hk : ∀ σ' h', Cx F0 h0 h' (WL sp rw p root σ' w L) → wp (q ()) σ' Q → R (.tuple #[]) h') :
    S.C I.f_tree_work_put [at0 rw, .int .i64 a, .int .i64 b, .int .i64 v] h R := by
  refine cs.tput ?_
  unfold F_tree_work_put
  refine nckb ?_
  refine (c.va (i := 1) rfl).fld (j := 4) rfl ?_
  rw [addI hr, vb_some]
  refine c.does cs.put 0 rfl hp fun _ σ' h1 c hp => ?_
  exact hk σ' _ c hp
theorem node_l {x : Int} (h : (p.node x).isSome = true) : 1 ≤ x ∧ x ≤ 4088 := by
  obtain ⟨n, hn⟩ := Option.isSome_iff_exists.1 h
  exact node_lt hn
theorem tIs_n (h : (tIs p w a).1 = true) : (p.node a).isSome = true := by
  cases w with
  | no l => cases h
  | ok n =>
    unfold tIs at h
    dsimp only at h
    split at h
    · cases h
    · split at h
      · rename_i h2; exact h2.1
      · cases h
theorem of_ {β : Type} {q : Int × Wk → Prog β} {Q : β → Spc → Prop} (cs : CsW0 S I) (c : Cx F0 h0 h (WL sp rw p root σ w L)) (ha : R64 a) (hb : In7 b) (hp : wp (tOf p w a b >>= q) σ Q) (hk : ∀ v w' σ' h', R64 v → Cx F0 h0 h' (WL sp rw p root σ' w' L) → wp (q (v, w')) σ' Q → R (.int .i64 v) h') :
    S.C I.f_tree_work_of [at0 rw, .int .i64 a, .int .i64 b] h R := by
  refine cs.tof ?_
  unfold F_tree_work_of
  unfold tOf at hp
  refine is_ cs c ha fun h1 c => ?_
  rw [uno_nb, vb_some]
  cases hi : (tIs p w a).1 with
  | false =>
    rw [hi, if_neg (by simp)] at hp
    rw [Bool.not_false, br_true]
    exact hk 0 _ σ _ ⟨by decide, by decide⟩ c hp
  | true =>
    rw [hi, if_pos rfl] at hp
    have hN := node_l (tIs_n hi)
    rw [Bool.not_true, br_false]
    have hp : wp (gt (a + b) >>= fun v => q (v, (tIs p w a).2)) σ Q := hp
    exact get_ cs c ⟨by omega, by omega⟩ hp fun v σ' h2 hv c hp => hk v _ σ' _ hv c hp
theorem ref_ {β : Type} {q : Wk → Prog β} {Q : β → Spc → Prop} (cs : CsW0 S I) (c : Cx F0 h0 h (WL sp rw p root σ w L)) (ha : 1 ≤ a ∧ a ≤ 4088) (hp : wp (tRef p w a >>= q) σ Q) (hk : ∀ w' σ' h', Cx F0 h0 h' (WL sp rw p root σ' w' L) → wp (q w') σ' Q → R (.tuple #[]) h') :
    S.C I.f_tree_work_refresh [at0 rw, .int .i64 a] h R := by
  refine cs.tref ?_
  unfold F_tree_work_refresh
  have hp : wp (gt (a + 2) >>= fun l => gt (a + 3) >>= fun r => (tOf p w l 4 >>= fun c1 => tOf p c1.2 r 4 >>= fun c2 => pt (a + 4) (w64 (w64 (1 + c1.1) + c2.1)) >>= fun _ => tRefT p c2.2 a l r) >>= q) σ Q := hp
  refine get_ cs c ⟨by omega, by omega⟩ hp fun l σ1 h1 hl c hp => ?_
  refine get_ cs c ⟨by omega, by omega⟩ hp fun r σ1 h1 hr c hp => ?_
  rw [Prog.wp_bind] at hp
  refine of_ cs c hl ⟨by decide, by decide⟩ hp fun c1 w1 σ2 h2 _ c hp => ?_
  rw [bin_addw, vb_some]
  refine of_ cs c hr ⟨by decide, by decide⟩ hp fun c2 w2 σ3 h3 _ c hp => ?_
  rw [bin_addw, vb_some]
  refine put_ cs c ⟨by omega, by omega⟩ hp fun σ4 h4 c hp => ?_
  unfold tRefT at hp
  refine get_ cs c ⟨by omega, by omega⟩ hp fun v σ5 h5 _ c hp => ?_
  refine of_ cs c hl ⟨by decide, by decide⟩ hp fun s1 w3 σ6 h6 _ c hp => ?_
  rw [bin_addw, vb_some]
  refine of_ cs c hr ⟨by decide, by decide⟩ hp fun s2 w4 σ7 h7 _ c hp => ?_
  rw [bin_addw, vb_some]
  refine put_ cs c ⟨by omega, by omega⟩ hp fun σ8 h8 c hp => ?_
  exact hk _ σ8 _ c hp
end
end Go.En
