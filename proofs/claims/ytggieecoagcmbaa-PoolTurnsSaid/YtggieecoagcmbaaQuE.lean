/-
  Layer 34: the example; the laws.
-/
import Derived.Test.YtggieecoagcmbaaQuD
namespace Go.En
open Prog Spc

variable {S : Sys} {I : Ids} {h h0 h' : Hp} {F F0 : Fp} {R : Value → Hp → Prop} {s : Value} {σ : Spc} {L : List Res} {n : Int}

theorem rep_R64 {k : Nat} : ∀ x ∈ List.replicate k (0 : Int), R64 x := fun x hx => by
  rw [List.mem_replicate] at hx; rw [hx.2]; exact ⟨by omega, by omega⟩
theorem rep_get (k i : Nat) : (List.replicate k (0 : Int))[i]?.getD 0 = 0 := by
  rw [List.getElem?_replicate]; split <;> rfl
theorem QS.init {k : Nat} (hn : 0 ≤ n ∧ n ≤ 8) (hk : (k : Int) = 24 + 8 * n) : QS n (spW (List.replicate k 0)) (spW (List.replicate k 0)) 8 [] 16 [] 0 := by
  have hv : ∀ a, (spW (List.replicate k 0)).vw a = 0 := fun a => by
    rw [spW_vw]; split
    · exact rep_get _ _
    · rfl
  refine ⟨(spW (List.replicate k 0)).vw, [], 0, [], [], Sm.start (fun a ha => ?_) rfl (newS_wf (knW_val rep_R64)), ⟨pQ_good hn, ?_, ?_, ?_, by omega, by simp only; omega, fun x hx => (by cases hx), List.nodup_nil⟩, ⟨?_, ?_, ?_, rfl⟩, ⟨?_, ?_, ?_, rfl⟩, fun x hx => (by cases hx), by simp, by simp⟩
  · rw [spW_kn, if_pos (by rw [List.length_replicate]; omega)]; rfl
  all_goals exact hv _

theorem K_awake34 (cs : CsY S I) (hR : ∀ h', Gr h h' → R (.bool true) h') : F_simulcastlaw34_awake S I h R := by
  unfold F_simulcastlaw34_awake
  refine cs.start (by omega) fun a l cp h1 c0 => ?_
  have c := (Cx.start0 h).frame0 c0
  simp only [go_sem]
  refine c.nw EPl ⟨0, 0, 0⟩ rfl fun rp h1 c => ?_
  refine c.nw ESh (none, 0, 0) rfl fun rw_ h1 c => ?_
  refine c.sto 1 rfl (pQ 4) rfl rfl fun h1 c => ?_
  refine c.sto (n := 1) 2 rfl (a, l, cp) rfl rfl fun h1 c => ?_
  rw [(c.va (i := 2) rfl).whole (n := 1) rfl, vb_some]
  refine cs.space0 (c.sl (i := 0) rfl).sl (by rw [List.length_replicate]; omega) rep_R64 fun s h2 c2 => ?_
  have c := c.frame0 c2
  have q := QS.init (n := 4) (k := 24 + 8 * ((4 : Int) % 9).toNat) (by omega) (by decide)
  refine c.bslN EI1 [5, 6, 7] [.int .i64 5, .int .i64 6, .int .i64 7] rfl rfl rfl (fun u hu => by simp only [List.mem_cons, List.not_mem_nil, or_false] at hu; rcases hu with rfl | rfl | rfl <;> rfl) rfl fun b h3 c => ?_
  have hln := (c.sl (i := 4) rfl).sl.ln
  rw [hln, vb_some]
  have hl0 : (spW (List.replicate (24 + 8 * ((4 : Int) % 9).toNat) 0)).pu.length = 0 := rfl
  refine Lp1.by (fun (x : Nat × Spc) v h' => x.1 ≤ 3 ∧ v = .int .i64 x.1 ∧ QS 4 (spW (List.replicate (24 + 8 * ((4 : Int) % 9).toNat) 0)) x.2 8 ([5, 6, 7].take x.1) 16 [] (20 * x.1) ∧
    Cx (fun _ => False) h h' [rSl EI1 (.slice a l cp) (List.replicate (24 + 8 * ((4 : Int) % 9).toNat) 0), rVar EPl rp (pQ 4), rVar ESh rw_ (a, l, cp), rSpace s x.2, rSl EI1 (.slice (some b) 3 3) [5, 6, 7]])
    (fun x => 3 - x.1) (0, _) ⟨by omega, rfl, q, c⟩ ?_
  rintro ⟨i, σ⟩ v h3 ⟨hi, rfl, q, c⟩ again hagain
  dsimp only at *
  have hql := q.len
  simp only [go_sem, List.length_cons, List.length_nil]
  refine brd (fun h4 => ?_) fun h4 => ?_
  · have hi' : i < ([5, 6, 7] : List Int).length := by simp only [List.length_cons, List.length_nil]; omega
    refine (c.sl (i := 4) rfl).sl.one rfl (idx_get' hi') rfl rfl ?_
    rw [plA (i := 1) c rfl, vb_some]
    have hv : R64 ([5, 6, 7] : List Int)[i] := by
      have : ([5, 6, 7] : List Int)[i] ∈ ([5, 6, 7] : List Int) := List.getElem_mem hi'
      simp only [List.mem_cons, List.not_mem_nil, or_false] at this
      omega
    refine c.last (cs.qput ⟨by omega, by omega⟩ hv) 3 rfl (q.fresh.put (hh8 (by omega)) (by unfold big; omega) hv) fun e σ' h5 c hq => ?_
    have ht : (([5, 6, 7] : List Int).take i).length = i := by rw [List.length_take, Nat.min_eq_left]; exact Nat.le_of_lt hi'
    rw [if_pos (by rw [ht]; simp only [List.length_nil]; omega)] at hq
    obtain ⟨rfl, hq⟩ := hq
    simp only [go_sem, ne_eq, not_true_eq_false, decide_false]
    rw [wrS (by omega)]
    refine hagain (i + 1, σ') _ _ ⟨by omega, rfl, ?_, c⟩ (by omega)
    have := (q.over hq).mono (c' := 20 * (i + 1)) (by omega)
    rw [List.take_add_one, idx_get' hi']
    exact this
  · have : i = 3 := by omega
    subst this
    have q : QS 4 _ σ 8 [5, 6, 7] 16 [] 60 := q
    refine c.last (cs.qlen ⟨by omega, by omega⟩) 3 rfl (q.fresh.lenw (hh8 (by omega))) fun e σ1 h5 c ⟨he, q1⟩ => ?_
    subst he
    have q := (q.over q1)
    refine c.last (cs.qfirst ⟨by omega, by omega⟩) 3 rfl (q.fresh.first (hh8 (by omega))) fun e σ1 h6 c ⟨he, q1⟩ => ?_
    subst he
    have q := (q.over q1)
    simp only [go_sem, qHead]
    rw [plA (i := 1) c rfl, vb_some]
    have hl1 := q.len
    refine c.last (cs.qtake ⟨by omega, by omega⟩) 3 rfl (q.fresh.take (hh8 (by omega)) (by unfold big; omega)) fun e σ1 h7 c ⟨he, q1⟩ => ?_
    subst he
    have q := (q.over q1)
    have hl1 := q.len
    simp only [go_sem]
    rw [plA (i := 1) c rfl, vb_some]
    refine c.last (cs.qtake ⟨by omega, by omega⟩) 3 rfl (q.fresh.take (hh8 (by omega)) (by unfold big; omega)) fun e σ1 h8 c ⟨he, q1⟩ => ?_
    subst he
    have q := (q.over q1)
    have hl1 := q.len
    simp only [go_sem]
    rw [plA (i := 1) c rfl, vb_some]
    refine c.last (cs.qput ⟨by omega, by omega⟩ ⟨by omega, by omega⟩) 3 rfl (q.fresh.put (hh8 (by omega)) (by unfold big; omega) ⟨by omega, by omega⟩) fun e σ1 h9 c hq => ?_
    rw [if_pos (by simp)] at hq
    obtain ⟨rfl, q1⟩ := hq
    have q := (q.over q1)
    rw [plA (i := 1) c rfl, vb_some]
    obtain ⟨F1, c1, up⟩ := c.frame (i := 3) rfl
    refine cs.walk ⟨by omega, by omega⟩ c1 (q.fresh.walk (hh8 (by omega))) fun o σ1 v h10 M c2 ⟨ho, q1⟩ => ?_
    subst ho
    have c := up c2
    have c := c.sub (L' := [rSl EI1 v [7, 8]]) (by simp [Option.getD])
    simp only [go_sem, Option.isSome_some, if_true]
    refine .here ?_
    simp only [go_sem, decide_true, List.length_cons, List.length_nil]
    refine brT (by omega) ?_
    refine c.bslN EI1 [7, 8] [.int .i64 7, .int .i64 8] rfl rfl rfl (fun u hu => by simp only [List.mem_cons, List.not_mem_nil, or_false] at hu; rcases hu with rfl | rfl <;> rfl) rfl fun b h11 c => ?_
    refine cs.same (c.sl (i := 0) rfl).sl (c.sl (i := 1) rfl).sl (by simp) ?_
    rw [decide_eq_true rfl]
    exact hR _ c.gr

structure CsZ (S : Sys) (I : Ids) : Prop extends CsY S I where
  awake : ∀ {h R}, (∀ h', Gr h h' → R (.bool true) h') → S.C I.f_simulcastlaw34_awake [] h R
  done : ∀ {n : Int} {s h F σ R l vs} {a : Act34}, 0 ≤ n ∧ n ≤ 8 → QS n σ σ 8 vs 16 [] 0 → σ.pu.length + 30 ≤ big → a.ok → Cx F h h [rSpace s σ] → Sl EI1 h l vs → (∀ r, blk l = some r → ¬ F r) →
    (∀ σ' h', QS n σ σ' 8 vs 16 [] 20 → Cx F h h' [rSpace s σ'] → R (.tuple #[l, .bool true]) h') →
    (∀ σ' w ws h', QS n σ σ' 8 ws 16 [] 20 → Cx F h h' [rSpace s σ', rSl EI1 w ws] → R (.tuple #[w, .bool true]) h') → S.C I.f_simulcastlaw34_done [s, vP (pQ n), l, .agg ⟨EAct.c a⟩] h R
  tells : ∀ {n : Int} {s h F σ R l vs}, 0 ≤ n ∧ n ≤ 8 → QS n σ σ 8 vs 16 [] 0 → Cx F h h [rSpace s σ] → Sl EI1 h l vs → (∀ r, blk l = some r → ¬ F r) →
    (∀ σ' h', QS n σ σ' 8 vs 16 [] 0 → Cx F h h' [rSpace s σ'] → R (.bool true) h') → S.C I.f_simulcastlaw34_tells [s, vP (pQ n), l] h R

/-- the frame of a call that works on the space: the slice w is not touched -/
theorem frame_sl {α : Type} {E : Enc α} {w : Value} {xs : List α} {i j : Nat} (hf : ∀ (j : Nat) (B : Res), i ≠ j → L[j]? = some B → ∃ G, B.P h G ∧ ∀ r, F r → ¬ G r) (hij : i ≠ j) (hj : L[j]? = some (rSl E w xs)) : ∀ r, blk w = some r → ¬ F r := fun r hr hF => by
  obtain ⟨G, ⟨_, hG⟩, hd⟩ := hf j _ hij hj
  exact hd r hF ((hG r).2 hr)

/-- the beginning of a law -/
theorem start34 {k : Int} (cs : CsZ S I) (hk : 0 ≤ k ∧ k ≤ 255) {P : Value → Hp → Prop}
    (hR : ∀ a l c h', Cx (fun _ => False) h h' [rSl EI1 (.slice a l c) (List.replicate (24 + 8 * (k % 9).toNat) 0)] → P (.tuple #[vP (pQ (k % 9)), .agg #[.slice a l c]]) h') : S.C I.f_simulcastlaw34_start [.int .u8 k] h P := cs.start hk hR

theorem L_QueuePlays {k : Int} {l : Value} {acts : List Act34} (cs : CsZ S I) (hk : 0 ≤ k ∧ k ≤ 255) (hl : Sl EAct h l acts) (hok : ∀ a ∈ acts, a.ok) (hR : ∀ h', Gr h h' → R (.bool true) h') : F_simulcastlaw34_QueuePlays S I (.int .u8 k) l h R := by
  unfold F_simulcastlaw34_QueuePlays
  refine vb hl.ln ?_
  simp only [go_sem]
  refine brd (fun _ => cs.awake hR) fun hlen => ?_
  have hn : 0 ≤ k % 9 ∧ k % 9 ≤ 8 := by omega
  refine cs.start hk fun a l1 cp h1 c0 => ?_
  have c := (Cx.start0 h).frame0 c0
  simp only [go_sem]
  refine c.nw EPl ⟨0, 0, 0⟩ rfl fun rp h1 c => ?_
  refine c.nw ESh (none, 0, 0) rfl fun rw_ h1 c => ?_
  refine c.sto 1 rfl (pQ (k % 9)) rfl rfl fun h1 c => ?_
  refine c.sto (n := 1) 2 rfl (a, l1, cp) rfl rfl fun h1 c => ?_
  rw [(c.va (i := 2) rfl).whole (n := 1) rfl, vb_some]
  refine cs.space0 (c.sl (i := 0) rfl).sl (by rw [List.length_replicate]; omega) rep_R64 fun s h2 c2 => ?_
  have c := c.frame0 c2
  have q := QS.init (n := k % 9) (k := 24 + 8 * (k % 9).toNat) hn (by omega)
  have c := c.nilSl EI1
  generalize e0 : spW (List.replicate (24 + 8 * (k % 9).toNat) 0) = σ0 at *
  have hl0 : σ0.pu.length = 0 := by rw [← e0]; rfl
  refine Lp2.by (fun (x : Nat × Spc × Value × List Int) v0 v1 h' => x.1 ≤ acts.length ∧ v0 = x.2.2.1 ∧ v1 = .int .i64 x.1 ∧ QS (k % 9) σ0 x.2.1 8 x.2.2.2 16 [] (40 * x.1) ∧
    Cx (fun _ => False) h h' [rSl EI1 (.slice a l1 cp) (List.replicate (24 + 8 * (k % 9).toNat) 0), rVar EPl rp (pQ (k % 9)), rVar ESh rw_ (a, l1, cp), rSpace s x.2.1, rSl EI1 x.2.2.1 x.2.2.2])
    (fun x => acts.length - x.1) (0, σ0, _, []) ⟨by omega, rfl, rfl, q, c⟩ ?_
  rintro ⟨i, σ, w, vs⟩ v0 v1 h3 ⟨hi, rfl, rfl, q, c⟩ again hagain
  dsimp only at *
  have hql := q.len
  refine vb hl.ln ?_
  simp only [go_sem]
  refine brd (fun h4 => ?_) fun h4 => ?_
  · have hi' : i < acts.length := by omega
    rw [plA (i := 1) c rfl, vb_some]
    refine (hl.gr c.gr).whole rfl (idx_get' hi') rfl ?_
    have next : ∀ (σ' : Spc) (w' : Value) (ws : List Int) (h5 : Hp), QS (k % 9) σ0 σ' 8 ws 16 [] (40 * i + 20) →
        Cx (fun _ => False) h h5 [rSl EI1 (.slice a l1 cp) (List.replicate (24 + 8 * (k % 9).toNat) 0), rVar EPl rp (pQ (k % 9)), rVar ESh rw_ (a, l1, cp), rSpace s σ', rSl EI1 w' ws] →
        Vb (lda 3 (at0 rp) h5) fun v44 => S.C I.f_simulcastlaw34_tells [s, v44, w'] h5 fun v46 h11 => Vb (uno .not v46) fun v47 => Br v47 (R (.bool false) h11) (again w' (.int .i64 (IntKind.i64.wrap ((i : Int) + 1))) h11) := by
      intro σ' w' ws h5 q c
      rw [plA (i := 1) c rfl, vb_some]
      obtain ⟨F, c1, hf, up⟩ := c.frameD (i := 3) rfl
      refine cs.tells hn q.fresh c1 (c.sl (i := 4) rfl).sl (frame_sl (j := 4) hf (by decide) rfl) fun σ2 h6 q2 c2 => ?_
      have c := up c2
      simp only [go_sem, Bool.not_true]
      rw [wrS (by omega)]
      exact hagain (i + 1, σ2, w', ws) _ _ _ ⟨by omega, rfl, rfl, (q.over q2).mono (by omega), c⟩ (by omega)
    obtain ⟨F, c1, hf, up⟩ := c.frameD (i := 3) rfl
    refine cs.done hn q.fresh (by unfold big; omega) (hok _ (List.getElem_mem hi')) c1 (c.sl (i := 4) rfl).sl (frame_sl (j := 4) hf (by decide) rfl) (fun σ' h5 q2 c2 => ?_) fun σ' w' ws h5 q2 c2 => ?_
    · have c := up c2
      simp only [go_sem, Bool.not_true]
      refine .here ?_
      exact next σ' v0 vs h5 (q.over q2) c
    · have c := up c2
      have c := c.sub (L' := [rSl EI1 (.slice a l1 cp) (List.replicate (24 + 8 * (k % 9).toNat) 0), rVar EPl rp (pQ (k % 9)), rVar ESh rw_ (a, l1, cp), rSpace s σ', rSl EI1 w' ws]) (by simp)
      simp only [go_sem, Bool.not_true]
      refine .here ?_
      exact next σ' w' ws h5 (q.over q2) c
  · refine .here ?_
    rw [plA (i := 1) c rfl, vb_some]
    obtain ⟨F, c1, hf, up⟩ := c.frameD (i := 3) rfl
    refine cs.tells hn q.fresh c1 (c.sl (i := 4) rfl).sl (frame_sl (j := 4) hf (by decide) rfl) fun σ2 h6 q2 c2 => ?_
    have c := up c2
    simp only [go_sem]
    exact cs.awake fun h' g => hR h' (Gr.trans c.gr g)
end Go.En
