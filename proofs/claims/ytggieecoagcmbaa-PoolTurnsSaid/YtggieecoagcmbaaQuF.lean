/-
  Layer 34: the further laws.
-/
import Derived.Test.YtggieecoagcmbaaQuE
namespace Go.En
open Prog Spc

variable {S : Sys} {I : Ids} {h h0 h' : Hp} {F F0 : Fp} {R : Value → Hp → Prop} {s : Value} {σ : Spc} {L : List Res} {n : Int}

theorem L_QueueOrders {k : Int} {l : Value} {acts : List Act34} (cs : CsZ S I) (hk : 0 ≤ k ∧ k ≤ 255) (hl : Sl EAct h l acts) (hok : ∀ a ∈ acts, a.ok) (hR : ∀ h', Gr h h' → R (.bool true) h') : F_simulcastlaw34_QueueOrders S I (.int .u8 k) l h R := by
  unfold F_simulcastlaw34_QueueOrders
  refine vb hl.ln ?_
  simp only [go_sem]
  refine brd (fun _ => cs.awake hR) fun hlen => ?_
  have hn : 0 ≤ k % 9 ∧ k % 9 ≤ 8 := by omega
  refine cs.start hk fun a l1 cp h1 c0 => ?_
  have c := (Cx.start0 h).frame0 c0
  simp only [go_sem]
  refine c.nw EPl ⟨0, 0, 0⟩ rfl fun rp h1 c => ?_
  refine c.nw ESh (none, 0, 0) rfl fun rw_ h1 c => ?_
  refine c.sto 1 rfl (pQ (k % 9)) rfl rfl fun h1 c => ?_
  refine c.sto (n := 1) 2 rfl (a, l1, cp) rfl rfl fun h1 c => ?_
  rw [(c.va (i := 2) rfl).whole (n := 1) rfl, vb_some]
  refine cs.space0 (c.sl (i := 0) rfl).sl (by rw [List.length_replicate]; omega) rep_R64 fun s h2 c2 => ?_
  have c := c.frame0 c2
  have q := QS.init (n := k % 9) (k := 24 + 8 * (k % 9).toNat) hn (by omega)
  generalize e0 : spW (List.replicate (24 + 8 * (k % 9).toNat) 0) = σ0 at *
  have hl0 : σ0.pu.length = 0 := by rw [← e0]; rfl
  have c := (c.nilSl EI1).nilSl EI1
  refine Lp3.by (fun (x : Nat × Spc × (Value × List Int) × (Value × List Int) × List Int) v0 v1 v2 h' => x.1 ≤ acts.length ∧ v0 = x.2.2.1.1 ∧ v1 = x.2.2.2.1.1 ∧ v2 = .int .i64 x.1 ∧ QS (k % 9) σ0 x.2.1 8 x.2.2.2.2 16 [] (40 * x.1) ∧
    x.2.2.1.2 = x.2.2.2.1.2 ++ x.2.2.2.2 ∧ x.2.2.1.2.length ≤ x.1 ∧
    Cx (fun _ => False) h h' [rSl EI1 (.slice a l1 cp) (List.replicate (24 + 8 * (k % 9).toNat) 0), rVar EPl rp (pQ (k % 9)), rVar ESh rw_ (a, l1, cp), rSpace s x.2.1, rSl EI1 x.2.2.1.1 x.2.2.1.2, rSl EI1 x.2.2.2.1.1 x.2.2.2.1.2])
    (fun x => acts.length - x.1) (0, σ0, (_, []), (_, []), []) ⟨by omega, rfl, rfl, rfl, q, rfl, by simp, c⟩ ?_
  rintro ⟨i, σ, ⟨wp, put⟩, ⟨wg, got⟩, vs⟩ v0 v1 v2 h3 ⟨hi, e1, e2, rfl, q, hput, hpl, c⟩ again hagain
  dsimp only at *
  subst e1 e2
  have hql := q.len
  have hgl : got.length + vs.length = put.length := by rw [hput, List.length_append]
  refine vb hl.ln ?_
  simp only [go_sem]
  refine brd (fun h4 => ?_) fun h4 => ?_
  · have hi' : i < acts.length := by omega
    have hact := hok _ (List.getElem_mem hi')
    have hla := fun {h' : Hp} (g : Gr h h') => hl.gr g
    refine .here ?_
    refine (hla c.gr).fld rfl (idx_get' hi') rfl (j := 0) rfl ?_
    rw [bin_rem (by omega), vb_some, Int.tmod_eq_emod_of_nonneg hact.1.1]
    simp only [go_sem]
    refine brd (fun h5 => ?_) fun h5 => ?_
    · rw [plA (i := 1) c rfl, vb_some]
      refine (hla c.gr).fld rfl (idx_get' hi') rfl (j := 1) rfl ?_
      refine c.last (cs.qput ⟨by omega, by omega⟩ hact.2) 3 rfl (q.fresh.put (hh8 hn) (by unfold big; omega) hact.2) fun e σ' h6 c hq => ?_
      simp only [go_sem]
      rw [wrS (by omega)]
      by_cases hf : (vs.length + ([] : List Int).length : Int) < k % 9
      · rw [if_pos hf] at hq
        obtain ⟨rfl, hq⟩ := hq
        rw [decide_eq_true rfl, br_true]
        refine (hla c.gr).fld rfl (idx_get' hi') rfl (j := 1) rfl ?_
        refine c.app1 4 rfl acts[i].v rfl rfl rfl (by omega) (by omega) fun w h7 c => ?_
        exact hagain (i + 1, σ', (w, put ++ [acts[i].v]), (v1, got), vs ++ [acts[i].v]) _ _ _ _ ⟨by omega, rfl, rfl, rfl, (q.over hq).mono (by omega), by rw [hput, List.append_assoc], by simp only [List.length_append, List.length_singleton]; omega, c⟩ (by omega)
      · rw [if_neg hf] at hq
        obtain ⟨rfl, hq⟩ := hq
        rw [decide_eq_false (by omega), br_false]
        exact hagain (i + 1, σ', (v0, put), (v1, got), vs) _ _ _ _ ⟨by omega, rfl, rfl, rfl, (q.over hq).mono (by omega), hput, by dsimp only; omega, c⟩ (by omega)
    · rw [plA (i := 1) c rfl, vb_some]
      refine c.last (cs.qtake ⟨by omega, by omega⟩) 3 rfl (q.fresh.take (hh8 hn) (by unfold big; omega)) fun e σ' h6 c hq => ?_
      simp only [go_sem]
      rw [wrS (by omega)]
      cases vs with
      | nil =>
        obtain ⟨rfl, hq⟩ := hq
        rw [decide_eq_false (by simp), br_false]
        exact hagain (i + 1, σ', (v0, put), (v1, got), []) _ _ _ _ ⟨by omega, rfl, rfl, rfl, (q.over hq).mono (by omega), hput, by dsimp only; omega, c⟩ (by omega)
      | cons x r =>
        obtain ⟨rfl, hq⟩ := hq
        rw [decide_eq_true rfl, br_true]
        refine c.app1 5 rfl x rfl rfl rfl (by omega) (by omega) fun w h7 c => ?_
        exact hagain (i + 1, σ', (v0, put), (w, got ++ [x]), r) _ _ _ _ ⟨by omega, rfl, rfl, rfl, (q.over hq).mono (by omega), by rw [hput, List.append_assoc]; rfl, by dsimp only; omega, c⟩ (by omega)
  · refine Lp2.by (fun (x : Nat × Spc × (Value × List Int) × List Int) u0 u1 h' => u0 = x.2.2.1.1 ∧ u1 = .int .i64 x.1 ∧ QS (k % 9) σ0 x.2.1 8 x.2.2.2 16 [] (2400 + 40 * x.1) ∧
      put = x.2.2.1.2 ++ x.2.2.2 ∧ x.1 + x.2.2.2.length ≤ acts.length ∧
      Cx (fun _ => False) h h' [rSl EI1 (.slice a l1 cp) (List.replicate (24 + 8 * (k % 9).toNat) 0), rVar EPl rp (pQ (k % 9)), rVar ESh rw_ (a, l1, cp), rSpace s x.2.1, rSl EI1 v0 put, rSl EI1 x.2.2.1.1 x.2.2.1.2])
      (fun x => acts.length + 1 - x.1) (0, σ, (v1, got), vs) ⟨rfl, rfl, q.mono (by omega), hput, by dsimp only; omega, c⟩ ?_
    rintro ⟨j, σ, ⟨wg, got⟩, vs⟩ u0 u1 h5 ⟨e1, rfl, q, hput, hjl, c⟩ again hagain
    dsimp only at *
    subst e1
    have hql := q.len
    have hgl : got.length + vs.length = put.length := by rw [hput, List.length_append]
    refine vb hl.ln ?_
    simp only [go_sem]
    refine brT (by omega) ?_
    rw [plA (i := 1) c rfl, vb_some]
    refine c.last (cs.qtake ⟨by omega, by omega⟩) 3 rfl (q.fresh.take (hh8 hn) (by unfold big; omega)) fun e σ' h6 c hq => ?_
    simp only [go_sem]
    cases vs with
    | nil =>
      obtain ⟨rfl, hq⟩ := hq
      have q := q.over hq
      refine brT (by simp) (.here ?_)
      rw [List.append_nil] at hput
      subst hput
      simp only [go_sem, decide_true]
      refine cs.same (c.sl (i := 5) rfl).sl (c.sl (i := 4) rfl).sl (by omega) ?_
      rw [decide_eq_true rfl, br_true, plA (i := 1) c rfl, vb_some, pl2 (i := 1) c rfl, vb_some]
      refine c.last cs.left 3 rfl (q.fresh.left (hh8 hn)) fun e σ2 h7 c ⟨he, hq⟩ => ?_
      subst he
      have q := q.over hq
      refine ⟨pl2 (i := 1) c rfl, ?_⟩
      simp only [go_sem, List.length_nil, Int.natCast_zero, Int.sub_zero, decide_true]
      refine c.last (cs.qlen ⟨by omega, by omega⟩) 3 rfl (q.fresh.lenw (hh8 hn)) fun e σ2 h8 c ⟨he, hq⟩ => ?_
      subst he
      simp only [go_sem, List.length_nil, Int.natCast_zero, decide_true]
      exact cs.awake fun h' g => hR h' (Gr.trans c.gr g)
    | cons x r =>
      obtain ⟨rfl, hq⟩ := hq
      simp only [List.length_cons] at hjl hgl
      refine brF (by simp) ?_
      refine c.app1 5 rfl x rfl rfl rfl (by omega) (by omega) fun w h7 c => ?_
      rw [wrS (by omega)]
      exact hagain (j + 1, σ', (w, got ++ [x]), r) _ _ _ ⟨rfl, rfl, (q.over hq).mono (by omega), by rw [hput, List.append_assoc]; rfl, by dsimp only; omega, c⟩ (by omega)

theorem QS.back {r r' : Int} {σ1 : Spc} {vs vs' ws ws' : List Int} {c : Nat} (q0 : QS n σ1 σ1 r vs r' vs' 0) (q : QS n σ1 σ r ws r' ws' c) : QS n σ1 (σ.back σ1.pu.length) r vs r' vs' 0 := by
  obtain ⟨m, fr, out, ns, ns', S, h⟩ := q0
  obtain ⟨_, _, _, _, _, S', _⟩ := q
  exact ⟨m, fr, out, ns, ns', S'.back S.vw S.rg, h⟩

theorem L_QueueUndoes {k : Int} {l l' : Value} {acts more : List Act34} (cs : CsZ S I) (hk : 0 ≤ k ∧ k ≤ 255) (hl : Sl EAct h l acts) (hok : ∀ a ∈ acts, a.ok) (hl' : Sl EAct h l' more) (hok' : ∀ a ∈ more, a.ok) (hR : ∀ h', Gr h h' → R (.bool true) h') :
    F_simulcastlaw34_QueueUndoes S I (.int .u8 k) l l' h R := by
  unfold F_simulcastlaw34_QueueUndoes
  refine Jn1.at (fun v h' => h = h' ∧ ∃ b : Bool, v = .bool b ∧ (b = false → acts.length ≤ 40 ∧ more.length ≤ 40)) ?_ ?_
  · refine vb hl.ln ?_
    simp only [go_sem]
    refine brd (fun _ => ⟨trivial, true, rfl, fun e => by cases e⟩) fun h1 => ?_
    refine vb hl'.ln ?_
    simp only [go_sem]
    exact ⟨trivial, _, rfl, fun e => by simp only [decide_eq_false_iff_not] at e; omega⟩
  rintro v _ ⟨rfl, b, rfl, hb⟩
  cases b with
  | true => exact cs.awake hR
  | false =>
  obtain ⟨hlen, hlen'⟩ := hb rfl
  rw [br_false]
  have hn : 0 ≤ k % 9 ∧ k % 9 ≤ 8 := by omega
  refine cs.start hk fun a l1 cp h1 c0 => ?_
  have c := (Cx.start0 h).frame0 c0
  simp only [go_sem]
  refine c.nw EPl ⟨0, 0, 0⟩ rfl fun rp h1 c => ?_
  refine c.nw ESh (none, 0, 0) rfl fun rw_ h1 c => ?_
  refine c.sto 1 rfl (pQ (k % 9)) rfl rfl fun h1 c => ?_
  refine c.sto (n := 1) 2 rfl (a, l1, cp) rfl rfl fun h1 c => ?_
  rw [(c.va (i := 2) rfl).whole (n := 1) rfl, vb_some]
  refine cs.space0 (c.sl (i := 0) rfl).sl (by rw [List.length_replicate]; omega) rep_R64 fun s h2 c2 => ?_
  have c := c.frame0 c2
  have q := QS.init (n := k % 9) (k := 24 + 8 * (k % 9).toNat) hn (by omega)
  generalize e0 : spW (List.replicate (24 + 8 * (k % 9).toNat) 0) = σ0 at *
  have hl0 : σ0.pu.length = 0 := by rw [← e0]; rfl
  have c := c.nilSl EI1
  refine Lp2.by (fun (x : Nat × Spc × Value × List Int) v0 v1 h' => x.1 ≤ acts.length ∧ v0 = x.2.2.1 ∧ v1 = .int .i64 x.1 ∧ QS (k % 9) σ0 x.2.1 8 x.2.2.2 16 [] (40 * x.1) ∧
    Cx (fun _ => False) h h' [rSl EI1 (.slice a l1 cp) (List.replicate (24 + 8 * (k % 9).toNat) 0), rVar EPl rp (pQ (k % 9)), rVar ESh rw_ (a, l1, cp), rSpace s x.2.1, rSl EI1 x.2.2.1 x.2.2.2])
    (fun x => acts.length - x.1) (0, σ0, _, []) ⟨by omega, rfl, rfl, q, c⟩ ?_
  rintro ⟨i, σ, w, vs⟩ v0 v1 h3 ⟨hi, e1, rfl, q, c⟩ again hagain
  dsimp only at *
  subst e1
  have hql := q.len
  refine vb hl.ln ?_
  simp only [go_sem]
  refine brd (fun h4 => ?_) fun h4 => ?_
  · have hi' : i < acts.length := by omega
    rw [plA (i := 1) c rfl, vb_some]
    refine (hl.gr c.gr).whole rfl (idx_get' hi') rfl ?_
    obtain ⟨F, c1, hf, up⟩ := c.frameD (i := 3) rfl
    refine cs.done hn q.fresh (by unfold big; omega) (hok _ (List.getElem_mem hi')) c1 (c.sl (i := 4) rfl).sl (frame_sl (j := 4) hf (by decide) rfl) (fun σ' h5 q2 c2 => ?_) fun σ' w' ws h5 q2 c2 => ?_
    · have c := up c2
      simp only [go_sem]
      rw [wrS (by omega)]
      exact hagain (i + 1, σ', v0, vs) _ _ _ ⟨by omega, rfl, rfl, (q.over q2).mono (by omega), c⟩ (by omega)
    · have c := up c2
      have c := c.sub (L' := [rSl EI1 (.slice a l1 cp) (List.replicate (24 + 8 * (k % 9).toNat) 0), rVar EPl rp (pQ (k % 9)), rVar ESh rw_ (a, l1, cp), rSpace s σ', rSl EI1 w' ws]) (by simp)
      simp only [go_sem]
      rw [wrS (by omega)]
      exact hagain (i + 1, σ', w', ws) _ _ _ ⟨by omega, rfl, rfl, (q.over q2).mono (by omega), c⟩ (by omega)
  · refine c.last (cs.mark (s := s)) 3 rfl (Q := fun (z : Int) σ' => z = (σ.pu.length : Int) ∧ σ' = σ) ⟨rfl, rfl⟩ fun z σ' h5 c ⟨e1, e2⟩ => ?_
    subst e1 e2
    have q0 := q.fresh
    refine Lp2.by (fun (x : Nat × Spc × Value × List Int × List Res) u0 u1 h' => x.1 ≤ more.length ∧ u0 = x.2.2.1 ∧ u1 = .int .i64 x.1 ∧ QS (k % 9) σ' x.2.1 8 x.2.2.2.1 16 [] (40 * x.1) ∧
      (x.2.2.1 = v0 ∧ x.2.2.2.1 = vs ∧ x.2.2.2.2 = [] ∨ x.2.2.2.2 = [rSl EI1 x.2.2.1 x.2.2.2.1]) ∧
      Cx (fun _ => False) h h' ([rSl EI1 (.slice a l1 cp) (List.replicate (24 + 8 * (k % 9).toNat) 0), rVar EPl rp (pQ (k % 9)), rVar ESh rw_ (a, l1, cp), rSpace s x.2.1, rSl EI1 v0 vs] ++ x.2.2.2.2))
      (fun x => more.length - x.1) (0, σ', v0, vs, []) ⟨by omega, rfl, rfl, q0, .inl ⟨rfl, rfl, rfl⟩, c⟩ ?_
    rintro ⟨j, σ, w, ws, M⟩ u0 u1 h6 ⟨hj, e1, rfl, q, hM, c⟩ again hagain
    dsimp only at *
    subst e1
    have hql' := q.len
    refine vb hl'.ln ?_
    simp only [go_sem]
    refine brd (fun h7 => ?_) fun h7 => ?_
    · have hj' : j < more.length := by omega
      rw [plA (i := 1) c rfl, vb_some]
      refine (hl'.gr c.gr).whole rfl (idx_get' hj') rfl ?_
      obtain ⟨F, c1, hf, up⟩ := c.frameD (i := 3) rfl
      have hw : Sl EI1 h6 u0 ws ∧ ∀ r, blk u0 = some r → ¬ F r := by
        rcases hM with ⟨rfl, rfl, rfl⟩ | rfl
        · exact ⟨(c.sl (i := 4) rfl).sl, frame_sl (j := 4) hf (by decide) rfl⟩
        · exact ⟨(c.sl (i := 5) rfl).sl, frame_sl (j := 5) hf (by decide) rfl⟩
      refine cs.done hn q.fresh (by unfold big; omega) (hok' _ (List.getElem_mem hj')) c1 hw.1 hw.2 (fun σ2 h8 q2 c2 => ?_) fun σ2 w' ws' h8 q2 c2 => ?_
      · have c := up c2
        simp only [go_sem]
        rw [wrS (by omega)]
        refine hagain (j + 1, σ2, u0, ws, M) _ _ _ ⟨by omega, rfl, rfl, (q.over q2).mono (by omega), hM, ?_⟩ (by omega)
        simpa using c
      · have c := up c2
        have c := c.sub (L' := [rSl EI1 (.slice a l1 cp) (List.replicate (24 + 8 * (k % 9).toNat) 0), rVar EPl rp (pQ (k % 9)), rVar ESh rw_ (a, l1, cp), rSpace s σ2, rSl EI1 v0 vs] ++ [rSl EI1 w' ws']) (by
          rcases hM with ⟨rfl, rfl, rfl⟩ | rfl <;> simp)
        simp only [go_sem]
        rw [wrS (by omega)]
        exact hagain (j + 1, σ2, w', ws', [rSl EI1 w' ws']) _ _ _ ⟨by omega, rfl, rfl, (q.over q2).mono (by omega), .inr rfl, c⟩ (by omega)
    · have c := c.drop
      refine c.last (cs.back (s := s)) 3 rfl (Q := fun _ σ2 => σ2 = σ.back σ'.pu.length) rfl fun _ σ2 h8 c e => ?_
      subst e
      have q := QS.back q0 q
      refine .here ?_
      rw [plA (i := 1) c rfl, vb_some]
      obtain ⟨F, c1, hf, up⟩ := c.frameD (i := 3) rfl
      refine cs.tells hn q.fresh c1 (c.sl (i := 4) rfl).sl (frame_sl (j := 4) hf (by decide) rfl) fun σ2 h9 q2 c2 => ?_
      have c := up c2
      rw [br_true]
      exact cs.awake fun h' g => hR h' (Gr.trans c.gr g)
end Go.En
