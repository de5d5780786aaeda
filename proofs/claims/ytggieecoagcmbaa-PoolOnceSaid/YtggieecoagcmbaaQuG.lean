/-
  Layer 34: two queues that share a pool.
-/
import Derived.Test.YtggieecoagcmbaaQuF
namespace Go.En
open Prog Spc

variable {S : Sys} {I : Ids} {h h0 h' : Hp} {F F0 : Fp} {R : Value → Hp → Prop} {s : Value} {σ : Spc} {L : List Res} {n : Int}

abbrev Sh := Option Addr × Nat × Nat
def ESh2 : Enc (Sh × Sh) := { n := 2, c := fun a => [.slice a.1.1 a.1.2.1 a.1.2.2, .slice a.2.1 a.2.2.1 a.2.2.2], len := fun _ => rfl, one := fun a v h => by simp only [List.mem_cons, List.not_mem_nil, or_false] at h; rcases h with rfl | rfl <;> rfl }
theorem ixa20 {r : Nat} {q : IntKind} : ixa 2 1 (at0 r) (.int q 0) = some (.pointer (some ⟨r, 0 + 0, none⟩)) := rfl
theorem ixa21 {r : Nat} {q : IntKind} : ixa 2 1 (at0 r) (.int q 1) = some (.pointer (some ⟨r, 0 + 1, none⟩)) := rfl
theorem Cx.stoAt {α : Type} {E : Enc α} {r : Nat} {x : α} (c : Cx F0 h0 h L) (i : Nat) (hi : L[i]? = some (rVar E r x)) (y : α) {j : Nat} {w : Value} (hw : w.oneCell' = true) (hj : j < E.n) (hy : E.c y = (E.c x).set j w) {k : Hp → Prop}
    (hk : ∀ h', Cx F0 h0 h' (L.set i (rVar E r y)) → k h') : Sb (En.sto 1 (.pointer (some ⟨r, 0 + j, none⟩)) w h) k := by
  have := c.stof i hi y hw hj hy hk
  rw [fa_add, vb_some] at this
  exact this
theorem sh0 {i r : Nat} {x : Sh × Sh} (c : Cx F0 h0 h L) (hi : L[i]? = some (rVar ESh2 r x)) : ldc (.pointer (some ⟨r, 0 + 0, none⟩)) h = some (.slice x.1.1 x.1.2.1 x.1.2.2) := (c.va hi).row.ldc (j := 0) rfl
theorem sh1 {i r : Nat} {x : Sh × Sh} (c : Cx F0 h0 h L) (hi : L[i]? = some (rVar ESh2 r x)) : ldc (.pointer (some ⟨r, 0 + 1, none⟩)) h = some (.slice x.2.1 x.2.2.1 x.2.2.2) := (c.va hi).row.ldc (j := 1) rfl
theorem Cx.sllen {α : Type} {E : Enc α} {i : Nat} {a : Option Addr} {l cp : Nat} {xs : List α} (c : Cx F0 h0 h L) (hi : L[i]? = some (rSl E (.slice a l cp) xs)) : l = xs.length := ow_len (c.sl hi)

theorem Cx.drop3 {B : Res} {M : List Res} (c : Cx F0 h0 h (L ++ (B :: M))) : Cx F0 h0 h (L ++ [B]) := by
  have : L ++ (B :: M) = (L ++ [B]) ++ M := by simp
  rw [this] at c
  exact c.drop
theorem L_QueueShares {k t : Int} {l : Value} {acts : List Act34} (cs : CsZ S I) (hk : 0 ≤ k ∧ k ≤ 255) (hl : Sl EAct h l acts) (hok : ∀ a ∈ acts, a.ok) (ht : 0 ≤ t ∧ t ≤ 255) (hR : ∀ h', Gr h h' → R (.bool true) h') : F_simulcastlaw34_QueueShares S I (.int .u8 k) l (.int .u8 t) h R := by
  unfold F_simulcastlaw34_QueueShares
  refine vb hl.ln ?_
  simp only [go_sem]
  refine brd (fun _ => cs.awake hR) fun hlen => ?_
  have hn : 0 ≤ k % 9 ∧ k % 9 ≤ 8 := by omega
  refine cs.start hk fun a l1 cp h1 c0 => ?_
  have c := (Cx.start0 h).frame0 c0
  simp only [go_sem]
  refine c.nw EPl ⟨0, 0, 0⟩ rfl fun rp h1 c => ?_
  refine c.nw ESh (none, 0, 0) rfl fun rw_ h1 c => ?_
  refine c.sto 1 rfl (pQ (k % 9)) rfl rfl fun h1 c => ?_
  refine c.sto (n := 1) 2 rfl (a, l1, cp) rfl rfl fun h1 c => ?_
  rw [(c.va (i := 2) rfl).whole (n := 1) rfl, vb_some]
  refine cs.space0 (c.sl (i := 0) rfl).sl (by rw [List.length_replicate]; omega) rep_R64 fun s h2 c2 => ?_
  have c := c.frame0 c2
  have q := QS.init (n := k % 9) (k := 24 + 8 * (k % 9).toNat) hn (by omega)
  generalize e0 : spW (List.replicate (24 + 8 * (k % 9).toNat) 0) = σ0 at *
  have hl0 : σ0.pu.length = 0 := by rw [← e0]; rfl
  refine c.nw ESh2 ((none, 0, 0), (none, 0, 0)) rfl fun rm h2 c => ?_
  have c := (c.nilSl EI1).nilSl EI1
  refine Lp1.by (fun (x : Nat × Spc × (Sh × Sh) × List Int × List Int) v0 h' => x.1 ≤ acts.length ∧ v0 = .int .i64 x.1 ∧ QS (k % 9) σ0 x.2.1 8 x.2.2.2.1 16 x.2.2.2.2 (40 * x.1) ∧
    Cx (fun _ => False) h h' [rSl EI1 (.slice a l1 cp) (List.replicate (24 + 8 * (k % 9).toNat) 0), rVar EPl rp (pQ (k % 9)), rVar ESh rw_ (a, l1, cp), rSpace s x.2.1, rVar ESh2 rm (x.2.2.1.1, x.2.2.1.2), rSl EI1 (.slice x.2.2.1.1.1 x.2.2.1.1.2.1 x.2.2.1.1.2.2) x.2.2.2.1, rSl EI1 (.slice x.2.2.1.2.1 x.2.2.1.2.2.1 x.2.2.1.2.2.2) x.2.2.2.2])
    (fun x => acts.length - x.1) (0, σ0, ((none, 0, 0), (none, 0, 0)), [], []) ⟨by omega, rfl, q, c⟩ ?_
  rintro ⟨i, σ, ⟨a0, a1⟩, v0, v1⟩ u0 h3 ⟨hi, rfl, q, c⟩ again hagain
  dsimp only at *
  have hql := q.len
  have hvl := q.vlen
  refine vb hl.ln ?_
  simp only [go_sem]
  refine brd (fun h4 => ?_) fun h4 => ?_
  · have hi' : i < acts.length := by omega
    have hact := hok _ (List.getElem_mem hi')
    have hla := fun {h' : Hp} (g : Gr h h') => hl.gr g
    rw [wr64 (n := t) (by omega), wr64 (n := (i : Int) + t) (by omega), bin_rem (by omega), vb_some, bin_rem (by omega), vb_some, Int.tmod_eq_emod_of_nonneg (a := (i : Int) + t) (by omega), Int.tmod_eq_emod_of_nonneg (a := ((i : Int) + t) % 3) (by omega)]
    simp only [go_sem]
    refine Jn0.at (fun h' => ∃ σ' b0 b1 w0 w1, QS (k % 9) σ0 σ' 8 w0 16 w1 (40 * i + 20) ∧ Cx (fun _ => False) h h' [rSl EI1 (.slice a l1 cp) (List.replicate (24 + 8 * (k % 9).toNat) 0), rVar EPl rp (pQ (k % 9)), rVar ESh rw_ (a, l1, cp), rSpace s σ', rVar ESh2 rm (b0, b1), rSl EI1 (.slice b0.1 b0.2.1 b0.2.2) w0, rSl EI1 (.slice b1.1 b1.2.1 b1.2.2) w1]) ?_ ?_
    · have hk01 : ((i : Int) + t) % 3 % 2 = 0 ∨ ((i : Int) + t) % 3 % 2 = 1 := by omega
      refine (hla c.gr).fld rfl (idx_get' hi') rfl (j := 0) rfl ?_
      rw [bin_rem (by omega), vb_some, Int.tmod_eq_emod_of_nonneg hact.1.1]
      simp only [go_sem]
      rcases hk01 with e | e
      · rw [e]
        simp only [Int.mul_zero, Int.add_zero, Int.mul_one]
        rw [wr64 (n := 0) (by omega), wr64 (n := 8 + 0) (by omega)]
        refine brd (fun h5 => ?_) fun h5 => ?_
        · rw [plA (i := 1) c rfl, vb_some]
          refine (hla c.gr).fld rfl (idx_get' hi') rfl (j := 1) rfl ?_
          refine c.last (cs.qput (root := 8) ⟨by omega, by omega⟩ hact.2) 3 rfl (q.fresh.put (hh8 hn) (by unfold big; omega) hact.2) fun e σ' h6 c hq => ?_
          simp only [go_sem, ixa20, ixa21, sh0 (i := 4) c rfl, sh1 (i := 4) c rfl]
          refine (hla c.gr).fld rfl (idx_get' hi') rfl (j := 1) rfl ?_
          have l0 := c.sllen (i := 5) rfl
          have l1' := c.sllen (i := 6) rfl
          rw [pl2 (i := 1) c rfl, vb_some]
          simp only [go_sem]
          rw [wr64 (n := k % 9 - a0.2.1) (by omega), wr64 (n := k % 9 - a0.2.1 - a1.2.1) (by omega)]
          refine cs.rput (c.sl (i := 5) rfl).sl (by omega) (fun hle => ?_) fun hlt w h7 c5 => ?_
          · rw [if_neg (by omega)] at hq
            obtain ⟨rfl, hq⟩ := hq
            simp only [go_sem, ne_eq, not_true_eq_false, decide_false, ixa20, ixa21]
            refine c.stoAt 4 rfl (a0, a1) (j := 0) rfl (by decide) rfl fun h7 c => ?_
            exact ⟨σ', a0, a1, v0, v1, (q.over hq).mono (by omega), c⟩
          · rw [if_pos (by omega)] at hq
            obtain ⟨rfl, hq⟩ := hq
            have c := (c.frame0 c5).repl (i := 5) rfl
            obtain ⟨b, bl, bc, rfl⟩ := ow_slice (c.sl (i := 5) rfl)
            simp only [go_sem, ne_eq, not_true_eq_false, decide_false, ixa20, ixa21]
            refine c.stoAt 4 rfl ((b, bl, bc), a1) (j := 0) rfl (by decide) rfl fun h8 c => ?_
            exact ⟨σ', ((b, bl, bc), a1).1, ((b, bl, bc), a1).2, v0 ++ [acts[i].v], v1, (q.over hq).mono (by omega), c⟩
        · rw [plA (i := 1) c rfl, vb_some]
          refine c.last (cs.qtake (root := 8) ⟨by omega, by omega⟩) 3 rfl (q.fresh.take (hh8 hn) (by unfold big; omega)) fun e σ' h6 c hq => ?_
          simp only [go_sem, ixa20, ixa21, sh0 (i := 4) c rfl, sh1 (i := 4) c rfl]
          refine cs.rtake (c.sl (i := 5) rfl).sl (by omega) (fun hnil => ?_) fun x r w h7 hcons c5 => ?_
          · subst hnil
            obtain ⟨rfl, hq⟩ := hq
            simp only [go_sem, ne_eq, not_true_eq_false, decide_false]
            refine .here ?_
            simp only [go_sem, ne_eq, not_true_eq_false, decide_false, ixa20, ixa21]
            refine c.stoAt 4 rfl (a0, a1) (j := 0) rfl (by decide) rfl fun h7 c => ?_
            exact ⟨σ', a0, a1, _, _, (q.over hq).mono (by omega), c⟩
          · subst hcons
            obtain ⟨rfl, hq⟩ := hq
            have c := (c.frame0 c5).repl (i := 5) rfl
            obtain ⟨b, bl, bc, rfl⟩ := ow_slice (c.sl (i := 5) rfl)
            simp only [go_sem, ne_eq, not_true_eq_false, decide_false]
            refine .here ?_
            simp only [go_sem, ne_eq, not_true_eq_false, decide_false, ixa20, ixa21]
            refine c.stoAt 4 rfl ((b, bl, bc), a1) (j := 0) rfl (by decide) rfl fun h8 c => ?_
            exact ⟨σ', ((b, bl, bc), a1).1, ((b, bl, bc), a1).2, r, v1, (q.over hq).mono (by omega), c⟩
      · rw [e]
        simp only [Int.mul_zero, Int.add_zero, Int.mul_one]
        rw [wr64 (n := 8) (by omega), wr64 (n := 8 + 8) (by omega)]
        refine brd (fun h5 => ?_) fun h5 => ?_
        · rw [plA (i := 1) c rfl, vb_some]
          refine (hla c.gr).fld rfl (idx_get' hi') rfl (j := 1) rfl ?_
          refine c.last (cs.qput (root := 16) ⟨by omega, by omega⟩ hact.2) 3 rfl (q.fresh.swap.put (hh8 hn).swap (by unfold big; omega) hact.2) fun e σ' h6 c hq => ?_
          simp only [go_sem, ixa20, ixa21, sh0 (i := 4) c rfl, sh1 (i := 4) c rfl]
          refine (hla c.gr).fld rfl (idx_get' hi') rfl (j := 1) rfl ?_
          have l0 := c.sllen (i := 5) rfl
          have l1' := c.sllen (i := 6) rfl
          rw [pl2 (i := 1) c rfl, vb_some]
          simp only [go_sem]
          rw [wr64 (n := k % 9 - a0.2.1) (by omega), wr64 (n := k % 9 - a0.2.1 - a1.2.1) (by omega)]
          refine cs.rput (c.sl (i := 6) rfl).sl (by omega) (fun hle => ?_) fun hlt w h7 c5 => ?_
          · rw [if_neg (by omega)] at hq
            obtain ⟨rfl, hq⟩ := hq
            simp only [go_sem, ne_eq, not_true_eq_false, decide_false, ixa20, ixa21]
            refine c.stoAt 4 rfl (a0, a1) (j := 1) rfl (by decide) rfl fun h7 c => ?_
            exact ⟨σ', a0, a1, v0, v1, (q.over hq.swap).mono (by omega), c⟩
          · rw [if_pos (by omega)] at hq
            obtain ⟨rfl, hq⟩ := hq
            have c := (c.frame0 c5).repl (i := 6) rfl
            obtain ⟨b, bl, bc, rfl⟩ := ow_slice (c.sl (i := 6) rfl)
            simp only [go_sem, ne_eq, not_true_eq_false, decide_false, ixa20, ixa21]
            refine c.stoAt 4 rfl (a0, (b, bl, bc)) (j := 1) rfl (by decide) rfl fun h8 c => ?_
            exact ⟨σ', (a0, (b, bl, bc)).1, (a0, (b, bl, bc)).2, v0, v1 ++ [acts[i].v], (q.over hq.swap).mono (by omega), c⟩
        · rw [plA (i := 1) c rfl, vb_some]
          refine c.last (cs.qtake (root := 16) ⟨by omega, by omega⟩) 3 rfl (q.fresh.swap.take (hh8 hn).swap (by unfold big; omega)) fun e σ' h6 c hq => ?_
          simp only [go_sem, ixa20, ixa21, sh0 (i := 4) c rfl, sh1 (i := 4) c rfl]
          refine cs.rtake (c.sl (i := 6) rfl).sl (by omega) (fun hnil => ?_) fun x r w h7 hcons c5 => ?_
          · subst hnil
            obtain ⟨rfl, hq⟩ := hq
            simp only [go_sem, ne_eq, not_true_eq_false, decide_false]
            refine .here ?_
            simp only [go_sem, ne_eq, not_true_eq_false, decide_false, ixa20, ixa21]
            refine c.stoAt 4 rfl (a0, a1) (j := 1) rfl (by decide) rfl fun h7 c => ?_
            exact ⟨σ', a0, a1, _, _, (q.over hq.swap).mono (by omega), c⟩
          · subst hcons
            obtain ⟨rfl, hq⟩ := hq
            have c := (c.frame0 c5).repl (i := 6) rfl
            obtain ⟨b, bl, bc, rfl⟩ := ow_slice (c.sl (i := 6) rfl)
            simp only [go_sem, ne_eq, not_true_eq_false, decide_false]
            refine .here ?_
            simp only [go_sem, ne_eq, not_true_eq_false, decide_false, ixa20, ixa21]
            refine c.stoAt 4 rfl (a0, (b, bl, bc)) (j := 1) rfl (by decide) rfl fun h8 c => ?_
            exact ⟨σ', (a0, (b, bl, bc)).1, (a0, (b, bl, bc)).2, v0, r, (q.over hq.swap).mono (by omega), c⟩
    · rintro h5 ⟨σ', b0, b1, w0, w1, q, c⟩
      have hvl := q.vlen
      refine Lp1.by (fun (x : Nat × Spc) u h' => x.1 ≤ 2 ∧ u = .int .i64 x.1 ∧ QS (k % 9) σ0 x.2 8 w0 16 w1 (40 * i + 20) ∧ Cx (fun _ => False) h h' [rSl EI1 (.slice a l1 cp) (List.replicate (24 + 8 * (k % 9).toNat) 0), rVar EPl rp (pQ (k % 9)), rVar ESh rw_ (a, l1, cp), rSpace s x.2, rVar ESh2 rm (b0, b1), rSl EI1 (.slice b0.1 b0.2.1 b0.2.2) w0, rSl EI1 (.slice b1.1 b1.2.1 b1.2.2) w1]) (fun x => 2 - x.1) (0, σ') ⟨by omega, rfl, q, c⟩ ?_
      rintro ⟨j, σ⟩ u h6 ⟨hj, rfl, q, c⟩ again2 hagain2
      dsimp only at *
      simp only [go_sem]
      refine brd (fun h7 => ?_) fun h7 => ?_
      · rw [plA (i := 1) c rfl, vb_some]
        have hj01 : j = 0 ∨ j = 1 := by omega
        rcases hj01 with rfl | rfl
        · rw [wr64 (n := 8 * ((0 : Nat) : Int)) (by omega), wr64 (n := 8 + 8 * ((0 : Nat) : Int)) (by omega)]
          obtain ⟨F1, c1, up⟩ := c.frame (i := 3) rfl
          refine cs.walk (root := 8) ⟨by omega, by omega⟩ c1 (q.fresh.walk (hh8 hn)) fun o σ1 v h8 M c2 ⟨ho, q1⟩ => ?_
          subst ho
          have c := (up c2).drop3 (M := M)
          simp only [go_sem, Option.isSome_some, if_true, ne_eq, not_true_eq_false, decide_false]
          refine .here ?_
          simp only [Int.natCast_zero, ixa20, vb_some, sh0 (i := 4) c rfl]
          refine cs.same (c.sl (i := 7) rfl).sl (c.sl (i := 5) rfl).sl (by simp only [Option.getD_some]; omega) ?_
          simp only [Option.getD_some, decide_true, Bool.not_true, go_sem]
          exact hagain2 (1, σ1) _ _ ⟨by omega, rfl, (q.over q1).mono (by omega), c.drop (L := [_, _, _, _, _, _, _]) (L' := [_])⟩ (by omega)
        · rw [wr64 (n := 8 * ((1 : Nat) : Int)) (by omega), wr64 (n := 8 + 8 * ((1 : Nat) : Int)) (by omega)]
          obtain ⟨F1, c1, up⟩ := c.frame (i := 3) rfl
          refine cs.walk (root := 16) ⟨by omega, by omega⟩ c1 (q.fresh.swap.walk (hh8 hn).swap) fun o σ1 v h8 M c2 ⟨ho, q1⟩ => ?_
          subst ho
          have c := (up c2).drop3 (M := M)
          simp only [go_sem, Option.isSome_some, if_true, ne_eq, not_true_eq_false, decide_false]
          refine .here ?_
          simp only [Int.natCast_one, ixa21, vb_some, sh1 (i := 4) c rfl]
          refine cs.same (c.sl (i := 7) rfl).sl (c.sl (i := 6) rfl).sl (by simp only [Option.getD_some]; omega) ?_
          simp only [Option.getD_some, decide_true, Bool.not_true, go_sem]
          exact hagain2 (2, σ1) _ _ ⟨by omega, rfl, (q.over q1.swap).mono (by omega), c.drop (L := [_, _, _, _, _, _, _]) (L' := [_])⟩ (by omega)
      · rw [wrS (by omega)]
        exact hagain (i + 1, σ, (b0, b1), w0, w1) _ _ ⟨by omega, rfl, q.mono (by omega), c⟩ (by omega)
  · refine .here ?_
    rw [plA (i := 1) c rfl, vb_some, pl2 (i := 1) c rfl, vb_some]
    have l0 := c.sllen (i := 5) rfl
    have l1' := c.sllen (i := 6) rfl
    simp only [ixa20, ixa21, vb_some, sh0 (i := 4) c rfl, sh1 (i := 4) c rfl, lnS_slice, go_sem]
    rw [wr64 (n := k % 9 - a0.2.1) (by omega), wr64 (n := k % 9 - a0.2.1 - a1.2.1) (by omega)]
    refine c.last cs.left 3 rfl (q.fresh.left (hh8 hn)) fun e σ' h6 c ⟨he, q1⟩ => ?_
    subst he
    refine ⟨sh1 (i := 4) c rfl, sh0 (i := 4) c rfl, pl2 (i := 1) c rfl, ?_⟩
    simp only [go_sem]
    rw [decide_eq_true (by omega), br_true]
    exact cs.awake fun h' g => hR h' (Gr.trans c.gr g)
end Go.En
