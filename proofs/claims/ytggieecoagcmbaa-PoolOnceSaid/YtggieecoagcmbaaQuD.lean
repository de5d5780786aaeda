/-
  Layer 34: the reference; an operation; what observers tell.
-/
import Derived.Test.YtggieecoagcmbaaQuC
import Derived.Test.YtggieecoagcmbaaQuN
namespace Go.En
open Prog Spc

variable {S : Sys} {I : Ids} {h h0 h' : Hp} {F F0 : Fp} {R : Value → Hp → Prop} {s : Value} {σ : Spc} {L : List Res} {n : Int}

theorem idx_get' {α : Type} {xs : List α} {i : Nat} (h : i < xs.length) : xs[i]? = some xs[i] := List.getElem?_eq_getElem h

theorem K_Same34 {a b : Value} {xs ys : List Int} (ha : Sl EI1 h a xs) (hb : Sl EI1 h b ys) (hl : xs.length ≤ 1000000) (hR : R (.bool (decide (xs = ys))) h) : F_simulcastref34_Same S I a b h R := by
  unfold F_simulcastref34_Same
  refine vb ha.ln (vb hb.ln ?_)
  simp only [go_sem]
  refine brd (fun h1 => ?_) fun h1 => ?_
  · rw [decide_eq_false (fun e => h1 (by rw [e]))] at hR; exact hR
  have hlen : xs.length = ys.length := by omega
  refine .by (fun (i : Nat) v h' => i ≤ xs.length ∧ v = .int .i64 i ∧ h' = h ∧ xs.take i = ys.take i) (fun i => xs.length - i) 0 ⟨by omega, rfl, rfl, rfl⟩ ?_
  rintro i v h' ⟨hi, rfl, rfl, he⟩ again hagain
  refine vb ha.ln ?_
  simp only [go_sem]
  refine brd (fun h1 => ?_) fun h1 => ?_
  · have hi1 : i < xs.length := by omega
    have hi2 : i < ys.length := by omega
    refine ha.one rfl (idx_get' hi1) rfl rfl (hb.one rfl (idx_get' hi2) rfl rfl ?_)
    simp only [go_sem]
    refine brd (fun h2 => ?_) fun h2 => ?_
    · rw [decide_eq_false (fun e => h2 (by subst e; rfl))] at hR; exact hR
    · refine hagain (i + 1) _ _ ⟨by omega, by rw [wrS (by omega)], rfl, ?_⟩ (by omega)
      rw [List.take_add_one, List.take_add_one, he, idx_get' hi1, idx_get' hi2]
      have : xs[i] = ys[i] := by omega
      rw [this]
  · have : i = xs.length := by omega
    subst this
    rw [List.take_length, hlen, List.take_length] at he
    rw [decide_eq_true he] at hR; exact hR

theorem K_refPut34 {l : Value} {xs : List Int} {v left : Int} (hl : Sl EI1 h l xs) (hlen : xs.length ≤ 1000000) (h1 : left ≤ 0 → R (.tuple #[l, .int .i64 9]) h)
    (h2 : 0 < left → ∀ w h', Cx (fun _ => False) h h' [rSl EI1 w (xs ++ [v])] → R (.tuple #[w, .int .i64 0]) h') : F_simulcastref34_Put S I l (.int .i64 v) (.int .i64 left) h R := by
  unfold F_simulcastref34_Put
  simp only [go_sem]
  refine brd (fun h3 => h1 h3) fun h3 => ?_
  refine (Cx.start0 h).bsl0 EI1 fun u h4 c => ?_
  refine c.ap 0 rfl (hl.gr c.gr) rfl rfl (by simp only [List.length_nil]; omega) (by simp only [List.length_nil]; omega) fun w h5 c => ?_
  rw [List.nil_append] at c
  refine c.app1 0 rfl v rfl rfl rfl (by simp only [List.nil_append]; omega) (by simp only [List.nil_append]; omega) fun w h6 c => ?_
  exact h2 (by omega) w _ c

theorem K_refTake34 {l : Value} {xs : List Int} (hl : Sl EI1 h l xs) (hlen : xs.length ≤ 1000000) (h1 : xs = [] → R (.tuple #[l, .int .i64 0, .int .i64 8]) h)
    (h2 : ∀ x r w h', xs = x :: r → Cx (fun _ => False) h h' [rSl EI1 w r] → R (.tuple #[w, .int .i64 x, .int .i64 0]) h') : F_simulcastref34_Take S I l h R := by
  unfold F_simulcastref34_Take
  refine vb hl.ln ?_
  simp only [go_sem]
  cases xs with
  | nil => exact brT (by simp) (h1 rfl)
  | cons x r =>
    simp only [List.length_cons] at hlen
    refine brF (by simp only [List.length_cons]; omega) ?_
    obtain ⟨w, e, hw, hb⟩ := hl.sub (n := 1) rfl (lo := some (.int .i64 1)) (hi := none) (l := 1) (u := (x :: r).length) (.inr ⟨_, _, rfl, rfl⟩) (.inl ⟨rfl, rfl⟩) (by simp) (Nat.le_refl _)
    rw [List.take_length, List.drop_one, List.tail_cons] at hw
    refine vb e ?_
    obtain ⟨ar, ao, e2, hrow, _⟩ := hl.ix (i := 0) (x := x) rfl (n := 1) rfl (k := .i64) (z := 0) rfl
    rw [e2, vb_some, hrow.ldc0 rfl, vb_some]
    refine (Cx.start0 h).bsl0 EI1 fun u h4 c => ?_
    refine ⟨(hrow.ch c.gr fun e => e).ldc0 rfl, ?_⟩
    refine c.ap 0 rfl (hw.gr c.gr) rfl rfl (by simp only [List.length_nil]; omega) (by simp only [List.length_nil]; omega) fun w h5 c => ?_
    rw [List.nil_append] at c
    exact ⟨(hrow.ch c.gr fun e => e).ldc0 rfl, h2 x r w _ rfl c⟩

structure Act34 where
  k : Int
  v : Int
def EAct : Enc Act34 := { n := 2, c := fun o => [.int .u8 o.k, .int .i64 o.v], len := fun _ => rfl, one := fun a v h => by simp only [List.mem_cons, List.not_mem_nil, or_false] at h; rcases h with rfl | rfl <;> rfl }
abbrev Act34.ok (a : Act34) : Prop := (0 ≤ a.k ∧ a.k ≤ 255) ∧ R64 a.v

structure CsY (S : Sys) (I : Ids) : Prop extends CsX S I where
  space0 : ∀ {v xs h R}, Sl EI1 h v xs → xs.length ≤ 1000000 → (∀ x ∈ xs, R64 x) → (∀ s h', Cx (fun _ => False) h h' [rSpace s (spW xs)] → R s h') → S.C I.f_simulcastlaw34_space0 [.agg #[v]] h R
  start : ∀ {n : Int} {h R}, 0 ≤ n ∧ n ≤ 255 → (∀ a l c h', Cx (fun _ => False) h h' [rSl EI1 (.slice a l c) (List.replicate (24 + 8 * (n % 9).toNat) 0)] → R (.tuple #[vP ⟨3, 24, n % 9⟩, .agg #[.slice a l c]]) h') → S.C I.f_simulcastlaw34_start [.int .u8 n] h R
  same : ∀ {a b xs ys h R}, Sl EI1 h a xs → Sl EI1 h b ys → xs.length ≤ 1000000 → R (.bool (decide (xs = ys))) h → S.C I.f_simulcastref34_Same [a, b] h R
  rput : ∀ {l xs h R} {v left : Int}, Sl EI1 h l xs → xs.length ≤ 1000000 → (left ≤ 0 → R (.tuple #[l, .int .i64 9]) h) → (0 < left → ∀ w h', Cx (fun _ => False) h h' [rSl EI1 w (xs ++ [v])] → R (.tuple #[w, .int .i64 0]) h') → S.C I.f_simulcastref34_Put [l, .int .i64 v, .int .i64 left] h R
  rtake : ∀ {l xs h R}, Sl EI1 h l xs → xs.length ≤ 1000000 → (xs = [] → R (.tuple #[l, .int .i64 0, .int .i64 8]) h) → (∀ x r w h', xs = x :: r → Cx (fun _ => False) h h' [rSl EI1 w r] → R (.tuple #[w, .int .i64 x, .int .i64 0]) h') → S.C I.f_simulcastref34_Take [l] h R

theorem hh8 {n : Int} (h : 0 ≤ n ∧ n ≤ 8) : QHyp n 8 16 := ⟨h, .inl ⟨rfl, rfl⟩⟩
theorem QS.vlen {r r' : Int} {σ0 : Spc} {vs vs' : List Int} {c : Nat} (q : QS n σ0 σ r vs r' vs' c) : (vs.length + vs'.length : Int) ≤ n := by
  obtain ⟨m, fr, out, ns, ns', S, P, q1, q2, hN, hnd, hlen⟩ := q
  have := P.out1
  simp only at this
  rw [q1.len, q2.len]; omega

/-- an operation agrees with the reference -/
theorem K_done34 {l : Value} {vs : List Int} {a : Act34} (cs : CsY S I) (hn : 0 ≤ n ∧ n ≤ 8) (q : QS n σ σ 8 vs 16 [] 0) (hl : σ.pu.length + 30 ≤ big) (ha : a.ok) (c : Cx F h h [rSpace s σ]) (hs : Sl EI1 h l vs) (hd : ∀ r, blk l = some r → ¬ F r)
    (hA : ∀ σ' h', QS n σ σ' 8 vs 16 [] 20 → Cx F h h' [rSpace s σ'] → R (.tuple #[l, .bool true]) h')
    (hB : ∀ σ' w ws h', QS n σ σ' 8 ws 16 [] 20 → Cx F h h' [rSpace s σ', rSl EI1 w ws] → R (.tuple #[w, .bool true]) h') : F_simulcastlaw34_done S I s (vP (pQ n)) l (.agg ⟨EAct.c a⟩) h R := by
  unfold F_simulcastlaw34_done
  have hvl := q.vlen
  simp only [List.length_nil] at hvl
  refine c.nw EPl (pQ n) rfl fun rp h1 c => ?_
  refine c.nw EAct a rfl fun ra h1 c => ?_
  refine (c.va (i := 2) rfl).fld (j := 0) rfl ?_
  rw [bin_rem (by omega), vb_some, Int.tmod_eq_emod_of_nonneg ha.1.1]
  simp only [go_sem]
  refine brd (fun h3 => ?_) fun h3 => ?_
  · rw [plA (i := 1) c rfl]
    simp only [go_sem]
    have e1 : ldc (.pointer (some ⟨ra, 0 + 1, none⟩)) h1 = some (.int .i64 a.v) := (c.va (i := 2) rfl).row.ldc (j := 1) rfl
    rw [e1, vb_some]
    refine c.last (cs.qput ⟨by omega, by omega⟩ ha.2) 0 rfl (q.put (hh8 hn) hl ha.2) fun e σ' h4 c hq => ?_
    have e2 : ldc (.pointer (some ⟨ra, 0 + 1, none⟩)) h4 = some (.int .i64 a.v) := (c.va (i := 2) rfl).row.ldc (j := 1) rfl
    rw [e2, vb_some, pl2 (i := 1) c rfl, vb_some, hs.ln, vb_some]
    simp only [go_sem]
    rw [wr64 (n := n - vs.length) (by omega)]
    have hs4 := hs.ch c.gr hd
    refine cs.rput hs4 (by omega) (fun hle => ?_) fun hlt w h5 c5 => ?_
    · rw [if_neg (by simp only [List.length_nil]; omega)] at hq
      simp only [go_sem, hq.1, decide_true]
      exact hA σ' h4 hq.2 (c.one 0 rfl)
    · rw [if_pos (by simp only [List.length_nil]; omega)] at hq
      simp only [go_sem, hq.1, decide_true]
      have c := c.frame0 c5
      exact hB σ' w _ h5 hq.2 (((c.front 3 rfl).front 1 rfl).drop (L := [_, _]))
  · rw [plA (i := 1) c rfl]
    simp only [go_sem]
    refine c.last (cs.qtake ⟨by omega, by omega⟩) 0 rfl (q.take (hh8 hn) hl) fun e σ' h4 c hq => ?_
    have hs4 := hs.ch c.gr hd
    simp only [go_sem]
    refine cs.rtake hs4 (by omega) (fun hnil => ?_) fun x r w h5 hcons c5 => ?_
    · subst hnil
      obtain ⟨rfl, hq⟩ := hq
      simp only [go_sem, decide_true]
      refine .here ?_
      try simp only [go_sem, decide_true]
      exact hA σ' h4 hq (c.one 0 rfl)
    · subst hcons
      obtain ⟨rfl, hq⟩ := hq
      simp only [go_sem, decide_true]
      refine .here ?_
      try simp only [go_sem, decide_true]
      have c := c.frame0 c5
      exact hB σ' w _ h5 hq (((c.front 3 rfl).front 1 rfl).drop (L := [_, _]))

/-- the observers agree -/
theorem K_tells34 {l : Value} {vs : List Int} (cs : CsY S I) (hn : 0 ≤ n ∧ n ≤ 8) (q : QS n σ σ 8 vs 16 [] 0) (c : Cx F h h [rSpace s σ]) (hs : Sl EI1 h l vs) (hd : ∀ r, blk l = some r → ¬ F r)
    (hR : ∀ σ' h', QS n σ σ' 8 vs 16 [] 0 → Cx F h h' [rSpace s σ'] → R (.bool true) h') : F_simulcastlaw34_tells S I s (vP (pQ n)) l h R := by
  unfold F_simulcastlaw34_tells
  have hvl := q.vlen
  simp only [List.length_nil] at hvl
  refine c.nw EPl (pQ n) rfl fun rp h1 c => ?_
  rw [plA (i := 1) c rfl, vb_some]
  obtain ⟨F1, c1, up⟩ := c.frame (i := 0) rfl
  refine cs.walk ⟨by omega, by omega⟩ c1 (q.walk (hh8 hn)) fun o σ1 v h2 M c2 ⟨ho, q1⟩ => ?_
  subst ho
  have c := (up c2).sub (L' := [rSpace s σ1, rVar EPl rp (pQ n), rSl EI1 v vs]) (by simp [Option.getD])
  simp only [go_sem, Option.isSome_some, if_true]
  refine c.last (cs.qfirst ⟨by omega, by omega⟩) 0 rfl (q1.fresh.first (hh8 hn)) fun e σ2 h3 c ⟨he, q2⟩ => ?_
  subst he
  simp only [go_sem]
  refine .here ?_
  simp only [decide_false, go_sem, ne_eq, not_true_eq_false]
  refine cs.same (c.sl (i := 2) rfl).sl (hs.ch c.gr hd) (by omega) ?_
  simp only [decide_true, Bool.not_true, go_sem]
  rw [hs.ln, vb_some]
  refine c.last (cs.qlen ⟨by omega, by omega⟩) 0 rfl (q2.fresh.lenw (hh8 hn)) fun e σ3 h4 c ⟨he, q3⟩ => ?_
  subst he
  simp only [go_sem, ne_eq, not_true_eq_false, decide_false]
  rw [plA (i := 1) c rfl, vb_some, pl2 (i := 1) c rfl, vb_some]
  simp only [go_sem]
  refine c.last cs.left 0 rfl (q3.fresh.left (hh8 hn)) fun e σ4 h5 c ⟨he, q4⟩ => ?_
  subst he
  refine ⟨pl2 (i := 1) c rfl, ?_⟩
  rw [wr64 (n := n - vs.length) (by omega)]
  simp only [go_sem, List.length_nil, Int.natCast_zero, Int.sub_zero, ne_eq, not_true_eq_false, decide_false, hs.ln]
  have q5 : QS n σ σ4 8 vs 16 [] 0 := ((q1.over q2).over q3).over q4
  have hs5 := hs.ch c.gr hd
  have fin := hR σ4 h5 q5 (c.one 0 rfl)
  cases vs with
  | nil =>
    refine brT (by simp) (.here ?_)
    simp only [qHead, decide_true, go_sem]
    exact fin
  | cons x r =>
    refine brF (by simp only [List.length_cons]; omega) (.here ?_)
    simp only [qHead, decide_true, go_sem]
    refine hs5.one rfl (i := 0) (x := x) rfl rfl rfl ?_
    simp only [go_sem, decide_true]
    exact fin
end Go.En
