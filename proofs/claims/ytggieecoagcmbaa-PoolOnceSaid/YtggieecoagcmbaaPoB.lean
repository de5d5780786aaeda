/-
  Layer 31: the laws PoolTurns and PoolOnce.
-/
import Derived.Test.YtggieecoagcmbaaPoA
namespace Go.En
open Prog Spc

variable {S : Sys} {I : Ids} {h h0 h' : Hp} {F F0 : Fp} {R : Value → Hp → Prop} {s : Value} {σ : Spc} {L : List Res} {n : Int}

structure CsP1 (S : Sys) (I : Ids) : Prop extends CsX S I where
  start31 : ∀ {n : Int} {h R}, 0 ≤ n ∧ n ≤ 255 → (∀ a l c h', Cx (fun _ => False) h h' [rSl EI1 (.slice a l c) (List.replicate (8 + 8 * (n % 9).toNat) 0)] → R (.tuple #[vP ⟨3, 8, n % 9⟩, .agg #[.slice a l c]]) h') → S.C I.f_simulcastlaw31_start [.int .u8 n] h R
  awake31 : ∀ {h R}, (∀ h', Gr h h' → R (.bool true) h') → S.C I.f_simulcastlaw31_awake [] h R

theorem mn_int (a b : Int) : mn (.int .i64 a) (.int .i64 b) = some (.int .i64 (min a b)) := by
  simp only [mn]; rw [Int.min_def]; split <;> split <;> first | rfl | (congr 2; omega)
/-- the first nodes of the pool -/
def fstN (t : Nat) : List Int := (List.range t).map fun (j : Nat) => 8 + 8 * (j : Int)
theorem fstN_len (t : Nat) : (fstN t).length = t := by simp [fstN]
theorem fstN_get {t i : Nat} (h : i < t) : (fstN t)[i]? = some (8 + 8 * (i : Int)) := by simp [fstN, h]
theorem fstN_snoc (t : Nat) : fstN (t + 1) = fstN t ++ [8 + 8 * (t : Int)] := by simp [fstN, List.range_succ]
theorem fstN_take {t i : Nat} (h : i ≤ t) : (fstN t).take i = fstN i := by
  unfold fstN
  rw [← List.map_take, List.take_range, Nat.min_eq_left h]
theorem fstN_mem {t : Nat} {x : Int} (h : x ∈ fstN t) : ∃ j : Nat, j < t ∧ x = 8 + 8 * (j : Int) := by
  simp only [fstN, List.mem_map, List.mem_range] at h
  obtain ⟨j, hj, rfl⟩ := h
  exact ⟨j, hj, rfl⟩

theorem L_PoolTurns {k m : Int} (cs : CsP1 S I) (hk : 0 ≤ k ∧ k ≤ 255) (hm : 0 ≤ m ∧ m ≤ 255) (hR : ∀ h', Gr h h' → R (.bool true) h') : F_simulcastlaw31_PoolTurns S I (.int .u8 k) (.int .u8 m) h R := by
  unfold F_simulcastlaw31_PoolTurns
  have hn : 0 ≤ k % 9 ∧ k % 9 ≤ 8 := by omega
  refine cs.start31 hk fun a l1 cp h1 c0 => ?_
  have c := (Cx.start0 h).frame0 c0
  simp only [go_sem]
  refine c.nw EPl ⟨0, 0, 0⟩ rfl fun rp h1 c => ?_
  refine c.nw ESh (none, 0, 0) rfl fun rw_ h1 c => ?_
  refine c.sto 1 rfl (p31 (k % 9)) rfl rfl fun h1 c => ?_
  refine c.sto (n := 1) 2 rfl (a, l1, cp) rfl rfl fun h1 c => ?_
  rw [(c.va (i := 2) rfl).whole (n := 1) rfl, vb_some]
  refine cs.known (c.sl (i := 0) rfl).sl (by rw [List.length_replicate]; omega) fun mm h2 c2 => ?_
  have c := c.frame0 c2
  obtain ⟨F, c3, up⟩ := c.frame (i := 3) rfl
  refine cs.new (knW_nodup _) (knW_val rep_R64) c3 fun s h3 c4 => ?_
  have c := up c4
  obtain ⟨q, hD⟩ := PS.init (p := p31 (k % 9)) (k := 8 + 8 * (k % 9).toNat) ⟨by simp, by simp, hn.1, by simp only; omega, by simp, by simp only; omega, .inr (.inl (by simp))⟩ ⟨by simp only; omega, by simp only; omega⟩
  have hl0 : (newS (knW (List.replicate (8 + 8 * (k % 9).toNat) 0))).pu.length = 0 := rfl
  have c := c.nilSl EI1
  change PS _ _ (newS (knW (List.replicate (8 + 8 * (k % 9).toNat) 0))) (newS (knW (List.replicate (8 + 8 * (k % 9).toNat) 0))) [] 0 0 at q
  generalize newS (knW (List.replicate (8 + 8 * (k % 9).toNat) 0)) = σ0 at *
  have em : (m : Int).tmod 9 = m % 9 := Int.tmod_eq_emod_of_nonneg hm.1
  rw [bin_rem (by omega), em]
  refine Lp2.by (fun (x : Nat × Spc × Value) v0 v1 h' => x.1 ≤ (m % 9).toNat ∧ v0 = x.2.2 ∧ v1 = .int .i64 x.1 ∧ PS (p31 (k % 9)) (d31 (8 + 8 * (k % 9).toNat)) σ0 x.2.1 [] (min x.1 (k % 9).toNat : Nat) (40 * x.1) ∧
    Cx (fun _ => False) h h' [rSl EI1 (.slice a l1 cp) (List.replicate (8 + 8 * (k % 9).toNat) 0), rVar EPl rp (p31 (k % 9)), rVar ESh rw_ (a, l1, cp), rMp .i64 mW (.map (some mm)) (knW (List.replicate (8 + 8 * (k % 9).toNat) 0)), rSpace s x.2.1, rSl EI1 x.2.2 (fstN (min x.1 (k % 9).toNat))])
    (fun x => (m % 9).toNat - x.1) (0, σ0, _) ⟨by omega, rfl, rfl, by simpa using q, by simpa [fstN] using c⟩ ?_
  rintro ⟨i, σ, w⟩ v0 v1 h4 ⟨hi, e1, rfl, q, c⟩ again hagain
  dsimp only at *
  subst e1
  have hql := q.len
  have hlen := fstN_len (min i (k % 9).toNat)
  simp only [go_sem]
  rw [wr64 (n := m % 9) (by omega)]
  refine brd (fun h5 => ?_) fun h5 => ?_
  · refine .here ?_
    rw [plA (i := 1) c rfl, vb_some]
    refine c.last cs.take 4 rfl (q.fresh.take hD (by unfold big; omega)) fun r σ' h6 c hq => ?_
    simp only [go_sem]
    rw [wrS (by omega)]
    rcases hq with ⟨x, fr', e, _⟩ | ⟨_, ho, rfl, q1⟩ | ⟨_, ho, rfl, q1⟩
    · cases e
    · simp only at ho
      rw [decide_eq_true rfl, br_true]
      refine c.app1 5 rfl (8 + 8 * ((min i (k % 9).toNat : Nat) : Int)) rfl rfl rfl (by omega) (by omega) fun w' h7 c => ?_
      rw [← fstN_snoc] at c
      have e2 : min i (k % 9).toNat + 1 = min (i + 1) (k % 9).toNat := by omega
      refine hagain (i + 1, σ', w') _ _ _ ⟨by omega, rfl, rfl, ?_, by rw [← e2]; exact c⟩ (by omega)
      have := (q.over q1).mono (c' := 40 * (i + 1)) (by omega)
      rw [← e2]; exact_mod_cast this
    · simp only at ho
      rw [decide_eq_false (by simp), br_false]
      have e2 : min i (k % 9).toNat = min (i + 1) (k % 9).toNat := by omega
      refine hagain (i + 1, σ', v0) _ _ _ ⟨by omega, rfl, rfl, ?_, by rw [← e2]; exact c⟩ (by omega)
      have := (q.over q1).mono (c' := 40 * (i + 1)) (by omega)
      rw [← e2]; exact this
  · have ei : i = (m % 9).toNat := by omega
    generalize ht : min i (k % 9).toNat = t at *
    have ht8 : t ≤ 8 := by omega
    have htk : t ≤ (k % 9).toNat := by omega
    -- the nodes are given back
    refine Lp1.by (fun (x : Nat × Spc) u h' => x.1 ≤ t ∧ u = .int .i64 x.1 ∧ PS (p31 (k % 9)) (d31 (8 + 8 * (k % 9).toNat)) σ0 x.2 (fstN x.1).reverse t (400 + 40 * x.1) ∧
      Cx (fun _ => False) h h' [rSl EI1 (.slice a l1 cp) (List.replicate (8 + 8 * (k % 9).toNat) 0), rVar EPl rp (p31 (k % 9)), rVar ESh rw_ (a, l1, cp), rMp .i64 mW (.map (some mm)) (knW (List.replicate (8 + 8 * (k % 9).toNat) 0)), rSpace s x.2, rSl EI1 v0 (fstN t)])
      (fun x => t - x.1) (0, σ) ⟨by omega, rfl, by simpa [fstN] using q.mono (by omega), c⟩ ?_
    rintro ⟨j, σ⟩ u h6 ⟨hj, rfl, q, c⟩ again hagain
    dsimp only at *
    have hql := q.len
    rw [(c.sl (i := 5) rfl).sl.ln, hlen]
    simp only [go_sem]
    refine brd (fun h7 => ?_) fun h7 => ?_
    · have hj' : j < t := by omega
      rw [plA (i := 1) c rfl, vb_some]
      refine (c.sl (i := 5) rfl).sl.one rfl (fstN_get hj') rfl rfl ?_
      refine c.last (cs.give ⟨by omega, by omega⟩) 4 rfl (q.fresh.give hD (by unfold big; omega) (x := 8 + 8 * (j : Int)) (i := j) rfl ⟨by omega, by omega⟩ (fun hx => by
        rw [List.mem_reverse] at hx
        obtain ⟨j', hj', e⟩ := fstN_mem hx
        omega)) fun r σ' h8 c ⟨e, q1⟩ => ?_
      subst e
      simp only [go_sem, ne_eq, not_true_eq_false, decide_false]
      rw [wrS (by omega)]
      refine hagain (j + 1, σ') _ _ ⟨by omega, rfl, ?_, c⟩ (by omega)
      rw [fstN_snoc, List.reverse_append]
      exact (q.over q1).mono (by omega)
    · have ej : j = t := by omega
      subst ej
      rw [wr64 (n := (j : Int) - 1) (by omega)]
      -- and taken again
      refine Lp1.by (fun (x : Nat × Spc) u h' => x.1 ≤ j ∧ u = .int .i64 ((x.1 : Int) - 1) ∧ PS (p31 (k % 9)) (d31 (8 + 8 * (k % 9).toNat)) σ0 x.2 (fstN x.1).reverse j (800 + 40 * (j - x.1)) ∧
        Cx (fun _ => False) h h' [rSl EI1 (.slice a l1 cp) (List.replicate (8 + 8 * (k % 9).toNat) 0), rVar EPl rp (p31 (k % 9)), rVar ESh rw_ (a, l1, cp), rMp .i64 mW (.map (some mm)) (knW (List.replicate (8 + 8 * (k % 9).toNat) 0)), rSpace s x.2, rSl EI1 v0 (fstN j)])
        (fun x => x.1) (j, σ) ⟨by omega, rfl, q.mono (by omega), c⟩ ?_
      rintro ⟨g, σ⟩ u h8 ⟨hg, rfl, q, c⟩ again hagain
      dsimp only at *
      have hql := q.len
      simp only [go_sem]
      refine brd (fun h9 => ?_) fun h9 => ?_
      · obtain ⟨g, rfl⟩ : ∃ g', g = g' + 1 := ⟨g - 1, by omega⟩
        rw [plA (i := 1) c rfl, vb_some]
        refine c.last cs.take 4 rfl (q.fresh.take hD (by unfold big; omega)) fun r σ' h10 c hq => ?_
        have hq' : r = (8 + 8 * (g : Int), 0) ∧ PS (p31 (k % 9)) (d31 (8 + 8 * (k % 9).toNat)) σ σ' (fstN g).reverse j 2 := by
          rw [fstN_snoc, List.reverse_append] at hq
          rcases hq with ⟨x, fr', e, e2, q1⟩ | ⟨e, _⟩ | ⟨e, _⟩
          · simp only [List.reverse_singleton, List.singleton_append, List.cons.injEq] at e
            rw [e2, ← e.1, e.2]; exact ⟨rfl, q1⟩
          · simp at e
          · simp at e
        obtain ⟨rfl, q1⟩ := hq'
        simp only [go_sem]
        refine .here ?_
        simp only [go_sem, ne_eq, not_true_eq_false, decide_false]
        refine (c.sl (i := 5) rfl).sl.one rfl (i := g) (fstN_get (by omega)) (by omega) rfl ?_
        simp only [go_sem, ne_eq, not_true_eq_false, decide_false]
        rw [wr64 (n := ((g + 1 : Nat) : Int) - 1 - 1) (by omega)]
        exact hagain (g, σ') _ _ ⟨by omega, by congr 1; omega, (q.over q1).mono (by omega), c⟩ (by omega)
      · have eg : g = 0 := by omega
        subst eg
        refine .here ?_
        rw [plA (i := 1) c rfl, vb_some, pl2 (i := 1) c rfl, vb_some, bin_sub, vb_some]
        rw [wr64 (n := k % 9 - j) (by omega)]
        refine c.last cs.left 4 rfl (q.fresh.left hD) fun r σ' h10 c ⟨e, q1⟩ => ?_
        subst e
        refine ⟨pl2 (i := 1) c rfl, ?_⟩
        rw [pl2 (i := 1) c rfl]
        simp only [go_sem, fstN_len, List.length_reverse, mn_int]
        rw [decide_eq_true (show (((0 : Nat) : Int) + k % 9 - (j : Int) = k % 9 - (j : Int)) by omega), br_true, decide_eq_true (by omega), br_true]
        exact cs.awake31 fun h' g => hR h' (Gr.trans c.gr g)

/-- the beginning of a slice of a context in its place -/
theorem Cx.takeSl {α : Type} {E : Enc α} {v : Value} {xs : List α} (c : Cx F0 h0 h L) (i : Nat) (hi : L[i]? = some (rSl E v xs)) {n : Nat} {kk : IntKind} {z : Int} {u : Nat} (hz : z = u) (h2 : u ≤ xs.length) (hn : n = E.n) {K : Value → Prop}
    (hK : ∀ a l cp, Cx F0 h0 h (L.set i (rSl E (.slice a l cp) (xs.take u))) → K (.slice a l cp)) : Vb (slc n v none (some (.int kk z)) none) K := by
  obtain ⟨F, ⟨o, hf⟩, up⟩ := c.upd hi
  obtain ⟨w, e, o', hb⟩ := o.sub (n := n) hn (hi := some (.int kk z)) (u := u) (.inr ⟨_, _, rfl, hz⟩) h2
  obtain ⟨a, l, cp, rfl⟩ := ow_slice o'
  exact vb e (hK a l cp (up (F' := F) ⟨o', fun q => by rw [hf, hb]⟩ (.refl _ _)))
theorem p31_good {k : Int} (hn : 0 ≤ k % 9 ∧ k % 9 ≤ 8) : (p31 (k % 9)).good := ⟨by simp, by simp, hn.1, by simp only; omega, by simp, by simp only; omega, .inr (.inl (by simp))⟩

/-- what is held and what is free are all that was handed out -/
structure Held (out : Int) (fr hs : List Int) : Prop where
  hN : ∀ x ∈ hs, ∃ i, 0 ≤ i ∧ i < out ∧ x = 8 + 8 * i
  ap : ∀ x ∈ hs, x ∉ fr
  nd : hs.Nodup
  sz : (fr.length + hs.length : Int) = out

structure Act31 where
  k : Int
  n : Int
def EAct31 : Enc Act31 := { n := 2, c := fun o => [.int .u8 o.k, .int .u8 o.n], len := fun _ => rfl, one := fun a v h => by simp only [List.mem_cons, List.not_mem_nil, or_false] at h; rcases h with rfl | rfl <;> rfl }
abbrev Act31.ok (a : Act31) : Prop := (0 ≤ a.k ∧ a.k ≤ 255) ∧ 0 ≤ a.n ∧ a.n ≤ 255

theorem L_PoolOnce {k cu : Int} {l : Value} {acts : List Act31} (cs : CsP1 S I) (hk : 0 ≤ k ∧ k ≤ 255) (hl : Sl EAct31 h l acts) (hok : ∀ a ∈ acts, a.ok) (hcu : 0 ≤ cu ∧ cu ≤ 255) (hR : ∀ h', Gr h h' → R (.bool true) h') :
    F_simulcastlaw31_PoolOnce S I (.int .u8 k) l (.int .u8 cu) h R := by
  unfold F_simulcastlaw31_PoolOnce
  refine vb hl.ln ?_
  simp only [go_sem]
  refine brd (fun _ => cs.awake31 hR) fun hlen => ?_
  have hn : 0 ≤ k % 9 ∧ k % 9 ≤ 8 := by omega
  refine cs.start31 hk fun a l1 cp h1 c0 => ?_
  have c := (Cx.start0 h).frame0 c0
  simp only [go_sem]
  refine c.nw EPl ⟨0, 0, 0⟩ rfl fun rp h1 c => ?_
  refine c.nw ESh (none, 0, 0) rfl fun rw_ h1 c => ?_
  refine c.sto 1 rfl (p31 (k % 9)) rfl rfl fun h1 c => ?_
  refine c.sto (n := 1) 2 rfl (a, l1, cp) rfl rfl fun h1 c => ?_
  rw [(c.va (i := 2) rfl).whole (n := 1) rfl, vb_some]
  refine cs.known (c.sl (i := 0) rfl).sl (by rw [List.length_replicate]; omega) fun mm h2 c2 => ?_
  have c := c.frame0 c2
  obtain ⟨F, c3, up⟩ := c.frame (i := 3) rfl
  refine cs.new (knW_nodup _) (knW_val rep_R64) c3 fun s h3 c4 => ?_
  have c := up c4
  obtain ⟨q, hD⟩ := PS.init (p := p31 (k % 9)) (k := 8 + 8 * (k % 9).toNat) (p31_good hn) ⟨by simp only; omega, by simp only; omega⟩
  have hl0 : (newS (knW (List.replicate (8 + 8 * (k % 9).toNat) 0))).pu.length = 0 := rfl
  change PS _ _ (newS (knW (List.replicate (8 + 8 * (k % 9).toNat) 0))) (newS (knW (List.replicate (8 + 8 * (k % 9).toNat) 0))) [] 0 0 at q
  generalize newS (knW (List.replicate (8 + 8 * (k % 9).toNat) 0)) = σ0 at *
  refine c.mmk .i64 mB fun mh h4 c => ?_
  rw [plA (i := 1) c rfl, vb_some]
  refine c.last cs.left 4 rfl (q.fresh.left hD) fun r σ1 h5 c ⟨e, q1⟩ => ?_
  subst e
  have q := q.over q1
  have c := c.nilSl EI1
  refine vb hl.ln ?_
  simp only [go_sem]
  have ec : (cu : Int).tmod ((acts.length : Int) + 1) = cu % (acts.length + 1) := Int.tmod_eq_emod_of_nonneg hcu.1
  rw [wr64 (n := cu) (by omega), wrS (by omega)]
  rw [bin_rem (by omega)]
  simp only [go_sem]
  have ec : (cu : Int).tmod ((acts.length + 1 : Nat) : Int) = cu % (acts.length + 1 : Nat) := Int.tmod_eq_emod_of_nonneg hcu.1
  rw [ec]
  have hc0 : 0 ≤ cu % (acts.length + 1 : Nat) := Int.emod_nonneg _ (by omega)
  have hc1 : cu % (acts.length + 1 : Nat) < (acts.length + 1 : Nat) := Int.emod_lt_of_pos _ (by omega)
  obtain ⟨cut, hcut⟩ := Int.eq_ofNat_of_zero_le hc0
  rw [hcut]
  rw [hcut] at hc1
  have hc1 : cut ≤ acts.length := by omega
  clear hcut hc0 ec
  refine Lp5.by (fun (x : Nat × Spc × (Value × List Int) × List Int × Int × (Spc × Int)) v0 v1 v2 v3 v4 h' => x.1 ≤ acts.length ∧ v0 = x.2.2.1.1 ∧ v1 = .int .i64 (k % 9 - x.2.2.1.2.length) ∧ v4 = .int .i64 x.1 ∧
      (x.1 ≤ cut ∧ v2 = .int .i64 0 ∧ v3 = .int .i64 0 ∧ PS (p31 (k % 9)) (d31 (8 + 8 * (k % 9).toNat)) σ0 x.2.1 x.2.2.2.1 x.2.2.2.2.1 (40 * x.1) ∨
       cut < x.1 ∧ v2 = .int .i64 x.2.2.2.2.2.1.pu.length ∧ v3 = .int .i64 x.2.2.2.2.2.2 ∧ x.2.2.2.2.2.1.pu.length ≤ 40 * x.1 ∧ PS (p31 (k % 9)) (d31 (8 + 8 * (k % 9).toNat)) x.2.2.2.2.2.1 x.2.1 x.2.2.2.1 x.2.2.2.2.1 (40 * x.1) ∧
         ∃ fr1 out1, PS (p31 (k % 9)) (d31 (8 + 8 * (k % 9).toNat)) x.2.2.2.2.2.1 x.2.2.2.2.2.1 fr1 out1 0 ∧ x.2.2.2.2.2.2 = fr1.length + k % 9 - out1) ∧
      Held x.2.2.2.2.1 x.2.2.2.1 x.2.2.1.2 ∧ ∃ hs : List (Int × Bool), (∀ b, (lookA hs b).getD false = decide (b ∈ x.2.2.1.2)) ∧
    Cx (fun _ => False) h h' [rSl EI1 (.slice a l1 cp) (List.replicate (8 + 8 * (k % 9).toNat) 0), rVar EPl rp (p31 (k % 9)), rVar ESh rw_ (a, l1, cp), rMp .i64 mW (.map (some mm)) (knW (List.replicate (8 + 8 * (k % 9).toNat) 0)), rSpace s x.2.1, rMp .i64 mB (.map (some mh)) hs, rSl EI1 x.2.2.1.1 x.2.2.1.2])
    (fun x => acts.length - x.1) (0, σ1, (_, []), [], 0, (σ1, 0)) ⟨by omega, rfl, by simp, rfl, .inl ⟨by omega, rfl, rfl, q⟩, ⟨fun x hx => (by cases hx), fun x hx => (by cases hx), List.nodup_nil, rfl⟩, [], fun b => by simp [lookA], c⟩ ?_
  rintro ⟨i, σ, ⟨w, held⟩, fr, out, σm, lm⟩ v0 v1 v2 v3 v4 h6 ⟨hi, e1, rfl, rfl, hM, hH, hs, hhs, c⟩ again hagain
  dsimp only at *
  subst e1
  have hq : PS (p31 (k % 9)) (d31 (8 + 8 * (k % 9).toNat)) σ σ fr out 0 ∧ σ.pu.length ≤ 80 * i := by
    rcases hM with ⟨_, _, _, q⟩ | ⟨_, _, _, hm, q, _⟩
    · have := q.len; exact ⟨q.fresh, by omega⟩
    · have := q.len; exact ⟨q.fresh, by omega⟩
  obtain ⟨q, hql⟩ := hq
  have hb := q.bnd
  simp only at hb
  refine vb hl.ln ?_
  simp only [go_sem]
  refine brd (fun h7 => ?_) fun h7 => ?_
  · have hi' : i < acts.length := by omega
    have hact := hok _ (List.getElem_mem hi')
    have hla := fun {h' : Hp} (g : Gr h h') => hl.gr g
    have hsz := hH.sz
    -- the mark
    refine Jn2.at (fun a2 a3 h' => ∃ σ' σm' lm', ((i + 1 ≤ cut ∧ a2 = .int .i64 0 ∧ a3 = .int .i64 0 ∧ PS (p31 (k % 9)) (d31 (8 + 8 * (k % 9).toNat)) σ0 σ' fr out (40 * i)) ∨
        (cut < i + 1 ∧ a2 = .int .i64 σm'.pu.length ∧ a3 = .int .i64 lm' ∧ σm'.pu.length ≤ 40 * i ∧ PS (p31 (k % 9)) (d31 (8 + 8 * (k % 9).toNat)) σm' σ' fr out (40 * i) ∧
         ∃ fr1 out1, PS (p31 (k % 9)) (d31 (8 + 8 * (k % 9).toNat)) σm' σm' fr1 out1 0 ∧ lm' = fr1.length + k % 9 - out1)) ∧
      Cx (fun _ => False) h h' [rSl EI1 (.slice a l1 cp) (List.replicate (8 + 8 * (k % 9).toNat) 0), rVar EPl rp (p31 (k % 9)), rVar ESh rw_ (a, l1, cp), rMp .i64 mW (.map (some mm)) (knW (List.replicate (8 + 8 * (k % 9).toNat) 0)), rSpace s σ', rMp .i64 mB (.map (some mh)) hs, rSl EI1 v0 held]) ?_ ?_
    · refine brd (fun h8 => ?_) fun h8 => ?_
      · have hic : i = cut := by omega
        rcases hM with ⟨_, rfl, rfl, q0⟩ | ⟨h9, _⟩
        · rw [plA (i := 1) c rfl, vb_some]
          refine c.last (cs.mark (s := s)) 4 rfl (Q := fun (z : Int) σ' => z = (σ.pu.length : Int) ∧ σ' = σ) ⟨rfl, rfl⟩ fun z σ' h9 c ⟨e1, e2⟩ => ?_
          subst e1 e2
          refine ⟨plA (i := 1) c rfl, ?_⟩
          refine c.last cs.left 4 rfl (q.left hD) fun r σ2 h10 c ⟨e, q1⟩ => ?_
          subst e
          have := q0.len
          exact ⟨σ2, σ', _, .inr ⟨by omega, rfl, rfl, by omega, (q.over q1).mono (by omega), fr, out, q, rfl⟩, c⟩
        · omega
      · rcases hM with ⟨h9, rfl, rfl, q0⟩ | ⟨h9, rfl, rfl, hm, q0, hx⟩
        · exact ⟨σ, σ, 0, .inl ⟨by omega, rfl, rfl, q0⟩, c⟩
        · exact ⟨σ, σm, lm, .inr ⟨by omega, rfl, rfl, hm, q0, hx⟩, c⟩
    rintro a2 a3 h8 ⟨σ', σm', lm', hM, c⟩
    clear q hql
    have hq : PS (p31 (k % 9)) (d31 (8 + 8 * (k % 9).toNat)) σ' σ' fr out 0 ∧ σ'.pu.length ≤ 80 * i := by
      rcases hM with ⟨_, _, _, q⟩ | ⟨_, _, _, hm, q, _⟩
      · have := q.len; exact ⟨q.fresh, by omega⟩
      · have := q.len; exact ⟨q.fresh, by omega⟩
    obtain ⟨q, hql⟩ := hq
    refine .here ?_
    refine (hla c.gr).fld rfl (idx_get' hi') rfl (j := 0) rfl ?_
    rw [bin_rem (by omega), vb_some, Int.tmod_eq_emod_of_nonneg hact.1.1]
    simp only [go_sem]
    -- the end of a round
    have fin : ∀ (σ2 : Spc) (w : Value) (held2 : List Int) (fr2 : List Int) (out2 : Int) (hs2 : List (Int × Bool)) (h9 : Hp), PS (p31 (k % 9)) (d31 (8 + 8 * (k % 9).toNat)) σ' σ2 fr2 out2 10 → Held out2 fr2 held2 → (∀ b, (lookA hs2 b).getD false = decide (b ∈ held2)) →
        Cx (fun _ => False) h h9 [rSl EI1 (.slice a l1 cp) (List.replicate (8 + 8 * (k % 9).toNat) 0), rVar EPl rp (p31 (k % 9)), rVar ESh rw_ (a, l1, cp), rMp .i64 mW (.map (some mm)) (knW (List.replicate (8 + 8 * (k % 9).toNat) 0)), rSpace s σ2, rMp .i64 mB (.map (some mh)) hs2, rSl EI1 w held2] →
        Vb (lda 3 (at0 rp) h9) fun v128 => S.C I.f_pool_Pool_Left [v128, s] h9 fun v130 h14 => Vb (bin .neq v130 (.int .i64 (k % 9 - held2.length))) fun v132 => Br v132 (R (.bool false) h14) (again w (.int .i64 (k % 9 - held2.length)) a2 a3 (.int .i64 (IntKind.i64.wrap ((i : Int) + 1))) h14) := by
      intro σ2 w held2 fr2 out2 hs2 h9 q2 hH2 hhs2 c
      rw [plA (i := 1) c rfl, vb_some]
      refine c.last cs.left 4 rfl (q2.fresh.left hD) fun r σ3 h10 c ⟨e, q3⟩ => ?_
      subst e
      have hsz2 := hH2.sz
      simp only [go_sem]
      rw [decide_eq_false (by first | omega | (dsimp only; omega)), br_false, wrS (by omega)]
      have q23 := q2.over q3
      refine hagain (i + 1, σ3, (w, held2), fr2, out2, (σm', lm')) _ _ _ _ _ _ ⟨by omega, rfl, rfl, rfl, ?_, hH2, hs2, hhs2, c⟩ (by omega)
      rcases hM with ⟨h11, rfl, rfl, q0⟩ | ⟨h11, rfl, rfl, hm, q0, hx⟩
      · exact .inl ⟨h11, rfl, rfl, (q0.over q23).mono (by omega)⟩
      · exact .inr ⟨h11, rfl, rfl, by dsimp only; omega, (q0.over q23).mono (by omega), hx⟩
    refine brd (fun h9 => ?_) fun h9 => ?_
    · rw [plA (i := 1) c rfl, vb_some]
      refine c.last cs.take 4 rfl (q.take hD (by unfold big; omega)) fun r σ2 h10 c hq => ?_
      simp only [go_sem]
      rw [plA (i := 1) c rfl, vb_some]
      -- what was taken
      have hr : (∃ x fr2 out2, r = (x, 0) ∧ PS (p31 (k % 9)) (d31 (8 + 8 * (k % 9).toNat)) σ' σ2 fr2 out2 2 ∧ x ∉ held ∧ Held out2 fr2 (held ++ [x]) ∧ 0 < k % 9 - (held.length : Int) ∧ (∃ j, (p31 (k % 9)).node x = some j) ∧ R64 x) ∨ (r = (0, 9) ∧ PS (p31 (k % 9)) (d31 (8 + 8 * (k % 9).toNat)) σ' σ2 fr out 2 ∧ ¬ 0 < k % 9 - (held.length : Int)) := by
        rcases hq with ⟨x, fr', rfl, rfl, q1⟩ | ⟨rfl, ho, rfl, q1⟩ | ⟨rfl, ho, rfl, q1⟩
        · left
          have hxh : x ∉ held := fun hx => hH.ap x hx (List.mem_cons_self ..)
          obtain ⟨j, j0, j1, ex⟩ := q.fN x (List.mem_cons_self ..)
          have hnd := List.nodup_cons.1 q.nd
          simp only [List.length_cons] at hsz
          simp only at ex
          refine ⟨x, fr', out, rfl, q1, hxh, ⟨fun y hy => ?_, fun y hy hf => ?_, ?_, by simp only [List.length_append, List.length_singleton]; omega⟩, by omega, ⟨j, ?_⟩, ⟨by omega, by omega⟩⟩
          · rcases List.mem_append.1 hy with hy | hy
            · exact hH.hN y hy
            · simp only [List.mem_singleton] at hy; subst hy; exact ⟨j, j0, j1, ex⟩
          · rcases List.mem_append.1 hy with hy | hy
            · exact hH.ap y hy (List.mem_cons_of_mem _ hf)
            · simp only [List.mem_singleton] at hy; subst hy; exact hnd.1 hf
          · rw [List.nodup_append]
            exact ⟨hH.nd, by simp, fun y hy z hz e => hxh (by simp only [List.mem_singleton] at hz; rw [← hz, ← e]; exact hy)⟩
          · have := node_at (p31_good hn) j0 (by simp only; omega)
            simp only at this; rw [ex]; exact this
        · left
          simp only at ho
          simp only [List.length_nil] at hsz
          have hxh : (8 + 8 * out : Int) ∉ held := fun hx => by obtain ⟨j, j0, j1, e⟩ := hH.hN _ hx; omega
          refine ⟨8 + 8 * out, [], out + 1, rfl, q1, hxh, ⟨fun y hy => ?_, fun y hy hf => (by cases hf), ?_, by simp only [List.length_append, List.length_singleton, List.length_nil]; omega⟩, by omega, ⟨out, node_at (p31_good hn) hb.1 (by simp only; omega)⟩, ⟨by omega, by omega⟩⟩
          · rcases List.mem_append.1 hy with hy | hy
            · obtain ⟨j, j0, j1, e⟩ := hH.hN y hy; exact ⟨j, j0, by omega, e⟩
            · simp only [List.mem_singleton] at hy; subst hy; exact ⟨out, hb.1, by omega, rfl⟩
          · rw [List.nodup_append]
            exact ⟨hH.nd, by simp, fun y hy z hz e => hxh (by simp only [List.mem_singleton] at hz; rw [← hz, ← e]; exact hy)⟩
        · right
          simp only at ho
          simp only [List.length_nil] at hsz
          exact ⟨rfl, q1, by omega⟩
      rcases hr with ⟨x, fr2, out2, rfl, q1, hxh, hH2, hlt, ⟨j, hj⟩, hx64⟩ | ⟨rfl, q1, hlt⟩
      · refine c.pur (cs.node hx64) fun h11 c => ?_
        rw [hj]
        simp only [vN, go_sem, Option.getD_some, Option.isSome_some, decide_true]
        refine .here ?_
        have e3 := hhs x
        rw [decide_eq_false hxh] at e3
        have e4 := (c.mp (i := 5) rfl).look (zero := Value.bool false) (k := x)
        have e5 : ((lookA hs x).map mB).getD (Value.bool false) = Value.bool false := by
          cases hlk : lookA hs x with
          | none => rfl
          | some b => rw [hlk] at e3; simp only [Option.getD_some] at e3; subst e3; rfl
        rw [e5] at e4
        rw [e4]
        simp only [go_sem, Bool.not_true, decide_eq_true hlt, beq_self_eq_true]
        refine c.mup 5 rfl x true rfl fun h12 c => ?_
        refine c.app1 6 rfl x rfl rfl rfl (by omega) (by omega) fun w' h13 c => ?_
        rw [wr64 (n := k % 9 - held.length - 1) (by omega)]
        have e6 : (k % 9 - (held.length : Int) - 1) = k % 9 - ((held ++ [x]).length : Nat) := by simp only [List.length_append, List.length_singleton]; omega
        rw [e6]
        refine fin σ2 w' (held ++ [x]) fr2 out2 _ h13 (q1.mono (by omega)) hH2 (fun b => ?_) c
        rw [lookA_updA]
        by_cases e : b = x
        · rw [if_pos e, e]; simp
        · rw [if_neg e, hhs b]; simp [e]
      · refine c.pur (cs.node ⟨by omega, by omega⟩) fun h11 c => ?_
        simp only [vN, go_sem, decide_eq_false hlt]
        refine .here ?_
        simp only [go_sem, Int.reduceEq, decide_false, beq_self_eq_true, Bool.not_true]
        exact fin σ2 v0 held fr out hs h11 (q1.mono (by omega)) hH hhs c
    · have hsl := (c.sl (i := 6) rfl).sl
      rw [hsl.ln]
      simp only [go_sem]
      refine brd (fun h10 => ?_) fun h10 => ?_
      · obtain ⟨hd, x, rfl⟩ : ∃ hd x, held = hd ++ [x] := by
          rcases List.eq_nil_or_concat held with rfl | ⟨hd, x, e⟩
          · simp at h10
          · exact ⟨hd, x, by rw [e, List.concat_eq_append]⟩
        have hxm : x ∈ hd ++ [x] := List.mem_append_right _ (List.mem_singleton.2 rfl)
        obtain ⟨j, j0, j1, ex⟩ := hH.hN x hxm
        have hndh := List.nodup_append.1 hH.nd
        have hxd : x ∉ hd := fun hx => hndh.2.2 x hx x (List.mem_singleton.2 rfl) rfl
        simp only [List.length_append, List.length_singleton] at hsz h10 ⊢
        rw [wr64 (n := ((hd.length + 1 : Nat) : Int) - 1) (by omega)]
        refine hsl.one rfl (i := hd.length) (x := x) (by simp) (by omega) rfl ?_
        have c0 := c
        refine c.takeSl 6 rfl (u := hd.length) (by omega) (by simp) rfl fun a3' l3 c3 c => ?_
        rw [List.take_left' rfl] at c
        rw [plA (i := 1) c rfl, vb_some]
        refine c.last (cs.give ⟨by omega, by omega⟩) 4 rfl (q.give hD (by unfold big; omega) (x := x) (i := j) ex ⟨j0, j1⟩ (hH.ap x hxm)) fun r σ2 h11 c ⟨e, q1⟩ => ?_
        subst e
        simp only [go_sem, ne_eq, not_true_eq_false, decide_false]
        refine c.mup 5 rfl x false rfl fun h12 c => ?_
        rw [wr64 (n := k % 9 - ((hd.length + 1 : Nat) : Int) + 1) (by omega)]
        have e6 : (k % 9 - ((hd.length + 1 : Nat) : Int) + 1) = k % 9 - (hd.length : Nat) := by omega
        rw [e6]
        refine fin σ2 (.slice a3' l3 c3) hd (x :: fr) out _ h12 (q1.mono (by omega)) ⟨fun y hy => hH.hN y (List.mem_append_left _ hy), fun y hy hf => ?_, hndh.1, by simp only [List.length_cons]; omega⟩ (fun b => ?_) c
        · rcases List.mem_cons.1 hf with rfl | hf
          · exact hxd hy
          · exact hH.ap y (List.mem_append_left _ hy) hf
        · rw [lookA_updA]
          by_cases e : b = x
          · rw [if_pos e, e]; simp [hxd]
          · rw [if_neg e, hhs b]; simp [e]
      · exact fin σ' v0 held fr out hs h8 (q.mono (by omega)) hH hhs c
  · have ei : i = acts.length := by omega
    refine vb hl.ln ?_
    simp only [go_sem]
    refine brd (fun h8 => ?_) fun h8 => ?_
    · rcases hM with ⟨h9, _⟩ | ⟨h9, rfl, rfl, hm, q0, fr1, out1, q1, rfl⟩
      · omega
      · refine c.last (cs.back (s := s)) 4 rfl (Q := fun _ σ2 => σ2 = σ.back σm.pu.length) rfl fun _ σ2 h10 c e => ?_
        subst e
        have q2 := PS.back q1 q0
        refine .here ?_
        rw [plA (i := 1) c rfl, vb_some]
        refine c.last cs.left 4 rfl (q2.fresh.left hD) fun r σ3 h11 c ⟨e, _⟩ => ?_
        subst e
        simp only [go_sem, decide_true]
        exact cs.awake31 fun h' g => hR h' (Gr.trans c.gr g)
    · exact cs.awake31 fun h' g => hR h' (Gr.trans c.gr g)
end Go.En
