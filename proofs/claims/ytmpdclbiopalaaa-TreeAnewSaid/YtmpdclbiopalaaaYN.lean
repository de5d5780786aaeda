/-
  Layer 37: the laws are awake; Plays.
-/
import Derived.Test.YtmpdclbiopalaaaYL
namespace Go.En
open Prog Spc Go.Sort

variable {S : Sys} {I : Ids} {h h0 h' : Hp} {F F0 : Fp} {R : Value → Hp → Prop} {L : List Res} {s : Value} {σ τ : Spc}
def awK : Nat → List (Int × Int)
  | 0 => []
  | 1 => [(3, 30)]
  | 2 => [(1, 10), (3, 30)]
  | _ => [(1, 10), (2, 20), (3, 30)]
def awk (i : Nat) : Int := if i = 0 then 3 else if i = 1 then 1 else 2
theorem awK_put {i : Nat} (h : i < 3) : rPut (awK i) (awk i) (10 * awk i) = awK (i + 1) ∧ rGet (awK i) (awk i) = (0, false) ∧ (awK i).length < 4 ∧ ([3, 1, 2] : List Int)[i]? = some (awk i) := by
  rcases i with _ | _ | _ | i
  · exact ⟨by decide, by decide, by decide, rfl⟩
  · exact ⟨by decide, by decide, by decide, rfl⟩
  · exact ⟨by decide, by decide, by decide, rfl⟩
  · omega
theorem awk_r {i : Nat} : 1 ≤ awk i ∧ awk i ≤ 3 := by unfold awk; split; · decide
                                                      split <;> decide
theorem nI {a b : Int} (h : a ≠ b) : bin .eql (.int .i64 a) (.int .i64 b) = some (.bool false) := by rw [bin_eql, decide_eq_false h]
theorem K_awake37 (cs : CsX2 S I) (hR : ∀ h', Gr h h' → R (.bool true) h') : F_simulcastlaw37_awake S I h R := by
  have h8 : (0 : Int) ≤ 8 ∧ (8 : Int) ≤ 4000 := by decide
  have r8 : R64 8 := by decide
  have hp0 : 0 ≤ (p37 4).nodes ∧ (p37 4).nodes ≤ 1000 := by decide
  unfold F_simulcastlaw37_awake
  refine cs.made37 (n := 4) ⟨by decide, by decide⟩ fun h1 g => ?_
  have c := (Cx.start0 h).more g
  refine ext0t (ext1t ?_)
  refine c.nw ET (⟨0, 0, 0⟩, 0) rfl fun rt h4 c => ?_
  refine c.sto 0 rfl (p37 4, 8) rfl rfl fun h5 c => ?_
  refine cs.empty37 (N := N37 4) (by decide) fun s h6 c2 => ?_
  have c := c.frame0 c2
  clear c2
  have H0 : ST 4 (awK 0) (3000 * 0) (newS (knF (fun _ => W0) (N37 4))) := ST.start (j := 4) (by decide) fun _ => rfl
  generalize newS (knF (fun _ => W0) (N37 4)) = σ0 at *
  refine c.bslN EI1 [3, 1, 2] [.int .i64 3, .int .i64 1, .int .i64 2] rfl rfl rfl (fun u hu => by simp only [List.mem_cons, List.not_mem_nil, or_false] at hu; rcases hu with rfl | rfl | rfl <;> rfl) rfl fun b h8' c => ?_
  rw [(c.sl (i := 2) rfl).sl.ln, vb_some]
  refine Lp1.by (fun (q : Nat × Spc) v h' => v = .int .i64 q.1 ∧ q.1 ≤ 3 ∧ ST 4 (awK q.1) (3000 * q.1) q.2 ∧ Cx (fun _ => False) h h' [rVar ET rt (p37 4, 8), rSpace s q.2, rSl EI1 (.slice (some b) 3 3) [3, 1, 2]]) (fun q => 3 - q.1) (0, σ0) ⟨rfl, Nat.zero_le 3, H0, c⟩ ?_
  clear c H0
  rintro ⟨i, σ⟩ v h9 ⟨rfl, hi, H, c⟩ again hagain
  dsimp only at *
  rw [show (([3, 1, 2] : List Int).length : Int) = 3 from rfl, bin_lss, vb_some]
  refine brd (fun hlt => ?_) fun hge => ?_
  · obtain ⟨e1, e2, e3, e4⟩ := awK_put (i := i) (by omega)
    have hr := awk_r (i := i)
    refine (c.sl (i := 2) rfl).sl.one rfl e4 rfl rfl ?_
    rw [tW (i := 0) c rfl, vb_some, bin_mul, vb_some, wr64 ⟨by omega, by omega⟩]
    refine c.last (cs.tput' hp0 h8 ⟨by omega, by omega⟩) 1 rfl (H.put (k := awk i) (v := 10 * awk i) ⟨by omega, by omega⟩ ⟨by omega, by omega⟩ (by unfold big; omega)) fun e σ' h3 c hq => ?_
    rcases hq with ⟨_, hf, _⟩ | ⟨_, rfl, H'⟩
    · omega
    rw [e1] at H'
    rw [e2]
    unfold uT3
    rw [e3_0, vb_some, e3_1, vb_some, e3_2, vb_some]
    refine .here ?_
    rw [br_false, neI, vb_some]
    show Br _ _ _
    rw [br_false, bin_add, vb_some, wrS (by omega)]
    exact hagain (i + 1, σ') _ _ ⟨rfl, by dsimp only; omega, H', c⟩ (by dsimp only; omega)
  · have ei : i = 3 := by omega
    subst ei
    rw [show awK 3 = [(1, 10), (2, 20), (3, 30)] from rfl] at H
    rw [tW (i := 0) c rfl, vb_some, vb_some]
    refine c.last (cs.tsum hp0 r8) 1 rfl (H.btw (a := 1) (b := 2) (sq := true)) fun e σ1 h10 c hq => ?_
    obtain ⟨rfl, H1⟩ := hq
    refine ⟨tW (i := 0) c rfl, ?_⟩
    refine c.last (cs.tcnt hp0 r8) 1 rfl (H1.btw (a := 2) (b := 9) (sq := false)) fun e σ2 h11 c hq => ?_
    obtain ⟨rfl, H2⟩ := hq
    rw [tW (i := 0) c rfl, vb_some]
    refine c.last (cs.tnext' hp0 r8) 1 rfl (H2.next (k := 2)) fun e σ3 h12 c hq => ?_
    obtain ⟨rfl, H3⟩ := hq
    unfold uTB
    rw [e2_0, vb_some, e2_1, vb_some, tW (i := 0) c rfl, vb_some]
    refine c.last (cs.tnth' hp0 r8) 1 rfl (H3.nth (k := 2) (by decide)) fun e σ4 h13 c hq => ?_
    obtain ⟨rfl, H4⟩ := hq
    unfold uTB
    rw [e2_0, vb_some, e2_1, vb_some, tW (i := 0) c rfl, vb_some]
    refine c.last (cs.tdrop' hp0 h8) 1 rfl (H4.drop (k := 1) (by decide)) fun e σ5 h14 c hq => ?_
    obtain ⟨rfl, H5⟩ := hq
    unfold uT3
    rw [e3_0, vb_some, e3_1, vb_some, e3_2, vb_some]
    refine .here ?_
    unfold uI
    rw [show rRng true [(1, 10), (2, 20), (3, 30)] 1 2 = 30 by decide, show rRng false [(1, 10), (2, 20), (3, 30)] 2 9 = 2 by decide, show rNxt [(1, 10), (2, 20), (3, 30)] 2 = (2, true) by decide, show rNth [(1, 10), (2, 20), (3, 30)] 2 = (3, true) by decide, show rGet [(1, 10), (2, 20), (3, 30)] 1 = (10, true) by decide]
    rw [show rDrp [(1, 10), (2, 20), (3, 30)] 1 = [(2, 20), (3, 30)] by decide] at H5
    rw [eqI, vb_some, br_true, eqI, vb_some, br_true, eqI, vb_some, br_true, br_true, eqI, vb_some, br_true, br_true, eqI, vb_some, br_true, br_true, vb_some, br_true, tW (i := 0) c rfl, vb_some]
    refine c.last (cs.tsum hp0 r8) 1 rfl (H5.btw (a := -5) (b := 9) (sq := true)) fun e σ6 h15 c hq => ?_
    obtain ⟨rfl, H6⟩ := hq
    unfold uI
    rw [show rRng true [(2, 20), (3, 30)] (-5) 9 = 50 by decide, eqI, vb_some, br_true, tW (i := 0) c rfl, vb_some]
    refine c.last (cs.tlen h8) 1 rfl H6.len' fun e σ7 h16 c hq => ?_
    obtain ⟨rfl, H7⟩ := hq
    unfold uI
    rw [show (([(2, 20), (3, 30)] : List (Int × Int)).length : Int) = 2 from rfl, eqI, vb_some]
    exact hR _ c.gr
structure CsX3 (S : Sys) (I : Ids) : Prop extends CsX2 S I where
  awake37 : ∀ {h R}, (∀ h', Gr h h' → R (.bool true) h') → S.C I.f_simulcastlaw37_awake [] h R
  do37 : ∀ {n ks cnt σ s lv F h0 R} {x : C37}, x.ok → ST n ks cnt σ → cnt + 3000 + 10000 ≤ big → Cx F h0 h0 [rSpace s σ, rSl E2I lv ks] →
    (∀ σ' ks' lv' h', Cx F h0 h' [rSpace s σ', rSl E2I lv' ks'] → ST n ks' (cnt + 3000) σ' → R (.tuple #[lv', .bool true]) h') → S.C I.f_simulcastlaw37_do [vT (p37 n) 8, s, lv, vCl x, .int .i64 n] h0 R
  same37 : ∀ {n ks cnt σ s lv F h0 R}, ST n ks cnt σ → Cx F h0 h0 [rSpace s σ, rSl E2I lv ks] → (∀ σ' h', Cx F h0 h' [rSpace s σ', rSl E2I lv ks] → ST n ks cnt σ' → R (.bool true) h') → S.C I.f_simulcastlaw37_same [vT (p37 n) 8, s, lv] h0 R
section
variable {l : List C37} {b1 : Value}
theorem L_TreePlays {k : Int} (cs : CsX3 S I) (s1 : Sl ECl h b1 l) (w1 : ∀ x ∈ l, x.ok) (hk : 0 ≤ k ∧ k ≤ 255) (hR : ∀ h', Gr h h' → R (.bool true) h') : F_simulcastlaw37_TreePlays S I b1 (.int .u8 k) h R := by
  unfold F_simulcastlaw37_TreePlays
  refine cs.awake37 fun h1 g => ?_
  have c := (Cx.start0 h).more g
  rw [uno_nb, vb_some, Bool.not_true, br_false, s1.ln, vb_some, bin_gtr, vb_some]
  refine brd (fun _ => hR _ c.gr) fun hlen => ?_
  rw [show bin .rem (.int .u8 k) (.int .u8 24) = some (.int .u8 (k % 24)) by rw [bin_rem (by omega), Int.tmod_eq_emod_of_nonneg hk.1], vb_some, cvi_int, vb_some, wr64 (by omega)]
  obtain ⟨m, hm⟩ : ∃ m : Nat, k % 24 + 1 = m := ⟨(k % 24 + 1).toNat, by omega⟩
  refine En.vb (v := .int .i64 m) (by rw [← hm]; exact addI ⟨by omega, by omega⟩) ?_
  have hm100 : m ≤ 100 := by omega
  refine cs.made37 (n := m) ⟨by omega, by omega⟩ fun h3 g => ?_
  have c := c.more g
  rw [show (24 + 8 * (m : Int)) = ((N37 m : Nat) : Int) by show _ = ((24 + 8 * m : Nat) : Int); omega]
  refine ext0t (ext1t ?_)
  refine c.nw ET (⟨0, 0, 0⟩, 0) rfl fun rt h4 c => ?_
  refine c.sto 0 rfl (p37 m, 8) rfl rfl fun h5 c => ?_
  refine cs.empty37 (N := N37 m) (by show 24 + 8 * m ≤ _; omega) fun s h6 c2 => ?_
  have c := c.frame0 c2
  clear c2
  have c := c.nil E2I
  have H0 : ST m [] 0 (newS (knF (fun _ => W0) (N37 m))) := ST.start hm100 fun _ => rfl
  generalize newS (knF (fun _ => W0) (N37 m)) = σ0 at *
  refine Lp2.by (fun (q : Nat × Spc × List (Int × Int)) lv v h' => v = .int .i64 q.1 ∧ q.1 ≤ l.length ∧ ST m q.2.2 (3000 * q.1) q.2.1 ∧ Cx (fun _ => False) h h' ([rVar ET rt (p37 m, 8)] ++ [rSpace s q.2.1, rSl E2I lv q.2.2])) (fun q => l.length - q.1) (0, σ0, []) ⟨rfl, Nat.zero_le _, H0, c⟩ ?_
  clear c H0
  rintro ⟨i, σ, ks⟩ lv v h8 ⟨rfl, hi, H, c⟩ again hagain
  dsimp only at *
  rw [vb_some, bin_lss, vb_some]
  refine brd (fun hlt => ?_) fun hge => hR _ c.gr
  have hx : l[i]? = some l[i] := List.getElem?_eq_getElem (by omega)
  have hok := w1 l[i] (List.getElem_mem _)
  generalize l[i] = x at *
  rw [tW (i := 0) c rfl, vb_some]
  refine (s1.gr c.gr).whole rfl hx rfl ?_
  obtain ⟨F1, c1, _, up⟩ := Cx.frameL (L := [rVar ET rt (p37 m, 8)]) (M := [rSpace s σ, rSl E2I lv ks]) c
  refine cs.do37 (x := x) hok H (by unfold big; omega) c1 fun σ' ks' lv' h9 c2 H' => ?_
  have c := up c2
  rw [e2_0, vb_some, e2_1, vb_some]
  refine .here ?_
  rw [uno_nb, vb_some, Bool.not_true, br_false, tW (i := 0) c rfl, vb_some]
  obtain ⟨F1, c1, _, up⟩ := Cx.frameL (L := [rVar ET rt (p37 m, 8)]) (M := [rSpace s σ', rSl E2I lv' ks']) c
  refine cs.same37 H' c1 fun σ2 h10 c2 H2 => ?_
  have c := up c2
  rw [uno_nb, vb_some, Bool.not_true]
  show Br _ _ _
  rw [br_false, bin_add, vb_some, wrS (by omega)]
  exact hagain (i + 1, σ2, ks') _ _ _ ⟨rfl, by dsimp only; omega, H2.mono (by omega) (by unfold big; omega), c⟩ (by dsimp only; omega)
end
end Go.En
