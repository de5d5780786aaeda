/-
  Layer 37: the law Anew.
-/
import Derived.Test.YtmpdclbiopalaaaYO
namespace Go.En
open Prog Spc Go.Sort

variable {S : Sys} {I : Ids} {h h0 h' : Hp} {F F0 : Fp} {R : Value → Hp → Prop} {L : List Res} {s : Value} {σ τ : Spc}
theorem wp_out {α : Type} : ∀ {p : Prog α} {σ : Spc} {Q : α → Spc → Prop}, wp p σ Q → Q (p.run σ).1 (p.run σ).2
  | .ret a, σ, Q, h => h
  | .get a k, σ, Q, h => wp_out (p := k _) h
  | .put a v k, σ, Q, h => wp_out (p := k) h.2.2
  | .mark k, σ, Q, h => wp_out (p := k _) h
  | .back m k, σ, Q, h => wp_out (p := k) h
theorem allD37 {p : Pl} : PoolD All p := ⟨fun _ _ _ => trivial, fun _ _ _ _ _ => trivial⟩
/-- two programs, one after the other, on a space that knows less -/
theorem sim_two {α β : Type} {p : Prog α} {q : Prog β} (H : Sim σ τ) (h1 : (p.run τ).2.en = false) (h2 : (q.run (p.run τ).2).2.en = false) :
    ((p.run σ).1 = (p.run τ).1 ∧ (q.run (p.run σ).2).1 = (q.run (p.run τ).2).1 ∧ Sim (q.run (p.run σ).2).2 (q.run (p.run τ).2).2) ∨
    ((q.run (p.run σ).2).2.en = true ∧ (q.run (p.run σ).2).2.nd ∈ (q.run (p.run τ).2).2.rd ∧ σ.kn (q.run (p.run σ).2).2.nd = none) := by
  rcases sim_run (p := p) H h1 with ⟨e1, H1⟩ | ⟨e1, e2, e3⟩
  · rcases sim_run (p := q) H1 h2 with ⟨e2, H2⟩ | ⟨e2, e3, e4⟩
    · exact .inl ⟨e1, e2, H2⟩
    · exact .inr ⟨e2, e3, by rw [run_kn (p := p)] at e4; exact e4⟩
  · obtain ⟨f1, f2⟩ := run_en (p := q) e1
    exact .inr ⟨f1, by rw [f2]; exact run_rd _ e2, by rw [f2]; exact e3⟩
/-- a known word is read alike -/
theorem sim_get {a : Int} (H : Sim σ τ) (hk : (σ.kn a).isSome = true) : (σ.get a).1 = (τ.get a).1 ∧ Sim (σ.get a).2 (τ.get a).2 ∧ (σ.get a).2.kn = σ.kn := by
  have hkτ : (τ.kn a).isSome = true := by
    obtain ⟨w, hw⟩ := Option.isSome_iff_exists.1 hk
    rw [H.kn a w hw]; rfl
  have e1 : (τ.get a).2.en = false := by
    unfold Spc.get
    rw [if_neg (by rw [H.en']; simp), if_pos hkτ]
    exact H.en'
  rcases sim_run (p := gt a) H e1 with ⟨h1, h2⟩ | ⟨h1, _, _⟩
  · exact ⟨h1, h2, get_kn σ a⟩
  · exfalso
    have h1 : (σ.get a).2.en = true := h1
    unfold Spc.get at h1
    rw [if_neg (by rw [H.en]; simp), if_pos hk] at h1
    have h1 : σ.en = true := h1
    rw [H.en] at h1
    cases h1
section
variable {l : List C37} {b1 : Value} {x : C37}
set_option maxRecDepth 4000 in
set_option maxHeartbeats 1600000 in
theorem L_TreeAnew (cs : CsX4 S I) (s1 : Sl ECl h b1 l) (w1 : ∀ x ∈ l, x.ok) (hx : x.ok) (hR : ∀ h', Gr h h' → R (.bool true) h') : F_simulcastlaw37_TreeAnew S I b1 (.agg ⟨ECl.c x⟩) h R := by
  have h8 : (0 : Int) ≤ 8 ∧ (8 : Int) ≤ 4000 := by decide
  have hp0 : 0 ≤ (p37 20).nodes ∧ (p37 20).nodes ≤ 1000 := by decide
  have G20 := p37_G (n := 20) ⟨by decide, by decide⟩
  have hW : tWr (p37 20) = 4132 := by decide
  unfold F_simulcastlaw37_TreeAnew
  refine (Cx.start0 h).nw ECl x rfl fun rc h1 c => ?_
  refine cs.awake37 fun h2 g => ?_
  have c := c.more g
  rw [uno_nb, vb_some, Bool.not_true, br_false, s1.ln, vb_some, bin_gtr, vb_some]
  refine brd (fun _ => hR _ c.gr) fun hlen => ?_
  refine cs.made37 (n := 20) ⟨by decide, by decide⟩ fun h3 g => ?_
  have c := c.more g
  rw [show (24 + 8 * (20 : Int)) = ((184 : Nat) : Int) from rfl]
  refine ext0t (ext1t ?_)
  refine c.nw ET (⟨0, 0, 0⟩, 0) rfl fun rt h4 c => ?_
  refine c.sto 1 rfl (p37 20, 8) rfl rfl fun h5 c => ?_
  refine cs.empty37 (N := 184) (by decide) fun s h6 c2 => ?_
  have c := c.frame0 c2
  clear c2
  have c := c.nil E2I
  have H0 : ST 20 [] 0 (newS (knF (fun _ => W0) (N37 20))) := ST.start (j := 20) (by decide) fun _ => rfl
  rw [show N37 20 = 184 from rfl] at H0
  generalize newS (knF (fun _ => W0) 184) = σ0 at *
  refine Lp2.by (fun (q : Nat × Spc × List (Int × Int)) lv v h' => v = .int .i64 q.1 ∧ q.1 ≤ l.length ∧ ST 20 q.2.2 (3000 * q.1) q.2.1 ∧ Cx (fun _ => False) h h' ([rVar ECl rc x, rVar ET rt (p37 20, 8)] ++ [rSpace s q.2.1, rSl E2I lv q.2.2])) (fun q => l.length - q.1) (0, σ0, []) ⟨rfl, Nat.zero_le _, H0, c⟩ ?_
  clear c H0
  rintro ⟨i, σ, ks⟩ lv v h7 ⟨rfl, hi, H, c⟩ again hagain
  dsimp only at *
  rw [vb_some, bin_lss, vb_some]
  refine brd (fun hlt => ?_) fun hge => ?_
  · have hy : l[i]? = some l[i] := List.getElem?_eq_getElem (by omega)
    have hok := w1 l[i] (List.getElem_mem _)
    generalize l[i] = y at *
    rw [tW (i := 1) c rfl, vb_some]
    refine (s1.gr c.gr).whole rfl hy rfl ?_
    obtain ⟨F1, c1, _, up⟩ := Cx.frameL (L := [rVar ECl rc x, rVar ET rt (p37 20, 8)]) (M := [rSpace s σ, rSl E2I lv ks]) c
    refine cs.do37 (x := y) hok H (by unfold big; omega) c1 fun σ' ks' lv' h9 c2 H' => ?_
    have c := up c2
    rw [e2_0, vb_some, e2_1, vb_some, bin_add, vb_some, wrS (by omega)]
    exact hagain (i + 1, σ', ks') _ _ _ ⟨rfl, by dsimp only; omega, H'.mono (by omega) (by unfold big; omega), c⟩ (by dsimp only; omega)
  clear hagain again hge
  obtain ⟨hn, hcb, m, t, fr, out, S0, X, rfl, hpl⟩ := H
  refine c.mmk .i64 mW fun k1 h8' c => ?_
  refine c.mmk .i64 mW fun k2 h9 c => ?_
  have c : Cx (fun _ => False) h h9 [rVar ECl rc x, rSpace s σ, rVar ET rt (p37 20, 8), rMp .i64 mW (.map (some k1)) [], rMp .i64 mW (.map (some k2)) []] := c.pick [0, 2, 1, 4, 5]
  refine Lp1.by (fun (q : Nat × Spc) v h' => v = .int .i64 q.1 ∧ q.1 ≤ 184 ∧ Sm (D37 20) σ q.2 m 0 ∧ Cx (fun _ => False) h h' [rVar ECl rc x, rSpace s q.2, rVar ET rt (p37 20, 8), rMp .i64 mW (.map (some k1)) (knF (fun i => ⟨m (i : Int), 1, 0⟩) q.1), rMp .i64 mW (.map (some k2)) []]) (fun q => 184 - q.1) (0, σ)
    ⟨rfl, Nat.zero_le _, S0, c⟩ ?_
  clear c
  rintro ⟨j, σ1⟩ v h13 ⟨rfl, hj, S1, c⟩ again hagain
  dsimp only at *
  rw [bin_lss, vb_some]
  refine brd (fun hlt => ?_) fun hge => ?_
  · refine c.cGet cs.toCsD 1 rfl fun h14 c => ?_
    have hlt : (j : Int) < ((184 : Nat) : Int) := hlt
    rw [S1.get (a := (j : Int)) ⟨by omega, by omega⟩] at c ⊢
    rw [bldW, vb_some]
    refine c.mup 3 rfl (j : Int) (⟨m (j : Int), 1, 0⟩ : W3) rfl fun h15 c => ?_
    rw [bin_add, vb_some, wrS (by omega)]
    have ek : updA (knF (fun i => (⟨m (i : Int), 1, 0⟩ : W3)) j) (j : Int) ⟨m (j : Int), 1, 0⟩ = knF (fun i => ⟨m (i : Int), 1, 0⟩) (j + 1) := knF_upd (g := fun i => ⟨m (i : Int), 1, 0⟩) (n := j)
    rw [ek] at c
    exact hagain (j + 1, σ1.rds j) _ _ ⟨rfl, by dsimp only; omega, S1.rds j, c⟩ (by dsimp only; omega)
  have ej : j = 184 := by have : ¬ (j : Int) < ((184 : Nat) : Int) := hge; omega
  subst ej
  clear hagain again hge
  have hgv : ∀ i, i < 184 → R64 ((fun i : Nat => (⟨m (i : Int), 1, 0⟩ : W3)) i).v := fun i _ => S1.rg _
  refine c.cNew cs.toCsD 3 rfl (knF_nodup _ _) (knF_val hgv) fun sw h14 c => ?_
  have hkn : ∀ a, (newS (knF (fun i : Nat => (⟨m (i : Int), 1, 0⟩ : W3)) 184)).kn a = if 0 ≤ a ∧ a < ((184 : Nat) : Int) then some ⟨m (a.toNat : Int), 1, 0⟩ else none := fun a => newS_knF (g := fun i : Nat => (⟨m (i : Int), 1, 0⟩ : W3)) fun i _ => rfl
  have hW0 : (newS (knF (fun i : Nat => (⟨m (i : Int), 1, 0⟩ : W3)) 184)).wf := newS_wf (knF_val hgv)
  have hK0 : ∀ a, D37 20 a → ((newS (knF (fun i : Nat => (⟨m (i : Int), 1, 0⟩ : W3)) 184)).kn a).isSome = true := fun a ha => by
    rw [hkn, if_pos ⟨ha.1, by have := ha.2; omega⟩]; rfl
  have hr0 : (newS (knF (fun i : Nat => (⟨m (i : Int), 1, 0⟩ : W3)) 184)).rd = [] := rfl
  have he0 : (newS (knF (fun i : Nat => (⟨m (i : Int), 1, 0⟩ : W3)) 184)).en = false := rfl
  have hpu0 : (newS (knF (fun i : Nat => (⟨m (i : Int), 1, 0⟩ : W3)) 184)).pu = [] := rfl
  have c : Cx (fun _ => False) h h14 [rVar ECl rc x, rVar ET rt (p37 20, 8), rMp .i64 mW (.map (some k1)) (knF (fun i => ⟨m (i : Int), 1, 0⟩) 184), rMp .i64 mW (.map (some k2)) [], rSpace sw (newS (knF (fun i : Nat => (⟨m (i : Int), 1, 0⟩ : W3)) 184))] := c.pick [0, 2, 3, 4, 5]
  generalize newS (knF (fun i : Nat => (⟨m (i : Int), 1, 0⟩ : W3)) 184) = τ0 at *
  -- the two programs
  obtain ⟨kd, hkd⟩ : ∃ kd, kd = w64 (x.a + 1) := ⟨_, rfl⟩
  have t1 := wd_tPut (A := D37 20) (p := p37 20) (root := 8) G20.dp G20.R hx.a hx.b hW0 (by rw [hpu0, hW]; decide)
  have w1' := wp_out t1
  have hl1 := w1'.1.len
  rw [hpu0, hW, List.length_nil] at hl1
  have hE1 := w1'.1.en he0 hK0
  have t2 := wd_tDrop (A := D37 20) (p := p37 20) (root := 8) (k := kd) G20.dp G20.R w1'.1.wf (by rw [hW]; unfold big; omega)
  have w2' := wp_out t2
  have hl2 := w2'.1.len
  rw [hW] at hl2
  have hK1 : ∀ a, D37 20 a → (((tPut (p37 20) 8 x.a x.b).run τ0).2.kn a).isSome = true := fun a ha => by rw [w1'.1.kn]; exact hK0 a ha
  have hE2 := w2'.1.en hE1 hK1
  have hrd : ∀ y ∈ ((tDrop (p37 20) 8 kd).run ((tPut (p37 20) 8 x.a x.b).run τ0).2).2.rd, 0 ≤ y ∧ y < ((184 : Nat) : Int) := fun y hy => by
    rcases w2'.1.rd y hy with h | h
    · rcases w1'.1.rd y h with h | h
      · rw [hr0] at h; cases h
      · exact ⟨h.1, by have := h.2; omega⟩
    · exact ⟨h.1, by have := h.2; omega⟩
  have hl3 : ((tDrop (p37 20) 8 kd).run ((tPut (p37 20) 8 x.a x.b).run τ0).2).2.pu.length ≤ 10000 := by omega
  rw [tW (i := 1) c rfl, vb_some]
  refine (c.va (i := 0) rfl).fld (j := 1) rfl ?_
  refine (c.va (i := 0) rfl).fld (j := 2) rfl ?_
  refine c.last (cs.tput' hp0 h8 hx.a) 4 rfl (wp_det t1) fun e τ1 h15 c hq => ?_
  obtain ⟨rfl, rfl⟩ := hq
  unfold uT3
  rw [e3_0, vb_some, e3_1, vb_some, e3_2, vb_some, tW (i := 1) c rfl, vb_some]
  refine (c.va (i := 0) rfl).fld (j := 1) rfl ?_
  rw [bin_addw, vb_some, ← hkd]
  refine c.last (cs.tdrop' hp0 h8) 4 rfl (wp_det t2) fun e τ2 h16 c hq => ?_
  obtain ⟨rfl, rfl⟩ := hq
  unfold uT3
  rw [e3_0, vb_some, e3_1, vb_some, e3_2, vb_some]
  clear t1 t2
  refine Lp1.by (fun (ps : List (Int × W3)) v h' => v = .int .i64 ps.length ∧ Sub (fun i => ⟨m (i : Int), 1, 0⟩) 184 ps ∧ Cx (fun _ => False) h h' [rVar ECl rc x, rVar ET rt (p37 20, 8), rMp .i64 mW (.map (some k1)) (knF (fun i => ⟨m (i : Int), 1, 0⟩) 184), rMp .i64 mW (.map (some k2)) ps, rSpace sw ((tDrop (p37 20) 8 kd).run ((tPut (p37 20) 8 x.a x.b).run τ0).2).2]) (fun ps => 185 - ps.length) []
    ⟨rfl, Sub.nil _ _, c⟩ ?_
  clear c
  rintro ps v h17 ⟨rfl, hsub, c⟩ again hagain
  have hpsl : ∀ qs : List (Int × W3), Sub (fun i => ⟨m (i : Int), 1, 0⟩) 184 qs → qs.length ≤ 184 := fun qs hq => by
    have := rdlen (n := 184) hq.nd fun y hy => by
      obtain ⟨p, hp, rfl⟩ := List.mem_map.1 hy
      have := hq.mem p hp
      exact ⟨this.1, this.2.1⟩
    rwa [List.length_map] at this
  have hpl := hpsl ps hsub
  rw [show bin .leq (.int .i64 (ps.length : Int)) (.int .i64 ((184 : Nat) : Int)) = some (.bool (decide ((ps.length : Int) ≤ ((184 : Nat) : Int)))) from bin_leq, vb_some]
  refine brd (fun _ => ?_) fun h => absurd (by omega) h
  have hpv : ∀ p ∈ ps, R64 p.2.v := fun p hp => by have := hsub.mem p hp; rw [this.2.2]; exact S1.rg _
  refine c.cNew cs.toCsD 3 rfl hsub.nd hpv fun sp h18 c => ?_
  have hkp : ∀ a, (newS ps).kn a = if a ∈ ps.map (·.1) then some ⟨m (a.toNat : Int), 1, 0⟩ else none := fun a => hsub.kn fun i _ => rfl
  have hwf : (newS ps).wf := newS_wf hpv
  have hp1 : (newS ps).pu = [] := rfl
  have sim : Sim (newS ps) τ0 := by
    refine ⟨rfl, he0, hr0.symm, hpu0.symm, fun a w hw => ?_, fun a ha => by cases ha⟩
    rw [hkp] at hw
    split at hw
    · rename_i hm
      obtain ⟨p, hp, rfl⟩ := List.mem_map.1 hm
      have := hsub.mem p hp
      rw [hkn, if_pos ⟨this.1, this.2.1⟩]; exact hw
    · cases hw
  have c : Cx (fun _ => False) h h18 [rVar ECl rc x, rVar ET rt (p37 20, 8), rMp .i64 mW (.map (some k1)) (knF (fun i => ⟨m (i : Int), 1, 0⟩) 184), rMp .i64 mW (.map (some k2)) ps, rSpace sw ((tDrop (p37 20) 8 kd).run ((tPut (p37 20) 8 x.a x.b).run τ0).2).2, rSpace sp (newS ps)] := c
  generalize newS ps = σ0 at *
  have u1 := wd_tPut (A := All) (p := p37 20) (root := 8) allD37 (fun _ _ _ => trivial) hx.a hx.b hwf (by rw [hp1, hW]; decide)
  have v1 := (wp_out u1).1
  have l1 := v1.len
  rw [hp1, hW, List.length_nil] at l1
  have u2 := wd_tDrop (A := All) (p := p37 20) (root := 8) (k := kd) allD37 (fun _ _ _ => trivial) v1.wf (by rw [hW]; unfold big; omega)
  have v2 := (wp_out u2).1
  have l2 := v2.len
  rw [hW] at l2
  have l3 : ((tDrop (p37 20) 8 kd).run ((tPut (p37 20) 8 x.a x.b).run σ0).2).2.pu.length ≤ 10000 := by omega
  have kP : ((tDrop (p37 20) 8 kd).run ((tPut (p37 20) 8 x.a x.b).run σ0).2).2.kn = σ0.kn := by rw [run_kn, run_kn]
  have key := sim_two (p := tPut (p37 20) 8 x.a x.b) (q := tDrop (p37 20) 8 kd) sim hE1 hE2
  rw [tW (i := 1) c rfl, vb_some]
  refine (c.va (i := 0) rfl).fld (j := 1) rfl ?_
  refine (c.va (i := 0) rfl).fld (j := 2) rfl ?_
  refine c.last (cs.tput' hp0 h8 hx.a) 5 rfl (wp_det u1) fun e σ1' h19 c hq => ?_
  obtain ⟨rfl, rfl⟩ := hq
  unfold uT3
  rw [e3_0, vb_some, e3_1, vb_some, e3_2, vb_some, tW (i := 1) c rfl, vb_some]
  refine (c.va (i := 0) rfl).fld (j := 1) rfl ?_
  rw [bin_addw, vb_some, ← hkd]
  refine c.last (cs.tdrop' hp0 h8) 5 rfl (wp_det u2) fun e σ2' h20 c hq => ?_
  obtain ⟨rfl, rfl⟩ := hq
  unfold uT3
  rw [e3_0, vb_some, e3_1, vb_some, e3_2, vb_some]
  generalize (tPut (p37 20) 8 x.a x.b).run τ0 = T1 at *
  generalize (tPut (p37 20) 8 x.a x.b).run σ0 = P1 at *
  generalize (tDrop (p37 20) 8 kd).run T1.2 = T2 at *
  generalize (tDrop (p37 20) 8 kd).run P1.2 = P2 at *
  refine c.cNeed cs.toCsD 5 rfl ?_
  rw [e2_0, vb_some, e2_1, vb_some]
  rcases key with ⟨k1', k2', HS⟩ | ⟨k1', k2', k3'⟩
  · rw [HS.en, br_false]
    have nEq : ∀ b : Bool, neg? (eqB (.bool b) (.bool b)) = some (.bool false) := fun b => by cases b <;> rfl
    refine Jn1.at (fun v h' => v = .bool false ∧ Cx (fun _ => False) h h' [rVar ECl rc x, rVar ET rt (p37 20, 8), rMp .i64 mW (.map (some k1)) (knF (fun i => ⟨m (i : Int), 1, 0⟩) 184), rMp .i64 mW (.map (some k2)) ps, rSpace sw T2.2, rSpace sp P2.2]) ?_ ?_
    · rw [k1', k2', neI, vb_some, br_false, nEq, vb_some, br_false, neI, vb_some, br_false, neI, vb_some, br_false, nEq, vb_some, br_false, neI, vb_some, br_false]
      refine c.cWrites cs.hh 5 rfl (by omega) fun w3 h21 c => ?_
      rw [(c.sl (i := 6) rfl).sl.ln, vb_some]
      refine c.cWrites cs.hh 4 rfl (by omega) fun w4 h22 c => ?_
      rw [(c.sl (i := 7) rfl).sl.ln, vb_some, HS.pu, neI, vb_some]
      exact ⟨rfl, c.pick [0, 1, 2, 3, 4, 5]⟩
    clear c
    rintro v h21 ⟨rfl, c⟩
    rw [br_false]
    refine Lp1.by (fun (q : Nat × Spc × Spc) v h' => v = .int .i64 q.1 ∧ q.1 ≤ 184 ∧ Sim q.2.1 q.2.2 ∧ q.2.1.kn = σ0.kn ∧ Cx (fun _ => False) h h' [rVar ECl rc x, rVar ET rt (p37 20, 8), rMp .i64 mW (.map (some k1)) (knF (fun i => ⟨m (i : Int), 1, 0⟩) 184), rMp .i64 mW (.map (some k2)) ps, rSpace sw q.2.2, rSpace sp q.2.1]) (fun q => 184 - q.1) (0, P2.2, T2.2)
      ⟨rfl, Nat.zero_le _, HS, kP, c⟩ ?_
    clear c
    rintro ⟨j, σp, τp⟩ v h22 ⟨rfl, hj, HS', kP', c⟩ again2 hagain2
    dsimp only at *
    rw [bin_lss, vb_some]
    refine brd (fun hlt => ?_) fun hge => hR _ c.gr
    have hlt : (j : Int) < ((184 : Nat) : Int) := hlt
    rw [(c.mp (i := 3) rfl).lookOk, vb_some, e2_0, vb_some, e2_1, vb_some]
    have hw3 : ∃ w : W3, (Option.map mW (lookA ps (j : Int))).getD (Value.agg #[Value.int IntKind.i64 0, Value.int IntKind.u32 0, Value.int IntKind.u32 0]) = mW w := by
      cases lookA ps (j : Int) with
      | none => exact ⟨W0, rfl⟩
      | some w => exact ⟨w, rfl⟩
    obtain ⟨w, hw⟩ := hw3
    rw [hw]
    refine c.nw EW W0 rfl fun rw_ h23 c => ?_
    refine c.sto 6 rfl w rfl rfl fun h24 c => ?_
    have c : Cx (fun _ => False) h h24 [rVar ECl rc x, rVar ET rt (p37 20, 8), rMp .i64 mW (.map (some k1)) (knF (fun i => ⟨m (i : Int), 1, 0⟩) 184), rMp .i64 mW (.map (some k2)) ps, rSpace sw τp, rSpace sp σp] := c.pick [0, 1, 2, 3, 4, 5]
    refine Jn1.at (fun v h' => v = .bool false ∧ ∃ σp τp, Sim σp τp ∧ σp.kn = σ0.kn ∧ Cx (fun _ => False) h h' [rVar ECl rc x, rVar ET rt (p37 20, 8), rMp .i64 mW (.map (some k1)) (knF (fun i => ⟨m (i : Int), 1, 0⟩) 184), rMp .i64 mW (.map (some k2)) ps, rSpace sw τp, rSpace sp σp]) ?_ ?_
    · cases hs : (lookA ps (j : Int)).isSome with
      | false =>
        rw [br_false]
        exact ⟨rfl, σp, τp, HS', kP', c⟩
      | true =>
        rw [br_true]
        have hm : (j : Int) ∈ ps.map (·.1) := by
          rw [hsub.look] at hs
          split at hs
          · assumption
          · cases hs
        have hkj : (σp.kn (j : Int)).isSome = true := by rw [kP', hkp, if_pos hm]; rfl
        obtain ⟨g1, g2, g3⟩ := sim_get HS' hkj
        refine c.cGet cs.toCsD 5 rfl fun h25 c => ?_
        refine c.cGet cs.toCsD 4 rfl fun h26 c => ?_
        rw [g1, neI, vb_some]
        exact ⟨rfl, _, _, g2, g3.trans kP', c⟩
    clear c
    rintro v h25 ⟨rfl, σp', τp', HS2, kP2, c⟩
    rw [br_false, bin_add, vb_some, wrS (by omega)]
    exact hagain2 (j + 1, σp', τp') _ _ ⟨rfl, by dsimp only; omega, HS2, kP2, c⟩ (by dsimp only; omega)
  · rw [k1', br_true, if_pos rfl]
    have hin := hrd _ k2'
    generalize P2.2.nd = z at *
    rw [hkp] at k3'
    have hna : z ∉ ps.map (·.1) := by
      intro hm
      rw [if_pos hm] at k3'; cases k3'
    rw [(c.mp (i := 2) rfl).look, vb_some, knF_look, if_pos (show 0 ≤ z ∧ z < ((184 : Nat) : Int) from hin)]
    obtain ⟨eu, hsub'⟩ := hsub.add (n := 184) hin hna
    have hl' := hpsl _ hsub'
    rw [List.length_append, List.length_singleton] at hl'
    refine c.mup 3 rfl z (⟨m (z.toNat : Int), 1, 0⟩ : W3) rfl fun h21 c => ?_
    rw [bin_add, vb_some, wrS (by omega)]
    rw [eu] at c
    refine hagain (ps ++ [(z, (⟨m (z.toNat : Int), 1, 0⟩ : W3))]) _ _ ⟨by rw [List.length_append]; rfl, hsub', c.drop (L := [_, _, _, _, _]) (L' := [_])⟩ (by rw [List.length_append, List.length_singleton]; omega)
end
end Go.En
