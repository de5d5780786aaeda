/-
  Layer 30: words from a table; acts that are brought into range; the law Back.
-/
import Derived.Test.YtggieecoagcmbaaLsE
import Derived.Test.YtggieecoagcmbaaEngR
namespace Go.En
open Prog Spc Go.Sort

variable {S : Sys} {I : Ids} {h h0 h' : Hp} {F F0 : Fp} {R : Value → Hp → Prop} {L : List Res} {s : Value} {σ : Spc}

/-- words from a table, as entries of a map -/
def knF (g : Nat → W3) (n : Nat) : List (Int × W3) := (List.range n).map fun (i : Nat) => ((i : Int), g i)
theorem knF_keys (g : Nat → W3) (n : Nat) : (knF g n).map (·.1) = (List.range n).map fun (i : Nat) => (i : Int) := by
  unfold knF; rw [List.map_map]; rfl
theorem knF_nodup (g : Nat → W3) (n : Nat) : ((knF g n).map (·.1)).Nodup := by
  rw [knF_keys]
  unfold List.Nodup
  rw [List.pairwise_map]
  refine List.Pairwise.imp (R := fun a b : Nat => a ≠ b) (fun {a b} hne e => hne (Int.ofNat.inj e)) List.nodup_range
theorem knF_val {g : Nat → W3} {n : Nat} (hg : ∀ i, i < n → R64 (g i).v) : ∀ p ∈ knF g n, R64 p.2.v := fun p hp => by
  obtain ⟨i, hi, rfl⟩ := List.mem_map.1 hp
  exact hg i (List.mem_range.1 hi)
theorem knF_look {g : Nat → W3} {n : Nat} {a : Int} : lookA (knF g n) a = if 0 ≤ a ∧ a < n then some (g a.toNat) else none := by
  split
  · rename_i hx
    rw [← lookA_mem (knF_nodup g n)]
    exact List.mem_map.2 ⟨a.toNat, List.mem_range.2 (by omega), by rw [Int.toNat_of_nonneg hx.1]⟩
  · rename_i hx
    unfold lookA
    rw [Option.map_eq_none_iff, List.find?_eq_none]
    intro p hp
    obtain ⟨i, hi, rfl⟩ := List.mem_map.1 hp
    have := List.mem_range.1 hi
    simp only [beq_iff_eq]
    omega
theorem knF_upd {g : Nat → W3} {n : Nat} : updA (knF g n) (n : Int) (g n) = knF g (n + 1) := by
  rw [updA_end (by rw [knF_look, if_neg (by omega)])]
  unfold knF
  rw [List.range_succ, List.map_append]; rfl
theorem newS_knF {g : Nat → W3} {n : Nat} (hg : ∀ i, i < n → (g i).ref = 0) {a : Int} : (newS (knF g n)).kn a = if 0 ≤ a ∧ a < n then some (g a.toNat) else none := by
  show (lookA (knF g n) a).filter _ = _
  rw [knF_look]
  split
  · rename_i hx
    simp [Option.filter, hg a.toNat (by omega)]
  · rfl
theorem InN.start {g : Nat → W3} {n : Nat} (hv : ∀ i, i < n → R64 (g i).v) : InN n (newS (knF g n)).kn (newS (knF g n)) :=
  ⟨rfl, rfl, List.nodup_nil, (fun a ha => by cases ha), newS_wf (knF_val hv)⟩
theorem Dom.start {g : Nat → W3} {n : Nat} (hg : ∀ i, i < n → (g i).ref = 0) : Dom n (newS (knF g n)).kn := fun a h1 h2 => by
  rw [newS_knF hg, if_pos ⟨h1, h2⟩]; rfl

theorem Cx.cNew {v : Value} {ps : List (Int × W3)} (cs : CsD S I) (c : Cx F0 h0 h L) (i : Nat) (hi : L[i]? = some (rMp .i64 mW v ps)) (hn : (ps.map (·.1)).Nodup) (hv : ∀ p ∈ ps, R64 p.2.v)
    (k : ∀ s h', Cx F0 h0 h' (L.set i (rMp .i64 mW v ps) ++ [rSpace s (newS ps)]) → R s h') : S.C I.f_space_New [v] h R := by
  obtain ⟨F1, c1, up⟩ := c.frame hi
  exact cs.new hn hv c1 fun s h' c2 => k s h' (up c2)

/-- a place brought into the first n -/
def nz (n a : Int) : Int := (a.tmod n + n).tmod n
theorem tmod_lt {n a : Int} (hn : 0 < n) : -n < a.tmod n ∧ a.tmod n < n := by
  refine ⟨?_, Int.tmod_lt_of_pos a hn⟩
  have := Int.tmod_lt_of_pos (-a) hn
  rw [Int.neg_tmod] at this
  omega
theorem nz_in {n a : Int} (hn : 0 < n) : 0 ≤ nz n a ∧ nz n a < n := by
  have := tmod_lt (a := a) hn
  unfold nz
  rw [Int.tmod_eq_emod_of_nonneg (by omega)]
  exact ⟨Int.emod_nonneg _ (by omega), Int.emod_lt_of_pos _ hn⟩
def Ac.nz (n : Int) (x : Ac) : Ac := { x with at' := En.nz n x.at' }
structure Ac.ok (x : Ac) : Prop where
  d : x.d < 256
  at' : R64 x.at'
  v : R64 x.v
theorem Cx.norm {r : Nat} {x : Ac} (c : Cx F0 h0 h L) (i : Nat) (hi : L[i]? = some (rVar EAc r x)) {K : Hp → Prop} (hK : ∀ h', Cx F0 h0 h' (L.set i (rVar EAc r (x.nz 8))) → K h') :
    Vb (fa 1 (at0 r)) fun v56 => Vb (ldc v56 h) fun v57 => Vb (bin .rem v57 (Value.int IntKind.i64 8)) fun v58 => Vb (bin .add v58 (Value.int IntKind.i64 8)) fun v59 => Vb (bin .rem v59 (Value.int IntKind.i64 8)) fun v60 =>
      Vb (fa 1 (at0 r)) fun v61 => Sb (En.sto 1 v61 v60 h) K := by
  refine (c.va hi).fld (j := 1) rfl ?_
  have := tmod_lt (a := x.at') (n := 8) (by omega)
  rw [bin_rem (by omega), vb_some, bin_add, vb_some, wr64 (by omega), bin_rem (by omega), vb_some]
  exact c.stof i hi (j := 1) (x.nz 8) rfl (by decide) rfl hK
theorem Cx.cAct2 {x : Ac} (cs : CsR4 S I) (c : Cx F0 h0 h L) (i : Nat) (hi : L[i]? = some (rSpace s σ)) (hv : R64 x.v) (hd : x.d < 256) (hl : σ.pu.length ≤ big) {v : Value} (hx : v = mAc x)
    (k : ∀ y z h', Cx F0 h0 h' (L.set i (rSpace s (σ.act x))) → R (.tuple #[y, z]) h') : S.C I.f_simulcastlaw30_do [s, mRZ RZ0, v] h R := by subst hx; exact c.cAct cs i hi hv hd hl k
theorem z0 : bldS [(0, 1), (1, 1), (2, 1), (3, 1), (4, 1)] #[Value.slice none 0 0, Value.slice none 0 0, Value.slice none 0 0, Value.bool false, Value.int IntKind.i64 0] [] = some (mRZ RZ0) := by kernel_rfl
theorem bldW (v r : Int) : bldS [(0, 1), (1, 1), (2, 1)] #[Value.int IntKind.i64 0, Value.int IntKind.u32 0, Value.int IntKind.u32 0] [(0, .int .i64 v), (1, .int .u32 r)] = some (mW ⟨v, r, 0⟩) := by kernel_rfl
theorem bldW0 (v : Int) : bldS [(0, 1), (1, 1), (2, 1)] #[Value.int IntKind.i64 0, Value.int IntKind.u32 0, Value.int IntKind.u32 0] [(0, .int .i64 v)] = some (mW ⟨v, 0, 0⟩) := by kernel_rfl

structure CsR5 (S : Sys) (I : Ids) : Prop extends CsR4 S I where
  awake : ∀ {h R}, (∀ h', Gr h h' → R (.bool true) h') → S.C I.f_simulcastlaw30_awake [] h R

theorem cpt_len : ∀ l : List Int, (cpt l).length ≤ l.length
  | [] => Nat.le_refl _
  | [a] => Nat.le_refl _
  | a :: b :: l => by
    have := cpt_len (b :: l)
    rw [cpt]
    split
    · simp only [List.length_cons] at this ⊢; omega
    · simp only [List.length_cons] at this ⊢; omega
theorem ents_len (σ : Spc) : σ.ents.1.length ≤ σ.rd.length := by
  have : σ.entl.length = σ.rd.length := by unfold Spc.entl; rw [List.length_map, sorted_len]
  unfold Spc.ents
  split
  · exact Nat.zero_le _
  · split
    · exact Nat.zero_le _
    · split
      · exact Nat.zero_le _
      · exact Nat.le_of_eq this
/-- all places of the first n are read -/
def Spc.gets (σ : Spc) : Nat → Spc
  | 0 => σ
  | n + 1 => ((σ.gets n).get n).2
theorem InN.gets {n : Nat} {k : Int → Option W3} (D : Dom n k) (H : InN n k σ) : ∀ m : Nat, m ≤ n → InN n k (σ.gets m) ∧ (σ.gets m).pu = σ.pu ∧ (∀ a : Int, a ∈ (σ.gets m).rd ↔ a ∈ σ.rd ∨ (0 ≤ a ∧ a < m))
  | 0, _ => ⟨H, rfl, fun a => ⟨.inl, fun h => h.elim id fun h => by omega⟩⟩
  | m + 1, hm => by
    obtain ⟨h1, h2, h3⟩ := H.gets D m (by omega)
    refine ⟨h1.get D (by omega), by show (Spc.get _ _).2.pu = _; rw [get_pu]; exact h2, fun a => ?_⟩
    show a ∈ (Spc.get _ _).2.rd ↔ _
    rw [h1.getE D (by omega), mem_rds, h3]
    constructor
    · rintro (h | h | h)
      · exact .inr (by omega)
      · exact .inl h
      · exact .inr (by omega)
    · rintro (h | h)
      · exact .inr (.inl h)
      · by_cases e : a = m
        · exact .inl e
        · exact .inr (.inr (by omega))

section
variable {xs ys : List Ac} {f : Nat → Int} {b1 b2 : Value}
theorem L_SpaceBack (cs : CsR5 S I) (hf : ∀ i, i < 8 → R64 (f i)) (s1 : Sl EAc h b1 xs) (w1 : ∀ x ∈ xs, x.ok) (s2 : Sl EAc h b2 ys) (w2 : ∀ x ∈ ys, x.ok) (hR : ∀ h', Gr h h' → R (.bool true) h') :
    F_simulcastlaw30_SpaceBack S I (.agg ⟨(EAr .i64 8).c f⟩) b1 b2 h R := by
  unfold F_simulcastlaw30_SpaceBack
  have c := Cx.start0 h
  refine c.nw (EAr .i64 8) f rfl fun rv h1 c => ?_
  refine cs.awake fun h2 g2 => ?_
  have c := c.more g2
  clear g2
  refine vb (v := .bool false) rfl ?_
  rw [br_false]
  refine Jn1.at (fun u h' => (u = .bool true ∨ u = .bool false ∧ xs.length ≤ 40 ∧ ys.length ≤ 40) ∧ Cx (fun _ => False) h h' [rVar (EAr .i64 8) rv f]) ?_ ?_
  · rw [s1.ln, vb_some, bin_gtr, vb_some]
    refine brd (fun h3 => ⟨.inl rfl, c⟩) fun h3 => ?_
    rw [s2.ln, vb_some, bin_gtr, vb_some]
    refine ⟨?_, c⟩
    by_cases h4 : (40 : Int) < ys.length
    · rw [decide_eq_true h4]; exact .inl rfl
    · rw [decide_eq_false h4]; exact .inr ⟨rfl, by omega, by omega⟩
  clear c
  rintro u h3 ⟨hu, c⟩
  rcases hu with rfl | ⟨rfl, hl1, hl2⟩
  · rw [br_true]; exact hR _ c.gr
  rw [br_false]
  refine c.mmk .i64 mW fun m h4 c => ?_
  let g : Nat → W3 := fun i => ⟨f i, 0, 0⟩
  refine Lp1.by (fun (i : Nat) v h' => v = .int .i64 i ∧ i ≤ 8 ∧ Cx (fun _ => False) h h' [rVar (EAr .i64 8) rv f, rMp .i64 mW (.map (some m)) (knF g i)]) (fun i => 8 - i) 0 ⟨rfl, by omega, by simpa [knF] using c⟩ ?_
  clear c
  rintro i v h5 ⟨rfl, hi, c⟩ again hagain
  rw [bin_lss, vb_some]
  refine brd (fun h6 => ?_) fun h6 => ?_
  · refine (c.va (i := 0) rfl).ix rfl (by omega) ?_
    rw [bldW0, vb_some]
    refine c.mup 1 rfl i (g i) rfl fun h7 c => ?_
    rw [bin_add, vb_some, wrS (by omega)]
    rw [knF_upd] at c
    exact hagain (i + 1) _ _ ⟨rfl, by omega, c⟩ (by omega)
  have e8 : i = 8 := by omega
  subst e8
  clear hagain again hi h6
  have hgv : ∀ i, i < 8 → R64 (g i).v := hf
  refine c.cNew cs.toCsD 1 rfl (knF_nodup _ _) (knF_val hgv) fun sa h6 c => ?_
  refine c.cNew cs.toCsD 1 rfl (knF_nodup _ _) (knF_val hgv) fun sb h7 c => ?_
  have D : Dom 8 (newS (knF g 8)).kn := Dom.start (g := g) (n := 8) fun i _ => rfl
  have H0 : InN 8 (newS (knF g 8)).kn (newS (knF g 8)) := InN.start (g := g) (n := 8) hgv
  have hkr : ∀ a w, (newS (knF g 8)).kn a = some w → w.ref = 0 := newS_ref
  have c := (c.front 3 rfl).front 3 rfl |>.drop (L := [_, _]) (L' := [_, _])
  have hp0 : (newS (knF g 8)).pu.length = 0 := rfl
  generalize newS (knF g 8) = σ0 at *
  -- both do the acts ahead
  refine Lp1.by (fun (x : Nat × Spc) v h' => v = .int .i64 x.1 ∧ x.1 ≤ xs.length ∧ InN 8 σ0.kn x.2 ∧ x.2.pu.length ≤ x.1 ∧ Cx (fun _ => False) h h' [rSpace sa x.2, rSpace sb x.2]) (fun x => xs.length - x.1) (0, σ0)
    ⟨rfl, Nat.zero_le _, H0, Nat.le_of_eq hp0, c⟩ ?_
  clear c
  rintro ⟨i, σ⟩ v h8 ⟨rfl, hi, H, hp, c⟩ again hagain
  dsimp only at *
  rw [s1.ln, vb_some, bin_lss, vb_some]
  refine brd (fun h9 => ?_) fun h9 => ?_
  · have hx : xs[i]? = some xs[i] := List.getElem?_eq_getElem (by omega)
    have hok := w1 xs[i] (List.getElem_mem _)
    refine (s1.gr c.gr).whole rfl hx rfl ?_
    refine c.nw EAc ⟨0, 0, 0⟩ rfl fun rx h10 c => ?_
    refine c.sto 2 rfl xs[i] rfl rfl fun h11 c => ?_
    refine c.norm 2 rfl fun h12 c => ?_
    refine vb z0 ?_
    rw [(c.va (i := 2) rfl).whole (n := 3) rfl, vb_some]
    refine c.cAct2 cs.toCsR4 0 rfl (x := xs[i].nz 8) hok.v hok.d (by unfold big; omega) rfl fun _ _ h13 c => ?_
    refine ext0t (ext1t ?_)
    refine vb z0 ?_
    rw [(c.va (i := 2) rfl).whole (n := 3) rfl, vb_some]
    refine c.cAct2 cs.toCsR4 1 rfl (x := xs[i].nz 8) hok.v hok.d (by unfold big; omega) rfl fun _ _ h14 c => ?_
    refine ext0t (ext1t ?_)
    rw [bin_add, vb_some, wrS (by omega)]
    have hl := act_len (σ := σ) (x := xs[i].nz 8)
    exact hagain (i + 1, σ.act (xs[i].nz 8)) _ _ ⟨rfl, by omega, H.act D (nz_in (by omega)) hok.v (by unfold big; omega), by dsimp only; omega, c.drop (L := [_, _]) (L' := [_])⟩ (by dsimp only; omega)
  clear hagain again
  refine c.cMark cs.toCsD 0 rfl fun h10 c => ?_
  -- one does the acts behind, but for Back
  refine Lp1.by (fun (x : Nat × Spc) v h' => v = .int .i64 x.1 ∧ x.1 ≤ ys.length ∧ InN 8 σ0.kn x.2 ∧ x.2.pu.length ≤ 40 + x.1 ∧ (∃ ex, x.2.pu = σ.pu ++ ex) ∧ Cx (fun _ => False) h h' [rSpace sa x.2, rSpace sb σ]) (fun x => ys.length - x.1) (0, σ)
    ⟨rfl, Nat.zero_le _, H, by dsimp only; omega, ⟨[], by simp⟩, c⟩ ?_
  clear c
  rintro ⟨j, τ⟩ v h8 ⟨rfl, hj, H2, hp2, hex, c⟩ again hagain
  dsimp only at *
  rw [s2.ln, vb_some, bin_lss, vb_some]
  refine brd (fun h9 => ?_) fun h9 => ?_
  · have hx : ys[j]? = some ys[j] := List.getElem?_eq_getElem (by omega)
    have hok := w2 ys[j] (List.getElem_mem _)
    refine Jn0.at (fun h' => ∃ τ', InN 8 σ0.kn τ' ∧ τ'.pu.length ≤ 40 + (j + 1) ∧ (∃ ex, τ'.pu = σ.pu ++ ex) ∧ Cx (fun _ => False) h h' [rSpace sa τ', rSpace sb σ]) ?_ ?_
    · refine (s2.gr c.gr).whole rfl hx rfl ?_
      refine c.nw EAc ⟨0, 0, 0⟩ rfl fun rx h10 c => ?_
      refine c.sto 2 rfl ys[j] rfl rfl fun h11 c => ?_
      refine c.norm 2 rfl fun h12 c => ?_
      refine (c.va (i := 2) rfl).fld (j := 0) rfl ?_
      have hrem : bin .rem (.int .u8 ((ys[j].d : Nat) : Int)) (.int .u8 4) = some (.int .u8 ((ys[j].d % 4 : Nat) : Int)) := by
        rw [bin_rem (by omega)]; congr 2
      show Vb (bin .rem (.int .u8 ((ys[j].d : Nat) : Int)) (.int .u8 4)) _
      rw [hrem, vb_some, bin_neq, vb_some]
      refine brd (fun h13 => ?_) fun h13 => ?_
      · refine vb z0 ?_
        rw [(c.va (i := 2) rfl).whole (n := 3) rfl, vb_some]
        refine c.cAct2 cs.toCsR4 0 rfl (x := ys[j].nz 8) hok.v hok.d (by unfold big; omega) rfl fun _ _ h13 c => ?_
        refine ext0t (ext1t ?_)
        have hl := act_len (σ := τ) (x := ys[j].nz 8)
        exact ⟨τ.act (ys[j].nz 8), H2.act D (nz_in (by omega)) hok.v (by unfold big; omega), by omega, H2.ext D (nz_in (by omega)) (by show ys[j].d % 4 ≠ 2; omega) hex, c.drop (L := [_, _]) (L' := [_])⟩
      · exact ⟨τ, H2, by omega, hex, c.drop (L := [_, _]) (L' := [_])⟩
    · rintro h10 ⟨τ', H3, hp3, hex3, c⟩
      rw [bin_add, vb_some, wrS (by omega)]
      exact hagain (j + 1, τ') _ _ ⟨rfl, by omega, H3, hp3, hex3, c⟩ (by dsimp only; omega)
  clear hagain again
  refine c.cBack cs.toCsD 0 rfl fun h11 c => ?_
  have H3 := H2.back (σ.pu.length : Int)
  have e3 : (τ.back (σ.pu.length : Int)).pu = σ.pu := by
    obtain ⟨ex, e⟩ := hex
    unfold Spc.back
    rw [H2.en, if_neg (by simp), if_pos ⟨by omega, by rw [e, List.length_append]; omega⟩]
    show τ.pu.take _ = _
    rw [e, Int.toNat_natCast, List.take_left']; rfl
  generalize τ.back (σ.pu.length : Int) = ρ at *
  refine Jn1.at (fun u h' => u = .bool false ∧ Cx (fun _ => False) h h' [rSpace sa ρ, rSpace sb σ]) ?_ ?_
  · refine c.cMark cs.toCsD 0 rfl fun h10 c => ?_
    rw [e3, bin_neq, vb_some]
    refine brd (fun h11 => absurd rfl h11) fun _ => ?_
    obtain ⟨F1, a1⟩ := c.get (i := 0) rfl
    refine cs.ended a1 ?_
    rw [H3.en, br_false]
    refine c.cWrites cs.toCsH 0 rfl (by rw [e3]; omega) fun w1 h12 c => ?_
    refine c.cWrites cs.toCsH 1 rfl (by omega) fun w2 h13 c => ?_
    rw [e3] at c
    refine cs.same30 (xs := cpt (sorted (σ.pu.map (·.1)))) ?_ (c.sl (i := 2) rfl).sl (c.sl (i := 3) rfl).sl ?_
    · have := cpt_len (sorted (σ.pu.map (·.1)))
      rw [sorted_len, List.length_map] at this
      omega
    refine vb (v := .bool false) rfl ?_
    exact ⟨rfl, c.drop (L := [_, _]) (L' := [_, _])⟩
  clear c
  rintro u h12 ⟨rfl, c⟩
  rw [br_false]
  refine Lp1.by (fun (i : Nat) v h' => v = .int .i64 i ∧ i ≤ 8 ∧ Cx (fun _ => False) h h' [rSpace sa (ρ.gets i), rSpace sb (σ.gets i)]) (fun i => 8 - i) 0 ⟨rfl, by omega, c⟩ ?_
  clear c
  rintro q v h13 ⟨rfl, hq, c⟩ again hagain
  obtain ⟨A1, A2, A3⟩ := H3.gets (n := 8) D q hq
  obtain ⟨B1, B2, B3⟩ := H.gets (n := 8) D q hq
  rw [bin_lss, vb_some]
  refine brd (fun h14 => ?_) fun h14 => ?_
  · refine c.cGet cs.toCsD 0 rfl fun h15 c => ?_
    refine c.cGet cs.toCsD 1 rfl fun h16 c => ?_
    rw [bin_neq, vb_some]
    have ev : ((ρ.gets q).get q).1 = ((σ.gets q).get q).1 := by
      rw [A1.getE D (by omega), B1.getE D (by omega)]
      exact vw_congr (A1.kn.trans B1.kn.symm) (by rw [A2, B2, e3])
    refine brd (fun h17 => absurd ev h17) fun _ => ?_
    rw [bin_add, vb_some, wrS (by omega)]
    exact hagain (q + 1) _ _ ⟨rfl, by omega, c⟩ (by omega)
  have e8 : q = 8 := by omega
  subst e8
  have ee : (ρ.gets 8).ents = (σ.gets 8).ents := ents_same (A1.en.trans B1.en.symm) A1.nd B1.nd (fun a => by
      rw [A3, B3]
      have := H3.rd a; have := H.rd a
      constructor
      · rintro (h | h)
        · exact .inr (H3.rd a h)
        · exact .inr h
      · rintro (h | h)
        · exact .inr (H.rd a h)
        · exact .inr h) fun a _ => ent_congr (A1.kn.trans B1.kn.symm) (by rw [A2, B2, e3])
  refine c.cEntries cs.toCsH 0 rfl (by have := A1.rdlen (by omega); omega) (by rw [A1.kn]; exact hkr) fun x h15 c => ?_
  refine ext0t (ext1t ?_)
  refine c.cEntries cs.toCsH 1 rfl (by have := B1.rdlen (by omega); omega) (by rw [B1.kn]; exact hkr) fun y h16 c => ?_
  refine ext0t (ext1t ?_)
  refine .here ?_
  rw [ee] at c ⊢
  rw [bin_eql, vb_some]
  refine brd (fun _ => ?_) fun h17 => absurd rfl h17
  refine cs.alike (xs := (σ.gets 8).ents.1) ?_ (c.sl (i := 2) rfl).sl (c.sl (i := 3) rfl).sl ?_
  · have := ents_len (σ.gets 8)
    have := B1.rdlen (by omega)
    omega
  exact hR _ c.gr
end
end Go.En
