/-
  Layer 38: the law Stands.
-/
import Derived.Test.YtjnpmadojjfkpaaGreatZF
namespace Go.En
open Prog Spc Go.Sort

variable {S : Sys} {I : Ids} {h h0 h' : Hp} {F F0 : Fp} {R : Value → Hp → Prop} {L : List Res} {s : Value} {σ τ : Spc}
structure CsVA (S : Sys) (I : Ids) : Prop extends CsV9 S I where
  usta1 : ∀ {a b : Value} {h K}, F_simulcastlaw38_HeapStands_1 S I a b h K → S.C I.f_simulcastlaw38_HeapStands_1 [a, b] h K
section
variable {x : X38} {n : Int} {ps : List (Int × W3)} {m : Int → Int} {V : Int} {l : List Im} {hs : List Int} {g : G38} {K : Value → Hp → Prop} {r5 : Nat}
/-- an item's node and key, read from a state -/
theorem item_38 (cs : CsVA S I) (H : S38 n x ps m V l hs g) {j : Int} (j1 : 1 ≤ j) (jl : j ≤ l.length) (c : Cx F0 h0 h [rMp .i64 mW (.map x.k) ps, rVar ESt r5 x, rSl EIm (shV x.l) l, rSl EI1 (shV x.hs) hs])
    (hk : ∀ h', Cx F0 h0 h' [rMp .i64 mW (.map x.k) ps, rVar ESt r5 x, rSl EIm (shV x.l) l, rSl EI1 (shV x.hs) hs] → K (.tuple #[.int .i64 (g.A j), mK (m (g.A j + 0), m (g.A j + 2))]) h') : Cv S.C S.Y (.func (.func I.f_simulcastlaw38_HeapStands_1) #[] #[at0 r5]) [.int .i64 j] h K := by
  obtain ⟨hrD, hrm⟩ := H.rowD j1 jl
  have hAp := isN_pos H.T.H.P.P.good (H.T.H.P.N.an j j1 jl)
  have hD0 := H.itD j1 jl (o := 0) (by decide) (by decide)
  have e0 : g.A j + 0 = g.A j := Int.add_zero _
  refine .inl ⟨_, _, _, rfl, cs.usta1 ?_⟩
  unfold F_simulcastlaw38_HeapStands_1
  refine c.nw EPt (0, 0) rfl fun r4 h1 c => ?_
  refine En.vb (fa_add _ _ _) (En.vb ((c.va (i := 1) rfl).row.ldc (j := 0) rfl) ?_)
  rw [show lda 7 (at0 r5) h1 = some (vSt x) from (c.va (i := 1) rfl).whole rfl, vb_some]
  refine row_38 cs.toCsV9 H (i := 0) c rfl j1 jl fun h2 c => ?_
  refine ⟨(c.va (i := 1) rfl).row.ldc (j := 0) rfl, ?_⟩
  refine c.wrd (i := 0) rfl H.W hrD ?_
  rw [hrm]
  refine (c.va (i := 1) rfl).fld (j := 0) rfl ?_
  refine c.wrd (i := 0) rfl H.W (by rw [e0] at hD0; exact hD0) ?_
  refine (c.va (i := 1) rfl).fld (j := 0) rfl ?_
  rw [addI ⟨by omega, by omega⟩, vb_some]
  refine c.wrd (i := 0) rfl H.W (H.itD j1 jl (by decide) (by decide)) ?_
  rw [bldK, vb_some]
  refine c.sto 4 rfl (m (g.A j), m (g.A j + 2)) rfl rfl fun h3 c => ?_
  rw [show lda 2 (at0 r4) h3 = some (mK (m (g.A j), m (g.A j + 2))) from (c.va (i := 4) rfl).whole rfl, vb_some]
  have c := c.pick [0, 1, 2, 3]
  have := hk h3 c
  rw [e0] at this
  exact this
set_option maxHeartbeats 3200000 in
theorem L_HeapStands {b1 : Value} {cl : List C38} (cs : CsVA S I) (hn : 0 ≤ n ∧ n ≤ 255) (s1 : Sl EC8 h b1 cl) (w1 : ∀ y ∈ cl, y.ok) (hR : ∀ h', Gr h h' → R (.bool true) h') : F_simulcastlaw38_HeapStands S I (.int .u8 n) b1 h R := by
  unfold F_simulcastlaw38_HeapStands
  refine cs.great s1 ?_
  refine brd (fun _ => cs.awake hR) fun hlen => ?_
  refine cs.played hn s1 w1 (by omega) fun x ps m l hs g h3 H hhs _ c => ?_
  refine ext0t (ext1t ?_)
  refine c.nw ESt X0 rfl fun r5 h4 c => ?_
  refine c.sto 3 rfl x rfl rfl fun h5 c => ?_
  rw [uno_nb, vb_some, Bool.not_true, br_false, vb_some]
  have k32 := H.T.H.P.k32
  have hG := H.T.H.P.P.good
  have c : Cx (fun _ => False) h h5 [rMp .i64 mW (.map x.k) ps, rVar ESt r5 x, rSl EIm (shV x.l) l, rSl EI1 (shV x.hs) hs] := c.pick [0, 3, 1, 2]
  refine (c.va (i := 1) rfl).fld (j := 5) rfl ?_
  rw [(c.sl (i := 2) rfl).sl.ln, vb_some]
  refine Lp1.by (fun (i : Nat) u h' => u = .int .i64 ((i : Int) + 1) ∧ i ≤ l.length ∧ Cx (fun _ => False) h h' [rMp .i64 mW (.map x.k) ps, rVar ESt r5 x, rSl EIm (shV x.l) l, rSl EI1 (shV x.hs) hs]) (fun i => l.length - i) 0 ⟨rfl, Nat.zero_le _, c⟩ ?_
  clear c
  rintro i u h6 ⟨rfl, hi, c⟩ again hagain
  rw [bin_leq, vb_some]
  refine brd (fun e => ?_) fun e => ?_
  · obtain ⟨j, hj⟩ : ∃ j : Int, j = (i : Int) + 1 := ⟨_, rfl⟩
    rw [← hj] at e ⊢
    have j1 : 1 ≤ j := by omega
    have hAN := H.T.H.P.N.an j j1 e
    have hAp := isN_pos hG hAN
    refine item_38 cs H j1 e c fun h7 c => ?_
    refine ext0t (ext1t ?_)
    refine c.nw EPt (0, 0) rfl fun ri h8 c => ?_
    refine c.sto 4 rfl (m (g.A j + 0), m (g.A j + 2)) rfl rfl fun h9 c => ?_
    refine c.getP (i := 1) rfl ?_
    rw [H.p]
    refine c.pur (cs.node ⟨by omega, by omega⟩) fun h10 c => ?_
    unfold vN
    refine ext0t (ext1t ?_)
    refine .here ?_
    rw [isN_node hG hAN, uno_nb, vb_some, Bool.not_true, br_false]
    refine (c.va (i := 1) rfl).fld (j := 0) rfl ?_
    rw [addI ⟨by omega, by omega⟩, vb_some]
    refine c.wrd (i := 0) rfl H.W (H.itD j1 e (by decide) (by decide)) ?_
    rw [H.T.H.P.H.pos j j1 e (by omega), neI, vb_some]
    show Br _ _ _
    rw [br_false]
    have em : bin .mul (.int .i64 2) (.int .i64 j) = some (.int .i64 (2 * j)) := by rw [bin_mul, wr64 ⟨by omega, by omega⟩]
    rw [em, vb_some]
    refine Lp1.by (fun (q : Nat) u h' => u = .int .i64 (2 * j + q) ∧ q ≤ 2 ∧ Cx (fun _ => False) h h' [rMp .i64 mW (.map x.k) ps, rVar ESt r5 x, rSl EIm (shV x.l) l, rSl EI1 (shV x.hs) hs, rVar EPt ri (m (g.A j + 0), m (g.A j + 2))]) (fun q => 2 - q) 0 ⟨by congr 1; omega, by decide, c⟩ ?_
    clear c
    rintro q u h11 ⟨rfl, hq, c⟩ again2 hagain2
    refine Jn1.at (fun v h' => v = .bool (decide (q ≤ 1 ∧ 2 * j + q ≤ l.length)) ∧ h' = h11) ?_ ?_
    · rw [vb_some, addI ⟨by omega, by omega⟩, vb_some, bin_leq, vb_some]
      refine brd (fun e1 => ?_) fun e1 => ?_
      · rw [bin_leq, vb_some]
        refine ⟨?_, rfl⟩
        congr 1
        exact decide_eq_decide.2 ⟨fun h => ⟨by omega, h⟩, fun h => h.2⟩
      · exact ⟨by rw [decide_eq_false fun h => e1 (by omega)], rfl⟩
    rintro v h12 ⟨rfl, rfl⟩
    refine brd (fun e1 => ?_) fun e1 => ?_
    · obtain ⟨k, hk⟩ : ∃ k : Int, k = 2 * j + q := ⟨_, rfl⟩
      rw [← hk] at e1 ⊢
      have kd : k / 2 = j := by omega
      have c1 := Cx.pack (L := [rMp .i64 mW (.map x.k) ps, rVar ESt r5 x, rSl EIm (shV x.l) l, rSl EI1 (shV x.hs) hs]) (M := [rVar EPt ri (m (g.A j + 0), m (g.A j + 2))]) c
      obtain ⟨F1, c2, hF1, up⟩ := Cx.frameL (L := [rVar EPt ri (m (g.A j + 0), m (g.A j + 2))]) (M := [rMp .i64 mW (.map x.k) ps, rVar ESt r5 x, rSl EIm (shV x.l) l, rSl EI1 (shV x.hs) hs]) (c.pick [4, 0, 1, 2, 3])
      refine item_38 cs H (j := k) (by omega) e1.2 c2 fun h13 c3 => ?_
      have c : Cx (fun _ => False) h h13 [rVar EPt ri (m (g.A j + 0), m (g.A j + 2)), rMp .i64 mW (.map x.k) ps, rVar ESt r5 x, rSl EIm (shV x.l) l, rSl EI1 (shV x.hs) hs] := up c3
      clear c1 c2 c3 up
      refine ext0t (ext1t ?_)
      refine c.nw EPt (0, 0) rfl fun ro h14 c => ?_
      refine c.sto 5 rfl (m (g.A k + 0), m (g.A k + 2)) rfl rfl fun h15 c => ?_
      have hho := H.T.H.P.o k (by omega) e1.2
      rw [kd] at hho
      have hne : m (g.A k + 2) ≠ m (g.A j + 2) := fun e2 => by
        have h1 := H.T.H.inj ⟨k, by omega, e1.2, rfl⟩ ⟨j, j1, e, rfl⟩ e2
        have := H.T.H.P.N.ai k j (by omega) e1.2 j1 e h1
        omega
      have hklt : ¬ (m (g.A k + 0) < m (g.A j + 0) ∨ m (g.A k + 0) = m (g.A j + 0) ∧ m (g.A k + 2) < m (g.A j + 2)) := by
        have := klt_f.1 hho
        rw [Int.add_zero, Int.add_zero]
        exact this
      refine Jn1.at (fun v h' => v = .bool false ∧ h' = h15) ?_ ?_
      · have lo0 : ∀ {k' : Value → Prop}, k' (.int .i64 (m (g.A k + 0))) → Vb (ixa 2 1 (at0 ro) (.int .i64 0)) fun v => Vb (ldc v h15) k' := fun hk => En.vb (ixa_at (i := 0) rfl (by decide) 0) (En.vb ((c.va (i := 5) rfl).row.ldc (j := 0) rfl) hk)
        have lo1 : ∀ {k' : Value → Prop}, k' (.int .i64 (m (g.A k + 2))) → Vb (ixa 2 1 (at0 ro) (.int .i64 1)) fun v => Vb (ldc v h15) k' := fun hk => En.vb (ixa_at (i := 1) rfl (by decide) 0) (En.vb ((c.va (i := 5) rfl).row.ldc (j := 1) rfl) hk)
        have li0 : ∀ {k' : Value → Prop}, k' (.int .i64 (m (g.A j + 0))) → Vb (ixa 2 1 (at0 ri) (.int .i64 0)) fun v => Vb (ldc v h15) k' := fun hk => En.vb (ixa_at (i := 0) rfl (by decide) 0) (En.vb ((c.va (i := 0) rfl).row.ldc (j := 0) rfl) hk)
        have li1 : ∀ {k' : Value → Prop}, k' (.int .i64 (m (g.A j + 2))) → Vb (ixa 2 1 (at0 ri) (.int .i64 1)) fun v => Vb (ldc v h15) k' := fun hk => En.vb (ixa_at (i := 1) rfl (by decide) 0) (En.vb ((c.va (i := 0) rfl).row.ldc (j := 1) rfl) hk)
        refine lo0 (li0 ?_)
        rw [bin_lss, vb_some]
        refine brd (fun e3 => absurd (.inl e3) hklt) fun e3 => ?_
        refine lo0 (li0 ?_)
        rw [bin_eql, vb_some]
        refine brd (fun e4 => ?_) fun e4 => ⟨rfl, rfl⟩
        refine lo1 (li1 ?_)
        rw [bin_leq, vb_some]
        refine ⟨?_, rfl⟩
        rw [decide_eq_false fun h5 => hklt (.inr ⟨e4, by omega⟩)]
      rintro v h16 ⟨rfl, rfl⟩
      rw [br_false, hk, addI ⟨by omega, by omega⟩, vb_some]
      exact hagain2 (q + 1) _ _ ⟨by congr 1; omega, by omega, c.pick [1, 2, 3, 4, 0]⟩ (by omega)
    · rw [hj, addI ⟨by omega, by omega⟩, vb_some]
      exact hagain (i + 1) _ _ ⟨by congr 1, by omega, c.pick [0, 1, 2, 3]⟩ (by omega)
  -- the rows
  clear hagain again
  refine Lp1.by (fun (q : Nat) u h' => u = .int .i64 q ∧ q ≤ 4 ∧ Cx (fun _ => False) h h' [rMp .i64 mW (.map x.k) ps, rVar ESt r5 x, rSl EIm (shV x.l) l, rSl EI1 (shV x.hs) hs]) (fun q => 4 - q) 0 ⟨rfl, by decide, c⟩ ?_
  clear c
  rintro q u h7 ⟨rfl, hq, c⟩ again hagain
  rw [bin_lss, vb_some]
  refine brd (fun e1 => ?_) fun e1 => ?_
  · refine (c.va (i := 1) rfl).fld (j := 0) rfl ?_
    rw [addI ⟨by omega, by omega⟩, vb_some]
    refine c.wrd (i := 0) rfl H.W (a := 19 + (q : Int)) ⟨by omega, by omega⟩ ?_
    have hrow : m (19 + (q : Int)) ≠ 0 ↔ 8 * (q : Int) < l.length := by
      have e19 : (16 : Int) + (3 + (q : Int)) = 19 + q := by omega
      constructor
      · intro h1
        refine Classical.byContradiction fun h2 => h1 ?_
        have := H.T.H.P.z q (by omega) (by omega) (by omega)
        rwa [e19] at this
      · intro h1
        have h2 := H.T.H.P.H.row q (by omega) h1
        rw [e19] at h2
        have := isN_pos hG (H.T.H.P.N.rn q (by omega) h1)
        rw [h2]; omega
    have em : bin .mul (.int .i64 8) (.int .i64 (q : Int)) = some (.int .i64 (8 * (q : Int))) := by rw [bin_mul, wr64 ⟨by omega, by omega⟩]
    rw [bin_neq, vb_some, em, vb_some, bin_lss, vb_some, eqB_, vb_some]
    refine brd (fun h => absurd (decide_eq_decide.2 hrow) h) fun _ => ?_
    rw [bin_add, vb_some, wrS (by omega)]
    exact hagain (q + 1) _ _ ⟨rfl, by omega, c⟩ (by omega)
  -- the handles
  clear hagain again
  refine (c.va (i := 1) rfl).fld (j := 6) rfl ?_
  rw [(c.sl (i := 3) rfl).sl.ln, vb_some]
  refine Lp1.by (fun (q : Nat) u h' => u = .int .i64 q ∧ q ≤ hs.length ∧ Cx (fun _ => False) h h' [rMp .i64 mW (.map x.k) ps, rVar ESt r5 x, rSl EIm (shV x.l) l, rSl EI1 (shV x.hs) hs]) (fun q => hs.length - q) 0 ⟨rfl, Nat.zero_le _, c⟩ ?_
  clear c
  rintro q u h8 ⟨rfl, hq, c⟩ again hagain
  rw [bin_lss, vb_some]
  refine brd (fun e2 => ?_) fun _ => cs.awake fun h4 g => hR h4 (c.more g).gr
  have hlt : q < hs.length := by omega
  have hgx : hs[q]? = some hs[q] := List.getElem?_eq_getElem hlt
  generalize hs[q] = y at *
  refine (c.sl (i := 3) rfl).sl.one rfl hgx rfl rfl ?_
  refine (c.va (i := 1) rfl).fld (j := 5) rfl ?_
  refine cs.rfind (c.sl (i := 2) rfl).sl (by omega) fun z hz => ?_
  refine Jn1.at (fun v h' => v = .bool false ∧ h' = h8) ?_ ?_
  · rw [bin_geq, vb_some]
    rcases H.T.H.find hz with ⟨i2, y2, rfl, hi2, hy2, _, _, h4⟩ | ⟨rfl, _⟩
    · rw [Int.toNat_natCast, hgx] at h4
      injection h4 with h4
      subst h4
      obtain ⟨i3, i31, i3l, ei3⟩ := hy2
      have hyN := H.T.H.P.N.an i3 i31 i3l
      rw [ei3] at hyN
      have hyp := isN_pos hG hyN
      have hD0 := H.dn hyN (o := 0) (by decide) (by decide)
      have e0 : y + 0 = y := Int.add_zero y
      refine brd (fun _ => ?_) fun h => by omega
      refine (c.va (i := 1) rfl).fld (j := 0) rfl ?_
      refine c.wrd (i := 0) rfl H.W (by rw [e0] at hD0; exact hD0) ?_
      refine (c.va (i := 1) rfl).fld (j := 5) rfl ?_
      refine (c.sl (i := 2) rfl).sl.fld rfl hi2 rfl (j := 0) rfl ?_
      refine En.vb (v := .bool false) (by show bin .neq (.int .i64 (m y)) (.int .i64 (m (y + 0))) = _; rw [e0]; exact neI _) ?_
      rw [br_false]
      refine (c.va (i := 1) rfl).fld (j := 0) rfl ?_
      rw [addI ⟨by omega, by omega⟩, vb_some]
      refine c.wrd (i := 0) rfl H.W (H.dn hyN (by decide) (by decide)) ?_
      refine (c.va (i := 1) rfl).fld (j := 5) rfl ?_
      refine (c.sl (i := 2) rfl).sl.fld rfl hi2 rfl (j := 1) rfl ?_
      exact En.vb (neI (m (y + 1))) ⟨rfl, rfl⟩
    · refine brd (fun h => by omega) fun _ => ⟨rfl, rfl⟩
  rintro v h9 ⟨rfl, rfl⟩
  rw [br_false, bin_add, vb_some, wrS (by omega)]
  exact hagain (q + 1) _ _ ⟨rfl, by omega, c⟩ (by omega)
end
end Go.En
