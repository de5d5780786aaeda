/-
  Layer 33: the law Turns.
-/
import Derived.Test.YtalhmlnmbgpleaaDoorYE
namespace Go.En
open Prog Spc Go.Sort

variable {S : Sys} {I : Ids} {h h0 h' : Hp} {F F0 : Fp} {R : Value → Hp → Prop} {L : List Res} {s : Value} {σ τ : Spc}
theorem nbb (b : Bool) : neg? (eqB (.bool b) (.bool b)) = some (.bool false) := by cases b <;> rfl
section
variable {b1 b2 : Value} {cl : List C33} {n : Int} {us : List Int}
set_option maxRecDepth 4000 in
set_option maxHeartbeats 3200000 in
theorem L_StackTurns (cs : CsS9' S I) (hn0 : 0 ≤ n ∧ n ≤ 255) (s1 : Sl ECs h b1 cl) (w1 : ∀ y ∈ cl, y.ok) (s2 : Sl EI1 h b2 us) (w2 : ∀ y ∈ us, R64 y) (hRt : Rt (fun _ => False) h) (hR : ∀ h', Gr h h' → R (.bool true) h') : F_simulcastlaw33_StackTurns S I (.int .u8 n) b1 b2 h R := by
  unfold F_simulcastlaw33_StackTurns
  refine Jn1.at (fun v h' => ∃ q : Bool, v = .bool q ∧ h' = h ∧ (q = false → cl.length ≤ 60 ∧ us.length ≤ 20)) ?_ ?_
  · refine cs.great s1 ?_
    refine brd (fun hb => ⟨true, rfl, rfl, fun h => by cases h⟩) fun hb => ?_
    rw [s2.ln, vb_some, bin_gtr, vb_some]
    refine ⟨_, rfl, rfl, fun hq => ?_⟩
    have := of_decide_eq_false hq
    omega
  · rintro v h1 ⟨q, rfl, eh, hq⟩
    have eh := eh.symm
    subst eh
    cases q with
    | true => rw [br_true]; exact cs.awake hRt hR
    | false =>
      obtain ⟨hc60, hu20⟩ := hq rfl
      rw [br_false]
      refine cs.played hn0 s1 w1 hc60 hRt fun x ps m h1 H c => ?_
      generalize acts33 (n % 17) cl = l at *
      generalize n % 17 = n' at *
      have hn := H.nn
      refine ext0t (ext1t ?_)
      refine c.nw ESt X0 rfl fun r7 h2 c => ?_
      refine c.sto 3 rfl x rfl rfl fun h3 c => ?_
      rw [uno_nb, vb_some, Bool.not_true, br_false]
      refine (c.va (i := 3) rfl).fld (j := 0) rfl ?_
      refine c.nw EI1 0 rfl fun rl h4 c => ?_
      refine c.sto1 4 rfl 0 rfl rfl fun h5 c => ?_
      have c := c.nil EI1
      rw [s2.ln, vb_some]
      refine Lp3.by (fun (z : Nat × List Int × Option Nat × List (Int × W3) × (Int → Int) × Int) pv w v h' => v = .int .i64 z.1 ∧ z.1 ≤ us.length ∧ z.2.1.length ≤ z.1 ∧ w = .map z.2.2.1 ∧ WoR 192 z.2.2.2.1 z.2.2.2.2.1 (cl.length + z.1) ∧ Two n' (rt 0) (rt 1) z.2.2.2.2.1 (z.2.1.reverse ++ (l 0).reverse) (l 1).reverse ∧
          Cx (fun _ => False) h h' [rMp .i64 mW w z.2.2.2.1, rVar ESt r7 x, rVar EI1 rl z.2.2.2.2.2, rSl EI1 pv z.2.1, rSl EI1 (shV (x.l 0)) (l 0), rSl EI1 (shV (x.l 1)) (l 1)]) (fun z => us.length - z.1)
        (0, [], x.k, ps, m, 0) ⟨rfl, Nat.zero_le _, Nat.le_refl _, rfl, by dsimp only; rw [show (cl.length : Int) + ((0 : Nat) : Int) = cl.length by omega]; exact H.W, H.T, c.pick [0, 3, 4, 5, 1, 2]⟩ ?_
      clear c
      rintro ⟨i, pl, k, qs, mm, lv⟩ pv w v h6 ⟨rfl, hi, hpl, rfl, W, T, c⟩ again hagain
      dsimp only at *
      rw [bin_lss, vb_some]
      refine brd (fun hlt => ?_) fun hge => ?_
      · have hlt : i < us.length := by omega
        have hx : us[i]? = some us[i] := List.getElem?_eq_getElem hlt
        have hok := w2 us[i] (List.getElem_mem _)
        generalize us[i] = u at *
        refine .here ?_
        refine (s2.gr c.gr).one rfl hx rfl rfl ?_
        refine c.nw EI1 0 rfl fun rv h7 c => ?_
        refine c.sto1 6 rfl u rfl rfl fun h8 c => ?_
        refine c.nw EI1 0 rfl fun re h9 c => ?_
        rw [vb_some]
        have c := Cx.pack (L := [rMp .i64 mW (.map k) qs, rVar ESt r7 x, rVar EI1 rl lv, rVar EI1 rv u, rVar EI1 re 0]) (M := [rSl EI1 pv pl, rSl EI1 (shV (x.l 0)) (l 0), rSl EI1 (shV (x.l 1)) (l 1)]) (c.pick [0, 1, 2, 6, 7, 3, 4, 5])
        refine cs.done (G := fun L' σ' => ∃ e, Good 192 qs σ' ∧ ((e = 0 ∧ ((pl.reverse ++ (l 0).reverse).length : Int) + (l 1).reverse.length < n' ∧ Two n' (rt 0) (rt 1) σ'.vw (u :: (pl.reverse ++ (l 0).reverse)) (l 1).reverse) ∨ (e = 9 ∧ n' ≤ ((pl.reverse ++ (l 0).reverse).length : Int) + (l 1).reverse.length ∧ σ'.vw = mm)) ∧
            L' = [rVar ESt r7 x, rVar EI1 rl (n' - (pl.reverse ++ (l 0).reverse).length - (l 1).reverse.length), rVar EI1 rv u, rVar EI1 re e, rStar [rSl EI1 pv pl, rSl EI1 (shV (x.l 0)) (l 0), rSl EI1 (shV (x.l 1)) (l 1)]])
          (by decide) W (by omega) (fun L' σ' ⟨_, hg, _⟩ => hg) c (fun s h1 K c kk => ?_) fun L' σ' qs' nv ev h10 ⟨e, hg, hcase, eL⟩ W' c => ?_
        · exact .inl ⟨_, _, _, rfl, cs.uturns1 (K_turns1 cs H.p hn W T hok hRt c fun σ' e h2 hg hq c => kk _ σ' h2 ⟨e, hg, hq, rfl⟩ c)⟩
        subst eL
        refine ext3 ?_
        obtain ⟨k', rfl⟩ := (c.mp (i := 1) rfl).isM
        refine .here ?_
        rw [uno_nb, vb_some, Bool.not_true, br_false, (c.va (i := 6) rfl).one rfl, vb_some]
        have hl' := T.len
        rcases hcase with ⟨rfl, hcap, T'⟩ | ⟨rfl, hcap, hm⟩
        · rw [eqI, vb_some, (c.va (i := 4) rfl).one rfl, vb_some]
          refine En.vb (v := .bool true) (by rw [bin_gtr]; exact congrArg (fun b => some (Value.bool b)) (decide_eq_true (by omega))) ?_
          rw [nbb, vb_some, br_false, vb_some, neI, vb_some, br_false]
          show Br (.bool false) _ _
          rw [br_false, (c.va (i := 6) rfl).one rfl, vb_some, eqI, vb_some, br_true, (c.va (i := 5) rfl).one rfl, vb_some]
          have c := Cx.unpack (L := [rMp .i64 mW (.map (some k')) qs', rVar ESt r7 x, rVar EI1 rl (n' - (pl.reverse ++ (l 0).reverse).length - (l 1).reverse.length)]) (M := [rSl EI1 pv pl, rSl EI1 (shV (x.l 0)) (l 0), rSl EI1 (shV (x.l 1)) (l 1)]) (c.pick [1, 3, 4, 7])
          refine c.app1 3 rfl u rfl rfl rfl (by omega) (by omega) fun pv' h11 c => ?_
          show Vb (bin .add _ _) _
          rw [bin_add, vb_some, wrS (by omega)]
          refine hagain (i + 1, pl ++ [u], some k', qs', σ'.vw, _) _ _ _ _ ⟨rfl, by dsimp only; omega, by dsimp only; rw [List.length_append, List.length_singleton]; omega, rfl, ?_, ?_, c⟩ (by dsimp only; omega)
          · dsimp only
            rw [show (cl.length : Int) + ((i + 1 : Nat) : Int) = cl.length + i + 1 by omega]; exact W'
          · dsimp only
            rw [List.reverse_append]; exact T'
        · rw [hm] at W'
          refine En.vb (v := .bool false) (by rw [bin_eql]; rfl) ?_
          rw [(c.va (i := 4) rfl).one rfl, vb_some]
          refine En.vb (v := .bool false) (by rw [bin_gtr]; exact congrArg (fun b => some (Value.bool b)) (decide_eq_false (by omega))) ?_
          rw [nbb, vb_some, br_false, vb_some]
          refine En.vb (v := .bool true) (by rw [bin_neq]; rfl) ?_
          rw [br_true, vb_some, neI, vb_some, br_false]
          have c : Cx (fun _ => False) h h10 (rMp .i64 mW (.map (some k')) qs' :: rMp .i64 mW (.map k) qs :: _) := c.pick [1, 0, 3, 4, 5, 6, 7]
          refine cs.alike W' W c fun h11 c => ?_
          rw [uno_nb, vb_some, Bool.not_true]
          show Br (.bool false) _ _
          rw [br_false, (c.va (i := 5) rfl).one rfl, vb_some]
          refine En.vb (v := .bool false) (by rw [bin_eql]; rfl) ?_
          rw [br_false]
          have c := Cx.unpack (L := [rMp .i64 mW (.map (some k')) qs', rVar ESt r7 x, rVar EI1 rl (n' - (pl.reverse ++ (l 0).reverse).length - (l 1).reverse.length)]) (M := [rSl EI1 pv pl, rSl EI1 (shV (x.l 0)) (l 0), rSl EI1 (shV (x.l 1)) (l 1)]) (c.pick [0, 2, 3, 6])
          show Vb (bin .add _ _) _
          rw [bin_add, vb_some, wrS (by omega)]
          refine hagain (i + 1, pl, some k', qs', mm, _) _ _ _ _ ⟨rfl, by dsimp only; omega, by dsimp only; omega, rfl, ?_, T, c⟩ (by dsimp only; omega)
          dsimp only
          rw [show (cl.length : Int) + ((i + 1 : Nat) : Int) = cl.length + i + 1 by omega]; exact W'
      clear hagain again
      rw [(c.sl (i := 3) rfl).sl.ln, vb_some]
      refine En.vb (v := .int .i64 ((pl.length : Int) - 1)) (by rw [bin_sub, wr64 ⟨by omega, by omega⟩]) ?_
      refine Lp2.by (fun (z : Nat × Option Nat × List (Int × W3) × (Int → Int)) w v h' => v = .int .i64 ((z.1 : Int) - 1) ∧ z.1 ≤ pl.length ∧ w = .map z.2.1 ∧ WoR 192 z.2.2.1 z.2.2.2 (100 - z.1) ∧ Two n' (rt 0) (rt 1) z.2.2.2 ((pl.take z.1).reverse ++ (l 0).reverse) (l 1).reverse ∧
          Cx (fun _ => False) h h' [rMp .i64 mW w z.2.2.1, rVar ESt r7 x, rSl EI1 pv pl, rSl EI1 (shV (x.l 0)) (l 0), rSl EI1 (shV (x.l 1)) (l 1)]) (fun z => z.1)
        (pl.length, k, qs, mm) ⟨rfl, Nat.le_refl _, rfl, W.le (by dsimp only; omega), by dsimp only; rw [List.take_length]; exact T, c.pick [0, 1, 3, 4, 5]⟩ ?_
      clear c W T
      rintro ⟨i, k, qs, mm⟩ w v h6 ⟨rfl, hi, rfl, W, T, c⟩ again hagain
      dsimp only at *
      rw [bin_geq, vb_some]
      refine brd (fun hge2 => ?_) fun hlt2 => ?_
      · obtain ⟨i, rfl⟩ : ∃ i', i = i' + 1 := ⟨i - 1, by omega⟩
        have hx : pl[i]? = some pl[i] := List.getElem?_eq_getElem (by omega)
        have et : (pl.take (i + 1)).reverse = pl[i] :: (pl.take i).reverse := by rw [List.take_add_one, hx, List.reverse_append]; rfl
        rw [et] at T
        generalize pl[i] = u at *
        refine c.nw EI1 0 rfl fun re h7 c => ?_
        refine c.nw EI1 0 rfl fun rv h8 c => ?_
        rw [vb_some]
        have c := Cx.pack (L := [rMp .i64 mW (.map k) qs, rVar ESt r7 x, rVar EI1 rv 0, rVar EI1 re 0]) (M := [rSl EI1 pv pl, rSl EI1 (shV (x.l 0)) (l 0), rSl EI1 (shV (x.l 1)) (l 1)]) (c.pick [0, 1, 6, 5, 2, 3, 4])
        refine cs.done (G := fun L' σ' => Good 192 qs σ' ∧ Two n' (rt 0) (rt 1) σ'.vw ((pl.take i).reverse ++ (l 0).reverse) (l 1).reverse ∧
            L' = [rVar ESt r7 x, rVar EI1 rv u, rVar EI1 re 0, rStar [rSl EI1 pv pl, rSl EI1 (shV (x.l 0)) (l 0), rSl EI1 (shV (x.l 1)) (l 1)]])
          (by decide) W (by omega) (fun L' σ' h => h.1) c (fun s h1 K c kk => ?_) fun L' σ' qs' nv ev h10 ⟨hg, T', eL⟩ W' c => ?_
        · exact .inl ⟨_, _, _, rfl, cs.uturns2 (K_turns2 cs H.p hn W T hRt c fun σ' h2 hg hq c => kk _ σ' h2 ⟨hg, hq, rfl⟩ c)⟩
        subst eL
        refine ext3 ?_
        obtain ⟨k', rfl⟩ := (c.mp (i := 1) rfl).isM
        refine .here ?_
        rw [uno_nb, vb_some, Bool.not_true, br_false, (c.va (i := 5) rfl).one rfl, vb_some, neI, vb_some, br_false, (c.va (i := 4) rfl).one rfl, vb_some]
        have c := Cx.unpack (L := [rMp .i64 mW (.map (some k')) qs', rVar ESt r7 x]) (M := [rSl EI1 pv pl, rSl EI1 (shV (x.l 0)) (l 0), rSl EI1 (shV (x.l 1)) (l 1)]) (c.pick [1, 3, 6])
        refine (c.sl (i := 2) rfl).sl.one rfl hx (by omega) rfl ?_
        rw [neI, vb_some]
        show Br (.bool false) _ _
        rw [br_false]
        refine En.vb (v := .int .i64 ((i : Int) - 1)) (by rw [bin_sub, wr64 ⟨by omega, by omega⟩]; congr 2; omega) ?_
        refine hagain (i, some k', qs', σ'.vw) _ _ _ ⟨rfl, by dsimp only; omega, rfl, ?_, T', c⟩ (by dsimp only; omega)
        dsimp only
        rw [show (100 : Int) - (i : Int) = 100 - ((i + 1 : Nat) : Int) + 1 by omega]; exact W'
      have e0 : i = 0 := by omega
      subst e0
      clear hagain again
      refine c.stof (i := 1) rfl { x with k := k } (j := 0) (w := .map k) rfl (by decide) rfl fun h11 c => ?_
      refine .here ?_
      rw [show lda 6 (at0 r7) h11 = some (vSt { x with k := k }) from (c.va (i := 1) rfl).whole rfl, vb_some]
      have c : Cx (fun _ => False) h h11 ([] ++ L33 { x with k := k } qs l) := c.pick [0, 3, 4]
      refine c.cIs cs.toCsS6' hRt (⟨H.p, hn, W, T⟩ : S33 n' { x with k := k } qs mm (100 - (0 : Nat)) l) (by decide) fun h12 c => ?_
      rw [br_true]
      exact cs.awake (hRt.gr c.gr) fun h4 g => hR h4 (c.more g).gr
end
end Go.En
