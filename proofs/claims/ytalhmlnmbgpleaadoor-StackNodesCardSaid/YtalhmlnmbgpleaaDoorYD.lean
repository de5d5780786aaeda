/-
  Layer 33: calls, one after the other; the example.
  Layer 33: the laws Plays and Few.
-/
import Derived.Test.YtalhmlnmbgpleaaDoorYC
namespace Go.En
open Prog Spc Go.Sort

variable {S : Sys} {I : Ids} {h h0 h' : Hp} {F F0 : Fp} {R : Value → Hp → Prop} {L : List Res} {s : Value} {σ τ : Spc}
structure CsS6' (S : Sys) (I : Ids) : Prop extends CsS5' S I where
  step : ∀ {x : X33} {cc : C33} {n : Int} {ps : List (Int × W3)} {m : Int → Int} {V : Int} {l : Nat → List Int} {F h R}, S33 n x ps m V l → V < 4294967295 → cc.ok → Rt F h → Cx F h h (L33 x ps l) →
    (∀ x' ps' m' es ev h3, S33 n x' ps' m' (V + 1) (act33 n cc l) → es.length ≤ 8 → Cx F h h3 (rMp .i64 mW (.map x.k) ps :: rSl EE ev es :: L33 x' ps' (act33 n cc l)) → R (.tuple #[vSt x', ev, .bool true]) h3) → S.C I.f_simulcastlaw33_step [vSt x, vCs cc] h R
  is : ∀ {x : X33} {n : Int} {ps : List (Int × W3)} {m : Int → Int} {V : Int} {l : Nat → List Int} {F h R}, S33 n x ps m V l → V < 4294967295 → Rt F h → Cx F h h (L33 x ps l) → (∀ h3, Cx F h h3 (L33 x ps l) → R (.bool true) h3) → S.C I.f_simulcastlaw33_is [vSt x] h R
  fresh : ∀ {h R}, (∀ k h', Cx (fun _ => False) h h' [rMp .i64 mW (.map (some k)) (knF (fun _ => W0) 192)] → R (.map (some k)) h') → S.C I.f_simulcastlaw33_Fresh [.int .i64 192] h R
  nodes : ∀ {n : Int} {h R}, 0 ≤ n ∧ n ≤ 255 → (∀ h', Gr h h' → R (vP (p33 (n % 17))) h') → S.C I.f_simulcastlaw33_Nodes [.int .u8 n] h R
section
variable {x : X33} {cc : C33} {n : Int} {ps : List (Int × W3)} {m : Int → Int} {V : Int} {l : Nat → List Int} {M : List Res}
/-- a call, in a context -/
theorem Cx.cStep (cs : CsS6' S I) (c : Cx F h0 h (M ++ L33 x ps l)) (hRt : Rt F h0) (H : S33 n x ps m V l) (hV : V < 4294967295) (hc : cc.ok)
    (hR : ∀ x' ps' m' es ev h3, S33 n x' ps' m' (V + 1) (act33 n cc l) → es.length ≤ 8 → Cx F h0 h3 (M ++ (rMp .i64 mW (.map x.k) ps :: rSl EE ev es :: L33 x' ps' (act33 n cc l))) → R (.tuple #[vSt x', ev, .bool true]) h3) : S.C I.f_simulcastlaw33_step [vSt x, vCs cc] h R := by
  obtain ⟨F1, c1, hF, up⟩ := Cx.frameL (L := M) (M := L33 x ps l) c
  exact cs.step H hV hc (hRt.le (c.toRt hRt) hF) c1 fun x' ps' m' es ev h3 H' he c2 => hR x' ps' m' es ev h3 H' he (up c2)
theorem Cx.cIs (cs : CsS6' S I) (c : Cx F h0 h (M ++ L33 x ps l)) (hRt : Rt F h0) (H : S33 n x ps m V l) (hV : V < 4294967295)
    (hR : ∀ h3, Cx F h0 h3 (M ++ L33 x ps l) → R (.bool true) h3) : S.C I.f_simulcastlaw33_is [vSt x] h R := by
  obtain ⟨F1, c1, hF, up⟩ := Cx.frameL (L := M) (M := L33 x ps l) c
  exact cs.is H hV (hRt.le (c.toRt hRt) hF) c1 fun h3 c2 => hR h3 (up c2)
def acts33 (n : Int) (cl : List C33) : Nat → List Int := cl.foldl (fun l cc => act33 n cc l) fun _ => []
theorem acts_snoc {cl : List C33} : acts33 n (cl ++ [cc]) = act33 n cc (acts33 n cl) := by unfold acts33; rw [List.foldl_append]; rfl
set_option maxHeartbeats 1600000 in
theorem K_played {b0 : Value} {cl : List C33} (cs : CsS6' S I) (hn : 0 ≤ n ∧ n ≤ 255) (s0 : Sl ECs h b0 cl) (w0 : ∀ y ∈ cl, y.ok) (hcl : cl.length ≤ 60) (hRt : Rt (fun _ => False) h)
    (hR : ∀ x ps m h', S33 (n % 17) x ps m cl.length (acts33 (n % 17) cl) → Cx (fun _ => False) h h' (L33 x ps (acts33 (n % 17) cl)) → R (.tuple #[vSt x, .bool true]) h') : F_simulcastlaw33_played S I (.int .u8 n) b0 h R := by
  have hn' : 0 ≤ n % 17 ∧ n % 17 ≤ 16 := by omega
  unfold F_simulcastlaw33_played
  refine (Cx.start0 h).nw ESt X0 rfl fun r4 h1 c => ?_
  refine cs.fresh fun k h2 c2 => ?_
  have c := c.frame0 c2
  clear c2
  refine cs.nodes hn fun h3 g => ?_
  have c := c.more g
  refine En.vb (v := vSt ⟨some k, p33 (n % 17), fun _ => (none, 0, 0)⟩) (by kernel_rfl) ?_
  refine c.nw ESt X0 rfl fun r6 h4 c => ?_
  refine c.sto 2 rfl ⟨some k, p33 (n % 17), fun _ => (none, 0, 0)⟩ rfl rfl fun h5 c => ?_
  have c := (c.nil EI1).nil EI1
  rw [s0.ln, vb_some]
  have H0 : S33 (n % 17) ⟨some k, p33 (n % 17), fun _ => (none, 0, 0)⟩ (knF (fun _ => W0) 192) (fun _ => 0) (0 : Nat) (acts33 (n % 17) (cl.take 0)) := ⟨rfl, hn', WoR.fresh, Two.start (r33_j hn' (.inl rfl)) fun _ => rfl⟩
  refine Lp1.by (fun (z : Nat × X33 × List (Int × W3) × (Int → Int)) v h' => v = .int .i64 z.1 ∧ z.1 ≤ cl.length ∧ S33 (n % 17) z.2.1 z.2.2.1 z.2.2.2 z.1 (acts33 (n % 17) (cl.take z.1)) ∧ Cx (fun _ => False) h h' ([rVar ESt r4 X0, rVar ESt r6 z.2.1] ++ L33 z.2.1 z.2.2.1 (acts33 (n % 17) (cl.take z.1)))) (fun z => cl.length - z.1)
    (0, ⟨some k, p33 (n % 17), fun _ => (none, 0, 0)⟩, knF (fun _ => W0) 192, fun _ => 0) ⟨rfl, Nat.zero_le _, H0, c.pick [0, 2, 1, 3, 4]⟩ ?_
  clear c H0
  rintro ⟨i, x, ps, m⟩ v h6 ⟨rfl, hi, H, c⟩ again hagain
  dsimp only at *
  rw [bin_lss, vb_some]
  refine brd (fun hlt => ?_) fun hge => ?_
  · have hlt : i < cl.length := by omega
    have hx : cl[i]? = some cl[i] := List.getElem?_eq_getElem hlt
    have hok := w0 cl[i] (List.getElem_mem _)
    have et : cl.take (i + 1) = cl.take i ++ [cl[i]] := by rw [List.take_add_one, hx]; rfl
    generalize cl[i] = cc at *
    refine (s0.gr c.gr).whole rfl hx rfl ?_
    refine c.nw ECs ⟨0, 0, 0⟩ rfl fun rc h7 c => ?_
    refine c.sto 5 rfl cc rfl rfl fun h8 c => ?_
    rw [show lda 6 (at0 r6) h8 = some (vSt x) from (c.va (i := 1) rfl).whole rfl, vb_some, show lda 3 (at0 rc) h8 = some (vCs cc) from (c.va (i := 5) rfl).whole rfl, vb_some]
    have c : Cx (fun _ => False) h h8 ([rVar ESt r4 X0, rVar ESt r6 x] ++ L33 x ps (acts33 (n % 17) (cl.take i))) := c.pick [0, 1, 2, 3, 4]
    refine c.cStep cs hRt H (by omega) hok fun x' ps' m' es ev h9 H' _ c => ?_
    rw [← acts_snoc, ← et] at c H'
    refine ext3 ?_
    refine c.nw ESt X0 rfl fun r9 h10 c => ?_
    refine c.sto 7 rfl x' rfl rfl fun h11 c => ?_
    refine .here ?_
    rw [uno_nb, vb_some, Bool.not_true, br_false]
    rw [show lda 6 (at0 r9) h11 = some (vSt x') from (c.va (i := 7) rfl).whole rfl, vb_some]
    have c : Cx (fun _ => False) h h11 ([rVar ESt r4 X0, rVar ESt r6 x, rVar ESt r9 x'] ++ L33 x' ps' (acts33 (n % 17) (cl.take (i + 1)))) := c.pick [0, 1, 7, 4, 5, 6]
    refine c.cIs cs hRt H' (by omega) fun h12 c => ?_
    rw [uno_nb, vb_some]
    show Br _ _ _
    rw [Bool.not_true, br_false]
    rw [show lda 6 (at0 r9) h12 = some (vSt x') from (c.va (i := 2) rfl).whole rfl, vb_some]
    refine c.sto 1 rfl x' rfl rfl fun h13 c => ?_
    rw [bin_add, vb_some, wrS (by omega)]
    exact hagain (i + 1, x', ps', m') _ _ ⟨rfl, by dsimp only; omega, by dsimp only; rw [Int.natCast_add]; exact H', c.pick [0, 1, 3, 4, 5]⟩ (by dsimp only; omega)
  · have ei : i = cl.length := by omega
    subst ei
    rw [List.take_length] at H c
    rw [show lda 6 (at0 r6) h6 = some (vSt x) from (c.va (i := 1) rfl).whole rfl, vb_some]
    refine c.sto 0 rfl x rfl rfl fun h7 c => ?_
    rw [show lda 6 (at0 r4) h7 = some (vSt x) from (c.va (i := 0) rfl).whole rfl, vb_some]
    exact hR x ps m h7 H (c.pick [2, 3, 4])
end
structure CsS7' (S : Sys) (I : Ids) : Prop extends CsS6' S I where
  played : ∀ {b0 : Value} {cl : List C33} {n : Int} {h R}, 0 ≤ n ∧ n ≤ 255 → Sl ECs h b0 cl → (∀ y ∈ cl, y.ok) → cl.length ≤ 60 → Rt (fun _ => False) h →
    (∀ x ps m h', S33 (n % 17) x ps m cl.length (acts33 (n % 17) cl) → Cx (fun _ => False) h h' (L33 x ps (acts33 (n % 17) cl)) → R (.tuple #[vSt x, .bool true]) h') → S.C I.f_simulcastlaw33_played [.int .u8 n, b0] h R
section
variable {n r r' : Int} {m : Int → Int} {vs' : List Int}
theorem Two.nil0 (H : Two n r r' m [] vs') : m r = 0 := by
  obtain ⟨l, l', fr, out, h⟩ := H
  have e := h.a.len
  have : l = [] := List.eq_nil_of_length_eq_zero e.symm
  subst this
  exact h.a.lk
theorem Rt.gr (H : Rt (fun _ => False) h0) (g : Gr h0 h) : Rt (fun _ => False) h := ⟨H.row.ch g H.no, H.no⟩
set_option maxHeartbeats 1600000 in
theorem K_awake33 (cs : CsS7' S I) (hRt : Rt (fun _ => False) h) (hR : ∀ h', Gr h h' → R (.bool true) h') : F_simulcastlaw33_awake S I h R := by
  have ok3 : ∀ a b : Int, 0 ≤ a ∧ a ≤ 255 → 0 ≤ b ∧ b ≤ 255 → (⟨a, 0, b⟩ : C33).ok := fun a b ha hb => ⟨ha, by show (0 : Int) ≤ 0 ∧ (0 : Int) ≤ 255; decide, by show R64 b; unfold R64; omega⟩
  unfold F_simulcastlaw33_awake
  refine En.vb (v := vCs ⟨0, 0, 1⟩) (by kernel_rfl) ?_
  refine En.vb (v := vCs ⟨0, 0, 2⟩) (by kernel_rfl) ?_
  refine (Cx.start0 h).bslN ECs [⟨0, 0, 1⟩, ⟨0, 0, 2⟩] [vCs ⟨0, 0, 1⟩, vCs ⟨0, 0, 2⟩] rfl rfl rfl (fun u hu => by simp only [List.mem_cons, List.not_mem_nil, or_false] at hu; rcases hu with rfl | rfl <;> rfl) rfl fun b h1 c => ?_
  refine cs.played (n := 4) (cl := [⟨0, 0, 1⟩, ⟨0, 0, 2⟩]) ⟨by decide, by decide⟩ (c.sl (i := 0) rfl).sl (fun y hy => by simp only [List.mem_cons, List.not_mem_nil, or_false] at hy; rcases hy with rfl | rfl <;> exact ok3 _ _ (by decide) (by decide)) (by decide) (hRt.gr c.gr) fun x ps m h2 H c2 => ?_
  have c := c.frame0 c2
  clear c2
  have e0 : acts33 ((4 : Int) % 17) [⟨0, 0, 1⟩, ⟨0, 0, 2⟩] 0 = [1, 2] := by decide
  have e1 : act33 4 ⟨2, 0, 0⟩ (acts33 ((4 : Int) % 17) [⟨0, 0, 1⟩, ⟨0, 0, 2⟩]) 0 = [1] := by decide
  have e2 : act33 4 ⟨2, 0, 0⟩ (act33 4 ⟨2, 0, 0⟩ (acts33 ((4 : Int) % 17) [⟨0, 0, 1⟩, ⟨0, 0, 2⟩])) 0 = [] := by decide
  rw [show ((4 : Int) % 17) = 4 from rfl] at *
  generalize acts33 4 [⟨0, 0, 1⟩, ⟨0, 0, 2⟩] = l at *
  have ln0 : lnS (shV (x.l 0)) = some (.int .i64 2) := by
    have := (c.sl (i := 2) rfl).sl.ln
    rw [e0] at this
    exact this
  refine ext0t (ext1t ?_)
  refine c.nw ESt X0 rfl fun r1 h3 c => ?_
  refine c.sto 4 rfl x rfl rfl fun h4 c => ?_
  rw [uno_nb, vb_some, Bool.not_true, br_false]
  rw [show lda 6 (at0 r1) h4 = some (vSt x) from (c.va (i := 4) rfl).whole rfl, vb_some]
  refine En.vb (v := vCs ⟨2, 0, 0⟩) (by kernel_rfl) ?_
  have c : Cx (fun _ => False) h h4 ([rVar ESt r1 x] ++ L33 x ps l) := c.pick [4, 1, 2, 3]
  refine c.cStep cs.toCsS6' hRt H (by decide) (ok3 _ _ (by decide) (by decide)) fun y ps1 m1 es ev h5 H1 _ c => ?_
  refine ext3 ?_
  refine c.nw ESt X0 rfl fun r3 h6 c => ?_
  refine c.sto 6 rfl y rfl rfl fun h7 c => ?_
  rw [show lda 6 (at0 r3) h7 = some (vSt y) from (c.va (i := 6) rfl).whole rfl, vb_some]
  refine En.vb (v := vCs ⟨2, 0, 0⟩) (by kernel_rfl) ?_
  have c : Cx (fun _ => False) h h7 ([rVar ESt r1 x] ++ L33 y ps1 (act33 4 ⟨2, 0, 0⟩ l)) := c.pick [0, 3, 4, 5]
  refine c.cStep cs.toCsS6' hRt H1 (by decide) (ok3 _ _ (by decide) (by decide)) fun z ps2 m2 es ev h8 H2 _ c => ?_
  refine ext3 ?_
  refine c.nw ESt X0 rfl fun r6 h9 c => ?_
  refine c.sto 6 rfl z rfl rfl fun h10 c => ?_
  rw [show lda 6 (at0 r6) h10 = some (vSt z) from (c.va (i := 6) rfl).whole rfl, vb_some]
  refine En.vb (v := vCs ⟨2, 0, 0⟩) (by kernel_rfl) ?_
  have c : Cx (fun _ => False) h h10 ([rVar ESt r1 x, rVar ESt r6 z] ++ L33 z ps2 (act33 4 ⟨2, 0, 0⟩ (act33 4 ⟨2, 0, 0⟩ l))) := c.pick [0, 6, 3, 4, 5]
  have ln2 : lnS (shV (z.l 0)) = some (.int .i64 0) := by
    have := (c.sl (i := 3) rfl).sl.ln
    rw [e2] at this
    exact this
  have hm8 : m2 8 = 0 := by
    have := H2.T
    rw [e2] at this
    exact this.nil0
  refine c.cStep cs.toCsS6' hRt H2 (by decide) (ok3 _ _ (by decide) (by decide)) fun q ps3 m3 es ev h11 H3 _ c => ?_
  refine ext3 ?_
  refine c.nw ESt X0 rfl fun r9 h12 c => ?_
  refine c.sto 7 rfl q rfl rfl fun h13 c => ?_
  refine .here ?_
  rw [br_true, br_true, br_true]
  refine c.getl (i := 0) (j := 0) rfl (.inl rfl) rfl ?_
  rw [ln0, vb_some, eqI, vb_some, br_true]
  refine c.getl (i := 1) (j := 0) rfl (.inl rfl) rfl ?_
  rw [ln2, vb_some, eqI, vb_some, br_true]
  refine (c.va (i := 1) rfl).fld (j := 0) rfl ?_
  rw [(c.mp (i := 2) rfl).ln, vb_some, H2.W.lenN, show (((192 : Nat)) : Int) = 192 from rfl, eqI, vb_some, br_true]
  refine (c.va (i := 1) rfl).fld (j := 0) rfl ?_
  obtain ⟨w, hw⟩ := Option.isSome_iff_exists.1 ((H2.W.dom 8).2 ⟨by decide, by decide⟩)
  have hv := (H2.W.val 8 w hw).1
  rw [(c.mp (i := 2) rfl).look, vb_some, hw]
  refine En.vb (show fdc 0 (mW w) = some (.int .i64 w.v) from rfl) ?_
  rw [hv, hm8, eqI, vb_some]
  exact hR _ c.gr
end
end Go.En
namespace Go.En
open Prog Spc Go.Sort

variable {S : Sys} {I : Ids} {h h0 h' : Hp} {F F0 : Fp} {R : Value → Hp → Prop} {L : List Res} {s : Value} {σ τ : Spc}
structure CsS8' (S : Sys) (I : Ids) : Prop extends CsS7' S I where
  awake : ∀ {h : Hp} {R : Value → Hp → Prop}, Rt (fun _ => False) h → (∀ h', Gr h h' → R (.bool true) h') → S.C I.f_simulcastlaw33_awake [] h R
  great : ∀ {v : Value} {cl : List C33} {h : Hp} {R : Value → Hp → Prop}, Sl ECs h v cl → R (.bool (decide ((cl.length : Int) > 60))) h → S.C I.f_simulcastlaw33_great [v] h R
section
variable {b1 : Value} {cl : List C33} {n : Int} {cc : C33}
theorem K_great33 (H : Sl ECs h b1 cl) (hR : R (.bool (decide ((cl.length : Int) > 60))) h) : F_simulcastlaw33_great S I b1 h R := by
  unfold F_simulcastlaw33_great
  rw [H.ln, vb_some, bin_gtr, vb_some]
  exact hR
theorem L_StackPlays (cs : CsS8' S I) (hn : 0 ≤ n ∧ n ≤ 255) (s1 : Sl ECs h b1 cl) (w1 : ∀ y ∈ cl, y.ok) (hRt : Rt (fun _ => False) h) (hR : ∀ h', Gr h h' → R (.bool true) h') : F_simulcastlaw33_StackPlays S I (.int .u8 n) b1 h R := by
  unfold F_simulcastlaw33_StackPlays
  refine cs.great s1 ?_
  refine brd (fun _ => cs.awake hRt hR) fun hlen => ?_
  refine cs.played hn s1 w1 (by omega) hRt fun x ps m h1 H c => ?_
  refine ext0t (ext1t ?_)
  refine c.nw ESt X0 rfl fun r4 h2 c => ?_
  refine c.sto 3 rfl x rfl rfl fun h3 c => ?_
  refine .here ?_
  rw [br_true]
  exact cs.awake (hRt.gr c.gr) fun h4 g => hR h4 (c.more g).gr
theorem L_StackFew (cs : CsS8' S I) (hn : 0 ≤ n ∧ n ≤ 255) (s1 : Sl ECs h b1 cl) (w1 : ∀ y ∈ cl, y.ok) (hc : cc.ok) (hRt : Rt (fun _ => False) h) (hR : ∀ h', Gr h h' → R (.bool true) h') : F_simulcastlaw33_StackFew S I (.int .u8 n) b1 (vCs cc) h R := by
  unfold F_simulcastlaw33_StackFew
  refine (Cx.start0 h).nw ECs cc rfl fun rc h1 c => ?_
  refine cs.great (s1.gr c.gr) ?_
  refine brd (fun _ => cs.awake (hRt.gr c.gr) fun h4 g => hR h4 (c.more g).gr) fun hlen => ?_
  refine cs.played hn (s1.gr c.gr) w1 (by omega) (hRt.gr c.gr) fun x ps m h1 H c2 => ?_
  have c := c.frame0 c2
  clear c2
  refine ext0t (ext1t ?_)
  refine c.nw ESt X0 rfl fun r4 h2 c => ?_
  refine c.sto 4 rfl x rfl rfl fun h3 c => ?_
  rw [show lda 6 (at0 r4) h3 = some (vSt x) from (c.va (i := 4) rfl).whole rfl, vb_some, show lda 3 (at0 rc) h3 = some (vCs cc) from (c.va (i := 0) rfl).whole rfl, vb_some]
  have c : Cx (fun _ => False) h h3 ([] ++ L33 x ps (acts33 (n % 17) cl)) := c.pick [1, 2, 3]
  refine c.cStep cs.toCsS6' hRt H (by omega) hc fun x' ps' m' es ev h9 H' he c => ?_
  refine ext3 ?_
  refine c.nw ESt X0 rfl fun r9 h10 c => ?_
  refine c.sto 5 rfl x' rfl rfl fun h11 c => ?_
  refine .here ?_
  rw [br_true, br_true, (c.sl (i := 1) rfl).sl.ln, vb_some, bin_leq, vb_some]
  refine brd (fun _ => ?_) fun h => absurd (by omega) h
  exact cs.awake (hRt.gr c.gr) fun h4 g => hR h4 (c.more g).gr
end
end Go.En
