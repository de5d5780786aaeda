/-
  Layer 40: the law Vanishes.
  Layer 40: the law Lost.
  Layer 40: the law Anew.
  Layer 40: the last contracts.
-/
import Derived.Test.YtmpdclbiopalaaaXK
import Derived.Test.YtmpdclbiopalaaaXD
import Derived.Test.YtmpdclbiopalaaaXL
namespace Go.En
open Prog Spc Go.Sort

variable {S : Sys} {I : Ids} {h h0 h' : Hp} {F F0 : Fp} {R : Value → Hp → Prop} {L : List Res} {s : Value} {σ τ : Spc}
structure CsK8 (S : Sys) (I : Ids) : Prop extends CsK7 S I where
  hh : CsH S I
  free : ∀ {α : Type} {A : α → Res} {fn : Value} {p : Pl} {m : Int → Int} {x0 : α} {F0 h0 h R}, p.good → (∀ a, R64 (m a)) →
    (∀ x a h F R, (a = p.root ∨ (p.node a).isSome = true) → (A x).P h F → (∀ x' h' F', (A x').P h' F' → Mv F h F' h' → R (.int .i64 (m a)) h') → Cv S.C S.Y fn [.int .i64 a] h R) →
    Cx F0 h0 h [A x0] → (∀ x v h', Cx F0 h0 h' [A x, rSl EI1 v ((freeM p m p.nodes.toNat (m p.root) []).getD [])] → R (.tuple #[v, .int .i64 (if (freeM p m p.nodes.toNat (m p.root) []).isSome then 0 else 24)]) h') →
    S.C I.f_pool_Pool_Free [vP p, fn] h R
section
variable {l : List C40} {b1 : Value} {n : Int} {V : List (Int × Int)} {E : List Ed} {cnt : Nat}
/-- the free nodes of the graph's pool, read through the space -/
theorem Cx.gfree {Q : Prop} (cs : CsK8 S I) (H : SG n V E cnt σ) (c : Cx F0 h0 h L) (i : Nat) (hi : L[i]? = some (rSpace s σ))
    (k : ∀ (fr : List Int) (out : Int) (m : Int → Int) σ' v h', Sm (D40 n) σ σ' m 0 → GRep (p40 n) 8 m V E fr out → Cx F0 h0 h' (L.set i (rSpace s σ') ++ [rSl EI1 v (fr.map fun x => (x - 24) / 8)]) → R (.tuple #[v, .int .i64 0]) h') :
    S.C I.f_pool_Pool_Free [vP (p40 n), .func (.func I.f_space_Space_Get) #[s] #[]] h R := by
  obtain ⟨hn, hcb, hu, m, fr, out, S0, X, hl⟩ := H
  have G := p40_S hn
  have hfl : (fr.length : Int) ≤ n := by have := X.P.len; have h2 : out ≤ n := X.P.out1; omega
  have hfree : freeM (p40 n) m (p40 n).nodes.toNat (m (p40 n).root) [] = some ([] ++ fr.map fun x => (x - (p40 n).frm) / 8) := freeM_lk X.P.good [] X.P.link (fun x hx => X.P.isN hx) (by show fr.length ≤ n.toNat; omega)
  obtain ⟨F1, c1, up⟩ := c.frame hi
  have c2 := c1.conv (i := 0) rfl (B := rIf (Sm (D40 n) σ σ m 0) (rSpace s σ)) fun F' a => ⟨S0, a⟩
  refine cs.free (A := fun x => rIf (Sm (D40 n) σ x m 0) (rSpace s x)) (m := m) (x0 := σ) X.P.good S0.rg (fun x a h F R ha ⟨S', pa⟩ k => ?_) c2 fun x v h' c3 => ?_
  · refine .inl ⟨_, _, _, rfl, ?_⟩
    show S.C I.f_space_Space_Get [s, .int .i64 a] h R
    have hD : D40 n a := by
      rcases ha with rfl | ha
      · have := G.dp.r 0 (by decide) (by decide)
        rwa [Int.add_zero] at this
      · have := G.dp.n a (node_isN ha) 0 (by decide) (by decide)
        rwa [Int.add_zero] at this
    refine (Cx.start pa).cGet cs.toCsD 0 rfl fun h' c => ?_
    rw [S'.get hD] at c ⊢
    obtain ⟨F', a', mv⟩ := c.fin
    exact k _ h' F' ⟨S'.rds a, a'⟩ mv
  · rw [hfree] at c3 ⊢
    obtain ⟨_, S', _⟩ := c3.get (i := 0) rfl
    have c4 := c3.conv (i := 0) rfl (B := rSpace s x) fun F' a => a.2
    exact k fr out m x v h' S' X (up (M := [_]) c4)
set_option maxHeartbeats 800000 in
theorem L_GraphVanishes {a : Int} (cs : CsK8 S I) (s1 : Sl ECl h b1 l) (w1 : ∀ x ∈ l, x.ok) (ha : R16 a) (hR : ∀ h', Gr h h' → R (.bool true) h') : F_simulcastlaw40_GraphVanishes S I b1 (.int .i16 a) h R := by
  have h8 : (0 : Int) ≤ 8 ∧ (8 : Int) ≤ 4000 := by decide
  have hp0 : 0 ≤ (p40 24).nodes ∧ (p40 24).nodes ≤ 1000 := by decide
  unfold F_simulcastlaw40_GraphVanishes
  refine cs.gawake fun h1 g => ?_
  have c := (Cx.start0 h).more g
  rw [uno_nb, vb_some, Bool.not_true, br_false, s1.ln, vb_some, bin_gtr, vb_some]
  refine brd (fun _ => hR _ c.gr) fun hlen => ?_
  refine cs.gplayed (s1.gr c.gr) w1 (by omega) fun s σ u V E va all h2 c2 H hall hal => ?_
  have c := c.frame0 c2
  clear c2
  refine En.vb (v := vG (p40 24) 8) rfl (En.vb (v := s) rfl (En.vb (v := vGr u) rfl (En.vb (v := va) rfl (En.vb (v := .bool true) rfl ?_))))
  refine c.nw EG (⟨0, 0, 0⟩, 0) rfl fun rg h4 c => ?_
  refine c.nw EGr ((none, 0, 0), (none, 0, 0)) rfl fun rx h7 c => ?_
  refine c.sto 4 rfl (p40 24, 8) rfl rfl fun h5 c => ?_
  refine c.sto 5 rfl u rfl rfl fun h5 c => ?_
  rw [uno_nb, vb_some, Bool.not_true, br_false]
  refine cs.hdl40 (c.sl (i := 3) rfl).sl (by omega) ha ?_
  have hA := hdl_R hall ha
  generalize hdl all a = p at *
  have hln := H.len
  have hV : V.length ≤ 100000 := by omega
  have hE : E.length ≤ 100000 := by omega
  have hndV := H.ndV
  have huq := H.uq
  have hV64 := H.V64
  have hol := oP_le (E := E) (v := p)
  have hil := iP_le (E := E) (v := p)
  have hga := gone_all (E := E) (p := p)
  have hsl := self_le huq (p := p) (q := p)
  rw [show lda 2 (at0 rx) h5 = some (vGr u) from (c.va (i := 5) rfl).whole rfl, vb_some, vb_some]
  refine cs.rout (c.rG (i := 1) (j := 2) rfl rfl hV hE) fun w h6 c2 => ?_
  have c := c.frame0 c2
  refine ⟨(c.va (i := 5) rfl).whole rfl, ?_⟩
  rw [(c.sl (i := 6) rfl).sl.ln, vb_some]
  refine cs.rin (c.rG (i := 1) (j := 2) rfl rfl hV hE) fun w h7 c2 => ?_
  have c := c.frame0 c2
  rw [(c.sl (i := 7) rfl).sl.ln, vb_some]
  refine En.vb (v := .int .i64 (((oP E p).length : Int) + (iP E p).length)) (addI ⟨by omega, by omega⟩) ?_
  rw [show lda 2 (at0 rx) h7 = some (vGr u) from (c.va (i := 5) rfl).whole rfl, vb_some]
  refine cs.rwei (c.rG (i := 1) (j := 2) rfl rfl hV hE) fun h8' g => ?_
  have c := c.more g
  unfold uIB
  refine ext0t (ext1t ?_)
  have c : Cx (fun _ => False) h h8' [rSpace s σ, rSl E2I (shV u.1) V, rSl EEd (shV u.2) E, rVar EG rg (p40 24, 8), rVar EGr rx u] := c.pick [0, 1, 2, 4, 5]
  refine Jn1.at (fun v h' => v = .int .i64 ((E.length : Int) - (rmG E p).length) ∧ h' = h8') ?_ ?_
  · show Br (.bool (fE E p p).isSome) _ _
    cases hs : (fE E p p).isSome with
    | true =>
      rw [hs, if_pos rfl] at hsl
      rw [br_true, bin_sub, vb_some, wr64 ⟨by omega, by omega⟩]
      exact ⟨by congr 1; omega, rfl⟩
    | false =>
      rw [hs, if_neg (by simp)] at hsl
      rw [br_false]
      exact ⟨by congr 1; omega, rfl⟩
  rintro v h9 ⟨rfl, rfl⟩
  rw [gW (i := 3) c rfl, vb_some]
  refine c.last (cs.gdrop h8 hp0 hA) 0 rfl (H.drop (a := p) (by decide)) fun e σ1 h10 c hq => ?_
  obtain ⟨V', E', H1, hq⟩ : ∃ V' E', SG 24 V' E' 123000 σ1 ∧ ((p ∉ vI V ∧ e = (0, 10) ∧ V' = V ∧ E' = E) ∨ (p ∈ vI V ∧ e = (rLab V p, 0) ∧ V' = rmV V p ∧ E' = rmG E p)) := by
    rcases hq with ⟨h1, h2, h3⟩ | ⟨h1, h2, h3⟩
    · exact ⟨V, E, h3, .inl ⟨h1, h2, rfl, rfl⟩⟩
    · exact ⟨_, _, h3, .inr ⟨h1, h2, rfl, rfl⟩⟩
  unfold uE
  refine ext0t (ext1t ?_)
  rw [gW (i := 3) c rfl, vb_some]
  refine c.gver cs.toCsK5 0 rfl h8 hp0 H1.ver fun r σ2 v75 h11 c hr => ?_
  obtain ⟨rfl, H2⟩ := hr
  refine ext0t (ext1t ?_)
  refine gP (i := 3) c rfl ?_
  rw [vb_some]
  refine c.gfree (Q := True) cs H2 0 rfl fun fr out m σ3 v83 h12 S3 X c => ?_
  refine ext0t (ext1t ?_)
  have c : Cx (fun _ => False) h h12 [rSpace s σ3, rSl E2I (shV u.1) V, rSl EEd (shV u.2) E, rVar EG rg (p40 24, 8), rVar EGr rx u, rSl EI1 v75 (vI V'), rSl EI1 v83 (fr.map fun x => (x - 24) / 8)] := c
  have hvl : (vI V').length = V'.length := List.length_map ..
  have hfl : ((fr.map fun x => (x - 24) / 8).length : Int) = fr.length := by rw [List.length_map]
  have hfb : (fr.length : Int) ≤ 24 := by have := X.P.len; have h2 : out ≤ 24 := X.P.out1; omega
  have hln' := H2.len
  have hD : ∀ a : Int, 0 ≤ a ∧ a < 24 → D40 24 a := fun a ha => ⟨ha.1, by omega⟩
  have H3 := H2.look S3 X
  refine Jn1.at (fun v h' => v = .bool false ∧ ∃ σ', SG 24 V' E' 123000 σ' ∧ Cx (fun _ => False) h h' [rSpace s σ', rSl E2I (shV u.1) V, rSl EEd (shV u.2) E, rVar EG rg (p40 24, 8), rVar EGr rx u, rSl EI1 v75 (vI V')]) ?_ ?_
  · refine En.vb (v := .bool false) rfl ?_
    rw [br_false, neI, vb_some, br_false, (c.sl (i := 6) rfl).sl.ln, hfl, vb_some]
    refine c.cGet cs.toCsD 0 rfl fun h13 c => ?_
    have S4 := S3.rds 3
    have S5 := S4.rds 2
    have S6 := S5.rds 3
    have S7 := S6.rds 15
    have e3 : m 3 = fr.length := X.P.frE
    have e2 : m 2 = out := X.P.outE
    have e15 : m 15 = (V'.length : Int) + E'.length := X.n7
    have hcnt := X.cnt
    rw [S3.get (hD 3 (by decide))] at c ⊢
    rw [e3, neI, vb_some, br_false]
    refine c.cGet cs.toCsD 0 rfl fun h14 c => ?_
    rw [S4.get (hD 2 (by decide))] at c ⊢
    refine c.cGet cs.toCsD 0 rfl fun h15 c => ?_
    rw [S5.get (hD 3 (by decide))] at c ⊢
    refine c.cGet cs.toCsD 0 rfl fun h16 c => ?_
    rw [S6.get (hD 15 (by decide))] at c ⊢
    rw [e2, e3, e15]
    refine En.vb (v := .int .i64 out) (by rw [bin_add, wr64 ⟨by omega, by omega⟩]; congr 2; omega) ?_
    rw [neI, vb_some]
    have c := c.pick [0, 1, 2, 3, 4, 5]
    exact ⟨rfl, (((σ3.rds 3).rds 2).rds 3).rds 15, SG.look H2 S7 X, c⟩
  clear c H3 S3 X H2 H1
  rintro v h13 ⟨rfl, σ4, H4, c⟩
  rw [br_false]
  rcases hq with ⟨hp, rfl, rfl, rfl⟩ | ⟨hp, rfl, rfl, rfl⟩
  · refine En.vb (v := .bool true) rfl ?_
    rw [br_true]
    refine .here ?_
    refine En.vb (v := .bool true) rfl ?_
    rw [br_true, (c.sl (i := 5) rfl).sl.ln, hvl, vb_some]
    refine (c.va (i := 4) rfl).fld (j := 0) rfl ?_
    rw [(c.sl (i := 1) rfl).sl.ln, vb_some, eqI, vb_some, br_true, gW (i := 3) c rfl, vb_some]
    rw [show fa 1 (at0 rx) = some (.pointer (some ⟨rx, 0 + 1, none⟩)) from fa_add _ _ _, vb_some, show ldc (.pointer (some ⟨rx, 0 + 1, none⟩)) h13 = some (shV u.2) from (c.va (i := 4) rfl).row.ldc (j := 1) rfl, vb_some, (c.sl (i := 2) rfl).sl.ln, vb_some]
    refine c.last (cs.gedges h8) 0 rfl H4.edges fun e σ6 h10 c hq => ?_
    obtain ⟨rfl, H6⟩ := hq
    refine ⟨(c.va (i := 4) rfl).row.ldc (j := 1) rfl, ?_⟩
    unfold uI
    rw [eqI, vb_some]
    exact hR _ c.gr
  · refine En.vb (v := .bool false) (neI _) ?_
    rw [br_false]
    refine Lp1.by (fun (q : Nat × Spc) v h' => v = .int .i64 q.1 ∧ q.1 ≤ (rmV V p).length ∧ SG 24 (rmV V p) (rmG E p) 123000 q.2 ∧ Cx (fun _ => False) h h' [rSpace s q.2, rSl E2I (shV u.1) V, rSl EEd (shV u.2) E, rVar EG rg (p40 24, 8), rVar EGr rx u, rSl EI1 v75 (vI (rmV V p))]) (fun q => (rmV V p).length - q.1) (0, σ4)
      ⟨rfl, Nat.zero_le _, H4, c⟩ ?_
    clear c H4
    rintro ⟨i, σ⟩ v h14 ⟨rfl, hi, H, c⟩ again hagain
    dsimp only at *
    rw [(c.sl (i := 5) rfl).sl.ln, hvl, vb_some, bin_lss, vb_some]
    refine brd (fun hlt => ?_) fun hge => ?_
    · have hx : (vI (rmV V p))[i]? = some (vI (rmV V p))[i] := List.getElem?_eq_getElem (by omega)
      have hmem : (vI (rmV V p))[i] ∈ vI (rmV V p) := List.getElem_mem _
      generalize (vI (rmV V p))[i] = y at *
      have hyR := H.V64 y hmem
      have hyp : y ≠ p := (rmV_idm.1 hmem).2
      rw [gW (i := 3) c rfl, vb_some]
      refine (c.sl (i := 5) rfl).sl.one rfl hx rfl rfl ?_
      refine c.gout cs.toCsK5 0 rfl h8 hyR hp0 (H.out (a := y)) fun r σ3 vo h15 c hq => ?_
      obtain ⟨⟨_, rfl⟩ | ⟨hno, _⟩, H1⟩ := hq
      rotate_left
      · exact absurd hmem hno
      refine ext0t (ext1t ?_)
      rw [gW (i := 3) c rfl, vb_some]
      refine (c.sl (i := 5) rfl).sl.one rfl hx rfl rfl ?_
      refine c.gin cs.toCsK5 0 rfl h8 hyR hp0 (H1.in' (a := y)) fun r σ4 vi h16 c hq => ?_
      obtain ⟨⟨_, rfl⟩ | ⟨hno, _⟩, H2⟩ := hq
      rotate_left
      · exact absurd hmem hno
      refine ext0t (ext1t ?_)
      have hol' := oP_le (E := rmG E p) (v := y)
      have hil' := iP_le (E := rmG E p) (v := y)
      have hgl : (rmG E p).length ≤ E.length := List.length_filter_le ..
      refine Lp1.by (fun (k : Nat) w h' => w = .int .i64 k ∧ k ≤ (oP (rmG E p) y).length ∧ h' = h16) (fun k => (oP (rmG E p) y).length - k) 0 ⟨rfl, Nat.zero_le _, rfl⟩ ?_
      rintro k w h17 ⟨rfl, hk, rfl⟩ again2 hagain2
      rw [(c.sl (i := 6) rfl).sl.ln, vb_some, bin_lss, vb_some]
      refine brd (fun hlt2 => ?_) fun hge2 => ?_
      · have hlt2 : (k : Int) < ((oP (rmG E p) y).length : Int) := hlt2
        have hy : (oP (rmG E p) y)[k]? = some (oP (rmG E p) y)[k] := List.getElem?_eq_getElem (by omega)
        have hmy : (oP (rmG E p) y)[k] ∈ oP (rmG E p) y := List.getElem_mem _
        generalize (oP (rmG E p) y)[k] = z at *
        obtain ⟨e, he, hef, rfl⟩ := oP_mem hmy
        have hne : e.t ≠ p := (rmG_mem.1 he).2.2
        obtain ⟨pr, po, ee, hrow, _⟩ := (c.sl (i := 6) rfl).sl.ix hy (n := 2) rfl (k := .i64) (z := (k : Int)) rfl
        refine En.vb ee (En.vb (ixa_at (i := 0) rfl (by decide) po) (En.vb (hrow.ldc (j := 0) rfl) ?_))
        rw [bin_eql, vb_some]
        refine brd (fun h => absurd h hne) fun _ => ?_
        rw [bin_add, vb_some, wrS (by omega)]
        exact hagain2 (k + 1) _ _ ⟨rfl, by omega, rfl⟩ (by omega)
      clear hagain2 again2
      refine Lp1.by (fun (k : Nat) w h' => w = .int .i64 k ∧ k ≤ (iP (rmG E p) y).length ∧ h' = h17) (fun k => (iP (rmG E p) y).length - k) 0 ⟨rfl, Nat.zero_le _, rfl⟩ ?_
      rintro k w h18 ⟨rfl, hk, rfl⟩ again2 hagain2
      rw [(c.sl (i := 7) rfl).sl.ln, vb_some, bin_lss, vb_some]
      refine brd (fun hlt2 => ?_) fun hge2 => ?_
      · have hlt2 : (k : Int) < ((iP (rmG E p) y).length : Int) := hlt2
        have hy : (iP (rmG E p) y)[k]? = some (iP (rmG E p) y)[k] := List.getElem?_eq_getElem (by omega)
        have hmy : (iP (rmG E p) y)[k] ∈ iP (rmG E p) y := List.getElem_mem _
        generalize (iP (rmG E p) y)[k] = z at *
        obtain ⟨e, he, hef, rfl⟩ := iP_mem hmy
        have hne : e.f ≠ p := (rmG_mem.1 he).2.1
        obtain ⟨pr, po, ee, hrow, _⟩ := (c.sl (i := 7) rfl).sl.ix hy (n := 2) rfl (k := .i64) (z := (k : Int)) rfl
        refine En.vb ee (En.vb (ixa_at (i := 0) rfl (by decide) po) (En.vb (hrow.ldc (j := 0) rfl) ?_))
        rw [bin_eql, vb_some]
        refine brd (fun h => absurd h hne) fun _ => ?_
        rw [bin_add, vb_some, wrS (by omega)]
        exact hagain2 (k + 1) _ _ ⟨rfl, by omega, rfl⟩ (by omega)
      refine (c.sl (i := 5) rfl).sl.one rfl hx rfl rfl ?_
      rw [bin_eql, vb_some]
      refine brd (fun h => absurd h hyp) fun _ => ?_
      rw [bin_add, vb_some, wrS (by omega)]
      exact hagain (i + 1, σ4) _ _ ⟨rfl, by dsimp only; omega, H2, c.pick [0, 1, 2, 3, 4, 5]⟩ (by dsimp only; omega)
    · have hrl := rmV_len hndV hp
      refine .here ?_
      rw [vb_some]
      refine (c.va (i := 4) rfl).fld (j := 0) rfl ?_
      rw [(c.sl (i := 1) rfl).sl.ln, vb_some]
      refine En.vb (v := .int .i64 (rmV V p).length) (by rw [bin_sub, wr64 ⟨by omega, by omega⟩]; congr 2; omega) ?_
      rw [eqI, vb_some, br_true, gW (i := 3) c rfl, vb_some]
      rw [show fa 1 (at0 rx) = some (.pointer (some ⟨rx, 0 + 1, none⟩)) from fa_add _ _ _, vb_some, show ldc (.pointer (some ⟨rx, 0 + 1, none⟩)) h14 = some (shV u.2) from (c.va (i := 4) rfl).row.ldc (j := 1) rfl, vb_some, (c.sl (i := 2) rfl).sl.ln, vb_some]
      have hgl : (rmG E p).length ≤ E.length := List.length_filter_le ..
      refine En.vb (v := .int .i64 (rmG E p).length) (by rw [bin_sub, wr64 ⟨by omega, by omega⟩]; congr 2; omega) ?_
      refine c.last (cs.gedges h8) 0 rfl H.edges fun e σ6 h10 c hq => ?_
      obtain ⟨rfl, H6⟩ := hq
      refine ⟨(c.va (i := 4) rfl).row.ldc (j := 1) rfl, ?_⟩
      unfold uI
      rw [eqI, vb_some]
      exact hR _ c.gr
end
end Go.En
namespace Go.En
open Prog Spc Go.Sort

variable {S : Sys} {I : Ids} {h h0 h' : Hp} {F F0 : Fp} {R : Value → Hp → Prop} {L : List Res} {s : Value} {σ τ : Spc}
/-- a space with arbitrary words that all are known -/
structure WGs (n : Int) (c : Nat) (σ : Spc) : Prop where
  hn : 0 ≤ n ∧ n ≤ 100
  wf : σ.wf
  en : σ.en = false
  kn : ∀ a, D40 n a → (σ.kn a).isSome = true
  pu : σ.pu.length ≤ c
  cb : c + 10000 ≤ big
section
variable {n a b v w : Int} {c k : Nat} {σ' : Spc}
theorem WGs.of (H : WGs n c σ) (W : Wld (D40 n) σ σ' k) (hb : c + k + 10000 ≤ big) : WGs n (c + k) σ' := ⟨H.hn, W.wf, W.en H.en H.kn, fun a ha => by rw [W.kn]; exact H.kn a ha, by have := W.len; have := H.pu; omega, hb⟩
theorem WGs.mono {c' : Nat} (H : WGs n c σ) (h : c ≤ c') (hb : c' + 10000 ≤ big) : WGs n c' σ := ⟨H.hn, H.wf, H.en, H.kn, Nat.le_trans H.pu h, hb⟩
theorem WGs.lk (H : WGs n c σ) (W : Wld (D40 n) σ σ' 0) : WGs n c σ' := H.of (k := 0) W H.cb
/-- an error undoes -/
abbrev Un2 (σ σ' : Spc) (e : Int × Int) : Prop := e.2 ≠ 0 → e.1 = 0 ∧ σ'.pu = σ.pu
theorem wr40 : 0 ≤ (8 : Int) ∧ (8 : Int) ≤ 4000 := by decide
theorem WGs.add (H : WGs n c σ) (hv : R64 v) (hb : c + 3000 + 10000 ≤ big) : wp (gAdd (p40 n) 8 v) σ fun e σ' => WGs n (c + 3000) σ' ∧ Un2 σ σ' e :=
  have G := p40_S H.hn
  have hp := H.pu
  Prog.wp_mono (wd_gAdd H.wf G.dp G.R wr40 hv (by omega)) fun e σ' ⟨W, U⟩ => ⟨(H.of W (by omega)).mono (by omega) hb, fun he => ⟨(U he).1, (U he).2 (W.en H.en H.kn)⟩⟩
theorem WGs.link (H : WGs n c σ) (hw : R64 w) (hb : c + 3000 + 10000 ≤ big) : wp (gLink (p40 n) 8 a b w) σ fun e σ' => WGs n (c + 3000) σ' ∧ Un2 σ σ' e :=
  have G := p40_S H.hn
  have hp := H.pu
  Prog.wp_mono (wd_gLink H.wf G.dp G.R wr40 hw (by omega)) fun e σ' ⟨W, U⟩ => ⟨(H.of W (by omega)).mono (by omega) hb, fun he => ⟨(U he).1, (U he).2 (W.en H.en H.kn)⟩⟩
theorem WGs.cut (H : WGs n c σ) (hb : c + 3000 + 10000 ≤ big) : wp (gCut (p40 n) 8 a) σ fun e σ' => WGs n (c + 3000) σ' ∧ (e ≠ 0 → σ'.pu = σ.pu) :=
  have G := p40_S H.hn
  have hp := H.pu
  Prog.wp_mono (wd_gCut H.wf G.dp G.R (by omega)) fun e σ' ⟨W, U⟩ => ⟨(H.of W (by omega)).mono (by omega) hb, fun he => U he (W.en H.en H.kn)⟩
theorem WGs.drop (H : WGs n c σ) (hb : c + 3000 + 10000 ≤ big) : wp (gDrop (p40 n) 8 a) σ fun e σ' => WGs n (c + 3000) σ' ∧ Un2 σ σ' e :=
  have G := p40_S H.hn
  have hp := H.pu
  have hn := H.hn
  Prog.wp_mono (wd_gDrop H.wf G.dp G.R ⟨hn.1, by show n ≤ 128; omega⟩ (by omega)) fun e σ' ⟨W, U⟩ => ⟨H.of W hb, fun he => ⟨(U he).1, (U he).2 (W.en H.en H.kn)⟩⟩
theorem WGs.wei (H : WGs n c σ) : wp (gWei (p40 n) 8 a b) σ fun _ σ' => WGs n c σ' ∧ σ'.pu = σ.pu :=
  Prog.wp_mono (wd_gWei H.wf (p40_S H.hn).dp) fun e σ' ⟨W, U⟩ => ⟨H.lk W, U⟩
theorem w64n {x : Int} {p : Pl} {k : Int} (h : (p.node x).isSome = true) (hk : 0 ≤ k ∧ k ≤ 7) : w64 (x + k) = x + k := w64_R (by have := node_lt' h; exact ⟨by omega, by omega⟩)
theorem WGs.out (H : WGs n c σ) : wp (gOut (p40 n) 8 a) σ fun r σ' => WGs n c σ' ∧ σ'.pu = σ.pu ∧ (r.2 ≠ 0 → r.1 = none) :=
  have G := p40_S H.hn
  Prog.wp_mono (wd_gEdg H.wf G.dp ⟨by decide, by decide⟩ ⟨by decide, by decide⟩ fun h => by rw [w64n h ⟨by decide, by decide⟩]; exact G.dp.n a (node_isN h) 4 (by decide) (by decide)) fun r σ' ⟨W, U, e⟩ => ⟨H.lk W, U, e⟩
theorem WGs.in' (H : WGs n c σ) : wp (gIn (p40 n) 8 a) σ fun r σ' => WGs n c σ' ∧ σ'.pu = σ.pu ∧ (r.2 ≠ 0 → r.1 = none) :=
  have G := p40_S H.hn
  Prog.wp_mono (wd_gEdg H.wf G.dp ⟨by decide, by decide⟩ ⟨by decide, by decide⟩ fun h => by rw [w64n h ⟨by decide, by decide⟩]; exact G.dp.n a (node_isN h) 5 (by decide) (by decide)) fun r σ' ⟨W, U, e⟩ => ⟨H.lk W, U, e⟩
theorem WGs.ver (H : WGs n c σ) : wp (gVer (p40 n) 8) σ fun _ σ' => WGs n c σ' ∧ σ'.pu = σ.pu :=
  have G := p40_S H.hn
  Prog.wp_mono (wd_gVer H.wf G.dp G.R) fun e σ' ⟨W, U⟩ => ⟨H.lk W, U⟩
end
/-- words of a list, then zeros -/
def wg40 (xs : List Int) (i : Nat) : W3 := ⟨xs[i]?.getD 0, 0, 0⟩
theorem kFsnoc (g : Nat → W3) (j : Nat) : knF g (j + 1) = knF g j ++ [((j : Int), g j)] := by unfold knF; rw [List.range_succ, List.map_append]; rfl
theorem kFnew {g : Nat → W3} {j : Nat} {w : W3} : updA (knF g j) (j : Int) w = knF g j ++ [((j : Int), w)] := by
  refine updA_end ?_
  rw [knF_look, if_neg (by omega)]
theorem kFupd2 {g : Nat → W3} {j : Nat} {w : W3} : updA (knF g j ++ [((j : Int), w)]) (j : Int) (g j) = knF g (j + 1) := by
  rw [kFsnoc]
  refine updA_mid (fun q hq => ?_) rfl
  obtain ⟨i, hi, rfl⟩ := List.mem_map.1 hq
  have := List.mem_range.1 hi
  show (i : Int) ≠ j
  omega
theorem tailB {e : Int} {v : Value} {n : Nat} {X Y : Prop} (hl : lnS v = some (.int .i64 n)) (h0 : e ≠ 0 → n = 0) (hY : Y) : Vb (bin .neq (.int .i64 e) (.int .i64 0)) fun v1 => Br v1 (Vb (lnS v) fun l => Vb (bin .gtr l (.int .i64 0)) fun b => Br b X Y) Y := by
  rw [bin_neq, vb_some]
  refine brd (fun he => ?_) fun _ => hY
  rw [hl, vb_some, bin_gtr, vb_some]
  exact brd (fun hg => absurd hg (by rw [h0 he]; decide)) fun _ => hY
theorem tailL {e : Int} {v : Value} {n : Nat} (J : Value → Prop) (hl : lnS v = some (.int .i64 n)) (h0 : e ≠ 0 → n = 0) (hJ : J (.bool false)) : Vb (bin .neq (.int .i64 e) (.int .i64 0)) fun v1 => Br v1 (Vb (lnS v) fun l => Vb (bin .gtr l (.int .i64 0)) fun b => J b) (J (.bool false)) := by
  rw [bin_neq, vb_some]
  refine brd (fun he => ?_) fun _ => hJ
  rw [hl, vb_some, h0 he]
  exact vb (v := .bool false) rfl hJ
section
variable {l : List C40} {b1 b2 : Value} {xs : List Int}
set_option maxHeartbeats 800000 in
theorem L_GraphLost (cs : CsK8 S I) (s0 : Sl EI1 h b1 xs) (w0 : ∀ x ∈ xs, R64 x) (s1 : Sl ECl h b2 l) (w1 : ∀ x ∈ l, x.ok) (hR : ∀ h', Gr h h' → R (.bool true) h') : F_simulcastlaw40_GraphLost S I b1 b2 h R := by
  have hp0 : 0 ≤ (p40 8).nodes ∧ (p40 8).nodes ≤ 1000 := by decide
  unfold F_simulcastlaw40_GraphLost
  refine cs.gawake fun h1 g => ?_
  have c := (Cx.start0 h).more g
  rw [uno_nb, vb_some, Bool.not_true, br_false]
  refine Jn1.at (fun v h' => ∃ bb : Bool, v = .bool bb ∧ (bb = false → xs.length ≤ 200 ∧ l.length ≤ 20) ∧ h' = h1) ?_ ?_
  · rw [s0.ln, vb_some, bin_gtr, vb_some]
    refine brd (fun h2 => ⟨true, rfl, (fun e => by cases e), rfl⟩) fun h2 => ?_
    rw [s1.ln, vb_some, bin_gtr, vb_some]
    exact ⟨_, rfl, fun e => ⟨by omega, by have := of_decide_eq_false e; omega⟩, rfl⟩
  rintro v h2 ⟨bb, rfl, hbb, rfl⟩
  cases bb with
  | true => rw [br_true]; exact hR _ c.gr
  | false =>
  obtain ⟨hxl, hll⟩ := hbb rfl
  rw [br_false]
  refine cs.made40 (n := 8) ⟨by decide, by decide⟩ fun h3 g => ?_
  have c := c.more g
  rw [show (24 + 8 * (8 : Int)) = ((N40 8 : Nat) : Int) from rfl]
  refine ext0t (ext1t ?_)
  refine c.nw EG (⟨0, 0, 0⟩, 0) rfl fun rg h4 c => ?_
  refine c.sto 0 rfl (p40 8, 8) rfl rfl fun h5 c => ?_
  refine c.mmk .i64 mW fun km h6 c => ?_
  have hv : ∀ i, R64 (wg40 xs i).v := fun i => by
    unfold wg40
    show R64 (xs[i]?.getD 0)
    cases h : xs[i]? with
    | none => exact ⟨by decide, by decide⟩
    | some y => exact w0 y (List.mem_of_getElem? h)
  refine Lp1.by (fun (j : Nat) v h' => v = .int .i64 j ∧ j ≤ N40 8 ∧ Cx (fun _ => False) h h' [rVar EG rg (p40 8, 8), rMp .i64 mW (.map (some km)) (knF (wg40 xs) j)]) (fun j => N40 8 - j) 0 ⟨rfl, Nat.zero_le _, c⟩ ?_
  clear c
  rintro j v h7 ⟨rfl, hj, c⟩ again hagain
  rw [bin_lss, vb_some]
  have hj88 : j ≤ 88 := hj
  refine brd (fun h10 => ?_) fun h10 => ?_
  · refine Jn0.at (fun h' => Cx (fun _ => False) h h' [rVar EG rg (p40 8, 8), rMp .i64 mW (.map (some km)) (knF (wg40 xs) (j + 1))]) ?_ ?_
    · rw [bldWz, vb_some]
      refine c.mup 1 rfl (j : Int) W0 rfl fun h11 c => ?_
      rw [kFnew] at c
      rw [s0.ln, vb_some, bin_lss, vb_some]
      refine brd (fun h12 => ?_) fun h12 => ?_
      · have hx : xs[j]? = some xs[j] := List.getElem?_eq_getElem (by omega)
        refine (s0.gr c.gr).one rfl hx rfl rfl ?_
        refine vb (v := mW ⟨xs[j], 0, 0⟩) (bldW0 _) ?_
        refine c.mup 1 rfl (j : Int) (wg40 xs j) (by unfold wg40; rw [hx]; rfl) fun h13 c => ?_
        rw [kFupd2] at c
        exact c
      · have e : wg40 xs j = W0 := by unfold wg40; rw [List.getElem?_eq_none (by omega)]; rfl
        rw [kFsnoc, e]
        exact c
    · clear c
      intro h11 c
      rw [bin_add, vb_some, wrS (by omega)]
      have : (j : Int) < ((N40 8 : Nat) : Int) := h10
      exact hagain (j + 1) _ _ ⟨rfl, by omega, c⟩ (by omega)
  have ej : j = N40 8 := by have : ¬ (j : Int) < ((N40 8 : Nat) : Int) := h10; omega
  subst ej
  clear hagain again
  refine c.cNew cs.toCsD 1 rfl (knF_nodup _ _) (knF_val fun i _ => hv i) fun s h11 c => ?_
  have H0 : WGs 8 0 (newS (knF (wg40 xs) (N40 8))) := ⟨⟨by decide, by decide⟩, newS_wf (knF_val fun i _ => hv i), rfl, fun a ha => by
    rw [newS_knF (fun i _ => rfl), if_pos ⟨ha.1, by have := ha.2; show a < ((24 + 8 * 8 : Nat) : Int); omega⟩]; rfl, Nat.le_refl 0, by decide⟩
  generalize newS (knF (wg40 xs) (N40 8)) = σ0 at *
  refine Lp1.by (fun (q : Nat × Spc) v h' => v = .int .i64 q.1 ∧ q.1 ≤ l.length ∧ WGs 8 (3000 * q.1) q.2 ∧ Cx (fun _ => False) h h' [rVar EG rg (p40 8, 8), rSpace s q.2]) (fun q => l.length - q.1) (0, σ0) ⟨rfl, Nat.zero_le _, H0, c.pick [0, 2]⟩ ?_
  clear c H0
  rintro ⟨i, σ⟩ v h12 ⟨rfl, hi, H, c⟩ again hagain
  dsimp only at *
  rw [s1.ln, vb_some, bin_lss, vb_some]
  refine brd (fun hlt => ?_) fun hge => hR _ c.gr
  have hx : l[i]? = some l[i] := List.getElem?_eq_getElem (by omega)
  have hok := w1 l[i] (List.getElem_mem _)
  generalize l[i] = x at *
  have hd := hok.d
  refine c.cMark cs.toCsD 1 rfl fun h13 c => ?_
  have ta := tmod_lt (n := 9) (a := x.a) (by decide)
  have tb := tmod_lt (n := 9) (a := x.b) (by decide)
  have hxa := hok.a
  have hxb := hok.b
  refine (s1.gr c.gr).fld rfl hx rfl (j := 1) rfl ?_
  rw [cvi_int, vb_some, wr64 ⟨by omega, by omega⟩, bin_rem (by decide), vb_some]
  refine En.vb (v := .int .i64 (8 * x.a.tmod 9)) (by rw [bin_mul, wr64 ⟨by omega, by omega⟩]) ?_
  refine En.vb (v := .int .i64 (24 + 8 * x.a.tmod 9)) (addI ⟨by omega, by omega⟩) ?_
  refine (s1.gr c.gr).fld rfl hx rfl (j := 2) rfl ?_
  rw [cvi_int, vb_some, wr64 ⟨by omega, by omega⟩, bin_rem (by decide), vb_some]
  refine En.vb (v := .int .i64 (8 * x.b.tmod 9)) (by rw [bin_mul, wr64 ⟨by omega, by omega⟩]) ?_
  refine En.vb (v := .int .i64 (24 + 8 * x.b.tmod 9)) (addI ⟨by omega, by omega⟩) ?_
  have hA : R64 (24 + 8 * x.a.tmod 9) := ⟨by omega, by omega⟩
  have hB : R64 (24 + 8 * x.b.tmod 9) := ⟨by omega, by omega⟩
  generalize 24 + 8 * x.a.tmod 9 = a at *
  generalize 24 + 8 * x.b.tmod 9 = b at *
  have hb : 3000 * i + 3000 + 10000 ≤ big := by unfold big; omega
  refine Jn2.at (fun v e h' => ∃ r : Int × Int, ∃ σ', v = .int .i64 r.1 ∧ e = .int .i64 r.2 ∧ WGs 8 (3000 * (i + 1)) σ' ∧ Un2 σ σ' r ∧ Cx (fun _ => False) h h' [rVar EG rg (p40 8, 8), rSpace s σ']) ?_ ?_
  · refine (s1.gr c.gr).fld rfl hx rfl (j := 0) rfl ?_
    rw [show bin .rem (.int .u8 x.d) (.int .u8 8) = some (.int .u8 (x.d % 8)) by rw [bin_rem (by omega), Int.tmod_eq_emod_of_nonneg hd.1], vb_some]
    generalize x.d % 8 = k
    refine Jn1.at (fun v h' => v = .bool (decide (k = 0 ∨ k = 1)) ∧ h' = h13) ?_ ?_
    · rw [bin_eql, vb_some]
      refine brd (fun e => ⟨by rw [decide_eq_true (show k = 0 ∨ k = 1 from .inl e), decide_eq_true e], rfl⟩) fun e => ?_
      rw [bin_eql, vb_some]
      exact ⟨by congr 1; exact decide_eq_decide.2 ⟨.inr, fun h => h.resolve_left e⟩, rfl⟩
    rintro v h14 ⟨rfl, rfl⟩
    refine brd (fun _ => ?_) fun _ => ?_
    · rw [gW (i := 0) c rfl, vb_some]
      refine (s1.gr c.gr).fld rfl hx rfl (j := 3) rfl ?_
      refine c.last (cs.gadd wr40 hok.n) 1 rfl (H.add hok.n hb) fun e σ' h15 c hq => ?_
      unfold uE
      exact ext0t (ext1t ⟨e, σ', rfl, rfl, hq.1, hq.2, c⟩)
    refine Jn1.at (fun v h' => v = .bool (decide (k = 2 ∨ k = 3)) ∧ h' = h14) ?_ ?_
    · rw [bin_eql, vb_some]
      refine brd (fun e => ⟨by rw [decide_eq_true (show k = 2 ∨ k = 3 from .inl e), decide_eq_true e], rfl⟩) fun e => ?_
      rw [bin_eql, vb_some]
      exact ⟨by congr 1; exact decide_eq_decide.2 ⟨.inr, fun h => h.resolve_left e⟩, rfl⟩
    rintro v h15 ⟨rfl, rfl⟩
    refine brd (fun _ => ?_) fun _ => ?_
    · rw [gW (i := 0) c rfl, vb_some]
      refine (s1.gr c.gr).fld rfl hx rfl (j := 3) rfl ?_
      refine c.last (cs.glink wr40 hp0 hA hB hok.n) 1 rfl (H.link hok.n hb) fun e σ' h15 c hq => ?_
      unfold uE
      exact ext0t (ext1t ⟨e, σ', rfl, rfl, hq.1, hq.2, c⟩)
    rw [bin_eql, vb_some]
    refine brd (fun _ => ?_) fun _ => ?_
    · rw [gW (i := 0) c rfl, vb_some]
      refine c.last (cs.gCut wr40 hA) 1 rfl (H.cut hb) fun e σ' h15 c hq => ?_
      exact ⟨(0, e), σ', rfl, rfl, hq.1, fun he => ⟨rfl, hq.2 he⟩, c⟩
    rw [bin_eql, vb_some]
    refine brd (fun _ => ?_) fun _ => ?_
    · rw [gW (i := 0) c rfl, vb_some]
      refine c.last (cs.gdrop wr40 hp0 hA) 1 rfl (H.drop hb) fun e σ' h15 c hq => ?_
      unfold uE
      exact ext0t (ext1t ⟨e, σ', rfl, rfl, hq.1, hq.2, c⟩)
    · exact ⟨(0, 0), σ, rfl, rfl, H.mono (by omega) (by omega), fun he => absurd rfl he, c⟩
  · clear c
    rintro v e h14 ⟨r, σ1, rfl, rfl, H1, hU, c⟩
    rw [gW (i := 0) c rfl, vb_some]
    refine c.last (cs.gwei wr40 hp0 hA hB) 1 rfl H1.wei fun e2 σ2 h15 c hq => ?_
    obtain ⟨H2, u2⟩ := hq
    rw [gW (i := 0) c rfl, vb_some]
    refine c.gout cs.toCsK5 1 rfl wr40 hA hp0 (H2.out (a := a)) fun ro σ3 vo h16 c hq => ?_
    obtain ⟨H3, u3, eo⟩ := hq
    refine ext0t (ext1t ?_)
    rw [gW (i := 0) c rfl, vb_some]
    refine c.gin cs.toCsK5 1 rfl wr40 hB hp0 (H3.in' (a := b)) fun ri σ4 vi h17 c hq => ?_
    obtain ⟨H4, u4, ei⟩ := hq
    refine ext0t (ext1t ?_)
    rw [gW (i := 0) c rfl, vb_some]
    refine c.gver cs.toCsK5 1 rfl wr40 hp0 H4.ver fun rv σ5 vv h18 c hq => ?_
    obtain ⟨H5, u5⟩ := hq
    refine ext0t (ext1t ?_)
    have c : Cx (fun _ => False) h h18 [rVar EG rg (p40 8, 8), rSpace s σ5, rSl E2I vo (ro.1.getD []), rSl E2I vi (ri.1.getD []), rSl EI1 vv (rv.getD [])] := c
    have lo : ro.2 ≠ 0 → (ro.1.getD []).length = 0 := fun he => by rw [eo he]; rfl
    have li : ri.2 ≠ 0 → (ri.1.getD []).length = 0 := fun he => by rw [ei he]; rfl
    have lv : (if rv.isSome then (0 : Int) else 24) ≠ 0 → (rv.getD []).length = 0 := fun he => by
      cases rv with
      | none => rfl
      | some z => exact absurd rfl he
    generalize (if rv.isSome then (0 : Int) else 24) = ev at *
    refine Jn1.at (fun v h' => v = .bool false ∧ Cx (fun _ => False) h h' [rVar EG rg (p40 8, 8), rSpace s σ5]) ?_ ?_
    · obtain ⟨F', pa⟩ := c.get (i := 1) rfl
      refine cs.ended pa ?_
      rw [H5.en, br_false, bin_neq, vb_some]
      have c2 := c.drop (L := [rVar EG rg (p40 8, 8), rSpace s σ5]) (L' := [_, _, _])
      refine brd (fun he => ?_) fun he => ?_
      · refine c.cMark cs.toCsD 1 rfl fun h19 c => ?_
        have c2 := c.drop (L := [rVar EG rg (p40 8, 8), rSpace s σ5]) (L' := [_, _, _])
        rw [u5, u4, u3, u2, (hU he).2, neI, vb_some, br_false, (hU he).1, neI, vb_some, br_false]
        exact tailB (c.sl (i := 2) rfl).sl.ln lo (tailB (c.sl (i := 3) rfl).sl.ln li (tailL (fun w => w = Value.bool false ∧ Cx (fun _ => False) h h19 [rVar EG rg (p40 8, 8), rSpace s σ5]) (c.sl (i := 4) rfl).sl.ln lv (And.intro rfl c2)))
      · exact tailB (c.sl (i := 2) rfl).sl.ln lo (tailB (c.sl (i := 3) rfl).sl.ln li (tailL (fun w => w = Value.bool false ∧ Cx (fun _ => False) h h18 [rVar EG rg (p40 8, 8), rSpace s σ5]) (c.sl (i := 4) rfl).sl.ln lv (And.intro rfl c2)))
    · clear c
      rintro v h19 ⟨rfl, c⟩
      rw [br_false, bin_add, vb_some, wrS (by omega)]
      exact hagain (i + 1, σ5) _ _ ⟨rfl, by dsimp only; omega, H5, c⟩ (by dsimp only; omega)
end
end Go.En
namespace Go.En
open Prog Spc Go.Sort

variable {S : Sys} {I : Ids} {h h0 h' : Hp} {F F0 : Fp} {R : Value → Hp → Prop} {L : List Res} {s : Value} {σ τ : Spc}
theorem wp_out {α : Type} : ∀ {p : Prog α} {σ : Spc} {Q : α → Spc → Prop}, wp p σ Q → Q (p.run σ).1 (p.run σ).2
  | .ret a, σ, Q, h => h
  | .get a k, σ, Q, h => wp_out (p := k _) h
  | .put a v k, σ, Q, h => wp_out (p := k) h.2.2
  | .mark k, σ, Q, h => wp_out (p := k _) h
  | .back m k, σ, Q, h => wp_out (p := k) h
theorem allD40 {p : Pl} : PoolD All p := ⟨fun _ _ _ => trivial, fun _ _ _ _ _ => trivial⟩
/-- two programs, one after the other, on a space that knows less -/
theorem sim_two {α β : Type} {p : Prog α} {q : Prog β} (H : Sim σ τ) (h1 : (p.run τ).2.en = false) (h2 : (q.run (p.run τ).2).2.en = false) :
    ((p.run σ).1 = (p.run τ).1 ∧ (q.run (p.run σ).2).1 = (q.run (p.run τ).2).1 ∧ Sim (q.run (p.run σ).2).2 (q.run (p.run τ).2).2) ∨
    ((q.run (p.run σ).2).2.en = true ∧ (q.run (p.run σ).2).2.nd ∈ (q.run (p.run τ).2).2.rd ∧ σ.kn (q.run (p.run σ).2).2.nd = none) := by
  rcases sim_run (p := p) H h1 with ⟨e1, H1⟩ | ⟨e1, e2, e3⟩
  · rcases sim_run (p := q) H1 h2 with ⟨e2, H2⟩ | ⟨e2, e3, e4⟩
    · exact .inl ⟨e1, e2, H2⟩
    · exact .inr ⟨e2, e3, by rw [run_kn (p := p)] at e4; exact e4⟩
  · obtain ⟨f1, f2⟩ := run_en (p := q) e1
    exact .inr ⟨f1, by rw [f2]; exact run_rd _ e2, by rw [f2]; exact e3⟩
section
variable {l : List C40} {b1 : Value} {x : C40}
set_option maxRecDepth 4000 in
set_option maxHeartbeats 800000 in
theorem L_GraphAnew (cs : CsK8 S I) (s1 : Sl ECl h b1 l) (w1 : ∀ x ∈ l, x.ok) (hx : x.ok) (hR : ∀ h', Gr h h' → R (.bool true) h') : F_simulcastlaw40_GraphAnew S I b1 (.agg ⟨ECl.c x⟩) h R := by
  have hp0 : 0 ≤ (p40 24).nodes ∧ (p40 24).nodes ≤ 1000 := by decide
  have G24 := p40_S (n := 24) ⟨by decide, by decide⟩
  unfold F_simulcastlaw40_GraphAnew
  refine (Cx.start0 h).nw ECl x rfl fun rc h1 c => ?_
  refine cs.gawake fun h2 g => ?_
  have c := c.more g
  rw [uno_nb, vb_some, Bool.not_true, br_false, s1.ln, vb_some, bin_gtr, vb_some]
  refine brd (fun _ => hR _ c.gr) fun hlen => ?_
  refine cs.gplayed (s1.gr c.gr) w1 (by omega) fun s σ u V E va all h3 c2 H hall hal => ?_
  have c := c.frame0 c2
  clear c2
  refine En.vb (v := vG (p40 24) 8) rfl (En.vb (v := s) rfl (En.vb (v := vGr u) rfl (En.vb (v := va) rfl (En.vb (v := .bool true) rfl ?_))))
  refine c.nw EG (⟨0, 0, 0⟩, 0) rfl fun rg h4 c => ?_
  refine c.nw EGr ((none, 0, 0), (none, 0, 0)) rfl fun rx h5 c => ?_
  refine c.sto 5 rfl (p40 24, 8) rfl rfl fun h6 c => ?_
  refine c.sto 6 rfl u rfl rfl fun h7 c => ?_
  have c : Cx (fun _ => False) h h7 [rVar ECl rc x, rSpace s σ, rSl EI1 va all, rVar EG rg (p40 24, 8)] := c.pick [0, 1, 4, 5]
  rw [uno_nb, vb_some, Bool.not_true, br_false]
  refine cs.made40 (n := 24) ⟨by decide, by decide⟩ fun h8 g => ?_
  have c := c.more g
  rw [show (24 + 8 * (24 : Int)) = ((216 : Nat) : Int) from rfl]
  refine ext0t (ext1t ?_)
  refine c.nw EG (⟨0, 0, 0⟩, 0) rfl fun rg2 h9 c => ?_
  refine c.sto 4 rfl (p40 24, 8) rfl rfl fun h10 c => ?_
  refine c.mmk .i64 mW fun k1 h11 c => ?_
  refine c.mmk .i64 mW fun k2 h12 c => ?_
  have c : Cx (fun _ => False) h h12 [rVar ECl rc x, rSpace s σ, rSl EI1 va all, rVar EG rg (p40 24, 8), rMp .i64 mW (.map (some k1)) [], rMp .i64 mW (.map (some k2)) []] := c.pick [0, 1, 2, 3, 5, 6]
  obtain ⟨hn, hcb, hu, m, fr, out, S0, X, hpl⟩ := H
  refine Lp1.by (fun (q : Nat × Spc) v h' => v = .int .i64 q.1 ∧ q.1 ≤ 216 ∧ Sm (D40 24) σ q.2 m 0 ∧ Cx (fun _ => False) h h' [rVar ECl rc x, rSpace s q.2, rSl EI1 va all, rVar EG rg (p40 24, 8), rMp .i64 mW (.map (some k1)) (knF (fun i => ⟨m (i : Int), 0, 0⟩) q.1), rMp .i64 mW (.map (some k2)) []]) (fun q => 216 - q.1) (0, σ)
    ⟨rfl, Nat.zero_le _, S0, c⟩ ?_
  clear c
  rintro ⟨j, σ1⟩ v h13 ⟨rfl, hj, S1, c⟩ again hagain
  dsimp only at *
  rw [bin_lss, vb_some]
  refine brd (fun hlt => ?_) fun hge => ?_
  · refine c.cGet cs.toCsD 1 rfl fun h14 c => ?_
    have hlt : (j : Int) < ((216 : Nat) : Int) := hlt
    rw [S1.get (a := (j : Int)) ⟨by omega, by omega⟩] at c ⊢
    rw [bldW0, vb_some]
    refine c.mup 4 rfl (j : Int) (⟨m (j : Int), 0, 0⟩ : W3) rfl fun h15 c => ?_
    rw [bin_add, vb_some, wrS (by omega)]
    have ek : updA (knF (fun i => (⟨m (i : Int), 0, 0⟩ : W3)) j) (j : Int) ⟨m (j : Int), 0, 0⟩ = knF (fun i => ⟨m (i : Int), 0, 0⟩) (j + 1) := knF_upd (g := fun i => ⟨m (i : Int), 0, 0⟩) (n := j)
    rw [ek] at c
    exact hagain (j + 1, σ1.rds j) _ _ ⟨rfl, by dsimp only; omega, S1.rds j, c⟩ (by dsimp only; omega)
  have ej : j = 216 := by have : ¬ (j : Int) < ((216 : Nat) : Int) := hge; omega
  subst ej
  clear hagain again hge
  have hgv : ∀ i, i < 216 → R64 ((fun i : Nat => (⟨m (i : Int), 0, 0⟩ : W3)) i).v := fun i _ => S1.rg _
  refine c.cNew cs.toCsD 4 rfl (knF_nodup _ _) (knF_val hgv) fun sw h14 c => ?_
  have hkn : ∀ a, (newS (knF (fun i : Nat => (⟨m (i : Int), 0, 0⟩ : W3)) 216)).kn a = if 0 ≤ a ∧ a < ((216 : Nat) : Int) then some ⟨m (a.toNat : Int), 0, 0⟩ else none := fun a => newS_knF (g := fun i : Nat => (⟨m (i : Int), 0, 0⟩ : W3)) fun i _ => rfl
  have hW0 : WGs 24 0 (newS (knF (fun i : Nat => (⟨m (i : Int), 0, 0⟩ : W3)) 216)) := ⟨⟨by decide, by decide⟩, newS_wf (knF_val hgv), rfl, fun a ha => by
    rw [hkn, if_pos ⟨ha.1, by have := ha.2; omega⟩]; rfl, Nat.le_refl 0, by decide⟩
  have hr0 : (newS (knF (fun i : Nat => (⟨m (i : Int), 0, 0⟩ : W3)) 216)).rd = [] := rfl
  have he0 : (newS (knF (fun i : Nat => (⟨m (i : Int), 0, 0⟩ : W3)) 216)).en = false := rfl
  have hpu0 : (newS (knF (fun i : Nat => (⟨m (i : Int), 0, 0⟩ : W3)) 216)).pu = [] := rfl
  have c : Cx (fun _ => False) h h14 [rVar ECl rc x, rSl EI1 va all, rVar EG rg (p40 24, 8), rMp .i64 mW (.map (some k1)) (knF (fun i => ⟨m (i : Int), 0, 0⟩) 216), rMp .i64 mW (.map (some k2)) [], rSpace sw (newS (knF (fun i : Nat => (⟨m (i : Int), 0, 0⟩ : W3)) 216))] := c.pick [0, 2, 3, 4, 5, 6]
  generalize newS (knF (fun i : Nat => (⟨m (i : Int), 0, 0⟩ : W3)) 216) = τ0 at *
  refine (c.va (i := 0) rfl).fld (j := 1) rfl ?_
  rw [show fa 2 (at0 rc) = some (.pointer (some ⟨rc, 0 + 2, none⟩)) from fa_add _ _ _, vb_some, show ldc (.pointer (some ⟨rc, 0 + 2, none⟩)) h14 = some (.int .i16 x.b) from (c.va (i := 0) rfl).row.ldc (j := 2) rfl, vb_some]
  refine cs.hdl40 (c.sl (i := 1) rfl).sl (by omega) hx.a ?_
  refine ⟨(c.va (i := 0) rfl).row.ldc (j := 2) rfl, ?_⟩
  refine cs.hdl40 (c.sl (i := 1) rfl).sl (by omega) hx.b ?_
  have hA := hdl_R hall hx.a
  have hB := hdl_R hall hx.b
  generalize hdl all x.a = a at *
  generalize hdl all x.b = b at *
  -- the two programs
  have t1 := wd_gLink (A := D40 24) (p := p40 24) (root := 8) (a := a) (b := b) hW0.wf G24.dp G24.R wr40 hx.n (by rw [hpu0]; decide)
  have w1' := wp_out t1
  have H1 : WGs 24 (0 + 20) ((gLink (p40 24) 8 a b x.n).run τ0).2 := hW0.of w1'.1 (by decide)
  have t2 := wd_gDrop (A := D40 24) (p := p40 24) (root := 8) (n := b) H1.wf G24.dp G24.R (by decide) (by have := H1.pu; unfold big; omega)
  have w2' := wp_out t2
  have H2 : WGs 24 (0 + 20 + 3000) ((gDrop (p40 24) 8 b).run ((gLink (p40 24) 8 a b x.n).run τ0).2).2 := H1.of w2'.1 (by decide)
  have hrd : ∀ y ∈ ((gDrop (p40 24) 8 b).run ((gLink (p40 24) 8 a b x.n).run τ0).2).2.rd, 0 ≤ y ∧ y < ((216 : Nat) : Int) := fun y hy => by
    rcases w2'.1.rd y hy with h | h
    · rcases w1'.1.rd y h with h | h
      · rw [hr0] at h; cases h
      · exact ⟨h.1, by have := h.2; omega⟩
    · exact ⟨h.1, by have := h.2; omega⟩
  rw [gW (i := 2) c rfl, vb_some]
  refine (c.va (i := 0) rfl).fld (j := 3) rfl ?_
  refine c.last (cs.glink wr40 hp0 hA hB hx.n) 5 rfl (wp_det t1) fun e τ1 h15 c hq => ?_
  obtain ⟨rfl, rfl⟩ := hq
  unfold uE
  refine ext0t (ext1t ?_)
  rw [gW (i := 2) c rfl, vb_some]
  refine c.last (cs.gdrop wr40 hp0 hB) 5 rfl (wp_det t2) fun e τ2 h16 c hq => ?_
  obtain ⟨rfl, rfl⟩ := hq
  unfold uE
  refine ext0t (ext1t ?_)
  clear t1 t2
  have e1 := H1.en
  have e2 := H2.en
  refine Lp1.by (fun (ps : List (Int × W3)) v h' => v = .int .i64 ps.length ∧ Sub (fun i => ⟨m (i : Int), 0, 0⟩) 216 ps ∧ Cx (fun _ => False) h h' [rVar ECl rc x, rSl EI1 va all, rVar EG rg (p40 24, 8), rMp .i64 mW (.map (some k1)) (knF (fun i => ⟨m (i : Int), 0, 0⟩) 216), rMp .i64 mW (.map (some k2)) ps, rSpace sw ((gDrop (p40 24) 8 b).run ((gLink (p40 24) 8 a b x.n).run τ0).2).2]) (fun ps => 217 - ps.length) []
    ⟨rfl, Sub.nil _ _, c⟩ ?_
  clear c
  rintro ps v h17 ⟨rfl, hsub, c⟩ again hagain
  have hpsl : ∀ qs : List (Int × W3), Sub (fun i => ⟨m (i : Int), 0, 0⟩) 216 qs → qs.length ≤ 216 := fun qs hq => by
    have := rdlen (n := 216) hq.nd fun y hy => by
      obtain ⟨p, hp, rfl⟩ := List.mem_map.1 hy
      have := hq.mem p hp
      exact ⟨this.1, this.2.1⟩
    rwa [List.length_map] at this
  have hpl := hpsl ps hsub
  rw [show bin .leq (.int .i64 (ps.length : Int)) (.int .i64 ((216 : Nat) : Int)) = some (.bool (decide ((ps.length : Int) ≤ ((216 : Nat) : Int)))) from bin_leq, vb_some]
  refine brd (fun _ => ?_) fun h => absurd (by omega) h
  have hpv : ∀ p ∈ ps, R64 p.2.v := fun p hp => by have := hsub.mem p hp; rw [this.2.2]; exact S1.rg _
  refine c.cNew cs.toCsD 4 rfl hsub.nd hpv fun sp h18 c => ?_
  have hkp : ∀ a, (newS ps).kn a = if a ∈ ps.map (·.1) then some ⟨m (a.toNat : Int), 0, 0⟩ else none := fun a => hsub.kn fun i _ => rfl
  have hwf : (newS ps).wf := newS_wf hpv
  have hp1 : (newS ps).pu = [] := rfl
  have sim : Sim (newS ps) τ0 := by
    refine ⟨rfl, he0, hr0.symm, hpu0.symm, fun a w hw => ?_, fun a ha => by cases ha⟩
    rw [hkp] at hw
    split at hw
    · rename_i hm
      obtain ⟨p, hp, rfl⟩ := List.mem_map.1 hm
      have := hsub.mem p hp
      rw [hkn, if_pos ⟨this.1, this.2.1⟩]; exact hw
    · cases hw
  have c : Cx (fun _ => False) h h18 [rVar ECl rc x, rSl EI1 va all, rVar EG rg (p40 24, 8), rMp .i64 mW (.map (some k1)) (knF (fun i => ⟨m (i : Int), 0, 0⟩) 216), rMp .i64 mW (.map (some k2)) ps, rSpace sw ((gDrop (p40 24) 8 b).run ((gLink (p40 24) 8 a b x.n).run τ0).2).2, rSpace sp (newS ps)] := c
  generalize newS ps = σ0 at *
  have u1 := wd_gLink (A := All) (p := p40 24) (root := 8) (a := a) (b := b) hwf allD40 (fun _ _ _ => trivial) wr40 hx.n (by rw [hp1]; decide)
  have v1 := (wp_out u1).1
  have u2 := wd_gDrop (A := All) (p := p40 24) (root := 8) (n := b) v1.wf allD40 (fun _ _ _ => trivial) (by decide) (by have := v1.len; rw [hp1] at this; simp only [List.length_nil] at this; unfold big; omega)
  have v2 := (wp_out u2).1
  have key := sim_two (p := gLink (p40 24) 8 a b x.n) (q := gDrop (p40 24) 8 b) sim e1 e2
  rw [gW (i := 2) c rfl, vb_some]
  refine (c.va (i := 0) rfl).fld (j := 3) rfl ?_
  refine c.last (cs.glink wr40 hp0 hA hB hx.n) 6 rfl (wp_det u1) fun e σ1' h19 c hq => ?_
  obtain ⟨rfl, rfl⟩ := hq
  unfold uE
  refine ext0t (ext1t ?_)
  rw [gW (i := 2) c rfl, vb_some]
  refine c.last (cs.gdrop wr40 hp0 hB) 6 rfl (wp_det u2) fun e σ2' h20 c hq => ?_
  obtain ⟨rfl, rfl⟩ := hq
  unfold uE
  refine ext0t (ext1t ?_)
  have l2 := v2.len
  have l1 := v1.len
  rw [hp1] at l1
  simp only [List.length_nil] at l1
  have l3 := H2.pu
  generalize (gLink (p40 24) 8 a b x.n).run τ0 = T1 at *
  generalize (gLink (p40 24) 8 a b x.n).run σ0 = P1 at *
  generalize (gDrop (p40 24) 8 b).run T1.2 = T2 at *
  generalize (gDrop (p40 24) 8 b).run P1.2 = P2 at *
  refine c.cNeed cs.toCsD 6 rfl ?_
  refine ext0t (ext1t ?_)
  rcases key with ⟨k1', k2', HS⟩ | ⟨k1', k2', k3'⟩
  · rw [HS.en, br_false]
    refine .here ?_
    rw [k1', k2', eqI, vb_some, br_true, eqI, vb_some, br_true, eqI, vb_some, br_true, eqI, vb_some, br_true]
    refine c.cWrites cs.hh 6 rfl (by omega) fun w3 h21 c => ?_
    rw [(c.sl (i := 7) rfl).sl.ln, vb_some]
    refine c.cWrites cs.hh 5 rfl (by omega) fun w4 h22 c => ?_
    rw [(c.sl (i := 8) rfl).sl.ln, vb_some, HS.pu, eqI, vb_some, br_true, gW (i := 2) c rfl, vb_some]
    refine c.last (cs.gedges wr40) 5 rfl (Q := fun v σ' => v = (T2.2.get 10).1 ∧ σ' = (T2.2.get 10).2) ⟨rfl, rfl⟩ fun e σe h23 c hq => ?_
    obtain ⟨rfl, rfl⟩ := hq
    have hk10 : (T2.2.kn 10).isSome = true := H2.kn 10 ⟨by decide, by decide⟩
    have eg : T2.2.get 10 = (T2.2.vw 10, T2.2.rds 10) := by unfold Spc.get; rw [if_neg (by rw [e2]; simp), if_pos hk10]
    have eg2 : (T2.2.rds 10).get 10 = (T2.2.vw 10, (T2.2.rds 10).rds 10) := by unfold Spc.get; rw [if_neg (by show ¬ T2.2.en = true; rw [e2]; simp), if_pos (show ((T2.2.rds 10).kn 10).isSome = true from hk10)]; rfl
    rw [eg] at c ⊢
    refine c.cGet cs.toCsD 5 rfl fun h24 c => ?_
    unfold uI
    rw [show (T2.2.vw 10, T2.2.rds 10).2 = T2.2.rds 10 from rfl, eg2, eqI, vb_some]
    exact hR _ c.gr
  · rw [k1', br_true, if_pos rfl]
    have hin := hrd _ k2'
    generalize P2.2.nd = z at *
    rw [hkp] at k3'
    have hna : z ∉ ps.map (·.1) := by
      intro hm
      rw [if_pos hm] at k3'; cases k3'
    rw [(c.mp (i := 3) rfl).look, vb_some, knF_look, if_pos (show 0 ≤ z ∧ z < ((216 : Nat) : Int) from hin)]
    obtain ⟨eu, hsub'⟩ := hsub.add (n := 216) hin hna
    have hl' := hpsl _ hsub'
    rw [List.length_append, List.length_singleton] at hl'
    refine c.mup 4 rfl z (⟨m (z.toNat : Int), 0, 0⟩ : W3) rfl fun h21 c => ?_
    rw [bin_add, vb_some, wrS (by omega)]
    rw [eu] at c
    refine hagain (ps ++ [(z, (⟨m (z.toNat : Int), 0, 0⟩ : W3))]) _ _ ⟨by rw [List.length_append]; rfl, hsub', c.drop (L := [_, _, _, _, _, _]) (L' := [_])⟩ (by rw [List.length_append, List.length_singleton]; omega)
end
end Go.En
namespace Go.En
open Go.ChangeShapes Go.WideShapes Prog Go.Sort
theorem csK8 : CsK8 (Sys.of Go.Proofs.Try.prog) ids := { csK7 with
  hh := csH
  free := fun a b c d k => C_pool_Pool_Free (K_Free csQ a b c d k) }
end Go.En
