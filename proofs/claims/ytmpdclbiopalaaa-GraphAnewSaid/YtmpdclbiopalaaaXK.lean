/-
  Layer 40: same, played, and the example.
-/
import Derived.Test.YtmpdclbiopalaaaXI
import Derived.Test.YtmpdclbiopalaaaXE
namespace Go.En
open Prog Spc Go.Sort

variable {S : Sys} {I : Ids} {h h0 h' : Hp} {F F0 : Fp} {R : Value → Hp → Prop} {L : List Res} {s : Value} {σ τ : Spc}
structure CsK6 (S : Sys) (I : Ids) : Prop extends CsK5 S I where
  gdo : ∀ {n : Int} {u : SH × SH} {V : List (Int × Int)} {E : List Ed} {cnt : Nat} {x : C40} {all : List Int} {va s : Value} {σ : Spc} {F : Fp} {h0 : Hp} {R}, x.ok → SG n V E cnt σ → cnt + 3000 + 10000 ≤ big → (∀ y ∈ all, R64 y) → all.length ≤ 50000 → Cx F h0 h0 (GL s σ u V E va all) →
    (∀ u' va' h', DoR n (cnt + 3000) F h0 s all u' va' h' → R (.tuple #[vGr u', va', .bool true]) h') → S.C I.f_simulcastlaw40_do [vG (p40 n) 8, s, vGr u, va, vCl x] h0 R
section
variable {n : Int} {u : SH × SH} {V : List (Int × Int)} {E : List Ed} {cnt : Nat} {x : C40} {all : List Int} {va : Value}
theorem vI_at {i : Nat} {y : Int × Int} (h : V[i]? = some y) : (vI V)[i]? = some y.1 := by unfold vI; rw [List.getElem?_map, h]; rfl
theorem K_gSame (cs : CsK6 S I) (H : SG n V E cnt σ) (c : Cx F h0 h0 (GL s σ u V E va all)) (hR : ∀ σ' h', Cx F h0 h' (GL s σ' u V E va all) → SG n V E cnt σ' → R (.bool true) h') : F_simulcastlaw40_same S I (vG (p40 n) 8) s (vGr u) h0 R := by
  have hn := H.hn
  have hln := H.len
  have hV : V.length ≤ 100000 := by omega
  have hE : E.length ≤ 100000 := by omega
  have h8 : (0 : Int) ≤ 8 ∧ (8 : Int) ≤ 4000 := by decide
  have hp0 : 0 ≤ (p40 n).nodes ∧ (p40 n).nodes ≤ 1000 := ⟨hn.1, by show n ≤ 1000; omega⟩
  unfold F_simulcastlaw40_same
  refine c.nw EG (p40 n, 8) rfl fun rg h1 c => ?_
  refine c.nw EGr u rfl fun rx h2 c => ?_
  rw [gW (i := 4) c rfl, vb_some]
  refine c.gver cs.toCsK5 0 rfl h8 hp0 H.ver fun r σ1 v21 h3 c hq => ?_
  obtain ⟨rfl, H1⟩ := hq
  refine ext0t (ext1t ?_)
  refine Jn1.at (fun v h' => v = .bool false ∧ ∃ σ, SG n V E cnt σ ∧ Cx F h0 h' (GL s σ u V E va all ++ [rVar EG rg (p40 n, 8), rVar EGr rx u, rSl EI1 v21 (vI V)])) ?_ ?_
  · refine En.vb (v := .bool false) rfl ?_
    rw [br_false, (c.sl (i := 6) rfl).sl.ln, vb_some]
    refine (c.va (i := 5) rfl).fld (j := 0) rfl ?_
    rw [(c.sl (i := 1) rfl).sl.ln, vb_some]
    refine En.vb (v := .bool false) (by
      show bin .neq (.int .i64 ((vI V).length : Int)) (.int .i64 (V.length : Int)) = _
      rw [List.length_map, neI]) ?_
    rw [br_false, gW (i := 4) c rfl, vb_some]
    rw [show fa 1 (at0 rx) = some (.pointer (some ⟨rx, 0 + 1, none⟩)) from fa_add _ _ _, vb_some, show ldc (.pointer (some ⟨rx, 0 + 1, none⟩)) h3 = some (shV u.2) from (c.va (i := 5) rfl).row.ldc (j := 1) rfl, vb_some, (c.sl (i := 2) rfl).sl.ln, vb_some]
    refine c.last (cs.gedges h8) 0 rfl H1.edges fun e σ2 h4 c hq => ?_
    obtain ⟨rfl, H2⟩ := hq
    refine ⟨(c.va (i := 5) rfl).row.ldc (j := 1) rfl, ?_⟩
    unfold uI
    rw [neI, vb_some, br_false]
    rw [show fa 0 (at0 rx) = some (.pointer (some ⟨rx, 0 + 0, none⟩)) from fa_add _ _ _, vb_some, show ldc (.pointer (some ⟨rx, 0 + 0, none⟩)) h4 = some (shV u.1) from (c.va (i := 5) rfl).row.ldc (j := 0) rfl, vb_some, (c.sl (i := 1) rfl).sl.ln, vb_some]
    obtain ⟨e9, H3⟩ := H2.get (a := 9) (.inl rfl)
    refine c.cGet cs.toCsD 0 rfl fun h5 c => ?_
    refine ⟨(c.va (i := 5) rfl).row.ldc (j := 0) rfl, ?_⟩
    rw [e9, if_pos rfl, neI, vb_some, br_false]
    rw [vb_some, show ldc (.pointer (some ⟨rx, 0 + 0, none⟩)) h5 = some (shV u.1) from (c.va (i := 5) rfl).row.ldc (j := 0) rfl, vb_some, (c.sl (i := 1) rfl).sl.ln, vb_some]
    rw [vb_some, show ldc (.pointer (some ⟨rx, 0 + 1, none⟩)) h5 = some (shV u.2) from (c.va (i := 5) rfl).row.ldc (j := 1) rfl, vb_some, (c.sl (i := 2) rfl).sl.ln, vb_some]
    refine En.vb (v := .int .i64 ((V.length : Int) + E.length)) (addI ⟨by omega, by omega⟩) ?_
    obtain ⟨e15, H4⟩ := H3.get (a := 15) (.inr (.inr rfl))
    refine c.cGet cs.toCsD 0 rfl fun h6 c => ?_
    refine ⟨(c.va (i := 5) rfl).row.ldc (j := 1) rfl, (c.va (i := 5) rfl).row.ldc (j := 0) rfl, ?_⟩
    rw [e15, if_neg (by decide), if_neg (by decide), neI, vb_some]
    exact ⟨rfl, _, H4, c⟩
  clear c H1
  rintro v h4 ⟨rfl, σ1, H1, c⟩
  rw [br_false]
  refine Lp1.by (fun (q : Nat × Spc) v h' => v = .int .i64 q.1 ∧ q.1 ≤ V.length ∧ SG n V E cnt q.2 ∧ Cx F h0 h' (GL s q.2 u V E va all ++ [rVar EG rg (p40 n, 8), rVar EGr rx u, rSl EI1 v21 (vI V)])) (fun q => V.length - q.1) (0, σ1) ⟨rfl, Nat.zero_le _, H1, c⟩ ?_
  clear c H1
  rintro ⟨i, σ1⟩ v h5 ⟨rfl, hi, H1, c⟩ again hagain
  dsimp only at *
  rw [(c.sl (i := 6) rfl).sl.ln, vb_some, bin_lss, vb_some]
  have hvl : (vI V).length = V.length := List.length_map ..
  rw [hvl]
  refine brd (fun h6 => ?_) fun h6 => hR _ _ (c.drop (L := GL s σ1 u V E va all)) H1
  have hx : V[i]? = some V[i] := List.getElem?_eq_getElem (by omega)
  have hmem : V[i] ∈ V := List.getElem_mem _
  generalize V[i] = y at *
  have hyV : y.1 ∈ vI V := List.mem_map.2 ⟨y, hmem, rfl⟩
  have hyR := H1.V64 _ hyV
  have hlab : rLab V y.1 = y.2 := rLab_mem H1.ndV (by obtain ⟨y1, y2⟩ := y; exact hmem)
  refine (c.va (i := 5) rfl).fld (j := 0) rfl ?_
  refine (c.sl (i := 1) rfl).sl.fld rfl hx rfl (j := 0) rfl ?_
  rw [gW (i := 4) c rfl, vb_some]
  refine c.last (cs.glab h8 hyR) 0 rfl (H1.lab (a := y.1)) fun r σ2 h6 c hq => ?_
  obtain ⟨⟨_, rfl⟩ | ⟨hno, _⟩, H2⟩ := hq
  rotate_left
  · exact absurd hyV hno
  unfold uE
  refine ext0t (ext1t ?_)
  rw [gW (i := 4) c rfl, vb_some]
  refine c.gout cs.toCsK5 0 rfl h8 hyR hp0 (H2.out (a := y.1)) fun r σ3 vo h7 c hq => ?_
  obtain ⟨⟨_, rfl⟩ | ⟨hno, _⟩, H3⟩ := hq
  rotate_left
  · exact absurd hyV hno
  refine ext0t (ext1t ?_)
  rw [gW (i := 4) c rfl, vb_some]
  refine c.gin cs.toCsK5 0 rfl h8 hyR hp0 (H3.in' (a := y.1)) fun r σ4 vi h8' c hq => ?_
  obtain ⟨⟨_, rfl⟩ | ⟨hno, _⟩, H4⟩ := hq
  rotate_left
  · exact absurd hyV hno
  refine ext0t (ext1t ?_)
  refine Jn1.at (fun v h' => v = .bool false ∧ Cx F h0 h' (GL s σ4 u V E va all ++ [rVar EG rg (p40 n, 8), rVar EGr rx u, rSl EI1 v21 (vI V)])) ?_ ?_
  · refine (c.sl (i := 6) rfl).sl.one rfl (vI_at hx) rfl rfl ?_
    rw [neI, vb_some, br_false]
    refine (c.va (i := 5) rfl).fld (j := 0) rfl ?_
    refine (c.sl (i := 1) rfl).sl.fld rfl hx rfl (j := 1) rfl ?_
    dsimp only
    rw [hlab, neI, vb_some, br_false, neI, vb_some, br_false, vb_some, br_false, vb_some, br_false]
    rw [show lda 2 (at0 rx) h8' = some (vGr u) from (c.va (i := 5) rfl).whole rfl, vb_some]
    have hl1 := oP_le (E := E) (v := y.1)
    have hl2 := iP_le (E := E) (v := y.1)
    refine cs.rout (c.rG (i := 1) (j := 2) rfl rfl hV hE) fun w h9 c2 => ?_
    have c := c.frame0 c2
    refine cs.rsame (l := oP E y.1) (by omega) (c.sl (i := 7) rfl).sl (c.sl (i := 9) rfl).sl ?_
    rw [uno_nb, vb_some, Bool.not_true, br_false, show lda 2 (at0 rx) h9 = some (vGr u) from (c.va (i := 5) rfl).whole rfl, vb_some]
    refine cs.rin (c.rG (i := 1) (j := 2) rfl rfl hV hE) fun w2 h10 c2 => ?_
    have c := c.frame0 c2
    refine cs.rsame (l := iP E y.1) (by omega) (c.sl (i := 8) rfl).sl (c.sl (i := 10) rfl).sl ?_
    rw [uno_nb, vb_some]
    exact ⟨rfl, c.drop (L := GL s σ4 u V E va all ++ [rVar EG rg (p40 n, 8), rVar EGr rx u, rSl EI1 v21 (vI V)]) (L' := [_, _, _, _])⟩
  · clear c
    rintro v h9 ⟨rfl, c⟩
    rw [br_false, bin_add, vb_some, wrS (by omega)]
    exact hagain (i + 1, σ4) _ _ ⟨rfl, by dsimp only; omega, H4, c⟩ (by dsimp only; omega)
theorem K_gPlayed {l : List C40} {b1 : Value} (cs : CsK6 S I) (s1 : Sl ECl h b1 l) (w1 : ∀ x ∈ l, x.ok) (hl : l.length ≤ 40)
    (hR : ∀ s σ u V E va all h', Cx (fun _ => False) h h' (GL s σ u V E va all) → SG 24 V E 120000 σ → (∀ y ∈ all, R64 y) → all.length ≤ 40 → R (.tuple #[vG (p40 24) 8, s, vGr u, va, .bool true]) h') : F_simulcastlaw40_played S I b1 h R := by
  unfold F_simulcastlaw40_played
  refine (Cx.start0 h).nw EG (⟨0, 0, 0⟩, 0) rfl fun r2 h1 c => ?_
  refine c.nw EGr ((none, 0, 0), (none, 0, 0)) rfl fun r4 h2 c => ?_
  refine cs.made40 (n := 24) ⟨by decide, by decide⟩ fun h3 g => ?_
  have c := c.more g
  refine ext0t (ext1t ?_)
  refine c.nw EG (⟨0, 0, 0⟩, 0) rfl fun rg h4 c => ?_
  refine c.sto 2 rfl (p40 24, 8) rfl rfl fun h5 c => ?_
  refine cs.empty40 (N := N40 24) (by decide) fun s h6 c2 => ?_
  have c := c.frame0 c2
  clear c2
  refine c.nw EGr ((none, 0, 0), (none, 0, 0)) rfl fun rx h7 c => ?_
  have c := (c.nil E2I).nil EEd |>.nil EI1
  have H0 : SG 24 [] [] 0 (newS (knF (fun _ => W0) (N40 24))) := SG.start (k := 24) (by decide) fun _ => rfl
  generalize newS (knF (fun _ => W0) (N40 24)) = σ0 at *
  refine Lp2.by (fun (q : Nat × Spc × (SH × SH) × List (Int × Int) × List Ed × List Int) va v h' => v = .int .i64 q.1 ∧ q.1 ≤ l.length ∧ SG 24 q.2.2.2.1 q.2.2.2.2.1 (3000 * q.1) q.2.1 ∧ (∀ y ∈ q.2.2.2.2.2, R64 y) ∧ q.2.2.2.2.2.length ≤ q.1 ∧
      Cx (fun _ => False) h h' ([rVar EG r2 (⟨0, 0, 0⟩, 0), rVar EGr r4 ((none, 0, 0), (none, 0, 0)), rVar EG rg (p40 24, 8), rVar EGr rx q.2.2.1] ++ GL s q.2.1 q.2.2.1 q.2.2.2.1 q.2.2.2.2.1 va q.2.2.2.2.2)) (fun q => l.length - q.1) (0, σ0, ((none, 0, 0), (none, 0, 0)), [], [], [])
    ⟨rfl, Nat.zero_le _, H0, (fun y hy => by cases hy), Nat.le_refl _, c.pick [0, 1, 2, 4, 3, 5, 6, 7]⟩ ?_
  clear c H0
  rintro ⟨i, σ, u, V, E, all⟩ va v h8 ⟨rfl, hi, H, ha, hal, c⟩ again hagain
  dsimp only at *
  rw [s1.ln, vb_some, bin_lss, vb_some]
  refine brd (fun hlt => ?_) fun hge => ?_
  · have hx : l[i]? = some l[i] := List.getElem?_eq_getElem (by omega)
    have hok := w1 l[i] (List.getElem_mem _)
    generalize l[i] = x at *
    refine Jn3.at (fun y m ok h' => ok = .bool true ∧ ∃ ry u' σ' V' E' all', y = at0 ry ∧ SG 24 V' E' (3000 * (i + 1)) σ' ∧ (∀ z ∈ all', R64 z) ∧ all'.length ≤ i + 1 ∧
      Cx (fun _ => False) h h' ([rVar EG r2 (⟨0, 0, 0⟩, 0), rVar EGr r4 ((none, 0, 0), (none, 0, 0)), rVar EG rg (p40 24, 8), rVar EGr rx u, rVar EGr ry u'] ++ GL s σ' u' V' E' m all')) ?_ ?_
    · rw [gW (i := 2) c rfl, vb_some, show lda 2 (at0 rx) h8 = some (vGr u) from (c.va (i := 3) rfl).whole rfl, vb_some]
      obtain ⟨pr, po, e, hrow, _⟩ := s1.ix hx (n := 4) rfl (k := .i64) (z := (i : Int)) rfl
      refine En.vb e (En.vb ((hrow.ch c.gr fun e => e).lda rfl) ⟨?_, ?_⟩)
      · obtain ⟨F1, c1, _, up⟩ := Cx.frameL (L := [rVar EG r2 (⟨0, 0, 0⟩, 0), rVar EGr r4 ((none, 0, 0), (none, 0, 0)), rVar EG rg (p40 24, 8), rVar EGr rx u]) (M := GL s σ u V E va all) c
        refine cs.gdo (x := x) hok H (by unfold big; omega) ha (by omega) c1 fun u' va' h9 ⟨σ', V', E', all', c2, H', ha', hal'⟩ => ?_
        have c := up c2
        refine En.vb (v := vGr u') rfl (En.vb (v := va') rfl (En.vb (v := .bool true) rfl ?_))
        refine c.nw EGr ((none, 0, 0), (none, 0, 0)) rfl fun ry h10 c => ?_
        refine c.sto 8 rfl u' rfl rfl fun h11 c => ?_
        exact ⟨rfl, ry, u', σ', V', E', all', rfl, H', ha', by omega, c.pick [0, 1, 2, 3, 8, 4, 5, 6, 7]⟩
      · refine c.nw EGr ((none, 0, 0), (none, 0, 0)) rfl fun ry h10 c => ?_
        refine ⟨(hrow.ch c.gr fun e => e).lda rfl, (c.va (i := 3) rfl).whole rfl, gW (i := 2) c rfl, ?_⟩
        have c := c.pick [0, 1, 2, 3, 8, 4, 5, 6, 7]
        obtain ⟨F1, c1, _, up⟩ := Cx.frameL (L := [rVar EG r2 (⟨0, 0, 0⟩, 0), rVar EGr r4 ((none, 0, 0), (none, 0, 0)), rVar EG rg (p40 24, 8), rVar EGr rx u, rVar EGr ry ((none, 0, 0), (none, 0, 0))]) (M := GL s σ u V E va all) c
        refine cs.gdo (x := x) hok H (by unfold big; omega) ha (by omega) c1 fun u' va' h9 ⟨σ', V', E', all', c2, H', ha', hal'⟩ => ?_
        have c := up c2
        refine En.vb (v := vGr u') rfl (En.vb (v := va') rfl (En.vb (v := .bool true) rfl ?_))
        refine c.sto 4 rfl u' rfl rfl fun h11 c => ?_
        exact ⟨rfl, ry, u', σ', V', E', all', rfl, H', ha', by omega, c⟩
    · clear c
      rintro y m ok h9 ⟨rfl, ry, u', σ', V', E', all', rfl, H', ha', hal', c⟩
      rw [uno_nb, vb_some, Bool.not_true, br_false, show lda 2 (at0 ry) h9 = some (vGr u') from (c.va (i := 4) rfl).whole rfl, vb_some]
      refine c.sto 3 rfl u' rfl rfl fun h10 c => ?_
      rw [bin_add, vb_some, wrS (by omega)]
      exact hagain (i + 1, σ', u', V', E', all') _ _ _ ⟨rfl, by dsimp only; omega, H', ha', hal', c.pick [0, 1, 2, 3, 5, 6, 7, 8]⟩ (by dsimp only; omega)
  · rw [gW (i := 2) c rfl, vb_some, show lda 2 (at0 rx) h8 = some (vGr u) from (c.va (i := 3) rfl).whole rfl, vb_some]
    refine c.sto 0 rfl (p40 24, 8) rfl rfl fun h9 c => ?_
    refine ⟨(c.va (i := 3) rfl).whole rfl, ?_⟩
    refine c.sto 1 rfl u rfl rfl fun h10 c => ?_
    rw [gW (i := 0) c rfl, vb_some]
    refine En.vb (show lda 2 (at0 r4) h10 = some (vGr u) from (c.va (i := 1) rfl).whole rfl) ?_
    exact hR s σ u V E va all _ (c.pick [4, 5, 6, 7]) (H.mono (by omega) (by decide)) ha (by omega)
theorem K_gAwake (cs : CsK6 S I) (hR : ∀ h', Gr h h' → R (.bool true) h') : F_simulcastlaw40_awake S I h R := by
  have h8 : (0 : Int) ≤ 8 ∧ (8 : Int) ≤ 4000 := by decide
  have hp0 : 0 ≤ (p40 4).nodes ∧ (p40 4).nodes ≤ 1000 := by decide
  unfold F_simulcastlaw40_awake
  refine cs.made40 (n := 4) ⟨by decide, by decide⟩ fun h1 g => ?_
  have c := (Cx.start0 h).more g
  refine ext0t (ext1t ?_)
  refine c.nw EG (⟨0, 0, 0⟩, 0) rfl fun rg h4 c => ?_
  refine c.sto 0 rfl (p40 4, 8) rfl rfl fun h5 c => ?_
  refine cs.empty40 (N := N40 4) (by decide) fun s h6 c2 => ?_
  have c := c.frame0 c2
  clear c2
  have H0 : SG 4 [] [] 0 (newS (knF (fun _ => W0) (N40 4))) := SG.start (k := 4) (by decide) fun _ => rfl
  generalize newS (knF (fun _ => W0) (N40 4)) = σ0 at *
  rw [gW (i := 0) c rfl, vb_some]
  refine c.last (cs.gadd h8 ⟨by decide, by decide⟩) 1 rfl (H0.add (v := 1) ⟨by decide, by decide⟩ (by decide)) fun e σ1 h7 c hq => ?_
  rcases hq with ⟨a, rfl, _, hna, H1⟩ | ⟨_, hge, _⟩
  rotate_left
  · exact absurd hge (by simp only [List.length_cons, List.length_nil]; decide)
  unfold uE
  refine ext0t (ext1t ?_)
  rw [gW (i := 0) c rfl, vb_some]
  refine c.last (cs.gadd h8 ⟨by decide, by decide⟩) 1 rfl (H1.add (v := 2) ⟨by decide, by decide⟩ (by decide)) fun e σ2 h7 c hq => ?_
  rcases hq with ⟨b, rfl, _, hnb, H2⟩ | ⟨_, hge, _⟩
  rotate_left
  · exact absurd hge (by simp only [List.length_cons, List.length_nil]; decide)
  unfold uE
  refine ext0t (ext1t ?_)
  have hab : a ≠ b := fun e => hnb.2.1 (by simp [e])
  have hba : ¬ b = a := fun e => hab e.symm
  have haV : a ∈ vI [(b, 2), (a, 1)] := by simp
  have hbV : b ∈ vI [(b, 2), (a, 1)] := by simp
  have haR := H2.V64 a haV
  have hbR := H2.V64 b hbV
  rw [gW (i := 0) c rfl, vb_some]
  refine c.last (cs.glink h8 hp0 haR hbR ⟨by decide, by decide⟩) 1 rfl (H2.link (a := a) (b := b) (w := 5) ⟨by decide, by decide⟩ (by decide)) fun e σ3 h7 c hq => ?_
  rcases hq with ⟨hno, _⟩ | ⟨_, ⟨hs, _⟩ | ⟨_, ⟨hge, _⟩ | ⟨_, e1, rfl, _, H3⟩⟩⟩
  · exact absurd ⟨haV, hbV⟩ hno
  · cases hs
  · exact absurd hge (by simp only [List.length_cons, List.length_nil]; decide)
  unfold uE
  refine ext0t (ext1t ?_)
  rw [gW (i := 0) c rfl, vb_some]
  have hfe : fE [⟨e1, a, b, 5⟩] b b = none := by
    unfold fE
    rw [List.find?_eq_none]
    intro z hz
    rw [List.mem_singleton] at hz
    subst hz
    simp [hab]
  refine c.last (cs.glink h8 hp0 hbR hbR ⟨by decide, by decide⟩) 1 rfl (H3.link (a := b) (b := b) (w := 6) ⟨by decide, by decide⟩ (by decide)) fun e σ4 h7 c hq => ?_
  rcases hq with ⟨hno, _⟩ | ⟨_, ⟨hs, _⟩ | ⟨_, ⟨hge, _⟩ | ⟨_, e2, rfl, _, H4⟩⟩⟩
  · exact absurd ⟨hbV, hbV⟩ hno
  · rw [hfe] at hs; cases hs
  · exact absurd hge (by simp only [List.length_cons, List.length_nil]; decide)
  unfold uE
  refine ext0t (ext1t ?_)
  rw [gW (i := 0) c rfl, vb_some]
  refine c.gin cs.toCsK5 1 rfl h8 hbR hp0 (H4.in' (a := b)) fun r σ5 vi h8' c hq => ?_
  obtain ⟨⟨_, rfl⟩ | ⟨hno, _⟩, H5⟩ := hq
  rotate_left
  · exact absurd hbV hno
  have hip : iP [⟨e2, b, b, 6⟩, ⟨e1, a, b, 5⟩] b = [(b, 6), (a, 5)] := by simp [iP]
  rw [hip] at c
  refine ext0t (ext1t ?_)
  refine Jn1.at (fun v h' => v = .bool false ∧ ∃ σ, SG 4 [(b, 2), (a, 1)] [⟨e2, b, b, 6⟩, ⟨e1, a, b, 5⟩] (0 + 20 + 20 + 20 + 20) σ ∧ Cx (fun _ => False) h h' [rVar EG rg (p40 4, 8), rSpace s σ]) ?_ ?_
  · refine En.vb (neI _) ?_
    rw [br_false]
    refine En.vb (neI _) ?_
    rw [br_false]
    refine En.vb (neI _) ?_
    rw [br_false]
    refine En.vb (neI _) ?_
    rw [br_false]
    refine En.vb (neI _) ?_
    rw [br_false, bldA2, vb_some, bldA2, vb_some]
    refine c.bslN E2I [(b, 6), (a, 5)] [.agg ⟨E2I.c (b, 6)⟩, .agg ⟨E2I.c (a, 5)⟩] rfl rfl rfl (fun u hu => by simp only [List.mem_cons, List.not_mem_nil, or_false] at hu; rcases hu with rfl | rfl <;> rfl) rfl fun z h9 c => ?_
    refine cs.rsame (l := [(b, 6), (a, 5)]) (by show 2 ≤ 100000; decide) (c.sl (i := 2) rfl).sl (c.sl (i := 3) rfl).sl ?_
    rw [uno_nb, vb_some, Bool.not_true, br_false, gW (i := 0) c rfl, vb_some]
    refine c.last (cs.gedges h8) 1 rfl H5.edges fun e σ6 h10 c hq => ?_
    obtain ⟨rfl, H6⟩ := hq
    exact En.vb (neI _) ⟨rfl, _, H6, c.pick [0, 1]⟩
  · clear c
    rintro v h9 ⟨rfl, σ6, H6, c⟩
    rw [br_false, gW (i := 0) c rfl, vb_some]
    refine c.last (cs.gdrop h8 hp0 hbR) 1 rfl (H6.drop (a := b) (by decide)) fun e σ7 h10 c hq => ?_
    rcases hq with ⟨hno, _⟩ | ⟨_, rfl, H7⟩
    · exact absurd hbV hno
    have f1 : rmV [(b, 2), (a, 1)] b = [(a, 1)] := by simp [rmV, hab]
    have f2 : rmG [⟨e2, b, b, 6⟩, ⟨e1, a, b, 5⟩] b = [] := by simp [rmG]
    have f3 : rLab [(b, 2), (a, 1)] b = 2 := by simp [rLab]
    rw [f1, f2] at H7
    rw [f3]
    have haV' : a ∈ vI [(a, (1 : Int))] := by simp
    unfold uE
    refine ext0t (ext1t ?_)
    rw [gW (i := 0) c rfl, vb_some]
    refine c.gout cs.toCsK5 1 rfl h8 haR hp0 (H7.out (a := a)) fun r σ8 vo h11 c hq => ?_
    obtain ⟨⟨_, rfl⟩ | ⟨hno, _⟩, H8⟩ := hq
    rotate_left
    · exact absurd haV' hno
    refine ext0t (ext1t ?_)
    refine .here ?_
    refine En.vb (eqI _) ?_
    rw [br_true]
    refine En.vb (eqI _) ?_
    rw [br_true]
    refine En.vb (eqI _) ?_
    rw [br_true, gW (i := 0) c rfl, vb_some]
    refine c.last (cs.gedges h8) 1 rfl H8.edges fun e σ9 h12 c hq => ?_
    obtain ⟨rfl, H9⟩ := hq
    refine En.vb (eqI _) ?_
    rw [br_true, (c.sl (i := 2) rfl).sl.ln, vb_some]
    refine En.vb (eqI _) ?_
    exact hR _ c.gr
end
structure CsK7 (S : Sys) (I : Ids) : Prop extends CsK6 S I where
  gsame : ∀ {n : Int} {u : SH × SH} {V : List (Int × Int)} {E : List Ed} {cnt : Nat} {all : List Int} {va s : Value} {σ : Spc} {F : Fp} {h0 : Hp} {R}, SG n V E cnt σ → Cx F h0 h0 (GL s σ u V E va all) →
    (∀ σ' h', Cx F h0 h' (GL s σ' u V E va all) → SG n V E cnt σ' → R (.bool true) h') → S.C I.f_simulcastlaw40_same [vG (p40 n) 8, s, vGr u] h0 R
  gplayed : ∀ {l : List C40} {b1 : Value} {h R}, Sl ECl h b1 l → (∀ x ∈ l, x.ok) → l.length ≤ 40 →
    (∀ s σ u V E va all h', Cx (fun _ => False) h h' (GL s σ u V E va all) → SG 24 V E 120000 σ → (∀ y ∈ all, R64 y) → all.length ≤ 40 → R (.tuple #[vG (p40 24) 8, s, vGr u, va, .bool true]) h') → S.C I.f_simulcastlaw40_played [b1] h R
  gawake : ∀ {h R}, (∀ h', Gr h h' → R (.bool true) h') → S.C I.f_simulcastlaw40_awake [] h R
end Go.En
