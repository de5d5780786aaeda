/-
  Layer 35: the laws Ends, Mirror, Refused.
  Layer 35: the law Other: two deques over one pool.
-/
import Derived.Test.YtalhmlnmbgpleaaXH
import Derived.Test.YtalhmlnmbgpleaaXF
namespace Go.En
open Prog Spc Go.Sort

variable {S : Sys} {I : Ids} {h h0 h' : Hp} {F F0 : Fp} {R : Value → Hp → Prop} {L : List Res} {s : Value} {σ τ : Spc}

/-! ### Ends -/
theorem rPush_ori {r : Bool} {v : Int} {ys : List Int} : rPush r v (ori r ys) = ori r (v :: ys) := by unfold rPush; rw [ori_ori]
theorem rPop_ori {r : Bool} {x : Int} {ys : List Int} : rPop r (ori r (x :: ys)) = ori r ys := rPop_cons (ori_ori r _)
theorem rPeek_ori {r : Bool} {x : Int} {ys : List Int} : rPeek r (ori r (x :: ys)) = x := rPeek_cons (ori_ori r _)
theorem ori_turn {r : Bool} {xs : List Int} : ori r xs.reverse = ori (!r) xs := by cases r <;> simp [ori]
theorem L_DequeEnds {b1 : Value} {xs : List Int} {r same : Bool} (cs : CsD6 S I) (s1 : Sl EI1 h b1 xs) (w1 : ∀ x ∈ xs, R64 x) (hR : ∀ h', Gr h h' → R (.bool true) h') :
    F_simulcastlaw35_DequeEnds S I b1 (.bool r) (.bool same) h R := by
  unfold F_simulcastlaw35_DequeEnds
  rw [s1.ln, vb_some, bin_gtr, vb_some]
  refine brd (fun _ => cs.awake35 hR) fun hlen => ?_
  obtain ⟨n, hn⟩ : ∃ n : Nat, xs.length = n := ⟨_, rfl⟩
  rw [hn] at hlen
  have hn9 : n ≤ 100 := by omega
  rw [vb_some, hn]
  refine cs.nodes35 hn9 fun u h1 c => ?_
  refine ext0t (ext1t ?_)
  refine c.nw EPl ⟨0, 0, 0⟩ rfl fun rp h2 c => ?_
  refine c.nw EMd (none, 0, 0) rfl fun rm h3 c => ?_
  refine c.sto 1 rfl (p35 n) rfl rfl fun h4 c => ?_
  refine c.sto (n := 1) 2 rfl u rfl rfl fun h5 c => ?_
  rw [mM_of (i := 2) c rfl, vb_some]
  have H0 := Dm.start hn9
  refine cs.whole35 (N := N35 n) (by show 16 + 8 * n ≤ _; omega) H0.v (c.sl (i := 0) rfl).sl fun s h6 c2 => ?_
  have c := c.frame0 c2
  clear c2
  rw [(c.eqP0 (i := 3) rfl), pos_some, vb_some, br_false, vb_some]
  have hnd : (p35 n).nodes = n := rfl
  refine Lp1.by (fun (x : Nat × Spc) v h' => v = .int .i64 x.1 ∧ x.1 ≤ n ∧ D1 (D35 n) (p35 n) 8 (ori r (xs.take x.1).reverse) (12 * x.1) x.2 ∧ Cx (fun _ => False) h h' [rVar EPl rp (p35 n), rSpace s x.2]) (fun x => n - x.1) (0, _)
    ⟨rfl, Nat.zero_le _, by rw [List.take_zero, List.reverse_nil, ori_nil]; exact H0.d1 hn9, c.pick [1, 3]⟩ ?_
  clear c
  rintro ⟨i, σ⟩ v h7 ⟨rfl, hi, H, c⟩ again hagain
  dsimp only at *
  rw [bin_lss, vb_some]
  refine brd (fun hlt => ?_) fun hge => ?_
  · have hx : xs[i]? = some xs[i] := List.getElem?_eq_getElem (by omega)
    refine (s1.gr c.gr).one rfl hx rfl rfl ?_
    rw [plA (i := 0) c rfl, vb_some]
    refine c.last (cs.dpush ⟨by decide, by decide⟩ (w1 _ (List.getElem_mem _))) 1 rfl (H.push (r := r) (w1 _ (List.getElem_mem _)) (by unfold big; omega)) fun e σ' h8 c hq => ?_
    have hll : (ori r (xs.take i).reverse).length = i := by rw [ori_len, List.length_reverse, List.length_take]; omega
    rcases hq with ⟨rfl, _, H'⟩ | ⟨_, hge, _⟩
    · unfold uI
      refine vb (v := .bool false) rfl ?_
      rw [br_false, bin_add, vb_some, wrS (by omega)]
      refine hagain (i + 1, σ') _ _ ⟨rfl, by dsimp only; omega, ?_, c⟩ (by dsimp only; omega)
      dsimp only
      rw [rPush_ori] at H'
      rw [List.take_add_one, hx, Option.toList_some, List.reverse_append, List.reverse_singleton]
      exact H'
    · have hge : (n : Int) ≤ ((ori r (xs.take i).reverse).length : Nat) := hge
      omega
  · have ei : i = n := by omega
    subst ei
    have hfull : xs.take i = xs := List.take_of_length_le (by omega)
    rw [hfull] at H
    rw [plA (i := 0) c rfl, vb_some]
    refine c.last (cs.dpush ⟨by decide, by decide⟩ ⟨by decide, by decide⟩) 1 rfl (H.push (r := r) ⟨by decide, by decide⟩ (by unfold big; omega)) fun e σ1 h8 c hq => ?_
    have hll : (ori r xs.reverse).length = i := by rw [ori_len, List.length_reverse, hn]
    rcases hq with ⟨_, hlt, _⟩ | ⟨rfl, _, H⟩
    · have hlt : ((ori r xs.reverse).length : Int) < (i : Int) := hlt
      omega
    unfold uI
    rw [vb_some]
    -- the end and the order of the values
    let t : Bool := r == same
    let ws : List Int := if same then xs.reverse else xs
    have hwl : ws.length = i := by
      show (if same then xs.reverse else xs).length = i
      split
      · rw [List.length_reverse, hn]
      · exact hn
    have e0 : ori r xs.reverse = ori t (ws.drop 0) := by
      show _ = ori (r == same) ((if same then xs.reverse else xs).drop 0)
      cases same with
      | true => rw [if_pos rfl, List.drop_zero, show (r == true) = r by cases r <;> rfl]
      | false => rw [if_neg (by simp), List.drop_zero, show (r == false) = !r by cases r <;> rfl, ori_turn]
    rw [e0] at H
    refine Lp1.by (fun (x : Nat × Spc) v h' => v = .int .i64 x.1 ∧ x.1 ≤ i ∧ D1 (D35 i) (p35 i) 8 (ori t (ws.drop x.1)) (12 * i + 12 + 12 * x.1) x.2 ∧ Cx (fun _ => False) h h' [rVar EPl rp (p35 i), rSpace s x.2]) (fun x => i - x.1) (0, σ1)
      ⟨rfl, Nat.zero_le _, H, c⟩ ?_
    clear c H
    rintro ⟨j, σ⟩ v h9 ⟨rfl, hj, H, c⟩ again2 hagain2
    dsimp only at *
    rw [bin_lss, vb_some]
    refine brd (fun hlt => ?_) fun hge => ?_
    · have hx : xs[j]? = some xs[j] := List.getElem?_eq_getElem (by omega)
      have hw : ws[j]? = some ws[j] := List.getElem?_eq_getElem (by omega)
      refine (s1.gr c.gr).one rfl hx rfl rfl ?_
      refine Jn1.at (fun v h' => v = .int .i64 ws[j] ∧ h' = h9) ?_ ?_
      · cases same with
        | true =>
          rw [br_true, vb_some, bin_sub, vb_some, wr64 (by omega), bin_sub, vb_some, wr64 (by omega)]
          have hx' : xs[i - 1 - j]? = some ws[j] := by
            rw [← hw]
            show _ = (if true then xs.reverse else xs)[j]?
            rw [if_pos rfl, List.getElem?_reverse (by omega), hn]
          exact (s1.gr c.gr).one rfl hx' (by omega) rfl ⟨rfl, rfl⟩
        | false =>
          rw [br_false]
          exact ⟨rfl, rfl⟩
      rintro v h10 ⟨rfl, rfl⟩
      rw [plA (i := 0) c rfl, vb_some]
      refine vb (v := .bool t) rfl ?_
      refine c.last (cs.dpop ⟨by decide, by decide⟩) 1 rfl (H.pop (r := t) (by unfold big; omega)) fun e σ' h11 c hq => ?_
      have hd : ws.drop j = ws[j] :: ws.drop (j + 1) := List.drop_eq_getElem_cons (by omega)
      rw [hd] at hq
      rcases hq with ⟨_, rfl, H'⟩ | ⟨_, hnil, _⟩
      · rw [rPeek_ori]
        rw [rPop_ori] at H'
        unfold uE
        refine ext0t (ext1t ?_)
        refine Jn1.at (fun v h' => v = .bool false ∧ h' = h11) ?_ ?_
        · refine vb (v := .bool false) rfl ?_
          rw [br_false]
          exact vb (neI _) ⟨rfl, rfl⟩
        · rintro v h12 ⟨rfl, rfl⟩
          rw [br_false, bin_add, vb_some, wrS (by omega)]
          exact hagain2 (j + 1, σ') _ _ ⟨rfl, by dsimp only; omega, H', c⟩ (by dsimp only; omega)
      · have := congrArg List.length hnil
        simp only [ori_len, List.length_cons, List.length_nil] at this
        omega
    · have ej : j = i := by omega
      subst ej
      have hnil : ori t (ws.drop j) = [] := by rw [List.drop_of_length_le (by omega), ori_nil]
      rw [hnil] at H
      rw [plA (i := 0) c rfl, vb_some]
      refine c.last (cs.dpop ⟨by decide, by decide⟩) 1 rfl (H.pop (r := r) (by unfold big; omega)) fun e σ2 h10 c hq => ?_
      rcases hq with ⟨h, _⟩ | ⟨rfl, _, H⟩
      · exact absurd rfl h
      unfold uE
      refine ext0t (ext1t ?_)
      rw [uno_nb, vb_some]
      refine c.last (cs.dpeek ⟨by decide, by decide⟩) 1 rfl (H.peek (r := !r)) fun e σ3 h11 c hq => ?_
      obtain ⟨H, ⟨h, _⟩ | ⟨_, rfl⟩⟩ := hq
      · exact absurd rfl h
      unfold uE
      refine ext0t (ext1t ?_)
      refine .here ?_
      refine cs.awake35 fun h12 gg => ?_
      have c := c.more gg
      rw [br_true]
      refine vb (v := .bool true) rfl ?_
      rw [br_true]
      refine vb (v := .bool true) rfl ?_
      rw [br_true]
      refine vb (v := .bool true) rfl ?_
      rw [br_true]
      refine c.last (cs.dlen ⟨by decide, by decide⟩) 1 rfl H.cnt fun e σ4 h13 c hq => ?_
      obtain ⟨rfl, H⟩ := hq
      unfold uI
      refine vb (v := .bool true) rfl ?_
      rw [br_true, plA (i := 0) c rfl, vb_some]
      refine c.last cs.left 1 rfl H.left fun e σ5 h14 c hq => ?_
      obtain ⟨rfl, H⟩ := hq
      rw [vb_some]
      unfold uI
      have e : (p35 (j : Int)).nodes - (([] : List Int).length : Int) = j := by show (j : Int) - 0 = j; omega
      rw [e, eqI, vb_some]
      exact hR _ c.gr

/-! ### Mirror -/
def A5.flip (x : A5) : A5 := { x with r := !x.r }
theorem A5.ok.flip {x : A5} (h : x.ok) : x.flip.ok := ⟨h.d, h.v⟩
theorem ori_rev {r : Bool} {xs : List Int} : ori (!r) xs.reverse = ori r xs := by cases r <;> simp [ori]
theorem ori_rev2 {r : Bool} {xs : List Int} : ori (!r) xs = (ori r xs).reverse := by cases r <;> simp [ori]
theorem dRes_flip {n : Int} {vs : List Int} {x : A5} : dRes n vs.reverse x.flip = ((dRes n vs x).1.reverse, (dRes n vs x).2) := by
  have e1 : rPush (!x.r) x.v vs.reverse = (rPush x.r x.v vs).reverse := by unfold rPush; rw [ori_rev, ori_rev2]
  have e2 : rPeek (!x.r) vs.reverse = rPeek x.r vs := by unfold rPeek; rw [ori_rev]
  have e3 : rPop (!x.r) vs.reverse = (rPop x.r vs).reverse := by unfold rPop; rw [ori_rev, ori_rev2]
  unfold dRes A5.flip
  simp only [List.length_reverse]
  rw [e1, e2, e3]
  split
  · split <;> rfl
  · split
    · rfl
    · split <;> rfl
theorem D1.act {n : Int} {vs : List Int} {c : Nat} {x : A5} (hn : 0 ≤ n ∧ n ≤ 100) (H : D1 (D35 n) (p35 n) 8 vs c σ) (hx : x.ok) (hb : c + 12 + 40 ≤ big) : wp (dAct (p35 n) x) σ fun a σ' => a = (dRes n vs x).2 ∧ D1 (D35 n) (p35 n) 8 (dRes n vs x).1 (c + 12) σ' := by
  have H' := H
  obtain ⟨hD, hR, hA, hc, m, S, X, hl⟩ := H
  refine Prog.wp_mono (wp_dAct S X hn hx (by omega)) fun a σ' ⟨e, m', S', X'⟩ => ⟨e, H'.of hb S' X'⟩
theorem L_DequeMirror {acts : List A5} {b1 : Value} (cs : CsD6 S I) (s1 : Sl EA5 h b1 acts) (w1 : ∀ x ∈ acts, x.ok) (hR : ∀ h', Gr h h' → R (.bool true) h') :
    F_simulcastlaw35_DequeMirror S I b1 h R := by
  unfold F_simulcastlaw35_DequeMirror
  rw [s1.ln, vb_some, bin_gtr, vb_some]
  refine brd (fun _ => cs.awake35 hR) fun hlen => ?_
  refine cs.nodes35 (n := 8) (by decide) fun u h1 c => ?_
  refine ext0t (ext1t ?_)
  refine c.nw EPl ⟨0, 0, 0⟩ rfl fun rp h2 c => ?_
  refine c.nw EMd (none, 0, 0) rfl fun rm h3 c => ?_
  refine c.sto 1 rfl (p35 8) rfl rfl fun h4 c => ?_
  refine c.sto (n := 1) 2 rfl u rfl rfl fun h5 c => ?_
  rw [mM_of (i := 2) c rfl, vb_some, vb_some]
  have H0 := Dm.start (n := 8) (by decide)
  refine cs.whole35 (N := N35 8) (by decide) H0.v (c.sl (i := 0) rfl).sl fun sa h6 c2 => ?_
  have c := c.frame0 c2
  clear c2
  refine ⟨mM_of (i := 2) c rfl, ?_⟩
  refine cs.whole35 (N := N35 8) (by decide) H0.v (c.sl (i := 0) rfl).sl fun sb h7 c2 => ?_
  have c := c.frame0 c2
  clear c2
  refine Jn1.at (fun v h' => v = .bool false ∧ h' = h7) ?_ ?_
  · rw [(c.eqP0 (i := 3) rfl), pos_some, vb_some, br_false, (c.eqP0 (i := 4) rfl), pos_some, vb_some]
    exact ⟨rfl, rfl⟩
  rintro v h8 ⟨rfl, rfl⟩
  rw [br_false, vb_some]
  refine Lp1.by (fun (x : Nat × Spc × Spc × List Int) v h' => v = .int .i64 x.1 ∧ x.1 ≤ acts.length ∧ D1 (D35 8) (p35 8) 8 x.2.2.2 (12 * x.1) x.2.1 ∧ D1 (D35 8) (p35 8) 8 x.2.2.2.reverse (12 * x.1) x.2.2.1 ∧
      Cx (fun _ => False) h h' [rVar EPl rp (p35 8), rSpace sa x.2.1, rSpace sb x.2.2.1]) (fun x => acts.length - x.1) (0, _, _, [])
    ⟨rfl, Nat.zero_le _, H0.d1 (by decide), H0.d1 (by decide), c.pick [1, 3, 4]⟩ ?_
  clear c
  rintro ⟨i, σ, τ, vs⟩ v h9 ⟨rfl, hi, H, H', c⟩ again hagain
  dsimp only at *
  rw [bin_lss, vb_some]
  have h88 : (0 : Int) ≤ 8 ∧ (8 : Int) ≤ 100 := by decide
  refine brd (fun hlt => ?_) fun hge => ?_
  · have hx : acts[i]? = some acts[i] := List.getElem?_eq_getElem (by omega)
    have hok := w1 acts[i] (List.getElem_mem _)
    generalize acts[i] = x at *
    refine (s1.gr c.gr).whole rfl hx rfl ?_
    refine c.nw EA5 ⟨0, false, 0⟩ rfl fun rx h10 c => ?_
    refine c.sto 3 rfl x rfl rfl fun h11 c => ?_
    rw [(c.va (i := 3) rfl).whole (n := 3) rfl, vb_some]
    refine c.nw EA5 ⟨0, false, 0⟩ rfl fun ry h12 c => ?_
    refine c.sto 4 rfl x rfl rfl fun h13 c => ?_
    refine (c.va (i := 3) rfl).fld (j := 1) rfl ?_
    rw [uno_nb, vb_some]
    refine c.stof 4 rfl (j := 1) x.flip rfl (by decide) rfl fun h14 c => ?_
    rw [(c.va (i := 3) rfl).whole (n := 3) rfl, vb_some, plA (i := 0) c rfl, vb_some]
    refine c.last (cs.ddo hok) 1 rfl (H.act h88 hok (by unfold big; omega)) fun a σ' h15 c hq => ?_
    obtain ⟨rfl, H⟩ := hq
    unfold uE
    refine ext0t (ext1t ?_)
    rw [(c.va (i := 4) rfl).whole (n := 3) rfl, vb_some, plA (i := 0) c rfl, vb_some]
    refine c.last (cs.ddo hok.flip) 2 rfl (H'.act h88 hok.flip (by unfold big; omega)) fun a τ' h16 c hq => ?_
    obtain ⟨rfl, H'⟩ := hq
    rw [dRes_flip] at H' ⊢
    unfold uE
    refine ext0t (ext1t ?_)
    refine Jn1.at (fun v h' => v = .bool false ∧ h' = h16) ?_ ?_
    · refine vb (neI _) ?_
      rw [br_false]
      exact vb (neI _) ⟨rfl, rfl⟩
    · rintro v h17 ⟨rfl, rfl⟩
      rw [br_false, bin_add, vb_some, wrS (by omega)]
      exact hagain (i + 1, σ', τ', (dRes 8 vs x).1) _ _ ⟨rfl, by dsimp only; omega, H, H', c.pick [0, 1, 2]⟩ (by dsimp only; omega)
  · have hvl := H.len
    have hvl : (vs.length : Int) ≤ 8 := hvl
    have hnd : 0 ≤ (p35 8).nodes ∧ (p35 8).nodes ≤ 1000 := by decide
    rw [plA (i := 0) c rfl, vb_some]
    refine c.dwalk cs.toCsD2 1 rfl ⟨by decide, by decide⟩ hnd (H.walk (r := false)) fun o σ1 v1 h10 c hq => ?_
    obtain ⟨rfl, H⟩ := hq
    refine ext0t (ext1t ?_)
    rw [plA (i := 0) c rfl, vb_some]
    refine c.dwalk cs.toCsD2 2 rfl ⟨by decide, by decide⟩ hnd (H'.walk (r := true)) fun o σ2 v2 h11 c hq => ?_
    obtain ⟨rfl, H'⟩ := hq
    refine ext0t (ext1t ?_)
    refine .here ?_
    refine cs.awake35 fun h12 gg => ?_
    have c := c.more gg
    rw [br_true]
    refine vb (v := .bool true) rfl ?_
    rw [br_true]
    refine vb (v := .bool true) rfl ?_
    rw [br_true]
    have e2 := (c.sl (i := 4) rfl).sl
    have e2 : Sl EI1 h12 v2 (ori true vs.reverse) := e2
    have e3 : ori true vs.reverse = vs := by unfold ori; rw [if_pos rfl, List.reverse_reverse]
    rw [e3] at e2
    refine cs.eq64 (xs := vs) (by omega) (c.sl (i := 3) rfl).sl e2 ?_
    exact hR _ c.gr

/-! ### Refused -/
theorem Wld.weak {A B : Int → Prop} {σ0 : Spc} {c : Nat} (H : Wld A σ0 σ c) (h : ∀ a, A a → B a) : Wld B σ0 σ c :=
  ⟨H.kn, H.wf, fun a ha => (H.rd a ha).imp_right (h a), H.nd, H.pu, fun e k => H.en e fun a ha => k a (h a ha), H.kd⟩
theorem wd_dAct {x : A5} (hw : σ.wf) (hx : x.ok) (hen : σ.en = false) (hp : σ.pu = []) (hk : ∀ a, D35 4 a → (σ.kn a).isSome = true) :
    wp (dAct (p35 4) x) σ fun a σ' => Wld All σ σ' 20 ∧ (a.2 ≠ 0 → a.1 = 0 ∧ σ'.pu = []) := by
  obtain ⟨hD, hRD, hA⟩ := p35_D (n := 4) ⟨by decide, by decide⟩
  have hb : σ.pu.length + 20 ≤ big := by rw [hp]; decide
  unfold dAct
  split
  · refine Prog.wp_mono (wd_dPop hw hD hRD hb) fun e σ' ⟨H, hq⟩ => ⟨H.weak fun _ _ => trivial, fun h => ⟨(hq h).1, ((hq h).2 (H.en hen hk)).trans hp⟩⟩
  · split
    · exact Prog.wp_mono (wd_dPeek hw) fun e σ' ⟨H, h1, h2⟩ => ⟨H.mono (by omega), fun h => ⟨h2 h, h1.trans hp⟩⟩
    · rw [wp_bind]
      refine Prog.wp_mono (wd_dPush hw hD hRD hx.v hb) fun e σ' ⟨H, hq⟩ => ⟨H.weak fun _ _ => trivial, fun h => ⟨rfl, (hq h (H.en hen hk)).trans hp⟩⟩
theorem wd_dLoop {p : Pl} {r : Bool} : ∀ (n : Nat) (a : Int) (acc : List Int) (σ : Spc), wp (dLoop p r n a acc) σ fun o _ => ∀ l, o = some l → l.length ≤ acc.length + n
  | 0, a, acc, σ => by
    unfold dLoop
    show ∀ l, (if a = 0 then some acc else none) = some l → _
    intro l hl
    split at hl
    · cases hl; omega
    · cases hl
  | n + 1, a, acc, σ => by
    unfold dLoop
    split
    · intro l hl
      cases hl; omega
    · split
      · rw [wp_bind, wp_gt, wp_bind, wp_gt]
        refine Prog.wp_mono (wd_dLoop n _ _ _) fun o _ h l hl => ?_
        have := h l hl
        rw [List.length_append, List.length_singleton] at this
        omega
      · intro l hl
        cases hl
theorem wd_dWalk {p : Pl} {root : Int} {r : Bool} (hn : 0 ≤ p.nodes) : wp (dWalk p root r) σ fun o _ => ∀ l, o = some l → (l.length : Int) ≤ p.nodes := by
  unfold dWalk
  rw [wp_bind, wp_gt]
  refine Prog.wp_mono (wd_dLoop _ _ _ _) fun o _ h l hl => ?_
  have := h l hl
  simp only [List.length_nil] at this
  omega
theorem bldW00 : bldS [(0, 1), (1, 1), (2, 1)] #[Value.int IntKind.i64 0, Value.int IntKind.u32 0, Value.int IntKind.u32 0] [] = some (mW W0) := by kernel_rfl
def wg (xs : List Int) (i : Nat) : W3 := ⟨xs[i]?.getD 0, 0, 0⟩
theorem knF_snoc (g : Nat → W3) (j : Nat) : knF g (j + 1) = knF g j ++ [((j : Int), g j)] := by unfold knF; rw [List.range_succ, List.map_append]; rfl
theorem knF_new {g : Nat → W3} {j : Nat} {w : W3} : updA (knF g j) (j : Int) w = knF g j ++ [((j : Int), w)] := by
  refine updA_end ?_
  rw [knF_look, if_neg (by omega)]
theorem knF_upd2 {g : Nat → W3} {j : Nat} {w : W3} : updA (knF g j ++ [((j : Int), w)]) (j : Int) (g j) = knF g (j + 1) := by
  rw [knF_snoc]
  refine updA_mid (fun q hq => ?_) rfl
  obtain ⟨i, hi, rfl⟩ := List.mem_map.1 hq
  have := List.mem_range.1 hi
  show (i : Int) ≠ j
  omega
theorem L_DequeRefused {b1 : Value} {xs : List Int} {x : A5} (cs : CsD6 S I) (s1 : Sl EI1 h b1 xs) (w1 : ∀ x ∈ xs, R64 x) (hx : x.ok) (hR : ∀ h', Gr h h' → R (.bool true) h') :
    F_simulcastlaw35_DequeRefused S I b1 (.agg ⟨EA5.c x⟩) h R := by
  unfold F_simulcastlaw35_DequeRefused
  refine (Cx.start0 h).nw EA5 x rfl fun rx h1 c => ?_
  rw [s1.ln, vb_some, bin_gtr, vb_some]
  refine brd (fun _ => cs.awake35 fun h2 g => hR _ (Gr.trans c.gr g)) fun hlen => ?_
  refine cs.nodes35 (n := 4) (by decide) fun u h2 c2 => ?_
  have c := c.frame0 c2
  refine ext0t (ext1t ?_)
  refine c.nw EPl ⟨0, 0, 0⟩ rfl fun rp h3 c => ?_
  refine c.nw EMd (none, 0, 0) rfl fun rm h4 c => ?_
  refine c.sto 2 rfl (p35 4) rfl rfl fun h5 c => ?_
  refine c.sto (n := 1) 3 rfl u rfl rfl fun h6 c => ?_
  refine c.mmk .i64 mW fun km h7 c => ?_
  rw [mM_of (i := 3) c rfl, vb_some]
  refine cs.mm.words (ws := wsF (fun _ => W0) (N35 4)) (by rw [wsF_len]; decide) (c.sl (i := 1) rfl).sl fun w h8 c2 => ?_
  have c := c.frame0 c2
  clear c2
  have e48 : (wsF (fun _ => W0) (N35 4)).length = 48 := wsF_len _ _
  rw [(c.sl (i := 5) rfl).sl.ln, e48, vb_some]
  have hv : ∀ i, i < 48 → R64 (wg xs i).v := fun i hi => by
    unfold wg
    show R64 (xs[i]?.getD 0)
    cases h : xs[i]? with
    | none => exact ⟨by decide, by decide⟩
    | some y => exact w1 y (List.mem_of_getElem? h)
  refine Lp1.by (fun (j : Nat) v h' => v = .int .i64 j ∧ j ≤ 48 ∧ Cx (fun _ => False) h h' [rVar EA5 rx x, rVar EPl rp (p35 4), rMp .i64 mW (.map (some km)) (knF (wg xs) j)]) (fun j => 48 - j) 0 ⟨rfl, Nat.zero_le _, c.pick [0, 2, 4]⟩ ?_
  clear c
  rintro j v h9 ⟨rfl, hj, c⟩ again hagain
  rw [bin_lss, vb_some]
  refine brd (fun h10 => ?_) fun h10 => ?_
  · refine Jn0.at (fun h' => Cx (fun _ => False) h h' [rVar EA5 rx x, rVar EPl rp (p35 4), rMp .i64 mW (.map (some km)) (knF (wg xs) (j + 1))]) ?_ ?_
    · rw [bldW00, vb_some]
      refine c.mup 2 rfl (j : Int) W0 rfl fun h11 c => ?_
      rw [knF_new] at c
      rw [vb_some, bin_lss, vb_some]
      refine brd (fun h12 => ?_) fun h12 => ?_
      · have hx : xs[j]? = some xs[j] := List.getElem?_eq_getElem (by omega)
        refine (s1.gr c.gr).one rfl hx rfl rfl ?_
        refine vb (v := mW ⟨xs[j], 0, 0⟩) (bldW0 _) ?_
        refine c.mup 2 rfl (j : Int) (wg xs j) (by unfold wg; rw [hx]; rfl) fun h13 c => ?_
        rw [knF_upd2] at c
        exact c
      · have e : wg xs j = W0 := by unfold wg; rw [List.getElem?_eq_none (by omega)]; rfl
        rw [knF_snoc, e]
        exact c
    · clear c
      intro h11 c
      rw [bin_add, vb_some, wrS (by omega)]
      exact hagain (j + 1) _ _ ⟨rfl, by omega, c⟩ (by omega)
  · have ej : j = 48 := by omega
    subst ej
    clear hagain again
    refine c.cNew cs.toCsD 2 rfl (knF_nodup _ _) (knF_val hv) fun s h11 c => ?_
    have hwf : (newS (knF (wg xs) 48)).wf := newS_wf (knF_val hv)
    have hp0 : (newS (knF (wg xs) 48)).pu = [] := rfl
    have he0 : (newS (knF (wg xs) 48)).en = false := rfl
    have hk0 : ∀ a, D35 4 a → ((newS (knF (wg xs) 48)).kn a).isSome = true := fun a ha => by
      rw [newS_knF (fun i _ => rfl), if_pos ⟨ha.1, by have := ha.2; show a < 48; omega⟩]; rfl
    generalize newS (knF (wg xs) 48) = σ0 at *
    rw [(c.eqP0 (i := 3) rfl), pos_some, vb_some, br_false, (c.va (i := 0) rfl).whole (n := 3) rfl, vb_some, plA (i := 1) c rfl, vb_some]
    refine c.last (cs.ddo hx) 3 rfl (wd_dAct hwf hx he0 hp0 hk0) fun a σ h12 c hq => ?_
    obtain ⟨H, hq⟩ := hq
    unfold uE
    refine ext0t (ext1t ?_)
    refine Jn0.at (fun h' => Cx (fun _ => False) h h' [rVar EA5 rx x, rVar EPl rp (p35 4), rSpace s σ]) ?_ ?_
    · rw [bin_neq, vb_some]
      refine brd (fun h13 => ?_) fun h13 => c.pick [0, 1, 3]
      obtain ⟨e1, e2⟩ := hq h13
      refine c.cWrites cs.mm.toCsH 3 rfl (by rw [e2]; decide) fun v4 h14 c => ?_
      rw [(c.sl (i := 4) rfl).sl.ln, vb_some, e2, cpt0]
      refine Lp1.by (fun (j : Nat) v h' => v = .int .i64 0 ∧ h' = h14) (fun j => j) 0 ⟨rfl, rfl⟩ ?_
      rintro j v h15 ⟨rfl, rfl⟩ again hagain
      refine vb (v := .bool false) rfl ?_
      rw [br_false, e1]
      refine vb (v := .bool false) rfl ?_
      rw [br_false]
      exact c.pick [0, 1, 3]
    · clear c
      intro h13 c
      rw [plA (i := 1) c rfl, vb_some]
      refine (c.va (i := 0) rfl).fld (j := 1) rfl ?_
      refine c.dwalk cs.toCsD2 2 rfl ⟨by decide, by decide⟩ (by decide) (wd_dWalk (p := p35 4) (r := x.r) (by decide)) fun o σ1 v1 h14 c ho => ?_
      refine ext0t (ext1t ?_)
      refine .here ?_
      refine cs.awake35 fun h15 gg => ?_
      have c := c.more gg
      rw [br_true]
      have hln := (c.sl (i := 3) rfl).sl.ln
      cases o with
      | some l =>
        refine vb (v := .bool true) rfl ?_
        have hl : (l.length : Int) ≤ 4 := ho l rfl
        rw [br_true, hln, vb_some, show bin .leq (.int .i64 (((some l).getD [] : List Int).length : Int)) (.int .i64 4) = some (.bool (decide ((l.length : Int) ≤ 4))) from bin_leq, vb_some, decide_eq_true hl, br_true]
        exact hR _ c.gr
      | none =>
        refine vb (v := .bool false) rfl ?_
        rw [br_false]
        refine vb (v := .bool true) rfl ?_
        rw [br_true, hln, vb_some]
        refine vb (v := .bool true) rfl ?_
        rw [br_true]
        exact hR _ c.gr
end Go.En
namespace Go.En
open Prog Spc Go.Sort

variable {S : Sys} {I : Ids} {h h0 h' : Hp} {F F0 : Fp} {R : Value → Hp → Prop} {L : List Res} {s : Value} {σ τ : Spc}

abbrev p60 : Pl := ⟨0, 24, 60⟩
abbrev D60 : Int → Prop := fun a => 0 ≤ a ∧ a < 504
theorem p60_good : p60.good := ⟨by decide, by decide, by decide, by decide, by decide, by decide, .inr (.inl (by decide))⟩
theorem p60_D : PoolD D60 p60 := by
  refine ⟨fun i h0 h1 => ⟨by show 0 ≤ 0 + i; omega, by show 0 + i < _; omega⟩, fun x hx i h0 h1 => ?_⟩
  obtain ⟨j, j0, j1, rfl⟩ := hx
  have j1 : j < 60 := j1
  exact ⟨by show 0 ≤ 24 + 8 * j + i; omega, by show 24 + 8 * j + i < _; omega⟩
/-- two roots, one pool -/
structure Rt2 (ra rb : Int) : Prop where
  h : ra = 8 ∧ rb = 16 ∨ ra = 16 ∧ rb = 8
theorem Rt2.swap {ra rb : Int} (h : Rt2 ra rb) : Rt2 rb ra := ⟨h.h.symm.imp (fun e => ⟨e.2, e.1⟩) fun e => ⟨e.2, e.1⟩⟩
theorem Rt2.rd {ra rb : Int} (h : Rt2 ra rb) : RootD D60 ra ∧ RA p60 ra := by
  have := h.h
  exact ⟨fun i h0 h1 => ⟨by omega, by omega⟩, ⟨by show (0 : Int) + 3 ≤ ra; omega, by show ra + 8 ≤ 24; omega⟩⟩
structure D2m (m : Int → Int) (ra rb : Int) (va vb : List Int) (la lb fr : List Int) (out : Int) : Prop where
  P : PoolR m p60 fr out
  A : DQ m ra false la va
  B : DQ m rb false lb vb
  ha : Held p60 fr out la
  hb : Held p60 fr out lb
  dj : ∀ x ∈ la, x ∉ lb
  cnt : (la.length : Int) + lb.length + fr.length = out
def D2 (ra rb : Int) (va vb : List Int) (c : Nat) (σ : Spc) : Prop := Rt2 ra rb ∧ c + 40 ≤ big ∧ ∃ m la lb fr out, D2m m ra rb va vb la lb fr out ∧ Sm D60 σ σ m 0 ∧ σ.pu.length ≤ c
section
variable {ra rb v : Int} {va vb : List Int} {c : Nat} {r : Bool}
theorem D2.swap (H : D2 ra rb va vb c σ) : D2 rb ra vb va c σ := by
  obtain ⟨hr, hc, m, la, lb, fr, out, X, S, hl⟩ := H
  exact ⟨hr.swap, hc, m, lb, la, fr, out, ⟨X.P, X.B, X.A, X.hb, X.ha, fun x hx hx2 => X.dj x hx2 hx, by have := X.cnt; omega⟩, S, hl⟩
theorem same_ext {m m' : Int → Int} {l lb : List Int} {fr : List Int} {out : Int} (hr : Rt2 ra rb) (ho : out ≤ 60) (B : DQ m rb false lb vb) (hb : Held p60 fr out lb) (hn : ∀ x ∈ l, isN p60 x ∧ x ∉ lb) (hs : Same p60 ra l m m') : DQ m' rb false lb vb := by
  have hrr := hr.h
  have hN : ∀ x, isN p60 x → 24 ≤ x := fun x ⟨j, j0, j1, e⟩ => by
    have e : x = 24 + 8 * j := e
    omega
  refine B.ext (fun i h0 h1 => hs _ (fun k k0 k1 => ?_) (fun k k0 k1 => ?_) fun x hx k k0 k1 => ?_) fun y hy i h0 h1 => hs _ (fun k k0 k1 => ?_) (fun k k0 k1 => ?_) fun x hx k k0 k1 => ?_
  · show rb + i ≠ 0 + k; omega
  · omega
  · have := hN x (hn x hx).1; omega
  all_goals
    obtain ⟨⟨j, j0, j1, ej⟩, _⟩ := hb y hy
    have hy' : isN p60 y := ⟨j, j0, by show j < 60; omega, ej⟩
    have h24 := hN y hy'
  · show y + i ≠ 0 + k; omega
  · omega
  · exact isN_ne hy' (hn x hx).1 (fun e => (hn x hx).2 (e ▸ hy)) ⟨h0, h1⟩ ⟨k0, k1⟩
theorem D2.push (H : D2 ra rb va vb c σ) (hv : R64 v) (hl : (va.length : Int) + vb.length < 60) (hb : c + 12 + 40 ≤ big) : wp (dPush p60 ra r v) σ fun e σ' => e = 0 ∧ D2 ra rb (rPush r v va) vb (c + 12) σ' := by
  obtain ⟨hr, hc, m, la, lb, fr, out, X, S, hpl⟩ := H
  obtain ⟨hRD, hA⟩ := hr.rd
  have hP := X.P.out1
  have hP : out ≤ 60 := hP
  refine Prog.wp_mono (wp_dPush S X.P p60_D hRD hA (X.A.ori (r := r)) X.ha.ori hv (by omega)) fun e σ' hq => ?_
  have h1 := X.A.len; have h2 := X.B.len
  rcases hq with ⟨n, fr', out', m', rfl, T, S', P', K', H', hs⟩ | ⟨_, e1, e2, _⟩
  · obtain ⟨hnb, hb', ho, hcn⟩ := T.held X.P X.hb
    have hnl : n ∉ ori r la := (List.nodup_cons.1 K'.nd).1
    have hl' := S'.len
    have ho' : out' ≤ 60 := P'.out1
    have hN : ∀ x ∈ n :: ori r la, isN p60 x ∧ x ∉ lb := fun x hx => by
      refine ⟨?_, ?_⟩
      · obtain ⟨⟨j, j0, j1, ej⟩, _⟩ := H' x hx
        exact ⟨j, j0, by show j < 60; omega, ej⟩
      · rcases List.mem_cons.1 hx with rfl | hx
        · exact hnb
        · exact X.dj x (ori_mem.1 hx)
    refine ⟨rfl, hr, hb, m', ori r (n :: ori r la), lb, fr', out', ⟨P', K'.iro, same_ext hr ho' X.B hb' hN hs, H'.ori, hb', fun x hx => (hN x (ori_mem.1 hx)).2, ?_⟩, S'.fresh, by omega⟩
    rw [ori_len, List.length_cons, ori_len]
    have := X.cnt
    omega
  · exfalso
    have := X.cnt
    subst e1
    have e2 : out = 60 := e2
    simp only [List.length_nil] at this
    omega
theorem D2.pop (H : D2 ra rb va vb c σ) (hb : c + 12 + 40 ≤ big) : wp (dPop p60 ra r) σ fun e σ' => (va.length ≠ 0 ∧ e = (rPeek r va, 0) ∧ D2 ra rb (rPop r va) vb (c + 12) σ') ∨ (e = (0, 8) ∧ va = [] ∧ D2 ra rb va vb (c + 12) σ') := by
  obtain ⟨hr, hc, m, la, lb, fr, out, X, S, hpl⟩ := H
  obtain ⟨hRD, hA⟩ := hr.rd
  have hP := X.P.out1
  have hP : out ≤ 60 := hP
  refine Prog.wp_mono (wp_dPop S X.P p60_D hRD hA (X.A.ori (r := r)) X.ha.ori (by omega)) fun e σ' hq => ?_
  have h1 := X.A.len; have h2 := X.B.len
  rcases hq with ⟨n, l', v, vs', m', e1, e2, rfl, S', P', K', H', hs⟩ | ⟨rfl, e1, e2, S'⟩
  · left
    have hl := ori_len r la
    rw [e1] at hl
    simp only [List.length_cons] at hl
    have hl' := S'.len
    have hN : ∀ x ∈ n :: l', isN p60 x ∧ x ∉ lb := fun x hx => by
      have hm : x ∈ la := ori_mem.1 (by rw [e1]; exact hx)
      refine ⟨?_, X.dj x hm⟩
      obtain ⟨⟨j, j0, j1, ej⟩, _⟩ := X.ha x hm
      exact ⟨j, j0, by show j < 60; omega, ej⟩
    have hb' : Held p60 (n :: fr) out lb := fun y hy => ⟨(X.hb y hy).1, fun h => by
      rcases List.mem_cons.1 h with rfl | h
      · exact (hN y (List.mem_cons_self ..)).2 hy
      · exact (X.hb y hy).2 h⟩
    refine ⟨by omega, by rw [rPeek_cons e2], hr, hb, m', ori r l', lb, n :: fr, out, ⟨P', by rw [rPop_cons e2]; exact K'.iro, same_ext hr hP X.B hb' hN hs, H'.ori, hb', fun x hx => (hN x (List.mem_cons_of_mem _ (ori_mem.1 hx))).2, ?_⟩, S'.fresh, by omega⟩
    rw [ori_len, List.length_cons]
    have := X.cnt
    omega
  · right
    have hl := ori_len r va
    rw [e2] at hl
    have hl' := S'.len
    exact ⟨rfl, List.eq_nil_of_length_eq_zero hl.symm, hr, hb, m, la, lb, fr, out, X, S'.fresh, by omega⟩
theorem D2.walk (H : D2 ra rb va vb c σ) : wp (dWalk p60 ra r) σ fun o σ' => o = some (ori r va) ∧ D2 ra rb va vb c σ' := by
  obtain ⟨hr, hc, m, la, lb, fr, out, X, S, hpl⟩ := H
  obtain ⟨hRD, hA⟩ := hr.rd
  refine Prog.wp_mono (wp_dWalk S X.P p60_D hRD (X.A.ori (r := r)) X.ha.ori) fun e σ' ⟨hq, S'⟩ => ⟨hq, hr, hc, m, la, lb, fr, out, X, S'.fresh, by have := S'.len; omega⟩
theorem D2.left (H : D2 ra rb va vb c σ) : wp (pLeft p60) σ fun n σ' => n = 60 - va.length - vb.length ∧ D2 ra rb va vb c σ' := by
  obtain ⟨hr, hc, m, la, lb, fr, out, X, S, hpl⟩ := H
  refine wp_ret' (wp_left1 S X.P p60_D fun σ' S' => ?_)
  have h1 := X.A.len; have h2 := X.B.len; have h3 := X.cnt
  have e : (p60.nodes : Int) = 60 := rfl
  exact ⟨by omega, hr, hc, m, la, lb, fr, out, X, S'.fresh, by have := S'.len; omega⟩
end
theorem D2.start : D2 8 16 [] [] 0 (newS (knF (fun _ => W0) 504)) := by
  have hz : ∀ a, (newS (knF (fun _ => W0) 504)).vw a = 0 := fun a => by rw [mG_at (GW.zero _)]; split <;> rfl
  have hq : ∀ root, DQ (newS (knF (fun _ => W0) 504)).vw root false [] [] := fun root => ⟨hz _, hz _, rfl, hz _, hz _, List.nodup_nil⟩
  refine ⟨⟨.inl ⟨rfl, rfl⟩⟩, by decide, _, [], [], [], 0, ⟨⟨p60_good, hz _, hz _, hz _, Int.le_refl 0, by decide, (fun x hx => by cases hx), List.nodup_nil⟩, hq _, hq _, (fun x hx => by cases hx), (fun x hx => by cases hx), (fun x hx => by cases hx), rfl⟩, ?_, Nat.le_refl 0⟩
  exact Sm.table (GW.zero 504)

theorem Ow.isS {v : Value} {xs : List Int} (H : Ow EI1 h v xs) : ∃ u : MS, v = sV u := by
  rcases H with ⟨rfl, _⟩ | ⟨r, o, cap, rfl, _⟩
  · exact ⟨(none, 0, 0), rfl⟩
  · exact ⟨(_, _, _), rfl⟩
def E2S : Enc (MS × MS) := { n := 2, c := fun u => [sV u.1, sV u.2], len := fun _ => rfl, one := fun a v h => by simp only [List.mem_cons, List.not_mem_nil, or_false] at h; rcases h with rfl | rfl <;> rfl }
theorem Cx.stoC {α : Type} {E : Enc α} {r : Nat} {x : α} (c : Cx F0 h0 h L) (i : Nat) (hi : L[i]? = some (rVar E r x)) (y : α) {j : Nat} {w : Value} (hw : w.oneCell' = true) (hj : j < E.n) (hy : E.c y = (E.c x).set j w) {k : Hp → Prop}
    (hk : ∀ h', Cx F0 h0 h' (L.set i (rVar E r y)) → k h') : Sb (En.sto 1 (.pointer (some ⟨r, 0 + j, none⟩)) w h) k := by
  have := c.stof i hi y hw hj hy hk
  rw [show fa j (at0 r) = some (.pointer (some ⟨r, 0 + j, none⟩)) from fa_add _ _ _, vb_some] at this
  exact this

set_option maxRecDepth 4000 in
theorem L_DequeOther {acts : List A5} {turns : List Bool} {b1 b2 : Value} (cs : CsD6 S I) (s1 : Sl EA5 h b1 acts) (w1 : ∀ x ∈ acts, x.ok) (s2 : Sl EB1 h b2 turns) (hR : ∀ h', Gr h h' → R (.bool true) h') :
    F_simulcastlaw35_DequeOther S I b1 b2 h R := by
  unfold F_simulcastlaw35_DequeOther
  rw [s1.ln, vb_some, bin_gtr, vb_some]
  refine brd (fun _ => cs.awake35 hR) fun hlen => ?_
  refine En.vb (v := vP p60) (by kernel_rfl) ?_
  refine (Cx.start0 h).nw EPl ⟨0, 0, 0⟩ rfl fun rp h1 c => ?_
  refine c.sto 0 rfl p60 rfl rfl fun h2 c => ?_
  refine c.mmk .i64 mW fun km h3 c => ?_
  refine Lp1.by (fun (j : Nat) v h' => v = .int .i64 j ∧ j ≤ 504 ∧ Cx (fun _ => False) h h' [rVar EPl rp p60, rMp .i64 mW (.map (some km)) (knF (fun _ => W0) j)]) (fun j => 504 - j) 0 ⟨rfl, Nat.zero_le _, c⟩ ?_
  clear c
  rintro j v h4 ⟨rfl, hj, c⟩ again hagain
  rw [bin_lss, vb_some]
  refine brd (fun h5 => ?_) fun h5 => ?_
  · rw [bldW00, vb_some]
    refine c.mup 1 rfl (j : Int) W0 rfl fun h6 c => ?_
    have c : Cx (fun _ => False) h h6 [rVar EPl rp p60, rMp .i64 mW (.map (some km)) (updA (knF (fun _ => W0) j) (j : Int) ((fun _ => W0) j))] := c
    rw [knF_upd] at c
    rw [bin_add, vb_some, wrS (by omega)]
    exact hagain (j + 1) _ _ ⟨rfl, by omega, c⟩ (by omega)
  have ej : j = 504 := by omega
  subst ej
  clear hagain again
  refine c.cNew cs.toCsD 1 rfl (knF_nodup _ _) (knF_val fun _ _ => ⟨by decide, by decide⟩) fun s h6 c => ?_
  rw [(c.eqP0 (i := 2) rfl), pos_some, vb_some, br_false]
  have H0 := D2.start
  generalize newS (knF (fun _ => W0) 504) = σ0 at *
  refine c.nw E2S ((none, 0, 0), (none, 0, 0)) rfl fun r9 h7 c => ?_
  have c := (c.nil EI1).nil EI1
  rw [vb_some]
  refine Lp1.by (fun (x : Nat × Spc × (MS × MS) × List Int × List Int) v h' => v = .int .i64 x.1 ∧ x.1 ≤ acts.length ∧ D2 8 16 x.2.2.2.1 x.2.2.2.2 (12 * x.1) x.2.1 ∧ x.2.2.2.1.length + x.2.2.2.2.length ≤ x.1 ∧
      Cx (fun _ => False) h h' [rVar EPl rp p60, rSpace s x.2.1, rVar E2S r9 x.2.2.1, rSl EI1 (sV x.2.2.1.1) x.2.2.2.1, rSl EI1 (sV x.2.2.1.2) x.2.2.2.2]) (fun x => acts.length - x.1) (0, σ0, ((none, 0, 0), (none, 0, 0)), [], [])
    ⟨rfl, Nat.zero_le _, H0, Nat.le_refl _, c.pick [0, 2, 3, 4, 5]⟩ ?_
  clear c H0
  rintro ⟨i, σ, u, va, vb⟩ v h8 ⟨rfl, hi, H, hvl, c⟩ again hagain
  dsimp only at *
  rw [bin_lss, vb_some]
  refine brd (fun hlt => ?_) fun hge => ?_
  · refine Jn0.at (fun h' => ∃ σ u va vb, D2 8 16 va vb (12 * (i + 1)) σ ∧ va.length + vb.length ≤ i + 1 ∧ Cx (fun _ => False) h h' [rVar EPl rp p60, rSpace s σ, rVar E2S r9 u, rSl EI1 (sV u.1) va, rSl EI1 (sV u.2) vb]) ?_ ?_
    · have hx : acts[i]? = some acts[i] := List.getElem?_eq_getElem (by omega)
      have hok := w1 acts[i] (List.getElem_mem _)
      generalize acts[i] = x at *
      have hd := hok.d
      refine (s1.gr c.gr).whole rfl hx rfl ?_
      refine c.nw EA5 ⟨0, false, 0⟩ rfl fun rx h10 c => ?_
      refine c.sto 5 rfl x rfl rfl fun h11 c => ?_
      refine Jn1.at (fun v h' => (v = .int .i64 0 ∨ v = .int .i64 1) ∧ h' = h11) ?_ ?_
      · refine Jn1.at (fun v h' => (∃ b : Bool, v = .bool b) ∧ h' = h11) ?_ ?_
        · rw [s2.ln, vb_some, bin_lss, vb_some]
          refine brd (fun h12 => ?_) fun h12 => ⟨⟨_, rfl⟩, rfl⟩
          have hy : turns[i]? = some turns[i] := List.getElem?_eq_getElem (by omega)
          exact (s2.gr c.gr).one rfl hy rfl rfl ⟨⟨_, rfl⟩, rfl⟩
        · rintro v h12 ⟨⟨b, rfl⟩, rfl⟩
          cases b with
          | true => rw [br_true]; exact ⟨.inr rfl, rfl⟩
          | false => rw [br_false]; exact ⟨.inl rfl, rfl⟩
      rintro v h12 ⟨hv, rfl⟩
      have rem4 : bin .rem (.int .u8 x.d) (.int .u8 4) = some (.int .u8 (x.d % 4)) := by rw [bin_rem (by omega), Int.tmod_eq_emod_of_nonneg hd.1]
      rcases hv with rfl | rfl
      · refine En.vb (v := .int .i64 0) rfl (En.vb (v := .int .i64 8) rfl ?_)
        refine (c.va (i := 5) rfl).fld (j := 0) rfl ?_
        rw [rem4, vb_some, bin_lss, vb_some]
        refine brd (fun h13 => ?_) fun h13 => ?_
        · rw [plA (i := 0) c rfl, vb_some]
          refine (c.va (i := 5) rfl).fld (j := 1) rfl ?_
          refine (c.va (i := 5) rfl).fld (j := 2) rfl ?_
          refine c.last (cs.dpush ⟨by decide, by decide⟩ hok.v) 1 rfl ((H).push (r := x.r) hok.v (by omega) (by unfold big; omega)) fun e σ' h14 c hq => ?_
          obtain ⟨rfl, H'⟩ := hq
          unfold uI
          refine En.vb (v := .bool false) rfl ?_
          rw [br_false, show ixa 2 1 (at0 r9) (.int .i64 0) = some (.pointer (some ⟨r9, 0 + 0, none⟩)) from ixa_at (i := 0) rfl (by decide) 0, vb_some, show ldc (.pointer (some ⟨r9, 0 + 0, none⟩)) h14 = some (sV u.1) from (c.va (i := 2) rfl).row.ldc (j := 0) rfl, vb_some]
          refine (c.va (i := 5) rfl).fld (j := 1) rfl ?_
          refine (c.va (i := 5) rfl).fld (j := 2) rfl ?_
          refine cs.rpush (c.sl (i := 3) rfl).sl (by omega) fun w h15 c2 => ?_
          have c := c.frame0 c2
          obtain ⟨u2, rfl⟩ := (c.sl (i := 6) rfl).isS
          rw [vb_some]
          refine c.stoC 2 rfl (u2, u.2) rfl (by decide) rfl fun h16 c => ?_
          have hl2 : (rPush x.r x.v va).length = va.length + 1 := by unfold rPush; rw [ori_len, List.length_cons, ori_len]
          exact ⟨σ', (u2, u.2), rPush x.r x.v va, vb, H', by omega, c.pick [0, 1, 2, 6, 4]⟩
        · rw [plA (i := 0) c rfl, vb_some]
          refine (c.va (i := 5) rfl).fld (j := 1) rfl ?_
          refine c.last (cs.dpop ⟨by decide, by decide⟩) 1 rfl ((H).pop (r := x.r) (by unfold big; omega)) fun e σ' h14 c hq => ?_
          unfold uE
          refine ext0t (ext1t ?_)
          rw [show ixa 2 1 (at0 r9) (.int .i64 0) = some (.pointer (some ⟨r9, 0 + 0, none⟩)) from ixa_at (i := 0) rfl (by decide) 0, vb_some, show ldc (.pointer (some ⟨r9, 0 + 0, none⟩)) h14 = some (sV u.1) from (c.va (i := 2) rfl).row.ldc (j := 0) rfl, vb_some, (c.sl (i := 3) rfl).sl.ln, vb_some, bin_gtr, vb_some]
          refine brd (fun h15 => ?_) fun h15 => ?_
          · rcases hq with ⟨hne, rfl, H'⟩ | ⟨_, hnil, _⟩
            · have hne' : va ≠ [] := fun e => hne (by rw [e]; rfl)
              refine Jn1.at (fun v h' => v = .bool false ∧ h' = h14) ?_ ?_
              · refine En.vb (v := .bool false) rfl ?_
                rw [br_false, vb_some, show ldc (.pointer (some ⟨r9, 0 + 0, none⟩)) h14 = some (sV u.1) from (c.va (i := 2) rfl).row.ldc (j := 0) rfl, vb_some]
                refine (c.va (i := 5) rfl).fld (j := 1) rfl ?_
                refine cs.rpeek (c.sl (i := 3) rfl).sl (by omega) hne' ?_
                exact En.vb (neI _) ⟨rfl, rfl⟩
              rintro v h16 ⟨rfl, rfl⟩
              rw [br_false, vb_some, show ldc (.pointer (some ⟨r9, 0 + 0, none⟩)) h16 = some (sV u.1) from (c.va (i := 2) rfl).row.ldc (j := 0) rfl, vb_some]
              refine (c.va (i := 5) rfl).fld (j := 1) rfl ?_
              refine cs.rpop (c.sl (i := 3) rfl).sl (by omega) fun w h17 c2 => ?_
              have c := c.frame0 c2
              obtain ⟨u2, rfl⟩ := (c.sl (i := 6) rfl).isS
              rw [vb_some]
              refine c.stoC 2 rfl (u2, u.2) rfl (by decide) rfl fun h18 c => ?_
              have hl2 : (rPop x.r va).length ≤ va.length := by unfold rPop; rw [ori_len, List.length_tail, ori_len]; omega
              exact ⟨σ', (u2, u.2), rPop x.r va, vb, H', by omega, c.pick [0, 1, 2, 6, 4]⟩
            · rw [hnil] at h15
              exact absurd h15 (by decide)
          · rcases hq with ⟨hne, _⟩ | ⟨rfl, hnil, H'⟩
            · exact absurd h15 (by omega)
            · refine En.vb (v := .bool false) rfl ?_
              rw [br_false]
              exact ⟨σ', u, va, vb, H', by omega, c.pick [0, 1, 2, 3, 4]⟩
      · refine En.vb (v := .int .i64 8) rfl (En.vb (v := .int .i64 16) rfl ?_)
        refine (c.va (i := 5) rfl).fld (j := 0) rfl ?_
        rw [rem4, vb_some, bin_lss, vb_some]
        refine brd (fun h13 => ?_) fun h13 => ?_
        · rw [plA (i := 0) c rfl, vb_some]
          refine (c.va (i := 5) rfl).fld (j := 1) rfl ?_
          refine (c.va (i := 5) rfl).fld (j := 2) rfl ?_
          refine c.last (cs.dpush ⟨by decide, by decide⟩ hok.v) 1 rfl ((H.swap).push (r := x.r) hok.v (by omega) (by unfold big; omega)) fun e σ' h14 c hq => ?_
          obtain ⟨rfl, H'⟩ := hq
          unfold uI
          refine En.vb (v := .bool false) rfl ?_
          rw [br_false, show ixa 2 1 (at0 r9) (.int .i64 1) = some (.pointer (some ⟨r9, 0 + 1, none⟩)) from ixa_at (i := 1) rfl (by decide) 0, vb_some, show ldc (.pointer (some ⟨r9, 0 + 1, none⟩)) h14 = some (sV u.2) from (c.va (i := 2) rfl).row.ldc (j := 1) rfl, vb_some]
          refine (c.va (i := 5) rfl).fld (j := 1) rfl ?_
          refine (c.va (i := 5) rfl).fld (j := 2) rfl ?_
          refine cs.rpush (c.sl (i := 4) rfl).sl (by omega) fun w h15 c2 => ?_
          have c := c.frame0 c2
          obtain ⟨u2, rfl⟩ := (c.sl (i := 6) rfl).isS
          rw [vb_some]
          refine c.stoC 2 rfl (u.1, u2) rfl (by decide) rfl fun h16 c => ?_
          have hl2 : (rPush x.r x.v vb).length = vb.length + 1 := by unfold rPush; rw [ori_len, List.length_cons, ori_len]
          exact ⟨σ', (u.1, u2), va, rPush x.r x.v vb, H'.swap, by omega, c.pick [0, 1, 2, 3, 6]⟩
        · rw [plA (i := 0) c rfl, vb_some]
          refine (c.va (i := 5) rfl).fld (j := 1) rfl ?_
          refine c.last (cs.dpop ⟨by decide, by decide⟩) 1 rfl ((H.swap).pop (r := x.r) (by unfold big; omega)) fun e σ' h14 c hq => ?_
          unfold uE
          refine ext0t (ext1t ?_)
          rw [show ixa 2 1 (at0 r9) (.int .i64 1) = some (.pointer (some ⟨r9, 0 + 1, none⟩)) from ixa_at (i := 1) rfl (by decide) 0, vb_some, show ldc (.pointer (some ⟨r9, 0 + 1, none⟩)) h14 = some (sV u.2) from (c.va (i := 2) rfl).row.ldc (j := 1) rfl, vb_some, (c.sl (i := 4) rfl).sl.ln, vb_some, bin_gtr, vb_some]
          refine brd (fun h15 => ?_) fun h15 => ?_
          · rcases hq with ⟨hne, rfl, H'⟩ | ⟨_, hnil, _⟩
            · have hne' : vb ≠ [] := fun e => hne (by rw [e]; rfl)
              refine Jn1.at (fun v h' => v = .bool false ∧ h' = h14) ?_ ?_
              · refine En.vb (v := .bool false) rfl ?_
                rw [br_false, vb_some, show ldc (.pointer (some ⟨r9, 0 + 1, none⟩)) h14 = some (sV u.2) from (c.va (i := 2) rfl).row.ldc (j := 1) rfl, vb_some]
                refine (c.va (i := 5) rfl).fld (j := 1) rfl ?_
                refine cs.rpeek (c.sl (i := 4) rfl).sl (by omega) hne' ?_
                exact En.vb (neI _) ⟨rfl, rfl⟩
              rintro v h16 ⟨rfl, rfl⟩
              rw [br_false, vb_some, show ldc (.pointer (some ⟨r9, 0 + 1, none⟩)) h16 = some (sV u.2) from (c.va (i := 2) rfl).row.ldc (j := 1) rfl, vb_some]
              refine (c.va (i := 5) rfl).fld (j := 1) rfl ?_
              refine cs.rpop (c.sl (i := 4) rfl).sl (by omega) fun w h17 c2 => ?_
              have c := c.frame0 c2
              obtain ⟨u2, rfl⟩ := (c.sl (i := 6) rfl).isS
              rw [vb_some]
              refine c.stoC 2 rfl (u.1, u2) rfl (by decide) rfl fun h18 c => ?_
              have hl2 : (rPop x.r vb).length ≤ vb.length := by unfold rPop; rw [ori_len, List.length_tail, ori_len]; omega
              exact ⟨σ', (u.1, u2), va, rPop x.r vb, H'.swap, by omega, c.pick [0, 1, 2, 3, 6]⟩
            · rw [hnil] at h15
              exact absurd h15 (by decide)
          · rcases hq with ⟨hne, _⟩ | ⟨rfl, hnil, H'⟩
            · exact absurd h15 (by omega)
            · refine En.vb (v := .bool false) rfl ?_
              rw [br_false]
              exact ⟨σ', u, va, vb, H'.swap, by omega, c.pick [0, 1, 2, 3, 4]⟩
    · clear c
      rintro h10 ⟨σ', u', va', vb', H', hl', c⟩
      rw [bin_add, vb_some, wrS (by omega)]
      exact hagain (i + 1, σ', u', va', vb') _ _ ⟨rfl, by dsimp only; omega, H', hl', c⟩ (by dsimp only; omega)
  · have e0 : ∀ {L h'}, Cx (fun _ => False) h h' L → L[2]? = some (rVar E2S r9 u) → ldc (.pointer (some ⟨r9, 0 + 0, none⟩)) h' = some (sV u.1) := fun c hi => (c.va hi).row.ldc (j := 0) rfl
    have e1 : ∀ {L h'}, Cx (fun _ => False) h h' L → L[2]? = some (rVar E2S r9 u) → ldc (.pointer (some ⟨r9, 0 + 1, none⟩)) h' = some (sV u.2) := fun c hi => (c.va hi).row.ldc (j := 1) rfl
    have i0 : ixa 2 1 (at0 r9) (.int .i64 0) = some (.pointer (some ⟨r9, 0 + 0, none⟩)) := ixa_at (i := 0) rfl (by decide) 0
    have i1 : ixa 2 1 (at0 r9) (.int .i64 1) = some (.pointer (some ⟨r9, 0 + 1, none⟩)) := ixa_at (i := 1) rfl (by decide) 0
    refine Lp1.by (fun (x : Nat × Spc) v h' => v = .int .i64 x.1 ∧ x.1 ≤ 2 ∧ D2 8 16 va vb (12 * i) x.2 ∧ Cx (fun _ => False) h h' [rVar EPl rp p60, rSpace s x.2, rVar E2S r9 u, rSl EI1 (sV u.1) va, rSl EI1 (sV u.2) vb]) (fun x => 2 - x.1) (0, σ) ⟨rfl, Nat.zero_le _, H, c⟩ ?_
    clear c H
    rintro ⟨k, σ⟩ v h9 ⟨rfl, hk, H, c⟩ again2 hagain2
    dsimp only at *
    rw [bin_lss, vb_some]
    refine brd (fun hlt => ?_) fun hge2 => ?_
    · have hk2 : k = 0 ∨ k = 1 := by omega
      rcases hk2 with rfl | rfl
      · rw [plA (i := 0) c rfl, vb_some]
        refine En.vb (v := .int .i64 0) rfl (En.vb (v := .int .i64 8) rfl ?_)
        refine c.dwalk cs.toCsD2 1 rfl ⟨by decide, by decide⟩ (by decide) ((H).walk (r := false)) fun o σ1 v1 h10 c hq => ?_
        obtain ⟨rfl, H'⟩ := hq
        refine ext0t (ext1t ?_)
        refine Jn1.at (fun v h' => v = .bool false ∧ Cx (fun _ => False) h h' [rVar EPl rp p60, rSpace s σ1, rVar E2S r9 u, rSl EI1 (sV u.1) va, rSl EI1 (sV u.2) vb]) ?_ ?_
        · refine En.vb (v := .bool false) rfl ?_
          rw [br_false, show ixa 2 1 (at0 r9) (.int .i64 ((0 : Nat) : Int)) = some (.pointer (some ⟨r9, 0 + 0, none⟩)) from i0, vb_some, e0 c rfl, vb_some]
          refine cs.rwalk (c.sl (i := 3) rfl).sl (by omega) fun w h11 c2 => ?_
          have c := c.frame0 c2
          refine cs.eq64 (xs := va) (by omega) (c.sl (i := 5) rfl).sl (c.sl (i := 6) rfl).sl ?_
          refine En.vb (v := .bool false) rfl ?_
          exact ⟨rfl, c.pick [0, 1, 2, 3, 4]⟩
        · clear c
          rintro v h11 ⟨rfl, c⟩
          rw [br_false, bin_add, vb_some, wrS (by omega)]
          exact hagain2 (0 + 1, σ1) _ _ ⟨rfl, by dsimp only; decide, H', c⟩ (by dsimp only; decide)
      · rw [plA (i := 0) c rfl, vb_some]
        refine En.vb (v := .int .i64 8) rfl (En.vb (v := .int .i64 16) rfl ?_)
        refine c.dwalk cs.toCsD2 1 rfl ⟨by decide, by decide⟩ (by decide) ((H.swap).walk (r := false)) fun o σ1 v1 h10 c hq => ?_
        obtain ⟨rfl, H'⟩ := hq
        refine ext0t (ext1t ?_)
        refine Jn1.at (fun v h' => v = .bool false ∧ Cx (fun _ => False) h h' [rVar EPl rp p60, rSpace s σ1, rVar E2S r9 u, rSl EI1 (sV u.1) va, rSl EI1 (sV u.2) vb]) ?_ ?_
        · refine En.vb (v := .bool false) rfl ?_
          rw [br_false, show ixa 2 1 (at0 r9) (.int .i64 ((1 : Nat) : Int)) = some (.pointer (some ⟨r9, 0 + 1, none⟩)) from i1, vb_some, e1 c rfl, vb_some]
          refine cs.rwalk (c.sl (i := 4) rfl).sl (by omega) fun w h11 c2 => ?_
          have c := c.frame0 c2
          refine cs.eq64 (xs := vb) (by omega) (c.sl (i := 5) rfl).sl (c.sl (i := 6) rfl).sl ?_
          refine En.vb (v := .bool false) rfl ?_
          exact ⟨rfl, c.pick [0, 1, 2, 3, 4]⟩
        · clear c
          rintro v h11 ⟨rfl, c⟩
          rw [br_false, bin_add, vb_some, wrS (by omega)]
          exact hagain2 (1 + 1, σ1) _ _ ⟨rfl, by dsimp only; decide, H'.swap, c⟩ (by dsimp only; decide)
    · refine .here ?_
      refine cs.awake35 fun h10 gg => ?_
      have c := c.more gg
      rw [br_true, plA (i := 0) c rfl, vb_some, i0, vb_some, e0 c rfl, vb_some, (c.sl (i := 3) rfl).sl.ln, vb_some, bin_sub, vb_some, wr64 (by omega), i1, vb_some, e1 c rfl, vb_some, (c.sl (i := 4) rfl).sl.ln, vb_some, bin_sub, vb_some, wr64 (by omega)]
      refine c.last cs.left 1 rfl H.left fun a σ' h11 c hq => ?_
      obtain ⟨rfl, H'⟩ := hq
      refine ⟨e1 c rfl, e0 c rfl, ?_⟩
      unfold uI
      refine En.vb (eqI _) ?_
      exact hR _ c.gr
end Go.En
