/-
  Layer 33: the law Needs.
-/
import Derived.Test.YtalhmlnmbgpleaaDoorYG
namespace Go.En
open Prog Spc Go.Sort

variable {S : Sys} {I : Ids} {h h0 h' : Hp} {F F0 : Fp} {R : Value → Hp → Prop} {L : List Res} {s : Value} {σ τ : Spc}
/-- the operation of a call -/
def prog33 (p : Pl) (r d v : Int) : Prog (Int × Int) := if d % 3 < 2 then sPush p r v >>= fun e => pure (0, e) else sPop p r
structure CsS11' (S : Sys) (I : Ids) : Prop extends CsS10' S I where
  uneed1 : ∀ {s a b : Value} {h K}, F_simulcastlaw33_StackNeeds_1 S I s a b h K → S.C I.f_simulcastlaw33_StackNeeds_1 [s, a, b] h K
  equalE : ∀ {l : List E6} {v1 v2 : Value} {h R}, Sl EE h v1 l → Sl EE h v2 l → l.length ≤ 100000 → R (.bool true) h → S.C I.f_slices_Equal_api_Entry_api_Entry [v1, v2] h R
theorem K_EqualE {l : List E6} {v1 v2 : Value} (H1 : Sl EE h v1 l) (H2 : Sl EE h v2 l) (hl : l.length ≤ 100000) (hR : R (.bool true) h) : F_slices_Equal_api_Entry_api_Entry S I v1 v2 h R := by
  unfold F_slices_Equal_api_Entry_api_Entry
  rw [H1.ln, vb_some, H2.ln, vb_some, neI, vb_some, br_false, vb_some]
  refine Lp1.by (fun (i : Nat) v h' => v = .int .i64 i ∧ i ≤ l.length ∧ h' = h) (fun i => l.length - i) 0 ⟨rfl, Nat.zero_le _, rfl⟩ ?_
  rintro i v h3 ⟨rfl, hi, rfl⟩ again hagain
  rw [bin_lss, vb_some]
  refine brd (fun e => ?_) fun e => hR
  have hx : l[i]? = some (l[i]'(by omega)) := List.getElem?_eq_getElem (by omega)
  refine H1.whole rfl hx rfl ?_
  refine H2.whole rfl hx rfl ?_
  refine En.vb (v := .bool false) ?_ ?_
  · have : eqA [true, true, true, true, true, false] (.agg (EE.c (l[i]'(by omega))).toArray) (.agg (EE.c (l[i]'(by omega))).toArray) = some true := by simp [eqA, EE, eqL, eq1]
    rw [this]; rfl
  · rw [br_false, bin_add, vb_some, wrS (by omega)]
    exact hagain (i + 1) _ _ ⟨rfl, by omega, rfl⟩ (by omega)
theorem Sim.entl (H : Sim σ τ) : σ.entl = τ.entl := by
  unfold Spc.entl
  rw [← H.rd]
  refine List.map_congr_left fun a ha => H.ent (H.has a ?_)
  exact (sorted_perm σ.rd).mem_iff.1 ha
theorem Sim.ents (H : Sim σ τ) : σ.ents = τ.ents := by
  unfold Spc.ents
  rw [H.en, H.en', H.entl]
section
variable {x : X33} {cc : C33} {n : Int} {ps : List (Int × W3)} {m : Int → Int} {V : Int} {j : Nat} {rx rc : Nat} {b1 : Value} {cl : List C33}
theorem Good.ents8 (H : Good 192 ps σ) (W : WoR 192 ps m V) (hV : V < 4294967295) (h8 : σ.rd.length ≤ 8) : σ.ents = (σ.entl, 0) :=
  (H.inN W).entsE (fun a a0 a1 => (W.dom a).2 ⟨a0, a1⟩) (by decide) (fun a w hw => by have := (W.val a w hw).2.2.2; omega) (by omega)
theorem K_need1 {i : Nat} (cs : CsS11' S I) (hc : cc.ok) (hj : j = 0 ∨ j = 1) (ej : cc.w % 2 = (j : Int)) (hp : x.p = p33 n) (hRt : Rt F h0) (c : Cx F h0 h L) (hi : L[i]? = some (rSpace s σ)) {a b : Nat} (ha : L[a]? = some (rVar ECs rc cc)) (hb : L[b]? = some (rVar ESt rx x))
    {Q : Int × Int → Spc → Prop} (hq : Prog.wp (prog33 (p33 n) (rt j) cc.d cc.v) σ Q)
    (hk : ∀ e σ' h2, Q e σ' → Cx F h0 h2 (L.set i (rSpace s σ')) → R (uE e) h2) :
    F_simulcastlaw33_StackNeeds_1 S I s (at0 rc) (at0 rx) h R := by
  have hd := hc.d
  unfold F_simulcastlaw33_StackNeeds_1
  unfold prog33 at hq
  refine (c.va ha).fld (j := 0) rfl ?_
  rw [show bin .rem (.int .u8 cc.d) (.int .u8 3) = some (.int .u8 (cc.d % 3)) by rw [bin_rem (by omega), Int.tmod_eq_emod_of_nonneg hd.1], vb_some, bin_lss, vb_some]
  refine brd (fun e => ?_) fun e => ?_
  · rw [if_pos e] at hq
    refine c.getP hb ?_
    rw [hp]
    refine (c.va ha).fld (j := 1) rfl ?_
    rw [remj hc, vb_some, ej]
    refine (c.toRt hRt).get hj rfl ?_
    refine (c.va ha).fld (j := 2) rfl ?_
    refine c.does (cs.spush rt_le) i hi hq fun e1 σ2 h3 c hq => ?_
    exact hk (0, e1) σ2 h3 hq c
  · rw [if_neg e] at hq
    refine c.getP hb ?_
    rw [hp]
    refine (c.va ha).fld (j := 1) rfl ?_
    rw [remj hc, vb_some, ej]
    refine (c.toRt hRt).get hj rfl ?_
    refine c.last (cs.spop rt_le) i hi hq fun e1 σ2 h3 c hq => ?_
    unfold uE
    refine ext0t (ext1t ?_)
    exact hk e1 σ2 h3 hq c
theorem allD33 {p : Pl} : PoolD All p := ⟨fun _ _ _ => trivial, fun _ _ _ _ _ => trivial⟩
theorem prog_all {n' : Int} {vs vs' : List Int} (W : WoR 192 ps m V) (hr : R33 n' (rt j) (rt (1 - j))) (T : Two n' (rt j) (rt (1 - j)) m vs vs') (hv : R64 cc.v) : wp (prog33 (p33 n') (rt j) cc.d cc.v) (newS ps) fun _ σ' => Good 192 ps σ' ∧ σ'.rd.length ≤ 8 := by
  unfold prog33
  split
  · rw [wp_bind]
    exact Prog.wp_mono (push_all W hr T hv) fun _ _ h => ⟨h.1, h.2.1⟩
  · exact Prog.wp_mono (pop_all W hr T) fun _ _ h => ⟨h.1, h.2.1⟩
theorem prog_wild {p : Pl} {r : Int} (hw : σ.wf) (hv : R64 cc.v) (hp : σ.pu = []) : wp (prog33 p r cc.d cc.v) σ fun _ σ' => Wld All σ σ' 12 := by
  have hl : σ.pu.length + 12 ≤ big := by rw [hp]; show 0 + 12 ≤ big; decide
  unfold prog33
  split
  · rw [wp_bind]
    exact Prog.wp_mono (wd_sPush (A := All) hw allD33 (fun _ _ _ => trivial) hv hl) fun _ _ h => h.1
  · exact Prog.wp_mono (wd_sPop (A := All) hw allD33 (fun _ _ _ => trivial) hl) fun _ _ h => h.1
set_option maxRecDepth 4000 in
set_option maxHeartbeats 3200000 in
theorem L_StackNeeds (cs : CsS11' S I) (hn0 : 0 ≤ n ∧ n ≤ 255) (s1 : Sl ECs h b1 cl) (w1 : ∀ y ∈ cl, y.ok) (hc : cc.ok) (hRt : Rt (fun _ => False) h) (hR : ∀ h', Gr h h' → R (.bool true) h') : F_simulcastlaw33_StackNeeds S I (.int .u8 n) b1 (vCs cc) h R := by
  unfold F_simulcastlaw33_StackNeeds
  refine (Cx.start0 h).nw ECs cc rfl fun rc h1 c => ?_
  refine cs.great (s1.gr c.gr) ?_
  refine brd (fun _ => cs.awake (hRt.gr c.gr) fun h4 g => hR h4 (c.more g).gr) fun hlen => ?_
  refine cs.played hn0 (s1.gr c.gr) w1 (by omega) (hRt.gr c.gr) fun x ps m h1 H c2 => ?_
  have c := c.frame0 c2
  clear c2
  generalize acts33 (n % 17) cl = l at *
  have hV : (cl.length : Int) < 4294967295 := by omega
  generalize (cl.length : Int) = V at *
  generalize n % 17 = n' at *
  have hn := H.nn
  obtain ⟨j, hj, ej, ej'⟩ := modj hc
  have hr := r33_j hn hj
  have W := H.W
  have T := H.Tj hj
  refine ext0t (ext1t ?_)
  refine c.nw ESt X0 rfl fun rx h2 c => ?_
  refine c.sto 4 rfl x rfl rfl fun h3 c => ?_
  rw [uno_nb, vb_some, Bool.not_true, br_false, vb_some]
  refine (c.va (i := 4) rfl).fld (j := 0) rfl ?_
  have c : Cx (fun _ => False) h h3 [rVar ECs rc cc, rMp .i64 mW (.map x.k) ps, rVar ESt rx x] := c.pick [0, 1, 4]
  refine c.cNew cs.toCsD 1 rfl W.nd W.r64 fun st h4 c => ?_
  have w0 := prog_all (cc := cc) W hr T hc.v
  obtain ⟨hg, h8⟩ := wp_out w0
  refine .inl ⟨_, _, _, rfl, cs.uneed1 (K_need1 cs hc hj ej H.p hRt c (i := 3) rfl (a := 0) rfl (b := 2) rfl (wp_det w0) ?_)⟩
  rintro e τ1 h5 ⟨rfl, rfl⟩ c
  have hrd : ∀ a ∈ ((prog33 (p33 n') (rt j) cc.d cc.v).run (newS ps)).2.rd, D33 a := (hg.inN W).rd
  have hnd := hg.gd.nd
  have hten := hg.en
  have het := hg.ents8 W hV h8
  have hpl := hg.pl
  have hkt : ∀ a w, ((prog33 (p33 n') (rt j) cc.d cc.v).run (newS ps)).2.kn a = some w → w.ref = 0 := fun a w hw => (W.val a w (by rw [← hg.kn]; exact hw)).2.1
  have hdet : (prog33 (p33 n') (rt j) cc.d cc.v).run (newS ps) = ((prog33 (p33 n') (rt j) cc.d cc.v).run (newS ps)) := rfl
  unfold uE
  refine ext0t (ext1t ?_)
  refine c.cEntries cs.hh 3 rfl (by omega) hkt fun ev h6 c => ?_
  rw [het] at c ⊢
  refine ext0t (ext1t ?_)
  refine c.mmk .i64 mW fun k2 h7 c => ?_
  have g1 : ∀ i, i < 192 → ((fun i : Nat => (lookA ps (i : Int)).getD W0) i).ref = 0 := fun i hi => by
    obtain ⟨w, hw⟩ := Option.isSome_iff_exists.1 ((W.dom (i : Int)).2 ⟨by omega, by omega⟩)
    show ((lookA ps (i : Int)).getD W0).ref = 0
    rw [hw]; exact (W.val _ w hw).2.1
  have g2 : ∀ a, D33 a → lookA ps a = some ((fun i : Nat => (lookA ps (i : Int)).getD W0) a.toNat) := fun a ha => by
    obtain ⟨w, hw⟩ := Option.isSome_iff_exists.1 ((W.dom a).2 ha)
    show _ = some ((lookA ps ((a.toNat : Nat) : Int)).getD W0)
    rw [show ((a.toNat : Nat) : Int) = a from Int.toNat_of_nonneg ha.1, hw]; rfl
  have g3 : ∀ i, i < 192 → R64 ((fun i : Nat => (lookA ps (i : Int)).getD W0) i).v := fun i hi => by
    obtain ⟨w, hw⟩ := Option.isSome_iff_exists.1 ((W.dom (i : Int)).2 ⟨by omega, by omega⟩)
    show R64 ((lookA ps (i : Int)).getD W0).v
    rw [hw, Option.getD_some, (W.val _ w hw).1]; exact W.rg _
  generalize (fun i : Nat => (lookA ps (i : Int)).getD W0) = g at *
  have c : Cx (fun _ => False) h h7 [rVar ECs rc cc, rMp .i64 mW (.map x.k) ps, rVar ESt rx x, rSl EE ev ((prog33 (p33 n') (rt j) cc.d cc.v).run (newS ps)).2.entl, rMp .i64 mW (.map (some k2)) []] := c.pick [0, 1, 2, 4, 5]
  refine Lp1.by (fun (qs : List (Int × W3)) v h' => v = .int .i64 qs.length ∧ Sub g 192 qs ∧ (∀ p ∈ qs, p.1 ∈ ((prog33 (p33 n') (rt j) cc.d cc.v).run (newS ps)).2.rd) ∧ Cx (fun _ => False) h h' [rVar ECs rc cc, rMp .i64 mW (.map x.k) ps, rVar ESt rx x, rSl EE ev ((prog33 (p33 n') (rt j) cc.d cc.v).run (newS ps)).2.entl, rMp .i64 mW (.map (some k2)) qs]) (fun qs => 9 - qs.length) []
    ⟨rfl, Sub.nil _ _, (fun p hp => by cases hp), c⟩ ?_
  clear c
  rintro qs v h8' ⟨rfl, hsub, hin, c⟩ again hagain
  have hlen8 : ∀ zs : List (Int × W3), Sub g 192 zs → (∀ p ∈ zs, p.1 ∈ ((prog33 (p33 n') (rt j) cc.d cc.v).run (newS ps)).2.rd) → zs.length ≤ 8 := fun zs hz hz2 => by
    have := nodup_sub hz.nd fun a ha => by
      obtain ⟨p, hp, rfl⟩ := List.mem_map.1 ha
      exact hz2 p hp
    rw [List.length_map] at this
    omega
  have hl8 := hlen8 qs hsub hin
  rw [bin_lss, vb_some]
  refine brd (fun _ => ?_) fun hh => absurd (by omega) hh
  have hpv : ∀ p ∈ qs, R64 p.2.v := fun p hp => by have := hsub.mem p hp; rw [this.2.2]; exact g3 _ (by omega)
  refine c.cNew cs.toCsD 4 rfl hsub.nd hpv fun sp h9 c => ?_
  have hkp : ∀ a, (newS qs).kn a = if a ∈ qs.map (·.1) then some (g a.toNat) else none := fun a => hsub.kn g1
  have sim : Sim (newS qs) (newS ps) := by
    refine ⟨rfl, rfl, rfl, rfl, fun a w hw => ?_, fun a ha => by cases ha⟩
    rw [hkp] at hw
    split at hw
    · rename_i hm
      obtain ⟨p, hp, rfl⟩ := List.mem_map.1 hm
      have := hsub.mem p hp
      rw [W.kn, g2 _ ⟨this.1, this.2.1⟩]; exact hw
    · cases hw
  have key := sim_run (p := prog33 (p33 n') (rt j) cc.d cc.v) sim hten
  have u1 := prog_wild (cc := cc) (p := p33 n') (r := rt j) (newS_wf hpv) hc.v rfl
  refine .inl ⟨_, _, _, rfl, cs.uneed1 (K_need1 cs hc hj ej H.p hRt c (i := 5) rfl (a := 0) rfl (b := 2) rfl (wp_det u1) ?_)⟩
  rintro e τ1 h10 ⟨rfl, rfl⟩ c
  unfold uE
  refine ext0t (ext1t ?_)
  have kP : ((prog33 (p33 n') (rt j) cc.d cc.v).run (newS qs)).2.kn = (newS qs).kn := run_kn
  refine c.cNeed cs.toCsD 5 rfl ?_
  refine ext0t (ext1t ?_)
  rcases key with ⟨k1, HS⟩ | ⟨k1, k2', k3⟩
  · rw [HS.en, uno_nb, vb_some, Bool.not_false, br_true]
    refine c.cEntries cs.hh 5 rfl (by rw [HS.rd]; omega) (fun a w hw => by
      rw [kP, hkp] at hw
      split at hw
      · rename_i hm
        obtain ⟨p, hp, rfl⟩ := List.mem_map.1 hm
        have := hsub.mem p hp
        injection hw with hw
        rw [← hw]; exact g1 _ (by omega)
      · cases hw) fun ev2 h11 c => ?_
    rw [HS.ents, het] at c ⊢
    refine ext0t (ext1t ?_)
    refine .here ?_
    rw [k1, eqI, vb_some, br_true, eqI, vb_some, br_true, eqI, vb_some, br_true]
    refine cs.equalE (c.sl (i := 6) rfl).sl (c.sl (i := 3) rfl).sl (by
      show ((prog33 (p33 n') (rt j) cc.d cc.v).run (newS ps)).2.entl.length ≤ 100000
      unfold Spc.entl; rw [List.length_map, sorted_len]; omega) ?_
    rw [br_true]
    exact cs.awake (hRt.gr c.gr) fun h4 g => hR h4 (c.more g).gr
  · rw [k1, uno_nb, vb_some, Bool.not_true, br_false, if_pos rfl]
    generalize ((prog33 (p33 n') (rt j) cc.d cc.v).run (newS qs)).2.nd = z at *
    have hD := hrd z k2'
    have hna : z ∉ qs.map (·.1) := fun hm => by
      rw [hkp, if_pos hm] at k3; cases k3
    refine (c.va (i := 2) rfl).fld (j := 0) rfl ?_
    rw [(c.mp (i := 1) rfl).lookOk, vb_some, g2 z hD]
    refine ext0t (ext1t ?_)
    refine c.nw EW W0 rfl fun rw_ h11 c => ?_
    refine c.sto 6 rfl (g z.toNat) rfl rfl fun h12 c => ?_
    rw [show (some (g z.toNat)).isSome = true from rfl, uno_nb, vb_some, Bool.not_true, br_false]
    refine (c.va (i := 2) rfl).fld (j := 0) rfl ?_
    rw [(c.mp (i := 1) rfl).look, vb_some, g2 z hD]
    refine c.mup 4 rfl z (g z.toNat) rfl fun h13 c => ?_
    obtain ⟨eu, hsub'⟩ := hsub.add (n := 192) hD hna
    rw [eu] at c
    have hin' : ∀ p ∈ qs ++ [(z, g z.toNat)], p.1 ∈ ((prog33 (p33 n') (rt j) cc.d cc.v).run (newS ps)).2.rd := fun p hp => by
      rcases List.mem_append.1 hp with hp | hp
      · exact hin p hp
      · simp only [List.mem_singleton] at hp
        subst hp; exact k2'
    have hl' := hlen8 _ hsub' hin'
    rw [List.length_append, List.length_singleton] at hl'
    rw [bin_add, vb_some, wrS (by omega)]
    exact hagain (qs ++ [(z, g z.toNat)]) _ _ ⟨by rw [List.length_append]; rfl, hsub', hin', c.pick [0, 1, 2, 3, 4]⟩ (by rw [List.length_append, List.length_singleton]; omega)
end
end Go.En
