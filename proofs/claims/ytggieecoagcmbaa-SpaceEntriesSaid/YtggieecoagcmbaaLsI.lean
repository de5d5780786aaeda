/-
  Layer 30: the law Anew.
-/
import Derived.Test.YtggieecoagcmbaaLsH
namespace Go.En
open Prog Spc Go.Sort

variable {S : Sys} {I : Ids} {h h0 h' : Hp} {F F0 : Fp} {R : Value → Hp → Prop} {L : List Res} {s : Value} {σ τ : Spc}

structure CsR6 (S : Sys) (I : Ids) : Prop extends CsR5 S I where
  program : ∀ {xs : List Ac} {v s : Value} {σ : Spc} {F h R}, (∀ x ∈ xs, x.ok) → σ.pu.length + xs.length ≤ big → (∀ h', Ch F h h' → Sl EAc h' v xs) → (rSpace s σ).P h F →
    (∀ h', Cx F h h' [rSpace s (pg xs σ).2] → R (.int .i64 (pg xs σ).1) h') → S.C I.f_simulcastlaw30_program [s, v] h R
theorem Cx.cProgram {xs : List Ac} {v : Value} (cs : CsR6 S I) (c : Cx (fun _ => False) h0 h L) (i : Nat) (hi : L[i]? = some (rSpace s σ)) (hw : ∀ x ∈ xs, x.ok) (hl : σ.pu.length + xs.length ≤ big) (hs : Sl EAc h0 v xs)
    (k : ∀ h', Cx (fun _ => False) h0 h' (L.set i (rSpace s (pg xs σ).2)) → R (.int .i64 (pg xs σ).1) h') : S.C I.f_simulcastlaw30_program [s, v] h R := by
  obtain ⟨F1, c1, hF, _, up⟩ := c.frameE hi
  obtain ⟨F', a, m⟩ := c1.fin
  refine cs.program hw hl (fun h' ch => ?_) a fun h' c2 => k h' (by simpa using up (M := []) (c2.wk m.2))
  have g := c.gr
  refine hs.gr ⟨Nat.le_trans g.size ch.size, fun r hr _ => ?_⟩
  rw [ch.same r (Nat.lt_of_lt_of_le hr g.size) (fun e => by
    rcases m.grow r e with e | e
    · rcases hF r e with e | e
      · exact e
      · omega
    · have := g.size; omega), g.same r hr (fun e => e)]
theorem Cx.cNeed (cs : CsD S I) (c : Cx F0 h0 h L) (i : Nat) (hi : L[i]? = some (rSpace s σ)) (k : R (.tuple #[.int .i64 (if σ.en then σ.nd else 0), .bool σ.en]) h) : S.C I.f_space_Space_Need [s] h R := by
  obtain ⟨F, a⟩ := c.get hi
  exact cs.need a k

/-- some of the words of a table -/
structure Sub (g : Nat → W3) (n : Nat) (ps : List (Int × W3)) : Prop where
  nd : (ps.map (·.1)).Nodup
  mem : ∀ p ∈ ps, 0 ≤ p.1 ∧ p.1 < n ∧ p.2 = g p.1.toNat
theorem Sub.nil (g : Nat → W3) (n : Nat) : Sub g n [] := ⟨List.nodup_nil, fun p hp => by cases hp⟩
theorem Sub.look {g : Nat → W3} {n : Nat} {ps : List (Int × W3)} (H : Sub g n ps) {a : Int} : lookA ps a = if a ∈ ps.map (·.1) then some (g a.toNat) else none := by
  split
  · rename_i h
    obtain ⟨p, hp, rfl⟩ := List.mem_map.1 h
    rw [← lookA_mem H.nd, ← (H.mem p hp).2.2]; exact hp
  · rename_i h
    unfold lookA
    rw [Option.map_eq_none_iff, List.find?_eq_none]
    intro p hp
    simp only [beq_iff_eq]
    exact fun e => h (List.mem_map.2 ⟨p, hp, e⟩)
theorem Sub.add {g : Nat → W3} {n : Nat} {ps : List (Int × W3)} (H : Sub g n ps) {a : Int} (ha : 0 ≤ a ∧ a < n) (hn : a ∉ ps.map (·.1)) : updA ps a (g a.toNat) = ps ++ [(a, g a.toNat)] ∧ Sub g n (ps ++ [(a, g a.toNat)]) := by
  refine ⟨updA_end (by rw [H.look, if_neg hn]), ?_, fun p hp => ?_⟩
  · rw [List.map_append, List.nodup_append]
    exact ⟨H.nd, by simp, fun x hx y hy e => hn (by simp only [List.map_cons, List.map_nil, List.mem_singleton] at hy; rw [← hy, ← e]; exact hx)⟩
  · rcases List.mem_append.1 hp with hp | hp
    · exact H.mem p hp
    · simp only [List.mem_singleton] at hp
      subst hp; exact ⟨ha.1, ha.2, rfl⟩
theorem Sub.kn {g : Nat → W3} {n : Nat} {ps : List (Int × W3)} (H : Sub g n ps) (hg : ∀ i, i < n → (g i).ref = 0) {a : Int} : (newS ps).kn a = if a ∈ ps.map (·.1) then some (g a.toNat) else none := by
  show (lookA ps a).filter _ = _
  rw [H.look]
  split
  · rename_i h
    obtain ⟨p, hp, rfl⟩ := List.mem_map.1 h
    have := H.mem p hp
    simp [Option.filter, hg p.1.toNat (by omega)]
  · rfl

section
variable {xs : List Ac} {f : Nat → Int} {b1 : Value}
theorem L_SpaceAnew (cs : CsR6 S I) (hf : ∀ i, i < 16 → -128 ≤ f i ∧ f i ≤ 127) (s1 : Sl EAc h b1 xs) (w1 : ∀ x ∈ xs, x.ok) (hR : ∀ h', Gr h h' → R (.bool true) h') :
    F_simulcastlaw30_SpaceAnew S I (.agg ⟨(EAr .i8 16).c f⟩) b1 h R := by
  unfold F_simulcastlaw30_SpaceAnew
  have c := Cx.start0 h
  refine c.nw (EAr .i8 16) f rfl fun rv h1 c => ?_
  refine cs.awake fun h2 g2 => ?_
  have c := c.more g2
  clear g2
  refine vb (v := .bool false) rfl ?_
  rw [br_false, s1.ln, vb_some, bin_gtr, vb_some]
  refine brd (fun h3 => hR _ c.gr) fun hl => ?_
  refine c.mmk .i64 mW fun m1 h4 c => ?_
  refine c.mmk .i64 mW fun m2 h4 c => ?_
  let g : Nat → W3 := fun i => ⟨f i, 1, 0⟩
  refine Lp1.by (fun (i : Nat) v h' => v = .int .i64 i ∧ i ≤ 16 ∧ Cx (fun _ => False) h h' [rVar (EAr .i8 16) rv f, rMp .i64 mW (.map (some m1)) (knF g i), rMp .i64 mW (.map (some m2)) []]) (fun i => 16 - i) 0 ⟨rfl, by omega, by simpa [knF] using c⟩ ?_
  clear c
  rintro i v h5 ⟨rfl, hi, c⟩ again hagain
  rw [bin_lss, vb_some]
  refine brd (fun h6 => ?_) fun h6 => ?_
  · refine (c.va (i := 0) rfl).ix rfl (by omega) ?_
    have := hf i (by omega)
    rw [cvi_int, vb_some, wr64 (by omega), bldW, vb_some]
    refine c.mup 1 rfl i (g i) rfl fun h7 c => ?_
    rw [bin_add, vb_some, wrS (by omega)]
    rw [knF_upd] at c
    exact hagain (i + 1) _ _ ⟨rfl, by omega, c⟩ (by omega)
  have e16 : i = 16 := by omega
  subst e16
  clear hagain again hi h6
  have hgv : ∀ i, i < 16 → R64 (g i).v := fun i hi => by have := hf i hi; exact ⟨by show -9223372036854775808 ≤ f i; omega, by show f i ≤ 9223372036854775807; omega⟩
  refine c.cNew cs.toCsD 1 rfl (knF_nodup _ _) (knF_val hgv) fun sw h6 c => ?_
  have D : Dom 16 (newS (knF g 16)).kn := Dom.start (g := g) (n := 16) fun i _ => rfl
  have H0 : InN 16 (newS (knF g 16)).kn (newS (knF g 16)) := InN.start (g := g) (n := 16) hgv
  have hkr : ∀ a w, (newS (knF g 16)).kn a = some w → w.ref = 0 := newS_ref
  have hkn : ∀ a, (newS (knF g 16)).kn a = if 0 ≤ a ∧ a < 16 then some (g a.toNat) else none := fun a => newS_knF (g := g) (n := 16) fun i _ => rfl
  have hp0 : (newS (knF g 16)).pu = [] := rfl
  have hr0 : (newS (knF g 16)).rd = [] := rfl
  have he0 : (newS (knF g 16)).en = false := rfl
  generalize newS (knF g 16) = τ0 at *
  refine c.cProgram cs 3 rfl w1 (by rw [hp0]; unfold big; simp only [List.length_nil]; omega) s1 fun h7 c => ?_
  obtain ⟨T, _⟩ := InN.pgs D xs 0 τ0 H0 (by rw [hp0]; unfold big; simp only [List.length_nil]; omega)
  have hrl := T.rdlen (by omega)
  change InN 16 τ0.kn (pg xs τ0).2 at T
  change (pg xs τ0).2.rd.length ≤ _ at hrl
  -- the runs
  refine Lp1.by (fun (ps : List (Int × W3)) v h' => v = .int .i64 ps.length ∧ Sub g 16 ps ∧ (∀ a ∈ ps.map (·.1), a ∈ (pg xs τ0).2.rd) ∧
      Cx (fun _ => False) h h' [rMp .i64 mW (.map (some m1)) (knF g 16), rMp .i64 mW (.map (some m2)) ps, rSpace sw (pg xs τ0).2]) (fun ps => 17 - ps.length) []
    ⟨rfl, Sub.nil _ _, (fun a ha => by cases ha), c.sub (.cons _ (.cons_cons _ (.cons_cons _ (.cons_cons _ .slnil))))⟩ ?_
  clear c
  rintro ps v h8 ⟨rfl, hsub, hps, c⟩ again hagain
  have hpl : ps.length ≤ (pg xs τ0).2.rd.length := by simpa using nodup_sub hsub.nd hps
  refine c.cReads cs.toCsH 2 rfl (by omega) fun w h9 c => ?_
  rw [Sl.ln (c.sl (i := 3) rfl).sl, vb_some, sorted_len, bin_leq, vb_some]
  have c := c.drop (L := [_, _, _]) (L' := [_])
  refine brd (fun _ => ?_) fun h10 => absurd hpl (by omega)
  have hpv : ∀ p ∈ ps, R64 p.2.v := fun p hp => by have := hsub.mem p hp; rw [this.2.2]; exact hgv _ (by omega)
  refine c.cNew cs.toCsD 1 rfl hsub.nd hpv fun s h10 c => ?_
  have hkp : ∀ a, (newS ps).kn a = if a ∈ ps.map (·.1) then some (g a.toNat) else none := fun a => hsub.kn fun i _ => rfl
  have hpr : ∀ a w, (newS ps).kn a = some w → w.ref = 0 := newS_ref
  have hp1 : (newS ps).pu = [] := rfl
  have sim : Sim (newS ps) τ0 := by
    refine ⟨rfl, he0, hr0.symm, hp0.symm, fun a w hw => ?_, fun a ha => by cases ha⟩
    rw [hkp] at hw
    split at hw
    · rename_i hm
      obtain ⟨p, hp, rfl⟩ := List.mem_map.1 hm
      have := hsub.mem p hp
      rw [hkn, if_pos ⟨this.1, this.2.1⟩]; exact hw
    · cases hw
  have hnd := hsub.nd
  generalize newS ps = σ0 at *
  have key := sim_all D xs 0 σ0 τ0 H0 (by rw [hp0]; unfold big; simp only [List.length_nil]; omega) sim
  change ((pg xs σ0).1 = (pg xs τ0).1 ∧ Sim (pg xs σ0).2 (pg xs τ0).2) ∨ ((pg xs σ0).2.en = true ∧ (pg xs σ0).2.nd ∈ (pg xs τ0).2.rd ∧ σ0.kn (pg xs σ0).2.nd = none) at key
  refine c.cProgram cs 3 rfl w1 (by rw [hp1]; unfold big; simp only [List.length_nil]; omega) s1 fun h11 c => ?_
  have hkσ := pg_kn (σ := σ0) xs
  refine c.cNeed cs.toCsD 3 rfl ?_
  refine ext0t (ext1t ?_)
  rw [show uno .not (.bool (pg xs σ0).2.en) = some (.bool (!(pg xs σ0).2.en)) from rfl, vb_some]
  rcases key with ⟨e1, H⟩ | ⟨e1, e2, e3⟩
  · rw [H.en, Bool.not_false, br_true]
    have ee : (pg xs σ0).2.ents = (pg xs τ0).2.ents := ents_same (H.en.trans H.en'.symm) (by rw [H.rd]; exact T.nd) T.nd (fun a => by rw [H.rd]) fun a ha => H.ent (H.has a ha)
    refine c.cEntries cs.toCsH 3 rfl (by rw [H.rd]; omega) (by rw [hkσ]; exact hpr) fun x h15 c => ?_
    refine ext0t (ext1t ?_)
    refine c.cEntries cs.toCsH 2 rfl (by omega) (by rw [T.kn]; exact hkr) fun y h16 c => ?_
    refine ext0t (ext1t ?_)
    refine .here ?_
    rw [ee] at c ⊢
    rw [e1, bin_eql, vb_some]
    refine brd (fun _ => ?_) fun h17 => absurd rfl h17
    rw [bin_eql, vb_some]
    refine brd (fun _ => ?_) fun h17 => absurd rfl h17
    refine cs.alike (xs := (pg xs τ0).2.ents.1) (by have := ents_len (pg xs τ0).2; omega) (c.sl (i := 4) rfl).sl (c.sl (i := 5) rfl).sl ?_
    exact hR _ c.gr
  · rw [e1, Bool.not_true, br_false, if_pos rfl]
    have hin := T.rd _ e2
    generalize (pg xs σ0).2.nd = a at *
    rw [hkp] at e3
    have hna : a ∉ ps.map (·.1) := by
      intro hm
      rw [if_pos hm] at e3; cases e3
    rw [(c.mp (i := 1) rfl).lookOk, vb_some, hsub.look, if_neg hna]
    refine ext0t (ext1t ?_)
    refine c.nw EW W0 rfl fun rw_ h12 c => ?_
    refine c.sto 4 rfl W0 rfl rfl fun h13 c => ?_
    rw [Option.isSome_none, br_false]
    rw [(c.mp (i := 0) rfl).look, vb_some, knF_look, if_pos (show 0 ≤ a ∧ a < ((16 : Nat) : Int) from hin)]
    obtain ⟨eu, hsub'⟩ := hsub.add (n := 16) hin hna
    refine c.mup 1 rfl a (g a.toNat) rfl fun h14 c => ?_
    rw [bin_add, vb_some, wrS (by omega)]
    rw [eu] at c
    refine hagain (ps ++ [(a, g a.toNat)]) _ _ ⟨by rw [List.length_append]; rfl, hsub', fun b hb => ?_, c.drop (L := [_, _, _]) (L' := [_, _])⟩ (by rw [List.length_append, List.length_singleton]; omega)
    rw [List.map_append] at hb
    rcases List.mem_append.1 hb with hb | hb
    · exact hps b hb
    · simp only [List.map_cons, List.map_nil, List.mem_singleton] at hb
      subst hb; exact e2
end
end Go.En
