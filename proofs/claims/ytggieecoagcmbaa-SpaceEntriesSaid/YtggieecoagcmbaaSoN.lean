/-
  Reads, Writes, Entries of a space.
-/
import Derived.Test.YtggieecoagcmbaaSoI
namespace Go.En
open Prog Spc Go.Sort

variable {S : Sys} {I : Ids} {h h0 h' : Hp} {F F0 : Fp} {R : Value → Hp → Prop} {L : List Res} {s : Value} {σ : Spc}

theorem sorted_len (xs : List Int) : (sorted xs).length = xs.length := List.length_mergeSort xs
theorem sorted_perm (xs : List Int) : (sorted xs).Perm xs := List.mergeSort_perm xs _
theorem sorted_le (xs : List Int) : (sorted xs).Pairwise (· ≤ ·) := by
  have := List.pairwise_mergeSort (le := fun x y : Int => decide (x ≤ y)) (fun a b c h1 h2 => by simp only [decide_eq_true_eq] at *; omega) (fun a b => by simp only [Bool.or_eq_true, decide_eq_true_eq]; omega) xs
  exact this.imp fun h => by simpa using h
theorem le_perm_eq : ∀ {l l' : List Int}, l.Pairwise (· ≤ ·) → l'.Pairwise (· ≤ ·) → l.Perm l' → l = l'
  | [], l', _, _, p => by rw [List.nil_perm.1 p]
  | a :: l, [], _, _, p => by have := p.length_eq; simp at this
  | a :: l, b :: l', h1, h2, p => by
    have hab : a = b := by
      have ha : a ∈ b :: l' := p.mem_iff.1 (by simp)
      have hb : b ∈ a :: l := p.mem_iff.2 (by simp)
      rcases List.mem_cons.1 ha with e | ha
      · exact e
      · rcases List.mem_cons.1 hb with e | hb
        · exact e.symm
        · have e1 := (List.pairwise_cons.1 h1).1 b hb
          have e2 := (List.pairwise_cons.1 h2).1 a ha
          omega
    subst hab
    rw [le_perm_eq (List.pairwise_cons.1 h1).2 (List.pairwise_cons.1 h2).2 (List.Perm.cons_inv p)]
theorem sorted_congr {l l' : List Int} (p : l.Perm l') : sorted l = sorted l' :=
  le_perm_eq (sorted_le l) (sorted_le l') ((sorted_perm l).trans (p.trans (sorted_perm l').symm))
theorem perm_range {D : List Nat} {n : Nat} (h1 : D.Nodup) (h2 : ∀ j ∈ D, j < n) (h3 : ∀ j, j < n → j ∈ D) : D.Perm (List.range n) :=
  (List.perm_ext_iff_of_nodup h1 List.nodup_range).2 fun j => ⟨fun hj => List.mem_range.2 (h2 j hj), fun hj => h3 j (List.mem_range.1 hj)⟩
theorem map_range_get (l : List Int) : (List.range l.length).map (fun j => l.getD j 0) = l := by
  refine List.ext_getElem (by simp) fun i h1 h2 => ?_
  simp only [List.getElem_map, List.getElem_range]
  rw [List.getD_eq_getElem?_getD, List.getElem?_eq_getElem h2]; rfl

structure CsG (S : Sys) (I : Ids) : Prop extends CsC S I where
  sort : ∀ {v : Value} {xs : List Int} {F h0 h R}, xs.length ≤ 1000000 → Cx F h0 h [rSl EI1 v xs] → (∀ h', Cx F h0 h' [rSl EI1 v (sorted xs)] → R (.tuple #[]) h') → S.C I.f_slices_Sort_api_Loc_api_Loc [v] h R
  compact : ∀ {v : Value} {xs : List Int} {F h0 h R}, xs.length ≤ 1000000 → Cx F h0 h [rSl EI1 v xs] → (∀ u h', Cx F h0 h' [rSl EI1 u (cpt xs)] → R u h') → S.C I.f_slices_Compact_api_Loc_api_Loc [v] h R
theorem K_Reads (cs : CsG S I) (hl : σ.rd.length ≤ 1000000) (a : (rSpace s σ).P h F) (hR : ∀ v h', Cx F h h' [rSl EI1 v (sorted σ.rd), rSpace s σ] → R v h') : F_space_Space_Reads S I s h R := by
  obtain ⟨p, u, ps, rfl, h1, h2, h3, h4, c⟩ := space_open a
  unfold F_space_Space_Reads
  rw [eqP_nil]
  refine vb (v := .bool false) rfl ?_
  rw [br_false]
  refine space_fld c (i := 0) rfl (j := 1) rfl ?_
  refine c.range 2 rfl fun r m h5 hm c => ?_
  have hm' : u.rm = m := by simpa using hm
  clear hm
  subst hm'
  have c := c.nil EI1
  refine Lp1.by (fun (D : List Nat) o h' => ∃ xs, Cx F h h' [rVar ESp p u, rMp .i64 mW (.map (some u.km)) ps, rIt .i64 mB r u.rm (σ.rd.map fun a => (a, true)) D, rSl EPt u.pv σ.pu, rSl EI1 o xs] ∧ D.Nodup ∧ (∀ j ∈ D, j < σ.rd.length) ∧ xs = D.map (fun j => σ.rd.getD j 0))
    (fun D => σ.rd.length - D.length) [] ⟨[], c, List.nodup_nil, (fun j hj => by cases hj), rfl⟩ ?_
  rintro D o h6 ⟨xs, c, hnd, hlt, hxs⟩ again hagain
  have hDl : D.length ≤ σ.rd.length := by
    obtain ⟨_, hit, _⟩ := c.get (i := 2) rfl
    simpa using hit.len
  have hxl : xs.length = D.length := by rw [hxs, List.length_map]
  refine c.next 2 rfl (fun hall c => ?_) fun j pr h7 hpj hjD c he => ?_
  · rw [show ext 0 (.tuple #[.bool false]) = some (.bool false) from rfl, vb_some, br_false]
    obtain ⟨F1, c1, up⟩ := c.frame (i := 4) rfl
    refine cs.sort (by omega) c1 fun h8 c2 => ?_
    have c := up (M := []) c2
    have hall' : ∀ j, j < σ.rd.length → j ∈ D := fun j hj => hall j (by simpa using hj)
    have e : sorted xs = sorted σ.rd := by
      refine sorted_congr ?_
      rw [hxs]
      have := (perm_range hnd hlt hall').map (fun j => σ.rd.getD j 0)
      rwa [map_range_get] at this
    rw [e] at c
    have c := (c.front 4 rfl)
    have c := ((c.pack (L := [_])).conv (i := 1) rfl (B := rSpace (at0 p) σ) fun F' hF' => ⟨⟨p, u, ps⟩, ⟨rfl, h1, h2, h3, h4⟩, hF'⟩)
    exact hR _ _ c
  · rw [show ext 0 (.tuple #[.bool true, .int .i64 pr.1, mB pr.2]) = some (.bool true) from rfl, vb_some, br_true, he, vb_some]
    rw [show ext 0 (.tuple #[.int .i64 pr.1, mB pr.2]) = some (.int .i64 pr.1) from rfl, vb_some]
    have hjl : j < σ.rd.length := by simpa using (List.getElem?_eq_some_iff.mp hpj).1
    have hpe : pr.1 = σ.rd.getD j 0 := by
      rw [List.getElem?_map, List.getElem?_eq_getElem hjl] at hpj
      simp only [Option.map_some, Option.some.injEq] at hpj
      rw [← hpj, List.getD_eq_getElem?_getD, List.getElem?_eq_getElem hjl]; rfl
    refine c.app1 4 rfl pr.1 rfl rfl rfl (by omega) (by omega) fun v' h8 c => ?_
    have hnd' : (D ++ [j]).Nodup := by
      rw [List.nodup_append]
      exact ⟨hnd, by simp, fun a ha b hb e => hjD (by simp only [List.mem_singleton] at hb; rw [← hb, ← e]; exact ha)⟩
    have hlt' : ∀ x ∈ D ++ [j], x < σ.rd.length := fun x hx => by
      rcases List.mem_append.1 hx with hx | hx
      · exact hlt x hx
      · simp only [List.mem_singleton] at hx; omega
    have hDl' : (D ++ [j]).length ≤ σ.rd.length := by
      obtain ⟨_, hit, _⟩ := c.get (i := 2) rfl
      simpa using hit.len
    refine hagain (D ++ [j]) _ _ ⟨xs ++ [pr.1], c, hnd', hlt', by rw [hxs, List.map_append, hpe]; rfl⟩ ?_
    rw [List.length_append, List.length_singleton] at *
    omega

theorem K_Writes (cs : CsG S I) (hl : σ.pu.length ≤ 1000000) (a : (rSpace s σ).P h F) (hR : ∀ v h', Cx F h h' [rSl EI1 v (cpt (sorted (σ.pu.map (·.1)))), rSpace s σ] → R v h') : F_space_Space_Writes S I s h R := by
  obtain ⟨p, u, ps, rfl, h1, h2, h3, h4, c⟩ := space_open a
  unfold F_space_Space_Writes
  rw [eqP_nil]
  refine vb (v := .bool false) rfl ?_
  rw [br_false]
  refine space_fld c (i := 0) rfl (j := 2) rfl ?_
  rw [Sl.ln (c.sl (i := 3) rfl).sl, vb_some]
  have c := c.nil EI1
  refine Lp2.by (fun (i : Nat) o k h' => k = .int .i64 i ∧ i ≤ σ.pu.length ∧ Cx F h h' (spParts p u ps σ ++ [rSl EI1 o ((σ.pu.take i).map (·.1))])) (fun i => σ.pu.length - i) 0 ⟨rfl, Nat.zero_le _, c⟩ ?_
  clear c
  rintro i o k h5 ⟨rfl, hi, c⟩ again hagain
  rw [bin_lss, vb_some]
  refine brd (fun h6 => ?_) fun h6 => ?_
  · have hx : σ.pu[i]? = some σ.pu[i] := List.getElem?_eq_getElem (by omega)
    refine (c.sl (i := 3) rfl).sl.whole rfl hx rfl ?_
    refine c.nw EPt (0, 0) rfl fun rp h7 c => ?_
    refine c.sto 5 rfl σ.pu[i] rfl rfl fun h8 c => ?_
    refine (c.va (i := 5) rfl).fld (j := 0) rfl ?_
    refine c.app1 4 rfl σ.pu[i].1 rfl rfl rfl (by rw [List.length_map, List.length_take]; omega) (by rw [List.length_map, List.length_take]; omega) fun v' h9 c => ?_
    rw [bin_add, vb_some, wrS (by omega)]
    refine hagain (i + 1) _ _ _ ⟨rfl, by omega, ?_⟩ (by omega)
    rw [List.take_add_one, hx, List.map_append]
    exact c.drop (L := spParts p u ps σ ++ [rSl EI1 v' ((σ.pu.take i).map (·.1) ++ [σ.pu[i].1])]) (L' := [rVar EPt rp σ.pu[i]])
  · have : i = σ.pu.length := by omega
    subst this
    rw [List.take_length] at c
    obtain ⟨F1, c1, up⟩ := c.frame (i := 4) rfl
    refine cs.sort (by simpa using hl) c1 fun h8 c2 => ?_
    refine cs.compact (by rw [sorted_len]; simpa using hl) c2 fun v h9 c3 => ?_
    have c := up (M := []) c3
    have c := (c.front 4 rfl)
    exact hR _ _ ((c.pack (L := [_])).conv (i := 1) rfl (B := rSpace (at0 p) σ) fun F' hF' => ⟨⟨p, u, ps⟩, ⟨rfl, h1, h2, h3, h4⟩, hF'⟩)

/-- the entries of a space -/
def Spc.ent (σ : Spc) (a : Int) : E6 := ⟨a, (σ.kn a).getD W0, σ.vw a, (lastP σ.pu a).isSome⟩
def Spc.entl (σ : Spc) : List E6 := (sorted σ.rd).map σ.ent
def Spc.ents (σ : Spc) : List E6 × Int := if σ.en then ([], 13) else if σ.entl.length = 0 then ([], 0) else if chk σ.entl ≠ 0 then ([], chk σ.entl) else (σ.entl, 0)
structure CsG1 (S : Sys) (I : Ids) : Prop extends CsC S I where
  reads2 : ∀ {s : Value} {σ : Spc} {F h R}, σ.rd.length ≤ 1000000 → (rSpace s σ).P h F → (∀ v h', Cx F h h' [rSl EI1 v (sorted σ.rd), rSpace s σ] → R v h') → S.C I.f_space_Space_Reads [s] h R
  check : ∀ {v : Value} {xs : List E6} {h R}, xs.length ≤ 1000000 → (∀ x ∈ xs, x.old.ref = 0) → Sl EE h v xs → (∀ h', Gr h h' → R (.int .i64 (chk xs)) h') → S.C I.f_entry_Check [v] h R
theorem bldE (a : Int) (w : W3) (n : Int) (b : Bool) : bldS [(0, 1), (1, 3), (4, 1), (5, 1)] #[Value.int IntKind.i64 0, Value.int IntKind.i64 0, Value.int IntKind.u32 0, Value.int IntKind.u32 0, Value.int IntKind.i64 0, Value.bool false]
    [(0, .int .i64 a), (1, mW w), (2, .int .i64 n), (3, .bool b)] = some (mE ⟨a, w, n, b⟩) := by kernel_rfl
theorem K_Entries (cs : CsG1 S I) (hl : σ.rd.length ≤ 1000000) (hk : ∀ a w, σ.kn a = some w → w.ref = 0) (a : (rSpace s σ).P h F) (hR : ∀ v h', Cx F h h' [rSl EE v σ.ents.1, rSpace s σ] → R (.tuple #[v, .int .i64 σ.ents.2]) h') : F_space_Space_Entries S I s h R := by
  unfold F_space_Space_Entries
  refine cs.ended a ?_
  have c0 : Cx F h h [rSl EE (.slice none 0 0) [], rSpace s σ] := ((Cx.start a).nil EE).front 1 rfl
  cases hen : σ.en with
  | true =>
    rw [br_true]
    have e : σ.ents = ([], 13) := by unfold Spc.ents; rw [if_pos hen]
    rw [e] at hR
    exact hR _ _ c0
  | false =>
  rw [br_false]
  clear c0
  refine cs.reads2 hl a fun v h1 c => ?_
  rw [Sl.ln (c.sl (i := 0) rfl).sl, vb_some]
  have c := c.nil EE
  refine Lp2.by (fun (i : Nat) o k h' => k = .int .i64 i ∧ i ≤ (sorted σ.rd).length ∧ Cx F h h' [rSl EI1 v (sorted σ.rd), rSpace s σ, rSl EE o (((sorted σ.rd).take i).map σ.ent)]) (fun i => (sorted σ.rd).length - i) 0 ⟨rfl, Nat.zero_le _, c⟩ ?_
  clear c
  have hsl := sorted_len σ.rd
  rintro i o k h5 ⟨rfl, hi, c⟩ again hagain
  rw [bin_lss, vb_some]
  refine brd (fun h6 => ?_) fun h6 => ?_
  · have hx : (sorted σ.rd)[i]? = some (sorted σ.rd)[i] := List.getElem?_eq_getElem (by omega)
    generalize (sorted σ.rd)[i] = x at hx
    refine (c.sl (i := 0) rfl).sl.one rfl hx rfl rfl ?_
    obtain ⟨F1, a1⟩ := c.get (i := 1) rfl
    refine cs.value a1 ?_
    refine ext0t (ext1t ?_)
    obtain ⟨p, u, ps, rfl, g1, g2, g3, g4, c1⟩ := space_open a1
    refine space_fld c1 (i := 0) rfl (j := 0) rfl ?_
    rw [(c1.mp (i := 1) rfl).look, vb_some]
    have e1 : ((lookA ps x).map mW).getD (.agg #[.int .i64 0, .int .u32 0, .int .u32 0]) = mW ((σ.kn x).getD W0) := by
      rw [g3]; cases σ.kn x <;> rfl
    rw [e1]
    rw [bldE, vb_some]
    refine c.app1 2 rfl (σ.ent x) rfl rfl rfl (by rw [List.length_map, List.length_take]; omega) (by rw [List.length_map, List.length_take]; omega) fun v' h9 c => ?_
    rw [bin_add, vb_some, wrS (by omega)]
    refine hagain (i + 1) _ _ _ ⟨rfl, by omega, ?_⟩ (by omega)
    rw [List.take_add_one, hx, List.map_append]
    exact c
  · have : i = (sorted σ.rd).length := by omega
    subst this
    rw [List.take_length] at c
    have c : Cx F h h5 [rSl EI1 v (sorted σ.rd), rSpace s σ, rSl EE o σ.entl] := c
    have hel : σ.entl.length = σ.rd.length := by unfold Spc.entl; rw [List.length_map, hsl]
    rw [Sl.ln (c.sl (i := 2) rfl).sl, vb_some, bin_eql, vb_some]
    have hen' : ¬ σ.en = true := by rw [hen]; exact Bool.false_ne_true
    unfold Spc.ents at hR
    rw [if_neg hen'] at hR
    have cz : ∀ h', Cx F h h' [rSl EI1 v (sorted σ.rd), rSpace s σ, rSl EE o σ.entl] → Cx F h h' [rSl EE (.slice none 0 0) [], rSpace s σ] := fun h' c =>
      ((c.nil EE).front 3 rfl).sub (.cons_cons _ (.cons _ (.cons_cons _ (.cons _ .slnil))))
    refine brd (fun h7 => ?_) fun h7 => ?_
    · rw [if_pos (by omega)] at hR
      exact hR _ _ (cz _ c)
    · rw [if_neg (by omega)] at hR
      refine cs.check (xs := σ.entl) (by omega) (fun x hx => ?_) (c.sl (i := 2) rfl).sl fun h8 g8 => ?_
      · unfold Spc.entl at hx
        obtain ⟨y, _, rfl⟩ := List.mem_map.1 hx
        show ((σ.kn y).getD W0).ref = 0
        cases e : σ.kn y with
        | none => rfl
        | some w => exact hk y w e
      have c := c.more g8
      rw [bin_neq, vb_some]
      refine brd (fun h9 => ?_) fun h9 => ?_
      · rw [if_pos h9] at hR
        exact hR _ _ (cz _ c)
      · rw [if_neg h9] at hR
        exact hR _ _ ((c.front 2 rfl).sub (.cons_cons _ (.cons _ (.cons_cons _ .slnil))))

/-- what a space tells -/
structure CsH (S : Sys) (I : Ids) : Prop extends CsD S I where
  reads2 : ∀ {s : Value} {σ : Spc} {F h R}, σ.rd.length ≤ 1000000 → (rSpace s σ).P h F → (∀ v h', Cx F h h' [rSl EI1 v (sorted σ.rd), rSpace s σ] → R v h') → S.C I.f_space_Space_Reads [s] h R
  writes : ∀ {s : Value} {σ : Spc} {F h R}, σ.pu.length ≤ 1000000 → (rSpace s σ).P h F → (∀ v h', Cx F h h' [rSl EI1 v (cpt (sorted (σ.pu.map (·.1)))), rSpace s σ] → R v h') → S.C I.f_space_Space_Writes [s] h R
  entries : ∀ {s : Value} {σ : Spc} {F h R}, σ.rd.length ≤ 1000000 → (∀ a w, σ.kn a = some w → w.ref = 0) → (rSpace s σ).P h F → (∀ v h', Cx F h h' [rSl EE v σ.ents.1, rSpace s σ] → R (.tuple #[v, .int .i64 σ.ents.2]) h') → S.C I.f_space_Space_Entries [s] h R
theorem Cx.wk {F' F1 : Fp} (c : Cx F' h0 h L) (hF : ∀ r, F' r → F1 r ∨ h0.size ≤ r) : Cx F1 h0 h L := by
  obtain ⟨Fs, o, g, k⟩ := c
  exact ⟨Fs, o, ⟨g.size, fun r hr hn => g.same r hr fun e => (hF r e).elim hn (fun x => by omega)⟩, fun G hG r hr => (k G hG r hr).elim (hF r) .inr⟩
theorem Cx.cEntries (cs : CsH S I) (c : Cx F0 h0 h L) (i : Nat) (hi : L[i]? = some (rSpace s σ)) (hl : σ.rd.length ≤ 1000000) (hk : ∀ a w, σ.kn a = some w → w.ref = 0)
    (k : ∀ v h', Cx F0 h0 h' (L.set i (rSpace s σ) ++ [rSl EE v σ.ents.1]) → R (.tuple #[v, .int .i64 σ.ents.2]) h') : S.C I.f_space_Space_Entries [s] h R := by
  obtain ⟨F1, c1, up⟩ := c.frame hi
  obtain ⟨F', a, m⟩ := c1.fin
  exact cs.entries hl hk a fun v h' c2 => k v h' (up ((c2.wk m.2).front 1 rfl))
theorem Cx.cReads (cs : CsH S I) (c : Cx F0 h0 h L) (i : Nat) (hi : L[i]? = some (rSpace s σ)) (hl : σ.rd.length ≤ 1000000)
    (k : ∀ v h', Cx F0 h0 h' (L.set i (rSpace s σ) ++ [rSl EI1 v (sorted σ.rd)]) → R v h') : S.C I.f_space_Space_Reads [s] h R := by
  obtain ⟨F1, c1, up⟩ := c.frame hi
  obtain ⟨F', a, m⟩ := c1.fin
  exact cs.reads2 hl a fun v h' c2 => k v h' (up ((c2.wk m.2).front 1 rfl))
theorem Cx.cWrites (cs : CsH S I) (c : Cx F0 h0 h L) (i : Nat) (hi : L[i]? = some (rSpace s σ)) (hl : σ.pu.length ≤ 1000000)
    (k : ∀ v h', Cx F0 h0 h' (L.set i (rSpace s σ) ++ [rSl EI1 v (cpt (sorted (σ.pu.map (·.1))))]) → R v h') : S.C I.f_space_Space_Writes [s] h R := by
  obtain ⟨F1, c1, up⟩ := c.frame hi
  obtain ⟨F', a, m⟩ := c1.fin
  exact cs.writes hl a fun v h' c2 => k v h' (up ((c2.wk m.2).front 1 rfl))
/-- the words of a new space are plain -/
theorem newS_ref {ps : List (Int × W3)} : ∀ a w, (newS ps).kn a = some w → w.ref = 0 := fun a w hw => by
  simp only [newS, Option.filter_eq_some_iff, beq_iff_eq] at hw; exact hw.2

end Go.En
