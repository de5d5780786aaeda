/-
  Layer 30: the law Entries.
-/
import Derived.Test.YtggieecoagcmbaaLsI
import Derived.Test.YtggieecoagcmbaaMdA
namespace Go.En
open Prog Spc Go.Sort

variable {S : Sys} {I : Ids} {h h0 h' : Hp} {F F0 : Fp} {R : Value → Hp → Prop} {L : List Res} {s : Value} {σ τ : Spc}

theorem EAr_set {ik : IntKind} {n i : Nat} {f : Nat → Int} {z : Int} : (EAr ik n).c (fun j => if j = i then z else f j) = ((EAr ik n).c f).set i (.int ik z) := by
  refine List.ext_getElem? fun j => ?_
  rw [List.getElem?_set]
  show ((List.range n).map _)[j]? = if i = j then (if i < ((List.range n).map _).length then _ else _) else ((List.range n).map _)[j]?
  by_cases hj : j < n
  · by_cases e : i = j
    · subst e; simp [hj]
    · have e' : ¬ j = i := fun x => e x.symm
      simp [hj, e, e']
  · by_cases e : i = j
    · subst e; simp [hj]
    · simp [hj, e]
theorem Cx.stoi {ik : IntKind} {n r : Nat} {f : Nat → Int} (c : Cx F0 h0 h L) (i : Nat) (hi : L[i]? = some (rVar (EAr ik n) r f)) {q : IntKind} {z x : Int} {j : Nat} (hz : z = j) (hj : j < n) {K : Hp → Prop}
    (hK : ∀ h', Cx F0 h0 h' (L.set i (rVar (EAr ik n) r (fun k => if k = j then x else f k))) → K h') : Vb (ixa n 1 (at0 r) (.int q z)) fun p => Sb (En.sto 1 p (.int ik x) h) K := by
  have := c.stof i hi (j := j) (w := .int ik x) (fun k => if k = j then x else f k) rfl hj EAr_set hK
  rw [show fa j (at0 r) = some (.pointer (some ⟨r, 0 + j, none⟩)) from fa_add _ _ _] at this
  rw [show at0 r = .pointer (some ⟨r, 0, none⟩) from rfl, ixa_at hz hj]
  exact this

/-! ### What entries come to -/
theorem chkL_ok : ∀ (es : List E6) (seen : List Int), (∀ e ∈ es, wrongE e = 0) → (seen ++ es.map (·.at')).Nodup → chkL seen es = 0
  | [], _, _, _ => rfl
  | e :: es, seen, h1, h2 => by
    rw [chkL, if_neg (by rw [h1 e (List.mem_cons_self ..)]; simp)]
    rw [List.map_cons] at h2
    rw [if_neg (fun hm => ?_), chkL_ok es (seen ++ [e.at']) (fun x hx => h1 x (List.mem_cons_of_mem _ hx)) (by rw [List.append_assoc]; exact h2)]
    rw [List.nodup_append] at h2
    exact h2.2.2 _ hm _ (List.mem_cons_self ..) rfl
theorem entl_at (l : List Int) (σ : Spc) : (l.map σ.ent).map (·.at') = l := by
  rw [List.map_map]
  exact List.map_id' l
theorem nd_sorted {l : List Int} (h : l.Nodup) : (sorted l).Nodup := (sorted_perm l).nodup_iff.2 h
theorem InN.wrong {n : Int} {k : Int → Option W3} (D : Dom n k) (hn : n ≤ 4096) (hv : ∀ a w, k a = some w → w.ver < 4294967295) (H : InN n k σ) {a : Int} (ha : a ∈ σ.rd) : wrongE (σ.ent a) = 0 := by
  obtain ⟨a0, a1⟩ := H.rd a ha
  obtain ⟨w, hw⟩ := Option.isSome_iff_exists.1 (D a a0 a1)
  have hk : σ.kn a = some w := by rw [H.kn]; exact hw
  unfold wrongE
  rw [if_neg (by show ¬ (a < 0 ∨ 4096 ≤ a); omega)]
  have h2 := hv a w hw
  rw [if_neg (fun e => by
    have : ((σ.kn a).getD W0).ver = 4294967295 := e.2
    rw [hk] at this
    have : w.ver = 4294967295 := this
    omega)]
  rw [if_neg (fun e => ?_)]
  have e1 : (lastP σ.pu a).isSome = false := e.1
  have e2 : σ.vw a ≠ ((σ.kn a).getD W0).v := e.2
  apply e2
  unfold Spc.vw
  cases hl : lastP σ.pu a with
  | some v => rw [hl] at e1; cases e1
  | none => rw [hk]; rfl
theorem InN.chk {n : Int} {k : Int → Option W3} (D : Dom n k) (hn : n ≤ 4096) (hv : ∀ a w, k a = some w → w.ver < 4294967295) (H : InN n k σ) (h0 : σ.rd ≠ []) (hl : σ.rd.length ≤ 32) : chk σ.entl = 0 := by
  have e : σ.entl.length = σ.rd.length := by unfold Spc.entl; rw [List.length_map, sorted_len]
  have : σ.rd.length ≠ 0 := fun e => h0 (List.eq_nil_of_length_eq_zero e)
  unfold En.chk
  rw [if_neg (by omega), if_neg (by omega)]
  refine chkL_ok _ _ (fun x hx => ?_) ?_
  · obtain ⟨a, ha, rfl⟩ := List.mem_map.1 hx
    exact H.wrong D hn hv ((sorted_perm σ.rd).mem_iff.1 ha)
  · rw [List.nil_append]
    show ((List.map σ.ent (sorted σ.rd)).map (·.at')).Nodup
    rw [entl_at]
    exact nd_sorted H.nd
/-- the entries of a space that has not ended -/
theorem InN.entsE {n : Int} {k : Int → Option W3} (D : Dom n k) (hn : n ≤ 4096) (hv : ∀ a w, k a = some w → w.ver < 4294967295) (H : InN n k σ) (hl : σ.rd.length ≤ 32) : σ.ents = (σ.entl, 0) := by
  have e : σ.entl.length = σ.rd.length := by unfold Spc.entl; rw [List.length_map, sorted_len]
  unfold Spc.ents
  rw [if_neg (by rw [H.en]; simp)]
  by_cases h0 : σ.rd = []
  · have : σ.entl = [] := List.eq_nil_of_length_eq_zero (by rw [e, h0]; rfl)
    rw [this]; rfl
  · have : σ.rd.length ≠ 0 := fun e => h0 (List.eq_nil_of_length_eq_zero e)
    rw [if_neg (by omega), if_neg (by rw [H.chk D hn hv h0 hl]; simp)]

/-- the words behind a swap, one by one -/
theorem swps_at {i : Nat} : ∀ {es : List E6} {ws : List W3}, (∀ e ∈ es, 0 ≤ e.at') → (es.map (·.at')).Nodup → i < ws.length →
    (swps ws es)[i]? = match es.find? (fun e => e.at' == (i : Int) && e.wr) with | some e => some ⟨e.new, IntKind.u32.wrap (e.old.ver + 1), 0⟩ | none => ws[i]?
  | [], ws, _, _, _ => rfl
  | e :: es, ws, h0, hn, hi => by
    rw [List.map_cons, List.nodup_cons] at hn
    show (swps (swpE ws e) es)[i]? = _
    rw [swps_at (fun x hx => h0 x (List.mem_cons_of_mem _ hx)) hn.2 (by rw [swpE_len]; exact hi)]
    rw [List.find?_cons]
    have hp := h0 e (List.mem_cons_self ..)
    cases hb : (e.at' == (i : Int) && e.wr) with
    | true =>
      simp only [Bool.and_eq_true, beq_iff_eq] at hb
      have : es.find? (fun e => e.at' == (i : Int) && e.wr) = none := by
        rw [List.find?_eq_none]
        intro x hx hc
        simp only [Bool.and_eq_true, beq_iff_eq] at hc
        exact hn.1 (List.mem_map.2 ⟨x, hx, hc.1.trans hb.1.symm⟩)
      rw [this]
      unfold swpE
      rw [if_pos hb.2]
      have : e.at'.toNat = i := by omega
      rw [this, List.getElem?_set_self hi]
    | false =>
      have hsw : (swpE ws e)[i]? = ws[i]? := by
        unfold swpE
        split
        · rename_i hw
          rw [hw] at hb
          simp only [Bool.and_true, beq_eq_false_iff_ne] at hb
          exact List.getElem?_set_ne (by omega)
        · rfl
      rw [hsw]
theorem entl_find {i : Int} (σ : Spc) (hp : ∀ p ∈ σ.pu, p.1 ∈ σ.rd) : σ.entl.find? (fun e => e.at' == i && e.wr) = if (lastP σ.pu i).isSome then some (σ.ent i) else none := by
  unfold Spc.entl
  rw [List.find?_map]
  by_cases hs : (lastP σ.pu i).isSome = true
  · rw [if_pos hs]
    have hm : i ∈ sorted σ.rd := by
      rw [(sorted_perm σ.rd).mem_iff]
      obtain ⟨p, h1, rfl⟩ := List.mem_map.1 (lastP_mem.1 hs)
      exact hp p h1
    have : (sorted σ.rd).find? ((fun e => e.at' == i && e.wr) ∘ σ.ent) = some i := by
      cases hf : (sorted σ.rd).find? ((fun e => e.at' == i && e.wr) ∘ σ.ent) with
      | none =>
        rw [List.find?_eq_none] at hf
        refine absurd ?_ (hf i hm)
        show (i == i && (lastP σ.pu i).isSome) = true
        rw [hs]; simp
      | some a =>
        have h2 := List.find?_some hf
        have h2 : (a == i && (lastP σ.pu a).isSome) = true := h2
        simp only [Bool.and_eq_true, beq_iff_eq] at h2
        rw [h2.1]
    rw [this]; rfl
  · rw [if_neg hs]
    have : (sorted σ.rd).find? ((fun e => e.at' == i && e.wr) ∘ σ.ent) = none := by
      rw [List.find?_eq_none]
      intro a _ hc
      have hc : (a == i && (lastP σ.pu a).isSome) = true := hc
      simp only [Bool.and_eq_true, beq_iff_eq] at hc
      exact hs (by rw [← hc.1]; exact hc.2)
    rw [this]; rfl
/-- what is written is read -/
theorem InN.pus {n : Int} {k : Int → Option W3} (D : Dom n k) (H : InN n k σ) {x : Ac} (ha : 0 ≤ x.at' ∧ x.at' < n) (hp : ∀ p ∈ σ.pu, p.1 ∈ σ.rd) : ∀ p ∈ (σ.act x).pu, p.1 ∈ (σ.act x).rd := by
  have hput : ∀ (σ : Spc) (v : Int), InN n k σ → (∀ p ∈ σ.pu, p.1 ∈ σ.rd) → ∀ p ∈ (σ.put x.at' v).pu, p.1 ∈ (σ.put x.at' v).rd := by
    intro σ v H hp
    rw [H.putE D ha]
    intro p h
    show p.1 ∈ (σ.rds x.at').rd
    rw [mem_rds]
    rcases List.mem_append.1 (show p ∈ σ.pu ++ [(x.at', v)] from h) with h | h
    · exact .inr (hp p h)
    · simp only [List.mem_singleton] at h
      subst h; exact .inl rfl
  have hget : ∀ p ∈ (σ.get x.at').2.pu, p.1 ∈ (σ.get x.at').2.rd := by
    rw [H.getE D ha]
    exact fun p h => mem_rds.2 (.inr (hp p h))
  unfold Spc.act
  split
  · exact hget
  · split
    · exact hput _ _ (H.get D ha) hget
    · split
      · exact hput _ _ H hp
      · rw [back_rd]
        unfold Spc.back
        split
        · exact hp
        · split
          · exact fun p h => hp p (List.mem_of_mem_take h)
          · exact hp
structure CsR7 (S : Sys) (I : Ids) : Prop extends CsR5 S I, CsM2 S I
/-- the words of a table -/
def wsF (g : Nat → W3) (n : Nat) : List W3 := (List.range n).map g
theorem wsF_get {g : Nat → W3} {n i : Nat} (h : i < n) : (wsF g n)[i]? = some (g i) := by simp [wsF, h]
theorem wsF_len (g : Nat → W3) (n : Nat) : (wsF g n).length = n := by simp [wsF]
theorem wsF_snoc (g : Nat → W3) (n : Nat) : wsF g n ++ [g n] = wsF g (n + 1) := by simp [wsF, List.range_succ]
theorem wsF_at {g : Nat → W3} {n : Nat} {a : Int} (h : 0 ≤ a ∧ a < n) : wAt (wsF g n) a = some (g a.toNat) := by
  unfold wAt
  rw [if_pos h.1, wsF_get (by omega)]

section
variable {xs : List Ac} {f g : Nat → Int} {b2 : Value}
theorem L_SpaceEntries (cs : CsR7 S I) (hf : ∀ i, i < 8 → R64 (f i)) (hg : ∀ i, i < 8 → 0 ≤ g i ∧ g i ≤ 65535) (s1 : Sl EAc h b2 xs) (w1 : ∀ x ∈ xs, x.ok) (hR : ∀ h', Gr h h' → R (.bool true) h') :
    F_simulcastlaw30_SpaceEntries S I (.agg ⟨(EAr .i64 8).c f⟩) (.agg ⟨(EAr .u16 8).c g⟩) b2 h R := by
  unfold F_simulcastlaw30_SpaceEntries
  have c := Cx.start0 h
  refine c.nw (EAr .i64 8) f rfl fun rv h1 c => ?_
  refine c.nw (EAr .u16 8) g rfl fun rg h1 c => ?_
  refine cs.awake fun h2 g2 => ?_
  have c := c.more g2
  clear g2
  refine vb (v := .bool false) rfl ?_
  rw [br_false, s1.ln, vb_some, bin_gtr, vb_some]
  refine brd (fun h3 => hR _ c.gr) fun hl => ?_
  refine c.mmk .i64 mW fun m h4 c => ?_
  have c := c.nil EW
  let w : Nat → W3 := fun i => ⟨f i, g i, 0⟩
  refine Lp2.by (fun (i : Nat) u v h' => v = .int .i64 i ∧ i ≤ 8 ∧ Cx (fun _ => False) h h' [rVar (EAr .i64 8) rv f, rVar (EAr .u16 8) rg g, rMp .i64 mW (.map (some m)) (knF w i), rSl EW u (wsF w i)]) (fun i => 8 - i) 0 ⟨rfl, by omega, by simpa [knF, wsF] using c⟩ ?_
  clear c
  rintro i u v h5 ⟨rfl, hi, c⟩ again hagain
  rw [bin_lss, vb_some]
  refine brd (fun h6 => ?_) fun h6 => ?_
  · have hx1 : ixa 8 1 (at0 rv) (.int .i64 (i : Int)) = some (.pointer (some ⟨rv, 0 + i, none⟩)) := ixa_at rfl (by omega) 0
    have hx2 : ixa 8 1 (at0 rg) (.int .i64 (i : Int)) = some (.pointer (some ⟨rg, 0 + i, none⟩)) := ixa_at rfl (by omega) 0
    have l1 : ∀ {h' L}, Cx (fun _ => False) h h' L → L[0]? = some (rVar (EAr .i64 8) rv f) → ldc (.pointer (some ⟨rv, 0 + i, none⟩)) h' = some (.int .i64 (f i)) := fun c hi => (c.va hi).row.ldc (EAr_get (by omega))
    have l2 : ∀ {h' L}, Cx (fun _ => False) h h' L → L[1]? = some (rVar (EAr .u16 8) rg g) → ldc (.pointer (some ⟨rg, 0 + i, none⟩)) h' = some (.int .u16 (g i)) := fun c hi => (c.va hi).row.ldc (EAr_get (by omega))
    have := hg i (by omega)
    rw [hx1, vb_some, l1 c rfl, vb_some, hx2, vb_some, l2 c rfl, vb_some, cvi_int, vb_some, show IntKind.u32.wrap (g i) = g i by rw [IntKind.wrap_u32]; omega, bldW, vb_some]
    refine c.nw EW W0 rfl fun rw_ h6 c => ?_
    refine ⟨l2 c rfl, l1 c rfl, ?_⟩
    refine c.sto 4 rfl (w i) rfl rfl fun h7 c => ?_
    rw [(c.va (i := 4) rfl).whole (n := 3) rfl, vb_some]
    have hwl := wsF_len w i
    refine c.app1 3 rfl (w i) rfl rfl rfl (by omega) (by omega) fun v' h8 c => ?_
    rw [(c.va (i := 4) rfl).whole (n := 3) rfl, vb_some]
    refine c.mup 2 rfl i (w i) rfl fun h9 c => ?_
    rw [bin_add, vb_some, wrS (by omega)]
    rw [knF_upd, wsF_snoc] at c
    exact hagain (i + 1) _ _ _ ⟨rfl, by omega, c.drop (L := [_, _, _, _]) (L' := [_])⟩ (by omega)
  have e8 : i = 8 := by omega
  subst e8
  clear hagain again hi h6
  have hwv : ∀ i, i < 8 → R64 (w i).v := hf
  refine c.cNew cs.toCsD 2 rfl (knF_nodup _ _) (knF_val hwv) fun sa h6 c => ?_
  have D : Dom 8 (newS (knF w 8)).kn := Dom.start (g := w) (n := 8) fun i _ => rfl
  have H0 : InN 8 (newS (knF w 8)).kn (newS (knF w 8)) := InN.start (g := w) (n := 8) hwv
  have hkr : ∀ a x, (newS (knF w 8)).kn a = some x → x.ref = 0 := newS_ref
  have hkn : ∀ a, (newS (knF w 8)).kn a = if 0 ≤ a ∧ a < 8 then some (w a.toNat) else none := fun a => newS_knF (g := w) (n := 8) fun i _ => rfl
  have hkv : ∀ a x, (newS (knF w 8)).kn a = some x → x.ver < 4294967295 := fun a x hx => by
    rw [hkn] at hx
    split at hx
    · cases hx
      have := hg a.toNat (by omega)
      show g a.toNat < _
      omega
    · cases hx
  have hp0 : (newS (knF w 8)).pu = [] := rfl
  generalize newS (knF w 8) = σ0 at *
  have c := c.sub (L' := [rVar (EAr .u16 8) rg g, rSl EW u (wsF w 8), rSpace sa σ0]) (.cons _ (.cons_cons _ (.cons _ (.cons_cons _ (.cons_cons _ .slnil)))))
  refine Lp1.by (fun (x : Nat × Spc) v h' => v = .int .i64 x.1 ∧ x.1 ≤ xs.length ∧ InN 8 σ0.kn x.2 ∧ x.2.pu.length ≤ x.1 ∧ (∀ p ∈ x.2.pu, p.1 ∈ x.2.rd) ∧ Cx (fun _ => False) h h' [rVar (EAr .u16 8) rg g, rSl EW u (wsF w 8), rSpace sa x.2]) (fun x => xs.length - x.1) (0, σ0)
    ⟨rfl, Nat.zero_le _, H0, Nat.le_of_eq (by rw [hp0]; rfl), (fun p hp => by rw [hp0] at hp; cases hp), c⟩ ?_
  clear c
  rintro ⟨i, σ⟩ v h8 ⟨rfl, hi, H, hp, hpr, c⟩ again hagain
  dsimp only at *
  rw [vb_some, bin_lss, vb_some]
  refine brd (fun h9 => ?_) fun h9 => ?_
  · have hx : xs[i]? = some xs[i] := List.getElem?_eq_getElem (by omega)
    have hok := w1 xs[i] (List.getElem_mem _)
    refine (s1.gr c.gr).whole rfl hx rfl ?_
    refine c.nw EAc ⟨0, 0, 0⟩ rfl fun rx h10 c => ?_
    refine c.sto 3 rfl xs[i] rfl rfl fun h11 c => ?_
    refine c.norm 3 rfl fun h12 c => ?_
    refine vb z0 ?_
    rw [(c.va (i := 3) rfl).whole (n := 3) rfl, vb_some]
    refine c.cAct2 cs.toCsR4 2 rfl (x := xs[i].nz 8) hok.v hok.d (by unfold big; omega) rfl fun _ _ h13 c => ?_
    refine ext0t (ext1t ?_)
    rw [bin_add, vb_some, wrS (by omega)]
    have hl := act_len (σ := σ) (x := xs[i].nz 8)
    exact hagain (i + 1, σ.act (xs[i].nz 8)) _ _ ⟨rfl, by omega, H.act D (nz_in (by omega)) hok.v (by unfold big; omega), by dsimp only; omega, H.pus D (nz_in (by omega)) hpr, c.drop (L := [_, _, _]) (L' := [_])⟩ (by dsimp only; omega)
  clear hagain again
  have hrl := H.rdlen (by omega)
  have hen := H.entsE D (by omega) hkv (by omega)
  have hel : σ.entl.length = σ.rd.length := by unfold Spc.entl; rw [List.length_map, sorted_len]
  refine c.cEntries cs.toCsH 2 rfl (by omega) (by rw [H.kn]; exact hkr) fun ve h15 c => ?_
  rw [hen] at c ⊢
  refine ext0t (ext1t ?_)
  rw [bin_neq, vb_some]
  refine brd (fun h => absurd rfl h) fun _ => ?_
  refine c.nw (EAr .i64 8) (fun _ => 0) rfl fun rh h16 c => ?_
  refine c.cWrites cs.toCsH 2 rfl (by omega) fun vw h17 c => ?_
  -- what each word is
  refine Lp1.by (fun (x : Nat × (Nat → Int)) v h' => v = .int .i64 x.1 ∧ x.1 ≤ 8 ∧ (∀ j, j < x.1 → x.2 j = σ.vw j) ∧ Cx (fun _ => False) h h' [rVar (EAr .u16 8) rg g, rSl EW u (wsF w 8), rSpace sa (σ.gets x.1), rSl EE ve σ.entl, rVar (EAr .i64 8) rh x.2, rSl EI1 vw (cpt (sorted (σ.pu.map (·.1))))]) (fun x => 8 - x.1) (0, fun _ => 0) ⟨rfl, by dsimp only; omega, (fun j hj => absurd hj (Nat.not_lt_zero _)), c⟩ ?_
  clear c
  rintro ⟨q, hh⟩ v h18 ⟨rfl, hq, hhq, c⟩ again hagain
  dsimp only at *
  rw [bin_lss, vb_some]
  refine brd (fun h19 => ?_) fun h19 => ?_
  · obtain ⟨A1, A2, A3⟩ := H.gets (n := 8) D q hq
    refine c.cGet cs.toCsD 2 rfl fun h20 c => ?_
    refine c.stoi 4 rfl rfl (by omega) fun h21 c => ?_
    rw [bin_add, vb_some, wrS (by omega)]
    refine hagain (q + 1, fun k => if k = q then ((σ.gets q).get q).1 else hh k) _ _ ⟨rfl, by dsimp only; omega, fun j hj => ?_, c⟩ (by dsimp only; omega)
    dsimp only
    by_cases e : j = q
    · subst e
      rw [if_pos rfl, A1.getE D (by omega)]
      exact vw_congr (A1.kn.trans H.kn.symm) (by rw [A2])
    · rw [if_neg e]; exact hhq j (by omega)
  have e8 : q = 8 := by omega
  subst e8
  clear hagain again hq h19
  have hwl := wsF_len w 8
  refine cs.mnew (ws := wsF w 8) (by omega) (fun x hx => by obtain ⟨i, _, rfl⟩ := List.mem_map.1 hx; rfl) (c.sl (i := 1) rfl).sl fun um h20 c2 => ?_
  have c := c.frame0 c2
  clear c2
  refine c.nw EMd (none, 0, 0) rfl fun rm h21 c => ?_
  refine c.sto (n := 1) 7 rfl um rfl rfl fun h22 c => ?_
  rw [(c.va (i := 7) rfl).whole (n := 1) rfl, vb_some]
  have hke : ∀ a, 0 ≤ a → a < 8 → σ.kn a = some (w a.toNat) := fun a h1 h2 => by rw [H.kn, hkn, if_pos ⟨h1, h2⟩]
  have hhold : holdsE (wsF w 8) σ.entl := fun e he => by
    obtain ⟨a, ha, rfl⟩ := List.mem_map.1 he
    have ha := H.rd a ((sorted_perm σ.rd).mem_iff.1 ha)
    have : (σ.ent a).old = w a.toNat := by show (σ.kn a).getD W0 = _; rw [hke a ha.1 ha.2]; rfl
    rw [this]
    exact ⟨wsF_at (n := 8) ha, rfl⟩
  have hnd : (σ.entl.map (·.at')).Nodup := by unfold Spc.entl; rw [entl_at]; exact nd_sorted H.nd
  have hswp : ∀ i : Nat, i < 8 → (swps (wsF w 8) σ.entl)[i]? = some ⟨σ.vw i, if (lastP σ.pu i).isSome then IntKind.u32.wrap (g i + 1) else g i, 0⟩ := fun i hi => by
    rw [swps_at (fun e he => by obtain ⟨a, ha, rfl⟩ := List.mem_map.1 he; exact (H.rd a ((sorted_perm σ.rd).mem_iff.1 ha)).1) hnd (by omega), entl_find σ hpr, wsF_get hi]
    have hk := hke i (by omega) (by omega)
    rw [Int.toNat_natCast] at hk
    by_cases hs : (lastP σ.pu i).isSome = true
    · rw [if_pos hs, if_pos hs]
      show some _ = some _
      congr 2
      show IntKind.u32.wrap (((σ.kn i).getD W0).ver + 1) = _
      rw [hk]; rfl
    · rw [if_neg hs, if_neg hs]
      show some _ = some _
      congr 2
      unfold Spc.vw
      cases hl : lastP σ.pu i with
      | some v => rw [hl] at hs; exact absurd rfl hs
      | none => rw [hk]; rfl
  -- the comparison
  have hend : ∀ (un : MS) (rn : Nat) (h' : Hp) (K : Nat), Cx (fun _ => False) h h' [rVar (EAr .u16 8) rg g, rVar (EAr .i64 8) rh hh, rSl EI1 vw (cpt (sorted (σ.pu.map (·.1)))), rVar EMd rn un, rSl EW (sV un) (swps (wsF w 8) σ.entl)] → Lp1 (Value.int IntKind.i64 0) h' fun i23 h31 again3 =>
                        Vb (bin .lss i23 (Value.int IntKind.i64 8)) fun v116 =>
                        Br v116 (
                          Vb (lda 1 (at0 rn) h31) fun v120 =>
                          S.C I.f_model_Model_At [v120, i23] h31 fun v122 h32 =>
                          Vb (ext 0 v122) fun v123 =>
                          Vb (ext 1 v122) fun v124 =>
                          Eb (nw #[Value.int IntKind.i64 0, Value.int IntKind.u32 0, Value.int IntKind.u32 0] I.t_api_Word h32) fun x24 h33 =>
                          Sb (sto 3 x24 v123 h33) fun h34 =>
                          Vb (ixa 8 1 (at0 rg) i23) fun v126 =>
                          Vb (ldc v126 h34) fun v127 =>
                          Vb (cvi .u32 v127) fun v128 =>
                          Lp2 v128 (Value.int IntKind.i64 0) h34 fun ver26 j27 h35 again4 =>
                          Vb (lnS vw) fun v131 =>
                          Vb (bin .lss j27 v131) fun v132 =>
                          Br v132 (
                            Jn1 (fun ver26_1 h36 =>
                                Vb (bin .add j27 (Value.int IntKind.i64 1)) fun v134 =>
                                again4 ver26_1 v134 h36) fun J2 =>
                            Vb (ixs 1 vw j27) fun v137 =>
                            Vb (ldc v137 h35) fun v138 =>
                            Vb (bin .eql v138 i23) fun v140 =>
                            Br v140 (
                              Vb (bin .add ver26 (Value.int IntKind.u32 1)) fun v142 =>
                              J2 v142 h35) (
                              J2 ver26 h35)) (
                            Jn1 (fun v154 h37 =>
                                Br v154 (
                                  R (Value.bool false) h37) (
                                  Vb (bin .add i23 (Value.int IntKind.i64 1)) fun v118 =>
                                  again3 v118 h37)) fun J3 =>
                            Vb (fa 0 x24) fun v143 =>
                            Vb (ldc v143 h35) fun v144 =>
                            Vb (ixa 8 1 (at0 rh) i23) fun v146 =>
                            Vb (ldc v146 h35) fun v147 =>
                            Vb (bin .neq v144 v147) fun v148 =>
                            Br v148 (
                              J3 (Value.bool true) h35) (
                              Vb (fa 1 x24) fun v150 =>
                              Vb (ldc v150 h35) fun v151 =>
                              Vb (bin .neq v151 ver26) fun v153 =>
                              J3 v153 h35))) (
                          R (Value.bool true) h31) := by
    intro un rn h' _ c
    refine Lp1.by (fun (i : Nat) v h' => v = .int .i64 i ∧ i ≤ 8 ∧ Cx (fun _ => False) h h' [rVar (EAr .u16 8) rg g, rVar (EAr .i64 8) rh hh, rSl EI1 vw (cpt (sorted (σ.pu.map (·.1)))), rVar EMd rn un, rSl EW (sV un) (swps (wsF w 8) σ.entl)]) (fun i => 8 - i) 0 ⟨rfl, by omega, c⟩ ?_
    clear c
    rintro i v h23 ⟨rfl, hi, c⟩ again hagain
    rw [bin_lss, vb_some]
    refine brd (fun h24 => ?_) fun h24 => hR _ c.gr
    rw [(c.va (i := 3) rfl).whole (n := 1) rfl, vb_some]
    refine cs.at' (u := un) (ws := swps (wsF w 8) σ.entl) (by rw [swps_len]; omega) (c.sl (i := 4) rfl).sl fun h25 gg => ?_
    have c := c.more gg
    clear gg
    have hwa : wAt (swps (wsF w 8) σ.entl) (i : Int) = some ⟨σ.vw i, if (lastP σ.pu i).isSome then IntKind.u32.wrap (g i + 1) else g i, 0⟩ := by
      unfold wAt
      rw [if_pos (by omega), Int.toNat_natCast, hswp i (by omega)]
    rw [hwa]
    refine ext0t (ext1t ?_)
    refine c.nw EW W0 rfl fun rx h26 c => ?_
    refine c.sto 5 rfl ⟨σ.vw i, if (lastP σ.pu i).isSome then IntKind.u32.wrap (g i + 1) else g i, 0⟩ rfl rfl fun h27 c => ?_
    refine (c.va (i := 0) rfl).ix rfl (by omega) ?_
    have hgi := hg i (by omega)
    rw [cvi_int, vb_some, show IntKind.u32.wrap (g i) = g i by rw [IntKind.wrap_u32]; omega]
    have hcl : (cpt (sorted (σ.pu.map (·.1)))).length ≤ 60 := by
      have := cpt_len (sorted (σ.pu.map (·.1)))
      rw [sorted_len, List.length_map] at this
      omega
    have hcn : (cpt (sorted (σ.pu.map (·.1)))).Nodup := lt_nodup (cpt_sorted (sorted_le _))
    have hcm : (i : Int) ∈ cpt (sorted (σ.pu.map (·.1))) ↔ (lastP σ.pu i).isSome = true := by
      rw [cpt_mem, (sorted_perm _).mem_iff, lastP_mem]
    have hsl := (c.sl (i := 2) rfl).sl
    generalize cpt (sorted (σ.pu.map (·.1))) = wr at *
    refine Lp2.by (fun (j : Nat) u v h' => v = .int .i64 j ∧ j ≤ wr.length ∧ h' = h27 ∧ u = .int .u32 (if (i : Int) ∈ wr.take j then g i + 1 else g i)) (fun j => wr.length - j) 0 ⟨rfl, Nat.zero_le _, rfl, by simp⟩ ?_
    rintro j u v h28 ⟨rfl, hj, rfl, rfl⟩ again2 hagain2
    rw [hsl.ln, vb_some, bin_lss, vb_some]
    refine brd (fun h29 => ?_) fun h29 => ?_
    · have hx : wr[j]? = some wr[j] := List.getElem?_eq_getElem (by omega)
      have htk : (i : Int) ∈ wr.take (j + 1) ↔ (i : Int) ∈ wr.take j ∨ (i : Int) = wr[j] := by
        rw [List.take_add_one, hx, List.mem_append]; simp
      refine Jn1.at (fun u h' => h' = h28 ∧ u = .int .u32 (if (i : Int) ∈ wr.take (j + 1) then g i + 1 else g i)) ?_ ?_
      · refine hsl.one rfl hx rfl rfl ?_
        rw [bin_eql, vb_some]
        refine brd (fun h30 => ?_) fun h30 => ?_
        · have hno : ¬ (i : Int) ∈ wr.take j := by
            intro hm
            obtain ⟨k, hk⟩ := List.mem_iff_getElem?.1 hm
            have hkj : k < j := by
              have := (List.getElem?_eq_some_iff.1 hk).1
              rw [List.length_take] at this; omega
            rw [List.getElem?_take_of_lt hkj] at hk
            have hkl := (List.getElem?_eq_some_iff.1 hk).1
            have e1 : wr[k] = i := (List.getElem?_eq_some_iff.1 hk).2
            exact List.pairwise_iff_getElem.1 hcn k j hkl (by omega) hkj (by rw [e1, h30])
          rw [if_neg hno, show bin .add (Value.int .u32 (g i)) (Value.int .u32 1) = some (.int .u32 (IntKind.u32.wrap (g i + 1))) from bin_add, vb_some]
          rw [if_pos (htk.2 (.inr h30.symm)), show IntKind.u32.wrap (g i + 1) = g i + 1 by rw [IntKind.wrap_u32]; omega]
          exact ⟨rfl, rfl⟩
        · refine ⟨rfl, ?_⟩
          by_cases hm : (i : Int) ∈ wr.take j
          · rw [if_pos hm, if_pos (htk.2 (.inl hm))]
          · rw [if_neg hm, if_neg (fun e => (htk.1 e).elim hm fun e => h30 e.symm)]
      · rintro u h30 ⟨rfl, rfl⟩
        rw [bin_add, vb_some, wrS (by omega)]
        exact hagain2 (j + 1) _ _ _ ⟨rfl, by omega, rfl, rfl⟩ (by omega)
    · have ej : j = wr.length := by omega
      subst ej
      rw [List.take_length]
      refine .here ?_
      refine (c.va (i := 5) rfl).fld (j := 0) rfl ?_
      refine (c.va (i := 1) rfl).ix rfl (by omega) ?_
      rw [hhq i (by omega), show bin .neq (Value.int .i64 (σ.vw i)) (Value.int .i64 (σ.vw i)) = some (.bool false) by rw [bin_neq]; simp, vb_some, br_false]
      refine (c.va (i := 5) rfl).fld (j := 1) rfl ?_
      have ev : (if (lastP σ.pu i).isSome then IntKind.u32.wrap (g i + 1) else g i) = (if (i : Int) ∈ wr then g i + 1 else g i) := by
        by_cases hm : (i : Int) ∈ wr
        · rw [if_pos hm, if_pos (hcm.1 hm), IntKind.wrap_u32]; omega
        · rw [if_neg hm, if_neg (fun e => hm (hcm.2 e))]
      rw [ev, show bin .neq (Value.int .u32 (if (i : Int) ∈ wr then g i + 1 else g i)) (Value.int .u32 (if (i : Int) ∈ wr then g i + 1 else g i)) = some (.bool false) by rw [bin_neq]; simp, vb_some]
      dsimp only
      rw [br_false, bin_add, vb_some, wrS (by omega)]
      exact hagain (i + 1) _ _ ⟨rfl, by omega, c.drop (L := [_, _, _, _, _]) (L' := [_])⟩ (by omega)
  by_cases hz : σ.entl = []
  · refine cs.swap (u := um) (ws := wsF w 8) (es := σ.entl) (by omega) (by omega) (c.sl (i := 6) rfl).sl (c.sl (i := 3) rfl).sl hhold (.inr hz) ⟨fun _ h23 gg => ?_, fun e => by rw [hz] at e; cases e⟩
    have c := c.more gg
    rw [show ext 0 (.tuple #[mM um, .bool false, .int .i64 8]) = some (mM um) from rfl, vb_some, show ext 1 (.tuple #[mM um, .bool false, .int .i64 8]) = some (.bool false) from rfl, vb_some, show ext 2 (.tuple #[mM um, .bool false, .int .i64 8]) = some (.int .i64 8) from rfl, vb_some]
    refine c.nw EMd (none, 0, 0) rfl fun rn h24 c => ?_
    refine c.sto (n := 1) 8 rfl um rfl rfl fun h25 c => ?_
    refine .here ?_
    rw [(c.sl (i := 3) rfl).sl.ln, vb_some, hz]
    refine vb (v := .bool true) rfl ?_
    rw [br_true, (c.va (i := 7) rfl).whole (n := 1) rfl, vb_some]
    refine c.sto (n := 1) 8 rfl um rfl rfl fun h26 c => ?_
    refine .here ?_
    refine vb (v := .bool false) rfl ?_
    rw [br_false]
    refine vb (v := .bool false) rfl ?_
    dsimp only
    rw [br_false]
    refine hend um rn _ 0 ?_
    have e1 : swps (wsF w 8) σ.entl = wsF w 8 := by rw [hz]; rfl
    rw [e1]
    exact c.pick [0, 4, 5, 8, 6]
  · have hr0 : σ.rd ≠ [] := fun e => hz (List.eq_nil_of_length_eq_zero (by rw [hel, e]; rfl))
    have hck := H.chk D (by omega) hkv hr0 (by omega)
    refine cs.swap (u := um) (ws := wsF w 8) (es := σ.entl) (by omega) (by omega) (c.sl (i := 6) rfl).sl (c.sl (i := 3) rfl).sl hhold (.inl hck) ⟨fun e => absurd e hz, fun _ un h23 c2 => ?_⟩
    have c := c.frame0 c2
    rw [show ext 0 (.tuple #[mM un, .bool true, .int .i64 0]) = some (mM un) from rfl, vb_some, show ext 1 (.tuple #[mM un, .bool true, .int .i64 0]) = some (.bool true) from rfl, vb_some, show ext 2 (.tuple #[mM un, .bool true, .int .i64 0]) = some (.int .i64 0) from rfl, vb_some]
    refine c.nw EMd (none, 0, 0) rfl fun rn h24 c => ?_
    refine c.sto (n := 1) 9 rfl un rfl rfl fun h25 c => ?_
    refine .here ?_
    rw [(c.sl (i := 3) rfl).sl.ln, vb_some, bin_eql, vb_some]
    refine brd (fun e => absurd e (by have : σ.entl.length ≠ 0 := fun e => hz (List.eq_nil_of_length_eq_zero e); omega)) fun _ => ?_
    refine .here ?_
    refine vb (v := .bool false) rfl ?_
    rw [br_false]
    refine vb (v := .bool false) rfl ?_
    dsimp only
    rw [br_false]
    refine hend un rn _ 0 ?_
    exact c.pick [0, 4, 5, 9, 8]
end
end Go.En
