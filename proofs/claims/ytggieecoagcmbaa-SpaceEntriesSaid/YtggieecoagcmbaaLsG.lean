/-
  Layer 30: the law Orders.
-/
import Derived.Test.YtggieecoagcmbaaLsF
namespace Go.En
open Prog Spc Go.Sort

variable {S : Sys} {I : Ids} {h h0 h' : Hp} {F F0 : Fp} {R : Value → Hp → Prop} {L : List Res} {s : Value} {σ : Spc}

/-- the last write of each place alone -/
def lasts : List (Int × Int) → List (Int × Int)
  | [] => []
  | p :: r => if p.1 ∈ r.map (·.1) then lasts r else p :: lasts r
theorem lst_mem {a : Int} : ∀ {q : List (Int × Int)}, a ∈ (lasts q).map (·.1) ↔ a ∈ q.map (·.1)
  | [] => Iff.rfl
  | p :: r => by
    rw [lasts]
    split
    · rename_i h
      rw [lst_mem, List.map_cons, List.mem_cons]
      constructor
      · exact .inr
      · rintro (rfl | h2)
        · exact h
        · exact h2
    · rw [List.map_cons, List.map_cons, List.mem_cons, List.mem_cons, lst_mem]
theorem lst_len : ∀ q : List (Int × Int), (lasts q).length ≤ q.length
  | [] => Nat.le_refl _
  | p :: r => by
    have := lst_len r
    rw [lasts]
    split <;> simp only [List.length_cons] <;> omega
theorem lastP_cons {p : Int × Int} {r : List (Int × Int)} {a : Int} : lastP (p :: r) a = (lastP r a).or (if p.1 = a then some p.2 else none) := by
  unfold lastP
  rw [List.reverse_cons, List.find?_append]
  cases List.find? (fun p => p.1 == a) r.reverse with
  | some x => simp
  | none =>
    by_cases h : p.1 = a
    · simp [h]
    · simp [h]
theorem lst_last {a : Int} : ∀ {q : List (Int × Int)}, lastP (lasts q) a = lastP q a
  | [] => rfl
  | p :: r => by
    rw [lasts, lastP_cons]
    split
    · rename_i h
      rw [lst_last]
      by_cases e : p.1 = a
      · subst e
        have := lastP_mem.2 h
        cases hl : lastP r p.1 with
        | none => rw [hl] at this; cases this
        | some v => rfl
      · rw [if_neg e]; cases lastP r a <;> rfl
    · rw [lastP_cons, lst_last]
theorem lst_mem_drop {q : List (Int × Int)} {i : Nat} {x : Int} : x ∈ (q.drop (i + 1)).map (·.1) ↔ ∃ k, i < k ∧ ∃ w, q[k]? = some w ∧ w.1 = x := by
  rw [List.mem_map]
  constructor
  · rintro ⟨w, hw, e⟩
    obtain ⟨k, hk⟩ := List.mem_iff_getElem?.1 hw
    rw [List.getElem?_drop] at hk
    exact ⟨i + 1 + k, by omega, w, hk, e⟩
  · rintro ⟨k, hk, w, hw, e⟩
    refine ⟨w, List.mem_iff_getElem?.2 ⟨k - (i + 1), ?_⟩, e⟩
    rw [List.getElem?_drop, show i + 1 + (k - (i + 1)) = k by omega]; exact hw
theorem lst_drop1 {q : List (Int × Int)} {i : Nat} {p : Int × Int} (h : q[i]? = some p) (hn : ∃ k, i < k ∧ ∃ w, q[k]? = some w ∧ w.1 = p.1) : lasts (q.drop i) = lasts (q.drop (i + 1)) := by
  obtain ⟨hi, rfl⟩ := List.getElem?_eq_some_iff.1 h
  rw [List.drop_eq_getElem_cons hi, lasts, if_pos (lst_mem_drop.2 hn)]
theorem lst_drop0 {q : List (Int × Int)} {i : Nat} {p : Int × Int} (h : q[i]? = some p) (hn : ¬ ∃ k, i < k ∧ ∃ w, q[k]? = some w ∧ w.1 = p.1) : lasts (q.drop i) = p :: lasts (q.drop (i + 1)) := by
  obtain ⟨hi, rfl⟩ := List.getElem?_eq_some_iff.1 h
  rw [List.drop_eq_getElem_cons hi, lasts, if_neg (fun e => hn (lst_mem_drop.1 e))]

def EU8 : Enc Int := { n := 1, c := fun i => [.int .u8 i], len := fun _ => rfl, one := fun a v h => by simp only [List.mem_singleton] at h; subst h; rfl }
theorem rem8 {x : Int} (h : 0 ≤ x) : bin .rem (.int .u8 x) (.int .u8 8) = some (.int .u8 (x % 8)) := by
  rw [bin_rem (by omega), Int.tmod_eq_emod_of_nonneg h]
def wqr (x : Ac) : Int × Int := (nz 8 x.at', x.v)

section
variable {rs : List Int} {ps : List Ac} {f : Nat → Int} {b1 b2 : Value}
theorem L_SpaceOrders (cs : CsR5 S I) (hf : ∀ i, i < 8 → R64 (f i)) (s1 : Sl EU8 h b1 rs) (w1 : ∀ x ∈ rs, 0 ≤ x ∧ x ≤ 255) (s2 : Sl EAc h b2 ps) (w2 : ∀ x ∈ ps, x.ok) (hR : ∀ h', Gr h h' → R (.bool true) h') :
    F_simulcastlaw30_SpaceOrders S I (.agg ⟨(EAr .i64 8).c f⟩) b1 b2 h R := by
  unfold F_simulcastlaw30_SpaceOrders
  have c := Cx.start0 h
  refine c.nw (EAr .i64 8) f rfl fun rv h1 c => ?_
  refine cs.awake fun h2 g2 => ?_
  have c := c.more g2
  clear g2
  refine vb (v := .bool false) rfl ?_
  rw [br_false]
  refine Jn1.at (fun u h' => (u = .bool true ∨ u = .bool false ∧ rs.length ≤ 40 ∧ ps.length ≤ 40) ∧ Cx (fun _ => False) h h' [rVar (EAr .i64 8) rv f]) ?_ ?_
  · rw [s1.ln, vb_some, bin_gtr, vb_some]
    refine brd (fun h3 => ⟨.inl rfl, c⟩) fun h3 => ?_
    rw [s2.ln, vb_some, bin_gtr, vb_some]
    refine ⟨?_, c⟩
    by_cases h4 : (40 : Int) < ps.length
    · rw [decide_eq_true h4]; exact .inl rfl
    · rw [decide_eq_false h4]; exact .inr ⟨rfl, by omega, by omega⟩
  clear c
  rintro u h3 ⟨hu, c⟩
  rcases hu with rfl | ⟨rfl, hl1, hl2⟩
  · rw [br_true]; exact hR _ c.gr
  rw [br_false]
  refine c.mmk .i64 mW fun m h4 c => ?_
  let g : Nat → W3 := fun i => ⟨f i, i, 0⟩
  refine Lp1.by (fun (i : Nat) v h' => v = .int .i64 i ∧ i ≤ 8 ∧ Cx (fun _ => False) h h' [rVar (EAr .i64 8) rv f, rMp .i64 mW (.map (some m)) (knF g i)]) (fun i => 8 - i) 0 ⟨rfl, by omega, by simpa [knF] using c⟩ ?_
  clear c
  rintro i v h5 ⟨rfl, hi, c⟩ again hagain
  rw [bin_lss, vb_some]
  refine brd (fun h6 => ?_) fun h6 => ?_
  · refine (c.va (i := 0) rfl).ix rfl (by omega) ?_
    have ew : IntKind.u32.wrap (i : Int) = i := by rw [IntKind.wrap_u32]; omega
    rw [cvi_int, vb_some, ew, bldW, vb_some]
    refine c.mup 1 rfl i (g i) rfl fun h7 c => ?_
    rw [bin_add, vb_some, wrS (by omega)]
    rw [knF_upd] at c
    exact hagain (i + 1) _ _ ⟨rfl, by omega, c⟩ (by omega)
  have e8 : i = 8 := by omega
  subst e8
  clear hagain again hi h6
  have hgv : ∀ i, i < 8 → R64 (g i).v := hf
  refine c.cNew cs.toCsD 1 rfl (knF_nodup _ _) (knF_val hgv) fun sa h6 c => ?_
  refine c.cNew cs.toCsD 1 rfl (knF_nodup _ _) (knF_val hgv) fun sb h7 c => ?_
  have D : Dom 8 (newS (knF g 8)).kn := Dom.start (g := g) (n := 8) fun i _ => rfl
  have H0 : InN 8 (newS (knF g 8)).kn (newS (knF g 8)) := InN.start (g := g) (n := 8) hgv
  have hkr : ∀ a w, (newS (knF g 8)).kn a = some w → w.ref = 0 := newS_ref
  have c := (c.front 3 rfl).front 3 rfl |>.drop (L := [_, _]) (L' := [_, _])
  have hp0 : (newS (knF g 8)).pu = [] := rfl
  have hr0 : (newS (knF g 8)).rd = [] := rfl
  generalize newS (knF g 8) = σ0 at *
  -- the reads
  refine Lp1.by (fun (x : Nat × Spc) v h' => v = .int .i64 x.1 ∧ x.1 ≤ rs.length ∧ InN 8 σ0.kn x.2 ∧ x.2.pu = [] ∧ (∀ a, a ∈ x.2.rd ↔ a ∈ (rs.take x.1).map (· % 8)) ∧ Cx (fun _ => False) h h' [rSpace sa x.2, rSpace sb σ0]) (fun x => rs.length - x.1) (0, σ0)
    ⟨rfl, Nat.zero_le _, H0, hp0, (fun a => by rw [hr0]; rfl), c⟩ ?_
  clear c
  rintro ⟨i, σ⟩ v h8 ⟨rfl, hi, H, hp, hrd, c⟩ again hagain
  dsimp only at *
  rw [s1.ln, vb_some, bin_lss, vb_some]
  refine brd (fun h9 => ?_) fun h9 => ?_
  · have hx : rs[i]? = some rs[i] := List.getElem?_eq_getElem (by omega)
    have hok := w1 rs[i] (List.getElem_mem _)
    refine (s1.gr c.gr).one rfl hx rfl rfl ?_
    rw [rem8 hok.1, vb_some, cvi_int, vb_some, wr64 (by omega)]
    refine c.cGet cs.toCsD 0 rfl fun h10 c => ?_
    rw [bin_add, vb_some, wrS (by omega)]
    refine hagain (i + 1, (σ.get (rs[i] % 8)).2) _ _ ⟨rfl, by omega, H.get D (by omega), by dsimp only; rw [get_pu]; exact hp, fun a => ?_, c⟩ (by dsimp only; omega)
    dsimp only
    rw [H.getE D (by omega), mem_rds, hrd, List.take_add_one, hx, List.map_append, List.mem_append]
    simp [or_comm]
  have ei : i = rs.length := by omega
  subst ei
  rw [List.take_length] at hrd
  clear hagain again hi h9
  -- the writes
  have hq : ∀ {j : Nat} {x : Ac}, ps[j]? = some x → (ps.map wqr)[j]? = some (wqr x) := fun h => by rw [List.getElem?_map, h]; rfl
  refine Lp1.by (fun (x : Nat × Spc × Spc) v h' => v = .int .i64 x.1 ∧ x.1 ≤ ps.length ∧ InN 8 σ0.kn x.2.1 ∧ InN 8 σ0.kn x.2.2 ∧ x.2.1.pu = (ps.take x.1).map wqr ∧ x.2.2.pu ++ lasts ((ps.map wqr).drop x.1) = lasts (ps.map wqr) ∧
      (∀ a, a ∈ x.2.1.rd ↔ a ∈ rs.map (· % 8) ∨ a ∈ x.2.1.pu.map (·.1)) ∧ (∀ a, a ∈ x.2.2.rd ↔ a ∈ x.2.2.pu.map (·.1)) ∧ Cx (fun _ => False) h h' [rSpace sa x.2.1, rSpace sb x.2.2]) (fun x => ps.length - x.1) (0, σ, σ0)
    ⟨rfl, Nat.zero_le _, H, H0, by simpa using hp, by simp [hp0], (fun a => by rw [hrd, hp]; simp), (fun a => by rw [hr0, hp0]; rfl), c⟩ ?_
  clear c
  rintro ⟨i, α, β⟩ v h8 ⟨rfl, hi, HA, HB, hpa, hpb, hra, hrb, c⟩ again hagain
  dsimp only at *
  have hlb : β.pu.length ≤ ps.length := by
    have := congrArg List.length hpb
    have h2 := lst_len (ps.map wqr)
    rw [List.length_map] at h2
    rw [List.length_append] at this; omega
  rw [s2.ln, vb_some, bin_lss, vb_some]
  refine brd (fun h9 => ?_) fun h9 => ?_
  · have hx : ps[i]? = some ps[i] := List.getElem?_eq_getElem (by omega)
    have hok := w2 ps[i] (List.getElem_mem _)
    have hbx : ∀ (x : Ac) (K : Value → Prop), K (.int .i64 (nz 8 x.at')) → Vb (bin .rem (.int .i64 x.at') (Value.int IntKind.i64 8)) fun v58 => Vb (bin .add v58 (Value.int IntKind.i64 8)) fun v59 => Vb (bin .rem v59 (Value.int IntKind.i64 8)) K := fun x K hK => by
      have := tmod_lt (a := x.at') (n := 8) (by omega)
      rw [bin_rem (by omega), vb_some, bin_add, vb_some, wr64 (by omega), bin_rem (by omega), vb_some]
      exact hK
    refine Jn0.at (fun h' => ∃ β', InN 8 σ0.kn β' ∧ β'.pu ++ lasts ((ps.map wqr).drop (i + 1)) = lasts (ps.map wqr) ∧ (∀ a, a ∈ β'.rd ↔ a ∈ β'.pu.map (·.1)) ∧ Cx (fun _ => False) h h' [rSpace sa (α.put (nz 8 ps[i].at') ps[i].v), rSpace sb β']) ?_ ?_
    · refine (s2.gr c.gr).fld rfl hx rfl (j := 1) rfl ?_
      refine hbx _ _ ?_
      refine (s2.gr c.gr).fld rfl hx rfl (j := 2) rfl ?_
      refine c.cPut cs.toCsD 0 rfl hok.v (by unfold big; rw [hpa, List.length_map, List.length_take]; omega) fun h10 c => ?_
      rw [bin_add, vb_some, wrS (by omega)]
      refine Lp2.by (fun (j : Nat) u v h' => v = .int .i64 j ∧ i < j ∧ j ≤ ps.length ∧ h' = h10 ∧ ∃ bb : Bool, u = .bool bb ∧ (bb = false ↔ ∃ k, i < k ∧ k < j ∧ ∃ w, (ps.map wqr)[k]? = some w ∧ w.1 = nz 8 ps[i].at')) (fun j => ps.length - j) (i + 1)
        ⟨rfl, by omega, by omega, rfl, true, rfl, by constructor; (intro e; cases e); (rintro ⟨k, h1, h2, _⟩; omega)⟩ ?_
      rintro j u v h11 ⟨rfl, hij, hj, rfl, bb, rfl, hbb⟩ again2 hagain2
      rw [vb_some, bin_lss, vb_some]
      refine brd (fun h12 => ?_) fun h12 => ?_
      · have hy : ps[j]? = some ps[j] := List.getElem?_eq_getElem (by omega)
        refine Jn1.at (fun u h' => h' = h11 ∧ ∃ bb : Bool, u = .bool bb ∧ (bb = false ↔ ∃ k, i < k ∧ k < j + 1 ∧ ∃ w, (ps.map wqr)[k]? = some w ∧ w.1 = nz 8 ps[i].at')) ?_ ?_
        · cases bb with
          | true =>
            rw [br_true]
            refine (s2.gr c.gr).fld rfl hy rfl (j := 1) rfl ?_
            refine hbx _ _ ?_
            rw [bin_neq, vb_some]
            refine ⟨rfl, _, rfl, ?_⟩
            simp only [decide_eq_false_iff_not, Decidable.not_not]
            constructor
            · intro e; exact ⟨j, hij, by omega, _, hq hy, e⟩
            · rintro ⟨k, k1, k2, w, k3, k4⟩
              by_cases ek : k = j
              · subst ek; rw [hq hy] at k3; cases k3; exact k4
              · have := hbb.2 ⟨k, k1, by omega, w, k3, k4⟩
                cases this
          | false =>
            rw [br_false]
            obtain ⟨k, k1, k2, k3⟩ := hbb.1 rfl
            exact ⟨rfl, false, rfl, fun _ => ⟨k, k1, by omega, k3⟩, fun _ => rfl⟩
        · rintro u h13 ⟨rfl, bb, rfl, hbb⟩
          rw [bin_add, vb_some, wrS (by omega)]
          exact hagain2 (j + 1) _ _ _ ⟨rfl, by omega, by omega, rfl, bb, rfl, hbb⟩ (by omega)
      · have ej : j = ps.length := by omega
        subst ej
        cases bb with
        | true =>
          rw [br_true]
          have hn : ¬ ∃ k, i < k ∧ ∃ w, (ps.map wqr)[k]? = some w ∧ w.1 = (wqr ps[i]).1 := by
            rintro ⟨k, k1, w, k3, k4⟩
            have hk := (List.getElem?_eq_some_iff.1 k3).1
            rw [List.length_map] at hk
            have := hbb.2 ⟨k, k1, hk, w, k3, k4⟩
            cases this
          have hd := lst_drop0 (hq hx) hn
          refine (s2.gr c.gr).fld rfl hx rfl (j := 2) rfl ?_
          refine c.cPut cs.toCsD 1 rfl hok.v (by unfold big; omega) fun h14 c => ?_
          refine ⟨β.put (nz 8 ps[i].at') ps[i].v, HB.put D (nz_in (by omega)) hok.v (by unfold big; omega), ?_, fun a => ?_, c⟩
          · rw [HB.putE D (nz_in (by omega)), ← hpb, hd]
            show (β.pu ++ _) ++ _ = _
            rw [List.append_assoc]; rfl
          · rw [HB.putE D (nz_in (by omega))]
            show a ∈ (β.rds _).rd ↔ a ∈ (β.pu ++ _).map (·.1)
            rw [mem_rds, hrb, List.map_append, List.mem_append]
            simp [or_comm]
        | false =>
          rw [br_false]
          obtain ⟨k, k1, k2, w, k3, k4⟩ := hbb.1 rfl
          have hd := lst_drop1 (hq hx) ⟨k, k1, w, k3, k4⟩
          exact ⟨β, HB, by rw [← hd]; exact hpb, hrb, c⟩
    · rintro h10 ⟨β', HB', hpb', hrb', c⟩
      rw [bin_add, vb_some, wrS (by omega)]
      have hl : α.pu.length ≤ big := by unfold big; rw [hpa, List.length_map, List.length_take]; omega
      refine hagain (i + 1, α.put (nz 8 ps[i].at') ps[i].v, β') _ _ ⟨rfl, by dsimp only; omega, HA.put D (nz_in (by omega)) hok.v hl, HB', ?_, hpb', fun a => ?_, hrb', c⟩ (by dsimp only; omega)
      · dsimp only
        rw [HA.putE D (nz_in (by omega)), List.take_add_one, hx, List.map_append]
        show α.pu ++ _ = _
        rw [hpa]; rfl
      · dsimp only
        rw [HA.putE D (nz_in (by omega))]
        show a ∈ (α.rds _).rd ↔ _ ∨ a ∈ (α.pu ++ _).map (·.1)
        rw [mem_rds, hra, List.map_append, List.mem_append]
        simp only [List.map_cons, List.map_nil, List.mem_singleton]
        constructor
        · rintro (h | h | h)
          · exact .inr (.inr h)
          · exact .inl h
          · exact .inr (.inl h)
        · rintro (h | h | h)
          · exact .inr (.inl h)
          · exact .inr (.inr h)
          · exact .inl h
  have ei : i = ps.length := by omega
  subst ei
  rw [List.drop_eq_nil_of_le (by simp)] at hpb
  rw [List.take_length] at hpa
  have hpb : β.pu = lasts (ps.map wqr) := by simpa [lasts] using hpb
  clear hagain again hi h9
  rw [vb_some, bin_sub, vb_some]
  rw [wr64 (n := (rs.length : Int) - 1) (by omega)]
  -- the reads, backwards
  refine Lp1.by (fun (x : Nat × Spc) v h' => v = .int .i64 ((x.1 : Int) - 1) ∧ x.1 ≤ rs.length ∧ InN 8 σ0.kn x.2 ∧ x.2.pu = lasts (ps.map wqr) ∧ (∀ a, a ∈ x.2.rd ↔ a ∈ (rs.drop x.1).map (· % 8) ∨ a ∈ (ps.map wqr).map (·.1)) ∧ Cx (fun _ => False) h h' [rSpace sa α, rSpace sb x.2]) (fun x => x.1) (rs.length, β)
    ⟨rfl, Nat.le_refl _, HB, hpb, (fun a => by rw [hrb, hpb, lst_mem]; simp), c⟩ ?_
  clear c
  rintro ⟨i, γ⟩ v h9 ⟨rfl, hi, HC, hpc, hrc, c⟩ again hagain
  dsimp only at *
  rw [bin_geq, vb_some]
  refine brd (fun h10 => ?_) fun h10 => ?_
  · obtain ⟨k, rfl⟩ : ∃ k, i = k + 1 := ⟨i - 1, by omega⟩
    have hx : rs[k]? = some rs[k] := List.getElem?_eq_getElem (by omega)
    have hok := w1 rs[k] (List.getElem_mem _)
    refine (s1.gr c.gr).one rfl hx (by omega) rfl ?_
    rw [rem8 hok.1, vb_some, cvi_int, vb_some, wr64 (by omega)]
    refine c.cGet cs.toCsD 1 rfl fun h10 c => ?_
    rw [bin_sub, vb_some, wr64 (by omega)]
    refine hagain (k, (γ.get (rs[k] % 8)).2) _ _ ⟨by dsimp only; congr 1; omega, by dsimp only; omega, HC.get D (by omega), by dsimp only; rw [get_pu]; exact hpc, fun a => ?_, c⟩ (by dsimp only; omega)
    dsimp only
    rw [HC.getE D (by omega), mem_rds, hrc, List.drop_eq_getElem_cons (show k < rs.length by omega), List.map_cons, List.mem_cons, or_assoc]
  have ei : i = 0 := by omega
  subst ei
  rw [List.drop_zero] at hrc
  have hrr : ∀ a, a ∈ α.rd ↔ a ∈ γ.rd := fun a => by rw [hra, hrc, hpa]
  have hll : ∀ a, lastP α.pu a = lastP γ.pu a := fun a => by rw [hpa, hpc, lst_last]
  have ee : α.ents = γ.ents := ents_same (HA.en.trans HC.en.symm) HA.nd HC.nd hrr fun a _ => ent_congr (HA.kn.trans HC.kn.symm) (hll a)
  have hrA := HA.rdlen (by omega)
  have hrC := HC.rdlen (by omega)
  have hlC : γ.pu.length ≤ 40 := by have := lst_len (ps.map wqr); rw [List.length_map] at this; rw [hpc]; omega
  have hlA : α.pu.length ≤ 40 := by rw [hpa, List.length_map]; omega
  refine c.cEntries cs.toCsH 0 rfl (by omega) (by rw [HA.kn]; exact hkr) fun x h15 c => ?_
  refine ext0t (ext1t ?_)
  refine c.cEntries cs.toCsH 1 rfl (by omega) (by rw [HC.kn]; exact hkr) fun y h16 c => ?_
  refine ext0t (ext1t ?_)
  refine .here ?_
  rw [ee] at c ⊢
  rw [bin_eql, vb_some]
  refine brd (fun _ => ?_) fun h17 => absurd rfl h17
  refine cs.alike (xs := γ.ents.1) (by have := ents_len γ; omega) (c.sl (i := 2) rfl).sl (c.sl (i := 3) rfl).sl ?_
  rw [br_true]
  have c := c.drop (L := [_, _]) (L' := [_, _])
  refine c.cWrites cs.toCsH 0 rfl (by omega) fun u1 h17 c => ?_
  refine c.cWrites cs.toCsH 1 rfl (by omega) fun u2 h18 c => ?_
  have ew : cpt (sorted (α.pu.map (·.1))) = cpt (sorted (γ.pu.map (·.1))) := writes_same fun a => by rw [hpa, hpc, lst_mem]
  rw [ew] at c
  refine cs.same30 (xs := cpt (sorted (γ.pu.map (·.1)))) (by have := cpt_len (sorted (γ.pu.map (·.1))); rw [sorted_len, List.length_map] at this; omega) (c.sl (i := 2) rfl).sl (c.sl (i := 3) rfl).sl ?_
  rw [br_true]
  have c := c.drop (L := [_, _]) (L' := [_, _])
  refine c.cReads cs.toCsH 0 rfl (by omega) fun u1 h17 c => ?_
  refine c.cReads cs.toCsH 1 rfl (by omega) fun u2 h18 c => ?_
  rw [sorted_same HA.nd HC.nd hrr] at c
  refine cs.same30 (xs := sorted γ.rd) (by rw [sorted_len]; omega) (c.sl (i := 2) rfl).sl (c.sl (i := 3) rfl).sl ?_
  exact hR _ c.gr
end
end Go.En
