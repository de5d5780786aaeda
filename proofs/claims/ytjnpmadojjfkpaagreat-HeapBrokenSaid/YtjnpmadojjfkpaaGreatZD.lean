/-
  Layer 33: a world: words by location; a transaction on it, with any number of entries.
  Layer 38: two memories alike, a fresh memory; the reference.
  Layer 38: the heap in memory and the list of the reference.
  Layer 38: transactions on a world with a heap.
-/
import Derived.Test.YtjnpmadojjfkpaaGreatZC
import Derived.Test.YtjnpmadojjfkpaaGreatXE
namespace Go.En
open Prog Spc Go.Sort

variable {S : Sys} {I : Ids} {h h0 h' : Hp} {F F0 : Fp} {R : Value → Hp → Prop} {L : List Res} {s : Value} {σ τ : Spc}
theorem Mp.ln {α : Type} {ik : IntKind} {E : α → Value} {v : Value} {ps : List (Int × α)} (H : Mp ik E h v ps) : lnM v h = some (.int .i64 ps.length) := by
  obtain ⟨r, es, clock, rfl, hh, he⟩ := H
  have e : es.size = ps.length := by
    have := congrArg List.length he.dat
    rw [List.length_map, List.length_map, Array.length_toList] at this
    exact this
  show (match h[r]? with | some (.map es _) => some (Value.int .i64 es.size) | _ => none) = _
  rw [hh]
  show some (Value.int .i64 es.size) = _
  rw [e]
/-- the words of the first N locations -/
structure WoR (N : Nat) (ps : List (Int × W3)) (m : Int → Int) (V : Int) : Prop where
  nd : (ps.map (·.1)).Nodup
  dom : ∀ a, (lookA ps a).isSome = true ↔ (0 ≤ a ∧ a < N)
  val : ∀ a w, lookA ps a = some w → w.v = m a ∧ w.ref = 0 ∧ 0 ≤ w.ver ∧ w.ver ≤ V
  out : ∀ a, ¬ (0 ≤ a ∧ a < (N : Int)) → m a = 0
  rg : ∀ a, R64 (m a)
section
variable {N : Nat} {ps ps' qs : List (Int × W3)} {m m' : Int → Int} {V V' : Int}
theorem WoR.mem (H : WoR N ps m V) {p : Int × W3} (h : p ∈ ps) : p.2.v = m p.1 ∧ p.2.ref = 0 ∧ 0 ≤ p.2.ver ∧ p.2.ver ≤ V := H.val p.1 p.2 ((lookA_mem H.nd).1 h)
theorem WoR.kn (H : WoR N ps m V) : (newS ps).kn = lookA ps := by
  funext a
  show (lookA ps a).filter _ = _
  cases hx : lookA ps a with
  | none => rfl
  | some w =>
    have := (H.val a w hx).2.1
    simp [Option.filter, this]
theorem WoR.sm (H : WoR N ps m V) : Sm (fun a => 0 ≤ a ∧ a < (N : Int)) (newS ps) (newS ps) m 0 := by
  refine ⟨rfl, rfl, fun a ha => by rw [H.kn]; exact (H.dom a).2 ha, ⟨[], rfl, Nat.le_refl _⟩, fun a => ?_, H.rg⟩
  show (((newS ps).kn a).map (·.v)).getD 0 = m a
  rw [H.kn]
  cases hx : lookA ps a with
  | none =>
    have : ¬ (0 ≤ a ∧ a < (N : Int)) := fun h => by have := (H.dom a).2 h; rw [hx] at this; cases this
    exact (H.out a this).symm
  | some w => exact (H.val a w hx).1
theorem WoR.r64 (H : WoR N ps m V) : ∀ p ∈ ps, R64 p.2.v := fun p hp => by rw [(H.mem hp).1]; exact H.rg _
theorem WoR.gd (H : WoR N ps m V) : Gd (newS ps) := Gd.new H.r64
theorem WoR.keys (H : WoR N ps m V) (a : Int) : a ∈ ps.map (·.1) ↔ (0 ≤ a ∧ a < (N : Int)) := by
  rw [← H.dom]
  constructor
  · intro h
    obtain ⟨p, hp, rfl⟩ := List.mem_map.1 h
    rw [(lookA_mem H.nd (k := p.1) (x := p.2)).1 hp]; rfl
  · intro h
    obtain ⟨w, hw⟩ := Option.isSome_iff_exists.1 h
    exact List.mem_map.2 ⟨(a, w), (lookA_mem H.nd).2 hw, rfl⟩
theorem WoR.len (H : WoR N ps m V) (H' : WoR N ps' m' V') : ps.length = ps'.length := by
  have h1 := nodup_sub H.nd fun a ha => (H'.keys a).2 ((H.keys a).1 ha)
  have h2 := nodup_sub H'.nd fun a ha => (H.keys a).2 ((H'.keys a).1 ha)
  rw [List.length_map, List.length_map] at h1 h2
  omega
theorem WoR.lenN (H : WoR N ps m V) : ps.length = N := by
  have h1 := rdlen (n := N) H.nd fun a ha => (H.keys a).1 ha
  have h2 := nodup_sub (xs := (List.range N).map fun (i : Nat) => (i : Int)) (ys := ps.map (·.1)) (by
    rw [List.Nodup, List.pairwise_map]
    exact (List.nodup_range (n := N)).imp fun h e => h (by omega)) fun a ha => by
    obtain ⟨i, hi, rfl⟩ := List.mem_map.1 ha
    exact (H.keys _).2 ⟨by omega, by have := List.mem_range.1 hi; omega⟩
  rw [List.length_map, List.length_range, List.length_map] at h2
  rw [List.length_map] at h1
  omega
/-- the last written entry of a list -/
def lastE (es : List E6) (a : Int) : Option E6 := es.reverse.find? fun e => e.at' == a && e.wr
theorem lastE_snoc {es : List E6} {e : E6} {a : Int} : lastE (es ++ [e]) a = if (e.at' == a && e.wr) = true then some e else lastE es a := by
  unfold lastE
  rw [List.reverse_append]
  show ([e] ++ es.reverse).find? _ = _
  rw [List.singleton_append, List.find?_cons]
  cases (e.at' == a && e.wr) <;> rfl
def wrW (V : Option E6) (o : Option W3) : Option W3 := match V with
  | some e => some ⟨e.new, e.old.ver + 1, 0⟩
  | none => o
/-- what a transaction must leave of its space -/
structure Good (N : Nat) (ps : List (Int × W3)) (σ : Spc) : Prop where
  gd : Gd σ
  kn : σ.kn = lookA ps
  en : σ.en = false
  pl : σ.pu.length ≤ 1000000
theorem Good.inN (H : Good N ps σ) (W : WoR N ps m V) : InN N (lookA ps) σ :=
  ⟨H.kn, H.en, H.gd.nd, fun a ha => (W.dom a).1 (by have := H.gd.kd a ha; rwa [H.kn] at this), H.gd.wf⟩
theorem Good.rdl (H : Good N ps σ) (W : WoR N ps m V) : σ.rd.length ≤ N := rdlen (n := N) H.gd.nd (H.inN W).rd
theorem Good.ents (H : Good N ps σ) (W : WoR N ps m V) (hN : N ≤ 4096) (hV : V < 4294967295) : σ.ents = (σ.entl, 0) ∨ σ.ents = ([], 15) := by
  have hI := H.inN W
  by_cases hl : σ.rd.length ≤ 32
  · exact .inl (hI.entsE (fun a a0 a1 => (W.dom a).2 ⟨a0, a1⟩) (by omega) (fun a w hw => by have := (W.val a w hw).2.2.2; omega) hl)
  · refine .inr ?_
    have e : σ.entl.length = σ.rd.length := by unfold Spc.entl; rw [List.length_map, sorted_len]
    have hc : chk σ.entl = 15 := by unfold En.chk; rw [if_neg (by omega), if_pos (by omega)]
    unfold Spc.ents
    rw [if_neg (by rw [H.en]; simp), if_neg (by omega), if_pos (by rw [hc]; decide), hc]
/-- the world behind a transaction -/
theorem WoR.next (W : WoR N ps m V) (H : Good N ps σ) (hnd : (qs.map (·.1)).Nodup) (hq : ∀ a, lookA qs a = wrW (if (lastP σ.pu a).isSome then some (σ.ent a) else none) (lookA ps a)) : WoR N qs σ.vw (V + 1) := by
  have hmem : ∀ a, (lastP σ.pu a).isSome = true → a ∈ σ.rd := fun a ha => by
    obtain ⟨p, h1, rfl⟩ := List.mem_map.1 (lastP_mem.1 ha)
    exact H.gd.pu p h1
  have hrd := (H.inN W).rd
  have old : ∀ a, (lastP σ.pu a).isSome = false → σ.vw a = ((lookA ps a).map (·.v)).getD 0 := fun a ha => by rw [vw_old ha, H.kn]
  refine ⟨hnd, fun a => ?_, fun a w hw => ?_, fun a ha => ?_, fun a => H.gd.wf.vw a⟩
  · rw [hq]
    cases hs : (lastP σ.pu a).isSome with
    | true => exact ⟨fun _ => hrd a (hmem a hs), fun _ => rfl⟩
    | false => exact W.dom a
  · rw [hq] at hw
    cases hs : (lastP σ.pu a).isSome with
    | true =>
      rw [hs] at hw
      have hw : some (⟨σ.vw a, ((σ.kn a).getD W0).ver + 1, 0⟩ : W3) = some w := hw
      injection hw with hw
      subst hw
      obtain ⟨w, hw⟩ := Option.isSome_iff_exists.1 (H.gd.kd a (hmem a hs))
      have hv := W.val a w (by rw [← H.kn]; exact hw)
      rw [hw]
      show σ.vw a = σ.vw a ∧ (0 : Int) = 0 ∧ 0 ≤ w.ver + 1 ∧ w.ver + 1 ≤ V + 1
      exact ⟨rfl, rfl, by omega, by omega⟩
    | false =>
      rw [hs] at hw
      have hw : lookA ps a = some w := hw
      have hv := W.val a w hw
      refine ⟨?_, hv.2.1, hv.2.2.1, by omega⟩
      rw [old a hs, hw]; rfl
  · cases hs : (lastP σ.pu a).isSome with
    | true => exact absurd (hrd a (hmem a hs)) ha
    | false =>
      rw [old a hs]
      cases hx : lookA ps a with
      | none => rfl
      | some w => exact absurd ((W.dom a).1 (by rw [hx]; rfl)) ha
end
theorem eqA_W3 (x : W3) : eqA [true, true, true] (mW x) (mW x) = some true := by
  simp [eqA, mW, eqL, eq1]
structure CsV2 (S : Sys) (I : Ids) : Prop extends CsY1 S I where
  hh : CsH S I
section
variable {N : Nat} {ps : List (Int × W3)} {m : Int → Int} {V : Int} {wv fn : Value}
theorem updA_new {ps : List (Int × W3)} {k : Int} {x : W3} (h : k ∉ ps.map (·.1)) : updA ps k x = ps ++ [(k, x)] := by
  refine updA_end ?_
  unfold lookA
  rw [Option.map_eq_none_iff, List.find?_eq_none]
  intro p hp
  simp only [beq_iff_eq]
  exact fun e => h (List.mem_map.2 ⟨p, hp, e⟩)
theorem entl_last {i : Int} (σ : Spc) (hp : ∀ p ∈ σ.pu, p.1 ∈ σ.rd) : lastE σ.entl i = if (lastP σ.pu i).isSome then some (σ.ent i) else none := by
  have key : ∀ e ∈ σ.entl, e.at' = i → e.wr = true → e = σ.ent i ∧ (lastP σ.pu i).isSome = true := fun e he e1 e2 => by
    obtain ⟨a, _, rfl⟩ := List.mem_map.1 he
    have e1 : a = i := e1
    subst e1
    exact ⟨rfl, e2⟩
  unfold lastE
  cases hf : σ.entl.reverse.find? (fun e => e.at' == i && e.wr) with
  | some e =>
    have h1 := List.find?_some hf
    simp only [Bool.and_eq_true, beq_iff_eq] at h1
    obtain ⟨h2, h3⟩ := key e (List.mem_reverse.1 (List.mem_of_find?_eq_some hf)) h1.1 h1.2
    rw [if_pos h3, h2]
  | none =>
    rw [List.find?_eq_none] at hf
    rw [if_neg fun hs => ?_]
    have hm : i ∈ sorted σ.rd := by
      rw [(sorted_perm σ.rd).mem_iff]
      obtain ⟨p, h1, rfl⟩ := List.mem_map.1 (lastP_mem.1 hs)
      exact hp p h1
    refine hf (σ.ent i) (List.mem_reverse.2 (List.mem_map.2 ⟨i, hm, rfl⟩)) ?_
    show (i == i && (lastP σ.pu i).isSome) = true
    rw [hs]; simp
set_option maxHeartbeats 1600000 in
theorem K_Done {G : List Res → Spc → Prop} (cs : CsV2 S I) (hN : N ≤ 4096) (W : WoR N ps m V) (hV : V < 4294967295) (hG : ∀ L' σ', G L' σ' → Good N ps σ') (c : Cx F h0 h (rMp .i64 mW wv ps :: L))
    (hdo : ∀ s h1 K, Cx F h0 h1 (rMp .i64 mW wv ps :: rSpace s (newS ps) :: L) → (∀ L' σ' h2, G L' σ' → Cx F h0 h2 (rMp .i64 mW wv ps :: rSpace s σ' :: L') → K (.tuple #[]) h2) → Cv S.C S.Y fn [s] h1 K)
    (hR : ∀ L' σ' ps' nv ev h3, G L' σ' → WoR N ps' σ'.vw (V + 1) → Cx F h0 h3 (rMp .i64 mW wv ps :: rMp .i64 mW nv ps' :: rSl EE ev σ'.ents.1 :: L') → R (.tuple #[nv, ev, .bool true]) h3) : F_simulcastlaw33_World_Done S I wv fn h R := by
  unfold F_simulcastlaw33_World_Done
  have c := Cx.pack (L := [rMp .i64 mW wv ps]) (M := L) c
  refine c.cNew cs.toCsD 0 rfl W.nd W.r64 fun s h1 c => ?_
  have c := Cx.unpack (L := [rMp .i64 mW wv ps, rSpace s (newS ps)]) (M := L) (c.pick [0, 2, 1])
  refine hdo s h1 _ c fun L' σ' h2 hg c => ?_
  have H := hG L' σ' hg
  have hI := H.inN W
  have hrl := H.rdl W
  have hee := H.ents W hN hV
  have c := Cx.pack (L := [rMp .i64 mW wv ps, rSpace s σ']) (M := L') c
  refine c.cEntries cs.hh 1 rfl (by omega) (fun a w hw => (W.val a w (by rw [← H.kn]; exact hw)).2.1) fun ev h3 c => ?_
  refine ext0t (ext1t ?_)
  refine c.mmk .i64 mW fun k1 h4 c => ?_
  refine c.range 0 rfl fun r mb h5 hm c => ?_
  subst hm
  have c : Cx F h0 h5 [rIt .i64 mW r mb ps [], rSpace s σ', rStar L', rSl EE ev σ'.ents.1, rMp .i64 mW (.map (some k1)) []] := c
  refine Lp0.by (fun (z : List Nat × List (Int × W3)) h' => Cx F h0 h' [rIt .i64 mW r mb ps z.1, rSpace s σ', rStar L', rSl EE ev σ'.ents.1, rMp .i64 mW (.map (some k1)) z.2] ∧ (z.2.map (·.1)).Nodup ∧ (∀ q, q ∈ z.2 ↔ ∃ j ∈ z.1, ps[j]? = some q)) (fun z => ps.length - z.1.length) ([], []) ⟨c, List.nodup_nil, fun q => ⟨(fun h => by cases h), fun ⟨j, h, _⟩ => by cases h⟩⟩ ?_
  clear c
  rintro ⟨D, qs⟩ h6 ⟨c, hnd, hqs⟩ again hagain
  dsimp only at *
  refine c.next 0 rfl (fun hall c => ?_) fun j pr h7 hpj hjD c he => ?_
  rotate_left
  · rw [show ext 0 (.tuple #[.bool true, .int .i64 pr.1, mW pr.2]) = some (.bool true) from rfl, vb_some, br_true, he, vb_some]
    rw [show ext 0 (.tuple #[.int .i64 pr.1, mW pr.2]) = some (.int .i64 pr.1) from rfl, vb_some, show ext 1 (.tuple #[.int .i64 pr.1, mW pr.2]) = some (mW pr.2) from rfl, vb_some]
    refine c.nw EW W0 rfl fun rw_ h8 c => ?_
    refine c.sto 5 rfl pr.2 rfl rfl fun h9 c => ?_
    rw [show lda 3 (at0 rw_) h9 = some (mW pr.2) from (c.va (i := 5) rfl).whole rfl, vb_some]
    have hkn : pr.1 ∉ qs.map (·.1) := fun hm => by
      obtain ⟨q, hq, e⟩ := List.mem_map.1 hm
      obtain ⟨j', hj', hq'⟩ := (hqs q).1 hq
      have h1 := (lookA_mem W.nd (k := q.1) (x := q.2)).1 (List.mem_of_getElem? hq')
      have h2 := (lookA_mem W.nd (k := pr.1) (x := pr.2)).1 (List.mem_of_getElem? hpj)
      have hjj : j' = j := by
        obtain ⟨l1, e1⟩ := List.getElem?_eq_some_iff.1 hq'
        obtain ⟨l2, e2⟩ := List.getElem?_eq_some_iff.1 hpj
        refine (List.getElem_inj (h₀ := by rw [List.length_map]; exact l1) (h₁ := by rw [List.length_map]; exact l2) W.nd).1 ?_
        rw [List.getElem_map, List.getElem_map, e1, e2]; exact e
      exact hjD (hjj ▸ hj')
    refine c.mup 4 rfl pr.1 pr.2 rfl fun h10 c => ?_
    rw [updA_new hkn] at c
    have hDl : (D ++ [j]).length ≤ ps.length := by
      obtain ⟨_, hit, _⟩ := c.get (i := 0) rfl
      exact hit.len
    refine hagain (D ++ [j], qs ++ [pr]) _ ⟨c.pick [0, 1, 2, 3, 4], ?_, fun q => ?_⟩ (by dsimp only; rw [List.length_append, List.length_singleton] at *; omega)
    · rw [List.map_append, List.nodup_append]
      exact ⟨hnd, by simp, fun a ha b hb e => hkn (by simp only [List.map_cons, List.map_nil, List.mem_singleton] at hb; rw [← hb, ← e]; exact ha)⟩
    · rw [List.mem_append, List.mem_singleton, hqs]
      constructor
      · rintro (⟨j', h1, h2⟩ | rfl)
        · exact ⟨j', List.mem_append_left _ h1, h2⟩
        · exact ⟨j, List.mem_append_right _ (List.mem_singleton.2 rfl), hpj⟩
      · rintro ⟨j', h1, h2⟩
        rcases List.mem_append.1 h1 with h1 | h1
        · exact .inl ⟨j', h1, h2⟩
        · rw [List.mem_singleton] at h1
          subst h1
          rw [hpj] at h2
          injection h2 with h2
          exact .inr h2.symm
  rw [show ext 0 (.tuple #[.bool false]) = some (.bool false) from rfl, vb_some, br_false]
  have hsame : ∀ a, lookA qs a = lookA ps a := fun a => by
    have hiff : ∀ w, lookA qs a = some w ↔ lookA ps a = some w := fun w => by
      rw [← lookA_mem hnd, ← lookA_mem W.nd, hqs]
      constructor
      · rintro ⟨j, _, h⟩; exact List.mem_of_getElem? h
      · intro h
        obtain ⟨j, hj⟩ := List.getElem?_of_mem h
        exact ⟨j, hall j (List.getElem?_eq_some_iff.1 hj).1, hj⟩
    cases h1 : lookA ps a with
    | some w => exact (hiff w).2 h1
    | none =>
      cases h2 : lookA qs a with
      | none => rfl
      | some w => rw [(hiff w).1 h2] at h1; cases h1
  clear hagain again hqs hall
  have c : Cx F h0 h6 [rMp .i64 mW (.map (some mb)) ps, rSpace s σ', rStar L', rSl EE ev σ'.ents.1, rMp .i64 mW (.map (some k1)) qs] := c
  have fin : ∀ qs' h9, Cx F h0 h9 [rMp .i64 mW (.map (some mb)) ps, rSpace s σ', rStar L', rSl EE ev σ'.ents.1, rMp .i64 mW (.map (some k1)) qs'] → WoR N qs' σ'.vw (V + 1) → R (.tuple #[.map (some k1), ev, .bool true]) h9 := fun qs' h9 c w =>
    hR L' σ' qs' _ _ h9 hg w (Cx.unpack (L := [rMp .i64 mW (.map (some mb)) ps, rMp .i64 mW (.map (some k1)) qs', rSl EE ev σ'.ents.1]) (M := L') (c.pick [0, 4, 3, 2]))
  rcases hee with hee | hee
  · rw [hee] at c fin ⊢
    dsimp only at c fin ⊢
    have hel : σ'.entl.length ≤ 4096 := by
      have : σ'.entl.length = σ'.rd.length := by unfold Spc.entl; rw [List.length_map, sorted_len]
      omega
    rw [(c.sl (i := 3) rfl).sl.ln, vb_some]
    refine Lp1.by (fun (z : Nat × List (Int × W3)) v h' => v = .int .i64 z.1 ∧ z.1 ≤ σ'.entl.length ∧ (z.2.map (·.1)).Nodup ∧ (∀ a, lookA z.2 a = wrW (lastE (σ'.entl.take z.1) a) (lookA ps a)) ∧ Cx F h0 h' [rMp .i64 mW (.map (some mb)) ps, rSpace s σ', rStar L', rSl EE ev σ'.entl, rMp .i64 mW (.map (some k1)) z.2]) (fun z => σ'.entl.length - z.1) (0, qs)
      ⟨rfl, Nat.zero_le _, hnd, fun a => hsame a, c⟩ ?_
    clear c hsame hnd
    rintro ⟨i, qs⟩ v h7 ⟨rfl, hi, hnd, hq, c⟩ again hagain
    dsimp only at *
    rw [bin_lss, vb_some]
    refine brd (fun hlt => ?_) fun hge => ?_
    · have hx : σ'.entl[i]? = some σ'.entl[i] := List.getElem?_eq_getElem (by omega)
      have hmem := List.getElem_mem (l := σ'.entl) (n := i) (by omega)
      obtain ⟨a, ha, hea⟩ : ∃ a ∈ σ'.rd, σ'.entl[i] = σ'.ent a := by
        obtain ⟨a, ha, e⟩ := List.mem_map.1 hmem
        exact ⟨a, (sorted_perm σ'.rd).mem_iff.1 ha, e.symm⟩
      rw [hea] at hx
      clear hmem hea
      obtain ⟨w, hw⟩ := Option.isSome_iff_exists.1 ((W.dom a).2 (hI.rd a ha))
      have hold : (σ'.ent a).old = w := by show (σ'.kn a).getD W0 = w; rw [H.kn, hw]; rfl
      have hver := W.val a w hw
      have hqa : (lookA qs a).isSome = true := by
        rw [hq]
        unfold wrW
        split
        · rfl
        · rw [hw]; rfl
      refine Jn0.at (fun h' => ∃ qs', (qs'.map (·.1)).Nodup ∧ (∀ b, lookA qs' b = wrW (lastE (σ'.entl.take (i + 1)) b) (lookA ps b)) ∧ Cx F h0 h' [rMp .i64 mW (.map (some mb)) ps, rSpace s σ', rStar L', rSl EE ev σ'.entl, rMp .i64 mW (.map (some k1)) qs']) ?_ ?_
      · refine (c.sl (i := 3) rfl).sl.whole rfl hx rfl ?_
        have et : σ'.entl.take (i + 1) = σ'.entl.take i ++ [σ'.ent a] := by rw [List.take_add_one, hx]; rfl
        rw [et]
        refine c.nw EE ⟨0, W0, 0, false⟩ rfl fun re h8 c => ?_
        refine c.sto 5 rfl (σ'.ent a) rfl rfl fun h9 c => ?_
        refine (c.va (i := 5) rfl).fld (j := 0) rfl ?_
        rw [show (σ'.ent a).at' = a from rfl, (c.mp (i := 4) rfl).lookOk, vb_some]
        refine ext0t (ext1t ?_)
        have hw3 : ∃ w : W3, (Option.map mW (lookA qs a)).getD (Value.agg #[Value.int IntKind.i64 0, Value.int IntKind.u32 0, Value.int IntKind.u32 0]) = mW w := by
          cases lookA qs a with
          | none => exact ⟨W0, rfl⟩
          | some w => exact ⟨w, rfl⟩
        obtain ⟨w', hw'⟩ := hw3
        rw [hw', hqa]
        refine c.nw EW W0 rfl fun rw_ h10 c => ?_
        refine c.sto 6 rfl w' rfl rfl fun h11 c => ?_
        refine Jn1.at (fun v h' => v = .bool false ∧ h' = h11) ?_ ?_
        · rw [uno_nb, vb_some, Bool.not_true, br_false]
          have hrow : Row EW h11 re (0 + 1) (σ'.ent a).old := EE_old (c.va (i := 5) rfl).row
          refine En.vb (fa_add _ _ _) (En.vb (hrow.lda rfl) ?_)
          refine (c.va (i := 5) rfl).fld (j := 0) rfl ?_
          rw [show (σ'.ent a).at' = a from rfl, (c.mp (i := 0) rfl).look, vb_some, hw, hold]
          refine En.vb (v := .bool false) ?_ ⟨rfl, rfl⟩
          show neg? (eqA [true, true, true] (mW w) (mW w)) = _
          rw [eqA_W3]; rfl
        rintro v h12 ⟨rfl, rfl⟩
        rw [br_false]
        refine (c.va (i := 5) rfl).fld (j := 5) rfl ?_
        cases hwr : (σ'.ent a).wr with
        | true =>
          rw [br_true]
          refine (c.va (i := 5) rfl).fld (j := 0) rfl ?_
          refine (c.va (i := 5) rfl).fld (j := 4) rfl ?_
          refine En.vb (fa_add _ _ _) (En.vb (fa_add _ _ _) (En.vb ((c.va (i := 5) rfl).row.ldc (j := 2) rfl) ?_))
          rw [hold]
          have hadd : bin .add (.int .u32 w.ver) (.int .u32 1) = some (.int .u32 (w.ver + 1)) := by
            rw [bin_add]
            congr 2
            simp only [IntKind.wrap, IntKind.bits, IntKind.signed]
            simp
            omega
          rw [hadd, vb_some, bldW, vb_some]
          refine c.mup 4 rfl a (⟨(σ'.ent a).new, w.ver + 1, 0⟩ : W3) rfl fun h13 c => ?_
          refine ⟨_, nodup_updA _ _ hnd, fun b => ?_, c.pick [0, 1, 2, 3, 4]⟩
          rw [lookA_updA, lastE_snoc, hwr, show (σ'.ent a).at' = a from rfl, Bool.and_true]
          by_cases e : b = a
          · rw [if_pos e, if_pos (by rw [e]; simp)]
            show _ = some (⟨(σ'.ent a).new, (σ'.ent a).old.ver + 1, 0⟩ : W3)
            rw [hold]
          · rw [if_neg e, if_neg (by simpa using fun h => e h.symm)]
            exact hq b
        | false =>
          rw [br_false]
          refine ⟨qs, hnd, fun b => ?_, c.pick [0, 1, 2, 3, 4]⟩
          rw [lastE_snoc, hwr, Bool.and_false, if_neg (by simp)]
          exact hq b
      · clear c
        rintro h8 ⟨qs', hnd', hq', c⟩
        rw [bin_add, vb_some, wrS (by omega)]
        exact hagain (i + 1, qs') _ _ ⟨rfl, by dsimp only; omega, hnd', hq', c⟩ (by dsimp only; omega)
    · rw [List.take_of_length_le (by omega)] at hq
      have w := W.next H hnd fun a => by rw [hq, entl_last σ' H.gd.pu]
      refine .here ?_
      refine En.vb (v := .bool false) rfl ?_
      rw [br_false]
      refine .here ?_
      rw [eqI, vb_some, br_true]
      obtain ⟨F', pa⟩ := c.get (i := 1) rfl
      refine cs.ended pa ?_
      rw [H.en, uno_nb, vb_some]
      exact fin qs _ c w
  · rw [hee] at c fin ⊢
    dsimp only at c fin ⊢
    rw [(c.sl (i := 3) rfl).sl.ln, vb_some]
    refine Lp1.by (fun (_ : Unit) v h' => v = .int .i64 0 ∧ h' = h6) (fun _ => 0) () ⟨rfl, rfl⟩ ?_
    rintro _ v h7 ⟨rfl, rfl⟩ again hagain
    rw [bin_lss, vb_some]
    refine brd (fun h => absurd h (by simp)) fun _ => ?_
    refine .here ?_
    rw [eqI, vb_some, br_true]
    refine c.cWrites cs.hh 1 rfl H.pl fun wv h8 c => ?_
    have hlw : ∀ b, b ∈ cpt (sorted (σ'.pu.map (·.1))) ↔ (lastP σ'.pu b).isSome = true := fun b => by
      rw [cpt_mem, (sorted_perm _).mem_iff, lastP_mem]
    have hll : (cpt (sorted (σ'.pu.map (·.1)))).length ≤ 1000000 := by
      have h1 := cpt_len (sorted (σ'.pu.map (·.1)))
      rw [sorted_len, List.length_map] at h1
      have := H.pl; omega
    generalize cpt (sorted (σ'.pu.map (·.1))) = l at *
    rw [(c.sl (i := 5) rfl).sl.ln, vb_some]
    refine Lp1.by (fun (z : Nat × List (Int × W3)) v h' => v = .int .i64 z.1 ∧ z.1 ≤ l.length ∧ (z.2.map (·.1)).Nodup ∧ (∀ b, lookA z.2 b = if b ∈ l.take z.1 then some ⟨σ'.vw b, ((lookA ps b).getD W0).ver + 1, 0⟩ else lookA ps b) ∧ Cx F h0 h' [rMp .i64 mW (.map (some mb)) ps, rSpace s σ', rStar L', rSl EE ev [], rMp .i64 mW (.map (some k1)) z.2, rSl EI1 wv l]) (fun z => l.length - z.1) (0, qs)
      ⟨rfl, Nat.zero_le _, hnd, (fun b => by rw [hsame]; rfl), c⟩ ?_
    clear c hsame hnd
    rintro ⟨i, qs⟩ v h9 ⟨rfl, hi, hnd, hq, c⟩ again2 hagain2
    dsimp only at *
    rw [bin_lss, vb_some]
    refine brd (fun hlt => ?_) fun hge => ?_
    · have hlt : i < l.length := by omega
      have hx : l[i]? = some l[i] := List.getElem?_eq_getElem hlt
      have hin := (hlw _).1 (List.getElem_mem hlt)
      have ht : l.take (i + 1) = l.take i ++ [l[i]] := by rw [List.take_add_one, hx]; rfl
      generalize l[i] = a at *
      have hrd : a ∈ σ'.rd := by
        obtain ⟨p, h1, rfl⟩ := List.mem_map.1 (lastP_mem.1 hin)
        exact H.gd.pu p h1
      obtain ⟨w, hw⟩ := Option.isSome_iff_exists.1 ((W.dom a).2 (hI.rd a hrd))
      have hver := W.val a w hw
      have hget : σ'.get a = (σ'.vw a, σ') := by
        unfold Spc.get
        rw [if_neg (by rw [H.en]; simp), if_pos (H.gd.kd a hrd)]
        unfold Spc.rds
        rw [if_pos hrd]
      refine (c.sl (i := 5) rfl).sl.one rfl hx rfl rfl ?_
      rw [(c.mp (i := 0) rfl).look, vb_some, hw]
      refine En.vb (v := .int .u32 w.ver) rfl ?_
      have hadd : bin .add (.int .u32 w.ver) (.int .u32 1) = some (.int .u32 (w.ver + 1)) := by
        rw [bin_add]
        congr 2
        simp only [IntKind.wrap, IntKind.bits, IntKind.signed]
        simp
        omega
      rw [hadd, vb_some]
      refine c.cGet cs.toCsD 1 rfl fun h10 c => ?_
      rw [hget] at c ⊢
      refine ⟨by rw [(c.mp (i := 0) rfl).look, hw], ?_⟩
      rw [bldW, vb_some]
      refine c.mup 4 rfl a (⟨σ'.vw a, w.ver + 1, 0⟩ : W3) rfl fun h11 c => ?_
      rw [bin_add, vb_some, wrS (by omega)]
      refine hagain2 (i + 1, _) _ _ ⟨rfl, by dsimp only; omega, nodup_updA _ _ hnd, fun b => ?_, c⟩ (by dsimp only; omega)
      dsimp only
      rw [lookA_updA, ht]
      by_cases e : b = a
      · subst e
        rw [if_pos rfl, if_pos (by simp), hw]; rfl
      · rw [if_neg e, hq]
        by_cases e2 : b ∈ l.take i
        · rw [if_pos e2, if_pos (List.mem_append_left _ e2)]
        · rw [if_neg e2, if_neg fun h => by
            rcases List.mem_append.1 h with h | h
            · exact e2 h
            · exact e (List.mem_singleton.1 h)]
    have ei : i = l.length := by omega
    subst ei
    rw [List.take_length] at hq
    have w := W.next H hnd fun a => by
      rw [hq]
      by_cases hs : (lastP σ'.pu a).isSome = true
      · rw [if_pos ((hlw a).2 hs), if_pos hs]
        show _ = some (⟨σ'.vw a, ((σ'.kn a).getD W0).ver + 1, 0⟩ : W3)
        rw [H.kn]
      · rw [if_neg fun h => hs ((hlw a).1 h), if_neg hs]; rfl
    refine .here ?_
    refine En.vb (v := .bool false) rfl ?_
    rw [br_false, vb_some, br_true]
    obtain ⟨F', pa⟩ := c.get (i := 1) rfl
    refine cs.ended pa ?_
    rw [H.en, uno_nb, vb_some]
    exact fin qs _ (c.pick [0, 1, 2, 3, 4]) w
end
end Go.En
namespace Go.En
open Prog Spc Go.Sort

variable {S : Sys} {I : Ids} {h h0 h' : Hp} {F F0 : Fp} {R : Value → Hp → Prop} {L : List Res} {s : Value} {σ τ : Spc}
abbrev SH : Type := Option Addr × Nat × Nat
abbrev shV (u : SH) : Value := .slice u.1 u.2.1 u.2.2
theorem Ow.isH {α : Type} {E : Enc α} {v : Value} {xs : List α} (H : Ow E h v xs) : ∃ u : SH, v = shV u := by
  rcases H with ⟨rfl, _⟩ | ⟨r, o, cap, rfl, _⟩
  · exact ⟨(none, 0, 0), rfl⟩
  · exact ⟨(_, _, _), rfl⟩
theorem Sl.isNil {α : Type} {E : Enc α} {v : Value} {xs : List α} (H : Sl E h v xs) : ∃ b, eqS v (.slice none 0 0) = some b ∧ (b = true → xs = []) := by
  obtain ⟨a, cap, rfl, _, h2, _⟩ := H
  cases a with
  | none => exact ⟨true, rfl, fun _ => List.eq_nil_of_length_eq_zero (by have := h2 rfl; omega)⟩
  | some a => exact ⟨false, rfl, fun e => by cases e⟩
section
variable {N : Nat} {ps qs : List (Int × W3)} {m : Int → Int} {V V' : Int} {av bv : Value}
theorem K_Alike (W : WoR N ps m V) (W' : WoR N qs m V') (c : Cx F h0 h (rMp .i64 mW av ps :: rMp .i64 mW bv qs :: L)) (hR : ∀ h', Cx F h0 h' (rMp .i64 mW av ps :: rMp .i64 mW bv qs :: L) → R (.bool true) h') : F_simulcastlaw33_Alike S I av bv h R := by
  unfold F_simulcastlaw33_Alike
  have c := Cx.pack (L := [rMp .i64 mW av ps, rMp .i64 mW bv qs]) (M := L) c
  rw [(c.mp (i := 0) rfl).ln, vb_some, (c.mp (i := 1) rfl).ln, vb_some, W.len W', neI, vb_some, br_false]
  refine c.range 0 rfl fun r mb h5 hm c => ?_
  subst hm
  refine Lp0.by (fun (D : List Nat) h' => Cx F h0 h' [rIt .i64 mW r mb ps D, rMp .i64 mW bv qs, rStar L]) (fun D => ps.length - D.length) [] c ?_
  clear c
  rintro D h6 c again hagain
  refine c.next 0 rfl (fun hall c => ?_) fun j pr h7 hpj hjD c he => ?_
  · rw [show ext 0 (.tuple #[.bool false]) = some (.bool false) from rfl, vb_some, br_false]
    exact hR _ (Cx.unpack (L := [rMp .i64 mW (.map (some mb)) ps, rMp .i64 mW bv qs]) (M := L) c)
  · rw [show ext 0 (.tuple #[.bool true, .int .i64 pr.1, mW pr.2]) = some (.bool true) from rfl, vb_some, br_true, he, vb_some]
    rw [show ext 0 (.tuple #[.int .i64 pr.1, mW pr.2]) = some (.int .i64 pr.1) from rfl, vb_some, show ext 1 (.tuple #[.int .i64 pr.1, mW pr.2]) = some (mW pr.2) from rfl, vb_some]
    refine c.nw EW W0 rfl fun rw_ h8 c => ?_
    refine c.sto 3 rfl pr.2 rfl rfl fun h9 c => ?_
    have hp := List.mem_of_getElem? hpj
    have h1 := (W.keys pr.1).1 (List.mem_map.2 ⟨pr, hp, rfl⟩)
    obtain ⟨w, hw⟩ := Option.isSome_iff_exists.1 ((W'.dom pr.1).2 h1)
    have hv1 := (W.mem hp).1
    have hv2 := (W'.val pr.1 w hw).1
    rw [(c.mp (i := 1) rfl).look, vb_some, hw]
    refine En.vb (show fdc 0 (mW w) = some (.int .i64 w.v) from rfl) ?_
    refine (c.va (i := 3) rfl).fld (j := 0) rfl ?_
    rw [hv1, hv2, neI, vb_some, br_false]
    have hDl : (D ++ [j]).length ≤ ps.length := by
      obtain ⟨_, hit, _⟩ := c.get (i := 0) rfl
      exact hit.len
    refine hagain (D ++ [j]) _ (c.pick [0, 1, 2]) ?_
    rw [List.length_append, List.length_singleton] at *
    omega
theorem wz33 : bldS [(0, 1), (1, 1), (2, 1)] #[Value.int IntKind.i64 0, Value.int IntKind.u32 0, Value.int IntKind.u32 0] [] = some (mW W0) := by kernel_rfl
theorem WoR.fresh : WoR N (knF (fun _ => W0) N) (fun _ => 0) 0 := by
  have hl : ∀ a, lookA (knF (fun _ => W0) N) a = if 0 ≤ a ∧ a < (N : Int) then some W0 else none := fun a => knF_look
  refine ⟨knF_nodup _ _, fun a => ?_, fun a w hw => ?_, fun _ _ => rfl, fun _ => ⟨by decide, by decide⟩⟩
  · rw [hl]
    split
    · rename_i h; exact ⟨fun _ => h, fun _ => rfl⟩
    · rename_i h; exact ⟨(fun e => by cases e), fun e => absurd e h⟩
  · rw [hl] at hw
    split at hw
    · injection hw with hw
      subst hw
      exact ⟨rfl, rfl, by decide, by decide⟩
    · cases hw
theorem K_Fresh (hN : N ≤ 100000) (hR : ∀ k h', Cx (fun _ => False) h h' [rMp .i64 mW (.map (some k)) (knF (fun _ => W0) N)] → R (.map (some k)) h') : F_simulcastlaw33_Fresh S I (.int .i64 N) h R := by
  unfold F_simulcastlaw33_Fresh
  refine (Cx.start0 h).mmk .i64 mW fun km h1 c => ?_
  refine Lp1.by (fun (j : Nat) v h' => v = .int .i64 j ∧ j ≤ N ∧ Cx (fun _ => False) h h' [rMp .i64 mW (.map (some km)) (knF (fun _ => W0) j)]) (fun j => N - j) 0 ⟨rfl, Nat.zero_le _, c⟩ ?_
  clear c
  rintro j v h4 ⟨rfl, hj, c⟩ again hagain
  rw [bin_lss, vb_some]
  refine brd (fun h5 => ?_) fun h5 => ?_
  · rw [wz33, vb_some]
    refine c.mup 0 rfl (j : Int) W0 rfl fun h6 c => ?_
    have c : Cx (fun _ => False) h h6 [rMp .i64 mW (.map (some km)) (updA (knF (fun _ => W0) j) (j : Int) ((fun _ => W0) j))] := c
    rw [knF_upd] at c
    rw [bin_add, vb_some, wrS (by omega)]
    exact hagain (j + 1) _ _ ⟨rfl, by omega, c⟩ (by omega)
  · have ej : j = N := by omega
    subst ej
    exact hR _ _ c
end
theorem K_made {n : Int} (hn : 0 ≤ n ∧ n ≤ 255) (hR : ∀ h', Gr h h' → R (vHe ⟨1, 64, n % 41⟩ 16) h') : F_simulcastlaw38_made S I (.int .u8 n) h R := by
  unfold F_simulcastlaw38_made
  refine (Cx.start0 h).nw EHe (⟨0, 0, 0⟩, 0) rfl fun r h1 c => ?_
  rw [remI hn.1 (by decide), vb_some, cvi_int, vb_some, wr64 ⟨by omega, by omega⟩]
  refine En.vb (v := vP ⟨1, 64, n % 41⟩) (by kernel_rfl) ?_
  refine En.vb (v := vHe ⟨1, 64, n % 41⟩ 16) (by kernel_rfl) ?_
  refine c.sto 0 rfl (⟨1, 64, n % 41⟩, 16) rfl rfl fun h2 c => ?_
  rw [show lda 4 (at0 r) h2 = some (vHe ⟨1, 64, n % 41⟩ 16) from (c.va (i := 0) rfl).whole rfl, vb_some]
  exact hR _ c.gr
/-- an item of the reference -/
structure Im where
  P : Int
  V : Int
  O : Int
  B : Int
def EIm : Enc Im := { n := 4, c := fun x => [.int .i64 x.P, .int .i64 x.V, .int .i64 x.O, .int .i64 x.B], len := fun _ => rfl, one := fun a v h => by simp only [List.mem_cons, List.not_mem_nil, or_false] at h; rcases h with rfl | rfl | rfl | rfl <;> rfl }
def vIm (x : Im) : Value := .agg ⟨EIm.c x⟩
def itLt (a b : Im) : Bool := klt (a.P, a.O) (b.P, b.O)
def rPut (l : List Im) (x : Im) : List Im := l.takeWhile (fun y => itLt y x) ++ x :: l.dropWhile fun y => itLt y x
/-- what a search finds -/
def FindR (l : List Im) (b z : Int) : Prop := (∃ (i : Nat) (it : Im), z = i ∧ l[i]? = some it ∧ it.B = b) ∨ (z = -1 ∧ ∀ it ∈ l, it.B ≠ b)
structure CsV3 (S : Sys) (I : Ids) : Prop extends CsV2 S I where
  rahead : ∀ {a b : Value} {h R}, F_simulcastref38_ahead S I a b h R → S.C I.f_simulcastref38_ahead [a, b] h R
section
variable {l : List Im} {v : Value} {x : Im} {b n : Int}
theorem K_rAhead (cs : CsV3 S I) (a b : Im) : Pur S I.f_simulcastref38_ahead [vIm a, vIm b] (.bool (itLt a b)) := by
  refine Pur.of fun h R c hR => cs.rahead ?_
  unfold F_simulcastref38_ahead
  refine c.nw EIm a rfl fun ra h1 c => ?_
  refine c.nw EIm b rfl fun rb h2 c => ?_
  refine (c.va (i := 0) rfl).fld (j := 0) rfl ?_
  refine (c.va (i := 1) rfl).fld (j := 0) rfl ?_
  rw [bin_neq, vb_some]
  have hlt : ∀ q : Bool, (q = true ↔ (a.P < b.P ∨ a.P = b.P ∧ a.O < b.O)) → itLt a b = q := fun q hq => by
    cases q with
    | true => exact klt_iff.2 (hq.1 rfl)
    | false => exact klt_f.2 fun h => by cases hq.2 h
  refine brd (fun e => ?_) fun e => ?_
  · refine (c.va (i := 0) rfl).fld (j := 0) rfl ?_
    refine (c.va (i := 1) rfl).fld (j := 0) rfl ?_
    rw [bin_lss, vb_some, ← hlt (decide (a.P < b.P)) (by rw [decide_eq_true_eq]; omega)]
    exact hR _ _ c
  · refine (c.va (i := 0) rfl).fld (j := 2) rfl ?_
    refine (c.va (i := 1) rfl).fld (j := 2) rfl ?_
    rw [bin_lss, vb_some, ← hlt (decide (a.O < b.O)) (by rw [decide_eq_true_eq]; omega)]
    exact hR _ _ c
theorem K_rNodes (hn : 0 ≤ n ∧ n ≤ 1000000) (hR : R (.int .i64 (n + (n + 7) / 8)) h) : F_simulcastref38_Nodes S I (.int .i64 n) h R := by
  unfold F_simulcastref38_Nodes
  rw [addI ⟨by omega, by omega⟩, vb_some, quoI ⟨by omega, by omega⟩ (by decide), vb_some, addI ⟨by omega, by omega⟩, vb_some]
  exact hR
theorem K_rFind (H : Sl EIm h v l) (hl : l.length ≤ 100000) (hR : ∀ z, FindR l b z → R (.int .i64 z) h) : F_simulcastref38_Find S I v (.int .i64 b) h R := by
  unfold F_simulcastref38_Find
  refine Lp1.by (fun (i : Nat) u h' => u = .int .i64 i ∧ i ≤ l.length ∧ (∀ j it, j < i → l[j]? = some it → it.B ≠ b) ∧ h' = h) (fun i => l.length - i) 0 ⟨rfl, Nat.zero_le _, (fun j it hj => by omega), rfl⟩ ?_
  rintro i u h1 ⟨rfl, hi, hn, rfl⟩ again hagain
  rw [H.ln, vb_some, bin_lss, vb_some]
  refine brd (fun e => ?_) fun e => ?_
  · have hlt : i < l.length := by omega
    have hx : l[i]? = some l[i] := List.getElem?_eq_getElem hlt
    generalize l[i] = y at *
    refine H.fld rfl hx rfl (j := 3) rfl ?_
    rw [bin_eql, vb_some]
    refine brd (fun e2 => hR _ (.inl ⟨i, y, rfl, hx, e2⟩)) fun e2 => ?_
    rw [bin_add, vb_some, wrS (by omega)]
    refine hagain (i + 1) _ _ ⟨rfl, by omega, fun j it hj he => ?_, rfl⟩ (by omega)
    by_cases e3 : j = i
    · subst e3; rw [hx] at he; injection he with he; subst he; exact e2
    · exact hn j it (by omega) he
  · refine hR _ (.inr ⟨rfl, fun it hit => ?_⟩)
    obtain ⟨j, hj⟩ := List.getElem?_of_mem hit
    exact hn j it (by have := (List.getElem?_eq_some_iff.1 hj).1; omega) hj
theorem K_rWithout {i : Nat} (H : Sl EIm h v l) (hl : l.length ≤ 100000) (hi : i < l.length) (hR : ∀ w h', Cx (fun _ => False) h h' [rSl EIm (shV w) (l.eraseIdx i)] → R (shV w) h') : F_simulcastref38_Without S I v (.int .i64 (i : Int)) h R := by
  unfold F_simulcastref38_Without
  obtain ⟨w1, e1, s1, _⟩ := H.sub (n := 4) rfl (lo := none) (hi := some (.int .i64 (i : Int))) (l := 0) (u := i) (.inl ⟨rfl, rfl⟩) (.inr ⟨_, _, rfl, rfl⟩) (Nat.zero_le _) (by omega)
  rw [e1, vb_some]
  have c := (Cx.start0 h).nil EIm
  have lt1 : ((l.take i).drop 0).length = i := by rw [List.drop_zero, List.length_take]; omega
  refine c.ap (xs := []) 0 rfl s1 rfl rfl (by rw [lt1, List.length_nil]; omega) (by rw [lt1, List.length_nil]; omega) fun w2 h1 c => ?_
  rw [addI ⟨by omega, by omega⟩, vb_some]
  obtain ⟨w3, e3, s3, _⟩ := (H.gr c.gr).sub (n := 4) rfl (lo := some (.int .i64 ((i : Int) + 1))) (hi := none) (l := i + 1) (u := l.length) (.inr ⟨_, _, rfl, by omega⟩) (.inl ⟨rfl, rfl⟩) (by omega) (Nat.le_refl _)
  rw [e3, vb_some]
  have lt3 : ((l.take l.length).drop (i + 1)).length ≤ l.length := by rw [List.length_drop, List.length_take]; omega
  refine c.ap 0 rfl s3 rfl rfl (by rw [List.nil_append, lt1]; omega) (by rw [List.nil_append, lt1]; omega) fun w4 h2 c => ?_
  obtain ⟨u, rfl⟩ := (c.sl (i := 0) rfl).isH
  refine hR u _ ?_
  rw [List.eraseIdx_eq_take_drop_succ]
  have e : [] ++ (l.take i).drop 0 ++ (l.take l.length).drop (i + 1) = l.take i ++ l.drop (i + 1) := by simp
  rw [← e]; exact c
theorem tw_take {p : Im → Bool} : ∀ {l : List Im} {i : Nat}, (∀ j it, j < i → l[j]? = some it → p it = true) → i ≤ l.length → (∀ it, l[i]? = some it → p it = false) → l.takeWhile p = l.take i ∧ l.dropWhile p = l.drop i
  | [], i, _, h2, _ => by
    have : i = 0 := by simpa using h2
    subst this; exact ⟨rfl, rfl⟩
  | y :: l, 0, _, _, h3 => by
    have := h3 y rfl
    rw [List.takeWhile_cons, List.dropWhile_cons, this]; exact ⟨rfl, rfl⟩
  | y :: l, i + 1, h1, h2, h3 => by
    have hy := h1 0 y (by omega) rfl
    obtain ⟨a, b⟩ := tw_take (p := p) (l := l) (i := i) (fun j it hj he => h1 (j + 1) it (by omega) he) (by simpa using h2) fun it he => h3 it he
    rw [List.takeWhile_cons, List.dropWhile_cons, hy, if_pos rfl, if_pos rfl, a, b]; exact ⟨rfl, rfl⟩
theorem K_rPut (cs : CsV3 S I) (H : Sl EIm h v l) (hl : l.length ≤ 100000) (hR : ∀ w h', Cx (fun _ => False) h h' [rSl EIm (shV w) (rPut l x)] → R (shV w) h') : F_simulcastref38_Put S I v (vIm x) h R := by
  unfold F_simulcastref38_Put
  refine (Cx.start0 h).nw EIm x rfl fun rx h1 c => ?_
  refine Lp1.by (fun (i : Nat) u h' => u = .int .i64 i ∧ i ≤ l.length ∧ (∀ j it, j < i → l[j]? = some it → itLt it x = true) ∧ Cx (fun _ => False) h h' [rVar EIm rx x]) (fun i => l.length - i) 0 ⟨rfl, Nat.zero_le _, (fun j it hj => by omega), c⟩ ?_
  clear c
  rintro i u h2 ⟨rfl, hi, hn, c⟩ again hagain
  refine Jn1.at (fun w h' => ∃ q : Bool, w = .bool q ∧ (q = true → ∃ it, l[i]? = some it ∧ itLt it x = true) ∧ (q = false → ∀ it, l[i]? = some it → itLt it x = false) ∧ Cx (fun _ => False) h h' [rVar EIm rx x]) ?_ ?_
  · rw [H.ln, vb_some, bin_lss, vb_some]
    refine brd (fun e => ?_) fun e => ?_
    · have hlt : i < l.length := by omega
      have hx : l[i]? = some l[i] := List.getElem?_eq_getElem hlt
      generalize l[i] = y at *
      refine (H.gr c.gr).whole rfl hx rfl ?_
      rw [show lda 4 (at0 rx) h2 = some (vIm x) from (c.va (i := 0) rfl).whole rfl, vb_some]
      refine c.pur (K_rAhead cs y x) fun h3 c => ?_
      exact ⟨_, rfl, fun e => ⟨y, hx, e⟩, (fun e it he => by rw [hx] at he; injection he with he; subst he; exact e), c⟩
    · exact ⟨false, rfl, (fun e => by cases e), (fun _ it he => by have := (List.getElem?_eq_some_iff.1 he).1; omega), c⟩
  clear c
  rintro w h3 ⟨q, rfl, hq1, hq2, c⟩
  cases q with
  | true =>
    obtain ⟨y, hx, hy⟩ := hq1 rfl
    have hlt := (List.getElem?_eq_some_iff.1 hx).1
    rw [br_true, bin_add, vb_some, wrS (by omega)]
    refine hagain (i + 1) _ _ ⟨rfl, by omega, fun j it hj he => ?_, c⟩ (by omega)
    by_cases e3 : j = i
    · subst e3; rw [hx] at he; injection he with he; subst he; exact hy
    · exact hn j it (by omega) he
  | false =>
    rw [br_false]
    obtain ⟨ea, eb⟩ := tw_take hn hi (hq2 rfl)
    obtain ⟨w1, e1, s1, _⟩ := (H.gr c.gr).sub (n := 4) rfl (lo := none) (hi := some (.int .i64 (i : Int))) (l := 0) (u := i) (.inl ⟨rfl, rfl⟩) (.inr ⟨_, _, rfl, rfl⟩) (Nat.zero_le _) (by omega)
    rw [e1, vb_some]
    have c := c.nil EIm
    have lt1 : ((l.take i).drop 0).length = i := by rw [List.drop_zero, List.length_take]; omega
    refine c.ap (xs := []) 1 rfl s1 rfl rfl (by rw [lt1, List.length_nil]; omega) (by rw [lt1, List.length_nil]; omega) fun w2 h4 c => ?_
    rw [show lda 4 (at0 rx) h4 = some (vIm x) from (c.va (i := 0) rfl).whole rfl, vb_some]
    refine c.app1 1 rfl x rfl rfl rfl (by rw [List.nil_append, lt1]; omega) (by rw [List.nil_append, lt1]; omega) fun w5 h5 c => ?_
    obtain ⟨w3, e3, s3, _⟩ := (H.gr c.gr).sub (n := 4) rfl (lo := some (.int .i64 (i : Int))) (hi := none) (l := i) (u := l.length) (.inr ⟨_, _, rfl, rfl⟩) (.inl ⟨rfl, rfl⟩) (by omega) (Nat.le_refl _)
    rw [e3, vb_some]
    have lt3 : ((l.take l.length).drop i).length ≤ l.length := by rw [List.length_drop, List.length_take]; omega
    have lt4 : ([] ++ (l.take i).drop 0 ++ [x]).length = i + 1 := by rw [List.nil_append, List.length_append, lt1]; rfl
    refine c.ap 1 rfl s3 rfl rfl (by rw [lt4]; omega) (by rw [lt4]; omega) fun w4 h6 c => ?_
    obtain ⟨u, rfl⟩ := (c.sl (i := 1) rfl).isH
    refine hR u _ ?_
    have e : [] ++ (l.take i).drop 0 ++ [x] ++ (l.take l.length).drop i = rPut l x := by unfold rPut; rw [ea, eb]; simp
    rw [← e]; exact c.pick [1]
end
theorem K_CloneI {v : Value} {ws : List Int} (hN : ws.length ≤ 1000000) (hs : Sl EI1 h v ws) (hR : ∀ u h', Cx (fun _ => False) h h' [rSl EI1 (shV u) ws] → R (shV u) h') : F_slices_Clone_int64_int64 S I v h R := by
  unfold F_slices_Clone_int64_int64
  obtain ⟨b, e, hb⟩ := hs.isNil
  rw [e]
  refine En.vb (v := .bool b) rfl ?_
  cases b with
  | true =>
    rw [br_true]
    obtain rfl := hb rfl
    exact hR (none, 0, 0) _ ((Cx.start0 h).nil EI1)
  | false =>
    rw [br_false]
    have c := Cx.start0 h
    refine c.bsl0 EI1 fun u h1 c => ?_
    refine c.ap 0 rfl (ys := ws) (hs.gr c.gr) rfl rfl (by simp only [List.length_nil]; omega) (by simp only [List.length_nil]; omega) fun v' h2 c => ?_
    obtain ⟨u, rfl⟩ := (c.sl (i := 0) rfl).isH
    exact hR u _ c
end Go.En
namespace Go.En
open Prog Spc Go.Sort

abbrev p38 (n : Int) : Pl := ⟨1, 64, n⟩
abbrev D38 : Int → Prop := fun a => 0 ≤ a ∧ a < ((384 : Nat) : Int)
/-- a root of a heap of the laws -/
abbrev R38 (root : Int) : Prop := root = 16 ∨ root = 24
theorem p38_good {n : Int} (h : 0 ≤ n ∧ n ≤ 40) : (p38 n).good := ⟨by show (0 : Int) ≤ 1; decide, by show (1 : Int) ≤ 64; decide, h.1, by show n ≤ 128; omega, by show (1 : Int) ≤ 4093; decide, by show 64 + 8 * n ≤ 4096; omega, .inr (.inl (by show (1 : Int) + 3 ≤ 64; decide))⟩
theorem p38_D {n : Int} (h : 0 ≤ n ∧ n ≤ 40) : PoolD D38 (p38 n) := by
  refine ⟨fun i h0 h1 => ⟨by show 0 ≤ 1 + i; omega, by show 1 + i < _; omega⟩, fun x hx i h0 h1 => ?_⟩
  obtain ⟨j, j0, j1, rfl⟩ := hx
  have j1 : j < n := j1
  exact ⟨by show 0 ≤ 64 + 8 * j + i; omega, by show 64 + 8 * j + i < _; omega⟩
theorem R38.A {root n : Int} (h : R38 root) : RA (p38 n) root := by rcases h with rfl | rfl <;> exact ⟨by show (1 : Int) + 3 ≤ _; decide, by show _ ≤ (64 : Int); decide⟩
theorem R38.D {root : Int} (h : R38 root) : RootD D38 root := fun i h0 h1 => by rcases h with rfl | rfl <;> exact ⟨by omega, by omega⟩
theorem R38.l {root : Int} (h : R38 root) : Rtl root := by rcases h with rfl | rfl <;> decide
/-! ### Lists of items in order -/
/-- the item of a node -/
def itm (m : Int → Int) (y : Int) : Im := ⟨m (y + 0), m (y + 1), m (y + 2), m (y + 2)⟩
theorem itm_lt (m : Int → Int) (y z : Int) : itLt (itm m y) (itm m z) = nlt m y z := by
  show klt (m (y + 0), m (y + 2)) (m (z + 0), m (z + 2)) = klt (m y, m (y + 2)) (m z, m (z + 2))
  rw [Int.add_zero, Int.add_zero]
theorem itLt_irr (a : Im) : itLt a a = false := klt_f.2 (by dsimp only; omega)
theorem itLt_tr {a b c : Im} (h1 : itLt a b = true) (h2 : itLt b c = true) : itLt a c = true := by
  unfold itLt at *
  rw [klt_iff] at *
  dsimp only at *
  omega
theorem itLt_tot {a b : Im} (h : itLt a b = false) (hn : a.O ≠ b.O) : itLt b a = true := by
  unfold itLt at *
  rw [klt_f] at h
  rw [klt_iff]
  dsimp only at *
  omega
abbrev Asc (l : List Im) : Prop := l.Pairwise fun a b => itLt a b = true
theorem Asc.nd {l : List Im} (h : Asc l) : l.Nodup := h.imp fun h e => by rw [e, itLt_irr] at h; cases h
theorem Asc.inj {l : List Im} (h : Asc l) {i j : Nat} {a : Im} (h1 : l[i]? = some a) (h2 : l[j]? = some a) : i = j := by
  obtain ⟨l1, e1⟩ := List.getElem?_eq_some_iff.1 h1
  obtain ⟨l2, e2⟩ := List.getElem?_eq_some_iff.1 h2
  exact (List.getElem_inj h.nd).1 (e1.trans e2.symm)
/-- ascending lists with the same members are the same -/
theorem asc_eq : ∀ {l l' : List Im}, Asc l → Asc l' → (∀ a, a ∈ l ↔ a ∈ l') → l = l'
  | [], [], _, _, _ => rfl
  | [], b :: l', _, _, h => by have := (h b).2 (List.mem_cons_self ..); cases this
  | a :: l, [], _, _, h => by have := (h a).1 (List.mem_cons_self ..); cases this
  | a :: l, b :: l', h1, h2, h => by
    obtain ⟨ha, hl⟩ := List.pairwise_cons.1 h1
    obtain ⟨hb, hl'⟩ := List.pairwise_cons.1 h2
    have e : a = b := by
      rcases List.mem_cons.1 ((h a).1 (List.mem_cons_self ..)) with e | e
      · exact e
      · rcases List.mem_cons.1 ((h b).2 (List.mem_cons_self ..)) with e2 | e2
        · exact e2.symm
        · have := itLt_tr (hb a e) (ha b e2)
          rw [itLt_irr] at this; cases this
    subst e
    have : l = l' := asc_eq hl hl' fun x => by
      constructor
      · intro hx
        rcases List.mem_cons.1 ((h x).1 (List.mem_cons_of_mem _ hx)) with e | e
        · subst e; have := ha x hx; rw [itLt_irr] at this; cases this
        · exact e
      · intro hx
        rcases List.mem_cons.1 ((h x).2 (List.mem_cons_of_mem _ hx)) with e | e
        · subst e; have := hb x hx; rw [itLt_irr] at this; cases this
        · exact e
    rw [this]
theorem mem_rPut {l : List Im} {x a : Im} : a ∈ rPut l x ↔ a = x ∨ a ∈ l := by
  unfold rPut
  have e := List.takeWhile_append_dropWhile (p := fun y => itLt y x) (l := l)
  constructor
  · intro h
    rcases List.mem_append.1 h with h | h
    · exact .inr (by rw [← e]; exact List.mem_append_left _ h)
    · rcases List.mem_cons.1 h with h | h
      · exact .inl h
      · exact .inr (by rw [← e]; exact List.mem_append_right _ h)
  · rintro (h | h)
    · exact List.mem_append_right _ (h ▸ List.mem_cons_self ..)
    · rw [← e] at h
      rcases List.mem_append.1 h with h | h
      · exact List.mem_append_left _ h
      · exact List.mem_append_right _ (List.mem_cons_of_mem _ h)
theorem len_rPut {l : List Im} {x : Im} : (rPut l x).length = l.length + 1 := by
  have e := congrArg List.length (List.takeWhile_append_dropWhile (p := fun y => itLt y x) (l := l))
  rw [List.length_append] at e
  unfold rPut
  rw [List.length_append, List.length_cons]
  omega
theorem asc_rPut : ∀ {l : List Im} {x : Im}, Asc l → (∀ a ∈ l, a.O ≠ x.O) → Asc (rPut l x)
  | [], x, _, _ => List.pairwise_singleton _ _
  | a :: l, x, h, hn => by
    obtain ⟨ha, hl⟩ := List.pairwise_cons.1 h
    unfold rPut
    rw [List.takeWhile_cons, List.dropWhile_cons]
    cases hx : itLt a x with
    | true =>
      rw [if_pos rfl, if_pos rfl]
      have ih := asc_rPut hl fun b hb => hn b (List.mem_cons_of_mem _ hb)
      refine List.pairwise_cons.2 ⟨fun b hb => ?_, ih⟩
      rcases mem_rPut.1 hb with e | hb
      · rw [e]; exact hx
      · exact ha b hb
    | false =>
      rw [if_neg (by simp), if_neg (by simp)]
      have hxa := itLt_tot hx (hn a (List.mem_cons_self ..))
      refine List.pairwise_cons.2 ⟨fun b hb => ?_, h⟩
      rcases List.mem_cons.1 hb with e | hb
      · rw [e]; exact hxa
      · exact itLt_tr hxa (ha b hb)
/-- the heap in memory and the reference -/
structure HS (n root : Int) (m : Int → Int) (rw A : Int → Int) (fr : List Int) (out : Int) (l : List Im) (hs : List Int) : Prop where
  P : HP (p38 n) root m l.length rw A fr out
  srt : Asc l
  mem : ∀ it, it ∈ l ↔ ∃ y, Mem l.length A y ∧ itm m y = it
  hnd : ∀ y, Mem l.length A y → 0 ≤ m (y + 2) ∧ hs[(m (y + 2)).toNat]? = some y
  pu : m (root + 1) = hs.length
  hb : ∀ y ∈ hs, 1 ≤ y ∧ y ≤ 4088
section
variable {n root : Int} {m m' : Int → Int} {rw A rw' A' : Int → Int} {fr fr' : List Int} {out out' x pr v : Int} {l : List Im} {hs : List Int}
theorem HS.inj (H : HS n root m rw A fr out l hs) {y z : Int} (hy : Mem l.length A y) (hz : Mem l.length A z) (e : m (y + 2) = m (z + 2)) : y = z := by
  have h1 := (H.hnd y hy).2
  rw [e, (H.hnd z hz).2] at h1
  injection h1 with h1
  exact h1.symm
theorem HS.itm_inj (H : HS n root m rw A fr out l hs) {y z : Int} (hy : Mem l.length A y) (hz : Mem l.length A z) (e : itm m y = itm m z) : y = z :=
  H.inj hy hz (show (itm m y).O = (itm m z).O by rw [e])
theorem HS.head (H : HS n root m rw A fr out l hs) {it : Im} {t : List Im} (e : l = it :: t) : it = itm m (A 1) := by
  have hl : (l.length : Int) ≥ 1 := by rw [e, List.length_cons]; omega
  have hm : Mem l.length A (A 1) := ⟨1, by omega, by omega, rfl⟩
  have h1 := (H.mem _).2 ⟨A 1, hm, rfl⟩
  have hs := H.srt
  rw [e] at h1 hs
  rcases List.mem_cons.1 h1 with h | h
  · exact h.symm
  · have h2 := (List.pairwise_cons.1 hs).1 _ h
    obtain ⟨y, ⟨i, i1, i2, hy⟩, ey⟩ := (H.mem it).1 (by rw [e]; exact List.mem_cons_self ..)
    rw [← ey, itm_lt, ← hy] at h2
    have := HO.top (nlt_swo m) H.P.o i.toNat i (Nat.le_refl _) i1 i2
    rw [h2] at this; cases this
/-- what a search comes to -/
theorem HS.find (H : HS n root m rw A fr out l hs) {b z : Int} (hf : FindR l b z) : (∃ (i : Nat) (y : Int), z = i ∧ l[i]? = some (itm m y) ∧ Mem l.length A y ∧ m (y + 2) = b ∧ 0 ≤ b ∧ hs[b.toNat]? = some y) ∨ (z = -1 ∧ ∀ y, Mem l.length A y → m (y + 2) ≠ b) := by
  rcases hf with ⟨i, it, rfl, hi, hb⟩ | ⟨rfl, hn⟩
  · obtain ⟨y, hy, e⟩ := (H.mem it).1 (List.mem_of_getElem? hi)
    subst e
    have hb : m (y + 2) = b := hb
    obtain ⟨h0, h1⟩ := H.hnd y hy
    rw [hb] at h0 h1
    exact .inl ⟨i, y, rfl, hi, hy, hb, h0, h1⟩
  · exact .inr ⟨rfl, fun y hy e => hn _ ((H.mem _).2 ⟨y, hy, rfl⟩) e⟩
theorem itm_old {y : Int} (h : ∀ o, 0 ≤ o → o ≤ 2 → m' (y + o) = m (y + o)) : itm m' y = itm m y := by
  unfold itm
  rw [h 0 (by decide) (by decide), h 1 (by decide) (by decide), h 2 (by decide) (by decide)]
theorem HS.push (H : HS n root m rw A fr out l hs) (P' : HP (p38 n) root m' ((l.length : Int) + 1) rw' A' fr' out') (X : PushD (p38 n) root m m' l.length rw A rw' A' fr fr' out out' x pr v) : HS n root m' rw' A' fr' out' (rPut l ⟨pr, v, hs.length, hs.length⟩) (hs ++ [x]) := by
  have e : (((rPut l ⟨pr, v, hs.length, hs.length⟩).length : Nat) : Int) = (l.length : Int) + 1 := by rw [len_rPut]; omega
  have hx : Mem ((l.length : Int) + 1) A' x := (X.mem x).2 (.inl rfl)
  have ix : itm m' x = ⟨pr, v, hs.length, hs.length⟩ := by
    unfold itm
    rw [X.x0, X.x1, X.x2, H.pu]
  have hord : ∀ y, Mem l.length A y → m (y + 2) ≠ hs.length := fun y hy e => by
    obtain ⟨h0, h1⟩ := H.hnd y hy
    have := (List.getElem?_eq_some_iff.1 h1).1
    omega
  refine ⟨by rw [e]; exact P', asc_rPut H.srt fun a ha => ?_, fun it => ?_, fun y hy => ?_, ?_, fun y hy => ?_⟩
  · obtain ⟨y, hy, rfl⟩ := (H.mem a).1 ha
    exact hord y hy
  · rw [mem_rPut, H.mem, e]
    constructor
    · rintro (h | ⟨y, hy, h⟩)
      · exact ⟨x, hx, by rw [ix, h]⟩
      · exact ⟨y, (X.mem y).2 (.inr hy), by rw [itm_old (X.old y hy)]; exact h⟩
    · rintro ⟨y, hy, h⟩
      rcases (X.mem y).1 hy with h2 | h2
      · subst h2; exact .inl (by rw [← h, ix])
      · exact .inr ⟨y, h2, by rw [← h, itm_old (X.old y h2)]⟩
  · rw [e] at hy
    rcases (X.mem y).1 hy with h2 | h2
    · subst h2
      rw [X.x2, H.pu]
      refine ⟨by omega, ?_⟩
      rw [Int.toNat_natCast, List.getElem?_append_right (Nat.le_refl _), Nat.sub_self]; rfl
    · rw [X.old y h2 2 (by decide) (by decide)]
      obtain ⟨h0, h1⟩ := H.hnd y h2
      exact ⟨h0, by rw [List.getElem?_append_left (List.getElem?_eq_some_iff.1 h1).1]; exact h1⟩
  · rw [X.pu, H.pu, List.length_append]; simp
  · rcases List.mem_append.1 hy with h | h
    · exact H.hb y h
    · rw [List.mem_singleton] at h
      subst h
      have := isN_pos P'.P.good (P'.N.mem (.inl hx))
      omega
theorem HS.rem {i : Int} {i0 : Nat} (H : HS n root m rw A fr out l hs) (i1 : 1 ≤ i) (i2 : i ≤ l.length) (hi : l[i0]? = some (itm m (A i))) (P' : HP (p38 n) root m' ((l.length : Int) - 1) rw A' fr' out) (X : RemD (p38 n) root m m' l.length i rw A A' fr fr' out) : HS n root m' rw A' fr' out (l.eraseIdx i0) hs := by
  have hl := (List.getElem?_eq_some_iff.1 hi).1
  have e : (((l.eraseIdx i0).length : Nat) : Int) = (l.length : Int) - 1 := by rw [List.length_eraseIdx, if_pos hl]; omega
  have hm : Mem l.length A (A i) := ⟨i, i1, i2, rfl⟩
  refine ⟨by rw [e]; exact P', H.srt.sublist (List.eraseIdx_sublist _ _), fun it => ?_, fun y hy => ?_, by rw [X.pu]; exact H.pu, H.hb⟩
  · rw [List.mem_eraseIdx_iff_getElem?, e]
    constructor
    · rintro ⟨j, hj, h⟩
      obtain ⟨y, hy, rfl⟩ := (H.mem it).1 (List.mem_of_getElem? h)
      have hne : y ≠ A i := fun e2 => hj (H.srt.inj h (by rw [e2]; exact hi))
      have hy' := (X.mem y).2 ⟨hy, hne⟩
      exact ⟨y, hy', itm_old (X.old y hy')⟩
    · rintro ⟨y, hy, rfl⟩
      obtain ⟨h1, h2⟩ := (X.mem y).1 hy
      rw [itm_old (X.old y hy)]
      obtain ⟨j, hj⟩ := List.getElem?_of_mem ((H.mem _).2 ⟨y, h1, rfl⟩)
      refine ⟨j, fun e2 => ?_, hj⟩
      subst e2
      rw [hi] at hj
      injection hj with hj
      exact h2 (H.itm_inj hm h1 hj).symm
  · rw [e] at hy
    rw [X.old y hy 2 (by decide) (by decide)]
    exact H.hnd y ((X.mem y).1 hy).1
theorem HS.low {i0 : Nat} (H : HS n root m rw A fr out l hs) (hx : Mem l.length A x) (hi : l[i0]? = some (itm m x)) (P' : HP (p38 n) root m' l.length rw A' fr out) (X : LowD root m m' l.length rw A A' x pr) : HS n root m' rw A' fr out (rPut (l.eraseIdx i0) ⟨pr, m (x + 1), m (x + 2), m (x + 2)⟩) hs := by
  have hl := (List.getElem?_eq_some_iff.1 hi).1
  have e : ((rPut (l.eraseIdx i0) ⟨pr, m (x + 1), m (x + 2), m (x + 2)⟩).length : Int) = l.length := by rw [len_rPut, List.length_eraseIdx, if_pos hl]; omega
  have h2 : ∀ y, Mem l.length A y → m' (y + 2) = m (y + 2) := fun y hy => X.old y hy 2 (by decide) (by decide) fun _ => by decide
  have ix : itm m' x = ⟨pr, m (x + 1), m (x + 2), m (x + 2)⟩ := by
    unfold itm
    rw [X.x0, X.old x hx 1 (by decide) (by decide) fun _ => by decide, h2 x hx]
  have iy : ∀ y, Mem l.length A y → y ≠ x → itm m' y = itm m y := fun y hy hne => itm_old fun o o0 o2 => X.old y hy o o0 o2 fun e => absurd e hne
  have hin : ∀ it, it ∈ l.eraseIdx i0 ↔ ∃ y, Mem l.length A y ∧ y ≠ x ∧ itm m y = it := fun it => by
    rw [List.mem_eraseIdx_iff_getElem?]
    constructor
    · rintro ⟨j, hj, h⟩
      obtain ⟨y, hy, rfl⟩ := (H.mem it).1 (List.mem_of_getElem? h)
      exact ⟨y, hy, fun e2 => hj (H.srt.inj h (by rw [e2]; exact hi)), rfl⟩
    · rintro ⟨y, hy, hne, rfl⟩
      obtain ⟨j, hj⟩ := List.getElem?_of_mem ((H.mem _).2 ⟨y, hy, rfl⟩)
      refine ⟨j, fun e2 => ?_, hj⟩
      subst e2
      rw [hi] at hj
      injection hj with hj
      exact hne (H.itm_inj hx hy hj).symm
  refine ⟨by rw [e]; exact P', asc_rPut (H.srt.sublist (List.eraseIdx_sublist _ _)) fun a ha => ?_, fun it => ?_, fun y hy => ?_, by rw [X.pu]; exact H.pu, H.hb⟩
  · obtain ⟨y, hy, hne, rfl⟩ := (hin a).1 ha
    exact fun e2 => hne (H.inj hy hx e2)
  · rw [mem_rPut, hin, e]
    constructor
    · rintro (h | ⟨y, hy, hne, h⟩)
      · exact ⟨x, (X.mem x).2 hx, by rw [ix, h]⟩
      · exact ⟨y, (X.mem y).2 hy, by rw [iy y hy hne]; exact h⟩
    · rintro ⟨y, hy, h⟩
      have hy := (X.mem y).1 hy
      by_cases hne : y = x
      · subst hne; exact .inl (by rw [← h, ix])
      · exact .inr ⟨y, hy, hne, by rw [← iy y hy hne]; exact h⟩
  · rw [e] at hy
    have hy := (X.mem y).1 hy
    rw [h2 y hy]
    exact H.hnd y hy
theorem HS.same (H : HS n root m rw A fr out l hs) {C : List Int} (hC : C.Perm (allA A l.length)) (hS : Srt (nlt m) C) : C.map (itm m) = l := by
  have hmem : ∀ y, y ∈ C ↔ Mem l.length A y := fun y => by
    rw [hC.mem_iff]
    unfold allA
    rw [List.mem_map]
    constructor
    · rintro ⟨j, hj, rfl⟩
      have := List.mem_range.1 hj
      exact ⟨(j : Int) + 1, by omega, by omega, rfl⟩
    · rintro ⟨i, i1, i2, rfl⟩
      exact ⟨(i - 1).toNat, List.mem_range.2 (by omega), by congr 1; omega⟩
  have hnd : C.Nodup := by
    rw [hC.nodup_iff]
    unfold allA List.Nodup
    rw [List.pairwise_map]
    refine List.Pairwise.imp_of_mem (fun {a b} ha hb hab e => hab ?_) (List.nodup_range (n := l.length))
    have h1 := List.mem_range.1 ha
    have h2 := List.mem_range.1 hb
    have := H.P.N.ai _ _ (by omega) (by omega) (by omega) (by omega) e
    omega
  refine asc_eq ?_ H.srt fun a => ?_
  · unfold Asc
    rw [List.pairwise_map]
    refine List.Pairwise.imp_of_mem (R := fun x y => nlt m y x = false ∧ x ≠ y) (fun {a b} ha hb ⟨h1, h2⟩ => ?_) ?_
    · rw [← itm_lt] at h1
      exact itLt_tot h1 fun e => h2 (H.inj ((hmem a).1 ha) ((hmem b).1 hb) e.symm)
    · have h1 : C.Pairwise fun x y => nlt m y x = false := hS
      have h2 : C.Pairwise fun x y => x ≠ y := hnd
      exact h1.and h2
  · rw [List.mem_map, H.mem]
    constructor
    · rintro ⟨y, hy, e⟩; exact ⟨y, (hmem y).1 hy, e⟩
    · rintro ⟨y, hy, e⟩; exact ⟨y, (hmem y).2 hy, e⟩
end
end Go.En
namespace Go.En
open Prog Spc Go.Sort

variable {σ τ : Spc}
theorem wp_out {α : Type} : ∀ {p : Prog α} {σ : Spc} {Q : α → Spc → Prop}, wp p σ Q → Q (p.run σ).1 (p.run σ).2
  | .ret a, σ, Q, h => h
  | .get a k, σ, Q, h => wp_out (p := k _) h
  | .put a v k, σ, Q, h => wp_out (p := k) h.2.2
  | .mark k, σ, Q, h => wp_out (p := k _) h
  | .back m k, σ, Q, h => wp_out (p := k) h
section
variable {ps : List (Int × W3)} {m : Int → Int} {V n root pr v x : Int} {rw A : Int → Int} {fr : List Int} {out : Int} {l : List Im} {hs : List Int}
theorem WoR.sm38 (W : WoR 384 ps m V) : Sm D38 (newS ps) (newS ps) m 0 := W.sm
/-- a space on a world that is only read -/
structure Rd38 (ps : List (Int × W3)) (m : Int → Int) (σ : Spc) : Prop where
  gd : Gd σ
  sm : Sm D38 (newS ps) σ m 0
theorem WoR.rd38 (W : WoR 384 ps m V) : Rd38 ps m (newS ps) := ⟨W.gd, W.sm38⟩
theorem Rd38.pu (H : Rd38 ps m σ) : σ.pu = [] := by
  obtain ⟨ex, e, hl⟩ := H.sm.pu
  rw [e, List.length_eq_zero_iff.1 (Nat.le_zero.1 hl)]; rfl
theorem Rd38.good (H : Rd38 ps m σ) (W : WoR 384 ps m V) : Good 384 ps σ := ⟨H.gd, by rw [H.sm.kn]; exact W.kn, H.sm.en, by rw [H.pu]; exact Nat.zero_le _⟩
theorem Rd38.vw (H : Rd38 ps m σ) : σ.vw = m := funext H.sm.vw
theorem Rd38.wp {α : Type} {p : Prog α} {Q : α → Prop} (H : Rd38 ps m σ) (h : wp p σ fun e σ' => Sm D38 σ σ' m 0 ∧ Q e) : wp p σ fun e σ' => Rd38 ps m σ' ∧ Q e :=
  Prog.wp_mono (wp_gd H.gd h) fun _ _ ⟨g, _, _, s, q⟩ => ⟨⟨g, H.sm.trans s⟩, q⟩
theorem Rd38.get {a : Int} (H : Rd38 ps m σ) (ha : D38 a) : Prog.wp (gt a) σ fun e σ' => Rd38 ps m σ' ∧ e = m a :=
  H.wp (by
    show Sm D38 σ (σ.get a).2 m 0 ∧ (σ.get a).1 = m a
    rw [H.sm.fresh.get ha]
    exact ⟨H.sm.fresh.rds a, rfl⟩)
theorem Rd38.jm (hn : 0 ≤ n ∧ n ≤ 40) : Jm (p38 n) m (Rd38 ps m) := fun σ x i hs hx i0 i7 => by
  refine Prog.wp_mono (hs.get ((p38_D hn).n x (node_isN hx) i i0 i7)) fun v σ' ⟨h1, h2⟩ => ⟨h2, h1⟩
theorem Rd38.fin {σ' : Spc} {m' : Int → Int} {c : Nat} (H : Rd38 ps m σ) (W : WoR 384 ps m V) (g : Gd σ') (S' : Sm D38 σ σ' m' c) (hc : c ≤ 1000) : Good 384 ps σ' := by
  refine ⟨g, S'.kn.trans (H.sm.kn.trans W.kn), S'.en, ?_⟩
  have := S'.len
  rw [H.pu, List.length_nil] at this
  omega
theorem Rd38.pl (H : Rd38 ps m σ) : σ.pu.length + 200 ≤ big := by rw [H.pu]; show 0 + 200 ≤ big; decide
/-- the answer of Min -/
def topI : List Im → Int × Int × Int
  | [] => (0, 0, 8)
  | it :: _ => (it.P, it.V, 0)
/-- how many places changed -/
def FewP (top : Bool) (k : Int) (A m' : Int → Int) : Prop := ∃ P : List Int, P.length ≤ 6 ∧ ∀ j, 1 ≤ j → j ≤ k → j ∉ P → (top = true → j ≠ 1) → m' (A j + 3) = j
theorem FewP.none {top : Bool} {k : Int} (H : HA m root k rw A 0) : FewP top k A m := ⟨[], by decide, fun j j1 jk _ _ => H.pos j j1 jk (by omega)⟩
/-- a push, whole -/
theorem push_38 (H : Rd38 ps m σ) (W : WoR 384 ps m V) (hn : 0 ≤ n ∧ n ≤ 40) (hr : R38 root) (X : HS n root m rw A fr out l hs) (hpr : R64 pr) (hv : R64 v) (hh : hs.length ≤ 1000000) : wp (hPush (p38 n) root pr v) σ fun e σ' => Good 384 ps σ' ∧
    ((∃ x rw' A' fr' out', e = (x, 0) ∧ l.length < 32 ∧ HS n root σ'.vw rw' A' fr' out' (rPut l ⟨pr, v, hs.length, hs.length⟩) (hs ++ [x]) ∧ PushD (p38 n) root m σ'.vw l.length rw A rw' A' fr fr' out out' x pr v) ∨
      (e = (0, 9) ∧ (l.length = 32 ∨ (fr.length : Int) - out + n < 1 + dR l.length) ∧ σ'.vw = m)) := by
  refine Prog.wp_mono (wp_gd H.gd (wp_hPush hr.A (p38_D hn) hr.D H.sm.fresh X.P hpr hv H.pl)) ?_
  rintro e σ' ⟨g, _, _, hq⟩
  rcases hq with ⟨x, rw', A', fr', out', m', rfl, hk, ho, S', P', D'⟩ | ⟨rfl, S', hw⟩
  · have e2 : σ'.vw = m' := funext S'.vw
    rw [e2]
    exact ⟨H.fin W g S' (by decide), .inl ⟨x, rw', A', fr', out', rfl, by omega, X.push P' D', D'⟩⟩
  · refine ⟨H.fin W g S' (by decide), .inr ⟨rfl, ?_, funext S'.vw⟩⟩
    rcases hw with h | h | h
    · exact .inl (by omega)
    · rw [X.pu] at h; omega
    · exact .inr h
theorem pop_38 (H : Rd38 ps m σ) (W : WoR 384 ps m V) (hn : 0 ≤ n ∧ n ≤ 40) (hr : R38 root) (X : HS n root m rw A fr out l hs) : wp (hPop (p38 n) root) σ fun e σ' => Good 384 ps σ' ∧
    ((∃ it t A' fr', l = it :: t ∧ e = (it.P, it.V, 0) ∧ HS n root σ'.vw rw A' fr' out t hs ∧ RemD (p38 n) root m σ'.vw l.length 1 rw A A' fr fr' out) ∨ (l = [] ∧ e = (0, 0, 8) ∧ σ'.vw = m)) := by
  refine Prog.wp_mono (wp_gd H.gd (wp_hPop hr.A (p38_D hn) hr.D H.sm.fresh X.P H.pl)) ?_
  rintro e σ' ⟨g, _, _, hq⟩
  rcases hq with ⟨A', fr', m', rfl, hk, S', P', D'⟩ | ⟨rfl, hk, S'⟩
  · have e2 : σ'.vw = m' := funext S'.vw
    rw [e2]
    refine ⟨H.fin W g S' (by decide), .inl ?_⟩
    cases hl : l with
    | nil => rw [hl] at hk; simp at hk
    | cons it t =>
      have hit := X.head hl
      have hx := X.rem (i := 1) (i0 := 0) (Int.le_refl _) hk (by rw [hl, hit]; rfl) P' D'
      refine ⟨it, t, A', fr', rfl, by rw [hit]; rfl, ?_, hl ▸ D'⟩
      rw [hl] at hx; exact hx
  · refine ⟨H.fin W g S' (by decide), .inr ⟨List.eq_nil_of_length_eq_zero (by omega), rfl, funext S'.vw⟩⟩
theorem low_38 (H : Rd38 ps m σ) (W : WoR 384 ps m V) (hn : 0 ≤ n ∧ n ≤ 40) (hr : R38 root) (X : HS n root m rw A fr out l hs) (hpr : R64 pr) : wp (hLow (p38 n) root x pr) σ fun e σ' => Good 384 ps σ' ∧
    ((e = 0 ∧ Mem l.length A x ∧ pr ≤ m (x + 0) ∧ ∀ i : Nat, l[i]? = some (itm m x) → ∃ A', HS n root σ'.vw rw A' fr out (rPut (l.eraseIdx i) ⟨pr, m (x + 1), m (x + 2), m (x + 2)⟩) hs) ∨ (e = 4 ∧ Mem l.length A x ∧ m (x + 0) < pr ∧ σ'.vw = m) ∨ (e = 10 ∧ ¬ Mem l.length A x ∧ σ'.vw = m)) := by
  refine Prog.wp_mono (wp_gd H.gd (wp_hLow (x := x) hr.A (p38_D hn) hr.D H.sm.fresh X.P hpr H.pl)) ?_
  rintro e σ' ⟨g, _, _, hq⟩
  rcases hq with ⟨A', m', rfl, hm, hle, S', P', D'⟩ | ⟨rfl, hm, hlt, S'⟩ | ⟨rfl, hm, S'⟩
  · have e2 : σ'.vw = m' := funext S'.vw
    rw [e2]
    exact ⟨H.fin W g S' (by decide), .inl ⟨rfl, hm, hle, fun i hi => ⟨A', X.low hm hi P' D'⟩⟩⟩
  · exact ⟨H.fin W g S' (by decide), .inr (.inl ⟨rfl, hm, hlt, funext S'.vw⟩)⟩
  · exact ⟨H.fin W g S' (by decide), .inr (.inr ⟨rfl, hm, funext S'.vw⟩)⟩
theorem drop_38 (H : Rd38 ps m σ) (W : WoR 384 ps m V) (hn : 0 ≤ n ∧ n ≤ 40) (hr : R38 root) (X : HS n root m rw A fr out l hs) : wp (hDrop (p38 n) root x) σ fun e σ' => Good 384 ps σ' ∧
    ((e = (m (x + 1), 0) ∧ Mem l.length A x ∧ ∃ q A' fr', (∀ i : Nat, l[i]? = some (itm m x) → HS n root σ'.vw rw A' fr' out (l.eraseIdx i) hs) ∧ RemD (p38 n) root m σ'.vw l.length q rw A A' fr fr' out) ∨ (e = (0, 10) ∧ ¬ Mem l.length A x ∧ σ'.vw = m)) := by
  refine Prog.wp_mono (wp_gd H.gd (wp_hDrop (x := x) hr.A (p38_D hn) hr.D H.sm.fresh X.P H.pl)) ?_
  rintro e σ' ⟨g, _, _, hq⟩
  rcases hq with ⟨i, A', fr', m', rfl, i1, i2, ei, S', P', D'⟩ | ⟨rfl, hm, S'⟩
  · have e2 : σ'.vw = m' := funext S'.vw
    rw [e2]
    exact ⟨H.fin W g S' (by decide), .inl ⟨rfl, ⟨i, i1, i2, ei⟩, i, A', fr', fun j hj => X.rem i1 i2 (by rw [ei]; exact hj) P' D', D'⟩⟩
  · exact ⟨H.fin W g S' (by decide), .inr ⟨rfl, hm, funext S'.vw⟩⟩
theorem min_38 (H : Rd38 ps m σ) (hn : 0 ≤ n ∧ n ≤ 40) (hr : R38 root) (X : HS n root m rw A fr out l hs) : wp (hMin (p38 n) root) σ fun e σ' => Rd38 ps m σ' ∧ e = topI l := by
  refine H.wp (Q := fun e => e = topI l) (Prog.wp_mono (wp_hMin (p38_D hn) hr.D H.sm.fresh X.P) fun e σ' ⟨s, he⟩ => ⟨s, ?_⟩)
  cases hl : l with
  | nil => rw [he, hl]; rfl
  | cons it t =>
    have hit := X.head hl
    rw [he, hl, if_neg (by rw [List.length_cons]; omega), hit]; rfl
theorem walk_38 (H : Rd38 ps m σ) (hn : 0 ≤ n ∧ n ≤ 40) (hr : R38 root) (X : HS n root m rw A fr out l hs) : wp (hWalkP (p38 n) root) σ fun o σ' => Rd38 ps m σ' ∧ (∀ l, o = some l → ∀ x ∈ l, ((p38 n).node x).isSome = true) ∧ o = some (allA A l.length) := by
  have k32 := X.P.k32
  refine H.wp (Q := fun o => (∀ l, o = some l → ∀ x ∈ l, ((p38 n).node x).isSome = true) ∧ o = some (allA A l.length)) ?_
  unfold hWalkP
  refine wp_get H.sm.fresh (hr.D 0 (by decide) (by decide)) fun σ1 S1 => ?_
  rw [X.P.sz, if_neg (by omega), wp_bind]
  have h1 := wp_hAllL (p38_D hn) hr.D X.P (l.length : Int).toNat 0 σ1 S1 (by omega)
  refine Prog.wp_mono h1 fun o σ' ⟨e, s⟩ => ?_
  subst e
  refine ⟨s, ?_, rfl⟩
  intro l' e x hx
  have e : some (allA A (l.length : Int).toNat) = some l' := e
  injection e with e
  subst e
  unfold allA at hx
  obtain ⟨j, hj, rfl⟩ := List.mem_map.1 hx
  have := List.mem_range.1 hj
  exact isN_node X.P.P.good (X.P.N.an _ (by omega) (by omega))
end
end Go.En
