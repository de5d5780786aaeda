/-
  Layer 18: the model, where a swap succeeds.
-/
import Derived.Test.YtggieecoagcmbaaSoN
import Derived.Test.YtggieecoagcmbaaEngR
namespace Go.En
open Prog Spc Go.Sort

variable {S : Sys} {I : Ids} {h h0 h' : Hp} {F F0 : Fp} {R : Value → Hp → Prop} {L : List Res} {s : Value} {σ : Spc}

/-! ### Rules that were missing -/
section
variable {α : Type} {E : Enc α} {v : Value} {xs : List α}
theorem Cx.wrW (c : Cx F0 h0 h L) (i : Nat) (hi : L[i]? = some (rSl E v xs)) {z : Int} {n m : Nat} {q : IntKind} (hz : z = n) (hn : n < xs.length) (y : α) (hm : m = E.n) {w : Value} (hw : w = .agg ⟨E.c y⟩) {k : Hp → Prop}
    (hk : ∀ h', Cx F0 h0 h' (L.set i (rSl E v (xs.set n y))) → k h') : Vb (ixs m v (.int q z)) fun p => Sb (En.sto m p w h) k := by
  obtain ⟨F, ⟨o, hf⟩, up⟩ := c.upd hi
  exact o.set hn y hm hz hw fun h' o' ch => hk h' (up (F' := F) ⟨o', hf⟩ (mv_same (ch.mono fun q _ e => (hf q).2 e)))
theorem Cx.wrF (c : Cx F0 h0 h L) (i : Nat) (hi : L[i]? = some (rSl E v xs)) {z : Int} {n m : Nat} {q : IntKind} (hz : z = n) {x : α} (hx : xs[n]? = some x) (y : α) (hm : m = E.n) {j : Nat} {w : Value} (hw : w.oneCell' = true) (hj : j < E.n) (hy : E.c y = (E.c x).set j w) {k : Hp → Prop}
    (hk : ∀ h', Cx F0 h0 h' (L.set i (rSl E v (xs.set n y))) → k h') : Vb (ixs m v (.int q z)) fun p => Vb (fa j p) fun p => Sb (En.sto 1 p w h) k := by
  obtain ⟨F, ⟨o, hf⟩, up⟩ := c.upd hi
  exact o.setf hx y hm hz hw hj hy fun h' o' ch => hk h' (up (F' := F) ⟨o', hf⟩ (mv_same (ch.mono fun q _ e => (hf q).2 e)))
theorem Sl.isNil (H : Sl E h v xs) : ∃ b, eqS v (.slice none 0 0) = some b ∧ (b = true → xs = []) := by
  obtain ⟨a, cap, rfl, h1, h2, h3⟩ := H
  cases a with
  | none => exact ⟨true, rfl, fun _ => List.eq_nil_of_length_eq_zero (by have := h2 rfl; omega)⟩
  | some a => exact ⟨false, rfl, fun e => by cases e⟩
theorem set_same {n : Nat} {x : α} (hx : xs[n]? = some x) : xs.set n x = xs := by
  obtain ⟨hn, rfl⟩ := List.getElem?_eq_some_iff.1 hx
  exact List.set_getElem_self hn
end

/-- a model: its slice -/
abbrev MS := Option Addr × Nat × Nat
abbrev sV (u : MS) : Value := .slice u.1 u.2.1 u.2.2
def EMd : Enc MS := { n := 1, c := fun u => [sV u], len := fun _ => rfl, one := fun a v h => by simp only [List.mem_singleton] at h; subst h; rfl }
def mM (u : MS) : Value := .agg #[sV u]
theorem bldM (u : MS) : bldS [(0, 1)] #[Value.slice none 0 0] [(0, sV u)] = some (mM u) := by kernel_rfl

theorem K_CloneW {v : Value} {ws : List W3} (hN : ws.length ≤ 1000000) (hs : Sl EW h v ws) (hR : ∀ u h', Cx (fun _ => False) h h' [rSl EW (sV u) ws] → R (sV u) h') : F_slices_Clone_api_Word_api_Word S I v h R := by
  unfold F_slices_Clone_api_Word_api_Word
  obtain ⟨b, e, hb⟩ := hs.isNil
  rw [e]
  rw [pos_some, vb_some]
  cases b with
  | true =>
    rw [br_true]
    obtain rfl := hb rfl
    exact hR (none, 0, 0) _ ((Cx.start0 h).nil EW)
  | false =>
    rw [br_false]
    have c := Cx.start0 h
    refine c.bsl0 EW fun u h1 c => ?_
    refine c.ap 0 rfl (ys := ws) (hs.gr c.gr) rfl rfl (by simp only [List.length_nil]; omega) (by simp only [List.length_nil]; omega) fun v' h2 c => ?_
    obtain ⟨a, l, cp, rfl⟩ := ow_slice (c.sl (i := 0) rfl)
    exact hR (a, l, cp) _ c

/-- the word at a place -/
def wAt (ws : List W3) (a : Int) : Option W3 := if 0 ≤ a then ws[a.toNat]? else none
theorem K_At {u : MS} {ws : List W3} {a : Int} (hN : ws.length ≤ 1000000) (hs : Sl EW h (sV u) ws) (hR : ∀ h', Gr h h' → R (.tuple #[mW ((wAt ws a).getD W0), .bool (wAt ws a).isSome]) h') : F_model_Model_At S I (mM u) (.int .i64 a) h R := by
  unfold F_model_Model_At
  have c := Cx.start0 h
  refine c.nw EMd u rfl fun r h1 c => ?_
  refine c.nw EW W0 rfl fun r2 h2 c => ?_
  refine Jn1.at (fun v h' => ∃ bb : Bool, v = .bool bb ∧ (bb = true ↔ ¬ (0 ≤ a ∧ a < ws.length)) ∧ Cx (fun _ => False) h h' [rVar EMd r u, rVar EW r2 W0]) ?_ ?_
  · rw [bin_lss, vb_some]
    refine brd (fun h3 => ⟨true, rfl, ⟨fun _ => by omega, fun _ => rfl⟩, c⟩) fun h3 => ?_
    refine (c.va (i := 0) rfl).fld (j := 0) rfl ?_
    rw [(hs.gr c.gr).ln, vb_some, bin_geq, vb_some]
    exact ⟨_, rfl, by rw [decide_eq_true_eq]; omega, c⟩
  clear c
  rintro v h3 ⟨bb, rfl, hb, c⟩
  unfold wAt at hR
  cases bb with
  | true =>
    rw [br_true]
    have hb := hb.1 rfl
    have e : (if 0 ≤ a then ws[a.toNat]? else none) = none := by
      split
      · exact List.getElem?_eq_none (by omega)
      · rfl
    rw [e] at hR
    refine vb (v := mW W0) (by kernel_rfl) ?_
    refine c.sto 1 rfl W0 rfl rfl fun h4 c => ?_
    rw [(c.va (i := 1) rfl).whole (n := 3) rfl, vb_some]
    exact hR _ c.gr
  | false =>
    rw [br_false]
    have hb : 0 ≤ a ∧ a < ws.length := Decidable.not_not.1 fun e => by have := hb.2 e; cases this
    have hx : ws[a.toNat]? = some ws[a.toNat] := List.getElem?_eq_getElem (by omega)
    rw [if_pos hb.1, hx] at hR
    refine (c.va (i := 0) rfl).fld (j := 0) rfl ?_
    refine (hs.gr c.gr).whole rfl hx (by omega) ?_
    refine c.sto 1 rfl ws[a.toNat] rfl rfl fun h4 c => ?_
    rw [(c.va (i := 1) rfl).whole (n := 3) rfl, vb_some]
    exact hR _ c.gr

structure CsM0 (S : Sys) (I : Ids) : Prop where
  clone : ∀ {v : Value} {ws : List W3} {h R}, ws.length ≤ 1000000 → Sl EW h v ws → (∀ u h', Cx (fun _ => False) h h' [rSl EW (sV u) ws] → R (sV u) h') → S.C I.f_slices_Clone_api_Word_api_Word [v] h R
  at' : ∀ {u : MS} {ws : List W3} {a : Int} {h R}, ws.length ≤ 1000000 → Sl EW h (sV u) ws → (∀ h', Gr h h' → R (.tuple #[mW ((wAt ws a).getD W0), .bool (wAt ws a).isSome]) h') → S.C I.f_model_Model_At [mM u, .int .i64 a] h R
  check : ∀ {v : Value} {xs : List E6} {h R}, xs.length ≤ 1000000 → (∀ x ∈ xs, x.old.ref = 0) → Sl EE h v xs → (∀ h', Gr h h' → R (.int .i64 (chk xs)) h') → S.C I.f_entry_Check [v] h R

theorem K_MNew {v : Value} {ws : List W3} (cs : CsM0 S I) (hN : ws.length ≤ 1000000) (hr : ∀ w ∈ ws, w.ref = 0) (hs : Sl EW h v ws) (hR : ∀ u h', Cx (fun _ => False) h h' [rSl EW (sV u) ws] → R (mM u) h') : F_model_New S I v h R := by
  unfold F_model_New
  have c := Cx.start0 h
  refine c.nw EMd (none, 0, 0) rfl fun r h1 c => ?_
  refine cs.clone hN (hs.gr c.gr) fun u h2 c2 => ?_
  have c := c.frame0 c2
  rw [Sl.ln (c.sl (i := 1) rfl).sl, vb_some]
  refine Lp1.by (fun (i : Nat) v h' => v = .int .i64 i ∧ i ≤ ws.length ∧ Cx (fun _ => False) h h' [rVar EMd r (none, 0, 0), rSl EW (sV u) ws]) (fun i => ws.length - i) 0 ⟨rfl, Nat.zero_le _, c⟩ ?_
  clear c
  rintro i v h3 ⟨rfl, hi, c⟩ again hagain
  rw [bin_lss, vb_some]
  refine brd (fun h4 => ?_) fun h4 => ?_
  · have hx : ws[i]? = some ws[i] := List.getElem?_eq_getElem (by omega)
    refine c.wrF 1 rfl rfl hx ws[i] rfl (j := 2) rfl (by decide) ?_ fun h5 c => ?_
    · have := hr ws[i] (List.getElem_mem _)
      show [_, _, _] = [_, _, _]
      rw [this]
    rw [set_same hx] at c
    rw [bin_add, vb_some, wrS (by omega)]
    exact hagain (i + 1) _ _ ⟨rfl, by omega, c⟩ (by omega)
  · rw [bldM, vb_some]
    refine c.sto (n := 1) 0 rfl u rfl rfl fun h5 c => ?_
    rw [(c.va (i := 0) rfl).whole (n := 1) rfl, vb_some]
    exact hR u _ ((c.front 1 rfl).drop (L := [_]))
theorem K_MWords {u : MS} {ws : List W3} (cs : CsM0 S I) (hN : ws.length ≤ 1000000) (hs : Sl EW h (sV u) ws) (hR : ∀ u h', Cx (fun _ => False) h h' [rSl EW (sV u) ws] → R (sV u) h') : F_model_Model_Words S I (mM u) h R := by
  unfold F_model_Model_Words
  have c := Cx.start0 h
  refine c.nw EMd u rfl fun r h1 c => ?_
  refine (c.va (i := 0) rfl).fld (j := 0) rfl ?_
  refine cs.clone hN (hs.gr c.gr) fun u h2 c2 => ?_
  have c := c.frame0 c2
  exact hR u _ ((c.front 1 rfl).drop (L := [_]))

theorem eqA_W (x : W3) : eqA [true, true, true] (mW x) (mW x) = some true := by
  simp [eqA, mW, eqL, eq1]
/-- the entries hold of the words -/
def holdsE (ws : List W3) (es : List E6) : Prop := ∀ e ∈ es, wAt ws e.at' = some e.old ∧ e.old.ref = 0
theorem K_Holds {u : MS} {ws : List W3} {v : Value} {es : List E6} (cs : CsM0 S I) (hN : ws.length ≤ 1000000) (hE : es.length ≤ 1000000) (hs : Sl EW h (sV u) ws) (he : Sl EE h v es) (hh : holdsE ws es) (hR : ∀ h', Gr h h' → R (.bool true) h') : F_model_Model_Holds S I (mM u) v h R := by
  unfold F_model_Model_Holds
  have c := Cx.start0 h
  refine c.nw EMd u rfl fun r h1 c => ?_
  rw [he.ln, vb_some]
  refine Lp1.by (fun (i : Nat) v h' => v = .int .i64 i ∧ i ≤ es.length ∧ Cx (fun _ => False) h h' [rVar EMd r u]) (fun i => es.length - i) 0 ⟨rfl, Nat.zero_le _, c⟩ ?_
  clear c
  rintro i v h3 ⟨rfl, hi, c⟩ again hagain
  rw [bin_lss, vb_some]
  refine brd (fun h4 => ?_) fun h4 => ?_
  · have hx : es[i]? = some es[i] := List.getElem?_eq_getElem (by omega)
    obtain ⟨hw, hr0⟩ := hh es[i] (List.getElem_mem _)
    refine (he.gr c.gr).whole rfl hx rfl ?_
    refine c.nw EE ⟨0, ⟨0, 0, 0⟩, 0, false⟩ rfl fun r2 h5 c => ?_
    refine c.sto 1 rfl es[i] rfl rfl fun h6 c => ?_
    rw [show fa 1 (at0 r2) = some (.pointer (some ⟨r2, 0 + 1, none⟩)) from fa_add _ _ _, vb_some]
    have hst : ∀ K : Hp → Prop, (∀ h', Cx (fun _ => False) h h' [rVar EMd r u, rVar EE r2 es[i]] → K h') → Vb (fa 2 (.pointer (some ⟨r2, 0 + 1, none⟩))) fun p => Sb (En.sto 1 p (.int .u32 0) h6) K := fun K hK => by
      have := c.stof 1 rfl (j := 3) (w := .int .u32 0) es[i] rfl (by decide) (by show [_, _, _, _, _, _] = [_, _, _, _, _, _]; rw [hr0]) hK
      rw [show fa 3 (at0 r2) = some (.pointer (some ⟨r2, 0 + 3, none⟩)) from fa_add _ _ _] at this
      rw [fa_add]
      exact this
    refine hst _ fun h7 c => ?_
    rw [(c.va (i := 0) rfl).whole (n := 1) rfl, vb_some]
    refine (c.va (i := 1) rfl).fld (j := 0) rfl ?_
    refine cs.at' (u := u) (ws := ws) hN (hs.gr c.gr) fun h8 g => ?_
    have c := c.more g
    rw [hw]
    refine ext0t (ext1t ?_)
    refine c.nw EW W0 rfl fun r3 h9 c => ?_
    refine c.sto 2 rfl es[i].old rfl rfl fun h10 c => ?_
    refine .here ?_
    refine vb (v := .bool false) rfl ?_
    rw [br_false, (c.va (i := 2) rfl).whole (n := 3) rfl, vb_some]
    refine (c.va (i := 1) rfl).old ?_
    rw [show (Value.agg ⟨EW.c es[i].old⟩) = mW es[i].old from rfl, eqA_W]
    refine vb (v := .bool false) rfl ?_
    dsimp only
    rw [br_false, bin_add, vb_some, wrS (by omega)]
    exact hagain (i + 1) _ _ ⟨rfl, by omega, c.drop (L := [_]) (L' := [_, _])⟩ (by omega)
  · exact hR _ c.gr

/-- the words behind a swap -/
def swpE (ws : List W3) (e : E6) : List W3 := if e.wr then ws.set e.at'.toNat ⟨e.new, IntKind.u32.wrap (e.old.ver + 1), 0⟩ else ws
def swps (ws : List W3) (es : List E6) : List W3 := es.foldl swpE ws
theorem swpE_len (ws : List W3) (e : E6) : (swpE ws e).length = ws.length := by
  unfold swpE
  split
  · rw [List.length_set]
  · rfl
theorem swps_take {ws : List W3} {es : List E6} {i : Nat} {e : E6} (h : es[i]? = some e) : swps ws (es.take (i + 1)) = swpE (swps ws (es.take i)) e := by
  unfold swps
  rw [List.take_add_one, h, List.foldl_append]; rfl
theorem swps_len {ws : List W3} : ∀ {es : List E6}, (swps ws es).length = ws.length := by
  intro es
  unfold swps
  induction es generalizing ws with
  | nil => rfl
  | cons e es ih => rw [List.foldl_cons, ih, swpE_len]
structure CsM1 (S : Sys) (I : Ids) : Prop extends CsM0 S I where
  words : ∀ {u : MS} {ws : List W3} {h R}, ws.length ≤ 1000000 → Sl EW h (sV u) ws → (∀ u h', Cx (fun _ => False) h h' [rSl EW (sV u) ws] → R (sV u) h') → S.C I.f_model_Model_Words [mM u] h R
  holds : ∀ {u : MS} {ws : List W3} {v : Value} {es : List E6} {h R}, ws.length ≤ 1000000 → es.length ≤ 1000000 → Sl EW h (sV u) ws → Sl EE h v es → holdsE ws es → (∀ h', Gr h h' → R (.bool true) h') → S.C I.f_model_Model_Holds [mM u, v] h R
theorem K_Swap {u : MS} {ws : List W3} {v : Value} {es : List E6} (cs : CsM1 S I) (hN : ws.length ≤ 1000000) (hE : es.length ≤ 1000000) (hs : Sl EW h (sV u) ws) (he : Sl EE h v es) (hh : holdsE ws es) (hck : chk es = 0 ∨ es = [])
    (hR : (es = [] → ∀ h', Gr h h' → R (.tuple #[mM u, .bool false, .int .i64 8]) h') ∧ (chk es = 0 → ∀ u' h', Cx (fun _ => False) h h' [rSl EW (sV u') (swps ws es)] → R (.tuple #[mM u', .bool true, .int .i64 0]) h')) :
    F_model_Model_Swap S I (mM u) v h R := by
  unfold F_model_Model_Swap
  have c := Cx.start0 h
  refine c.nw EMd u rfl fun r h1 c => ?_
  refine c.nw EMd (none, 0, 0) rfl fun r2 h2 c => ?_
  refine cs.check hE (fun x hx => (hh x hx).2) (he.gr c.gr) fun h3 g => ?_
  have c := c.more g
  clear g
  rw [bin_neq, vb_some]
  refine brd (fun h4 => ?_) fun h4 => ?_
  · have e0 : es = [] := hck.elim (fun e => absurd e h4) id
    subst e0
    rw [(c.va (i := 0) rfl).whole (n := 1) rfl, vb_some]
    refine c.sto (n := 1) 1 rfl u rfl rfl fun h5 c => ?_
    rw [(c.va (i := 1) rfl).whole (n := 1) rfl, vb_some]
    exact hR.1 rfl _ c.gr
  have h4 : chk es = 0 := Decidable.not_not.1 h4
  have hR := hR.2 h4
  rw [he.ln, vb_some]
  refine Lp1.by (fun (i : Nat) v h' => v = .int .i64 i ∧ i ≤ es.length ∧ Cx (fun _ => False) h h' [rVar EMd r u, rVar EMd r2 (none, 0, 0)]) (fun i => es.length - i) 0 ⟨rfl, Nat.zero_le _, c⟩ ?_
  clear c
  rintro i v h3 ⟨rfl, hi, c⟩ again hagain
  rw [bin_lss, vb_some]
  refine brd (fun h4 => ?_) fun h4 => ?_
  · have hx : es[i]? = some es[i] := List.getElem?_eq_getElem (by omega)
    obtain ⟨hw, hr0⟩ := hh es[i] (List.getElem_mem _)
    refine (he.gr c.gr).whole rfl hx rfl ?_
    refine c.nw EE ⟨0, ⟨0, 0, 0⟩, 0, false⟩ rfl fun r3 h5 c => ?_
    refine c.sto 2 rfl es[i] rfl rfl fun h6 c => ?_
    rw [(c.va (i := 0) rfl).whole (n := 1) rfl, vb_some]
    refine (c.va (i := 2) rfl).fld (j := 0) rfl ?_
    refine cs.at' (u := u) (ws := ws) hN (hs.gr c.gr) fun h8 g => ?_
    have c := c.more g
    rw [hw]
    refine ext0t (ext1t ?_)
    refine c.nw EW W0 rfl fun r4 h9 c => ?_
    refine c.sto 3 rfl es[i].old rfl rfl fun h10 c => ?_
    refine vb (v := .bool false) rfl ?_
    rw [br_false, bin_add, vb_some, wrS (by omega)]
    exact hagain (i + 1) _ _ ⟨rfl, by omega, c.drop (L := [_, _]) (L' := [_, _])⟩ (by omega)
  clear hagain again
  rw [(c.va (i := 0) rfl).whole (n := 1) rfl, vb_some]
  refine cs.holds (u := u) (ws := ws) hN hE (hs.gr c.gr) (he.gr c.gr) hh fun h5 g => ?_
  have c := c.more g
  clear g
  refine vb (v := .bool false) rfl ?_
  rw [br_false, (c.va (i := 0) rfl).whole (n := 1) rfl, vb_some]
  refine cs.words (u := u) (ws := ws) hN (hs.gr c.gr) fun u' h6 c2 => ?_
  have c := c.frame0 c2
  clear c2
  rw [vb_some]
  refine Lp1.by (fun (i : Nat) v h' => v = .int .i64 i ∧ i ≤ es.length ∧ Cx (fun _ => False) h h' [rVar EMd r u, rVar EMd r2 (none, 0, 0), rSl EW (sV u') (swps ws (es.take i))]) (fun i => es.length - i) 0 ⟨rfl, Nat.zero_le _, c⟩ ?_
  clear c
  rintro i v h3 ⟨rfl, hi, c⟩ again hagain
  rw [bin_lss, vb_some]
  refine brd (fun h4 => ?_) fun h4 => ?_
  · have hx : es[i]? = some es[i] := List.getElem?_eq_getElem (by omega)
    obtain ⟨hw, hr0⟩ := hh es[i] (List.getElem_mem _)
    have hst := swps_take (ws := ws) hx
    refine Jn0.at (fun h' => Cx (fun _ => False) h h' [rVar EMd r u, rVar EMd r2 (none, 0, 0), rSl EW (sV u') (swps ws (es.take (i + 1)))]) ?_ ?_
    · rw [hst]
      refine (he.gr c.gr).whole rfl hx rfl ?_
      refine c.nw EE ⟨0, ⟨0, 0, 0⟩, 0, false⟩ rfl fun r3 h5 c => ?_
      refine c.sto 3 rfl es[i] rfl rfl fun h6 c => ?_
      refine (c.va (i := 3) rfl).fld (j := 5) rfl ?_
      unfold swpE
      cases hwr : es[i].wr with
      | true =>
        rw [br_true, if_pos rfl]
        refine (c.va (i := 3) rfl).fld (j := 0) rfl ?_
        refine (c.va (i := 3) rfl).fld (j := 4) rfl ?_
        refine (c.va (i := 3) rfl).fld2 1 1 rfl ?_
        rw [show bin .add (Value.int .u32 es[i].old.ver) (Value.int .u32 1) = some (.int .u32 (IntKind.u32.wrap (es[i].old.ver + 1))) from bin_add, vb_some, show bldS [(0, 1), (1, 1), (2, 1)] #[Value.int IntKind.i64 0, Value.int IntKind.u32 0, Value.int IntKind.u32 0] [(0, .int .i64 es[i].new), (1, .int .u32 (IntKind.u32.wrap (es[i].old.ver + 1)))] = some (mW ⟨es[i].new, IntKind.u32.wrap (es[i].old.ver + 1), 0⟩) by kernel_rfl, vb_some]
        have hin : 0 ≤ es[i].at' ∧ es[i].at'.toNat < ws.length := by
          unfold wAt at hw
          split at hw
          · rename_i h0
            exact ⟨h0, (List.getElem?_eq_some_iff.1 hw).1⟩
          · cases hw
        refine c.wrW 2 rfl (n := es[i].at'.toNat) (by omega) (by rw [swps_len]; exact hin.2) ⟨es[i].new, IntKind.u32.wrap (es[i].old.ver + 1), 0⟩ rfl rfl fun h7 c => ?_
        exact c.drop (L := [_, _, _]) (L' := [_])
      | false =>
        rw [br_false, if_neg (by simp)]
        exact c.drop (L := [_, _, _]) (L' := [_])
    · intro h5 c
      rw [bin_add, vb_some, wrS (by omega)]
      exact hagain (i + 1) _ _ ⟨rfl, by omega, c⟩ (by omega)
  · have ei : i = es.length := by omega
    subst ei
    rw [List.take_length] at c
    rw [bldM, vb_some]
    refine c.sto (n := 1) 1 rfl u' rfl rfl fun h5 c => ?_
    rw [(c.va (i := 1) rfl).whole (n := 1) rfl, vb_some]
    exact hR u' _ ((c.front 2 rfl).drop (L := [_]))
structure CsM2 (S : Sys) (I : Ids) : Prop extends CsM1 S I where
  mnew : ∀ {v : Value} {ws : List W3} {h R}, ws.length ≤ 1000000 → (∀ w ∈ ws, w.ref = 0) → Sl EW h v ws → (∀ u h', Cx (fun _ => False) h h' [rSl EW (sV u) ws] → R (mM u) h') → S.C I.f_model_New [v] h R
  swap : ∀ {u : MS} {ws : List W3} {v : Value} {es : List E6} {h R}, ws.length ≤ 1000000 → es.length ≤ 1000000 → Sl EW h (sV u) ws → Sl EE h v es → holdsE ws es → (chk es = 0 ∨ es = []) →
    ((es = [] → ∀ h', Gr h h' → R (.tuple #[mM u, .bool false, .int .i64 8]) h') ∧ (chk es = 0 → ∀ u' h', Cx (fun _ => False) h h' [rSl EW (sV u') (swps ws es)] → R (.tuple #[mM u', .bool true, .int .i64 0]) h')) → S.C I.f_model_Model_Swap [mM u, v] h R
end Go.En
