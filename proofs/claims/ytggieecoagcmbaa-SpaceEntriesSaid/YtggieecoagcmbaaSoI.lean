/-
  Entries and their check.
-/
import Derived.Test.YtggieecoagcmbaaSoH
namespace Go.En
open Prog Spc Go.Sort

variable {S : Sys} {I : Ids} {h h0 h' : Hp} {F F0 : Fp} {R : Value → Hp → Prop} {L : List Res}

/-- an entry -/
structure E6 where
  at' : Int
  old : W3
  new : Int
  wr : Bool
def EE : Enc E6 := { n := 6, c := fun x => [.int .i64 x.at', .int .i64 x.old.v, .int .u32 x.old.ver, .int .u32 x.old.ref, .int .i64 x.new, .bool x.wr], len := fun _ => rfl, one := fun a v h => by simp only [List.mem_cons, List.not_mem_nil, or_false] at h; rcases h with rfl | rfl | rfl | rfl | rfl | rfl <;> rfl }
def mE (x : E6) : Value := .agg #[.int .i64 x.at', .int .i64 x.old.v, .int .u32 x.old.ver, .int .u32 x.old.ref, .int .i64 x.new, .bool x.wr]
theorem EE_old {r o : Nat} {x : E6} (H : Row EE h r o x) : Row EW h r (o + 1) x.old := fun j v hv => by
  have hj : j < 3 := (List.getElem?_eq_some_iff.1 hv).1
  have e : (EE.c x)[1 + j]? = (EW.c x.old)[j]? := by
    match j, hj with
    | 0, _ => rfl
    | 1, _ => rfl
    | 2, _ => rfl
  have := H (1 + j) v (e.trans hv)
  rw [show o + 1 + j = o + (1 + j) by omega]; exact this
theorem Va.fld2 {α : Type} {E : Enc α} {r : Nat} {x : α} (H : Va E h r x) (i j : Nat) {u : Value} (hu : (E.c x)[i + j]? = some u) {k : Value → Prop} (hk : k u) : Vb (fa i (at0 r)) fun p => Vb (fa j p) fun q => Vb (ldc q h) k := by
  rw [show at0 r = .pointer (some ⟨r, 0, none⟩) from rfl, fa_add, vb_some, fa_add, vb_some, Nat.add_assoc]
  exact vb (H.row.ldc hu) hk
theorem Va.old {r : Nat} {x : E6} (H : Va EE h r x) {k : Value → Prop} (hk : k (mW x.old)) : Vb (fa 1 (at0 r)) fun p => Vb (lda 3 p h) k := by
  rw [show at0 r = .pointer (some ⟨r, 0, none⟩) from rfl, fa_add, vb_some]
  exact vb ((EE_old H.row).lda (n := 3) rfl) hk

/-! ### Plain words -/
theorem K_Ref0 : ∀ h R, Cx (fun _ => False) h h [] → (∀ h' M, Cx (fun _ => False) h h' M → R (.tuple #[.int .u32 0, .int .i64 3]) h') → F_word_Ref S I (.int .i64 0) (.int .i64 0) h R := by
  intro h R c hR
  unfold F_word_Ref
  refine .here ?_
  rw [bin_lss, vb_some]
  exact hR _ _ c
structure CsE0 (S : Sys) (I : Ids) : Prop where
  ref0 : Pur S I.f_word_Ref [.int .i64 0, .int .i64 0] (.tuple #[.int .u32 0, .int .i64 3])
theorem K_Who0 (cs : CsE0 S I) : ∀ h R, Cx (fun _ => False) h h [] → (∀ h' M, Cx (fun _ => False) h h' M → R (.tuple #[.int .i64 0, .int .i64 0]) h') → F_word_Who S I (.int .u32 0) h R := by
  intro h R c hR
  unfold F_word_Who
  refine vb (v := .int .u32 0) rfl ?_
  refine vb (v := .int .i64 0) rfl ?_
  refine vb (v := .int .u32 0) rfl ?_
  refine vb (v := .int .i64 0) rfl ?_
  refine c.pur cs.ref0 fun h1 c => ?_
  refine ext0t (ext1t ?_)
  rw [bin_neq, vb_some]
  exact hR _ _ c
structure CsE1 (S : Sys) (I : Ids) : Prop where
  who0 : Pur S I.f_word_Who [.int .u32 0] (.tuple #[.int .i64 0, .int .i64 0])
theorem K_kind0 {w : W3} (cs : CsE1 S I) (hw : w.ref = 0) : ∀ h R, Cx (fun _ => False) h h [] → (∀ h' M, Cx (fun _ => False) h h' M → R (.int .i64 0) h') → F_word_kind S I (mW w) h R := by
  intro h R c hR
  unfold F_word_kind
  refine c.nw EW w rfl fun r h1 c => ?_
  refine (c.va (i := 0) rfl).fld (j := 2) (u := .int .u32 0) (by rw [← hw]; rfl) ?_
  refine c.pur cs.who0 fun h2 c => ?_
  refine ext0t (ext1t ?_)
  refine (c.va (i := 0) rfl).fld (j := 2) (u := .int .u32 0) (by rw [← hw]; rfl) ?_
  rw [bin_eql, vb_some]
  exact hR _ _ c
structure CsE2 (S : Sys) (I : Ids) : Prop where
  kind0 : ∀ {w : W3}, w.ref = 0 → Pur S I.f_word_kind [mW w] (.int .i64 0)
theorem K_Plain0 {w : W3} (cs : CsE2 S I) (hw : w.ref = 0) : ∀ h R, Cx (fun _ => False) h h [] → (∀ h' M, Cx (fun _ => False) h h' M → R (.bool true) h') → F_word_Plain S I (mW w) h R := by
  intro h R c hR
  unfold F_word_Plain
  refine c.nw EW w rfl fun r h1 c => ?_
  rw [(c.va (i := 0) rfl).whole (n := 3) rfl, vb_some]
  refine c.pur (cs.kind0 hw) fun h2 c => ?_
  rw [bin_eql, vb_some]
  exact hR _ _ c

/-! ### One entry, many entries -/
def wrongE (x : E6) : Int := if x.at' < 0 ∨ 4096 ≤ x.at' then 3 else if x.wr = true ∧ x.old.ver = 4294967295 then 9 else if x.wr = false ∧ x.new ≠ x.old.v then 4 else 0
structure CsE3 (S : Sys) (I : Ids) : Prop where
  plain0 : ∀ {w : W3}, w.ref = 0 → Pur S I.f_word_Plain [mW w] (.bool true)
theorem K_wrong {x : E6} (cs : CsE3 S I) (hx : x.old.ref = 0) : ∀ h R, Cx (fun _ => False) h h [] → (∀ h' M, Cx (fun _ => False) h h' M → R (.int .i64 (wrongE x)) h') → F_entry_wrong S I (mE x) h R := by
  intro h R c hR
  unfold F_entry_wrong
  refine c.nw EE x rfl fun r h1 c => ?_
  unfold wrongE at hR
  refine Jn1.at (fun u h' => (∃ bb : Bool, u = .bool bb ∧ (bb = true ↔ (x.at' < 0 ∨ 4096 ≤ x.at'))) ∧ Cx (fun _ => False) h h' [rVar EE r x]) ?_ ?_
  · refine (c.va (i := 0) rfl).fld (j := 0) rfl ?_
    rw [bin_lss, vb_some]
    refine brd (fun h2 => ?_) fun h2 => ?_
    · exact ⟨⟨true, rfl, by simp [h2]⟩, c⟩
    · refine (c.va (i := 0) rfl).fld (j := 0) rfl ?_
      rw [bin_geq, vb_some]
      exact ⟨⟨_, rfl, by simp only [decide_eq_true_eq]; omega⟩, c⟩
  clear c
  rintro u h2 ⟨⟨bb, rfl, hbb⟩, c⟩
  cases bb with
  | true =>
    rw [br_true]
    rw [if_pos (hbb.1 rfl)] at hR
    exact hR _ _ c
  | false =>
    rw [br_false]
    rw [if_neg (fun e => by have := hbb.2 e; cases this)] at hR
    refine (c.va (i := 0) rfl).old ?_
    refine c.pur (cs.plain0 hx) fun h3 c => ?_
    refine vb (v := .bool false) rfl ?_
    rw [br_false]
    refine Jn1.at (fun u h' => (∃ bb : Bool, u = .bool bb ∧ (bb = true ↔ (x.wr = true ∧ x.old.ver = 4294967295))) ∧ Cx (fun _ => False) h h' [rVar EE r x]) ?_ ?_
    · refine (c.va (i := 0) rfl).fld (j := 5) rfl ?_
      cases hw : x.wr with
      | true =>
        rw [br_true]
        refine (c.va (i := 0) rfl).fld2 1 1 rfl ?_
        refine vb (v := .bool (decide (x.old.ver = 4294967295))) bin_eql ?_
        exact ⟨⟨_, rfl, by simp⟩, c⟩
      | false => exact ⟨⟨false, rfl, by simp⟩, c⟩
    clear c
    rintro u h4 ⟨⟨bb, rfl, hbb⟩, c⟩
    cases bb with
    | true =>
      rw [br_true]
      rw [if_pos (hbb.1 rfl)] at hR
      exact hR _ _ c
    | false =>
      rw [br_false]
      rw [if_neg (fun e => by have := hbb.2 e; cases this)] at hR
      refine Jn1.at (fun u h' => (∃ bb : Bool, u = .bool bb ∧ (bb = true ↔ (x.wr = false ∧ x.new ≠ x.old.v))) ∧ Cx (fun _ => False) h h' [rVar EE r x]) ?_ ?_
      · refine (c.va (i := 0) rfl).fld (j := 5) rfl ?_
        cases hw : x.wr with
        | false =>
          refine vb (v := .bool true) rfl ?_
          rw [br_true]
          refine (c.va (i := 0) rfl).fld (j := 4) rfl ?_
          refine (c.va (i := 0) rfl).fld2 1 0 rfl ?_
          refine vb bin_neq ?_
          exact ⟨⟨_, rfl, by simp⟩, c⟩
        | true =>
          refine vb (v := .bool false) rfl ?_
          exact ⟨⟨false, rfl, by simp⟩, c⟩
      clear c
      rintro u h5 ⟨⟨bb, rfl, hbb⟩, c⟩
      cases bb with
      | true =>
        rw [br_true]
        rw [if_pos (hbb.1 rfl)] at hR
        exact hR _ _ c
      | false =>
        rw [br_false]
        rw [if_neg (fun e => by have := hbb.2 e; cases this)] at hR
        exact hR _ _ c

theorem K_Check1 {r : Nat} {x y : E6} (a : Va EE h r x) (hR : ∀ h', Gr h h' → R (.bool (decide (y.at' = x.at'))) h') : F_entry_Check_1 S I (mE y) (at0 r) h R := by
  unfold F_entry_Check_1
  have c := Cx.start0 h
  refine c.nw EE y rfl fun r2 h1 c => ?_
  refine (c.va (i := 0) rfl).fld (j := 0) rfl ?_
  refine (a.gr c.gr).fld (j := 0) rfl ?_
  rw [show bin .eql (.int .i64 y.at') (.int .i64 x.at') = some (.bool (decide (y.at' = x.at'))) from bin_eql, vb_some]
  exact hR _ c.gr
abbrev fCheck1 (I : Ids) (r : Nat) : Value := .func (.func I.f_entry_Check_1) #[] #[at0 r]
structure CsE4 (S : Sys) (I : Ids) : Prop where
  check1 : ∀ {r : Nat} {x y : E6} {h R}, Va EE h r x → (∀ h', Gr h h' → R (.bool (decide (y.at' = x.at'))) h') → S.C I.f_entry_Check_1 [mE y, at0 r] h R
theorem K_IndexFunc {v : Value} {r : Nat} {x : E6} {xs : List E6} (cs : CsE4 S I) (hN : xs.length ≤ 1000000) (hs : Sl EE h v xs) (a : Va EE h r x)
    (hR : ∀ (i : Int) h', Gr h h' → (i = -1 ∧ x.at' ∉ xs.map (·.at') ∨ 0 ≤ i ∧ x.at' ∈ xs.map (·.at')) → R (.int .i64 i) h') : F_slices_IndexFunc_api_Entry_api_Entry S I v (fCheck1 I r) h R := by
  unfold F_slices_IndexFunc_api_Entry_api_Entry
  rw [hs.ln, vb_some]
  refine Lp1.by (fun (i : Nat) u h' => u = .int .i64 i ∧ i ≤ xs.length ∧ Gr h h' ∧ ∀ (j : Nat) y, j < i → xs[j]? = some y → y.at' ≠ x.at') (fun i => xs.length - i) 0 ⟨rfl, Nat.zero_le _, .refl _ _, fun j y hj => absurd hj (Nat.not_lt_zero _)⟩ ?_
  rintro i u h1 ⟨rfl, hi, g, hno⟩ again hagain
  rw [bin_lss, vb_some]
  refine brd (fun h2 => ?_) fun h2 => ?_
  · have hx : xs[i]? = some xs[i] := List.getElem?_eq_getElem (by omega)
    refine (hs.gr g).whole rfl hx rfl ?_
    refine .inl ⟨_, _, _, rfl, ?_⟩
    refine cs.check1 (y := xs[i]) (a.gr g) fun h3 g3 => ?_
    have g4 : Gr h h3 := g.trans g3
    refine brd (fun h5 => ?_) fun h5 => ?_
    · exact hR _ _ g4 (.inr ⟨by omega, List.mem_map.2 ⟨xs[i], List.getElem_mem _, h5⟩⟩)
    · rw [bin_add, vb_some, wrS (by omega)]
      refine hagain (i + 1) _ _ ⟨rfl, by omega, g4, fun j y hj hy => ?_⟩ (by omega)
      by_cases hji : j = i
      · subst hji
        rw [hx] at hy
        cases hy; exact h5
      · exact hno j y (by omega) hy
  · refine hR _ _ g (.inl ⟨rfl, fun hm => ?_⟩)
    obtain ⟨y, hy, e⟩ := List.mem_map.1 hm
    obtain ⟨j, hj⟩ := List.mem_iff_getElem?.1 hy
    have := (List.getElem?_eq_some_iff.1 hj).1
    exact hno j y (by omega) hj e
structure CsE5 (S : Sys) (I : Ids) : Prop where
  index : ∀ {v : Value} {r : Nat} {x : E6} {xs : List E6} {h R}, xs.length ≤ 1000000 → Sl EE h v xs → Va EE h r x →
    (∀ (i : Int) h', Gr h h' → (i = -1 ∧ x.at' ∉ xs.map (·.at') ∨ 0 ≤ i ∧ x.at' ∈ xs.map (·.at')) → R (.int .i64 i) h') → S.C I.f_slices_IndexFunc_api_Entry_api_Entry [v, fCheck1 I r] h R
theorem K_ContainsFunc {v : Value} {r : Nat} {x : E6} {xs : List E6} (cs : CsE5 S I) (hN : xs.length ≤ 1000000) (hs : Sl EE h v xs) (a : Va EE h r x)
    (hR : ∀ h', Gr h h' → R (.bool (decide (x.at' ∈ xs.map (·.at')))) h') : F_slices_ContainsFunc_api_Entry_api_Entry S I v (fCheck1 I r) h R := by
  unfold F_slices_ContainsFunc_api_Entry_api_Entry
  refine cs.index hN hs a fun i h' g hi => ?_
  rw [bin_geq, vb_some]
  have : decide (0 ≤ i) = decide (x.at' ∈ xs.map (·.at')) := by
    rcases hi with ⟨rfl, hi⟩ | ⟨h1, h2⟩
    · rw [decide_eq_false hi]; rfl
    · rw [decide_eq_true h1, decide_eq_true h2]
  rw [this]
  exact hR _ g
structure CsE6 (S : Sys) (I : Ids) : Prop where
  wrong : ∀ {x : E6}, x.old.ref = 0 → Pur S I.f_entry_wrong [mE x] (.int .i64 (wrongE x))
  contains : ∀ {v : Value} {r : Nat} {x : E6} {xs : List E6} {h R}, xs.length ≤ 1000000 → Sl EE h v xs → Va EE h r x →
    (∀ h', Gr h h' → R (.bool (decide (x.at' ∈ xs.map (·.at')))) h') → S.C I.f_slices_ContainsFunc_api_Entry_api_Entry [v, fCheck1 I r] h R
def chkL : List Int → List E6 → Int
  | _, [] => 0
  | seen, x :: l => if wrongE x ≠ 0 then wrongE x else if x.at' ∈ seen then 11 else chkL (seen ++ [x.at']) l
def chk (l : List E6) : Int := if l.length = 0 then 8 else if 32 < l.length then 15 else chkL [] l
theorem K_ECheck {v : Value} {xs : List E6} (cs : CsE6 S I) (hN : xs.length ≤ 1000000) (hr : ∀ x ∈ xs, x.old.ref = 0) (hs : Sl EE h v xs) (hR : ∀ h', Gr h h' → R (.int .i64 (chk xs)) h') : F_entry_Check S I v h R := by
  unfold F_entry_Check
  unfold chk at hR
  rw [hs.ln, vb_some, bin_eql, vb_some]
  refine brd (fun h1 => ?_) fun h1 => ?_
  · rw [if_pos (by omega)] at hR; exact hR _ (.refl _ _)
  rw [if_neg (by omega)] at hR
  rw [vb_some, bin_gtr, vb_some]
  refine brd (fun h2 => ?_) fun h2 => ?_
  · rw [if_pos (by omega)] at hR; exact hR _ (.refl _ _)
  rw [if_neg (by omega)] at hR
  rw [vb_some]
  refine Lp1.by (fun (i : Nat) u h' => u = .int .i64 i ∧ i ≤ xs.length ∧ Cx (fun _ => False) h h' [] ∧ chkL ((xs.take i).map (·.at')) (xs.drop i) = chkL [] xs) (fun i => xs.length - i) 0 ⟨rfl, Nat.zero_le _, Cx.start0 h, rfl⟩ ?_
  rintro i u h3 ⟨rfl, hi, c, hck⟩ again hagain
  rw [bin_lss, vb_some]
  refine brd (fun h4 => ?_) fun h4 => ?_
  · have hx : xs[i]? = some xs[i] := List.getElem?_eq_getElem (by omega)
    have hdrop : xs.drop i = xs[i] :: xs.drop (i + 1) := List.drop_eq_getElem_cons (by omega)
    rw [hdrop, chkL] at hck
    refine (hs.gr c.gr).whole rfl hx rfl ?_
    refine c.nw EE ⟨0, ⟨0, 0, 0⟩, 0, false⟩ rfl fun r h5 c => ?_
    refine c.sto 0 rfl xs[i] rfl rfl fun h6 c => ?_
    rw [(c.va (i := 0) rfl).whole (n := 6) rfl, vb_some]
    refine c.pur (cs.wrong (x := xs[i]) (hr _ (List.getElem_mem _))) fun h7 c => ?_
    rw [bin_neq, vb_some]
    refine brd (fun h8 => ?_) fun h8 => ?_
    · rw [if_pos h8] at hck
      rw [hck]
      exact hR _ c.gr
    rw [if_neg h8] at hck
    obtain ⟨w, e1, hs2, _⟩ := (hs.gr c.gr).sub (n := 6) rfl (lo := none) (hi := some (.int .i64 (i : Nat))) (l := 0) (u := i) (.inl ⟨rfl, rfl⟩) (.inr ⟨_, _, rfl, rfl⟩) (Nat.zero_le _) (by omega)
    refine vb e1 ?_
    rw [vb_some]
    refine cs.contains (xs := xs.take i) (by rw [List.length_take]; omega) (by simpa using hs2) (c.va (i := 0) rfl) fun h9 g9 => ?_
    have c9 : Cx (fun _ => False) h h9 [] := (c.more g9).drop (L := [])
    refine brd (fun h10 => ?_) fun h10 => ?_
    · rw [if_pos h10] at hck
      rw [← hck] at hR
      exact hR _ c9.gr
    · rw [if_neg h10] at hck
      rw [bin_add, vb_some, wrS (by omega)]
      refine hagain (i + 1) _ _ ⟨rfl, by omega, c9, ?_⟩ (by omega)
      rw [← hck, List.take_add_one, hx, List.map_append]
      rfl
  · have : i = xs.length := by omega
    subst this
    rw [List.drop_length] at hck
    rw [← hck] at hR
    exact hR _ c.gr
end Go.En
