/-
  Layer 37: splitting, merging, paths' counts and links.
  Layer 37: the search path over the clean texts.
  Layer 37: Put over the clean texts.
  Layer 37: Drop, Get, Next over the clean texts.
-/
import Derived.Test.YtmpdclbiopalaaaYH
namespace Go.En
open Prog Spc Go.Sort

variable {S : Sys} {I : Ids} {h h0 h' : Hp} {F F0 : Fp} {R : Value → Hp → Prop} {L : List Res} {s : Value} {σ τ : Spc}
def E2I : Enc (Int × Int) := { n := 2, c := fun x => [.int .i64 x.1, .int .i64 x.2], len := fun _ => rfl, one := fun a v h => by simp only [List.mem_cons, List.not_mem_nil, or_false] at h; rcases h with rfl | rfl <;> rfl }
abbrev SH : Type := Option Addr × Nat × Nat
def ESh : Enc SH := { n := 1, c := fun a => [.slice a.1 a.2.1 a.2.2], len := fun _ => rfl, one := fun a v h => by simp only [List.mem_singleton] at h; subst h; rfl }
abbrev shV (u : SH) : Value := .slice u.1 u.2.1 u.2.2
theorem Ow.isH {α : Type} {E : Enc α} {v : Value} {xs : List α} (H : Ow E h v xs) : ∃ u : SH, v = shV u := by
  rcases H with ⟨rfl, _⟩ | ⟨r, o, cap, rfl, _⟩
  · exact ⟨(none, 0, 0), rfl⟩
  · exact ⟨(_, _, _), rfl⟩
/-- less is left than f -/
def Wk.fit (w : Wk) (f : Nat) : Prop := ∀ n, w = .ok n → n.val < f
section
variable {sp rw : Nat} {p : Pl} {root a b k v : Int} {w : Wk}
theorem fit_is {f : Nat} (hw : w.fit f) : (tIs p w a).2.fit f := by
  cases w with
  | no l => intro n e; cases e
  | ok n =>
    have := hw n rfl
    unfold tIs
    dsimp only
    split
    · intro n' e; cases e; exact this
    · split
      · intro n' e; cases e; show n.val - 1 < f; omega
      · intro n' e; cases e
theorem fit_dn {f : Nat} (hw : w.fit (f + 1)) (h : (tIs p w a).1 = true) : (tIs p w a).2.fit f := by
  cases w with
  | no l => cases h
  | ok n =>
    have := hw n rfl
    unfold tIs at h ⊢
    dsimp only at h ⊢
    split at h
    · cases h
    · rename_i h0
      split at h
      · rename_i h1
        rw [if_neg h0, if_pos h1]
        intro n' e; cases e; show n.val - 1 < f; omega
      · cases h
theorem get0_ {β : Type} {q : Int → Prog β} {Q : β → Spc → Prop} (cs : CsW0 S I) (c : Cx F0 h0 h (WL sp rw p root σ w L)) (hr : R64 a) (hp : wp (gt a >>= q) σ Q) (hk : ∀ v σ' h', R64 v → Cx F0 h0 h' (WL sp rw p root σ' w L) → wp (q v) σ' Q → R (.int .i64 v) h') :
    S.C I.f_tree_work_get [at0 rw, .int .i64 a, .int .i64 0] h R :=
  get_ cs c (by rw [Int.add_zero]; exact hr) (by rw [Int.add_zero]; exact hp) hk
theorem put0_ {β : Type} {q : Unit → Prog β} {Q : β → Spc → Prop} (cs : CsW0 S I) (c : Cx F0 h0 h (WL sp rw p root σ w L)) (hr : R64 a) (hp : wp (pt a v >>= q) σ Q) (hk : ∀ σ' h', Cx F0 h0 h' (WL sp rw p root σ' w L) → wp (q ()) σ' Q → R (.tuple #[]) h') :
    S.C I.f_tree_work_put [at0 rw, .int .i64 a, .int .i64 0, .int .i64 v] h R :=
  put_ cs c (by rw [Int.add_zero]; exact hr) (by rw [Int.add_zero]; exact hp) hk
theorem spl_ (cs : CsW0 S I) : ∀ (f : Nat) {h : Hp} {σ : Spc} {w : Wk} {a : Int} {β : Type} {q : (Int × Int) × Wk → Prog β} {Q : β → Spc → Prop} {R : Value → Hp → Prop}, w.fit f → 0 < f → Cx F0 h0 h (WL sp rw p root σ w L) → R64 a → wp (tSpl p k f w a >>= q) σ Q →
    (∀ x w' σ' h', Cx F0 h0 h' (WL sp rw p root σ' w' L) → wp (q (x, w')) σ' Q → R (.tuple #[.int .i64 x.1, .int .i64 x.2]) h') → S.C I.f_tree_work_split [at0 rw, .int .i64 a, .int .i64 k] h R
  | 0, h, σ, w, a, β, q, Q, R, hw, hf, c, ha, hp, hk => absurd hf (Nat.lt_irrefl 0)
  | f + 1, h, σ, w, a, β, q, Q, R, hw, hf, c, ha, hp, hk => by
    refine cs.tspl ?_
    unfold F_tree_work_split
    unfold tSpl at hp
    refine is_ cs c ha fun h1 c => ?_
    rw [uno_nb, vb_some]
    cases hi : (tIs p w a).1 with
    | false =>
      rw [hi, if_neg (by simp)] at hp
      rw [Bool.not_false, br_true]
      exact hk (0, 0) _ σ _ c hp
    | true =>
      rw [hi, if_pos rfl] at hp
      have hN := node_l (tIs_n hi)
      have hw' := fit_dn hw hi
      have hf' : 0 < f := by
        cases hw2 : (tIs p w a).2 with
        | ok n => have := hw' n hw2; omega
        | no l =>
          exfalso
          cases w with
          | no l => cases hi
          | ok n =>
            unfold tIs at hi hw2
            dsimp only at hi hw2
            split at hi
            · cases hi
            · rename_i h0
              split at hi
              · rename_i h1
                rw [if_neg h0, if_pos h1] at hw2
                cases hw2
              · cases hi
      rw [Bool.not_true, br_false]
      rw [Prog.wp_bind] at hp
      refine get0_ cs c ha hp fun x σ1 h2 _ c hp => ?_
      rw [bin_lss, vb_some]
      refine brd (fun hx => ?_) fun hx => ?_
      · rw [if_pos hx] at hp
        refine get_ cs c ⟨by omega, by omega⟩ hp fun r σ2 h3 hr c hp => ?_
        refine spl_ cs f hw' hf' c hr hp fun y w' σ3 h4 c hp => ?_
        refine ext0t (ext1t ?_)
        refine put_ cs c ⟨by omega, by omega⟩ hp fun σ4 h5 c hp => ?_
        refine ref_ cs c hN hp fun w'' σ5 h6 c hp => ?_
        exact hk (a, y.2) _ _ _ c hp
      · rw [if_neg hx] at hp
        refine get_ cs c ⟨by omega, by omega⟩ hp fun r σ2 h3 hr c hp => ?_
        refine spl_ cs f hw' hf' c hr hp fun y w' σ3 h4 c hp => ?_
        refine ext0t (ext1t ?_)
        refine put_ cs c ⟨by omega, by omega⟩ hp fun σ4 h5 c hp => ?_
        refine ref_ cs c hN hp fun w'' σ5 h6 c hp => ?_
        exact hk (y.1, a) _ _ _ c hp
theorem mrg_ (cs : CsW0 S I) : ∀ (f : Nat) {h : Hp} {σ : Spc} {w : Wk} {a b : Int} {β : Type} {q : Int × Wk → Prog β} {Q : β → Spc → Prop} {R : Value → Hp → Prop}, w.fit f → 0 < f → Cx F0 h0 h (WL sp rw p root σ w L) → R64 a → R64 b → wp (tMrg p f w a b >>= q) σ Q →
    (∀ x w' σ' h', Cx F0 h0 h' (WL sp rw p root σ' w' L) → wp (q (x, w')) σ' Q → R (.int .i64 x) h') → S.C I.f_tree_work_merge [at0 rw, .int .i64 a, .int .i64 b] h R
  | 0, h, σ, w, a, b, β, q, Q, R, hw, hf, c, ha, hb, hp, hk => absurd hf (Nat.lt_irrefl 0)
  | f + 1, h, σ, w, a, b, β, q, Q, R, hw, hf, c, ha, hb, hp, hk => by
    refine cs.tmrg ?_
    unfold F_tree_work_merge
    unfold tMrg at hp
    refine is_ cs c ha fun h1 c => ?_
    rw [uno_nb, vb_some]
    cases hi : (tIs p w a).1 with
    | false =>
      rw [hi, if_neg (by simp)] at hp
      rw [Bool.not_false, br_true]
      exact hk b _ σ _ c hp
    | true =>
      rw [hi, if_pos rfl] at hp
      dsimp only at hp
      have hN := node_l (tIs_n hi)
      have hw' := fit_dn hw hi
      rw [Bool.not_true, br_false]
      refine is_ cs c hb fun h2 c => ?_
      rw [uno_nb, vb_some]
      cases hi2 : (tIs p (tIs p w a).2 b).1 with
      | false =>
        rw [hi2, if_neg (by simp)] at hp
        rw [Bool.not_false, br_true]
        exact hk a _ σ _ c hp
      | true =>
        rw [hi2, if_pos rfl] at hp
        have hN2 := node_l (tIs_n hi2)
        have hw2 : (tIs p (tIs p w a).2 b).2.fit f := fit_is hw'
        have hf' : 0 < f := by
          cases hw3 : (tIs p w a).2 with
          | ok n => have := hw' n hw3; omega
          | no l => rw [hw3] at hi2; cases hi2
        rw [Bool.not_true, br_false]
        rw [Prog.wp_bind] at hp
        refine get0_ cs c ha hp fun x σ1 h3 hx c hp => ?_
        refine c.pur (cs.rank hx) fun h4 c => ?_
        refine get0_ cs c hb hp fun y σ2 h5 hy c hp => ?_
        refine c.pur (cs.rank hy) fun h6 c => ?_
        rw [bin_gtr, vb_some]
        refine brd (fun hr => ?_) fun hr => ?_
        · rw [if_pos hr] at hp
          refine get_ cs c ⟨by omega, by omega⟩ hp fun r σ2 h3 hr c hp => ?_
          refine mrg_ cs f hw2 hf' c hr hb hp fun y w' σ3 h4 c hp => ?_
          refine put_ cs c ⟨by omega, by omega⟩ hp fun σ4 h5 c hp => ?_
          refine ref_ cs c hN hp fun w'' σ5 h6 c hp => ?_
          exact hk a _ _ _ c hp
        · rw [if_neg hr] at hp
          refine get_ cs c ⟨by omega, by omega⟩ hp fun r σ2 h3 hr c hp => ?_
          refine mrg_ cs f hw2 hf' c ha hr hp fun y w' σ3 h4 c hp => ?_
          refine put_ cs c ⟨by omega, by omega⟩ hp fun σ4 h5 c hp => ?_
          refine ref_ cs c hN2 hp fun w'' σ5 h6 c hp => ?_
          exact hk b _ _ _ c hp
theorem add_ {β : Type} {q : Unit → Prog β} {Q : β → Spc → Prop} {lv0 lv : Value} {l0 l : List (Int × Int)} {n : Int} (cs : CsW0 S I) (c : Cx F0 h0 h (WL sp rw p root σ w (rSl E2I lv0 l0 :: L))) (hv : ∀ h', Sl E2I h' lv0 l0 → Sl E2I h' lv l) (hl : l.length ≤ 1000000) (hN : ∀ x ∈ l, 1 ≤ x.1 ∧ x.1 ≤ 4088)
    (hp : wp (tAdd n v l >>= q) σ Q) (hk : ∀ σ' h', Cx F0 h0 h' (WL sp rw p root σ' w (rSl E2I lv0 l0 :: L)) → wp (q ()) σ' Q → R (.tuple #[]) h') : S.C I.f_tree_work_add [at0 rw, lv, .int .i64 n, .int .i64 v] h R := by
  refine cs.tadd ?_
  unfold F_tree_work_add
  have c := Cx.pack (L := [rSpace (at0 sp) σ, rW rw p root sp w, rSl E2I lv0 l0]) (M := L) c
  rw [(hv _ (c.sl (i := 2) rfl).sl).ln, vb_some]
  refine Lp1.by (fun (x : Nat × Spc) u h' => u = .int .i64 x.1 ∧ x.1 ≤ l.length ∧ wp (tAdd n v (l.drop x.1) >>= q) x.2 Q ∧ Cx F0 h0 h' [rSpace (at0 sp) x.2, rW rw p root sp w, rSl E2I lv0 l0, rStar L]) (fun x => l.length - x.1) (0, σ) ⟨rfl, Nat.zero_le _, hp, c⟩ ?_
  clear c hp
  rintro ⟨i, σ⟩ u h1 ⟨rfl, hi, hp, c⟩ again hagain
  dsimp only at *
  rw [bin_lss, vb_some]
  refine brd (fun h2 => ?_) fun h2 => ?_
  · have hx : l[i]? = some l[i] := List.getElem?_eq_getElem (by omega)
    have hxN := hN l[i] (List.getElem_mem _)
    have hd : l.drop i = l[i] :: l.drop (i + 1) := List.drop_eq_getElem_cons (by omega)
    rw [hd] at hp
    generalize l[i] = x at *
    refine Jn0.at (fun h' => ∃ σ', wp (tAdd n v (l.drop (i + 1)) >>= q) σ' Q ∧ Cx F0 h0 h' [rSpace (at0 sp) σ', rW rw p root sp w, rSl E2I lv0 l0, rStar L]) ?_ ?_
    · refine (hv _ (c.sl (i := 2) rfl).sl).whole rfl hx rfl ?_
      refine c.nw E2I (0, 0) rfl fun rx h3 c => ?_
      refine c.sto 4 rfl x rfl rfl fun h4 c => ?_
      have hp : wp (((if n ≠ 0 then gt (x.1 + 4) >>= fun c => pt (x.1 + 4) (w64 (c + n)) else pure ()) >>= fun _ => (if v ≠ 0 then gt (x.1 + 5) >>= fun c => pt (x.1 + 5) (w64 (c + v)) else pure ()) >>= fun _ => tAdd n v (l.drop (i + 1))) >>= q) σ Q := hp
      refine Jn0.at (fun h' => ∃ σ', wp (((if v ≠ 0 then gt (x.1 + 5) >>= fun c => pt (x.1 + 5) (w64 (c + v)) else pure ()) >>= fun _ => tAdd n v (l.drop (i + 1))) >>= q) σ' Q ∧ Cx F0 h0 h' [rSpace (at0 sp) σ', rW rw p root sp w, rSl E2I lv0 l0, rStar L, rVar E2I rx x]) ?_ ?_
      · rw [bin_neq, vb_some]
        refine brd (fun hn => ?_) fun hn => ?_
        · rw [if_pos hn] at hp
          rw [show fa 0 (at0 rx) = some (.pointer (some ⟨rx, 0 + 0, none⟩)) from fa_add _ _ _, vb_some, show ldc (.pointer (some ⟨rx, 0 + 0, none⟩)) h4 = some (.int .i64 x.1) from (c.va (i := 4) rfl).row.ldc (j := 0) rfl, vb_some, vb_some, show ldc (.pointer (some ⟨rx, 0 + 0, none⟩)) h4 = some (.int .i64 x.1) from (c.va (i := 4) rfl).row.ldc (j := 0) rfl, vb_some]
          have hp : wp (gt (x.1 + 4) >>= fun c => pt (x.1 + 4) (w64 (c + n)) >>= fun _ => ((if v ≠ 0 then gt (x.1 + 5) >>= fun c => pt (x.1 + 5) (w64 (c + v)) else pure ()) >>= fun _ => tAdd n v (l.drop (i + 1))) >>= q) σ Q := hp
          refine get_ cs c ⟨by omega, by omega⟩ hp fun y σ1 h5 _ c hp => ?_
          refine ⟨(c.va (i := 4) rfl).row.ldc (j := 0) rfl, ?_⟩
          rw [bin_addw, vb_some]
          refine put_ cs c ⟨by omega, by omega⟩ hp fun σ2 h6 c hp => ?_
          exact ⟨σ2, hp, c⟩
        · rw [if_neg hn] at hp
          exact ⟨σ, hp, c⟩
      · clear c hp
        rintro h5 ⟨σ, hp, c⟩
        rw [bin_neq, vb_some]
        refine brd (fun hn => ?_) fun hn => ?_
        · rw [if_pos hn] at hp
          rw [show fa 0 (at0 rx) = some (.pointer (some ⟨rx, 0 + 0, none⟩)) from fa_add _ _ _, vb_some, show ldc (.pointer (some ⟨rx, 0 + 0, none⟩)) h5 = some (.int .i64 x.1) from (c.va (i := 4) rfl).row.ldc (j := 0) rfl, vb_some, vb_some, show ldc (.pointer (some ⟨rx, 0 + 0, none⟩)) h5 = some (.int .i64 x.1) from (c.va (i := 4) rfl).row.ldc (j := 0) rfl, vb_some]
          have hp : wp (gt (x.1 + 5) >>= fun c => pt (x.1 + 5) (w64 (c + v)) >>= fun _ => tAdd n v (l.drop (i + 1)) >>= q) σ Q := hp
          refine get_ cs c ⟨by omega, by omega⟩ hp fun y σ1 h5 _ c hp => ?_
          refine ⟨(c.va (i := 4) rfl).row.ldc (j := 0) rfl, ?_⟩
          rw [bin_addw, vb_some]
          refine put_ cs c ⟨by omega, by omega⟩ hp fun σ2 h6 c hp => ?_
          exact ⟨σ2, hp, c.drop (L := [_, _, _, _]) (L' := [_])⟩
        · rw [if_neg hn] at hp
          exact ⟨σ, hp, c.drop (L := [_, _, _, _]) (L' := [_])⟩
    · clear c hp
      rintro h5 ⟨σ, hp, c⟩
      rw [bin_add, vb_some, wrS (by omega)]
      exact hagain (i + 1, σ) _ _ ⟨rfl, by dsimp only; omega, hp, c⟩ (by dsimp only; omega)
  · rw [List.drop_of_length_le (by omega)] at hp
    exact hk σ _ (Cx.unpack (L := [rSpace (at0 sp) σ, rW rw p root sp w, rSl E2I lv0 l0]) c) hp
theorem hang_ {β : Type} {q : Unit → Prog β} {Q : β → Spc → Prop} {lv0 lv : Value} {l0 l : List (Int × Int)} (cs : CsW0 S I) (c : Cx F0 h0 h (WL sp rw p root σ w (rSl E2I lv0 l0 :: L))) (hv : ∀ h', Sl E2I h' lv0 l0 → Sl E2I h' lv l) (hl : l.length ≤ 1000000) (hN : ∀ x ∈ l, 1 ≤ x.1 ∧ x.1 ≤ 4088)
    (hp : wp (tHang root k a l >>= q) σ Q) (hk : ∀ σ' h', Cx F0 h0 h' (WL sp rw p root σ' w (rSl E2I lv0 l0 :: L)) → wp (q ()) σ' Q → R (.tuple #[]) h') : S.C I.f_tree_work_hang [at0 rw, lv, .int .i64 k, .int .i64 a] h R := by
  refine cs.thang ?_
  unfold F_tree_work_hang
  unfold tHang at hp
  rw [(hv _ (c.sl (i := 2) rfl).sl).ln, vb_some, bin_eql, vb_some]
  refine brd (fun h1 => ?_) fun h1 => ?_
  · have e : l = [] := List.eq_nil_of_length_eq_zero (by omega)
    subst e
    refine nckb ?_
    refine (c.va (i := 1) rfl).fld (j := 4) rfl ?_
    refine nckb ?_
    refine En.vb (fa_add _ _ _) (En.vb (fa_add _ _ _) (En.vb ((c.va (i := 1) rfl).row.ldc (j := 3) rfl) ?_))
    refine c.does cs.put 0 rfl hp fun _ σ' h2 c hp => ?_
    exact hk σ' _ c hp
  · have hlen : l.length ≠ 0 := fun e => h1 (by omega)
    have hx : l[l.length - 1]? = some l[l.length - 1] := List.getElem?_eq_getElem (by omega)
    have hg : l.getLast? = some l[l.length - 1] := by rw [List.getLast?_eq_getElem?, hx]
    have hxN := hN l[l.length - 1] (List.getElem_mem _)
    rw [hg] at hp
    generalize l[l.length - 1] = x at *
    have hp : wp (pt (x.1 + kidc k x.2) a >>= q) σ Q := hp
    have hkc : kidc k x.2 = 2 ∨ kidc k x.2 = 3 := by unfold kidc; split <;> simp
    have c := Cx.pack (L := [rSpace (at0 sp) σ, rW rw p root sp w, rSl E2I lv0 l0]) (M := L) c
    rw [vb_some, bin_sub, vb_some, wr64 ⟨by omega, by omega⟩]
    refine (hv _ (c.sl (i := 2) rfl).sl).whole rfl hx (by omega) ?_
    refine c.nw E2I (0, 0) rfl fun rx h3 c => ?_
    refine c.sto 4 rfl x rfl rfl fun h4 c => ?_
    rw [show fa 0 (at0 rx) = some (.pointer (some ⟨rx, 0 + 0, none⟩)) from fa_add _ _ _, vb_some, show ldc (.pointer (some ⟨rx, 0 + 0, none⟩)) h4 = some (.int .i64 x.1) from (c.va (i := 4) rfl).row.ldc (j := 0) rfl, vb_some]
    refine (c.va (i := 4) rfl).fld (j := 1) rfl ?_
    refine kid_ cs ?_
    refine ⟨(c.va (i := 4) rfl).row.ldc (j := 0) rfl, ?_⟩
    refine put_ cs c ⟨by omega, by omega⟩ hp fun σ2 h6 c hp => ?_
    exact hk σ2 _ (Cx.unpack (L := [rSpace (at0 sp) σ2, rW rw p root sp w, rSl E2I lv0 l0]) (c.drop (L := [_, _, _, _]) (L' := [_]))) hp
end
end Go.En
namespace Go.En
open Prog Spc Go.Sort

variable {S : Sys} {I : Ids} {h h0 h' : Hp} {F F0 : Fp} {R : Value → Hp → Prop} {L : List Res} {s : Value} {σ τ : Spc}
section
variable {sp rw : Nat} {p : Pl} {root a b k v : Int} {w : Wk}
theorem way_ (cs : CsW0 S I) (c : Cx F0 h0 h L) (hk : ∀ x y h', Cx F0 h0 h' (L ++ [rVar EPtr x (some ⟨rw, 0, none⟩), rVar EI1 y k]) → R (.func (.func I.f_tree_work_way_1) #[] #[at0 x, at0 y]) h') : S.C I.f_tree_work_way [at0 rw, .int .i64 k] h R := by
  refine cs.tway ?_
  unfold F_tree_work_way
  refine c.nw EPtr (some ⟨rw, 0, none⟩) rfl fun x h1 c => ?_
  refine c.nw EI1 k rfl fun y h2 c => ?_
  refine vb rfl (hk x y _ ?_)
  rw [List.append_assoc] at c
  exact c
/-- what a search has at hand -/
abbrev pL (sp rw ro x y d l : Nat) (p : Pl) (root k : Int) (u : SH) (o : Loop) (σ : Spc) (w : Wk) (acc : List (Int × Int)) (L : List Res) (st : LoopState) (j : Option Code) : List Res :=
  [rSpace (at0 sp) σ, rW rw p root sp w, rStar L, rVar ESh ro u, rVar EPtr x (some ⟨rw, 0, none⟩), rVar EI1 y k, rObj d (.deferred (some [])), rObj l (lpO o st j), rSl E2I (shV u) acc]
theorem lose_left : w.lose.left = w.left := by cases w <;> rfl
theorem lose_lost : w.lose.lost = true := by cases w <;> rfl
theorem fit_lose {f : Nat} : w.lose.fit f := by cases w <;> (intro n e; cases e)
theorem path_ {β : Type} {q : List (Int × Int) × Wk → Prog β} {Q : β → Spc → Prop} (cs : CsW0 S I) (hp0 : 0 ≤ p.nodes ∧ p.nodes ≤ 1000) (hr : R64 root) (c : Cx F0 h0 h (WL sp rw p root σ w L)) (hp : wp (tPath p root k w >>= q) σ Q)
    (hk : ∀ l w' σ' v h', (∀ f, w.fit f → w'.fit f) → (∀ x ∈ l, (1 ≤ x.1 ∧ x.1 ≤ 4088) ∧ R64 x.2) → l.length ≤ 1000 → Cx F0 h0 h' (WL sp rw p root σ' w' (rSl E2I v l :: L)) → wp (q (l, w')) σ' Q → R (.tuple #[v, .bool (tFnd k l)]) h') : S.C I.f_tree_work_path [at0 rw, .int .i64 k] h R := by
  refine cs.tpath ?_
  unfold F_tree_work_path
  have c := Cx.pack (L := [rSpace (at0 sp) σ, rW rw p root sp w]) (M := L) c
  refine c.nw ESh (none, 0, 0) rfl fun ro h1 c => ?_
  refine way_ cs c fun x y h2 c => ?_
  refine c.rg rfl fun l d o h4 hd hY c => ?_
  subst hd
  refine cs.tway1 ?_
  unfold F_tree_work_way_1
  have c := c.nil E2I
  have c : Cx F0 h0 h4 (pL sp rw ro x y h2.size l p root k (none, 0, 0) o σ w [] L .ready none) := c
  -- the end of the search
  have fin : ∀ {σ : Spc} {w' : Wk} {acc : List (Int × Int)} {u : SH} {h' : Hp}, (∀ f, w.fit f → w'.fit f) → (∀ x ∈ acc, (1 ≤ x.1 ∧ x.1 ≤ 4088) ∧ R64 x.2) → acc.length ≤ 1000 → Cx F0 h0 h' (pL sp rw ro x y h2.size l p root k u o σ w' acc L .ready none) → wp (q (acc, w')) σ Q →
      ∃ j h3, endl l h' = some (j, h3) ∧ Jp j (Jn2 (fun v4 v5 h12 => Sb (tkd h2.size h12) fun h13 => R (.tuple #[v4, v5]) h13) fun J0 =>
          Vb (ldc (at0 ro) h3) fun v16 => Vb (ldc (at0 ro) h3) fun v17 => Vb (lnS v17) fun v18 => Vb (bin .gtr v18 (Value.int IntKind.i64 0)) fun v19 => Br v19 (Vb (ldc (at0 ro) h3) fun v21 => Vb (ldc (at0 ro) h3) fun v22 => Vb (lnS v22) fun v23 => Vb (bin .sub v23 (Value.int IntKind.i64 1)) fun v24 => Vb (ixs 2 v21 v24) fun v25 => Vb (fa 1 v25) fun v26 => Vb (ldc v26 h3) fun v27 => Vb (bin .eql v27 (.int .i64 k)) fun v29 => J0 v16 v29 h3) (J0 v16 (Value.bool false) h3))
        (Sb (tkd h2.size h3) fun h14 => R (.tuple #[(Value.slice none 0 0), (Value.bool false)]) h14) fun id0 => Xb id0 0 (Jn2 (fun v4_1 v5_1 h15 => Sb (tkd h2.size h15) fun h16 => R (.tuple #[v4_1, v5_1]) h16) fun J1 =>
          Vb (ldc (at0 ro) h3) fun v16_1 => Vb (ldc (at0 ro) h3) fun v17_1 => Vb (lnS v17_1) fun v18_1 => Vb (bin .gtr v18_1 (Value.int IntKind.i64 0)) fun v19_1 => Br v19_1 (Vb (ldc (at0 ro) h3) fun v21_1 => Vb (ldc (at0 ro) h3) fun v22_1 => Vb (lnS v22_1) fun v23_1 => Vb (bin .sub v23_1 (Value.int IntKind.i64 1)) fun v24_1 => Vb (ixs 2 v21_1 v24_1) fun v25_1 => Vb (fa 1 v25_1) fun v26_1 => Vb (ldc v26_1 h3) fun v27_1 => Vb (bin .eql v27_1 (.int .i64 k)) fun v29_1 => J1 v16_1 v29_1 h3) (J1 v16_1 (Value.bool false) h3)) False := fun {σ w' acc u h'} hw hN hl c hp => by
    obtain ⟨h3, e, c⟩ := c.endl (i := 7) rfl (by simp)
    refine ⟨_, _, e, ?_⟩
    unfold Jp
    refine .here ?_
    rw [(c.va (i := 3) rfl).one rfl, vb_some, vb_some, (c.sl (i := 8) rfl).sl.ln, vb_some, bin_gtr, vb_some]
    have done : ∀ bb, bb = tFnd k acc → Sb (tkd h2.size h3) fun h13 => R (.tuple #[shV u, .bool bb]) h13 := fun bb e => by
      refine c.tkd (i := 6) rfl fun h5 c => ?_
      subst e
      refine hk acc w' σ (shV u) _ hw hN hl ?_ hp
      have c := c.pick [0, 1, 8, 2]
      exact Cx.unpack (L := [rSpace (at0 sp) σ, rW rw p root sp w', rSl E2I (shV u) acc]) c
    refine brd (fun h0 => ?_) fun h0 => ?_
    · have hne : acc.length ≠ 0 := fun e => by rw [e] at h0; omega
      have hx : acc[acc.length - 1]? = some acc[acc.length - 1] := List.getElem?_eq_getElem (by omega)
      rw [vb_some, vb_some, (c.sl (i := 8) rfl).sl.ln, vb_some, bin_sub, vb_some, wr64 ⟨by omega, by omega⟩]
      refine (c.sl (i := 8) rfl).sl.fld rfl hx (by omega) (j := 1) rfl ?_
      rw [bin_eql, vb_some]
      refine done _ ?_
      unfold tFnd
      rw [List.getLast?_eq_getElem?, hx]
    · have e : acc = [] := List.eq_nil_of_length_eq_zero (by omega)
      refine done _ ?_
      rw [e]; rfl
  have e1 : ldc (at0 x) h4 = some (at0 rw) := (c.va (i := 4) rfl).one rfl
  rw [e1, vb_some]
  refine nckb ?_
  refine (c.va (i := 1) rfl).fld (j := 4) rfl ?_
  rw [vb_some]
  refine nckb ?_
  refine En.vb (fa_add _ _ _) (En.vb (fa_add _ _ _) (En.vb ((c.va (i := 1) rfl).row.ldc (j := 3) rfl) ?_))
  have hp : wp (gt root >>= fun a => tPathL p k p.nodes.toNat w a [] >>= q) σ Q := hp
  refine c.doesE cs.get (Ens.gt _) 0 rfl hp fun a σ1 h5 ha c hp => ?_
  have c : Cx F0 h0 h5 (pL sp rw ro x y h2.size l p root k (none, 0, 0) o σ1 w [] L .ready none) := c
  refine Lp2.by (fun (z : Nat × Int × Spc × Wk × List (Int × Int) × SH) u v h' => (∃ many : Int, u = .int .i64 many ∧ 0 ≤ many ∧ many + z.1 = p.nodes ∧ (z.2.2.2.2.1.length : Int) = many) ∧ v = .int .i64 z.2.1 ∧ R64 z.2.1 ∧ (∀ f, w.fit f → z.2.2.2.1.fit f) ∧ (∀ x ∈ z.2.2.2.2.1, (1 ≤ x.1 ∧ x.1 ≤ 4088) ∧ R64 x.2) ∧
      wp (tPathL p k z.1 z.2.2.2.1 z.2.1 z.2.2.2.2.1 >>= q) z.2.2.1 Q ∧ Cx F0 h0 h' (pL sp rw ro x y h2.size l p root k z.2.2.2.2.2 o z.2.2.1 z.2.2.2.1 z.2.2.2.2.1 L .ready none)) (fun z => z.1) (p.nodes.toNat, a, σ1, w, [], (none, 0, 0))
    ⟨⟨0, rfl, Int.le_refl 0, by dsimp only; omega, rfl⟩, rfl, ha, fun f h => h, (fun x hx => by cases hx), hp, c⟩ ?_
  clear c hp e1
  rintro ⟨m, a, σ, w', acc, u⟩ u1 v1 h6 ⟨⟨many, rfl, hm0, hm, hal⟩, rfl, ha, hw, hN, hp, c⟩ again hagain
  dsimp only at *
  rw [show ldc (at0 x) h6 = some (at0 rw) from (c.va (i := 4) rfl).one rfl, vb_some]
  refine is_ (L := [rStar L, rVar ESh ro u, rVar EPtr x (some ⟨rw, 0, none⟩), rVar EI1 y k, rObj h2.size (.deferred (some [])), rObj l (lpO o .ready none), rSl E2I (shV u) acc]) cs c ha fun h7 c => ?_
  have hw2 : ∀ f, w.fit f → (tIs p w' a).2.fit f := fun f hf => fit_is (hw f hf)
  cases hi : (tIs p w' a).1 with
  | false =>
    have hq : wp (q (acc, (tIs p w' a).2)) σ Q := by
      cases m with
      | zero => unfold tPathL at hp; rw [hi, if_neg (by simp)] at hp; exact hp
      | succ m => unfold tPathL at hp; rw [hi, if_neg (by simp)] at hp; exact hp
    rw [br_false]
    exact fin hw2 hN (by omega) c hq
  | true =>
    have hN1 := node_l (tIs_n hi)
    rw [br_true, show ldc (at0 x) h7 = some (at0 rw) from (c.va (i := 4) rfl).one rfl, vb_some]
    refine nckb ?_
    refine En.vb (fa_add _ _ _) (En.vb (fa_add _ _ _) (En.vb (fa_add _ _ _) (En.vb ((c.va (i := 1) rfl).row.ldc (j := 2) rfl) ?_)))
    rw [bin_geq, vb_some]
    refine brd (fun hge => ?_) fun hge => ?_
    · have hge : p.nodes ≤ many := hge
      have em : m = 0 := by omega
      subst em
      rw [vb_some]
      refine nckb ?_
      unfold tPathL at hp
      rw [hi, if_pos rfl] at hp
      refine c.stof 1 rfl (j := 5) (p, root, sp, true, (tIs p w' a).2.left) rfl (by decide) rfl fun h8 c => ?_
      refine fin (u := u) (w' := (tIs p w' a).2.lose) (fun f _ => fit_lose) hN (by omega) ?_ hp
      show Cx F0 h0 h8 (rSpace (at0 sp) σ :: rVar EWk rw (p, root, sp, (tIs p w' a).2.lose.lost, (tIs p w' a).2.lose.left) :: _)
      rw [lose_left, lose_lost]
      exact c
    · have hlt : ¬ p.nodes ≤ many := hge
      obtain ⟨m, rfl⟩ : ∃ m', m = m' + 1 := ⟨m - 1, by omega⟩
      unfold tPathL at hp
      rw [hi, if_pos rfl, Prog.wp_bind] at hp
      rw [vb_some]
      refine get0_ (L := [rStar L, rVar ESh ro u, rVar EPtr x (some ⟨rw, 0, none⟩), rVar EI1 y k, rObj h2.size (.deferred (some [])), rObj l (lpO o .ready none), rSl E2I (shV u) acc]) cs c ha hp fun key σ2 h8 hkey c hp => ?_
      refine Jn1.at (fun v h' => v = .bool (decide (key = k)) ∧ ∃ u', Cx F0 h0 h' (pL sp rw ro x y h2.size l p root k u' o σ2 (tIs p w' a).2 (acc ++ [(a, key)]) L .ready none)) ?_ ?_
      · refine En.vb (v := .agg ⟨E2I.c (a, key)⟩) (by kernel_rfl) ?_
        refine .inr ⟨l, rfl, hY _ _ _ (c.lpat (i := 7) rfl) ?_⟩
        show A1 [_] _
        unfold A1
        refine c.nw E2I (0, 0) rfl fun rx h9 c => ?_
        refine c.sto 9 rfl (a, key) rfl rfl fun h10 c => ?_
        refine c.bgn (i := 7) rfl fun h11 c => ?_
        rw [show ldc (at0 ro) h11 = some (shV u) from (c.va (i := 3) rfl).one rfl, vb_some]
        refine En.vb ((c.va (i := 9) rfl).whole (n := 2) rfl) ?_
        refine c.app1 8 rfl (a, key) rfl rfl rfl (by omega) (by omega) fun v' h12 c => ?_
        obtain ⟨u', rfl⟩ := (c.sl (i := 8) rfl).isH
        refine c.sto1 3 rfl u' rfl rfl fun h13 c => ?_
        refine c.fin' (i := 7) none rfl fun h14 c => ?_
        refine En.vb (v := .bool false) rfl ?_
        rw [br_false, show ldc (at0 y) h14 = some (.int .i64 k) from (c.va (i := 5) rfl).one rfl, vb_some, bin_eql, vb_some]
        exact ⟨rfl, u', c.drop (L := pL sp rw ro x y h2.size l p root k u' o σ2 (tIs p w' a).2 (acc ++ [(a, key)]) L .ready none) (L' := [_])⟩
      · clear c
        rintro v h9 ⟨rfl, u', c⟩
        have hN' : ∀ x ∈ acc ++ [(a, key)], (1 ≤ x.1 ∧ x.1 ≤ 4088) ∧ R64 x.2 := fun x hx => by
          rcases List.mem_append.1 hx with h | h
          · exact hN x h
          · rw [List.mem_singleton] at h; subst h; exact ⟨hN1, hkey⟩
        have hl' : ((acc ++ [(a, key)]).length : Int) = many + 1 := by rw [List.length_append, List.length_singleton]; omega
        refine brd (fun e => ?_) fun e => ?_
        · rw [if_pos e] at hp
          exact fin hw2 hN' (by omega) c hp
        · rw [if_neg e] at hp
          rw [show ldc (at0 x) h9 = some (at0 rw) from (c.va (i := 4) rfl).one rfl, vb_some, show ldc (at0 y) h9 = some (.int .i64 k) from (c.va (i := 5) rfl).one rfl, vb_some]
          refine kid_ cs ?_
          refine ⟨(c.va (i := 4) rfl).one rfl, ?_⟩
          have hkc : kidc k key = 2 ∨ kidc k key = 3 := by unfold kidc; split <;> simp
          refine get_ (L := [rStar L, rVar ESh ro u', rVar EPtr x (some ⟨rw, 0, none⟩), rVar EI1 y k, rObj h2.size (.deferred (some [])), rObj l (lpO o .ready none), rSl E2I (shV u') (acc ++ [(a, key)])]) cs c ⟨by omega, by omega⟩ hp fun a' σ3 h10 ha' c hp => ?_
          refine En.vb (addI (by show R64 (many + 1); exact ⟨by omega, by omega⟩)) ?_
          rw [← Prog.wp_bind] at hp
          exact hagain (m, a', σ3, (tIs p w' a).2, acc ++ [(a, key)], u') _ _ _ ⟨⟨many + 1, rfl, by omega, by dsimp only; omega, hl'⟩, rfl, ha', hw2, hN', hp, c⟩ (by dsimp only; omega)
end
end Go.En
namespace Go.En
open Prog Spc Go.Sort

variable {S : Sys} {I : Ids} {h h0 h' : Hp} {F F0 : Fp} {R : Value → Hp → Prop} {L : List Res} {s : Value} {σ τ : Spc}
section
variable {sp rw : Nat} {p : Pl} {root a b k v : Int} {w : Wk}
theorem K_tundo (cs : CsT S I) {r : Nat} {e m : Int} {R : Hp → Prop} (a : (rSpace s σ).P h F) (hv : Va EI1 h r e) (hR : ∀ h' F', (rSpace s (if e ≠ 0 then σ.back m else σ)).P h' F' → Mv F h F' h' → R h') :
    F_tree_undo S I s (.int .i64 m) (at0 r) h fun _ h => R h := by
  unfold F_tree_undo
  refine nckb ?_
  rw [hv.one rfl]
  simp only [go_sem]
  refine brd (fun h1 => ?_) fun h1 => ?_
  · rw [if_pos h1] at hR
    have c := Cx.start a
    exact c.last cs.back 0 rfl (Q := fun _ σ' => σ' = σ.back m) rfl fun _ σ' h' c e => let ⟨F', a', m⟩ := c.fin; hR _ _ (e ▸ a') m
  · rw [if_neg h1] at hR
    exact hR _ _ a (.refl _ _)
end
structure CsW1 (S : Sys) (I : Ids) : Prop extends CsW0 S I where
  tundo : ∀ {s h F σ r} {e m : Int} {R : Hp → Prop}, (rSpace s σ).P h F → Va EI1 h r e → (∀ h' F', (rSpace s (if e ≠ 0 then σ.back m else σ)).P h' F' → Mv F h F' h' → R h') → S.D I.f_tree_undo [s, .int .i64 m, at0 r] h R
theorem Cx.tundo {β : Type} {r : Nat} {e m : Int} {R : Hp → Prop} {q : Unit → Prog β} {Q : β → Spc → Prop} (cs : CsW1 S I) (c : Cx F0 h0 h L) (i : Nat) (hi : L[i]? = some (rSpace s σ)) (j : Nat) (hj : L[j]? = some (rVar EI1 r e))
    (hp : wp (dUn e m >>= q) σ Q) (k : ∀ σ' h', Cx F0 h0 h' (L.set i (rSpace s σ')) → wp (q ()) σ' Q → R h') : S.D I.f_tree_undo [s, .int .i64 m, at0 r] h R := by
  obtain ⟨F, a, up⟩ := c.upd hi
  refine cs.tundo a (c.va hj) fun h' F' a' mv => k _ _ (up a' mv) ?_
  rw [Prog.wp_bind] at hp
  unfold dUn at hp
  split at hp
  · rename_i he; rw [if_pos he]; exact hp
  · rename_i he; rw [if_neg he]; exact hp
def uT3 (x : Int × Bool × Int) : Value := .tuple #[.int .i64 x.1, .bool x.2.1, .int .i64 x.2.2]
theorem sl_take {lv : Value} {l : List (Int × Int)} (H : Sl E2I h lv l) {u : Nat} (hu : u ≤ l.length) : ∃ w, slc 2 lv none (some (.int .i64 (u : Int))) none = some w ∧ ∀ h', Sl E2I h' lv l → Sl E2I h' w (l.take u) := by
  obtain ⟨w, e, _, _⟩ := H.sub (n := 2) rfl (lo := none) (hi := some (.int .i64 (u : Int))) (l := 0) (u := u) (.inl ⟨rfl, rfl⟩) (.inr ⟨_, _, rfl, rfl⟩) (Nat.zero_le _) hu
  refine ⟨w, e, fun h' H' => ?_⟩
  obtain ⟨w', e', hs, _⟩ := H'.sub (n := 2) rfl (lo := none) (hi := some (.int .i64 (u : Int))) (l := 0) (u := u) (.inl ⟨rfl, rfl⟩) (.inr ⟨_, _, rfl, rfl⟩) (Nat.zero_le _) hu
  rw [e] at e'
  cases e'
  simpa using hs
theorem cut_take {k : Int} : ∀ {l : List (Int × Int)} {i : Nat}, (∀ x ∈ l.take i, rk k < rk x.2) → i ≤ l.length → (∀ x, l[i]? = some x → ¬ rk k < rk x.2) → cutL k l = l.take i
  | [], i, _, _, _ => by simp [cutL]
  | y :: l, 0, h1, h2, h3 => by
    have := h3 y rfl
    unfold cutL
    rw [List.takeWhile_cons, decide_eq_false this]; rfl
  | y :: l, i + 1, h1, h2, h3 => by
    have hy := h1 y (by simp)
    have ih := cut_take (k := k) (l := l) (i := i) (fun x hx => h1 x (by rw [List.take_succ_cons]; exact List.mem_cons_of_mem _ hx)) (by simpa using h2) fun x hx => h3 x (by simpa using hx)
    unfold cutL at ih ⊢
    rw [List.takeWhile_cons, decide_eq_true hy, if_pos rfl, ih, List.take_succ_cons]
section
variable {p : Pl} {root k v : Int}
theorem wk0_fit (hp0 : 0 ≤ p.nodes ∧ p.nodes ≤ 1000) : (wk0 p).fit (fu p) := by
  intro n e
  have e : Fin.ofNat 1000001 (64 * (p.nodes.toNat + 1)) = n := by unfold wk0 at e; exact Wk.ok.inj e
  rw [← e, wk0_val hp0]
  unfold fu; omega
theorem fu_pos : 0 < fu p := by unfold fu; omega
theorem last_some {l : List (Int × Int)} (h : tFnd k l = true) : ∃ x, l.getLast? = some x ∧ l[l.length - 1]? = some x ∧ l.length ≠ 0 := by
  unfold tFnd at h
  cases hg : l.getLast? with
  | none => rw [hg] at h; cases h
  | some x => exact ⟨x, rfl, by rw [← List.getLast?_eq_getElem?]; exact hg, fun e => by rw [List.eq_nil_of_length_eq_zero e] at hg; cases hg⟩
set_option maxHeartbeats 1000000 in
theorem K_tPut (cs : CsW1 S I) (hp0 : 0 ≤ p.nodes ∧ p.nodes ≤ 1000) (hr : 0 ≤ root ∧ root ≤ 4000) (hk : R64 k) : ∀ h0 F σ R Q, Cx F h0 h0 [rSpace s σ] → wp (tPut p root k v) σ Q → (∀ a σ' h' M, Cx F h0 h' (rSpace s σ' :: M) → Q a σ' → R (uT3 a) h') → F_tree_Tree_Put S I (vT p root) s (.int .i64 k) (.int .i64 v) h0 R := by
  intro h0 F σ R Q c hp hR
  obtain ⟨sp, rfl⟩ := c.ptr (i := 0) rfl
  unfold F_tree_Tree_Put
  unfold tPut at hp
  refine c.nw ET (p, root) rfl fun rt h1 c => ?_
  refine c.nw EI1 0 rfl fun re h2 c => ?_
  refine c.doesE cs.mark Ens.mk 0 rfl hp fun m σ h3 hm c hp => ?_
  rw [tW (i := 1) c rfl, vb_some]
  refine work_ cs.toCsW0 hp0 c fun rw_ h4 c => ?_
  have c : Cx F h0 h4 (WL sp rw_ p root σ (wk0 p) [rVar ET rt (p, root), rVar EI1 re 0]) := c.pick [0, 3, 1, 2]
  refine path_ cs.toCsW0 hp0 ⟨by omega, by omega⟩ c hp fun l w' σ lv h5 hfit hNk hl c hp => ?_
  have hN : ∀ x ∈ l, 1 ≤ x.1 ∧ x.1 ≤ 4088 := fun x hx => (hNk x hx).1
  have hfit := hfit _ (wk0_fit hp0)
  refine ext0t (ext1t ?_)
  refine nckb ?_
  refine (c.va (i := 1) rfl).fld (j := 5) rfl ?_
  dsimp only at hp
  cases hlo : w'.lost with
  | true =>
    rw [hlo, if_pos rfl] at hp
    rw [br_true]
    refine c.sto1 4 rfl 24 rfl rfl fun h6 c => ?_
    refine c.tundo cs 0 rfl 4 rfl hp fun σ h7 c hp => ?_
    rw [(c.va (i := 4) rfl).one rfl, vb_some]
    exact hR (0, false, 24) _ _ _ c hp
  | false =>
  rw [hlo, if_neg (by simp)] at hp
  rw [br_false]
  cases hfd : tFnd k l with
  | true =>
    rw [hfd, if_pos rfl] at hp
    obtain ⟨x, hg, hx, hne⟩ := last_some hfd
    have hxN := hN x (List.mem_of_getElem? hx)
    unfold tPutF at hp
    rw [hg] at hp
    have hp : wp (gt (x.1 + 1) >>= fun old => pt (x.1 + 1) v >>= fun _ => tAdd 0 (w64 (v - old)) l >>= fun _ => dUn 0 m >>= fun _ => pure (old, true, 0)) σ Q := hp
    rw [br_true, (c.sl (i := 2) rfl).sl.ln, vb_some, bin_sub, vb_some, wr64 ⟨by omega, by omega⟩]
    refine (c.sl (i := 2) rfl).sl.fld rfl hx (by omega) (j := 0) rfl ?_
    refine get_ cs.toCsW0 c ⟨by omega, by omega⟩ hp fun old σ h6 _ c hp => ?_
    refine put_ cs.toCsW0 c ⟨by omega, by omega⟩ hp fun σ h7 c hp => ?_
    rw [bin_subw, vb_some]
    refine add_ cs.toCsW0 c (fun h' H => H) (by omega) hN hp fun σ h8 c hp => ?_
    refine c.sto1 4 rfl 0 rfl rfl fun h9 c => ?_
    refine c.tundo cs 0 rfl 4 rfl hp fun σ h10 c hp => ?_
    rw [(c.va (i := 4) rfl).one rfl, vb_some]
    exact hR (old, true, 0) _ _ _ c hp
  | false =>
  rw [hfd, if_neg (by simp)] at hp
  rw [br_false]
  refine tP (i := 3) c rfl ?_
  refine c.doesE cs.take (Ens.take p) 0 rfl hp fun t σ h6 hE c hp => ?_
  unfold uE
  refine ext0t (ext1t ?_)
  refine c.sto1 4 rfl t.2 rfl rfl fun h7 c => ?_
  rw [(c.va (i := 4) rfl).one rfl, vb_some, bin_neq, vb_some]
  refine brd (fun h8 => ?_) fun h8 => ?_
  · rw [if_pos h8] at hp
    rw [vb_some]
    refine c.sto1 4 rfl t.2 rfl rfl fun h9 c => ?_
    refine c.tundo cs 0 rfl 4 rfl hp fun σ h10 c hp => ?_
    rw [(c.va (i := 4) rfl).one rfl, vb_some]
    exact hR (0, false, t.2) _ _ _ c hp
  rw [if_neg h8] at hp
  have hnode : (p.node t.1).isSome = true := by
    rcases hE with h | h
    · exact h.2
    · rcases h.2 with h | h | h <;> omega
  have hlt := node_l hnode
  have ht2 : t.2 = 0 := Decidable.not_not.1 h8
  generalize t.1 = n at *
  rw [ht2] at c
  have c : Cx F h0 h7 (WL sp rw_ p root σ w' [rSl E2I lv l, rVar ET rt (p, root), rVar EI1 re 0]) := c
  refine Lp1.by (fun (i : Nat) u h' => u = .int .i64 i ∧ i ≤ l.length ∧ (∀ x ∈ l.take i, rk k < rk x.2) ∧ Cx F h0 h' (WL sp rw_ p root σ w' [rSl E2I lv l, rVar ET rt (p, root), rVar EI1 re 0])) (fun i => l.length - i) 0 ⟨rfl, Nat.zero_le _, (fun x hx => by cases hx), c⟩ ?_
  clear c
  rintro i u h9 ⟨rfl, hi, hcut, c⟩ again hagain
  refine Jn1.at (fun u h' => ∃ bb : Bool, u = .bool bb ∧ (bb = true → i < l.length ∧ ∀ x, l[i]? = some x → rk k < rk x.2) ∧ (bb = false → ∀ x, l[i]? = some x → ¬ rk k < rk x.2) ∧ Cx F h0 h' (WL sp rw_ p root σ w' [rSl E2I lv l, rVar ET rt (p, root), rVar EI1 re 0])) ?_ ?_
  · rw [(c.sl (i := 2) rfl).sl.ln, vb_some, bin_lss, vb_some]
    refine brd (fun h10 => ?_) fun h10 => ?_
    · have hx : l[i]? = some l[i] := List.getElem?_eq_getElem (by omega)
      refine (c.sl (i := 2) rfl).sl.fld rfl hx rfl (j := 1) rfl ?_
      have hxR := (hNk l[i] (List.getElem_mem _)).2
      generalize l[i] = x at *
      refine c.pur (cs.rank hxR) fun h11 c => ?_
      refine c.pur (cs.rank hk) fun h12 c => ?_
      rw [bin_gtr, vb_some]
      refine ⟨_, rfl, fun e => ⟨by omega, fun y hy => ?_⟩, fun e y hy => ?_, c⟩
      · rw [hx] at hy; cases hy; exact of_decide_eq_true e
      · rw [hx] at hy; cases hy; exact of_decide_eq_false e
    · exact ⟨false, rfl, (fun e => by cases e), fun _ x hx => (by rw [List.getElem?_eq_none (by omega)] at hx; cases hx), c⟩
  · clear c
    rintro u h10 ⟨bb, rfl, hb1, hb2, c⟩
    cases bb with
    | true =>
      obtain ⟨h11, h12⟩ := hb1 rfl
      rw [br_true, bin_add, vb_some, wrS (by omega)]
      refine hagain (i + 1) _ _ ⟨rfl, by omega, fun x hx => ?_, c⟩ (by omega)
      have hx0 : l[i]? = some l[i] := List.getElem?_eq_getElem h11
      rw [List.take_add_one, hx0, List.mem_append] at hx
      rcases hx with h | h
      · exact hcut x h
      · simp only [Option.toList_some, List.mem_singleton] at h
        subst h; exact h12 _ hx0
    | false =>
      have ecut := cut_take hcut hi (hb2 rfl)
      unfold tPutT at hp
      have elen : (cutL k l).length = i := by rw [ecut, List.length_take]; omega
      rw [elen, ecut] at hp
      rw [br_false]
      refine put0_ cs.toCsW0 c ⟨by omega, by omega⟩ hp fun σ h11 c hp => ?_
      refine put_ cs.toCsW0 c ⟨by omega, by omega⟩ hp fun σ h12 c hp => ?_
      refine Jn2.at (fun u1 u2 h' => ∃ (x : Int × Int) (w'' : Wk) (σ : Spc), u1 = .int .i64 x.1 ∧ u2 = .int .i64 x.2 ∧ wp (tPutU p root k v m (l.take i) (x, w'') n) σ Q ∧ Cx F h0 h' (WL sp rw_ p root σ w'' [rSl E2I lv l, rVar ET rt (p, root), rVar EI1 re 0])) ?_ ?_
      · rw [(c.sl (i := 2) rfl).sl.ln, vb_some, bin_lss, vb_some]
        refine brd (fun h13 => ?_) fun h13 => ?_
        · have hx : l[i]? = some l[i] := List.getElem?_eq_getElem (by omega)
          have hd : l.drop i = l[i] :: l.drop (i + 1) := List.drop_eq_getElem_cons (by omega)
          have hxN := hN l[i] (List.getElem_mem _)
          rw [hd] at hp
          generalize l[i] = x at *
          refine (c.sl (i := 2) rfl).sl.fld rfl hx rfl (j := 0) rfl ?_
          refine spl_ cs.toCsW0 (fu p) hfit fu_pos c ⟨by omega, by omega⟩ hp fun y w'' σ h14 c hp => ?_
          exact ext0t (ext1t ⟨y, w'', σ, rfl, rfl, hp, c⟩)
        · rw [List.drop_of_length_le (by omega)] at hp
          exact ⟨(0, 0), w', σ, rfl, rfl, hp, c⟩
      · clear c hp
        rintro u1 u2 h13 ⟨x, w'', σ, rfl, rfl, hp, c⟩
        unfold tPutU at hp
        refine put_ cs.toCsW0 c ⟨by omega, by omega⟩ hp fun σ h14 c hp => ?_
        refine put_ cs.toCsW0 c ⟨by omega, by omega⟩ hp fun σ h15 c hp => ?_
        refine ref_ cs.toCsW0 c hlt hp fun w3 σ h16 c hp => ?_
        obtain ⟨tv, etv, htv⟩ := sl_take (c.sl (i := 2) rfl).sl hi
        have hNt : ∀ x ∈ l.take i, 1 ≤ x.1 ∧ x.1 ≤ 4088 := fun x hx => hN x (List.mem_of_mem_take hx)
        rw [etv, vb_some]
        refine add_ cs.toCsW0 c htv (by rw [List.length_take]; omega) hNt hp fun σ h17 c hp => ?_
        rw [vb_some]
        refine hang_ cs.toCsW0 c htv (by rw [List.length_take]; omega) hNt hp fun σ h18 c hp => ?_
        rw [show fa 3 (at0 rt) = some (.pointer (some ⟨rt, 0 + 3, none⟩)) from fa_add _ _ _, vb_some, show ldc (.pointer (some ⟨rt, 0 + 3, none⟩)) h18 = some (.int .i64 root) from (c.va (i := 3) rfl).row.ldc (j := 3) rfl, vb_some]
        refine En.vb (addI (by show R64 (root + 7); exact ⟨by omega, by omega⟩)) ?_
        rw [vb_some, show ldc (.pointer (some ⟨rt, 0 + 3, none⟩)) h18 = some (.int .i64 root) from (c.va (i := 3) rfl).row.ldc (j := 3) rfl, vb_some]
        refine En.vb (addI (by show R64 (root + 7); exact ⟨by omega, by omega⟩)) ?_
        refine c.does cs.get 0 rfl hp fun y σ h19 c hp => ?_
        refine ⟨(c.va (i := 3) rfl).row.ldc (j := 3) rfl, ?_⟩
        unfold uI
        rw [bin_addw, vb_some]
        refine c.does cs.put 0 rfl hp fun _ σ h20 c hp => ?_
        refine nckb ?_
        refine (c.va (i := 1) rfl).fld (j := 5) rfl ?_
        cases hlo3 : w3.lost with
        | true =>
          rw [hlo3, if_pos rfl] at hp
          rw [br_true]
          refine c.sto1 4 rfl 24 rfl rfl fun h6 c => ?_
          refine c.tundo cs 0 rfl 4 rfl hp fun σ h7 c hp => ?_
          rw [(c.va (i := 4) rfl).one rfl, vb_some]
          exact hR (0, false, 24) _ _ _ c hp
        | false =>
          rw [hlo3, if_neg (by simp)] at hp
          rw [br_false]
          refine c.sto1 4 rfl 0 rfl rfl fun h6 c => ?_
          refine c.tundo cs 0 rfl 4 rfl hp fun σ h7 c hp => ?_
          rw [(c.va (i := 4) rfl).one rfl, vb_some]
          exact hR (0, false, 0) _ _ _ c hp
end
end Go.En
namespace Go.En
open Prog Spc Go.Sort

variable {S : Sys} {I : Ids} {h h0 h' : Hp} {F F0 : Fp} {R : Value → Hp → Prop} {L : List Res} {s : Value} {σ τ : Spc}
section
variable {sp rw : Nat} {p : Pl} {root a b k v : Int} {w : Wk}
theorem dropLast_take {l : List (Int × Int)} : l.dropLast = l.take (l.length - 1) := List.dropLast_eq_take
set_option maxHeartbeats 1000000 in
theorem K_tDrop (cs : CsW1 S I) (hp0 : 0 ≤ p.nodes ∧ p.nodes ≤ 1000) (hr : 0 ≤ root ∧ root ≤ 4000) : ∀ h0 F σ R Q, Cx F h0 h0 [rSpace s σ] → wp (tDrop p root k) σ Q → (∀ a σ' h' M, Cx F h0 h' (rSpace s σ' :: M) → Q a σ' → R (uT3 a) h') → F_tree_Tree_Drop S I (vT p root) s (.int .i64 k) h0 R := by
  intro h0 F σ R Q c hp hR
  obtain ⟨sp, rfl⟩ := c.ptr (i := 0) rfl
  unfold F_tree_Tree_Drop
  unfold tDrop at hp
  refine c.nw ET (p, root) rfl fun rt h1 c => ?_
  refine c.nw EI1 0 rfl fun re h2 c => ?_
  refine c.doesE cs.mark Ens.mk 0 rfl hp fun m σ h3 hm c hp => ?_
  rw [tW (i := 1) c rfl, vb_some]
  refine work_ cs.toCsW0 hp0 c fun rw_ h4 c => ?_
  have c : Cx F h0 h4 (WL sp rw_ p root σ (wk0 p) [rVar ET rt (p, root), rVar EI1 re 0]) := c.pick [0, 3, 1, 2]
  refine path_ cs.toCsW0 hp0 ⟨by omega, by omega⟩ c hp fun l w' σ lv h5 hfit hNk hl c hp => ?_
  have hN : ∀ x ∈ l, 1 ≤ x.1 ∧ x.1 ≤ 4088 := fun x hx => (hNk x hx).1
  have hfit := hfit _ (wk0_fit hp0)
  refine ext0t (ext1t ?_)
  refine nckb ?_
  refine (c.va (i := 1) rfl).fld (j := 5) rfl ?_
  dsimp only at hp
  cases hlo : w'.lost with
  | true =>
    rw [hlo, if_pos rfl] at hp
    rw [br_true]
    refine c.sto1 4 rfl 24 rfl rfl fun h6 c => ?_
    refine c.tundo cs 0 rfl 4 rfl hp fun σ h7 c hp => ?_
    rw [(c.va (i := 4) rfl).one rfl, vb_some]
    exact hR (0, false, 24) _ _ _ c hp
  | false =>
  rw [hlo, if_neg (by simp)] at hp
  rw [br_false, uno_nb, vb_some]
  cases hfd : tFnd k l with
  | false =>
    rw [hfd, if_neg (by simp)] at hp
    rw [Bool.not_false, br_true]
    refine c.sto1 4 rfl 0 rfl rfl fun h6 c => ?_
    refine c.tundo cs 0 rfl 4 rfl hp fun σ h7 c hp => ?_
    rw [(c.va (i := 4) rfl).one rfl, vb_some]
    exact hR (0, false, 0) _ _ _ c hp
  | true =>
  rw [hfd, if_pos rfl] at hp
  obtain ⟨x, hg, hx, hne⟩ := last_some hfd
  have hxN := hN x (List.mem_of_getElem? hx)
  rw [hg] at hp
  have hp : wp (tDropT p root k m l.dropLast w' x.1) σ Q := hp
  rw [Bool.not_true, br_false, (c.sl (i := 2) rfl).sl.ln, vb_some, bin_sub, vb_some, wr64 ⟨by omega, by omega⟩]
  refine (c.sl (i := 2) rfl).sl.fld rfl hx (by omega) (j := 0) rfl ?_
  rw [vb_some, bin_sub, vb_some, wr64 ⟨by omega, by omega⟩]
  obtain ⟨tv, etv, htv⟩ := sl_take (c.sl (i := 2) rfl).sl (u := l.length - 1) (by omega)
  rw [show ((l.length : Int) - 1) = ((l.length - 1 : Nat) : Int) by omega, etv, vb_some]
  rw [dropLast_take] at hp
  have hNt : ∀ y ∈ l.take (l.length - 1), 1 ≤ y.1 ∧ y.1 ≤ 4088 := fun y hy => hN y (List.mem_of_mem_take hy)
  have hlt : (l.take (l.length - 1)).length ≤ 1000000 := by rw [List.length_take]; omega
  generalize l.take (l.length - 1) = lt at *
  unfold tDropT at hp
  refine get_ cs.toCsW0 c ⟨by omega, by omega⟩ hp fun old σ h6 _ c hp => ?_
  refine get_ cs.toCsW0 c ⟨by omega, by omega⟩ hp fun xa σ h7 hxa c hp => ?_
  refine get_ cs.toCsW0 c ⟨by omega, by omega⟩ hp fun xb σ h8 hxb c hp => ?_
  refine mrg_ cs.toCsW0 (fu p) hfit fu_pos c hxa hxb hp fun y w3 σ h9 c hp => ?_
  refine hang_ cs.toCsW0 c htv hlt hNt hp fun σ h10 c hp => ?_
  refine En.vb (v := .int .i64 (w64 (-old))) (by
    show some (Value.int .i64 (IntKind.i64.wrap (0 - old))) = some (Value.int .i64 (IntKind.i64.wrap (-old)))
    rw [Int.zero_sub]) ?_
  refine add_ cs.toCsW0 c htv hlt hNt hp fun σ h11 c hp => ?_
  unfold tDropU at hp
  rw [show fa 3 (at0 rt) = some (.pointer (some ⟨rt, 0 + 3, none⟩)) from fa_add _ _ _, vb_some, show ldc (.pointer (some ⟨rt, 0 + 3, none⟩)) h11 = some (.int .i64 root) from (c.va (i := 3) rfl).row.ldc (j := 3) rfl, vb_some]
  refine En.vb (addI (by show R64 (root + 7); exact ⟨by omega, by omega⟩)) ?_
  rw [vb_some, show ldc (.pointer (some ⟨rt, 0 + 3, none⟩)) h11 = some (.int .i64 root) from (c.va (i := 3) rfl).row.ldc (j := 3) rfl, vb_some]
  refine En.vb (addI (by show R64 (root + 7); exact ⟨by omega, by omega⟩)) ?_
  refine c.does cs.get 0 rfl hp fun y σ h19 c hp => ?_
  refine ⟨(c.va (i := 3) rfl).row.ldc (j := 3) rfl, ?_⟩
  unfold uI
  rw [bin_subw, vb_some]
  refine c.does cs.put 0 rfl hp fun _ σ h20 c hp => ?_
  refine nckb ?_
  refine (c.va (i := 1) rfl).fld (j := 5) rfl ?_
  cases hlo3 : w3.lost with
  | true =>
    rw [hlo3, if_pos rfl] at hp
    rw [br_true]
    refine c.sto1 4 rfl 24 rfl rfl fun h6 c => ?_
    refine c.tundo cs 0 rfl 4 rfl hp fun σ h7 c hp => ?_
    rw [(c.va (i := 4) rfl).one rfl, vb_some]
    exact hR (0, false, 24) _ _ _ c hp
  | false =>
    rw [hlo3, if_neg (by simp)] at hp
    rw [br_false]
    refine tP (i := 3) c rfl ?_
    refine c.does (cs.give ⟨by omega, by omega⟩) 0 rfl hp fun e σ h21 c hp => ?_
    unfold uI
    rw [bin_neq, vb_some]
    refine brd (fun h22 => ?_) fun h22 => ?_
    · rw [if_pos h22] at hp
      refine c.sto1 4 rfl e rfl rfl fun h6 c => ?_
      refine c.tundo cs 0 rfl 4 rfl hp fun σ h7 c hp => ?_
      rw [(c.va (i := 4) rfl).one rfl, vb_some]
      exact hR (0, false, e) _ _ _ c hp
    · rw [if_neg h22] at hp
      refine c.sto1 4 rfl 0 rfl rfl fun h6 c => ?_
      refine c.tundo cs 0 rfl 4 rfl hp fun σ h7 c hp => ?_
      rw [(c.va (i := 4) rfl).one rfl, vb_some]
      exact hR (old, true, 0) _ _ _ c hp
def EBo : Enc Bool := { n := 1, c := fun b => [.bool b], len := fun _ => rfl, one := fun a v h => by simp only [List.mem_singleton] at h; subst h; rfl }
def uTB (x : Int × Bool) : Value := .tuple #[.int .i64 x.1, .bool x.2]
/-- what Get has at hand -/
abbrev gL (sp rw rt rk rv rb rp x y d l : Nat) (p : Pl) (root k v : Int) (bb : Bool) (o : Loop) (σ : Spc) (w : Wk) (st : LoopState) (j : Option Code) : List Res :=
  [rSpace (at0 sp) σ, rW rw p root sp w, rVar ET rt (p, root), rVar EI1 rk k, rVar EI1 rv v, rVar EBo rb bb, rVar EPtr rp (some ⟨rw, 0, none⟩), rVar EPtr x (some ⟨rw, 0, none⟩), rVar EI1 y k, rObj d (.deferred (some [])), rObj l (lpO o st j)]
set_option maxHeartbeats 1000000 in
theorem K_tGet (cs : CsW0 S I) (hp0 : 0 ≤ p.nodes ∧ p.nodes ≤ 1000) (hr : R64 root) : ∀ h0 F σ R Q, Cx F h0 h0 [rSpace s σ] → wp (tGet p root k) σ Q → (∀ a σ' h' M, Cx F h0 h' (rSpace s σ' :: M) → Q a σ' → R (uTB a) h') → F_tree_Tree_Get S I (vT p root) s (.int .i64 k) h0 R := by
  intro h0 F σ R Q c hp hR
  obtain ⟨sp, rfl⟩ := c.ptr (i := 0) rfl
  unfold F_tree_Tree_Get
  unfold tGet at hp
  refine c.nw ET (p, root) rfl fun rt h1 c => ?_
  refine c.nw EI1 k rfl fun rk h2 c => ?_
  refine c.nw EI1 0 rfl fun rv h3 c => ?_
  refine c.nw EBo false rfl fun rb h4 c => ?_
  rw [tW (i := 1) c rfl, vb_some]
  refine work_ cs hp0 c fun rw_ h5 c => ?_
  refine c.nw EPtr none rfl fun rp h6 c => ?_
  refine c.sto1 6 rfl (some ⟨rw_, 0, none⟩) rfl rfl fun h7 c => ?_
  rw [show ldc (at0 rp) h7 = some (at0 rw_) from (c.va (i := 6) rfl).one rfl, vb_some, (c.va (i := 2) rfl).one rfl, vb_some]
  refine way_ cs c fun x y h8 c => ?_
  refine c.rg rfl fun l d o h9 hd hY c => ?_
  subst hd
  have c : Cx F h0 h9 (gL sp rw_ rt rk rv rb rp x y h8.size l p root k 0 false o σ (wk0 p) .ready none) := c.pick [0, 5, 1, 2, 3, 4, 6, 7, 8, 9, 10]
  refine cs.tway1 ?_
  unfold F_tree_work_way_1
  rw [show ldc (at0 x) h9 = some (at0 rw_) from (c.va (i := 7) rfl).one rfl, vb_some]
  refine nckb ?_
  refine (c.va (i := 1) rfl).fld (j := 4) rfl ?_
  rw [vb_some]
  refine nckb ?_
  refine En.vb (fa_add _ _ _) (En.vb (fa_add _ _ _) (En.vb ((c.va (i := 1) rfl).row.ldc (j := 3) rfl) ?_))
  refine c.doesE cs.get (Ens.gt _) 0 rfl hp fun a σ1 h10 ha c hp => ?_
  -- nothing found
  have fin : ∀ {σ : Spc} {w' : Wk} {h' : Hp}, Cx F h0 h' (gL sp rw_ rt rk rv rb rp x y h8.size l p root k 0 false o σ w' .ready none) → Q (0, false) σ →
      ∃ j h3, endl l h' = some (j, h3) ∧ Jp j (Sb (sto 1 (at0 rv) (.int .i64 0) h3) fun h19 => Sb (sto 1 (at0 rb) (Value.bool false) h19) fun h20 => Sb (tkd h8.size h20) fun h21 => Vb (ldc (at0 rv) h21) fun r0 => Vb (ldc (at0 rb) h21) fun r1 => R (.tuple #[r0, r1]) h21)
        (Sb (tkd h8.size h3) fun h22 => Vb (ldc (at0 rv) h22) fun r0 => Vb (ldc (at0 rb) h22) fun r1 => R (.tuple #[r0, r1]) h22) fun id0 => Xb id0 0 (Sb (sto 1 (at0 rv) (.int .i64 0) h3) fun h23 => Sb (sto 1 (at0 rb) (Value.bool false) h23) fun h24 => Sb (tkd h8.size h24) fun h25 => Vb (ldc (at0 rv) h25) fun r0 => Vb (ldc (at0 rb) h25) fun r1 => R (.tuple #[r0, r1]) h25) False := fun {σ w' h'} c hq => by
    obtain ⟨h3, e, c⟩ := c.endl (i := 10) rfl (by simp)
    refine ⟨_, _, e, ?_⟩
    unfold Jp
    refine c.sto1 4 rfl 0 rfl rfl fun h11 c => ?_
    refine c.sto1 5 rfl false rfl rfl fun h12 c => ?_
    refine c.tkd (i := 9) rfl fun h13 c => ?_
    rw [(c.va (i := 4) rfl).one rfl, vb_some, (c.va (i := 5) rfl).one rfl, vb_some]
    exact hR (0, false) _ _ _ c hq
  refine Lp2.by (fun (z : Nat × Int × Spc × Wk) u v h' => (∃ many : Int, u = .int .i64 many ∧ 0 ≤ many ∧ many + z.1 = p.nodes) ∧ v = .int .i64 z.2.1 ∧ R64 z.2.1 ∧ wp (tGetL p k z.1 z.2.2.2 z.2.1) z.2.2.1 Q ∧
      Cx F h0 h' (gL sp rw_ rt rk rv rb rp x y h8.size l p root k 0 false o z.2.2.1 z.2.2.2 .ready none)) (fun z => z.1) (p.nodes.toNat, a, σ1, wk0 p) ⟨⟨0, rfl, Int.le_refl 0, by dsimp only; omega⟩, rfl, ha, hp, c⟩ ?_
  clear c hp
  rintro ⟨m, a, σ, w'⟩ u1 v1 h11 ⟨⟨many, rfl, hm0, hm⟩, rfl, ha, hp, c⟩ again hagain
  dsimp only at *
  rw [show ldc (at0 x) h11 = some (at0 rw_) from (c.va (i := 7) rfl).one rfl, vb_some]
  refine is_ cs c ha fun h12 c => ?_
  cases hi : (tIs p w' a).1 with
  | false =>
    have hq : Q (0, false) σ := by
      cases m with
      | zero => exact hp
      | succ m => unfold tGetL at hp; rw [hi, if_neg (by simp)] at hp; exact hp
    rw [br_false]
    exact fin c hq
  | true =>
    have hN1 := node_l (tIs_n hi)
    rw [br_true, show ldc (at0 x) h12 = some (at0 rw_) from (c.va (i := 7) rfl).one rfl, vb_some]
    refine nckb ?_
    refine En.vb (fa_add _ _ _) (En.vb (fa_add _ _ _) (En.vb (fa_add _ _ _) (En.vb ((c.va (i := 1) rfl).row.ldc (j := 2) rfl) ?_)))
    rw [bin_geq, vb_some]
    refine brd (fun hge => ?_) fun hge => ?_
    · have hge : p.nodes ≤ many := hge
      have em : m = 0 := by omega
      subst em
      rw [vb_some]
      refine nckb ?_
      refine c.stof 1 rfl (j := 5) (p, root, sp, true, (tIs p w' a).2.left) rfl (by decide) rfl fun h8 c => ?_
      refine fin (w' := (tIs p w' a).2.lose) ?_ hp
      show Cx F h0 h8 (rSpace (at0 sp) σ :: rVar EWk rw_ (p, root, sp, (tIs p w' a).2.lose.lost, (tIs p w' a).2.lose.left) :: _)
      rw [lose_left, lose_lost]
      exact c
    · have hlt : ¬ p.nodes ≤ many := hge
      obtain ⟨m, rfl⟩ : ∃ m', m = m' + 1 := ⟨m - 1, by omega⟩
      unfold tGetL at hp
      rw [hi, if_pos rfl] at hp
      rw [vb_some]
      refine get0_ cs c ha hp fun key σ2 h13 hkey c hp => ?_
      refine .here ?_
      refine En.vb (v := .agg ⟨E2I.c (a, key)⟩) (by kernel_rfl) ?_
      refine .inr ⟨l, rfl, hY _ _ _ (c.lpat (i := 10) rfl) ?_⟩
      show A1 [_] _
      unfold A1
      refine c.nw E2I (0, 0) rfl fun rx h14 c => ?_
      refine c.sto 11 rfl (a, key) rfl rfl fun h15 c => ?_
      refine c.bgn (i := 10) rfl fun h16 c => ?_
      refine (c.va (i := 11) rfl).fld (j := 1) rfl ?_
      rw [(c.va (i := 3) rfl).one rfl, vb_some, bin_eql, vb_some]
      refine brd (fun e => ?_) fun e => ?_
      · rw [if_pos e] at hp
        rw [show ldc (at0 rp) h16 = some (at0 rw_) from (c.va (i := 6) rfl).one rfl, vb_some]
        refine (c.va (i := 11) rfl).fld (j := 0) rfl ?_
        refine get_ cs c ⟨by omega, by omega⟩ hp fun val σ3 h17 _ c hp => ?_
        refine c.sto1 4 rfl val rfl rfl fun h18 c => ?_
        refine c.sto1 5 rfl true rfl rfl fun h19 c => ?_
        refine c.fin' (i := 10) (some .ret) rfl fun h20 c => ?_
        refine En.vb (v := .bool true) rfl ?_
        rw [br_true]
        show Br (.bool true) _ _
        rw [br_true]
        obtain ⟨h21, e, c⟩ := c.endl (i := 10) rfl (by simp)
        refine ⟨_, _, e, ?_⟩
        unfold Jp
        refine c.tkd (i := 9) rfl fun h22 c => ?_
        rw [(c.va (i := 4) rfl).one rfl, vb_some, (c.va (i := 5) rfl).one rfl, vb_some]
        exact hR (val, true) _ _ _ c hp
      · rw [if_neg e] at hp
        refine c.fin' (i := 10) none rfl fun h20 c => ?_
        refine En.vb (v := .bool false) rfl ?_
        rw [br_false, show ldc (at0 y) h20 = some (.int .i64 k) from (c.va (i := 8) rfl).one rfl, vb_some, bin_eql, vb_some]
        show Br (.bool (decide (key = k))) _ _
        refine brd (fun e2 => absurd e2 e) fun _ => ?_
        rw [show ldc (at0 x) h20 = some (at0 rw_) from (c.va (i := 7) rfl).one rfl, vb_some, show ldc (at0 y) h20 = some (.int .i64 k) from (c.va (i := 8) rfl).one rfl, vb_some]
        refine kid_ cs ?_
        refine ⟨(c.va (i := 7) rfl).one rfl, ?_⟩
        have hkc : kidc k key = 2 ∨ kidc k key = 3 := by unfold kidc; split <;> simp
        have c : Cx F h0 h20 (WL sp rw_ p root σ2 (tIs p w' a).2 [rVar ET rt (p, root), rVar EI1 rk k, rVar EI1 rv 0, rVar EBo rb false, rVar EPtr rp (some ⟨rw_, 0, none⟩), rVar EPtr x (some ⟨rw_, 0, none⟩), rVar EI1 y k, rObj h8.size (.deferred (some [])), rObj l (lpO o .ready none)]) := c.drop (L := gL sp rw_ rt rk rv rb rp x y h8.size l p root k 0 false o σ2 (tIs p w' a).2 .ready none) (L' := [_])
        refine get_ cs c ⟨by omega, by omega⟩ hp fun a' σ3 h21 ha' c hp => ?_
        refine En.vb (addI (by show R64 (many + 1); exact ⟨by omega, by omega⟩)) ?_
        exact hagain (m, a', σ3, (tIs p w' a).2) _ _ _ ⟨⟨many + 1, rfl, by omega, by dsimp only; omega⟩, rfl, ha', hp, c⟩ (by dsimp only; omega)
end
end Go.En
