/-
  Layer 37: Next, sums, counts, Nth, Len over the clean texts.
  Layer 37: ranges, Nth, Len, Walk over the clean texts.
-/
import Derived.Test.YtmpdclbiopalaaaYI
namespace Go.En
open Prog Spc Go.Sort

variable {S : Sys} {I : Ids} {h h0 h' : Hp} {F F0 : Fp} {R : Value → Hp → Prop} {L : List Res} {s : Value} {σ τ : Spc}
section
variable {sp rw : Nat} {p : Pl} {root a b k v : Int} {w : Wk}
abbrev nL (sp rw rt rk rv rb x y d l : Nat) (p : Pl) (root k : Int) (bb : Int × Bool) (o : Loop) (σ : Spc) (w : Wk) (st : LoopState) (j : Option Code) : List Res :=
  [rSpace (at0 sp) σ, rW rw p root sp w, rVar ET rt (p, root), rVar EI1 rk k, rVar EI1 rv bb.1, rVar EBo rb bb.2, rVar EPtr x (some ⟨rw, 0, none⟩), rVar EI1 y k, rObj d (.deferred (some [])), rObj l (lpO o st j)]
set_option maxHeartbeats 1000000 in
theorem K_tNext (cs : CsW0 S I) (hp0 : 0 ≤ p.nodes ∧ p.nodes ≤ 1000) (hr : R64 root) : ∀ h0 F σ R Q, Cx F h0 h0 [rSpace s σ] → wp (tNext p root k) σ Q → (∀ a σ' h' M, Cx F h0 h' (rSpace s σ' :: M) → Q a σ' → R (uTB a) h') → F_tree_Tree_Next S I (vT p root) s (.int .i64 k) h0 R := by
  intro h0 F σ R Q c hp hR
  obtain ⟨sp, rfl⟩ := c.ptr (i := 0) rfl
  unfold F_tree_Tree_Next
  unfold tNext at hp
  refine c.nw ET (p, root) rfl fun rt h1 c => ?_
  refine c.nw EI1 k rfl fun rk h2 c => ?_
  rw [tW (i := 1) c rfl, vb_some]
  refine work_ cs hp0 c fun rw_ h5 c => ?_
  refine c.nw EI1 0 rfl fun rv h3 c => ?_
  refine c.nw EBo false rfl fun rb h4 c => ?_
  refine c.sto1 4 rfl 0 rfl rfl fun h6 c => ?_
  refine c.sto1 5 rfl false rfl rfl fun h7 c => ?_
  rw [(c.va (i := 2) rfl).one rfl, vb_some]
  refine way_ cs c fun x y h8 c => ?_
  refine c.rg rfl fun l d o h9 hd hY c => ?_
  subst hd
  have c : Cx F h0 h9 (nL sp rw_ rt rk rv rb x y h8.size l p root k (0, false) o σ (wk0 p) .ready none) := c.pick [0, 3, 1, 2, 4, 5, 6, 7, 8, 9]
  refine cs.tway1 ?_
  unfold F_tree_work_way_1
  rw [show ldc (at0 x) h9 = some (at0 rw_) from (c.va (i := 6) rfl).one rfl, vb_some]
  refine nckb ?_
  refine (c.va (i := 1) rfl).fld (j := 4) rfl ?_
  rw [vb_some]
  refine nckb ?_
  refine En.vb (fa_add _ _ _) (En.vb (fa_add _ _ _) (En.vb ((c.va (i := 1) rfl).row.ldc (j := 3) rfl) ?_))
  refine c.doesE cs.get (Ens.gt _) 0 rfl hp fun a σ1 h10 ha c hp => ?_
  -- the end of the search
  have fin : ∀ {σ : Spc} {w' : Wk} {bb : Int × Bool} {h' : Hp}, Cx F h0 h' (nL sp rw_ rt rk rv rb x y h8.size l p root k bb o σ w' .ready none) → Q bb σ →
      ∃ j h3, endl l h' = some (j, h3) ∧ Jp j (Vb (ldc (at0 rv) h3) fun v25 => Vb (ldc (at0 rb) h3) fun v26 => Sb (tkd h8.size h3) fun h18 => R (.tuple #[v25, v26]) h18)
        (Sb (tkd h8.size h3) fun h19 => R (.tuple #[(Value.int IntKind.i64 0), (Value.bool false)]) h19) fun id0 => Xb id0 0 (Vb (ldc (at0 rv) h3) fun v25_1 => Vb (ldc (at0 rb) h3) fun v26_1 => Sb (tkd h8.size h3) fun h20 => R (.tuple #[v25_1, v26_1]) h20) False := fun {σ w' bb h'} c hq => by
    obtain ⟨h3, e, c⟩ := c.endl (i := 9) rfl (by simp)
    refine ⟨_, _, e, ?_⟩
    unfold Jp
    rw [(c.va (i := 4) rfl).one rfl, vb_some, (c.va (i := 5) rfl).one rfl, vb_some]
    refine c.tkd (i := 8) rfl fun h13 c => ?_
    exact hR bb _ _ _ c hq
  refine Lp2.by (fun (z : Nat × Int × Spc × Wk × Int × Bool) u v h' => (∃ many : Int, u = .int .i64 many ∧ 0 ≤ many ∧ many + z.1 = p.nodes) ∧ v = .int .i64 z.2.1 ∧ R64 z.2.1 ∧ wp (tNextL p k z.1 z.2.2.2.1 z.2.1 z.2.2.2.2) z.2.2.1 Q ∧
      Cx F h0 h' (nL sp rw_ rt rk rv rb x y h8.size l p root k z.2.2.2.2 o z.2.2.1 z.2.2.2.1 .ready none)) (fun z => z.1) (p.nodes.toNat, a, σ1, wk0 p, (0, false)) ⟨⟨0, rfl, Int.le_refl 0, by dsimp only; omega⟩, rfl, ha, hp, c⟩ ?_
  clear c hp
  rintro ⟨m, a, σ, w', bb⟩ u1 v1 h11 ⟨⟨many, rfl, hm0, hm⟩, rfl, ha, hp, c⟩ again hagain
  dsimp only at *
  rw [show ldc (at0 x) h11 = some (at0 rw_) from (c.va (i := 6) rfl).one rfl, vb_some]
  refine is_ cs c ha fun h12 c => ?_
  cases hi : (tIs p w' a).1 with
  | false =>
    have hq : Q bb σ := by
      cases m with
      | zero => exact hp
      | succ m => unfold tNextL at hp; rw [hi, if_neg (by simp)] at hp; exact hp
    rw [br_false]
    exact fin c hq
  | true =>
    have hN1 := node_l (tIs_n hi)
    rw [br_true, show ldc (at0 x) h12 = some (at0 rw_) from (c.va (i := 6) rfl).one rfl, vb_some]
    refine nckb ?_
    refine En.vb (fa_add _ _ _) (En.vb (fa_add _ _ _) (En.vb (fa_add _ _ _) (En.vb ((c.va (i := 1) rfl).row.ldc (j := 2) rfl) ?_)))
    rw [bin_geq, vb_some]
    refine brd (fun hge => ?_) fun hge => ?_
    · have hge : p.nodes ≤ many := hge
      have em : m = 0 := by omega
      subst em
      rw [vb_some]
      refine nckb ?_
      refine c.stof 1 rfl (j := 5) (p, root, sp, true, (tIs p w' a).2.left) rfl (by decide) rfl fun h8 c => ?_
      refine fin (bb := bb) (w' := (tIs p w' a).2.lose) ?_ hp
      show Cx F h0 h8 (rSpace (at0 sp) σ :: rVar EWk rw_ (p, root, sp, (tIs p w' a).2.lose.lost, (tIs p w' a).2.lose.left) :: _)
      rw [lose_left, lose_lost]
      exact c
    · have hlt : ¬ p.nodes ≤ many := hge
      obtain ⟨m, rfl⟩ : ∃ m', m = m' + 1 := ⟨m - 1, by omega⟩
      unfold tNextL at hp
      rw [hi, if_pos rfl] at hp
      rw [vb_some]
      refine get0_ cs c ha hp fun key σ2 h13 hkey c hp => ?_
      refine Jn1.at (fun v h' => v = .bool (decide (key = k)) ∧ Cx F h0 h' (nL sp rw_ rt rk rv rb x y h8.size l p root k (bst k key bb) o σ2 (tIs p w' a).2 .ready none)) ?_ ?_
      · refine En.vb (v := .agg ⟨E2I.c (a, key)⟩) (by kernel_rfl) ?_
        refine .inr ⟨l, rfl, hY _ _ _ (c.lpat (i := 9) rfl) ?_⟩
        show A1 [_] _
        unfold A1
        refine c.nw E2I (0, 0) rfl fun rx h14 c => ?_
        refine c.sto 10 rfl (a, key) rfl rfl fun h15 c => ?_
        refine c.bgn (i := 9) rfl fun h16 c => ?_
        refine (c.va (i := 10) rfl).fld (j := 1) rfl ?_
        rw [(c.va (i := 3) rfl).one rfl, vb_some, bin_geq, vb_some]
        unfold bst
        refine brd (fun e => ?_) fun e => ?_
        · rw [if_pos e]
          refine (c.va (i := 10) rfl).fld (j := 1) rfl ?_
          refine c.sto1 4 rfl key rfl rfl fun h18 c => ?_
          refine c.sto1 5 rfl true rfl rfl fun h19 c => ?_
          refine c.fin' (i := 9) none rfl fun h20 c => ?_
          refine En.vb (v := .bool false) rfl ?_
          rw [br_false, show ldc (at0 y) h20 = some (.int .i64 k) from (c.va (i := 7) rfl).one rfl, vb_some, bin_eql, vb_some]
          exact ⟨rfl, c.drop (L := nL sp rw_ rt rk rv rb x y h8.size l p root k (key, true) o σ2 (tIs p w' a).2 .ready none) (L' := [_])⟩
        · rw [if_neg e]
          refine c.fin' (i := 9) none rfl fun h20 c => ?_
          refine En.vb (v := .bool false) rfl ?_
          rw [br_false, show ldc (at0 y) h20 = some (.int .i64 k) from (c.va (i := 7) rfl).one rfl, vb_some, bin_eql, vb_some]
          exact ⟨rfl, c.drop (L := nL sp rw_ rt rk rv rb x y h8.size l p root k bb o σ2 (tIs p w' a).2 .ready none) (L' := [_])⟩
      · clear c
        rintro v h14 ⟨rfl, c⟩
        refine brd (fun e => ?_) fun e => ?_
        · rw [if_pos e] at hp
          exact fin c hp
        · rw [if_neg e] at hp
          rw [show ldc (at0 x) h14 = some (at0 rw_) from (c.va (i := 6) rfl).one rfl, vb_some, show ldc (at0 y) h14 = some (.int .i64 k) from (c.va (i := 7) rfl).one rfl, vb_some]
          refine kid_ cs ?_
          refine ⟨(c.va (i := 6) rfl).one rfl, ?_⟩
          have hkc : kidc k key = 2 ∨ kidc k key = 3 := by unfold kidc; split <;> simp
          refine get_ cs c ⟨by omega, by omega⟩ hp fun a' σ3 h21 ha' c hp => ?_
          refine En.vb (addI (by show R64 (many + 1); exact ⟨by omega, by omega⟩)) ?_
          exact hagain (m, a', σ3, (tIs p w' a).2, bst k key bb) _ _ _ ⟨⟨many + 1, rfl, by omega, by dsimp only; omega⟩, rfl, ha', hp, c⟩ (by dsimp only; omega)
/-- a node's own part of a sum -/
def fOwn (I : Ids) (sq : Bool) : Value := if sq = true then .func (.func I.f_tree_Tree_Sum_1) #[] #[] else .func (.func I.f_tree_Tree_Count_1) #[] #[]
structure CsW2 (S : Sys) (I : Ids) : Prop extends CsW1 S I where
  sum1 : ∀ {a b h R}, F_tree_Tree_Sum_1 S I a b h R → S.C I.f_tree_Tree_Sum_1 [a, b] h R
  cnt1 : ∀ {a b h R}, F_tree_Tree_Count_1 S I a b h R → S.C I.f_tree_Tree_Count_1 [a, b] h R
theorem own_ {sq : Bool} {β : Type} {q : Int → Prog β} {Q : β → Spc → Prop} (cs : CsW2 S I) (c : Cx F0 h0 h (WL sp rw p root σ w L)) (ha : 1 ≤ a ∧ a ≤ 4088) (hp : wp (tOwn sq a >>= q) σ Q) (hk : ∀ v σ' h', Cx F0 h0 h' (WL sp rw p root σ' w L) → wp (q v) σ' Q → R (.int .i64 v) h') :
    Cv S.C S.Y (fOwn I sq) [at0 rw, .int .i64 a] h R := by
  cases sq with
  | true =>
    refine .inl ⟨_, _, _, rfl, ?_⟩
    show S.C I.f_tree_Tree_Sum_1 [at0 rw, .int .i64 a] h R
    refine cs.sum1 ?_
    unfold F_tree_Tree_Sum_1
    have hp : wp (gt (a + 1) >>= q) σ Q := hp
    exact get_ cs.toCsW0 c ⟨by omega, by omega⟩ hp fun v σ' h1 _ c hp => hk v σ' _ c hp
  | false =>
    refine .inl ⟨_, _, _, rfl, ?_⟩
    show S.C I.f_tree_Tree_Count_1 [at0 rw, .int .i64 a] h R
    refine cs.cnt1 ?_
    unfold F_tree_Tree_Count_1
    exact hk 1 σ _ c hp
set_option maxHeartbeats 1000000 in
theorem K_tUnt {wi sq : Bool} (cs : CsW2 S I) (hp0 : 0 ≤ p.nodes ∧ p.nodes ≤ 1000) (hr : R64 root) : ∀ h0 F σ R Q, Cx F h0 h0 [rSpace s σ] → wp (tUnt p root k wi sq) σ Q → (∀ a σ' h' M, Cx F h0 h' (rSpace s σ' :: M) → Q a σ' → R (uI a) h') → F_tree_Tree_until S I (vT p root) s (.int .i64 k) (.bool wi) (.int .i64 (cel sq)) (fOwn I sq) h0 R := by
  intro h0 F σ R Q c hp hR
  obtain ⟨sp, rfl⟩ := c.ptr (i := 0) rfl
  unfold F_tree_Tree_until
  unfold tUnt at hp
  have hcel : In7 (cel sq) := by unfold cel; split <;> decide
  refine c.nw ET (p, root) rfl fun rt h1 c => ?_
  rw [tW (i := 1) c rfl, vb_some]
  refine work_ cs.toCsW0 hp0 c fun rw_ h2 c => ?_
  have c : Cx F h0 h2 (WL sp rw_ p root σ (wk0 p) [rVar ET rt (p, root)]) := c.pick [0, 2, 1]
  refine (c.va (i := 2) rfl).fld (j := 3) rfl ?_
  refine c.doesE cs.get (Ens.gt _) 0 rfl hp fun a σ h3 ha c hp => ?_
  refine Lp3.by (fun (z : Nat × Int × Spc × Wk × Int) u v t h' => u = .int .i64 z.2.2.2.2 ∧ (∃ many : Int, v = .int .i64 many ∧ 0 ≤ many ∧ many + z.1 = p.nodes) ∧ t = .int .i64 z.2.1 ∧ R64 z.2.1 ∧ wp (tUntL p k wi sq z.1 z.2.2.2.1 z.2.1 z.2.2.2.2) z.2.2.1 Q ∧
      Cx F h0 h' (WL sp rw_ p root z.2.2.1 z.2.2.2.1 [rVar ET rt (p, root)])) (fun z => z.1) (p.nodes.toNat, a, σ, wk0 p, 0) ⟨rfl, ⟨0, rfl, Int.le_refl 0, by dsimp only; omega⟩, rfl, ha, hp, c⟩ ?_
  clear c hp
  rintro ⟨m, a, σ, w', tot⟩ u1 v1 t1 h4 ⟨rfl, ⟨many, rfl, hm0, hm⟩, rfl, ha, hp, c⟩ again hagain
  dsimp only at *
  refine Jn1.at (fun u h' => ∃ bb : Bool, u = .bool bb ∧ (bb = true → (tIs p w' a).1 = true ∧ m ≠ 0) ∧ (bb = false → Q tot σ) ∧ Cx F h0 h' (WL sp rw_ p root σ (tIs p w' a).2 [rVar ET rt (p, root)])) ?_ ?_
  · refine is_ cs.toCsW0 c ha fun h5 c => ?_
    cases hi : (tIs p w' a).1 with
    | false =>
      rw [br_false]
      refine ⟨false, rfl, (fun e => by cases e), fun _ => ?_, c⟩
      cases m with
      | zero => exact hp
      | succ m => unfold tUntL at hp; rw [hi, if_neg (by simp)] at hp; exact hp
    | true =>
      rw [br_true]
      refine tN (i := 2) c rfl ?_
      rw [bin_lss, vb_some]
      refine ⟨_, rfl, fun e => ⟨rfl, by have := of_decide_eq_true e; omega⟩, fun e => ?_, c⟩
      have e0 : m = 0 := by have := of_decide_eq_false e; omega
      subst e0
      exact hp
  clear c
  rintro u h5 ⟨bb, rfl, hb1, hb2, c⟩
  cases bb with
  | false => rw [br_false]; exact hR tot _ _ _ c (hb2 rfl)
  | true =>
  obtain ⟨hi, hm1⟩ := hb1 rfl
  have hN := node_l (tIs_n hi)
  obtain ⟨m, rfl⟩ : ∃ m', m = m' + 1 := ⟨m - 1, by omega⟩
  unfold tUntL at hp
  rw [hi, if_pos rfl] at hp
  rw [br_true]
  refine Jn2.at (fun u1 u2 h' => ∃ (tot' a' : Int) (σ : Spc), u1 = .int .i64 tot' ∧ u2 = .int .i64 a' ∧ R64 a' ∧ wp (tUntL p k wi sq m (tIs p w' a).2 a' tot') σ Q ∧ Cx F h0 h' (WL sp rw_ p root σ (tIs p w' a).2 [rVar ET rt (p, root)])) ?_ ?_
  · refine get0_ cs.toCsW0 c ha hp fun key σ h6 _ c hp => ?_
    refine Jn1.at (fun u h' => u = .bool (decide (k < key ∨ key = k ∧ wi = false)) ∧ h' = h6) ?_ ?_
    · rw [bin_gtr, vb_some]
      refine brd (fun e => ⟨by rw [decide_eq_true (show k < key ∨ key = k ∧ wi = false from .inl e)], rfl⟩) fun e => ?_
      rw [bin_eql, vb_some]
      refine brd (fun e2 => ?_) fun e2 => ⟨by rw [decide_eq_false (by rintro (h | h); exact e h; exact e2 h.1)], rfl⟩
      rw [uno_nb, vb_some]
      refine ⟨?_, rfl⟩
      congr 1
      cases wi with
      | true => rw [decide_eq_false (by rintro (h | h); exact e h; exact absurd h.2 (by simp))]; rfl
      | false => rw [decide_eq_true (.inr ⟨e2, rfl⟩)]; rfl
    rintro u h7 ⟨rfl, rfl⟩
    refine brd (fun e => ?_) fun e => ?_
    · rw [if_pos e] at hp
      refine get_ cs.toCsW0 c ⟨by omega, by omega⟩ hp fun a' σ h8 ha' c hp => ?_
      exact ⟨tot, a', σ, rfl, rfl, ha', hp, c⟩
    · rw [if_neg e] at hp
      rw [tW (i := 2) c rfl, vb_some]
      refine work_ cs.toCsW0 hp0 c fun ri h8 c => ?_
      refine own_ cs c hN hp fun o σ h9 c hp => ?_
      refine get_ cs.toCsW0 c ⟨by omega, by omega⟩ hp fun l σ h10 hl c hp => ?_
      have c : Cx F h0 h10 (WL sp ri p root σ (wk0 p) [rW rw_ p root sp (tIs p w' a).2, rVar ET rt (p, root)]) := c.pick [0, 3, 1, 2]
      refine of_ cs.toCsW0 c hl hcel hp fun x wi' σ h11 _ c hp => ?_
      rw [bin_addw, vb_some, bin_addw, vb_some]
      have c : Cx F h0 h11 (WL sp rw_ p root σ (tIs p w' a).2 [rW ri p root sp wi', rVar ET rt (p, root)]) := c.pick [0, 2, 1, 3]
      refine get_ cs.toCsW0 c ⟨by omega, by omega⟩ hp fun a' σ h12 ha' c hp => ?_
      exact ⟨_, a', σ, rfl, rfl, ha', hp, c.pick [0, 1, 3]⟩
  · clear c hp
    rintro u1 u2 h6 ⟨tot', a', σ, rfl, rfl, ha', hp, c⟩
    refine En.vb (addI (by show R64 (many + 1); exact ⟨by omega, by omega⟩)) ?_
    exact hagain (m, a', σ, (tIs p w' a).2, tot') _ _ _ _ ⟨rfl, ⟨many + 1, rfl, by omega, by dsimp only; omega⟩, rfl, ha', hp, c⟩ (by dsimp only; omega)
end
end Go.En
namespace Go.En
open Prog Spc Go.Sort

variable {S : Sys} {I : Ids} {h h0 h' : Hp} {F F0 : Fp} {R : Value → Hp → Prop} {L : List Res} {s : Value} {σ τ : Spc}
structure CsW3 (S : Sys) (I : Ids) : Prop extends CsW2 S I where
  tunt : ∀ {p : Pl} {root k : Int} {wi sq : Bool} {s}, 0 ≤ p.nodes ∧ p.nodes ≤ 1000 → R64 root → Does S I.f_tree_Tree_until [vT p root, s, .int .i64 k, .bool wi, .int .i64 (cel sq), fOwn I sq] s (tUnt p root k wi sq) uI
  tlen : ∀ {p : Pl} {root : Int} {s}, 0 ≤ root ∧ root ≤ 4000 → Does S I.f_tree_Tree_Len [vT p root, s] s (gt (root + 7)) uI
section
variable {sp rw : Nat} {p : Pl} {root a b k v : Int} {w : Wk}
theorem K_tBtw {fr to : Int} {sq : Bool} (cs : CsW3 S I) (hp0 : 0 ≤ p.nodes ∧ p.nodes ≤ 1000) (hr : R64 root) : ∀ h0 F σ R Q, Cx F h0 h0 [rSpace s σ] → wp (tBtw p root fr to sq) σ Q → (∀ a σ' h' M, Cx F h0 h' (rSpace s σ' :: M) → Q a σ' → R (uI a) h') → F_tree_Tree_between S I (vT p root) s (.int .i64 fr) (.int .i64 to) (.int .i64 (cel sq)) (fOwn I sq) h0 R := by
  intro h0 F σ R Q c hp hR
  unfold F_tree_Tree_between
  unfold tBtw at hp
  refine c.nw ET (p, root) rfl fun rt h1 c => ?_
  rw [bin_gtr, vb_some]
  refine brd (fun e => ?_) fun e => ?_
  · rw [if_pos e] at hp
    exact hR 0 _ _ _ c hp
  · rw [if_neg e] at hp
    rw [tW (i := 1) c rfl, vb_some, vb_some]
    refine c.does (cs.tunt hp0 hr) 0 rfl hp fun x σ h2 c hp => ?_
    refine ⟨tW (i := 1) c rfl, ?_⟩
    refine c.does (cs.tunt hp0 hr) 0 rfl hp fun y σ h3 c hp => ?_
    unfold uI
    rw [bin_subw, vb_some]
    exact hR _ _ _ _ c hp
theorem K_tLen (cs : CsT S I) (hr : 0 ≤ root ∧ root ≤ 4000) : ∀ h0 F σ R Q, Cx F h0 h0 [rSpace s σ] → wp (gt (root + 7)) σ Q → (∀ a σ' h' M, Cx F h0 h' (rSpace s σ' :: M) → Q a σ' → R (uI a) h') → F_tree_Tree_Len S I (vT p root) s h0 R := by
  intro h0 F σ R Q c hp hR
  unfold F_tree_Tree_Len
  refine c.nw ET (p, root) rfl fun rt h1 c => ?_
  refine (c.va (i := 1) rfl).fld (j := 3) rfl ?_
  refine En.vb (addI (by show R64 (root + 7); exact ⟨by omega, by omega⟩)) ?_
  refine c.last cs.get 0 rfl hp fun x σ h2 c hq => ?_
  exact hR _ _ _ _ c hq
set_option maxHeartbeats 1000000 in
theorem K_tNth {n : Int} (cs : CsW3 S I) (hp0 : 0 ≤ p.nodes ∧ p.nodes ≤ 1000) (hr : R64 root) : ∀ h0 F σ R Q, Cx F h0 h0 [rSpace s σ] → wp (tNth p root n) σ Q → (∀ a σ' h' M, Cx F h0 h' (rSpace s σ' :: M) → Q a σ' → R (uTB a) h') → F_tree_Tree_Nth S I (vT p root) s (.int .i64 n) h0 R := by
  intro h0 F σ R Q c hp hR
  obtain ⟨sp, rfl⟩ := c.ptr (i := 0) rfl
  unfold F_tree_Tree_Nth
  unfold tNth at hp
  refine c.nw ET (p, root) rfl fun rt h1 c => ?_
  rw [tW (i := 1) c rfl, vb_some]
  refine work_ cs.toCsW0 hp0 c fun rw_ h2 c => ?_
  have c : Cx F h0 h2 (WL sp rw_ p root σ (wk0 p) [rVar ET rt (p, root)]) := c.pick [0, 2, 1]
  rw [bin_lss, vb_some]
  refine brd (fun e => ?_) fun e => ?_
  · rw [if_pos e] at hp
    exact hR (0, false) _ _ _ c hp
  rw [if_neg e] at hp
  refine (c.va (i := 2) rfl).fld (j := 3) rfl ?_
  refine c.doesE cs.get (Ens.gt _) 0 rfl hp fun a σ h3 ha c hp => ?_
  refine Lp3.by (fun (z : Nat × Int × Spc × Wk × Int) u v t h' => u = .int .i64 z.2.2.2.2 ∧ (∃ many : Int, v = .int .i64 many ∧ 0 ≤ many ∧ many + z.1 = p.nodes) ∧ t = .int .i64 z.2.1 ∧ R64 z.2.1 ∧ wp (tNthL p z.1 z.2.2.2.1 z.2.1 z.2.2.2.2) z.2.2.1 Q ∧
      Cx F h0 h' (WL sp rw_ p root z.2.2.1 z.2.2.2.1 [rVar ET rt (p, root)])) (fun z => z.1) (p.nodes.toNat, a, σ, wk0 p, n) ⟨rfl, ⟨0, rfl, Int.le_refl 0, by dsimp only; omega⟩, rfl, ha, hp, c⟩ ?_
  clear c hp e
  rintro ⟨m, a, σ, w', n⟩ u1 v1 t1 h4 ⟨rfl, ⟨many, rfl, hm0, hm⟩, rfl, ha, hp, c⟩ again hagain
  dsimp only at *
  refine Jn1.at (fun u h' => ∃ bb : Bool, u = .bool bb ∧ (bb = true → (tIs p w' a).1 = true ∧ m ≠ 0) ∧ (bb = false → Q (0, false) σ) ∧ Cx F h0 h' (WL sp rw_ p root σ (tIs p w' a).2 [rVar ET rt (p, root)])) ?_ ?_
  · refine is_ cs.toCsW0 c ha fun h5 c => ?_
    cases hi : (tIs p w' a).1 with
    | false =>
      rw [br_false]
      refine ⟨false, rfl, (fun e => by cases e), fun _ => ?_, c⟩
      cases m with
      | zero => exact hp
      | succ m => unfold tNthL at hp; rw [hi, if_neg (by simp)] at hp; exact hp
    | true =>
      rw [br_true]
      refine tN (i := 2) c rfl ?_
      rw [bin_lss, vb_some]
      refine ⟨_, rfl, fun e => ⟨rfl, by have := of_decide_eq_true e; omega⟩, fun e => ?_, c⟩
      have e0 : m = 0 := by have := of_decide_eq_false e; omega
      subst e0
      exact hp
  clear c
  rintro u h5 ⟨bb, rfl, hb1, hb2, c⟩
  cases bb with
  | false => rw [br_false]; exact hR (0, false) _ _ _ c (hb2 rfl)
  | true =>
  obtain ⟨hi, hm1⟩ := hb1 rfl
  have hN := node_l (tIs_n hi)
  obtain ⟨m, rfl⟩ : ∃ m', m = m' + 1 := ⟨m - 1, by omega⟩
  unfold tNthL at hp
  rw [hi, if_pos rfl] at hp
  rw [br_true]
  refine Jn2.at (fun u1 u2 h' => ∃ (n' a' : Int) (σ : Spc), u1 = .int .i64 n' ∧ u2 = .int .i64 a' ∧ R64 a' ∧ wp (tNthL p m (tIs p w' a).2 a' n') σ Q ∧ Cx F h0 h' (WL sp rw_ p root σ (tIs p w' a).2 [rVar ET rt (p, root)])) ?_ ?_
  · refine get_ cs.toCsW0 c ⟨by omega, by omega⟩ hp fun l σ h6 hl c hp => ?_
    rw [tW (i := 2) c rfl, vb_some]
    refine work_ cs.toCsW0 hp0 c fun ri h8 c => ?_
    have c : Cx F h0 h8 (WL sp ri p root σ (wk0 p) [rW rw_ p root sp (tIs p w' a).2, rVar ET rt (p, root)]) := c.pick [0, 3, 1, 2]
    refine of_ cs.toCsW0 c hl ⟨by decide, by decide⟩ hp fun x wi' σ h11 _ c hp => ?_
    have c : Cx F h0 h11 (WL sp rw_ p root σ (tIs p w' a).2 [rVar ET rt (p, root)]) := c.pick [0, 2, 3]
    dsimp only at hp
    rw [bin_eql, vb_some]
    refine brd (fun e => ?_) fun e => ?_
    · rw [if_pos e] at hp
      refine get0_ cs.toCsW0 c ha hp fun key σ h12 _ c hp => ?_
      exact hR (key, true) _ _ _ c hp
    rw [if_neg e] at hp
    rw [bin_lss, vb_some]
    refine brd (fun e => ?_) fun e => ?_
    · rw [if_pos e] at hp
      exact ⟨n, l, σ, rfl, rfl, hl, hp, c⟩
    · rw [if_neg e] at hp
      rw [bin_addw, vb_some, bin_subw, vb_some]
      refine get_ cs.toCsW0 c ⟨by omega, by omega⟩ hp fun a' σ h8 ha' c hp => ?_
      exact ⟨_, a', σ, rfl, rfl, ha', hp, c⟩
  · clear c hp
    rintro u1 u2 h6 ⟨n', a', σ, rfl, rfl, ha', hp, c⟩
    refine En.vb (addI (by show R64 (many + 1); exact ⟨by omega, by omega⟩)) ?_
    exact hagain (m, a', σ, (tIs p w' a).2, n') _ _ _ _ ⟨rfl, ⟨many + 1, rfl, by omega, by dsimp only; omega⟩, rfl, ha', hp, c⟩ (by dsimp only; omega)

/-! ### The walk -/
def EWl : Enc (Option Addr × SH × SH × Bool) := { n := 4, c := fun x => [.pointer x.1, shV x.2.1, shV x.2.2.1, .bool x.2.2.2], len := fun _ => rfl, one := fun a v h => by simp only [List.mem_cons, List.not_mem_nil, or_false] at h; rcases h with rfl | rfl | rfl | rfl <;> rfl }
structure CsW4 (S : Sys) (I : Ids) : Prop extends CsW3 S I where
  tbel : ∀ {a b h R}, F_tree_walker_below S I a b h R → S.C I.f_tree_walker_below [a, b] h R
/-- what a walk has at hand -/
abbrev BL (sp rw rx : Nat) (p : Pl) (root : Int) (σ : Spc) (x : Wlk) (uk uv : SH) (L : List Res) : List Res := WL sp rw p root σ x.w (rVar EWl rx (some ⟨rw, 0, none⟩, uk, uv, x.bad) :: rSl EI1 (shV uk) x.ks :: rSl EI1 (shV uv) x.vs :: L)
theorem fld0 {α : Type} {E : Enc α} {r i j : Nat} {x : α} {u : Value} (c : Cx F0 h0 h L) (hi : L[i]? = some (rVar E r x)) (hu : (E.c x)[j]? = some u) : ldc (.pointer (some ⟨r, 0 + j, none⟩)) h = some u := (c.va hi).row.ldc hu
set_option maxHeartbeats 2000000 in
theorem bel_ {rx : Nat} (cs : CsW4 S I) (hp0 : 0 ≤ p.nodes ∧ p.nodes ≤ 1000) : ∀ (f : Nat) {h : Hp} {σ : Spc} {x : Wlk} {uk uv : SH} {a : Int} {β : Type} {q : (Int × Int) × Wlk → Prog β} {Q : β → Spc → Prop} {R : Value → Hp → Prop}, x.w.fit f → 0 < f → x.ks.length ≤ 1001 → x.vs.length = x.ks.length → R64 a → Cx F0 h0 h (BL sp rw rx p root σ x uk uv L) → wp (tBel p f x a >>= q) σ Q →
    (∀ nv x' uk' uv' σ' h', (∀ f, x.w.fit f → x'.w.fit f) → x'.ks.length ≤ 1001 → x'.vs.length = x'.ks.length → Cx F0 h0 h' (BL sp rw rx p root σ' x' uk' uv' L) → wp (q (nv, x')) σ' Q → R (.tuple #[.int .i64 nv.1, .int .i64 nv.2]) h') → S.C I.f_tree_walker_below [at0 rx, .int .i64 a] h R
  | 0, h, σ, x, uk, uv, a, β, q, Q, R, hw, hf, hkl, hvl, ha, c, hp, hk => absurd hf (Nat.lt_irrefl 0)
  | f + 1, h, σ, x, uk, uv, a, β, q, Q, R, hw, hf, hkl, hvl, ha, c, hp, hk => by
    refine cs.tbel ?_
    unfold F_tree_walker_below
    unfold tBel at hp
    refine Jn1.at (fun u h' => u = .bool (decide (a = 0 ∨ x.bad = true)) ∧ h' = h) ?_ ?_
    · rw [bin_eql, vb_some]
      refine brd (fun e => ⟨by rw [decide_eq_true (show a = 0 ∨ x.bad = true from .inl e)], rfl⟩) fun e => ?_
      refine nckb ?_
      refine (c.va (i := 2) rfl).fld (j := 3) rfl ?_
      refine ⟨?_, rfl⟩
      congr 1
      cases x.bad with
      | true => rw [decide_eq_true (.inr rfl)]
      | false => rw [decide_eq_false (by rintro (h | h); exact e h; cases h)]
    rintro u h1 ⟨rfl, rfl⟩
    refine brd (fun e => ?_) fun e => ?_
    · rw [if_pos e] at hp
      exact hk (0, 0) x uk uv σ _ (fun f h => h) hkl hvl c hp
    rw [if_neg e] at hp
    have hxb : x.bad = false := by
      cases hb : x.bad with
      | true => exact absurd (.inr hb) e
      | false => rfl
    refine nckb ?_
    refine (c.va (i := 2) rfl).fld (j := 0) rfl ?_
    refine is_ cs.toCsW0 c ha fun h2 c => ?_
    rw [uno_nb, vb_some]
    have hw1 : ∀ f, x.w.fit f → (tIs p x.w a).2.fit f := fun f h => fit_is h
    cases hi : (tIs p x.w a).1 with
    | false =>
      rw [hi, if_neg (by simp)] at hp
      rw [Bool.not_false, br_true]
      refine nckb ?_
      refine c.stof 2 rfl (j := 3) (some ⟨rw, 0, none⟩, uk, uv, true) rfl (by decide) rfl fun h3 c => ?_
      exact hk (0, 0) { x with w := (tIs p x.w a).2, bad := true } uk uv σ _ hw1 hkl hvl c hp
    | true =>
    rw [hi, if_pos rfl] at hp
    have hN := node_l (tIs_n hi)
    have hw' := fit_dn hw hi
    have hf' : 0 < f := by
      cases hw2 : (tIs p x.w a).2 with
      | ok n => have := hw' n hw2; omega
      | no l =>
        exfalso
        cases hxw : x.w with
        | no l => rw [hxw] at hi; cases hi
        | ok n =>
          rw [hxw] at hi hw2
          unfold tIs at hi hw2
          dsimp only at hi hw2
          split at hi
          · cases hi
          · rename_i h0
            split at hi
            · rename_i h1
              rw [if_neg h0, if_pos h1] at hw2
              cases hw2
            · cases hi
    rw [Bool.not_true, br_false]
    refine nckb ?_
    refine (c.va (i := 2) rfl).fld (j := 0) rfl ?_
    rw [Prog.wp_bind] at hp
    refine get_ cs.toCsW0 c ⟨by omega, by omega⟩ hp fun l σ h3 hl c hp => ?_
    have c : Cx F0 h0 h3 (BL sp rw rx p root σ { x with w := (tIs p x.w a).2 } uk uv L) := c
    refine bel_ (x := { x with w := (tIs p x.w a).2 }) cs hp0 f hw' hf' hkl hvl hl c hp fun nv x1 uk uv σ h4 hfit hkl hvl c hp => ?_
    have hfit1 : ∀ f, x.w.fit f → x1.w.fit f := fun f h => hfit f (hw1 f h)
    have hw1f := hfit f hw'
    refine ext0t (ext1t ?_)
    refine nckb ?_
    refine (c.va (i := 2) rfl).fld (j := 0) rfl ?_
    refine get0_ cs.toCsW0 c ha hp fun key σ h5 hkey c hp => ?_
    refine nckb ?_
    refine (c.va (i := 2) rfl).fld (j := 1) rfl ?_
    rw [(c.sl (i := 3) rfl).sl.ln, vb_some]
    dsimp only at hp
    refine Jn1.at (fun u h' => u = .bool (decide (x1.bad = true ∨ p.nodes ≤ x1.ks.length ∨ (0 < x1.ks.length ∧ key ≤ (x1.ks.getLast?).getD 0))) ∧ h' = h5) ?_ ?_
    · refine nckb ?_
      refine (c.va (i := 2) rfl).fld (j := 3) rfl ?_
      cases hb : x1.bad with
      | true =>
        rw [br_true, decide_eq_true (.inl rfl)]
        exact ⟨rfl, rfl⟩
      | false =>
        rw [br_false]
        refine nckb ?_
        refine (c.va (i := 2) rfl).fld (j := 0) rfl ?_
        refine nckb ?_
        refine En.vb (fa_add _ _ _) (En.vb (fa_add _ _ _) (En.vb (fa_add _ _ _) (En.vb ((c.va (i := 1) rfl).row.ldc (j := 2) rfl) ?_)))
        rw [bin_geq, vb_some]
        refine brd (fun e1 => ?_) fun e1 => ?_
        · rw [decide_eq_true (show (false = true ∨ p.nodes ≤ x1.ks.length ∨ (0 < x1.ks.length ∧ key ≤ (x1.ks.getLast?).getD 0)) from .inr (.inl e1))]
          exact ⟨rfl, rfl⟩
        · rw [bin_gtr, vb_some]
          refine brd (fun e2 => ?_) fun e2 => ?_
          · have hx : x1.ks[x1.ks.length - 1]? = some x1.ks[x1.ks.length - 1] := List.getElem?_eq_getElem (by omega)
            have hg : (x1.ks.getLast?).getD 0 = x1.ks[x1.ks.length - 1] := by rw [List.getLast?_eq_getElem?, hx]; rfl
            refine nckb ?_
            refine (c.va (i := 2) rfl).fld (j := 1) rfl ?_
            rw [bin_sub, vb_some, wr64 ⟨by omega, by omega⟩]
            refine (c.sl (i := 3) rfl).sl.one rfl hx (by omega) rfl ?_
            rw [bin_geq, vb_some]
            refine ⟨?_, rfl⟩
            congr 1
            rw [hg]
            exact decide_eq_decide.2 ⟨fun h => .inr (.inr ⟨by omega, h⟩), fun h => by
              rcases h with h | h | h
              · cases h
              · exact absurd h e1
              · exact h.2⟩
          · rw [decide_eq_false (by
              rintro (h | h | h)
              · cases h
              · exact e1 h
              · exact e2 (by have := h.1; omega))]
            exact ⟨rfl, rfl⟩
    rintro u h6 ⟨rfl, rfl⟩
    refine brd (fun e1 => ?_) fun e1 => ?_
    · rw [if_pos e1] at hp
      refine nckb ?_
      refine c.stof 2 rfl (j := 3) (some ⟨rw, 0, none⟩, uk, uv, true) rfl (by decide) rfl fun h7 c => ?_
      exact hk (0, 0) { x1 with bad := true } uk uv σ _ hfit1 hkl hvl c hp
    rw [if_neg e1] at hp
    have hb1 : x1.bad = false := by
      cases hb : x1.bad with
      | true => exact absurd (.inl hb) e1
      | false => rfl
    have hlt : (x1.ks.length : Int) < p.nodes := by
      have := fun h => e1 (.inr (.inl h))
      omega
    rw [show nck (at0 rx) = some (at0 rx) from rfl, vb_some, show fa 1 (at0 rx) = some (.pointer (some ⟨rx, 0 + 1, none⟩)) from fa_add _ _ _, vb_some, show ldc (.pointer (some ⟨rx, 0 + 1, none⟩)) h6 = some (shV uk) from fld0 c (i := 2) rfl rfl, vb_some]
    rw [vb_some, show fa 2 (at0 rx) = some (.pointer (some ⟨rx, 0 + 2, none⟩)) from fa_add _ _ _, vb_some, show ldc (.pointer (some ⟨rx, 0 + 2, none⟩)) h6 = some (shV uv) from fld0 c (i := 2) rfl rfl, vb_some]
    rw [vb_some, show fa 0 (at0 rx) = some (.pointer (some ⟨rx, 0 + 0, none⟩)) from fa_add _ _ _, vb_some, show ldc (.pointer (some ⟨rx, 0 + 0, none⟩)) h6 = some (at0 rw) from fld0 c (i := 2) rfl rfl, vb_some]
    have c := Cx.pack (L := [rSpace (at0 sp) σ, rW rw p root sp x1.w, rVar EWl rx (some ⟨rw, 0, none⟩, uk, uv, x1.bad), rSl EI1 (shV uk) x1.ks, rSl EI1 (shV uv) x1.vs]) (M := L) c
    refine c.bsl1 EI1 key rfl rfl fun z1 h7 c => ?_
    refine ⟨fld0 c (i := 2) rfl rfl, fld0 c (i := 2) rfl rfl, fld0 c (i := 2) rfl rfl, ?_⟩
    refine c.ap 3 rfl (c.sl (i := 6) rfl).sl rfl rfl (by simp only [List.length_singleton]; omega) (by simp only [List.length_singleton]; omega) fun k2 h8 c => ?_
    refine ⟨fld0 c (i := 2) rfl rfl, fld0 c (i := 2) rfl rfl, ?_⟩
    refine get_ cs.toCsW0 c ⟨by omega, by omega⟩ hp fun val σ h9 _ c hp => ?_
    refine ⟨fld0 c (i := 2) rfl rfl, ?_⟩
    refine c.bsl1 EI1 val rfl rfl fun z2 h10 c => ?_
    refine ⟨fld0 c (i := 2) rfl rfl, ?_⟩
    refine c.ap 4 rfl (c.sl (i := 7) rfl).sl rfl rfl (by simp only [List.length_singleton]; omega) (by simp only [List.length_singleton]; omega) fun v2 h11 c => ?_
    obtain ⟨uk2, rfl⟩ := (c.sl (i := 3) rfl).isH
    obtain ⟨uv2, rfl⟩ := (c.sl (i := 4) rfl).isH
    refine nckb ?_
    refine c.stof 2 rfl (j := 1) (some ⟨rw, 0, none⟩, uk2, uv, x1.bad) rfl (by decide) rfl fun h12 c => ?_
    refine nckb ?_
    refine c.stof 2 rfl (j := 2) (some ⟨rw, 0, none⟩, uk2, uv2, x1.bad) rfl (by decide) rfl fun h13 c => ?_
    have c : Cx F0 h0 h13 [rSpace (at0 sp) σ, rW rw p root sp x1.w, rVar EWl rx (some ⟨rw, 0, none⟩, uk2, uv2, x1.bad), rSl EI1 (shV uk2) (x1.ks ++ [key]), rSl EI1 (shV uv2) (x1.vs ++ [val]), rStar L] := c.pick [0, 1, 2, 3, 4, 5]
    have c := Cx.unpack (L := [rSpace (at0 sp) σ, rW rw p root sp x1.w, rVar EWl rx (some ⟨rw, 0, none⟩, uk2, uv2, x1.bad), rSl EI1 (shV uk2) (x1.ks ++ [key]), rSl EI1 (shV uv2) (x1.vs ++ [val])]) c
    have c : Cx F0 h0 h13 (BL sp rw rx p root σ { x1 with ks := x1.ks ++ [key], vs := x1.vs ++ [val] } uk2 uv2 L) := c
    refine nckb ?_
    refine (c.va (i := 2) rfl).fld (j := 0) rfl ?_
    refine get_ cs.toCsW0 c ⟨by omega, by omega⟩ hp fun r σ h14 hr c hp => ?_
    refine bel_ (x := { x1 with ks := x1.ks ++ [key], vs := x1.vs ++ [val] }) cs hp0 f hw1f hf' (by rw [List.length_append, List.length_singleton]; omega) (by rw [List.length_append, List.length_append, List.length_singleton, List.length_singleton]; omega) hr c hp fun mu x2 uk uv σ h15 hfit2 hkl hvl c hp => ?_
    have hfit3 : ∀ f, x.w.fit f → x2.w.fit f := fun f h => hfit2 f (hfit1 f h)
    refine ext0t (ext1t ?_)
    rw [bin_addw, vb_some, bin_addw, vb_some, bin_addw, vb_some]
    refine nckb ?_
    refine (c.va (i := 2) rfl).fld (j := 0) rfl ?_
    refine get_ cs.toCsW0 c ⟨by omega, by omega⟩ hp fun v2 σ h16 _ c hp => ?_
    rw [bin_addw, vb_some]
    dsimp only at hp
    unfold tBelE at hp
    refine .here ?_
    refine nckb ?_
    refine (c.va (i := 2) rfl).fld (j := 3) rfl ?_
    cases hb : x2.bad with
    | true =>
      rw [hb, if_pos rfl] at hp
      rw [br_true]
      refine nckb ?_
      refine c.stof 2 rfl (j := 3) (some ⟨rw, 0, none⟩, uk, uv, true) rfl (by decide) rfl fun h17 c => ?_
      exact hk _ { x2 with bad := true } uk uv σ _ hfit3 hkl hvl c hp
    | false =>
      rw [hb, if_neg (by simp)] at hp
      rw [br_false]
      refine nckb ?_
      refine (c.va (i := 2) rfl).fld (j := 0) rfl ?_
      refine get_ cs.toCsW0 c ⟨by omega, by omega⟩ hp fun cc σ h17 _ c hp => ?_
      rw [bin_neq, vb_some]
      refine brd (fun e2 => ?_) fun e2 => ?_
      · rw [if_pos e2] at hp
        refine nckb ?_
        refine c.stof 2 rfl (j := 3) (some ⟨rw, 0, none⟩, uk, uv, true) rfl (by decide) rfl fun h18 c => ?_
        exact hk _ { x2 with bad := true } uk uv σ _ hfit3 hkl hvl c hp
      · rw [if_neg e2] at hp
        refine nckb ?_
        refine (c.va (i := 2) rfl).fld (j := 0) rfl ?_
        refine get_ cs.toCsW0 c ⟨by omega, by omega⟩ hp fun ss σ h18 _ c hp => ?_
        rw [bin_neq, vb_some]
        refine nckb ?_
        refine c.stof 2 rfl (j := 3) (some ⟨rw, 0, none⟩, uk, uv, decide (ss ≠ w64 (w64 (nv.2 + mu.2) + v2))) rfl (by decide) rfl fun h19 c => ?_
        exact hk _ { x2 with bad := decide (ss ≠ w64 (w64 (nv.2 + mu.2) + v2)) } uk uv σ _ hfit3 hkl hvl c hp
theorem bldW4 (rw : Nat) : bldS [(0, 1), (1, 1), (2, 1), (3, 1)] #[Value.pointer none, Value.slice none 0 0, Value.slice none 0 0, Value.bool false] [(0, at0 rw)] = some (.agg ⟨EWl.c (some ⟨rw, 0, none⟩, (none, 0, 0), (none, 0, 0), false)⟩) := by kernel_rfl
abbrev WQ : Type := Option (List Int × List Int)
def wq1 (r : WQ) : List Int := (r.map (·.1)).getD []
def wq2 (r : WQ) : List Int := (r.map (·.2)).getD []
theorem K_tWlk (cs : CsW4 S I) (hp0 : 0 ≤ p.nodes ∧ p.nodes ≤ 1000) (hr : 0 ≤ root ∧ root ≤ 4000) : ∀ h0 F σ (R : Value → Hp → Prop) (Q : WQ → Spc → Prop), Cx F h0 h0 [rSpace s σ] → wp (tWlk p root) σ Q →
    (∀ r σ' v1 v2 h' M, Cx F h0 h' (rSpace s σ' :: rSl EI1 v1 (wq1 r) :: rSl EI1 v2 (wq2 r) :: M) → Q r σ' → R (.tuple #[v1, v2, .int .i64 (if r.isSome then 0 else 24)]) h') → F_tree_Tree_Walk S I (vT p root) s h0 R := by
  intro h0 F σ R Q c hp hR
  obtain ⟨sp, rfl⟩ := c.ptr (i := 0) rfl
  unfold F_tree_Tree_Walk
  unfold tWlk at hp
  refine c.nw ET (p, root) rfl fun rt h1 c => ?_
  rw [tW (i := 1) c rfl, vb_some]
  refine work_ cs.toCsW0 hp0 c fun rw_ h2 c => ?_
  rw [bldW4, vb_some]
  refine c.nw EWl (none, (none, 0, 0), (none, 0, 0), false) rfl fun rx h3 c => ?_
  refine c.sto 3 rfl (some ⟨rw_, 0, none⟩, (none, 0, 0), (none, 0, 0), false) rfl rfl fun h4 c => ?_
  have c := (c.nil EI1).nil EI1
  have c : Cx F h0 h4 (BL sp rw_ rx p root σ ⟨wk0 p, [], [], false⟩ (none, 0, 0) (none, 0, 0) [rVar ET rt (p, root)]) := c.pick [0, 2, 3, 4, 5, 1]
  refine (c.va (i := 5) rfl).fld (j := 3) rfl ?_
  refine c.doesE cs.get (Ens.gt _) 0 rfl hp fun a σ h5 ha c hp => ?_
  refine bel_ (x := ⟨wk0 p, [], [], false⟩) cs hp0 (fu p) (wk0_fit hp0) fu_pos (by simp) rfl ha c hp fun nv x uk uv σ h6 _ _ _ c hp => ?_
  refine ext0t (ext1t ?_)
  dsimp only at hp
  refine Jn1.at (fun u h' => ∃ (bb : Bool) (σ : Spc), u = .bool bb ∧ (bb = true → Q none σ) ∧ (bb = false → Q (some (x.ks, x.vs)) σ) ∧ Cx F h0 h' (BL sp rw_ rx p root σ x uk uv [rVar ET rt (p, root)])) ?_ ?_
  · refine (c.va (i := 2) rfl).fld (j := 3) rfl ?_
    cases hb : x.bad with
    | true =>
      rw [hb, if_pos rfl] at hp
      rw [br_true]
      exact ⟨true, σ, rfl, fun _ => hp, (fun e => by cases e), by rw [← hb] at *; exact c⟩
    | false =>
      rw [hb, if_neg (by simp)] at hp
      rw [br_false, tW (i := 5) c rfl, vb_some]
      refine c.does (cs.tlen hr) 0 rfl hp fun cc σ h7 c hp => ?_
      unfold uI
      rw [bin_neq, vb_some]
      by_cases e : nv.1 ≠ cc
      · rw [if_pos e] at hp
        refine ⟨_, σ, rfl, fun _ => hp, fun e2 => ?_, c⟩
        exact absurd e (of_decide_eq_false e2)
      · rw [if_neg e] at hp
        refine ⟨_, σ, rfl, fun e2 => ?_, fun _ => hp, c⟩
        exact absurd (of_decide_eq_true e2) e
  clear c hp
  rintro u h7 ⟨bb, σ, rfl, hb1, hb2, c⟩
  cases bb with
  | true =>
    rw [br_true]
    have c := (c.nil EI1).nil EI1
    exact hR none σ _ _ _ [] (c.pick [0, 6, 7]) (hb1 rfl)
  | false =>
    rw [br_false]
    refine (c.va (i := 2) rfl).fld (j := 1) rfl ?_
    refine (c.va (i := 2) rfl).fld (j := 2) rfl ?_
    exact hR (some (x.ks, x.vs)) σ _ _ _ [] (c.pick [0, 3, 4]) (hb2 rfl)
end
end Go.En
