/-
  Layer 38: the laws Few and Handles.
-/
import Derived.Test.YtjnpmadojjfkpaaGreatZE
namespace Go.En
open Prog Spc Go.Sort

variable {S : Sys} {I : Ids} {h h0 h' : Hp} {F F0 : Fp} {R : Value → Hp → Prop} {L : List Res} {s : Value} {σ τ : Spc}
structure CsV9 (S : Sys) (I : Ids) : Prop extends CsV8 S I where
  urow : ∀ {a b : Value} {h K}, F_simulcastlaw38_state_row S I a b h K → S.C I.f_simulcastlaw38_state_row [a, b] h K
  uhan1 : ∀ {s a b c : Value} {h K}, F_simulcastlaw38_HeapHandles_1 S I s a b c h K → S.C I.f_simulcastlaw38_HeapHandles_1 [s, a, b, c] h K
  uhan2 : ∀ {s a b c : Value} {h K}, F_simulcastlaw38_HeapHandles_2 S I s a b c h K → S.C I.f_simulcastlaw38_HeapHandles_2 [s, a, b, c] h K
section
variable {x : X38} {n : Int} {ps : List (Int × W3)} {m : Int → Int} {V : Int} {l : List Im} {hs : List Int} {g : G38} {wv : Value} {K : Value → Hp → Prop}
theorem S38.dn (H : S38 n x ps m V l hs g) {y o : Int} (hy : isN (p38 n) y) (o0 : 0 ≤ o) (o7 : o ≤ 7) : D38 (y + o) := (p38_D H.nn).n y hy o o0 o7
/-- where the index cell of a place lies -/
def rowA (g : G38) (j : Int) : Int := g.rw ((j - 1) / 8) + (j - 1) % 8
theorem S38.rowD (H : S38 n x ps m V l hs g) {j : Int} (j1 : 1 ≤ j) (jl : j ≤ l.length) : D38 (rowA g j) ∧ m (rowA g j) = g.A j :=
  ⟨H.dn (H.T.H.P.N.rni ⟨j1, jl⟩) (by omega) (by omega), H.T.H.P.H.cel j j1 jl (by omega)⟩
theorem S38.itD (H : S38 n x ps m V l hs g) {j o : Int} (j1 : 1 ≤ j) (jl : j ≤ l.length) (o0 : 0 ≤ o) (o7 : o ≤ 7) : D38 (g.A j + o) := H.dn (H.T.H.P.N.an j j1 jl) o0 o7
theorem row_38 (cs : CsV9 S I) (H : S38 n x ps m V l hs g) {i : Nat} (c : Cx F0 h0 h L) (hi : L[i]? = some (rMp .i64 mW (.map x.k) ps)) {j : Int} (j1 : 1 ≤ j) (jl : j ≤ l.length) (hk : ∀ h', Cx F0 h0 h' L → R (.int .i64 (rowA g j)) h') : S.C I.f_simulcastlaw38_state_row [vSt x, .int .i64 j] h R := by
  have k32 := H.T.H.P.k32
  have hlt := (List.getElem?_eq_some_iff.1 hi).1
  refine cs.urow ?_
  unfold F_simulcastlaw38_state_row
  refine c.nw ESt x rfl fun r2 h1 c => ?_
  have hi' : (L ++ [rVar ESt r2 x])[i]? = some (rMp .i64 mW (.map x.k) ps) := by rw [List.getElem?_append_left hlt]; exact hi
  refine (c.va (i := L.length) (E := ESt) (r := r2) (x := x) (by simp)).fld (j := 0) rfl ?_
  rw [subI ⟨by omega, by omega⟩, vb_some, quoI ⟨by omega, by omega⟩ (by decide), vb_some, addI ⟨by omega, by omega⟩, vb_some]
  refine c.wrd hi' H.W (a := 19 + (j - 1) / 8) ⟨by omega, by omega⟩ ?_
  have e1 : m (19 + (j - 1) / 8) = g.rw ((j - 1) / 8) := by
    have := H.T.H.P.H.row ((j - 1) / 8) (by omega) (by omega)
    rw [show (16 : Int) + (3 + (j - 1) / 8) = 19 + (j - 1) / 8 by omega] at this
    exact this
  have hp := isN_pos H.T.H.P.P.good (H.T.H.P.N.rni (i := j) ⟨j1, jl⟩)
  rw [e1, vb_some, remI (by omega) (by decide), vb_some, addI ⟨by omega, by omega⟩, vb_some]
  exact hk h1 c.drop
set_option maxHeartbeats 1600000 in
theorem L_HeapFew {b1 : Value} {cl : List C38} {cc : C38} (cs : CsV9 S I) (hn : 0 ≤ n ∧ n ≤ 255) (s1 : Sl EC8 h b1 cl) (w1 : ∀ y ∈ cl, y.ok) (hc : cc.ok) (hR : ∀ h', Gr h h' → R (.bool true) h') : F_simulcastlaw38_HeapFew S I (.int .u8 n) b1 (vC8 cc) h R := by
  have hd := hc.d
  unfold F_simulcastlaw38_HeapFew
  refine (Cx.start0 h).nw EC8 cc rfl fun rc h1 c => ?_
  refine cs.great (s1.gr c.gr) ?_
  refine brd (fun _ => cs.awake fun h4 g => hR h4 (c.more g).gr) fun hlen => ?_
  refine (c.va (i := 0) rfl).fld (j := 0) rfl ?_
  rw [remI hd.1 (by decide), vb_some]
  obtain ⟨c4, hc4⟩ : ∃ c4 : C38, c4 = { cc with d := cc.d % 4 } := ⟨_, rfl⟩
  have hc4o : c4.ok := by subst hc4; exact ⟨by show 0 ≤ cc.d % 4 ∧ cc.d % 4 ≤ 255; omega, hc.b, hc.P, hc.V⟩
  have hc4d : 0 ≤ c4.d ∧ c4.d ≤ 3 := by subst hc4; show 0 ≤ cc.d % 4 ∧ cc.d % 4 ≤ 3; omega
  refine c.stof 0 rfl (j := 0) c4 rfl (by decide) (by subst hc4; rfl) fun h2 c => ?_
  refine cs.played hn (s1.gr c.gr) w1 (by omega) fun x ps m l hs g h3 H hhs _ c2 => ?_
  have c := c.frame0 c2
  clear c2
  refine ext0t (ext1t ?_)
  refine c.nw ESt X0 rfl fun r7 h4 c => ?_
  refine c.sto 4 rfl x rfl rfl fun h5 c => ?_
  rw [show lda 7 (at0 r7) h5 = some (vSt x) from (c.va (i := 4) rfl).whole rfl, vb_some, show lda 4 (at0 rc) h5 = some (vC8 c4) from (c.va (i := 0) rfl).whole rfl, vb_some]
  have hln : lnS (shV x.l) = some (.int .i64 (l.length : Int)) := (c.sl (i := 2) rfl).sl.ln
  have k32 := H.T.H.P.k32
  have c : Cx (fun _ => False) h h5 ([rVar EC8 rc c4, rVar ESt r7 x] ++ L38 x ps l hs) := c.pick [0, 4, 1, 2, 3]
  refine c.cStep cs.toCsV6 H (by omega) hc4o (by omega) fun y ps' m' l' hs' g' h6 H' St' Fe' c => ?_
  obtain ⟨P, hP, hmv⟩ := Fe' (by omega)
  have htop : (c4.d % 6 == 3) = true ↔ c4.d = 3 := by rw [beq_iff_eq]; omega
  refine ext0t (ext1t ?_)
  refine c.nw ESt X0 rfl fun r9 h7 c => ?_
  refine c.sto 6 rfl y rfl rfl fun h8 c => ?_
  have c : Cx (fun _ => False) h h8 [rVar EC8 rc c4, rVar ESt r7 x, rMp .i64 mW (.map x.k) ps, rVar ESt r9 y, rMp .i64 mW (.map y.k) ps'] := c.pick [0, 1, 2, 6, 3]
  refine .here ?_
  rw [uno_nb, vb_some, Bool.not_true, br_false, vb_some]
  show Br _ _ _
  rw [br_false]
  refine Lp2.by (fun (z : List Int × Nat) u w h' => u = .int .i64 (z.1.length : Int) ∧ w = .int .i64 ((z.2 : Int) + 1) ∧ z.2 ≤ l.length ∧ z.1.Nodup ∧ (∀ j ∈ z.1, j ≤ z.2 ∧ j ∈ P) ∧ Cx (fun _ => False) h h' [rVar EC8 rc c4, rVar ESt r7 x, rMp .i64 mW (.map x.k) ps, rVar ESt r9 y, rMp .i64 mW (.map y.k) ps']) (fun z => l.length - z.2) ([], 0) ⟨rfl, rfl, Nat.zero_le _, List.nodup_nil, (fun j hj => by cases hj), c⟩ ?_
  clear c
  rintro ⟨Q, i⟩ u w h9 ⟨rfl, rfl, hi, hQn, hQ, c⟩ again hagain
  dsimp only at *
  have hQl : Q.length ≤ 6 := Nat.le_trans (nodup_sub hQn fun j hj => (hQ j hj).2) hP
  refine (c.va (i := 1) rfl).fld (j := 5) rfl ?_
  rw [hln, vb_some, bin_leq, vb_some]
  refine brd (fun e => ?_) fun e => ?_
  · have j1 : 1 ≤ (i : Int) + 1 := by omega
    obtain ⟨hrD, hrm⟩ := H.rowD j1 e
    have hAp := isN_pos H.T.H.P.P.good (H.T.H.P.N.an _ j1 e)
    refine .here ?_
    refine En.vb (fa_add _ _ _) (En.vb ((c.va (i := 1) rfl).row.ldc (j := 0) rfl) ?_)
    rw [show lda 7 (at0 r7) h9 = some (vSt x) from (c.va (i := 1) rfl).whole rfl, vb_some]
    refine row_38 cs H (i := 2) c rfl j1 e fun h10 c => ?_
    refine ⟨(c.va (i := 1) rfl).row.ldc (j := 0) rfl, ?_⟩
    refine c.wrd (i := 2) rfl H.W hrD ?_
    rw [hrm]
    refine Jn1.at (fun v h' => v = .bool (decide (m' (g.A ((i : Int) + 1) + 3) ≠ (i : Int) + 1 ∧ ¬ (c4.d = 3 ∧ i = 0))) ∧ h' = h10) ?_ ?_
    · refine (c.va (i := 3) rfl).fld (j := 0) rfl ?_
      rw [addI ⟨by omega, by omega⟩, vb_some]
      refine c.wrd (i := 4) rfl H'.W (H.itD j1 e (by omega) (by omega)) ?_
      rw [bin_neq, vb_some]
      refine brd (fun e1 => ?_) fun e1 => ?_
      · refine (c.va (i := 0) rfl).fld (j := 0) rfl ?_
        rw [bin_eql, vb_some]
        refine brd (fun e2 => ?_) fun e2 => ?_
        · rw [bin_eql, vb_some, uno_nb, vb_some]
          refine ⟨?_, rfl⟩
          congr 1
          rw [← decide_not]
          exact decide_eq_decide.2 ⟨fun h => ⟨e1, fun h2 => h (by have := h2.2; omega)⟩, fun h h2 => h.2 ⟨e2, by omega⟩⟩
        · rw [uno_nb, vb_some]
          exact ⟨by rw [decide_eq_true ⟨e1, fun h => e2 h.1⟩]; rfl, rfl⟩
      · exact ⟨by rw [decide_eq_false fun h => e1 h.1], rfl⟩
    rintro v h11 ⟨rfl, rfl⟩
    refine brd (fun e1 => ?_) fun e1 => ?_
    · have hin : (i : Int) + 1 ∈ P := Classical.byContradiction fun hnot => e1.1 (hmv _ j1 e hnot fun ht h2 => e1.2 ⟨htop.1 ht, by omega⟩)
      rw [bin_add, vb_some, wrS (by omega)]
      show Vb (bin .add (.int .i64 ((i : Int) + 1)) (.int .i64 1)) _
      rw [addI ⟨by omega, by omega⟩, vb_some]
      refine hagain (Q ++ [(i : Int) + 1], i + 1) _ _ _ ⟨by dsimp only; rw [List.length_append]; rfl, by dsimp only; congr 1, by dsimp only; omega, ?_, fun j hj => ?_, c⟩ (by dsimp only; omega)
      · rw [List.nodup_append]
        refine ⟨hQn, by simp, fun a ha b hb2 e5 => ?_⟩
        rw [List.mem_singleton] at hb2
        have := (hQ a ha).1
        omega
      · rcases List.mem_append.1 hj with h | h
        · have := hQ j h; exact ⟨by dsimp only; omega, this.2⟩
        · rw [List.mem_singleton] at h; subst h; exact ⟨by dsimp only; omega, hin⟩
    · show Vb (bin .add (.int .i64 ((i : Int) + 1)) (.int .i64 1)) _
      rw [addI ⟨by omega, by omega⟩, vb_some]
      refine hagain (Q, i + 1) _ _ _ ⟨rfl, by dsimp only; congr 1, by dsimp only; omega, hQn, fun j hj => ⟨by have := (hQ j hj).1; dsimp only; omega, (hQ j hj).2⟩, c⟩ (by dsimp only; omega)
  · refine .here ?_
    rw [bin_leq, vb_some]
    refine brd (fun _ => ?_) fun e1 => by omega
    exact cs.awake fun h4 g => hR h4 (c.more g).gr
/-- what Lower with the least priority comes to -/
theorem K_hand1 {rx rh re : Nat} {hh b : Int} {X : Res} (cs : CsV9 S I) (H : S38 n x ps m V l hs g) (hhR : R64 hh)
    (c : Cx F h0 h [rMp .i64 mW wv ps, rSpace s (newS ps), rVar ESt rx x, rVar EI1 rh hh, rVar EI1 re b, X])
    (hk : ∀ σ' e h2, Good 384 ps σ' → ((e = 0 ∧ Mem l.length g.A hh) ∨ (e = 10 ∧ ¬ Mem l.length g.A hh ∧ σ'.vw = m)) → Cx F h0 h2 [rMp .i64 mW wv ps, rSpace s σ', rVar ESt rx x, rVar EI1 rh hh, rVar EI1 re e, X] → K (.tuple #[]) h2) :
    F_simulcastlaw38_HeapHandles_1 S I s (at0 rx) (at0 rh) (at0 re) h K := by
  have hr : R38 (16 : Int) := .inl rfl
  unfold F_simulcastlaw38_HeapHandles_1
  refine c.getH (i := 2) rfl ?_
  rw [H.p, H.r, (c.va (i := 3) rfl).one rfl, vb_some]
  refine c.last (cs.hlow hr.l hhR) 1 rfl (low_38 H.W.rd38 H.W H.nn hr H.T.H (pr := -9223372036854775808) ⟨by decide, by decide⟩) fun e σ' h1 c ⟨hg, hq⟩ => ?_
  unfold uI
  refine c.sto1 4 rfl e rfl rfl fun h2 c => ?_
  refine hk σ' e h2 hg ?_ c
  rcases hq with ⟨rfl, hm, _⟩ | ⟨rfl, hm, hlt, _⟩ | ⟨rfl, hm, hvw⟩
  · exact .inl ⟨rfl, hm⟩
  · have := H.W.rg (hh + 0); omega
  · exact .inr ⟨rfl, hm, hvw⟩
theorem K_hand2 {rx rh re : Nat} {hh b : Int} {X : Res} (cs : CsV9 S I) (H : S38 n x ps m V l hs g) (hhR : R64 hh)
    (c : Cx F h0 h [rMp .i64 mW wv ps, rSpace s (newS ps), rVar ESt rx x, rVar EI1 rh hh, rVar EI1 re b, X])
    (hk : ∀ σ' e h2, Good 384 ps σ' → ((e = 0 ∧ Mem l.length g.A hh) ∨ (e = 10 ∧ ¬ Mem l.length g.A hh ∧ σ'.vw = m)) → Cx F h0 h2 [rMp .i64 mW wv ps, rSpace s σ', rVar ESt rx x, rVar EI1 rh hh, rVar EI1 re e, X] → K (.tuple #[]) h2) :
    F_simulcastlaw38_HeapHandles_2 S I s (at0 rx) (at0 rh) (at0 re) h K := by
  have hr : R38 (16 : Int) := .inl rfl
  unfold F_simulcastlaw38_HeapHandles_2
  refine c.getH (i := 2) rfl ?_
  rw [H.p, H.r, (c.va (i := 3) rfl).one rfl, vb_some]
  refine c.last (cs.hdrop hr.l hhR) 1 rfl (drop_38 (x := hh) H.W.rd38 H.W H.nn hr H.T.H) fun e σ' h1 c ⟨hg, hq⟩ => ?_
  unfold uE
  refine ext0t (ext1t ?_)
  refine c.sto1 4 rfl e.2 rfl rfl fun h2 c => ?_
  refine hk σ' e.2 h2 hg ?_ c
  rcases hq with ⟨rfl, hm, _⟩ | ⟨rfl, hm, hvw⟩
  · exact .inl ⟨rfl, hm⟩
  · exact .inr ⟨rfl, hm, hvw⟩
theorem eqB_ (a b : Bool) : neg? (eqB (.bool a) (.bool b)) = some (.bool (decide (a ≠ b))) := by cases a <;> cases b <;> rfl
set_option maxHeartbeats 1600000 in
theorem L_HeapHandles {b1 : Value} {cl : List C38} {hh : Int} (cs : CsV9 S I) (hn : 0 ≤ n ∧ n ≤ 255) (s1 : Sl EC8 h b1 cl) (w1 : ∀ y ∈ cl, y.ok) (hhR : R64 hh) (hR : ∀ h', Gr h h' → R (.bool true) h') : F_simulcastlaw38_HeapHandles S I (.int .u8 n) b1 (.int .i64 hh) h R := by
  unfold F_simulcastlaw38_HeapHandles
  refine (Cx.start0 h).nw EI1 hh rfl fun rh h1 c => ?_
  refine cs.great (s1.gr c.gr) ?_
  refine brd (fun _ => cs.awake fun h4 g => hR h4 (c.more g).gr) fun hlen => ?_
  refine cs.played hn (s1.gr c.gr) w1 (by omega) fun x ps m l hs g h3 H hhs _ c2 => ?_
  have c := c.frame0 c2
  clear c2
  refine ext0t (ext1t ?_)
  refine c.nw ESt X0 rfl fun r7 h4 c => ?_
  refine c.sto 4 rfl x rfl rfl fun h5 c => ?_
  rw [uno_nb, vb_some, Bool.not_true, br_false]
  have k32 := H.T.H.P.k32
  have hln : lnS (shV x.l) = some (.int .i64 (l.length : Int)) := (c.sl (i := 2) rfl).sl.ln
  have c : Cx (fun _ => False) h h5 [rMp .i64 mW (.map x.k) ps, rVar ESt r7 x, rVar EI1 rh hh] := c.pick [1, 4, 0]
  refine Lp2.by (fun (z : Bool × Nat) u w h' => u = .bool z.1 ∧ w = .int .i64 ((z.2 : Int) + 1) ∧ z.2 ≤ l.length ∧ (z.1 = true ↔ ∃ j : Int, 1 ≤ j ∧ j ≤ z.2 ∧ g.A j = hh) ∧ Cx (fun _ => False) h h' [rMp .i64 mW (.map x.k) ps, rVar ESt r7 x, rVar EI1 rh hh]) (fun z => l.length - z.2) (false, 0) ⟨rfl, rfl, Nat.zero_le _, ⟨(fun h => by cases h), fun ⟨j, j1, j2, _⟩ => by dsimp only at j2; omega⟩, c⟩ ?_
  clear c
  rintro ⟨rt, i⟩ u w h6 ⟨rfl, rfl, hi, hrt, c⟩ again hagain
  dsimp only at *
  refine (c.va (i := 1) rfl).fld (j := 5) rfl ?_
  rw [hln, vb_some, bin_leq, vb_some]
  refine brd (fun e => ?_) fun e => ?_
  · have j1 : 1 ≤ (i : Int) + 1 := by omega
    obtain ⟨hrD, hrm⟩ := H.rowD j1 e
    refine .here ?_
    cases rt with
    | true =>
      rw [br_true]
      show Vb (bin .add (.int .i64 ((i : Int) + 1)) (.int .i64 1)) _
      rw [addI ⟨by omega, by omega⟩, vb_some]
      obtain ⟨j, j1', j2, ej⟩ := hrt.1 rfl
      exact hagain (true, i + 1) _ _ _ ⟨rfl, by dsimp only; congr 1, by dsimp only; omega, ⟨fun _ => ⟨j, j1', by dsimp only; omega, ej⟩, fun _ => rfl⟩, c⟩ (by dsimp only; omega)
    | false =>
      rw [br_false]
      refine En.vb (fa_add _ _ _) (En.vb ((c.va (i := 1) rfl).row.ldc (j := 0) rfl) ?_)
      rw [show lda 7 (at0 r7) h6 = some (vSt x) from (c.va (i := 1) rfl).whole rfl, vb_some, (c.va (i := 2) rfl).one rfl, vb_some]
      refine row_38 cs H (i := 0) c rfl j1 e fun h10 c => ?_
      refine ⟨(c.va (i := 2) rfl).one rfl, (c.va (i := 1) rfl).row.ldc (j := 0) rfl, ?_⟩
      refine c.wrd (i := 0) rfl H.W hrD ?_
      rw [hrm, bin_eql, vb_some]
      show Vb (bin .add (.int .i64 ((i : Int) + 1)) (.int .i64 1)) _
      rw [addI ⟨by omega, by omega⟩, vb_some]
      refine hagain (decide (g.A ((i : Int) + 1) = hh), i + 1) _ _ _ ⟨rfl, by dsimp only; congr 1, by dsimp only; omega, ?_, c⟩ (by dsimp only; omega)
      dsimp only
      rw [decide_eq_true_eq]
      constructor
      · intro h; exact ⟨_, j1, by omega, h⟩
      · rintro ⟨j, j1', j2, ej⟩
        by_cases e2 : j ≤ i
        · have := hrt.2 ⟨j, j1', e2, ej⟩; cases this
        · rw [show (i : Int) + 1 = j by omega]; exact ej
  · have ei : (i : Int) = l.length := by omega
    have hmem : rt = true ↔ Mem l.length g.A hh := by rw [hrt, ei]; rfl
    clear hrt hagain again
    refine c.nw EI1 0 rfl fun re h7 c => ?_
    refine c.nw EI1 0 rfl fun rf h8 c => ?_
    refine (c.va (i := 1) rfl).fld (j := 0) rfl ?_
    rw [vb_some]
    have c : Cx (fun _ => False) h h8 [rMp .i64 mW (.map x.k) ps, rVar ESt r7 x, rVar EI1 rh hh, rVar EI1 re 0, rVar EI1 rf 0] := c
    refine cs.done (G := fun L' σ' => ∃ e, Good 384 ps σ' ∧ ((e = 0 ∧ Mem l.length g.A hh) ∨ (e = 10 ∧ ¬ Mem l.length g.A hh ∧ σ'.vw = m)) ∧ L' = [rVar ESt r7 x, rVar EI1 rh hh, rVar EI1 re e, rVar EI1 rf 0]) (by decide) H.W (by omega) (fun L' σ' ⟨_, hg, _⟩ => hg) c (fun s h1 K c k => ?_) fun L' σ1 ps1 nv1 ev1 h9 ⟨e1, hg1, he1, eL⟩ W1 c => ?_
    · exact .inl ⟨_, _, _, rfl, cs.uhan1 (K_hand1 cs H hhR c fun σ' e h2 hg he c => k _ _ h2 ⟨e, hg, he, rfl⟩ c)⟩
    subst eL
    refine ext3 ?_
    refine (c.va (i := 3) rfl).fld (j := 0) rfl ?_
    rw [vb_some]
    have c : Cx (fun _ => False) h h9 [rMp .i64 mW (.map x.k) ps, rVar ESt r7 x, rVar EI1 rh hh, rVar EI1 rf 0, rStar [rMp .i64 mW nv1 ps1, rVar EI1 re e1]] := Cx.pack (L := [rMp .i64 mW (.map x.k) ps, rVar ESt r7 x, rVar EI1 rh hh, rVar EI1 rf 0]) (M := [rMp .i64 mW nv1 ps1, rVar EI1 re e1]) (c.pick [0, 3, 4, 6, 1, 5])
    refine cs.done (G := fun L' σ' => ∃ e, Good 384 ps σ' ∧ ((e = 0 ∧ Mem l.length g.A hh) ∨ (e = 10 ∧ ¬ Mem l.length g.A hh ∧ σ'.vw = m)) ∧ L' = [rVar ESt r7 x, rVar EI1 rh hh, rVar EI1 rf e, rStar [rMp .i64 mW nv1 ps1, rVar EI1 re e1]]) (by decide) H.W (by omega) (fun L' σ' ⟨_, hg, _⟩ => hg) c (fun s h1 K c k => ?_) fun L' σ2 ps2 nv2 ev2 h10 ⟨e2, hg2, he2, eL⟩ W2 c => ?_
    · exact .inl ⟨_, _, _, rfl, cs.uhan2 (K_hand2 cs H hhR c fun σ' e h2 hg he c => k _ _ h2 ⟨e, hg, he, rfl⟩ c)⟩
    subst eL
    have c : Cx (fun _ => False) h h10 [rMp .i64 mW nv2 ps2, rMp .i64 mW (.map x.k) ps, rVar ESt r7 x, rVar EI1 rf e2, rMp .i64 mW nv1 ps1, rVar EI1 re e1] :=
      Cx.unpack (L := [rMp .i64 mW nv2 ps2, rMp .i64 mW (.map x.k) ps, rVar ESt r7 x, rVar EI1 rf e2]) (M := [rMp .i64 mW nv1 ps1, rVar EI1 re e1]) (c.pick [1, 0, 3, 5, 6])
    refine ext3 ?_
    refine .here ?_
    rw [uno_nb, vb_some, Bool.not_true, br_false, vb_some, br_false]
    rw [(c.va (i := 5) rfl).one rfl, vb_some, bin_eql, vb_some, eqB_, vb_some]
    rcases he1 with ⟨rfl, hm⟩ | ⟨rfl, hm, hv1⟩
    · have hrt := hmem.2 hm
      subst hrt
      rcases he2 with ⟨rfl, _⟩ | ⟨_, hm2, _⟩
      · refine brd (fun h => by simp at h) fun _ => ?_
        rw [(c.va (i := 3) rfl).one rfl, vb_some, bin_eql, vb_some, eqB_, vb_some]
        refine brd (fun h => by simp at h) fun _ => ?_
        refine .here ?_
        rw [br_true]
        exact cs.awake fun h4 g => hR h4 (c.more g).gr
      · exact absurd hm hm2
    · have hrt : rt = false := by
        cases rt with
        | true => exact absurd (hmem.1 rfl) hm
        | false => rfl
      subst hrt
      rcases he2 with ⟨_, hm2⟩ | ⟨rfl, _, hv2⟩
      · exact absurd hm2 hm
      · refine brd (fun h => by simp at h) fun _ => ?_
        rw [(c.va (i := 3) rfl).one rfl, vb_some, bin_eql, vb_some, eqB_, vb_some]
        refine brd (fun h => by simp at h) fun _ => ?_
        refine .here ?_
        rw [br_false, (c.va (i := 5) rfl).one rfl, vb_some, eqI, vb_some, br_true, (c.va (i := 3) rfl).one rfl, vb_some, eqI, vb_some, br_true]
        rw [hv1] at W1
        rw [hv2] at W2
        refine (c.va (i := 2) rfl).fld (j := 0) rfl ?_
        have c := c.pick [4, 1, 2, 0]
        refine cs.alike W1 H.W c fun h11 c => ?_
        rw [br_true]
        have c : Cx (fun _ => False) h h11 [rMp .i64 mW nv1 ps1, rMp .i64 mW (.map x.k) ps, rVar ESt r7 x, rMp .i64 mW nv2 ps2] := c
        refine (c.va (i := 2) rfl).fld (j := 0) rfl ?_
        have c := c.pick [3, 1]
        refine cs.alike W2 H.W c fun h12 c => ?_
        rw [br_true]
        exact cs.awake fun h4 g => hR h4 (c.more g).gr
end
end Go.En
