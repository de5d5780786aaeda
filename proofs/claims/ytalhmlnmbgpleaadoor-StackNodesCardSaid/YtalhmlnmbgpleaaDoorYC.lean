/-
  Layer 33: a call on a world and on the reference.
  Layer 33: a call; whether a memory agrees with its lists.
  Layer 33: whether a memory agrees with its lists.
-/
import Derived.Test.YtalhmlnmbgpleaaDoorYB
namespace Go.En
open Prog Spc Go.Sort

variable {S : Sys} {I : Ids} {h h0 h' : Hp} {F F0 : Fp} {R : Value → Hp → Prop} {L : List Res} {s : Value} {σ τ : Spc}
theorem wp_out {α : Type} : ∀ {p : Prog α} {σ : Spc} {Q : α → Spc → Prop}, wp p σ Q → Q (p.run σ).1 (p.run σ).2
  | .ret a, σ, Q, h => h
  | .get a k, σ, Q, h => wp_out (p := k _) h
  | .put a v k, σ, Q, h => wp_out (p := k) h.2.2
  | .mark k, σ, Q, h => wp_out (p := k _) h
  | .back m k, σ, Q, h => wp_out (p := k) h
section
variable {ps : List (Int × W3)} {m : Int → Int} {V n r r' v : Int} {vs vs' : List Int}
theorem WoR.sm33 (W : WoR 192 ps m V) : Sm D33 (newS ps) (newS ps) m 0 := W.sm
theorem good_of {σ' : Spc} {m' : Int → Int} {c : Nat} (W : WoR 192 ps m V) (hg : Gd σ') (S' : Sm D33 (newS ps) σ' m' c) (hc : c ≤ 1000) (hf : σ'.rd.length ≤ 32 ∨ σ'.pu = []) : Good 192 ps σ' := by
  refine ⟨hg, by rw [S'.kn]; exact W.kn, S'.en, hf, ?_⟩
  have := S'.len
  have e : (newS ps).pu.length = 0 := rfl
  omega
/-- a push, whole -/
theorem push_all (W : WoR 192 ps m V) (hr : R33 n r r') (T : Two n r r' m vs vs') (hv : R64 v) : wp (sPush (p33 n) r v) (newS ps) fun e σ' => Good 192 ps σ' ∧ σ'.rd.length ≤ 8 ∧
    ((e = 0 ∧ (vs.length : Int) + vs'.length < n ∧ Two n r r' σ'.vw (v :: vs) vs') ∨ (e = 9 ∧ n ≤ (vs.length : Int) + vs'.length ∧ σ'.vw = m)) := by
  have hT := T
  obtain ⟨l, l', fr, out, t⟩ := hT
  have hl : (newS ps).pu.length + 12 ≤ big := by show 0 + 12 ≤ big; decide
  have w1 := T.push hr W.sm33 hv hl
  obtain ⟨x, w2⟩ := rs_push W.sm33 t.P (p33_D hr.n) hr.D hv hl rfl
  have w3 := wp_gd W.gd w1
  refine Prog.wp_mono (wp_det w3) ?_
  rintro e σ' ⟨rfl, rfl⟩
  obtain ⟨g1, _, _, m', S', hq⟩ := wp_out w3
  have h8 := (wp_out w2).len
  have hm : ((sPush (p33 n) r v).run (newS ps)).2.vw = m' := funext S'.vw
  refine ⟨good_of W g1 S' (by decide) (.inl (Nat.le_trans h8 (by show 8 ≤ 32; decide))), h8, ?_⟩
  rw [hm]
  exact hq
theorem pop_all (W : WoR 192 ps m V) (hr : R33 n r r') (T : Two n r r' m vs vs') : wp (sPop (p33 n) r) (newS ps) fun e σ' => Good 192 ps σ' ∧ σ'.rd.length ≤ 8 ∧ e = topV vs ∧ Two n r r' σ'.vw vs.tail vs' := by
  have hT := T
  obtain ⟨l, l', fr, out, t⟩ := hT
  have hl : (newS ps).pu.length + 12 ≤ big := by show 0 + 12 ≤ big; decide
  have w1 := T.pop hr W.sm33 hl
  obtain ⟨x, w2⟩ := rs_pop W.sm33 t.P (p33_D hr.n) hr.D t.a (fun y hy => t.ha y (List.mem_append_left _ hy)) hl rfl
  have w3 := wp_gd W.gd w1
  refine Prog.wp_mono (wp_det w3) ?_
  rintro e σ' ⟨rfl, rfl⟩
  obtain ⟨g1, _, _, m', S', he, hq⟩ := wp_out w3
  have h8 := (wp_out w2).len
  have hm : ((sPop (p33 n) r).run (newS ps)).2.vw = m' := funext S'.vw
  refine ⟨good_of W g1 S' (by decide) (.inl (Nat.le_trans h8 (by show 8 ≤ 32; decide))), h8, he, ?_⟩
  rw [hm]
  exact hq
end
/-! ### The state in memory -/
structure X33 where
  k : Option Nat
  p : Pl
  l : Nat → SH
def ESt : Enc X33 := { n := 6, c := fun x => [.map x.k, .int .i64 x.p.root, .int .i64 x.p.frm, .int .i64 x.p.nodes, shV (x.l 0), shV (x.l 1)], len := fun _ => rfl, one := fun a v h => by simp only [List.mem_cons, List.not_mem_nil, or_false] at h; rcases h with rfl | rfl | rfl | rfl | rfl | rfl <;> rfl }
def vSt (x : X33) : Value := .agg ⟨ESt.c x⟩
def X0 : X33 := ⟨none, ⟨0, 0, 0⟩, fun _ => (none, 0, 0)⟩
def X33.setl (x : X33) (j : Nat) (u : SH) : X33 := { x with l := fun i => if i = j then u else x.l i }
/-- a call -/
structure C33 where
  d : Int
  w : Int
  v : Int
def ECs : Enc C33 := { n := 3, c := fun x => [.int .u8 x.d, .int .u8 x.w, .int .i64 x.v], len := fun _ => rfl, one := fun a v h => by simp only [List.mem_cons, List.not_mem_nil, or_false] at h; rcases h with rfl | rfl | rfl <;> rfl }
def vCs (x : C33) : Value := .agg ⟨ECs.c x⟩
structure C33.ok (x : C33) : Prop where
  d : 0 ≤ x.d ∧ x.d ≤ 255
  w : 0 ≤ x.w ∧ x.w ≤ 255
  v : R64 x.v
/-- the roots, a variable of the package -/
def ER2 : Enc Unit := { n := 2, c := fun _ => [.int .i64 8, .int .i64 16], len := fun _ => rfl, one := fun a v h => by simp only [List.mem_cons, List.not_mem_nil, or_false] at h; rcases h with rfl | rfl <;> rfl }
structure Rt (F : Fp) (h : Hp) : Prop where
  row : Row ER2 h 0 0 ()
  no : ¬ F 0
def rt (j : Nat) : Int := if j = 0 then 8 else 16
theorem Cx.toRt (c : Cx F h0 h L) (H : Rt F h0) : Rt F h := ⟨H.row.ch c.gr H.no, H.no⟩
theorem Rt.lt (H : Rt F h) : 0 < h.size := cl_lt (H.row 0 _ rfl)
theorem Rt.le {F1 : Fp} (H : Rt F h0) (H1 : Rt F h) (hF : ∀ r, F1 r → F r ∨ h0.size ≤ r) : Rt F1 h := ⟨H1.row, fun h1 => by
  rcases hF 0 h1 with h2 | h2
  · exact H.no h2
  · have := H.lt; omega⟩
theorem Rt.get {j : Nat} (H : Rt F h) (hj : j = 0 ∨ j = 1) {q : IntKind} {z : Int} (hz : z = j) {k : Value → Prop} (hk : k (.int .i64 (En.rt j))) : Vb (ixa 2 1 (.pointer (some ⟨0, 0, none⟩)) (.int q z)) fun p => Vb (ldc p h) k := by
  refine En.vb (ixa_at hz (by omega) 0) ?_
  rcases hj with rfl | rfl
  · exact En.vb (H.row.ldc (j := 0) rfl) hk
  · exact En.vb (H.row.ldc (j := 1) rfl) hk
theorem r33_j {n : Int} (hn : 0 ≤ n ∧ n ≤ 16) {j : Nat} (hj : j = 0 ∨ j = 1) : R33 n (rt j) (rt (1 - j)) := ⟨hn, by rcases hj with rfl | rfl <;> simp [rt]⟩
theorem rt_le {j : Nat} : 0 ≤ rt j ∧ rt j ≤ 1000000 := by unfold rt; split <;> decide
/-- the list behind a call -/
def nx33 (n d v : Int) (l : List Int) (o : Nat) : List Int := if d % 3 < 2 then (if (l.length : Int) + o < n then l ++ [v] else l) else l.dropLast
structure CsS3' (S : Sys) (I : Ids) : Prop extends CsS2' S I where
  spush : ∀ {p : Pl} {root v : Int} {s}, 0 ≤ root ∧ root ≤ 1000000 → Does S I.f_stack_Push [s, vP p, .int .i64 root, .int .i64 v] s (sPush p root v) uI
  spop : ∀ {p : Pl} {root : Int} {s}, 0 ≤ root ∧ root ≤ 1000000 → Does S I.f_stack_Pop [s, vP p, .int .i64 root] s (sPop p root) uE
  rpush : ∀ {v : Value} {l x left h R}, Sl EI1 h v l → l.length ≤ 100000 → (left ≤ 0 → R (.tuple #[v, .int .i64 9]) h) → (0 < left → ∀ w h', Cx (fun _ => False) h h' [rSl EI1 (shV w) (l ++ [x])] → R (.tuple #[shV w, .int .i64 0]) h') → S.C I.f_simulcastref33_Push [v, .int .i64 x, .int .i64 left] h R
  rpop : ∀ {v : Value} {l h R}, Sl EI1 h v l → l.length ≤ 100000 → (l = [] → R (.tuple #[v, .int .i64 0, .int .i64 8]) h) → (∀ y, l.getLast? = some y → ∀ w, slc 1 v none (some (.int .i64 ((l.length - 1 : Nat) : Int))) none = some w → R (.tuple #[w, .int .i64 y, .int .i64 0]) h) → S.C I.f_simulcastref33_Pop [v] h R
section
variable {x : X33} {cc : C33} {n left : Int} {ps : List (Int × W3)} {m : Int → Int} {V : Int} {wv : Value} {j rx rc ri rl ro : Nat} {l1 l2 : List Int} {X : Res} {K : Value → Hp → Prop}
theorem cell_l (hj : j = 0 ∨ j = 1) : (ESt.c x)[4 + j]? = some (shV (x.l j)) := by rcases hj with rfl | rfl <;> rfl
/-- a list of the state is read -/
theorem Cx.getl {i : Nat} (c : Cx F0 h0 h L) (hi : L[i]? = some (rVar ESt rx x)) (hj : j = 0 ∨ j = 1) {q : IntKind} {z : Int} (hz : z = j) {k : Value → Prop} (hk : k (shV (x.l j))) : Vb (fa 4 (at0 rx)) fun p => Vb (ixa 2 1 p (.int q z)) fun p => Vb (ldc p h) k := by
  refine En.vb (fa_add _ _ _) (En.vb (ixa_at hz (by omega) _) ?_)
  rw [show 0 + 4 + j = 0 + (4 + j) by omega]
  exact En.vb ((c.va hi).row.ldc (cell_l hj)) hk
theorem Cx.setL {i : Nat} (c : Cx F0 h0 h L) (hi : L[i]? = some (rVar ESt rx x)) (hj : j = 0 ∨ j = 1) {q : IntKind} {z : Int} (hz : z = j) (u : SH) {k : Hp → Prop} (hk : ∀ h', Cx F0 h0 h' (L.set i (rVar ESt rx (x.setl j u))) → k h') : Vb (fa 4 (at0 rx)) fun p => Vb (ixa 2 1 p (.int q z)) fun p => Sb (En.sto 1 p (shV u) h) k := by
  refine En.vb (fa_add _ _ _) (En.vb (ixa_at hz (by omega) _) ?_)
  rw [show 0 + 4 + j = 0 + (4 + j) by omega]
  have := c.stof i hi (x.setl j u) (j := 4 + j) (w := shV u) (k := k) rfl (by rcases hj with rfl | rfl <;> decide) (by rcases hj with rfl | rfl <;> rfl) hk
  rw [show fa (4 + j) (at0 rx) = some (.pointer (some ⟨rx, 0 + (4 + j), none⟩)) from fa_add _ _ _, vb_some] at this
  exact this
theorem Cx.getP {i : Nat} (c : Cx F0 h0 h L) (hi : L[i]? = some (rVar ESt rx x)) {k : Value → Prop} (hk : k (vP x.p)) : Vb (fa 1 (at0 rx)) fun p => Vb (lda 3 p h) k := by
  have hr : Row EPl h rx (0 + 1) x.p := fun j u hu => by
    have := (c.va hi).row (1 + j) u (by
      match j, hu with
      | 0, hu => exact hu
      | 1, hu => exact hu
      | 2, hu => exact hu
      | j + 3, hu => simp [EPl] at hu)
    rwa [show 0 + (1 + j) = 0 + 1 + j by omega] at this
  exact En.vb (fa_add _ _ _) (En.vb (hr.lda rfl) hk)
abbrev S1L (s wv : Value) (ps : List (Int × W3)) (σ : Spc) (u v : SH) (l1 l2 : List Int) (x : X33) (cc : C33) (j : Nat) (left : Int) (rx rc ri rl ro : Nat) (X : Res) : List Res :=
  [rMp .i64 mW wv ps, rSpace s σ, rSl EI1 (shV u) l1, rSl EI1 (shV v) l2, rVar ESt rx x, rVar ECs rc cc, rVar EI1 ri (j : Int), rVar EI1 rl left, rVar EB1 ro true, X]
set_option maxHeartbeats 800000 in
theorem K_step1 (cs : CsS3' S I) (hj : j = 0 ∨ j = 1) (hx : x.p = p33 n) (hn : 0 ≤ n ∧ n ≤ 16) (hc : cc.ok) (W : WoR 192 ps m V) (T : Two n (rt j) (rt (1 - j)) m l1.reverse l2.reverse) (hleft : left = n - l1.length - l2.length) (hRt : Rt F h0)
    (c : Cx F h0 h (S1L s wv ps (newS ps) (x.l j) (x.l (1 - j)) l1 l2 x cc j left rx rc ri rl ro X))
    (hk : ∀ u σ' h2, Good 192 ps σ' → σ'.rd.length ≤ 8 → Two n (rt j) (rt (1 - j)) σ'.vw (nx33 n cc.d cc.v l1 l2.length).reverse l2.reverse → Cx F h0 h2 (S1L s wv ps σ' u (x.l (1 - j)) (nx33 n cc.d cc.v l1 l2.length) l2 (x.setl j u) cc j left rx rc ri rl ro X) → K (.tuple #[]) h2) :
    F_simulcastlaw33_step_1 S I s (at0 rc) (at0 rx) (at0 ri) (at0 rl) (at0 ro) h K := by
  have hlen := T.len
  rw [List.length_reverse, List.length_reverse] at hlen
  have hr := r33_j hn hj
  have hd := hc.d
  unfold F_simulcastlaw33_step_1
  unfold nx33 at hk
  refine (c.va (i := 5) rfl).fld (j := 0) rfl ?_
  rw [show bin .rem (.int .u8 cc.d) (.int .u8 3) = some (.int .u8 (cc.d % 3)) by rw [bin_rem (by omega), Int.tmod_eq_emod_of_nonneg hd.1], vb_some, bin_lss, vb_some]
  refine brd (fun e => ?_) fun e => ?_
  · rw [if_pos e] at hk
    rw [(c.va (i := 6) rfl).one rfl, vb_some]
    refine c.getl (i := 4) rfl hj rfl ?_
    refine (c.va (i := 5) rfl).fld (j := 2) rfl ?_
    rw [(c.va (i := 7) rfl).one rfl, vb_some]
    have rest : ∀ (u : SH) (l' : List Int) (e0 : Int) (h1 : Hp), Cx F h0 h1 ((S1L s wv ps (newS ps) u (x.l (1 - j)) l' l2 x cc j left rx rc ri rl ro X)) → ((e0 = 0 ∧ (l1.length : Int) + l2.length < n ∧ l' = l1 ++ [cc.v]) ∨ (e0 = 9 ∧ n ≤ (l1.length : Int) + l2.length ∧ l' = l1)) →
        Vb (fa 1 (at0 rx)) fun v30 => Vb (lda 3 v30 h1) fun v31 => Vb (ldc (at0 ri) h1) fun v32 => Vb (ixa 2 1 (.pointer (some ⟨0, 0, none⟩)) v32) fun v33 => Vb (ldc v33 h1) fun v34 => Vb (fa 2 (at0 rc)) fun v35 => Vb (ldc v35 h1) fun v36 =>
          S.C I.f_stack_Push [s, v31, v34, v36] h1 fun v37 h2 => Vb (bin .eql v37 (.int .i64 e0)) fun v39 => Sb (sto 1 (at0 ro) v39 h2) fun h3 => Vb (ldc (at0 ri) h3) fun v40 => Vb (fa 4 (at0 rx)) fun v42 => Vb (ixa 2 1 v42 v40) fun v43 => Sb (sto 1 v43 (shV u) h3) fun h4 => K (.tuple #[]) h4 := by
      intro u l' e0 h1 c hl'
      refine c.getP (i := 4) rfl ?_
      rw [hx, (c.va (i := 6) rfl).one rfl, vb_some]
      refine (c.toRt hRt).get hj rfl ?_
      refine (c.va (i := 5) rfl).fld (j := 2) rfl ?_
      refine c.last (cs.spush rt_le) 1 rfl (push_all W hr T hc.v) fun e1 σ' h2 c hq => ?_
      obtain ⟨hg, h8, hq⟩ := hq
      rw [List.length_reverse, List.length_reverse] at hq
      have key : e1 = e0 ∧ l' = (if (l1.length : Int) + l2.length < n then l1 ++ [cc.v] else l1) ∧ Two n (rt j) (rt (1 - j)) σ'.vw l'.reverse l2.reverse := by
        rcases hq with ⟨rfl, hlt, T'⟩ | ⟨rfl, hge, hm⟩
        · rcases hl' with ⟨rfl, _, rfl⟩ | ⟨_, h2, _⟩
          · exact ⟨rfl, by rw [if_pos hlt], by rw [List.reverse_append]; exact T'⟩
          · omega
        · rcases hl' with ⟨_, h2, _⟩ | ⟨rfl, _, rfl⟩
          · omega
          · exact ⟨rfl, by rw [if_neg (by omega)], by rw [hm]; exact T⟩
      obtain ⟨rfl, hl'', T'⟩ := key
      unfold uI
      rw [eqI, vb_some]
      refine c.sto1 8 rfl true rfl rfl fun h3 c => ?_
      rw [(c.va (i := 6) rfl).one rfl, vb_some]
      refine c.setL (i := 4) rfl hj rfl u fun h4 c => ?_
      rw [hl''] at c T'
      exact hk u σ' h4 hg h8 T' c
    refine cs.rpush (c.sl (i := 2) rfl).sl (by omega) (fun h1 => ?_) fun h1 w h2 c2 => ?_
    · refine ext0t (ext1t ?_)
      exact rest (x.l j) l1 9 h c (.inr ⟨rfl, by omega, rfl⟩)
    · have c := c.frame0 c2
      refine ext0t (ext1t ?_)
      exact rest w (l1 ++ [cc.v]) 0 h2 (c.pick [0, 1, 10, 3, 4, 5, 6, 7, 8, 9]) (.inl ⟨rfl, by omega, rfl⟩)
  · rw [if_neg e] at hk
    rw [(c.va (i := 6) rfl).one rfl, vb_some]
    refine c.getl (i := 4) rfl hj rfl ?_
    have rest : ∀ (u : SH) (w0 : Value) (t : Int × Int), shV u = w0 → topV l1.reverse = t → Cx F h0 h ((S1L s wv ps (newS ps) u (x.l (1 - j)) l1.dropLast l2 x cc j left rx rc ri rl ro X)) →
        Vb (ext 0 (.tuple #[w0, .int .i64 t.1, .int .i64 t.2])) fun v50 => Vb (ext 1 (.tuple #[w0, .int .i64 t.1, .int .i64 t.2])) fun v51 => Vb (ext 2 (.tuple #[w0, .int .i64 t.1, .int .i64 t.2])) fun v52 => Vb (fa 1 (at0 rx)) fun v55 => Vb (lda 3 v55 h) fun v56 => Vb (ldc (at0 ri) h) fun v57 =>
          Vb (ixa 2 1 (.pointer (some ⟨0, 0, none⟩)) v57) fun v58 => Vb (ldc v58 h) fun v59 => S.C I.f_stack_Pop [s, v56, v59] h fun v60 h6 => Vb (ext 0 v60) fun v61 => Vb (ext 1 v60) fun v62 =>
            Jn0 (fun h7 => Vb (ldc (at0 ri) h7) fun v71 => Vb (fa 4 (at0 rx)) fun v73 => Vb (ixa 2 1 v73 v71) fun v74 => Sb (sto 1 v74 v50 h7) fun h8 => K (.tuple #[]) h8) fun J0 =>
              Vb (bin .eql v61 v51) fun v65 => Br v65 (Vb (bin .eql v62 v52) fun v69 => Sb (sto 1 (at0 ro) v69 h6) fun h9 => J0 h9) (Sb (sto 1 (at0 ro) (.bool false) h6) fun h10 => J0 h10) := by
      rintro u w0 t rfl rfl c
      refine En.vb (v := shV u) rfl (En.vb (v := .int .i64 (topV l1.reverse).1) rfl (En.vb (v := .int .i64 (topV l1.reverse).2) rfl ?_))
      refine c.getP (i := 4) rfl ?_
      rw [hx, (c.va (i := 6) rfl).one rfl, vb_some]
      refine (c.toRt hRt).get hj rfl ?_
      refine c.last (cs.spop rt_le) 1 rfl (pop_all W hr T) fun e1 σ' h2 c hq => ?_
      obtain ⟨hg, h8, rfl, T'⟩ := hq
      unfold uE
      refine ext0t (ext1t ?_)
      refine .here ?_
      rw [eqI, vb_some, br_true, eqI, vb_some]
      refine c.sto1 8 rfl true rfl rfl fun h3 c => ?_
      show Vb (ldc (at0 ri) h3) _
      rw [(c.va (i := 6) rfl).one rfl, vb_some]
      refine c.setL (i := 4) rfl hj rfl u fun h4 c => ?_
      have er : l1.reverse.tail = l1.dropLast.reverse := by rw [List.tail_reverse]
      rw [er] at T'
      exact hk u σ' h4 hg h8 T' c
    refine cs.rpop (c.sl (i := 2) rfl).sl (by omega) (fun h1 => ?_) fun y hy w hw => ?_
    · subst h1
      exact rest (x.l j) (shV (x.l j)) (0, 8) rfl rfl c
    · obtain ⟨u', e1, c'⟩ := c.cutS 2 rfl (k := l1.length - 1) (by omega)
      rw [hw] at e1
      injection e1 with e1
      have ed : l1.take (l1.length - 1) = l1.dropLast := by rw [List.dropLast_eq_take]
      rw [ed] at c'
      have et : topV l1.reverse = (y, 0) := by
        have : l1.reverse.head? = some y := by rw [List.head?_reverse]; exact hy
        cases hl : l1.reverse with
        | nil => rw [hl] at this; cases this
        | cons z r =>
          rw [hl] at this
          injection this with this
          rw [← this]; rfl
      exact rest u' w (y, 0) e1.symm et c'
end
end Go.En
namespace Go.En
open Prog Spc Go.Sort

variable {S : Sys} {I : Ids} {h h0 h' : Hp} {F F0 : Fp} {R : Value → Hp → Prop} {L : List Res} {s : Value} {σ τ : Spc}
/-- a state that agrees with its lists -/
structure S33 (n : Int) (x : X33) (ps : List (Int × W3)) (m : Int → Int) (V : Int) (l : Nat → List Int) : Prop where
  p : x.p = p33 n
  nn : 0 ≤ n ∧ n ≤ 16
  W : WoR 192 ps m V
  T : Two n (rt 0) (rt 1) m (l 0).reverse (l 1).reverse
abbrev L33 (x : X33) (ps : List (Int × W3)) (l : Nat → List Int) : List Res := [rMp .i64 mW (.map x.k) ps, rSl EI1 (shV (x.l 0)) (l 0), rSl EI1 (shV (x.l 1)) (l 1)]
/-- a call on the lists -/
def act33 (n : Int) (cc : C33) (l : Nat → List Int) : Nat → List Int := fun i => if i = (cc.w % 2).toNat then nx33 n cc.d cc.v (l i) (l (1 - i)).length else l i
structure CsS4' (S : Sys) (I : Ids) : Prop extends CsS3' S I where
  done : ∀ {N : Nat} {ps : List (Int × W3)} {m : Int → Int} {V : Int} {wv fn : Value} {G : List Res → Spc → Prop} {L F h0 h R}, N ≤ 4096 → WoR N ps m V → V < 4294967295 → (∀ L' σ', G L' σ' → Good N ps σ') → Cx F h0 h (rMp .i64 mW wv ps :: L) →
    (∀ s h1 K, Cx F h0 h1 (rMp .i64 mW wv ps :: rSpace s (newS ps) :: L) → (∀ L' σ' h2, G L' σ' → Cx F h0 h2 (rMp .i64 mW wv ps :: rSpace s σ' :: L') → K (.tuple #[]) h2) → Cv S.C S.Y fn [s] h1 K) →
    (∀ L' σ' ps' nv ev h3, G L' σ' → WoR N ps' σ'.vw (V + 1) → Cx F h0 h3 (rMp .i64 mW wv ps :: rMp .i64 mW nv ps' :: rSl EE ev σ'.ents.1 :: L') → R (.tuple #[nv, ev, .bool true]) h3) → S.C I.f_simulcastlaw33_World_Done [wv, fn] h R
  ustep1 : ∀ {s a b c d e : Value} {h K}, F_simulcastlaw33_step_1 S I s a b c d e h K → S.C I.f_simulcastlaw33_step_1 [s, a, b, c, d, e] h K
theorem ext3 {a b c : Value} {k : Value → Value → Value → Prop} (h : k a b c) : Vb (ext 0 (.tuple #[a, b, c])) fun x => Vb (ext 1 (.tuple #[a, b, c])) fun y => Vb (ext 2 (.tuple #[a, b, c])) fun z => k x y z := En.vb (v := a) rfl (En.vb (v := b) rfl (En.vb (v := c) rfl h))
section
variable {x : X33} {cc : C33} {n : Int} {ps : List (Int × W3)} {m : Int → Int} {V : Int} {wv : Value} {j : Nat} {l : Nat → List Int} {K : Value → Hp → Prop}
theorem S33.Tj (H : S33 n x ps m V l) (hj : j = 0 ∨ j = 1) : Two n (rt j) (rt (1 - j)) m (l j).reverse (l (1 - j)).reverse := by
  rcases hj with rfl | rfl
  · exact H.T
  · exact H.T.swap
theorem S33.len (H : S33 n x ps m V l) : ((l 0).length : Int) + (l 1).length ≤ n := by
  have := H.T.len
  rw [List.length_reverse, List.length_reverse] at this
  exact this
theorem Mp.isM {α : Type} {ik : IntKind} {E : α → Value} {v : Value} {ps : List (Int × α)} (H : Mp ik E h v ps) : ∃ k, v = .map (some k) := let ⟨r, _, _, e, _⟩ := H; ⟨r, e⟩
theorem Good.ents_len (H : Good 192 ps σ) (W : WoR 192 ps m V) (hV : V < 4294967295) (h8 : σ.rd.length ≤ 8) : σ.ents.1.length ≤ 8 := by
  rcases H.ents W (by decide) hV with e | ⟨e, _⟩
  · rw [e]
    show σ.entl.length ≤ 8
    have : σ.entl.length = σ.rd.length := by unfold Spc.entl; rw [List.length_map, sorted_len]
    omega
  · rw [e]; exact Nat.zero_le _
theorem modj (hc : cc.ok) : ∃ j : Nat, (j = 0 ∨ j = 1) ∧ cc.w % 2 = (j : Int) ∧ (cc.w % 2).toNat = j := ⟨(cc.w % 2).toNat, by have := hc.w; omega, by have := hc.w; omega, rfl⟩
theorem remj (hc : cc.ok) : bin .rem (.int .u8 cc.w) (.int .u8 2) = some (.int .u8 (cc.w % 2)) := by rw [bin_rem (by decide), Int.tmod_eq_emod_of_nonneg hc.w.1]
set_option maxHeartbeats 1600000 in
theorem K_step (cs : CsS4' S I) (H : S33 n x ps m V l) (hV : V < 4294967295) (hc : cc.ok) (hRt : Rt F h) (c : Cx F h h (L33 x ps l))
    (hR : ∀ x' ps' m' es ev h3, S33 n x' ps' m' (V + 1) (act33 n cc l) → es.length ≤ 8 → Cx F h h3 (rMp .i64 mW (.map x.k) ps :: rSl EE ev es :: L33 x' ps' (act33 n cc l)) → R (.tuple #[vSt x', ev, .bool true]) h3) :
    F_simulcastlaw33_step S I (vSt x) (vCs cc) h R := by
  obtain ⟨j, hj, ej, ej'⟩ := modj hc
  have hlen := H.len
  have hn := H.nn
  unfold F_simulcastlaw33_step
  refine c.nw ESt x rfl fun rx h1 c => ?_
  refine c.nw ECs cc rfl fun rc h2 c => ?_
  refine c.nw ESt X0 rfl fun r4 h3 c => ?_
  refine (c.va (i := 4) rfl).fld (j := 1) rfl ?_
  rw [remj hc, vb_some, cvi_int, vb_some, wr64 ⟨by omega, by omega⟩, ej]
  refine c.nw EI1 0 rfl fun ri h4 c => ?_
  refine c.sto1 6 rfl (j : Int) rfl rfl fun h5 c => ?_
  refine En.vb (fa_add _ _ _) (En.vb (fa_add _ _ _) (En.vb ((c.va (i := 3) rfl).row.ldc (j := 3) rfl) ?_))
  refine c.getl (i := 3) rfl (.inl rfl) rfl ?_
  rw [(c.sl (i := 1) rfl).sl.ln, vb_some, H.p]
  refine En.vb (v := .int .i64 (n - (l 0).length)) (by show bin .sub (.int .i64 n) _ = _; rw [bin_sub, wr64 ⟨by omega, by omega⟩]) ?_
  refine c.getl (i := 3) rfl (.inr rfl) rfl ?_
  rw [(c.sl (i := 2) rfl).sl.ln, vb_some]
  refine En.vb (v := .int .i64 (n - (l 0).length - (l 1).length)) (by rw [bin_sub, wr64 ⟨by omega, by omega⟩]) ?_
  refine c.nw EI1 0 rfl fun rl h6 c => ?_
  refine c.sto1 7 rfl (n - (l 0).length - (l 1).length) rfl rfl fun h7 c => ?_
  refine c.nw EB1 false rfl fun ro h8 c => ?_
  refine c.sto1 8 rfl true rfl rfl fun h9 c => ?_
  refine (c.va (i := 3) rfl).fld (j := 0) rfl ?_
  rw [vb_some]
  have c : Cx F h h9 [rMp .i64 mW (.map x.k) ps, rSl EI1 (shV (x.l j)) (l j), rSl EI1 (shV (x.l (1 - j))) (l (1 - j)), rVar ESt rx x, rVar ECs rc cc, rVar EI1 ri (j : Int), rVar EI1 rl (n - (l 0).length - (l 1).length), rVar EB1 ro true, rVar ESt r4 X0] := by
    rcases hj with rfl | rfl
    · exact c.pick [0, 1, 2, 3, 4, 6, 7, 8, 5]
    · exact c.pick [0, 2, 1, 3, 4, 6, 7, 8, 5]
  refine cs.done (G := fun L' σ' => ∃ u, Good 192 ps σ' ∧ σ'.rd.length ≤ 8 ∧ Two n (rt j) (rt (1 - j)) σ'.vw (nx33 n cc.d cc.v (l j) (l (1 - j)).length).reverse (l (1 - j)).reverse ∧
      L' = [rSl EI1 (shV u) (nx33 n cc.d cc.v (l j) (l (1 - j)).length), rSl EI1 (shV (x.l (1 - j))) (l (1 - j)), rVar ESt rx (x.setl j u), rVar ECs rc cc, rVar EI1 ri (j : Int), rVar EI1 rl (n - (l 0).length - (l 1).length), rVar EB1 ro true, rVar ESt r4 X0])
    (by decide) H.W hV (fun L' σ' ⟨_, hg, _⟩ => hg) c (fun s h1 K c k => ?_) fun L' σ' ps' nv ev h3 ⟨u, hg, h8, T', eL⟩ W' c => ?_
  · refine .inl ⟨_, _, _, rfl, cs.ustep1 (K_step1 cs.toCsS3' hj H.p hn hc H.W (H.Tj hj) ?_ hRt c fun u σ' h2 hg h8 T' c => ?_)⟩
    · rcases hj with rfl | rfl
      · rfl
      · show n - ((l 0).length : Int) - (l 1).length = n - (l 1).length - (l 0).length
        omega
    · exact k _ σ' h2 ⟨u, hg, h8, T', rfl⟩ c
  subst eL
  refine ext3 ?_
  obtain ⟨k', rfl⟩ := (c.mp (i := 1) rfl).isM
  refine c.stof (i := 5) rfl { x.setl j u with k := some k' } (j := 0) (w := .map (some k')) rfl (by decide) rfl fun h11 c => ?_
  refine .here ?_
  rw [show lda 6 (at0 rx) h11 = some (vSt { x.setl j u with k := some k' }) from (c.va (i := 5) rfl).whole rfl, vb_some, (c.va (i := 9) rfl).one rfl, vb_some, br_true]
  refine c.sto 10 rfl { x.setl j u with k := some k' } rfl rfl fun h13 c => ?_
  show Vb (lda 6 (at0 r4) h13) _
  rw [show lda 6 (at0 r4) h13 = some (vSt { x.setl j u with k := some k' }) from (c.va (i := 10) rfl).whole rfl, vb_some]
  refine hR { x.setl j u with k := some k' } ps' σ'.vw _ ev h13 ⟨H.p, hn, W', ?_⟩ (hg.ents_len H.W hV h8) ?_
  · rcases hj with rfl | rfl
    · have e0 : act33 n cc l 0 = nx33 n cc.d cc.v (l 0) (l 1).length := by unfold act33; rw [if_pos (by omega)]
      have e1 : act33 n cc l 1 = l 1 := by unfold act33; rw [if_neg (by omega)]
      rw [e0, e1]
      exact T'
    · have e0 : act33 n cc l 0 = l 0 := by unfold act33; rw [if_neg (by omega)]
      have e1 : act33 n cc l 1 = nx33 n cc.d cc.v (l 1) (l 0).length := by unfold act33; rw [if_pos (by omega)]
      rw [e0, e1]
      exact T'.swap
  · rcases hj with rfl | rfl
    · have e0 : act33 n cc l 0 = nx33 n cc.d cc.v (l 0) (l 1).length := by unfold act33; rw [if_pos (by omega)]
      have e1 : act33 n cc l 1 = l 1 := by unfold act33; rw [if_neg (by omega)]
      unfold L33
      rw [e0, e1]
      exact c.pick [0, 2, 1, 3, 4]
    · have e0 : act33 n cc l 0 = l 0 := by unfold act33; rw [if_neg (by omega)]
      have e1 : act33 n cc l 1 = nx33 n cc.d cc.v (l 1) (l 0).length := by unfold act33; rw [if_pos (by omega)]
      unfold L33
      rw [e0, e1]
      exact c.pick [0, 2, 1, 4, 3]
end
end Go.En
namespace Go.En
open Prog Spc Go.Sort

variable {S : Sys} {I : Ids} {h h0 h' : Hp} {F F0 : Fp} {R : Value → Hp → Prop} {L : List Res} {s : Value} {σ τ : Spc}
section
variable {n r r' : Int} {m : Int → Int} {vs vs' : List Int}
theorem Two.top' (hr : R33 n r r') (H : Two n r r' m vs vs') (S : Sm D33 σ σ m 0) : wp (sTop' r) σ fun e σ' => Sm D33 σ σ' m 0 ∧ e = topV vs := by
  obtain ⟨l, l', fr, out, h⟩ := H
  have r0 := hr.D 0 (by omega) (by omega)
  rw [Int.add_zero] at r0
  have K := h.a
  unfold sTop'
  refine wp_get S r0 fun σ1 S1 => ?_
  cases l with
  | nil =>
    have e0 : m r = 0 := K.lk
    rw [e0, if_pos rfl]
    exact ⟨S1, by rw [K.val]; rfl⟩
  | cons y l1 =>
    obtain ⟨⟨j, j0, j1, ej⟩, _⟩ := h.ha y (List.mem_append_left _ (List.mem_cons_self ..))
    have o1 : out ≤ n := h.P.out1
    have hn := hr.n
    have ej : y = 64 + 8 * j := ej
    rw [K.lk.1, if_neg (by omega), w64_R ⟨by omega, by omega⟩]
    refine wp_get S1 (a := y + 1) ⟨by omega, by omega⟩ fun σ2 S2 => ?_
    exact ⟨S2, by rw [K.val]; rfl⟩
theorem Two.n1 (H : Two n r r' m vs vs') : m (r + 1) = vs.length ∧ m (r + 7) = vs.length := by
  obtain ⟨l, l', fr, out, h⟩ := H
  rw [h.a.len]
  exact ⟨h.a.n1, h.a.n7⟩
end
/-- a space on a world that is only read -/
structure Rd33 (ps : List (Int × W3)) (m : Int → Int) (σ : Spc) : Prop where
  gd : Gd σ
  sm : Sm D33 (newS ps) σ m 0
section
variable {ps : List (Int × W3)} {m : Int → Int} {V : Int}
theorem WoR.rd33 (W : WoR 192 ps m V) : Rd33 ps m (newS ps) := ⟨W.gd, W.sm33⟩
theorem Rd33.pu (H : Rd33 ps m σ) : σ.pu = [] := by
  obtain ⟨ex, e, hl⟩ := H.sm.pu
  rw [e, List.length_eq_zero_iff.1 (Nat.le_zero.1 hl)]; rfl
theorem Rd33.good (H : Rd33 ps m σ) (W : WoR 192 ps m V) : Good 192 ps σ := ⟨H.gd, by rw [H.sm.kn]; exact W.kn, H.sm.en, .inr H.pu, by rw [H.pu]; exact Nat.zero_le _⟩
theorem Rd33.vw (H : Rd33 ps m σ) : σ.vw = m := funext H.sm.vw
theorem Rd33.wp {α : Type} {p : Prog α} {Q : α → Prop} (H : Rd33 ps m σ) (h : wp p σ fun e σ' => Sm D33 σ σ' m 0 ∧ Q e) : wp p σ fun e σ' => Rd33 ps m σ' ∧ Q e :=
  Prog.wp_mono (wp_gd H.gd h) fun _ _ ⟨g, _, _, s, q⟩ => ⟨⟨g, H.sm.trans s⟩, q⟩
theorem Rd33.get {a : Int} (H : Rd33 ps m σ) (ha : D33 a) : Prog.wp (gt a) σ fun e σ' => Rd33 ps m σ' ∧ e = m a :=
  H.wp (by
    show Sm D33 σ (σ.get a).2 m 0 ∧ (σ.get a).1 = m a
    rw [H.sm.fresh.get ha]
    exact ⟨H.sm.fresh.rds a, rfl⟩)
end
structure CsS5' (S : Sys) (I : Ids) : Prop extends CsS4' S I where
  swalk : ∀ {p : Pl} {root : Int} {s : Value} {F h σ} {R : Value → Hp → Prop} {Q : Option (List Int) → Spc → Prop}, 0 ≤ root ∧ root ≤ 1000000 → 0 ≤ p.nodes ∧ p.nodes ≤ 1000 → Cx F h h [rSpace s σ] → wp (sWalk p root) σ Q →
    (∀ r σ' v h' M, Cx F h h' (rSpace s σ' :: rSl EI1 v (r.getD []) :: M) → Q r σ' → R (.tuple #[v, .int .i64 (if r.isSome then 0 else 24)]) h') → S.C I.f_stack_Walk [s, vP p, .int .i64 root] h R
  stop : ∀ {root : Int} {s}, 0 ≤ root ∧ root ≤ 1000000 → Does S I.f_stack_Top [s, .int .i64 root] s (sTop' root) uE
  slen : ∀ {root : Int} {s}, 0 ≤ root ∧ root ≤ 1000000 → Does S I.f_stack_Len [s, .int .i64 root] s (gt (root + 1)) uI
  rwalk : ∀ {v : Value} {l : List Int} {h R}, Sl EI1 h v l → l.length ≤ 100000 → (∀ w h', Cx (fun _ => False) h h' [rSl EI1 w l.reverse] → R w h') → S.C I.f_simulcastref33_Walk [v] h R
  equal : ∀ {l : List Int} {v1 v2 : Value} {h R}, Sl EI1 h v1 l → Sl EI1 h v2 l → l.length ≤ 100000 → R (.bool true) h → S.C I.f_slices_Equal_int64_int64 [v1, v2] h R
  alike : ∀ {ps qs : List (Int × W3)} {m : Int → Int} {V V' : Int} {av bv : Value} {L F h0 h R}, WoR 192 ps m V → WoR 192 qs m V' → Cx F h0 h (rMp .i64 mW av ps :: rMp .i64 mW bv qs :: L) → (∀ h', Cx F h0 h' (rMp .i64 mW av ps :: rMp .i64 mW bv qs :: L) → R (.bool true) h') → S.C I.f_simulcastlaw33_Alike [av, bv] h R
  uis1 : ∀ {s : Value} {h K}, F_simulcastlaw33_is_1 S I s h K → S.C I.f_simulcastlaw33_is_1 [s] h K
  uis2 : ∀ {s a b c d : Value} {h K}, F_simulcastlaw33_is_2 S I s a b c d h K → S.C I.f_simulcastlaw33_is_2 [s, a, b, c, d] h K
section
variable {x : X33} {n : Int} {ps : List (Int × W3)} {m : Int → Int} {V : Int} {wv : Value} {j : Nat} {l : Nat → List Int} {K : Value → Hp → Prop} {rx ro ri rr : Nat}
theorem S33.llen (H : S33 n x ps m V l) (hj : j = 0 ∨ j = 1) : (l j).length ≤ 16 := by
  have := H.len; have := H.nn
  rcases hj with rfl | rfl <;> omega
set_option maxHeartbeats 1600000 in
theorem K_is2 (cs : CsS5' S I) (H : S33 n x ps m V l) (hj : j = 0 ∨ j = 1)
    (c : Cx F h0 h ([rMp .i64 mW wv ps, rSpace s (newS ps), rSl EI1 (shV (x.l 0)) (l 0), rSl EI1 (shV (x.l 1)) (l 1), rVar ESt rx x, rVar EB1 ro true, rVar EI1 ri (j : Int), rVar EI1 rr (rt j)]))
    (hk : ∀ σ' h2, Rd33 ps m σ' → Cx F h0 h2 ([rMp .i64 mW wv ps, rSpace s σ', rSl EI1 (shV (x.l 0)) (l 0), rSl EI1 (shV (x.l 1)) (l 1), rVar ESt rx x, rVar EB1 ro true, rVar EI1 ri (j : Int), rVar EI1 rr (rt j)]) → K (.tuple #[]) h2) :
    F_simulcastlaw33_is_2 S I s (at0 rx) (at0 rr) (at0 ri) (at0 ro) h K := by
  have T := H.Tj hj
  have hr := r33_j H.nn hj
  have hl16 := H.llen hj
  have hn := H.nn
  have hrd := hr.D
  unfold F_simulcastlaw33_is_2
  refine c.getP (i := 4) rfl ?_
  rw [(c.va (i := 7) rfl).one rfl, vb_some, H.p]
  obtain ⟨F1, c1, up⟩ := c.frame (i := 1) rfl
  refine cs.swalk (p := p33 n) rt_le ⟨hn.1, by show n ≤ 1000; omega⟩ c1 (H.W.rd33.wp (Q := fun o => o = some (l j).reverse) (Prog.wp_mono (T.walk hr H.W.sm33) fun _ _ h => ⟨h.2, h.1⟩)) fun r σ1 v h1 M c1 ⟨R1, er⟩ => ?_
  subst er
  have c := up c1
  clear c1 up
  have c := (c.pick [0, 1, 2, 3, 4, 5, 6, 7, 8])
  refine ext0t (ext1t ?_)
  rw [(c.va (i := 7) rfl).one rfl, vb_some]
  refine c.last (cs.stop rt_le) 1 rfl (R1.wp (Q := fun e => e = topV (l j).reverse) (T.top' hr R1.sm.fresh)) fun e σ2 h2 c ⟨R2, ee⟩ => ?_
  subst ee
  unfold uE
  refine ext0t (ext1t ?_)
  rw [(c.va (i := 6) rfl).one rfl, vb_some]
  refine c.getl (i := 4) rfl hj rfl ?_
  have sj : ∀ h1 L1, Cx F h0 h1 ([rMp .i64 mW wv ps, rSpace s σ2, rSl EI1 (shV (x.l 0)) (l 0), rSl EI1 (shV (x.l 1)) (l 1)] ++ L1) → Sl EI1 h1 (shV (x.l j)) (l j) := fun h1 L1 d => by
    rcases hj with rfl | rfl
    · exact (d.sl (i := 2) rfl).sl
    · exact (d.sl (i := 3) rfl).sl
  have rest : ∀ (w0 : Value) (t : Int × Int), topV (l j).reverse = t → Vb (ext 0 (.tuple #[w0, .int .i64 t.1, .int .i64 t.2])) fun v33 => Vb (ext 1 (.tuple #[w0, .int .i64 t.1, .int .i64 t.2])) fun v34 => Vb (ext 2 (.tuple #[w0, .int .i64 t.1, .int .i64 t.2])) fun v35 => Vb (ldc (at0 ro) h2) fun v36 =>
      Br v36 (
        Vb (bin .eql (.int .i64 (if (some (l j).reverse).isSome then 0 else 24)) (Value.int IntKind.i64 0)) fun v39 =>
        Br v39 (
          Vb (ldc (at0 ri) h2) fun v43 =>
          Vb (fa 4 (at0 rx)) fun v44 =>
          Vb (ixa 2 1 v44 v43) fun v45 =>
          Vb (ldc v45 h2) fun v46 =>
          S.C I.f_simulcastref33_Walk [v46] h2 fun v47 h4 =>
          S.C I.f_slices_Equal_int64_int64 [v, v47] h4 fun v48 h5 =>
          Br v48 (
            Vb (bin .eql (.int .i64 (topV (l j).reverse).1) v34) fun v53 =>
            Br v53 (
              Vb (bin .eql (.int .i64 (topV (l j).reverse).2) v35) fun v58 =>
              Br v58 (
                Vb (ldc (at0 rr) h5) fun v62 =>
                Vb (ldc (at0 ri) h5) fun v64 =>
                Vb (fa 4 (at0 rx)) fun v65 =>
                Vb (ixa 2 1 v65 v64) fun v66 =>
                Vb (ldc v66 h5) fun v67 =>
                Vb (lnS v67) fun v68 =>
                S.C I.f_stack_Len [s, v62] h5 fun v63 h6 =>
                ldc v66 h6 = some v67 ∧
                ldc (at0 ri) h6 = some v64 ∧
                Vb (bin .eql v63 v68) fun v69 =>
                Br v69 (
                  Vb (ldc (at0 rr) h6) fun v73 =>
                  Vb (bin .add v73 (Value.int IntKind.i64 7)) fun v74 =>
                  Vb (ldc (at0 ri) h6) fun v76 =>
                  Vb (fa 4 (at0 rx)) fun v77 =>
                  Vb (ixa 2 1 v77 v76) fun v78 =>
                  Vb (ldc v78 h6) fun v79 =>
                  Vb (lnS v79) fun v80 =>
                  S.C I.f_space_Space_Get [s, v74] h6 fun v75 h7 =>
                  ldc v78 h7 = some v79 ∧
                  ldc (at0 ri) h7 = some v76 ∧
                  Vb (bin .eql v75 v80) fun v81 =>
                  Br v81 (
                    S.C I.f_space_Space_Writes [s] h7 fun v85 h8 =>
                    Vb (lnS v85) fun v86 =>
                    Vb (bin .eql v86 (Value.int IntKind.i64 0)) fun v87 =>
                    Sb (sto 1 (at0 ro) v87 h8) fun h9 =>
                    K (.tuple #[]) h9) (
                    Sb (sto 1 (at0 ro) (Value.bool false) h7) fun h10 =>
                    K (.tuple #[]) h10)) (
                  Sb (sto 1 (at0 ro) (Value.bool false) h6) fun h11 =>
                  K (.tuple #[]) h11)) (
                Sb (sto 1 (at0 ro) (Value.bool false) h5) fun h12 =>
                K (.tuple #[]) h12)) (
              Sb (sto 1 (at0 ro) (Value.bool false) h5) fun h13 =>
              K (.tuple #[]) h13)) (
            Sb (sto 1 (at0 ro) (Value.bool false) h5) fun h14 =>
            K (.tuple #[]) h14)) (
          Sb (sto 1 (at0 ro) (Value.bool false) h2) fun h15 =>
          K (.tuple #[]) h15)) (
        Sb (sto 1 (at0 ro) (Value.bool false) h2) fun h16 =>
        K (.tuple #[]) h16) := by
    rintro w0 t rfl
    refine En.vb (v := w0) rfl (En.vb (v := .int .i64 (topV (l j).reverse).1) rfl (En.vb (v := .int .i64 (topV (l j).reverse).2) rfl ?_))
    rw [(c.va (i := 5) rfl).one rfl, vb_some, br_true]
    rw [show (if (some (l j).reverse).isSome = true then (0 : Int) else 24) = 0 from rfl, eqI, vb_some, br_true]
    rw [(c.va (i := 6) rfl).one rfl, vb_some]
    refine c.getl (i := 4) rfl hj rfl ?_
    refine cs.rwalk (sj _ _ c) (by omega) fun w2 h3 c2 => ?_
    have c := c.frame0 c2
    clear c2
    refine cs.equal (c.sl (i := 8) rfl).sl (c.sl (i := 9) rfl).sl (by show (l j).reverse.length ≤ _; rw [List.length_reverse]; omega) ?_
    rw [br_true, eqI, vb_some, br_true, eqI, vb_some, br_true, (c.va (i := 7) rfl).one rfl, vb_some, (c.va (i := 6) rfl).one rfl, vb_some]
    have rows : ∀ {h1 : Hp} {L1 : List Res}, Cx F h0 h1 L1 → L1[4]? = some (rVar ESt rx x) → ldc (.pointer (some ⟨rx, 0 + 4 + j, none⟩)) h1 = some (shV (x.l j)) := fun {h1 L1} c hi => by
      rw [show 0 + 4 + j = 0 + (4 + j) by omega]
      exact (c.va hi).row.ldc (cell_l hj)
    have two : (j : Nat) < 2 := by rcases hj with rfl | rfl <;> decide
    have n1 := T.n1
    rw [List.length_reverse] at n1
    refine En.vb (fa_add _ _ _) (En.vb (ixa_at rfl two _) (En.vb (rows c rfl) ?_))
    rw [(sj _ _ c).ln, vb_some]
    refine c.last (cs.slen rt_le) 1 rfl (R2.get (hrd 1 (by omega) (by omega))) fun e σ3 h4 c ⟨R3, ee⟩ => ?_
    subst ee
    refine ⟨rows c rfl, (c.va (i := 6) rfl).one rfl, ?_⟩
    unfold uI
    rw [n1.1, eqI, vb_some, br_true, (c.va (i := 7) rfl).one rfl, vb_some]
    refine En.vb (addI ⟨by have := (rt_le (j := j)); omega, by have := (rt_le (j := j)); omega⟩) ?_
    rw [(c.va (i := 6) rfl).one rfl, vb_some]
    refine En.vb (fa_add _ _ _) (En.vb (ixa_at rfl two _) (En.vb (rows c rfl) ?_))
    have ln : lnS (shV (x.l j)) = some (.int .i64 (l j).length) := by
      rcases hj with rfl | rfl
      · exact (c.sl (i := 2) rfl).sl.ln
      · exact (c.sl (i := 3) rfl).sl.ln
    rw [ln, vb_some]
    refine c.last cs.get 1 rfl (R3.get (hrd 7 (by omega) (by omega))) fun e σ4 h5 c ⟨R4, ee⟩ => ?_
    subst ee
    refine ⟨rows c rfl, (c.va (i := 6) rfl).one rfl, ?_⟩
    unfold uI
    rw [n1.2, eqI, vb_some, br_true]
    refine c.cWrites cs.hh 1 rfl (by rw [R4.pu]; exact Nat.zero_le _) fun wv' h6 c => ?_
    rw [R4.pu] at c
    have e0 : (cpt (sorted (([] : List (Int × Int)).map (·.1)))).length = 0 := by
      have := cpt_len (sorted (([] : List (Int × Int)).map (·.1)))
      rw [sorted_len] at this
      simpa using this
    rw [(c.sl (i := 10) rfl).sl.ln, e0, vb_some]
    refine En.vb (v := .bool true) rfl ?_
    refine c.sto1 5 rfl true rfl rfl fun h7 c => ?_
    exact hk σ4 h7 R4 (c.pick [0, 1, 2, 3, 4, 5, 6, 7])
  refine cs.rpop (sj _ _ c) (by omega) (fun h1 => ?_) fun y hy w hw => ?_
  · exact rest (shV (x.l j)) (0, 8) (by rw [h1]; rfl)
  · have et : topV (l j).reverse = (y, 0) := by
      have : (l j).reverse.head? = some y := by rw [List.head?_reverse]; exact hy
      cases hl : (l j).reverse with
      | nil => rw [hl] at this; cases this
      | cons z r =>
        rw [hl] at this
        injection this with this
        rw [← this]; rfl
    exact rest w (y, 0) et
theorem idc_rt (hj : j = 0 ∨ j = 1) : idc 2 1 (.agg (ER2.c ()).toArray) (.int .i64 (j : Int)) = some (.int .i64 (rt j)) := by
  rcases hj with rfl | rfl <;> rfl
set_option maxHeartbeats 1600000 in
theorem K_is (cs : CsS5' S I) (H : S33 n x ps m V l) (hV : V < 4294967295) (hRt : Rt F h) (c : Cx F h h (L33 x ps l))
    (hR : ∀ h3, Cx F h h3 (L33 x ps l) → R (.bool true) h3) : F_simulcastlaw33_is S I (vSt x) h R := by
  unfold F_simulcastlaw33_is
  refine c.nw ESt x rfl fun rx h1 c => ?_
  refine (c.va (i := 3) rfl).fld (j := 0) rfl ?_
  refine cs.done (G := fun L' σ' => Rd33 ps m σ' ∧ L' = [rSl EI1 (shV (x.l 0)) (l 0), rSl EI1 (shV (x.l 1)) (l 1), rVar ESt rx x]) (by decide) H.W hV (fun L' σ' h => h.1.good H.W) c (fun s h1 K c k => ?_) fun L' σ' ps' nv ev h3 ⟨g, eL⟩ W' c => ?_
  · exact .inl ⟨_, _, _, rfl, cs.uis1 (k _ _ _ ⟨H.W.rd33, rfl⟩ c)⟩
  subst eL
  have c := c.pick [0, 3, 4, 5]
  clear W' g
  refine ext3 ?_
  refine c.nw EB1 false rfl fun ro h4 c => ?_
  refine c.sto1 4 rfl true rfl rfl fun h5 c => ?_
  refine En.vb ((c.toRt hRt).row.lda (n := 2) rfl) ?_
  refine Lp1.by (fun (j : Nat) v h' => v = .int .i64 j ∧ j ≤ 2 ∧ Cx F h h' [rMp .i64 mW (.map x.k) ps, rSl EI1 (shV (x.l 0)) (l 0), rSl EI1 (shV (x.l 1)) (l 1), rVar ESt rx x, rVar EB1 ro true]) (fun j => 2 - j) 0 ⟨rfl, by decide, c⟩ ?_
  clear c
  rintro j v h6 ⟨rfl, hj2, c⟩ again hagain
  rw [bin_lss, vb_some]
  refine brd (fun hlt => ?_) fun hge => ?_
  · have hj : j = 0 ∨ j = 1 := by omega
    refine .here ?_
    rw [idc_rt hj, vb_some]
    refine c.nw EI1 0 rfl fun ri h7 c => ?_
    refine c.nw EI1 0 rfl fun rr h8 c => ?_
    refine c.sto1 5 rfl (j : Int) rfl rfl fun h9 c => ?_
    refine c.sto1 6 rfl (rt j) rfl rfl fun h10 c => ?_
    refine (c.va (i := 3) rfl).fld (j := 0) rfl ?_
    rw [vb_some]
    refine cs.done (G := fun L' σ' => Rd33 ps m σ' ∧ L' = [rSl EI1 (shV (x.l 0)) (l 0), rSl EI1 (shV (x.l 1)) (l 1), rVar ESt rx x, rVar EB1 ro true, rVar EI1 ri (j : Int), rVar EI1 rr (rt j)]) (by decide) H.W hV (fun L' σ' h => h.1.good H.W) c (fun s h1 K c k => ?_) fun L' σ' ps' nv ev h3 ⟨g, eL⟩ W' c => ?_
    · exact .inl ⟨_, _, _, rfl, cs.uis2 (K_is2 cs H hj c fun σ' h2 g c => k _ _ _ ⟨g, rfl⟩ c)⟩
    subst eL
    rw [g.vw] at W'
    refine ext3 ?_
    rw [(c.va (i := 6) rfl).one rfl, vb_some, br_true, br_true]
    refine (c.va (i := 5) rfl).fld (j := 0) rfl ?_
    have c := c.pick [1, 0, 3, 4, 5, 6]
    refine cs.alike W' H.W c fun h11 c => ?_
    refine c.sto1 5 rfl true rfl rfl fun h12 c => ?_
    show Vb (bin .add _ _) _
    rw [bin_add, vb_some, wrS (by omega)]
    exact hagain (j + 1) _ _ ⟨rfl, by omega, c.pick [1, 2, 3, 4, 5]⟩ (by omega)
  · refine .here ?_
    rw [(c.va (i := 4) rfl).one rfl, vb_some, br_true]
    exact hR h6 (c.pick [0, 1, 2])
end
end Go.En
