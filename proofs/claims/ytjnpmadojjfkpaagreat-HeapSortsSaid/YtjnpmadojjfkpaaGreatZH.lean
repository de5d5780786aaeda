/-
  Layer 38: the law Sorts.
-/
import Derived.Test.YtjnpmadojjfkpaaGreatZE
namespace Go.En
open Prog Spc Go.Sort

variable {S : Sys} {I : Ids} {h h0 h' : Hp} {F F0 : Fp} {R : Value → Hp → Prop} {L : List Res} {s : Value} {σ τ : Spc}
def mI (x : Int) : Value := .int .i64 x
/-- how often a value stands in a list -/
def cntV (l : List Im) (v : Int) : Nat := l.countP fun it => it.V == v
/-- a map that counts -/
structure Sum38 (qs : List (Int × Int)) (f : Int → Nat) : Prop where
  nd : (qs.map (·.1)).Nodup
  val : ∀ v, (lookA qs v).getD 0 = f v
theorem Sum38.set {qs : List (Int × Int)} {f f' : Int → Nat} (H : Sum38 qs f) (v x : Int) (h1 : x = f' v) (h2 : ∀ a, a ≠ v → f' a = f a) : Sum38 (updA qs v x) f' := by
  refine ⟨nodup_updA v x H.nd, fun a => ?_⟩
  rw [lookA_updA]
  split
  · rename_i e; subst e; exact h1
  · rename_i e; rw [H.val, h2 a e]
theorem Cx.sum {i : Nat} {qs : List (Int × Int)} {f : Int → Nat} {mv : Value} (c : Cx F0 h0 h L) (hi : L[i]? = some (rMp .i64 mI mv qs)) (H : Sum38 qs f) (v : Int) {k : Value → Prop} (hk : k (.int .i64 (f v))) :
    Vb (lkm (.int .i64) (Value.int .i64 0) false mv (.int .i64 v) h) k := by
  rw [(c.mp hi).look, vb_some]
  have e : ((lookA qs v).map mI).getD (Value.int .i64 0) = mI ((lookA qs v).getD 0) := by cases lookA qs v <;> rfl
  rw [e, H.val]; exact hk
theorem cntV_snoc {l : List Im} {i : Nat} {it : Im} (h : l[i]? = some it) (v : Int) : cntV (l.take (i + 1)) v = cntV (l.take i) v + if it.V = v then 1 else 0 := by
  unfold cntV
  rw [List.take_add_one, h, List.countP_append]
  congr 1
  show List.countP _ [it] = _
  rw [List.countP_singleton]
  simp
theorem cntV_cons {t : List Im} {it : Im} (v : Int) : cntV (it :: t) v = cntV t v + if it.V = v then 1 else 0 := by
  unfold cntV
  rw [List.countP_cons]
  simp
theorem cntV_rPut {l : List Im} {it : Im} (v : Int) : cntV (rPut l it) v = cntV l v + if it.V = v then 1 else 0 := by
  have e := congrArg (List.countP fun it : Im => it.V == v) (List.takeWhile_append_dropWhile (p := fun y => itLt y it) (l := l))
  rw [List.countP_append] at e
  unfold cntV rPut
  rw [List.countP_append, List.countP_cons, ← e, Nat.add_assoc]
  simp
theorem run_vs {n : Int} : ∀ {cl : List C38} {l : List Im} {hs : List Int} {l' : List Im} {hs' : List Int}, Run38 n cl l hs l' hs' → ∀ it ∈ l', (∃ c ∈ cl, it.V = c.V) ∨ ∃ a ∈ l, a.V = it.V
  | [], l, hs, l', hs', ⟨e, _⟩, it, hit => .inr ⟨it, e ▸ hit, rfl⟩
  | c :: cl, l, hs, l', hs', ⟨l1, hs1, h1, h2⟩, it, hit => by
    rcases run_vs h2 it hit with ⟨c2, hc2, e⟩ | ⟨a, ha, e⟩
    · exact .inl ⟨c2, List.mem_cons_of_mem _ hc2, e⟩
    · rcases h1.vs a ha with e2 | ⟨b, hb, e2⟩
      · exact .inl ⟨c, List.mem_cons_self .., e.symm.trans e2⟩
      · exact .inr ⟨b, hb, e2.trans e⟩
structure CsVS (S : Sys) (I : Ids) : Prop extends CsV8 S I where
  odd : ∀ {v : Value} {cl : List C38} {h R}, Sl EC8 h v cl → cl.length ≤ 50 → (∀ h' b, Gr h h' → (b = true ↔ ∃ y ∈ cl, 1099511627776 ≤ y.V) → R (.bool b) h') → S.C I.f_simulcastlaw38_odd [v] h R
  usor1 : ∀ {s a b : Value} {h K}, F_simulcastlaw38_HeapSorts_1 S I s a b h K → S.C I.f_simulcastlaw38_HeapSorts_1 [s, a, b] h K
  usor2 : ∀ {s a b c d : Value} {h K}, F_simulcastlaw38_HeapSorts_2 S I s a b c d h K → S.C I.f_simulcastlaw38_HeapSorts_2 [s, a, b, c, d] h K
  usor3 : ∀ {s a b c d : Value} {h K}, F_simulcastlaw38_HeapSorts_3 S I s a b c d h K → S.C I.f_simulcastlaw38_HeapSorts_3 [s, a, b, c, d] h K
theorem K_odd {v : Value} {cl : List C38} (H : Sl EC8 h v cl) (hl : cl.length ≤ 50) (hR : ∀ h' b, Gr h h' → (b = true ↔ ∃ y ∈ cl, 1099511627776 ≤ y.V) → R (.bool b) h') : F_simulcastlaw38_odd S I v h R := by
  unfold F_simulcastlaw38_odd
  rw [H.ln, vb_some]
  refine Lp1.by (fun (i : Nat) u h' => u = .int .i64 i ∧ i ≤ cl.length ∧ (∀ j, j < i → ∀ y, cl[j]? = some y → y.V < 1099511627776) ∧ Cx (fun _ => False) h h' []) (fun i => cl.length - i) 0 ⟨rfl, Nat.zero_le _, fun j hj => by omega, Cx.start0 h⟩ ?_
  rintro i u h1 ⟨rfl, hi, hlo, c⟩ again hagain
  rw [bin_lss, vb_some]
  refine brd (fun e => ?_) fun e => ?_
  · have hx : cl[i]? = some (cl[i]'(by omega)) := List.getElem?_eq_getElem (by omega)
    generalize cl[i]'(by omega) = y at hx
    refine (H.gr c.gr).whole rfl hx rfl ?_
    refine c.nw EC8 ⟨0, 0, 0, 0⟩ rfl fun r h2 c => ?_
    refine c.sto 0 rfl y rfl rfl fun h3 c => ?_
    refine (c.va (i := 0) rfl).fld (j := 3) rfl ?_
    rw [bin_geq, vb_some]
    refine brd (fun e2 => ?_) fun e2 => ?_
    · exact hR _ _ c.gr ⟨fun _ => ⟨y, List.mem_of_getElem? hx, e2⟩, fun _ => rfl⟩
    · rw [bin_add, vb_some, wrS (by omega)]
      refine hagain (i + 1) _ _ ⟨rfl, by omega, fun j hj z hz => ?_, c.pick []⟩ (by omega)
      by_cases e3 : j = i
      · subst e3; rw [hx] at hz; injection hz with hz; subst hz; omega
      · exact hlo j (by omega) z hz
  · refine hR _ _ c.gr ⟨(fun h => by cases h), fun ⟨y, hy, h2⟩ => ?_⟩
    obtain ⟨j, hj⟩ := List.getElem?_of_mem hy
    have := (List.getElem?_eq_some_iff.1 hj).1
    have := hlo j (by omega) y hj
    omega
section
variable {x : X38} {n : Int} {ps : List (Int × W3)} {m : Int → Int} {V : Int} {l : List Im} {hs : List Int} {g : G38} {wv : Value} {rx rg rm rv re : Nat} {X Y : Res} {K : Value → Hp → Prop} {f : Nat → Int} {v : Int}
theorem K_sorts1 (cs : CsV8 S I) (H : S38 n x ps m V l hs g)
    (c : Cx F h0 h [rMp .i64 mW wv ps, rSpace s (newS ps), rVar ESt rx x, rVar ESh rg (none, 0, 0), X])
    (hk : ∀ σ' u h2, Rd38 ps m σ' → Cx F h0 h2 [rMp .i64 mW wv ps, rSpace s σ', rVar ESt rx x, rVar ESh rg u, X, rSl EPt (shV u) (l.map fun it => (it.P, it.V))] → K (.tuple #[]) h2) :
    F_simulcastlaw38_HeapSorts_1 S I s (at0 rx) (at0 rg) h K := by
  have hn := H.nn
  have hr : R38 (16 : Int) := .inl rfl
  have X0' := H.T.H
  unfold F_simulcastlaw38_HeapSorts_1
  refine c.getH (i := 2) rfl ?_
  rw [H.p, H.r]
  obtain ⟨F1, c1, up⟩ := c.frame (i := 1) rfl
  refine cs.hwalk (p := p38 n) (J := Rd38 ps m) (Qo := fun o => o = some (allA g.A l.length)) hr.l (Rd38.jm hn) c1 (walk_38 H.W.rd38 hn hr X0') fun o C σ1 v h1 M R1 eo _ hC c1 => ?_
  subst eo
  obtain ⟨hCp, hCs⟩ := hC _ rfl
  have hsame := X0'.same hCp hCs
  have hpairs : C.map (fun x => (m (x + 0), m (x + 1))) = l.map fun it => (it.P, it.V) := by
    rw [← hsame, List.map_map]; rfl
  rw [hpairs] at c1
  clear hCp hCs hC hsame hpairs
  have c := up c1
  clear c1 up
  have c : Cx F h0 h1 [rMp .i64 mW wv ps, rSpace s σ1, rVar ESt rx x, rVar ESh rg (none, 0, 0), X, rSl EPt v (l.map fun it => (it.P, it.V))] := c.pick [0, 1, 2, 3, 4, 5]
  refine ext0t (ext1t ?_)
  obtain ⟨u, rfl⟩ := (c.sl (i := 5) rfl).isH
  refine c.sto1 3 rfl u rfl rfl fun h2 c => ?_
  exact hk σ1 u h2 R1 c
theorem K_sorts2 (cs : CsV8 S I) (hx : x.p = p38 n) (hrt : x.root = 16) (hn : 0 ≤ n ∧ n ≤ 40) (W : WoR 384 ps m V) (T : T38 n m l hs g) (hh : hs.length ≤ 1000) (hf : -128 ≤ f 0 ∧ f 0 ≤ 127) (hv : R64 v)
    (c : Cx F h0 h [rMp .i64 mW wv ps, rSpace s (newS ps), rVar ESt rx x, X, rVar (EAr .i8 2) rm f, rVar EI1 rv v, rVar EI1 re 0])
    (hk : ∀ e σ' h2, Good 384 ps σ' → (e = 0 ∧ (∃ hs' g', T38 n σ'.vw (rPut l ⟨f 0, v, hs.length, hs.length⟩) hs' g' ∧ hs'.length = hs.length + 1) ∨ e = 9 ∧ σ'.vw = m) → Cx F h0 h2 [rMp .i64 mW wv ps, rSpace s σ', rVar ESt rx x, X, rVar (EAr .i8 2) rm f, rVar EI1 rv v, rVar EI1 re e] → K (.tuple #[]) h2) :
    F_simulcastlaw38_HeapSorts_2 S I s (at0 rx) (at0 rm) (at0 rv) (at0 re) h K := by
  have hr : R38 (16 : Int) := .inl rfl
  unfold F_simulcastlaw38_HeapSorts_2
  refine c.getH (i := 2) rfl ?_
  rw [hx, hrt]
  refine (c.va (i := 4) rfl).ix (i := 0) rfl (by decide) ?_
  rw [cvi_int, vb_some, wr64 ⟨by omega, by omega⟩, (c.va (i := 5) rfl).one rfl, vb_some]
  refine c.last (cs.hpush hr.l) 1 rfl (push_38 W.rd38 W hn hr T.H ⟨by omega, by omega⟩ hv (by omega)) fun t σ' h2 c ⟨hg, hq⟩ => ?_
  unfold uE
  refine ext0t (ext1t ?_)
  rcases hq with ⟨y, rw', A', fr', out', rfl, _, H', D'⟩ | ⟨rfl, _, hvw⟩
  · refine c.sto1 6 rfl 0 rfl rfl fun h3 c => ?_
    exact hk 0 σ' h3 hg (.inl ⟨rfl, hs ++ [y], _, (T.push H' D').1, by rw [List.length_append]; rfl⟩) c
  · refine c.sto1 6 rfl 9 rfl rfl fun h3 c => ?_
    exact hk 9 σ' h3 hg (.inr ⟨rfl, hvw⟩) c
theorem K_sorts3 (cs : CsV8 S I) (hx : x.p = p38 n) (hrt : x.root = 16) (hn : 0 ≤ n ∧ n ≤ 40) (W : WoR 384 ps m V) {it : Im} {t : List Im} (T : T38 n m (it :: t) hs g)
    (c : Cx F h0 h [rMp .i64 mW wv ps, rSpace s (newS ps), rVar ESt rx x, X, Y, rVar EI1 rm 0, rVar EI1 rv 0, rVar EI1 re 0])
    (hk : ∀ g' σ' h2, Good 384 ps σ' → T38 n σ'.vw t hs g' → Cx F h0 h2 [rMp .i64 mW wv ps, rSpace s σ', rVar ESt rx x, X, Y, rVar EI1 rm it.P, rVar EI1 rv it.V, rVar EI1 re 0] → K (.tuple #[]) h2) :
    F_simulcastlaw38_HeapSorts_3 S I s (at0 rx) (at0 rm) (at0 rv) (at0 re) h K := by
  have hr : R38 (16 : Int) := .inl rfl
  unfold F_simulcastlaw38_HeapSorts_3
  refine c.getH (i := 2) rfl ?_
  rw [hx, hrt]
  refine c.last (cs.hpop hr.l) 1 rfl (pop_38 W.rd38 W hn hr T.H) fun e σ' h1 c ⟨hg, hq⟩ => ?_
  unfold uR3
  refine ext3 ?_
  rcases hq with ⟨it2, t2, A', fr', e1, rfl, H', D'⟩ | ⟨e1, _⟩
  · injection e1 with e2 e3
    subst e2; subst e3
    refine c.sto1 5 rfl it.P rfl rfl fun h2 c => ?_
    refine c.sto1 6 rfl it.V rfl rfl fun h3 c => ?_
    refine c.sto1 7 rfl 0 rfl rfl fun h4 c => ?_
    exact hk _ σ' h4 hg (T.rem H' (by rw [List.length_cons]; omega) D') c
  · cases e1
end
/-- how far the law is -/
structure Z38 where
  i : Nat
  k : Option Nat
  ps : List (Int × W3)
  m : Int → Int
  V : Int
  l : List Im
  hs : List Int
  g : G38
  qs : List (Int × Int)
  pv : Im
structure J38 (n : Int) (od : Prop) (lim : Int) (z : Z38) : Prop where
  W : WoR 384 z.ps z.m z.V
  T : T38 n z.m z.l z.hs z.g
  S : Sum38 z.qs (cntV z.l)
  M : ¬ od → ∀ a ∈ z.l, a.V < lim ∧ (1099511627776 ≤ a.V → ∀ b ∈ z.l, 1099511627776 ≤ b.V → a.O < b.O → a.V < b.V)
theorem T38.ord {n : Int} {m : Int → Int} {l : List Im} {hs : List Int} {g : G38} (T : T38 n m l hs g) : ∀ a ∈ l, 0 ≤ a.O ∧ a.O < hs.length := fun a ha => by
  obtain ⟨y, hy, e⟩ := (T.H.mem a).1 ha
  obtain ⟨h0, h1⟩ := T.H.hnd y hy
  have := (List.getElem?_eq_some_iff.1 h1).1
  subst e
  show 0 ≤ m (y + 2) ∧ m (y + 2) < hs.length
  omega
theorem bldK0 : bldA 1 #[Value.int IntKind.i64 0, Value.int IntKind.i64 0] [] = some (mK (0, 0)) := by kernel_rfl
theorem h_i8 {z : Int} (h : (Lit.int .i8 z).wf = true) : -128 ≤ z ∧ z ≤ 127 := by
  have h1 : IntKind.i8.min = -128 := rfl
  have h2 : IntKind.i8.max = 127 := rfl
  simp only [Lit.wf, Bool.and_eq_true, decide_eq_true_eq] at h
  exact ⟨by omega, by omega⟩
set_option maxHeartbeats 3200000 in
theorem L_HeapSorts {b1 b2 : Value} {cl : List C38} {ms : List (Nat → Int)} {n : Int} (cs : CsVS S I) (hn : 0 ≤ n ∧ n ≤ 255) (s1 : Sl EC8 h b1 cl) (w1 : ∀ y ∈ cl, y.ok) (s2 : Sl (EAr .i8 2) h b2 ms) (w2 : ∀ f ∈ ms, ∀ i, i < 2 → (Lit.int .i8 (f i)).wf = true) (hR : ∀ h', Gr h h' → R (.bool true) h') : F_simulcastlaw38_HeapSorts S I (.int .u8 n) b1 b2 h R := by
  unfold F_simulcastlaw38_HeapSorts
  refine Jn1.at (fun v h' => v = .bool (decide (cl.length > 50 ∨ ms.length > 20)) ∧ h' = h) ?_ ?_
  · refine cs.great s1 ?_
    refine brd (fun e => ?_) fun e => ?_
    · exact ⟨by rw [decide_eq_true (.inl (by omega))], rfl⟩
    · rw [s2.ln, vb_some, bin_gtr, vb_some]
      refine ⟨?_, rfl⟩
      congr 1
      exact decide_eq_decide.2 ⟨fun h => .inr (by omega), fun h => by omega⟩
  rintro v h ⟨rfl, rfl⟩
  refine brd (fun _ => cs.awake hR) fun hlen => ?_
  refine cs.played hn s1 w1 (by omega) fun x ps m l hs g h1 H hhs hrun c => ?_
  have hp := H.p
  have hrt := H.r
  have hn' := H.nn
  generalize n % 41 = n' at *
  refine ext0t (ext1t ?_)
  refine c.nw ESt X0 rfl fun r7 h2 c => ?_
  refine c.sto 3 rfl x rfl rfl fun h3 c => ?_
  rw [uno_nb, vb_some, Bool.not_true, br_false]
  refine c.mmk .i64 mI fun sk h4 c => ?_
  refine c.nw ESh (none, 0, 0) rfl fun r10 h5 c => ?_
  refine (c.va (i := 3) rfl).fld (j := 0) rfl ?_
  rw [vb_some]
  have c : Cx (fun _ => False) h h5 [rMp .i64 mW (.map x.k) ps, rVar ESt r7 x, rVar ESh r10 (none, 0, 0), rMp .i64 mI (.map (some sk)) []] := c.pick [0, 3, 5, 4]
  refine cs.done (G := fun L' σ' => ∃ u, Rd38 ps m σ' ∧ L' = [rVar ESt r7 x, rVar ESh r10 u, rMp .i64 mI (.map (some sk)) [], rSl EPt (shV u) (l.map fun it => (it.P, it.V))]) (by decide) H.W (by omega) (fun L' σ' ⟨_, hr, _⟩ => hr.good H.W) c (fun s h1 K c k => ?_) fun L' σ' ps' nv ev h6 ⟨u, hr, eL⟩ W' c => ?_
  · exact .inl ⟨_, _, _, rfl, cs.usor1 (K_sorts1 cs.toCsV8 H c fun σ' u h2 hr c => k _ _ h2 ⟨u, hr, rfl⟩ c)⟩
  subst eL
  rw [(c.va (i := 4) rfl).one rfl, vb_some, (c.sl (i := 6) rfl).sl.ln, vb_some, List.length_map]
  have c : Cx (fun _ => False) h h6 [rMp .i64 mW (.map x.k) ps, rVar ESt r7 x, rSl EPt (shV u) (l.map fun it => (it.P, it.V)), rMp .i64 mI (.map (some sk)) []] := c.pick [0, 3, 6, 5]
  clear W' hr
  have k32 := H.T.H.P.k32
  refine Lp1.by (fun (z : Nat × List (Int × Int)) u' h' => u' = .int .i64 z.1 ∧ z.1 ≤ l.length ∧ Sum38 z.2 (cntV (l.take z.1)) ∧ Cx (fun _ => False) h h' [rMp .i64 mW (.map x.k) ps, rVar ESt r7 x, rSl EPt (shV u) (l.map fun it => (it.P, it.V)), rMp .i64 mI (.map (some sk)) z.2]) (fun z => l.length - z.1) (0, []) ⟨rfl, Nat.zero_le _, ⟨List.nodup_nil, fun v => rfl⟩, c⟩ ?_
  clear c
  rintro ⟨i, qs⟩ u' h7 ⟨rfl, hi, hS, c⟩ again hagain
  dsimp only at *
  rw [bin_lss, vb_some]
  refine brd (fun e => ?_) fun e => ?_
  · have hx : l[i]? = some (l[i]'(by omega)) := List.getElem?_eq_getElem (by omega)
    generalize l[i]'(by omega) = it at hx
    have hcn := cntV_snoc hx
    refine (c.sl (i := 2) rfl).sl.whole rfl (i := i) (x := (it.P, it.V)) (by rw [List.getElem?_map, hx]; rfl) rfl ?_
    refine c.nw EPt (0, 0) rfl fun r12 h8 c => ?_
    refine c.sto 4 rfl (it.P, it.V) rfl rfl fun h9 c => ?_
    refine En.vb (ixa_at (i := 1) rfl (by decide) 0) (En.vb ((c.va (i := 4) rfl).row.ldc (j := 1) rfl) ?_)
    refine c.sum (i := 3) rfl hS it.V ?_
    have hle : cntV (l.take i) it.V ≤ 32 := Nat.le_trans (List.countP_le_length ..) (by rw [List.length_take]; omega)
    rw [addI ⟨by omega, by omega⟩, vb_some]
    refine c.mup 3 rfl it.V ((cntV (l.take i) it.V : Int) + 1) rfl fun h10 c => ?_
    rw [bin_add, vb_some, wrS (by omega)]
    refine hagain (i + 1, _) _ _ ⟨rfl, by dsimp only; omega, hS.set it.V _ (by rw [hcn, if_pos rfl]; omega) fun a ha => by rw [hcn, if_neg fun e => ha e.symm]; omega, c.pick [0, 1, 2, 3]⟩ (by dsimp only; omega)
  have ei : i = l.length := by omega
  subst ei
  rw [List.take_length] at hS
  clear hagain again
  have c : Cx (fun _ => False) h h7 [rMp .i64 mW (.map x.k) ps, rVar ESt r7 x, rMp .i64 mI (.map (some sk)) qs] := c.pick [0, 1, 3]
  refine (c.va (i := 1) rfl).fld (j := 0) rfl ?_
  rw [(s2.gr c.gr).ln, vb_some]
  obtain ⟨od, hod⟩ : ∃ od : Prop, od ↔ ∃ y ∈ cl, 1099511627776 ≤ y.V := ⟨_, Iff.rfl⟩
  have hM0 : ¬ od → ∀ a ∈ l, a.V < 1099511627776 := fun ho a ha => by
    rcases run_vs hrun a ha with ⟨c2, hc2, e2⟩ | ⟨b, hb, _⟩
    · refine Int.not_le.1 fun h2 => ho (hod.2 ⟨c2, hc2, ?_⟩)
      rw [← e2]; exact h2
    · cases hb
  refine Lp2.by (fun (z : Z38) w v h' => w = .map z.k ∧ v = .int .i64 z.i ∧ z.i ≤ ms.length ∧ z.V ≤ 50 + z.i ∧ z.hs.length ≤ 50 + z.i ∧ J38 n' od (1099511627776 + z.i) z ∧ Cx (fun _ => False) h h' [rMp .i64 mW (.map z.k) z.ps, rVar ESt r7 x, rMp .i64 mI (.map (some sk)) z.qs]) (fun z => ms.length - z.i) ⟨0, x.k, ps, m, cl.length, l, hs, g, qs, ⟨0, 0, 0, 0⟩⟩
    ⟨rfl, rfl, Nat.zero_le _, by dsimp only; omega, by dsimp only; omega, ⟨H.W, H.T, hS, fun ho a ha => ⟨by dsimp only; have := hM0 ho a ha; omega, fun h2 => by have := hM0 ho a ha; omega⟩⟩, c⟩ ?_
  clear c H hS hrun hM0 hhs k32
  rintro ⟨i, k, ps, m, V, l, hs, g, qs, pv⟩ w v h8 ⟨rfl, rfl, hi, hV, hhs, ⟨jW, jT, jS, jM⟩, c⟩ again hagain
  dsimp only at *
  have k32 := jT.H.P.k32
  rw [bin_lss, vb_some]
  refine brd (fun e => ?_) fun e => ?_
  · have hx : ms[i]? = some (ms[i]'(by omega)) := List.getElem?_eq_getElem (by omega)
    have hf := w2 _ (List.mem_of_getElem? hx)
    generalize ms[i]'(by omega) = f at hx hf
    have hf0 := h_i8 (hf 0 (by decide))
    clear hf
    refine .here ?_
    refine (s2.gr c.gr).whole rfl hx rfl ?_
    refine c.nw (EAr .i8 2) (fun _ => 0) rfl fun r15 h9 c => ?_
    refine c.sto 3 rfl f rfl rfl fun h10 c => ?_
    rw [addI ⟨by omega, by omega⟩, vb_some]
    obtain ⟨v, hv⟩ : ∃ v : Int, v = 1099511627776 + (i : Int) := ⟨_, rfl⟩
    rw [← hv]
    refine c.nw EI1 0 rfl fun r16 h11 c => ?_
    refine c.sto1 4 rfl v rfl rfl fun h12 c => ?_
    refine c.nw EI1 0 rfl fun r17 h13 c => ?_
    rw [vb_some]
    refine cs.done (G := fun L' σ' => ∃ e, Good 384 ps σ' ∧ (e = 0 ∧ (∃ hs' g', T38 n' σ'.vw (rPut l ⟨f 0, v, hs.length, hs.length⟩) hs' g' ∧ hs'.length = hs.length + 1) ∨ e = 9 ∧ σ'.vw = m) ∧ L' = [rVar ESt r7 x, rMp .i64 mI (.map (some sk)) qs, rVar (EAr .i8 2) r15 f, rVar EI1 r16 v, rVar EI1 r17 e]) (by decide) jW (by omega) (fun L' σ' ⟨_, hg, _⟩ => hg) c (fun s h1 K c k => ?_) fun L' σ' ps' nv ev h14 ⟨e', hg, hq, eL⟩ W' c => ?_
    · exact .inl ⟨_, _, _, rfl, cs.usor2 (K_sorts2 cs.toCsV8 hp hrt hn' jW jT (by omega) hf0 ⟨by omega, by omega⟩ c fun e' σ' h2 hg hq c => k _ _ h2 ⟨e', hg, hq, rfl⟩ c)⟩
    subst eL
    obtain ⟨k2, rfl⟩ : ∃ k2, nv = .map k2 := by
      obtain ⟨r, es, clock, e, _⟩ := c.mp (i := 1) rfl
      exact ⟨_, e⟩
    refine ext3 ?_
    refine .here ?_
    rw [uno_nb, vb_some, Bool.not_true, br_false, (c.va (i := 7) rfl).one rfl, vb_some]
    rcases hq with ⟨rfl, hs', g', T', hl'⟩ | ⟨rfl, hvw⟩
    · rw [neI, vb_some, br_false]
      show Br _ _ _
      rw [br_false, (c.va (i := 7) rfl).one rfl, vb_some, eqI, vb_some, br_true, (c.va (i := 6) rfl).one rfl, vb_some]
      refine c.sum (i := 4) rfl jS v ?_
      have hle : cntV l v ≤ 32 := Nat.le_trans (List.countP_le_length ..) (by omega)
      rw [addI ⟨by omega, by omega⟩, vb_some]
      refine c.mup 4 rfl v ((cntV l v : Int) + 1) rfl fun h15 c => ?_
      show Vb _ _
      rw [bin_add, vb_some, wrS (by omega)]
      have hord := jT.ord
      refine hagain ⟨i + 1, k2, ps', σ'.vw, V + 1, rPut l ⟨f 0, v, hs.length, hs.length⟩, hs', g', _, pv⟩ _ _ _ ⟨rfl, rfl, by dsimp only; omega, by dsimp only; omega, by dsimp only; omega, ⟨W', T', ?_, ?_⟩, c.pick [1, 3, 4]⟩ (by dsimp only; omega)
      · exact jS.set v _ (by rw [cntV_rPut, if_pos rfl]; omega) fun a ha => by rw [cntV_rPut, if_neg fun e => ha e.symm]; omega
      · dsimp only
        intro ho a ha
        have old : ∀ b ∈ l, b.V < 1099511627776 + i := fun b hb => (jM ho b hb).1
        rcases mem_rPut.1 ha with rfl | ha
        · refine ⟨by dsimp only; omega, fun _ b hb _ hO => ?_⟩
          dsimp only at *
          rcases mem_rPut.1 hb with rfl | hb
          · dsimp only at *; omega
          · have := hord b hb; omega
        · refine ⟨by have := old a ha; omega, fun h2 b hb h3 hO => ?_⟩
          rcases mem_rPut.1 hb with rfl | hb
          · dsimp only at *; have := old a ha; omega
          · exact (jM ho a ha).2 h2 b hb h3 hO
    · rw [show bin .neq (.int .i64 9) (.int .i64 0) = some (.bool true) by kernel_rfl, vb_some, br_true, vb_some, neI, vb_some]
      show Br _ _ _
      rw [br_false, (c.va (i := 7) rfl).one rfl, vb_some, show bin .eql (.int .i64 9) (.int .i64 0) = some (.bool false) by kernel_rfl, vb_some, br_false]
      show Vb _ _
      rw [bin_add, vb_some, wrS (by omega)]
      rw [hvw] at W'
      exact hagain ⟨i + 1, k2, ps', m, V + 1, l, hs, g, qs, pv⟩ _ _ _ ⟨rfl, rfl, by dsimp only; omega, by dsimp only; omega, by dsimp only; omega, ⟨W', jT, jS, fun ho a ha => ⟨by have := (jM ho a ha).1; dsimp only; omega, (jM ho a ha).2⟩⟩, c.pick [1, 3, 4]⟩ (by dsimp only; omega)
  rw [bldK0, vb_some]
  refine c.nw EPt (0, 0) rfl fun r21 h9 c => ?_
  refine c.sto 3 rfl (0, 0) rfl rfl fun h10 c => ?_
  clear hagain again
  obtain ⟨lim, hlim⟩ : ∃ lim : Int, lim = 1099511627776 + (i : Int) := ⟨_, rfl⟩
  rw [← hlim] at jM
  refine Lp2.by (fun (z : Z38) w v h' => w = .map z.k ∧ v = .int .i64 z.i ∧ z.i + z.l.length ≤ 32 ∧ z.V ≤ 100 + z.i ∧ J38 n' od lim z ∧ (0 < z.i → ∀ a ∈ z.l, itLt z.pv a = true ∧ (¬ od → 1099511627776 ≤ z.pv.V → 1099511627776 ≤ a.V → z.pv.O < a.O → z.pv.V < a.V)) ∧ Cx (fun _ => False) h h' [rMp .i64 mW (.map z.k) z.ps, rVar ESt r7 x, rMp .i64 mI (.map (some sk)) z.qs, rVar EPt r21 (z.pv.P, z.pv.V)]) (fun z => z.l.length) ⟨0, k, ps, m, V, l, hs, g, qs, ⟨0, 0, 0, 0⟩⟩
    ⟨rfl, rfl, by dsimp only; omega, by dsimp only; omega, ⟨jW, jT, jS, jM⟩, fun h => by dsimp only at h; omega, c⟩ ?_
  clear c jW jT jS jM hV hhs k32
  rintro ⟨i, k, ps, m, V, l, hs, g, qs, pv⟩ w v h11 ⟨rfl, rfl, hi, hV, ⟨jW, jT, jS, jM⟩, hpv, c⟩ again hagain
  dsimp only at *
  have z16 : m 16 = (l.length : Int) := jT.H.P.sz
  refine c.wrd (i := 0) rfl jW (a := 16) ⟨by decide, by decide⟩ ?_
  rw [z16, bin_gtr, vb_some]
  refine brd (fun e => ?_) fun e => ?_
  · obtain ⟨it, t, rfl⟩ : ∃ it t, l = it :: t := by
      cases l with
      | nil => simp at e
      | cons it t => exact ⟨it, t, rfl⟩
    rw [List.length_cons] at hi
    have hmem : it ∈ it :: t := List.mem_cons_self ..
    obtain ⟨hasc, _⟩ := List.pairwise_cons.1 jT.H.srt
    refine c.nw EI1 0 rfl fun r23 h12 c => ?_
    refine c.nw EI1 0 rfl fun r24 h13 c => ?_
    refine c.nw EI1 0 rfl fun r25 h14 c => ?_
    rw [vb_some]
    refine cs.done (G := fun L' σ' => ∃ g', Good 384 ps σ' ∧ T38 n' σ'.vw t hs g' ∧ L' = [rVar ESt r7 x, rMp .i64 mI (.map (some sk)) qs, rVar EPt r21 (pv.P, pv.V), rVar EI1 r23 it.P, rVar EI1 r24 it.V, rVar EI1 r25 0]) (by decide) jW (by omega) (fun L' σ' ⟨_, hg, _⟩ => hg) c (fun s h1 K c k => ?_) fun L' σ' ps' nv ev h15 ⟨g', hg, T', eL⟩ W' c => ?_
    · exact .inl ⟨_, _, _, rfl, cs.usor3 (K_sorts3 cs.toCsV8 hp hrt hn' jW jT c fun g' σ' h2 hg T' c => k _ _ h2 ⟨g', hg, T', rfl⟩ c)⟩
    subst eL
    obtain ⟨k2, rfl⟩ : ∃ k2, nv = .map k2 := by
      obtain ⟨r, es, clock, e, _⟩ := c.mp (i := 1) rfl
      exact ⟨_, e⟩
    have c := c.pick [1, 3, 4, 5, 6, 7, 8]
    have c : Cx (fun _ => False) h h15 [rMp .i64 mW (.map k2) ps', rVar ESt r7 x, rMp .i64 mI (.map (some sk)) qs, rVar EPt r21 (pv.P, pv.V), rVar EI1 r23 it.P, rVar EI1 r24 it.V, rVar EI1 r25 0] := c
    refine ext3 ?_
    have hc1 : cntV (it :: t) it.V = cntV t it.V + 1 := by rw [cntV_cons, if_pos rfl]
    have hle : cntV (it :: t) it.V ≤ 32 := Nat.le_trans (List.countP_le_length ..) (by rw [List.length_cons]; omega)
    refine Jn1.at (fun v h' => v = .bool false ∧ h' = h15) ?_ ?_
    · rw [uno_nb, vb_some, Bool.not_true, br_false, (c.va (i := 6) rfl).one rfl, vb_some, neI, vb_some, br_false, bin_gtr, vb_some]
      refine brd (fun h => by omega) fun _ => ?_
      rw [(c.va (i := 5) rfl).one rfl, vb_some]
      refine c.sum (i := 2) rfl jS it.V ?_
      rw [bin_eql, vb_some]
      exact ⟨by rw [decide_eq_false]; omega, rfl⟩
    rintro v h16 ⟨rfl, rfl⟩
    rw [br_false]
    have lo0 : ∀ {h16 : Hp} {k' : Value → Prop}, Cx (fun _ => False) h h16 [rMp .i64 mW (.map k2) ps', rVar ESt r7 x, rMp .i64 mI (.map (some sk)) qs, rVar EPt r21 (pv.P, pv.V), rVar EI1 r23 it.P, rVar EI1 r24 it.V, rVar EI1 r25 0] → k' (.int .i64 pv.P) → Vb (ixa 2 1 (at0 r21) (.int .i64 0)) fun v => Vb (ldc v h16) k' := fun c hk => En.vb (ixa_at (i := 0) rfl (by decide) 0) (En.vb ((c.va (i := 3) rfl).row.ldc (j := 0) rfl) hk)
    have lo1 : ∀ {h16 : Hp} {k' : Value → Prop}, Cx (fun _ => False) h h16 [rMp .i64 mW (.map k2) ps', rVar ESt r7 x, rMp .i64 mI (.map (some sk)) qs, rVar EPt r21 (pv.P, pv.V), rVar EI1 r23 it.P, rVar EI1 r24 it.V, rVar EI1 r25 0] → k' (.int .i64 pv.V) → Vb (ixa 2 1 (at0 r21) (.int .i64 1)) fun v => Vb (ldc v h16) k' := fun c hk => En.vb (ixa_at (i := 1) rfl (by decide) 0) (En.vb ((c.va (i := 3) rfl).row.ldc (j := 1) rfl) hk)
    have hkl : 0 < i → pv.P < it.P ∨ pv.P = it.P ∧ pv.O < it.O := fun hi0 => by
      have h1 := (hpv hi0 it hmem).1
      unfold itLt at h1
      rw [klt_iff] at h1
      exact h1
    refine Jn1.at (fun v h' => v = .bool false ∧ Cx (fun _ => False) h h' [rMp .i64 mW (.map k2) ps', rVar ESt r7 x, rMp .i64 mI (.map (some sk)) qs, rVar EPt r21 (pv.P, pv.V), rVar EI1 r23 it.P, rVar EI1 r24 it.V, rVar EI1 r25 0]) ?_ ?_
    · rw [bin_gtr, vb_some]
      refine brd (fun hi0 => ?_) fun _ => ⟨rfl, c⟩
      have hkl := hkl (by omega)
      rw [(c.va (i := 4) rfl).one rfl, vb_some]
      refine lo0 c ?_
      rw [bin_lss, vb_some]
      refine brd (fun h => by omega) fun _ => ?_
      rw [vb_some]
      refine lo0 c ?_
      rw [bin_eql, vb_some]
      refine brd (fun e1 => ?_) fun _ => ⟨rfl, c⟩
      rw [(c.va (i := 5) rfl).one rfl, vb_some, bin_geq, vb_some]
      refine brd (fun e2 => ?_) fun _ => ⟨rfl, c⟩
      refine lo1 c ?_
      rw [bin_geq, vb_some]
      refine brd (fun e3 => ?_) fun _ => ⟨rfl, c⟩
      rw [vb_some]
      refine lo1 c ?_
      rw [bin_lss, vb_some]
      refine brd (fun e4 => ?_) fun _ => ⟨rfl, c⟩
      refine cs.odd (s1.gr c.gr) (by omega) fun h17 b g hb => ?_
      have hodd : od := Classical.byContradiction fun ho => by
        have := (hpv (by omega) it hmem).2 ho (by omega) (by omega) (by omega)
        omega
      have hb : b = true := hb.2 (hod.1 hodd)
      subst hb
      rw [uno_nb, vb_some]
      exact ⟨rfl, c.more g⟩
    clear c
    rintro v h17 ⟨rfl, c⟩
    rw [br_false]
    refine Jn1.at (fun v h' => v = .bool false ∧ h' = h17) ?_ ?_
    · rw [bin_gtr, vb_some]
      refine brd (fun hi0 => ?_) fun _ => ⟨rfl, rfl⟩
      have hkl := hkl (by omega)
      rw [(c.va (i := 4) rfl).one rfl, vb_some]
      refine lo0 c ?_
      rw [bin_lss, vb_some]
      exact ⟨by rw [decide_eq_false]; omega, rfl⟩
    rintro v h18 ⟨rfl, rfl⟩
    rw [br_false, (c.va (i := 5) rfl).one rfl, vb_some]
    refine c.sum (i := 2) rfl jS it.V ?_
    rw [bin_sub, vb_some, wr64 ⟨by omega, by omega⟩]
    refine c.mup 2 rfl it.V ((cntV (it :: t) it.V : Int) - 1) rfl fun h19 c => ?_
    rw [(c.va (i := 4) rfl).one rfl, vb_some, (c.va (i := 5) rfl).one rfl, vb_some, bldK, vb_some]
    refine c.sto 3 rfl (it.P, it.V) rfl rfl fun h20 c => ?_
    rw [bin_add, vb_some, wrS (by omega)]
    refine hagain ⟨i + 1, k2, ps', σ'.vw, V + 1, t, hs, g', _, it⟩ _ _ _ ⟨rfl, rfl, by dsimp only; omega, by dsimp only; omega, ⟨W', T', ?_, ?_⟩, fun _ a ha => ⟨hasc a ha, fun ho h1 h2 hO => (jM ho it hmem).2 h1 a (List.mem_cons_of_mem _ ha) h2 hO⟩, c.pick [0, 1, 2, 3]⟩ (by dsimp only; rw [List.length_cons]; omega)
    · refine jS.set it.V _ (by rw [hc1]; dsimp only; omega) fun a ha => ?_
      have h1 := cntV_cons (t := t) (it := it) a
      rw [if_neg fun e => ha e.symm] at h1
      exact h1.symm
    · exact fun ho a ha => ⟨(jM ho a (List.mem_cons_of_mem _ ha)).1, fun h1 b hb h2 hO => (jM ho a (List.mem_cons_of_mem _ ha)).2 h1 b (List.mem_cons_of_mem _ hb) h2 hO⟩
  have hl0 : l = [] := List.eq_nil_of_length_eq_zero (by omega)
  subst hl0
  clear hagain again hpv
  have z23 : m 23 = 0 := jT.H.P.hl
  refine c.range 2 rfl fun r mb h12 hm c => ?_
  have c : Cx (fun _ => False) h h12 [rMp .i64 mW (.map k) ps, rVar ESt r7 x, rIt .i64 mI r mb qs [], rVar EPt r21 (pv.P, pv.V)] := c
  refine Lp0.by (fun (D : List Nat) h' => Cx (fun _ => False) h h' [rMp .i64 mW (.map k) ps, rVar ESt r7 x, rIt .i64 mI r mb qs D, rVar EPt r21 (pv.P, pv.V)]) (fun D => qs.length - D.length) [] c ?_
  clear c
  intro D h13 c again hagain
  refine c.next 2 rfl (fun _ c => ?_) fun j p h14 hpj hjD c he => ?_
  · rw [show ext 0 (.tuple #[.bool false]) = some (.bool false) from rfl, vb_some, br_false]
    refine .here ?_
    refine c.wrd (i := 0) rfl jW (a := 23) ⟨by decide, by decide⟩ ?_
    rw [z23, eqI, vb_some, br_true]
    exact cs.awake fun h15 g => hR h15 (c.more g).gr
  · rw [show ext 0 (.tuple #[.bool true, .int .i64 p.1, mI p.2]) = some (.bool true) from rfl, vb_some, br_true, he, vb_some]
    refine ext1t ?_
    have hp2 : p.2 = 0 := by
      have h1 := (lookA_mem jS.nd (k := p.1) (x := p.2)).1 (List.mem_of_getElem? hpj)
      have h2 := jS.val p.1
      rw [h1] at h2
      exact h2
    rw [hp2]
    refine En.vb (v := .bool false) (neI 0) ?_
    rw [br_false]
    have hDl : (D ++ [j]).length ≤ qs.length := by
      obtain ⟨_, hit, _⟩ := c.get (i := 2) rfl
      exact hit.len
    exact hagain (D ++ [j]) _ c (by rw [List.length_append, List.length_singleton] at *; omega)
end Go.En
