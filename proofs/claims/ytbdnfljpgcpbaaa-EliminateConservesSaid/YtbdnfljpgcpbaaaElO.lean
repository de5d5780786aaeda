/-
  Layer 53: no value is lost or duplicated.
-/
import Derived.Test.YtbdnfljpgcpbaaaElN
import Derived.Test.YtbdnfljpgcpbaaaEngQ
namespace Go.En
variable {S : Sys} {I : Ids} {h : Hp} {R : Value → Hp → Prop}

/-! ### The plain law -/
def cnt (k : Int) (l : List Int) : Int := (l.count k : Nat)
theorem cnt_snoc (k v : Int) (l : List Int) : cnt k (l ++ [v]) = cnt k l + (if v = k then 1 else 0) := by
  unfold cnt
  rw [List.count_append, List.count_singleton]
  by_cases h : v = k
  · subst h; simp
  · simp [h]
def con (k : Int) (o : Op) (a : Int × Int) : Int := if o.p then (if o.v = k then 1 else 0) else if a.1 = 0 then (if a.2 = k then -1 else 0) else 0
def tot {α : Type} (g : α → Int) : List α → Int
  | [] => 0
  | x :: l => g x + tot g l
theorem tot_append {α : Type} (g : α → Int) : ∀ l l' : List α, tot g (l ++ l') = tot g l + tot g l'
  | [], _ => by simp [tot]
  | x :: l, l' => by simp only [List.cons_append, tot, tot_append g l l']; omega
theorem tot_perm {α : Type} (g : α → Int) {l l' : List α} (h : l.Perm l') : tot g l = tot g l' := by
  induction h with
  | nil => rfl
  | cons x _ ih => simp [tot, ih]
  | swap x y l => simp only [tot]; omega
  | trans _ _ h1 h2 => exact h1.trans h2
theorem tot_congr {α : Type} {g g' : α → Int} : ∀ {l : List α}, (∀ x ∈ l, g x = g' x) → tot g l = tot g' l
  | [], _ => rfl
  | x :: l, h => by simp only [tot, h x (by simp), tot_congr fun y hy => h y (List.mem_cons_of_mem _ hy)]
theorem tot_map {α β : Type} (g : β → Int) (f : α → β) : ∀ l : List α, tot g (l.map f) = tot (fun x => g (f x)) l
  | [] => rfl
  | x :: l => by simp only [List.map_cons, tot, tot_map g f l]
theorem tot_bound {α : Type} {g : α → Int} (hg : ∀ x, -1 ≤ g x ∧ g x ≤ 1) : ∀ l : List α, -(l.length : Int) ≤ tot g l ∧ tot g l ≤ l.length
  | [] => by simp [tot]
  | x :: l => by
    have := tot_bound hg l
    have := hg x
    simp only [tot, List.length_cons]; omega
theorem con_bound (k : Int) (o : Op) (a : Int × Int) : -1 ≤ con k o a ∧ con k o a ≤ 1 := by
  unfold con; split <;> (try split) <;> (try split) <;> omega
theorem con_appl (k : Int) (s : List Int) (o : Op) : cnt k s + con k o (appl s o).2 = cnt k (appl s o).1 := by
  unfold appl con
  by_cases hp : o.p = true
  · simp only [hp, if_true]; rw [cnt_snoc]
  · simp only [hp, Bool.false_eq_true, if_false]
    cases hl : s.getLast? with
    | none =>
      simp
    | some v =>
      simp only [if_true]
      have hs : s = s.take (s.length - 1) ++ [v] := by
        have hne : s ≠ [] := fun e => by subst e; simp at hl
        have h1 := List.dropLast_concat_getLast hne
        have h2 : s.getLast hne = v := by rw [List.getLast?_eq_some_getLast hne] at hl; simpa using hl
        rw [h2, List.dropLast_eq_take] at h1
        exact h1.symm
      have := cnt_snoc k v (s.take (s.length - 1))
      rw [← hs] at this
      split at this <;> rename_i hv
      · rw [if_pos hv]; omega
      · rw [if_neg hv]; omega
theorem con_all (k : Int) : ∀ (l : List Op) (s : List Int), cnt k s + tot (fun p => con k p.1 p.2) (l.zip (appAll s l).2) = cnt k (appAll s l).1
  | [], s => by simp [tot, appAll]
  | o :: l, s => by
    simp only [appAll, List.zip_cons_cons, tot]
    have h1 := con_appl k s o
    have h2 := con_all k l (appl s o).1
    omega

def aAt (a : List (Int × Int)) (i : Nat) : Int × Int := (a[i]?).getD (0, 0)
/-- what the last check counts -/
def Bal (st : List Int) (xs : List Op) (s : List Int) (a : List (Int × Int)) : Prop :=
  a.length = xs.length ∧ s.length ≤ st.length + xs.length ∧ ∀ k, cnt k st + tot (fun i => con k (opAt xs i) (aAt a i)) (List.range xs.length) - cnt k s = 0
theorem zip_at (xs : List Op) (a : List (Int × Int)) (h : a.length = xs.length) : xs.zip a = (List.range xs.length).map fun i => (opAt xs i, aAt a i) := by
  apply List.ext_getElem?
  intro i
  rw [List.getElem?_map]
  by_cases hi : i < xs.length
  · rw [List.getElem?_range hi]
    have hi2 : i < a.length := by omega
    have : (xs.zip a)[i]? = some (xs[i], a[i]) := by rw [List.getElem?_zip_eq_some]; exact ⟨idx_get hi, idx_get hi2⟩
    rw [this]
    simp [opAt, aAt, idx_get hi, idx_get hi2]
  · rw [List.getElem?_eq_none (by simp; omega), List.getElem?_eq_none (by simpa using hi)]; rfl
theorem bal_apply (st : List Int) (xs : List Op) : Bal st xs (appAll st xs).1 (appAll st xs).2 := by
  obtain ⟨n1, n2⟩ := appAll_len xs st
  refine ⟨n1, n2, fun k => ?_⟩
  have := con_all k xs st
  rw [zip_at xs _ n1, tot_map] at this
  simp only at this
  omega
theorem bal_fast (st : List Int) (xs : List Op) : Bal st xs (fast st xs).1 (fast st xs).2 := by
  obtain ⟨n1, n2⟩ := fast_len st xs
  refine ⟨n1, n2, fun k => ?_⟩
  have h1 := con_all k (ordOps xs) st
  obtain ⟨m1, m2⟩ := appAll_len (ordOps xs) st
  have f1 : (fast st xs).1 = (appAll st (ordOps xs)).1 := by rw [fast_order]
  have hz : tot (fun p => con k p.1 p.2) ((ordOps xs).zip (appAll st (ordOps xs)).2) = tot (fun i => con k (opAt xs i) (aAt (fast st xs).2 i)) (order xs) := by
    have : (ordOps xs).zip (appAll st (ordOps xs)).2 = (order xs).map fun i => (opAt xs i, aAt (fast st xs).2 i) := by
      apply List.ext_getElem?
      intro j
      rw [List.getElem?_map]
      have hol := ordOps_len xs
      have hol2 := order_len xs
      by_cases hj : j < (order xs).length
      · have hg := idx_get hj
        rw [hg]
        have hfa := fast_at xs st hg
        have h3 : (ordOps xs)[j]? = some (opAt xs (order xs)[j]) := by unfold ordOps; rw [List.getElem?_map, hg]; rfl
        have h4 : (appAll st (ordOps xs)).2[j]? = some (aAt (fast st xs).2 (order xs)[j]) := by
          unfold aAt
          rw [hfa, idx_get (by omega)]; rfl
        have h5 : ((ordOps xs).zip (appAll st (ordOps xs)).2)[j]? = some (opAt xs (order xs)[j], aAt (fast st xs).2 (order xs)[j]) := by rw [List.getElem?_zip_eq_some]; exact ⟨h3, h4⟩
        rw [h5]
        rfl
      · rw [List.getElem?_eq_none (by rw [List.length_zip]; omega), List.getElem?_eq_none (by omega)]; rfl
    rw [this, tot_map]
  rw [hz, tot_perm _ (order_perm xs)] at h1
  rw [f1]
  omega

/-! ### The walk -/
def mI (z : Int) : Value := .int .i64 z
def Cm (h : Hp) (m : Value) (F : Int → Int) : Prop := ∃ ps, Mp .i64 mI h m ps ∧ (ps.map (·.1)).Nodup ∧ ∀ k, (lookA ps k).getD 0 = F k
theorem Cm.ch {h h' : Hp} {m : Value} {F : Int → Int} {D : Nat → Prop} (H : Cm h m F) (c : Ch D h h') (hd : ∀ r, mblk m = some r → ¬ D r) : Cm h' m F := by
  obtain ⟨ps, a, b, e⟩ := H
  exact ⟨ps, a.ch c hd, b, e⟩
theorem Cm.lt {h : Hp} {m : Value} {F : Int → Int} (H : Cm h m F) {r : Nat} (hr : mblk m = some r) : r < h.size := by obtain ⟨ps, a, _⟩ := H; exact a.lt hr
theorem Cm.look {h : Hp} {m : Value} {F : Int → Int} (H : Cm h m F) (k : Int) : lkm (.int .i64) (.int .i64 0) false m (.int .i64 k) h = some (.int .i64 (F k)) := by
  obtain ⟨ps, a, _, e⟩ := H
  rw [a.look, ← e]
  cases lookA ps k <;> rfl
theorem Cm.put {h : Hp} {m : Value} {F : Int → Int} (H : Cm h m F) (k x : Int) {K : Hp → Prop} (hK : ∀ h', Cm h' m (fun q => if q = k then x else F q) → Ch (fun r => mblk m = some r) h h' → K h') : Sb (mup (.int .i64) m (.int .i64 k) (.int .i64 x) h) K := by
  obtain ⟨ps, a, b, e⟩ := H
  refine a.mup k x rfl fun h' a' c => hK h' ⟨_, a', nodup_updA k x b, fun q => ?_⟩ c
  rw [lookA_updA]
  show _ = if q = k then x else F q
  by_cases hq : q = k
  · rw [if_pos hq, if_pos hq]; rfl
  · rw [if_neg hq, if_neg hq]; exact e q
theorem Cm.add {h : Hp} {m : Value} {F : Int → Int} (H : Cm h m F) (k : Int) (hb : -1000000 ≤ F k ∧ F k ≤ 1000000) {K : Hp → Prop} (hK : ∀ h', Cm h' m (fun q => F q + if k = q then 1 else 0) → Ch (fun r => mblk m = some r) h h' → K h') :
    Vb (lkm (.int .i64) (.int .i64 0) false m (.int .i64 k) h) fun v => Vb (bin .add v (.int .i64 1)) fun w => Sb (mup (.int .i64) m (.int .i64 k) w h) K := by
  refine vb (H.look k) (vb bin_add ?_)
  rw [wr64 (by omega)]
  refine H.put k _ fun h' a c => hK h' ?_ c
  have : (fun q => if q = k then F k + 1 else F q) = (fun q => F q + if k = q then 1 else 0) := by
    funext q
    by_cases hq : q = k
    · subst hq; simp
    · rw [if_neg hq, if_neg (fun e => hq e.symm)]; omega
  rw [← this]; exact a
theorem Cm.sub {h : Hp} {m : Value} {F : Int → Int} (H : Cm h m F) (k : Int) (hb : -1000000 ≤ F k ∧ F k ≤ 1000000) {K : Hp → Prop} (hK : ∀ h', Cm h' m (fun q => F q - if k = q then 1 else 0) → Ch (fun r => mblk m = some r) h h' → K h') :
    Vb (lkm (.int .i64) (.int .i64 0) false m (.int .i64 k) h) fun v => Vb (bin .sub v (.int .i64 1)) fun w => Sb (mup (.int .i64) m (.int .i64 k) w h) K := by
  refine vb (H.look k) (vb bin_sub ?_)
  rw [wr64 (by omega)]
  refine H.put k _ fun h' a c => hK h' ?_ c
  have : (fun q => if q = k then F k - 1 else F q) = (fun q => F q - if k = q then 1 else 0) := by
    funext q
    by_cases hq : q = k
    · subst hq; simp
    · rw [if_neg hq, if_neg (fun e => hq e.symm)]; omega
  rw [← this]; exact a
theorem cnt_take {k : Int} {l : List Int} {i : Nat} (h : i < l.length) : cnt k (l.take (i + 1)) = cnt k (l.take i) + if l[i] = k then 1 else 0 := by
  rw [List.take_add_one, idx_get h]; exact cnt_snoc _ _ _
theorem cnt_bound (k : Int) (l : List Int) : 0 ≤ cnt k l ∧ cnt k l ≤ l.length := by
  unfold cnt; have := List.count_le_length (a := k) (l := l); omega

theorem L_Conserves (C : Cs6 S I) {s l : Value} {st : List Int} {xs : List Op} (hs : Sl EI h s st) (hl : Sl EO h l xs) (hR : ∀ h', Gr h h' → R (.bool true) h') : F_simulcastlaw53_EliminateConserves S I s l h R := by
  unfold F_simulcastlaw53_EliminateConserves
  refine C.great hs hl fun b hb => br (fun _ => C.awake hR) fun hf => ?_
  obtain ⟨b1, b2⟩ := hb hf
  refine eb (bsl_ok (us := [.bool false, .bool true]) rfl rfl (fun u hu => by simp only [List.mem_cons, List.not_mem_nil, or_false] at hu; rcases hu with rfl | rfl <;> rfl)) ?_
  have hfl : Sl EB (h.push (.cells ⟨[Value.bool false, .bool true].flatMap fun u => u.cells.toList⟩ I.t_bool)) (.slice (some ⟨h.size, 0, none⟩) 2 2) [false, true] := (Ow.lit (E := EB) (xs := [false, true]) (len := 2) rfl rfl).sl
  have g1 := Ch.push h (.cells ⟨[Value.bool false, .bool true].flatMap fun u => u.cells.toList⟩ I.t_bool)
  generalize (h.push (.cells ⟨[Value.bool false, .bool true].flatMap fun u => u.cells.toList⟩ I.t_bool)) = h1 at *
  generalize (Value.slice (some ⟨h.size, 0, none⟩) 2 2) = fl at *
  refine vb hfl.ln ?_
  refine .by (fun (i : Nat) v h' => i ≤ 2 ∧ v = .int .i64 i ∧ Gr h1 h') (fun i => 2 - i) 0 ⟨by omega, rfl, .refl _ _⟩ ?_
  rintro i v h4 ⟨hi, rfl, g4⟩ again hagain
  have gh4 := g1.trans g4
  rw [bin_lss, vb_some]
  simp only [List.length_cons, List.length_nil]
  refine brd (fun h2 => ?_) fun h2 => ?_
  · have hi' : i < [false, true].length := by simp; omega
    refine (hfl.gr g4).one rfl (idx_get hi') rfl rfl ?_
    generalize [false, true][i] = fb
    refine C.cApply (hs.gr gh4) (hl.gr gh4) (by omega) (by omega) fun a b h5 oa ob g5 _ _ _ => ?_
    simp only [ext0', ext1', vb_some]
    refine .at (fun sv av h6 => ∃ ss aa, Sl EI h6 sv ss ∧ Sl EA h6 av aa ∧ Bal st xs ss aa ∧ Gr h4 h6) ?_ ?_
    · refine br (fun _ => ?_) fun _ => ?_
      · refine C.cFast ((hs.gr gh4).gr g5) ((hl.gr gh4).gr g5) (by omega) (by omega) fun a' b' h6 oa' ob' g6 _ _ => ?_
        simp only [ext0', ext1', vb_some]
        exact ⟨_, _, oa'.sl, ob'.sl, bal_fast st xs, g5.trans g6⟩
      · exact ⟨_, _, oa.sl, ob.sl, bal_apply st xs, g5⟩
    rintro sv av h6 ⟨ss, aa, sss, saa, ⟨e1, e2, e3⟩, g6⟩
    have gh6 := gh4.trans g6
    refine vb saa.ln (vb hl.ln ?_)
    rw [bin_neq, vb_some, e1]
    refine brF (by simp) ?_
    refine eb rfl ?_
    have hg7 := Ch.push h6 (.map #[] 0)
    have hm7 : Cm (h6.push (.map #[] 0)) (.map (some h6.size)) (fun k => cnt k (st.take 0)) := ⟨[], Mp.new, by simp, fun k => by simp [lookA, cnt]⟩
    generalize h6.push (.map #[] 0) = h7 at *
    have hmb : ∀ r, mblk (.map (some h6.size)) = some r → h6.size ≤ r := fun r e => by simp only [mblk, Option.some.injEq] at e; omega
    refine vb hs.ln ?_
    refine .by (fun (i : Nat) v h' => i ≤ st.length ∧ v = .int .i64 i ∧ Gr h6 h' ∧ Cm h' (.map (some h6.size)) (fun k => cnt k (st.take i))) (fun i => st.length - i) 0 ⟨by omega, rfl, hg7, hm7⟩ ?_
    rintro j v h8 ⟨hj, rfl, g8, m8⟩ again1 hagain1
    rw [bin_lss, vb_some]
    refine brd (fun h9 => ?_) fun h9 => ?_
    · have hj' : j < st.length := by omega
      refine (hs.gr (gh6.trans g8)).one rfl (idx_get hj') rfl rfl ?_
      have hcb := cnt_bound st[j] (st.take j)
      rw [List.length_take] at hcb
      refine m8.add st[j] (by omega) fun h10 m10 c10 => ?_
      refine vb (inc (n := j) (by omega)) ?_
      refine hagain1 (j + 1) _ _ ⟨by omega, rfl, g8.young c10 hmb, ?_⟩ (by omega)
      have : (fun k => cnt k (st.take (j + 1))) = (fun q => cnt q (st.take j) + if st[j] = q then 1 else 0) := by funext k; rw [cnt_take hj']
      rw [this]; exact m10
    have : j = st.length := by omega
    subst this
    rw [List.take_length] at m8
    refine vb hl.ln ?_
    refine .by (fun (i : Nat) v h' => i ≤ xs.length ∧ v = .int .i64 i ∧ Gr h6 h' ∧ Cm h' (.map (some h6.size)) (fun k => cnt k st + tot (fun i => con k (opAt xs i) (aAt aa i)) (List.range i))) (fun i => xs.length - i) 0
      ⟨by omega, rfl, g8, by simpa [tot] using m8⟩ ?_
    rintro j v h10 ⟨hj, rfl, g10, m10⟩ again2 hagain2
    rw [bin_lss, vb_some]
    refine brd (fun h9 => ?_) fun h9 => ?_
    · have hj' : j < xs.length := by omega
      have hstep : ∀ k, tot (fun i => con k (opAt xs i) (aAt aa i)) (List.range (j + 1)) = tot (fun i => con k (opAt xs i) (aAt aa i)) (List.range j) + con k (opAt xs j) (aAt aa j) := fun k => by
        rw [List.range_succ, tot_append]; simp [tot]
      have hbd : ∀ k, -1000000 ≤ cnt k st + tot (fun i => con k (opAt xs i) (aAt aa i)) (List.range j) ∧ cnt k st + tot (fun i => con k (opAt xs i) (aAt aa i)) (List.range j) ≤ 1000000 := fun k => by
        have h1 := cnt_bound k st
        have h2 := tot_bound (g := fun i => con k (opAt xs i) (aAt aa i)) (fun i => con_bound k _ _) (List.range j)
        rw [List.length_range] at h2
        omega
      refine .at (fun h' => Gr h6 h' ∧ Cm h' (.map (some h6.size)) (fun k => cnt k st + tot (fun i => con k (opAt xs i) (aAt aa i)) (List.range (j + 1)))) ?_ ?_
      · refine (hl.gr (gh6.trans g10)).whole rfl (opAt_get hj') rfl ?_
        refine nwset (E := EO) ⟨0, false, 0⟩ (opAt xs j) rfl rfl rfl fun h11 hv11 g11 => ?_
        have m11 := m10.ch g11 (fun _ _ e => e)
        have g1011 := g10.trans g11
        have hans : aa[j]? = some (aAt aa j) := by unfold aAt; rw [idx_get (by omega)]; rfl
        have fin : ∀ (F : Int → Int) (h' : Hp), (∀ k, cnt k st + tot (fun i => con k (opAt xs i) (aAt aa i)) (List.range j) + con k (opAt xs j) (aAt aa j) = F k) → Cm h' (.map (some h6.size)) F → Cm h' (.map (some h6.size)) (fun k => cnt k st + tot (fun i => con k (opAt xs i) (aAt aa i)) (List.range (j + 1))) := by
          intro F h' hF hm
          have : (fun k => cnt k st + tot (fun i => con k (opAt xs i) (aAt aa i)) (List.range (j + 1))) = F := by funext k; rw [hstep, ← hF]; omega
          rw [this]; exact hm
        refine hv11.fld (j := 1) rfl ?_
        refine br (fun hp => ?_) fun hp => ?_
        · refine hv11.fld (j := 2) rfl ?_
          refine m11.add (opAt xs j).v (hbd _) fun h12 m12 c12 => ?_
          exact ⟨g1011.young c12 hmb, fin _ _ (fun k => by simp [con, hp]) m12⟩
        · refine (saa.gr g1011).fld rfl hans rfl (j := 0) rfl ?_
          rw [bin_eql, vb_some]
          refine brd (fun h0 => ?_) fun h0 => ?_
          · refine (saa.gr g1011).fld rfl hans rfl (j := 1) rfl ?_
            refine m11.sub (aAt aa j).2 (hbd _) fun h12 m12 c12 => ?_
            refine ⟨g1011.young c12 hmb, fin _ _ (fun k => ?_) m12⟩
            simp only [con, hp, Bool.false_eq_true, if_false, h0, if_true]
            split <;> omega
          · exact ⟨g1011, fin _ _ (fun k => by simp [con, hp, h0]) m11⟩
      · rintro h12 ⟨a1, a2⟩
        refine vb (inc (n := j) (by omega)) ?_
        exact hagain2 (j + 1) _ _ ⟨by omega, rfl, a1, a2⟩ (by omega)
    have : j = xs.length := by omega
    subst this
    have hssn := sss.ln
    refine vb hssn ?_
    generalize hG : (fun k => cnt k st + tot (fun i => con k (opAt xs i) (aAt aa i)) (List.range xs.length)) = G at m10
    have hGb : ∀ k, -1000 ≤ G k ∧ G k ≤ 1000 := fun k => by
      have h1 := cnt_bound k st
      have h2 := tot_bound (g := fun i => con k (opAt xs i) (aAt aa i)) (fun i => con_bound k _ _) (List.range xs.length)
      rw [List.length_range] at h2
      have : G k = cnt k st + tot (fun i => con k (opAt xs i) (aAt aa i)) (List.range xs.length) := by rw [← hG]
      omega
    refine .by (fun (i : Nat) v h' => i ≤ ss.length ∧ v = .int .i64 i ∧ Gr h6 h' ∧ Cm h' (.map (some h6.size)) (fun k => G k - cnt k (ss.take i))) (fun i => ss.length - i) 0
      ⟨by omega, rfl, g10, by simpa [cnt] using m10⟩ ?_
    rintro j v h16 ⟨hj, rfl, g16, m16⟩ again3 hagain3
    rw [bin_lss, vb_some]
    refine brd (fun h9 => ?_) fun h9 => ?_
    · have hj' : j < ss.length := by omega
      refine (sss.gr g16).one rfl (idx_get hj') rfl rfl ?_
      have hcb := cnt_bound ss[j] (ss.take j)
      have hgb := hGb ss[j]
      rw [List.length_take] at hcb
      refine m16.sub ss[j] (by omega) fun h17 m17 c17 => ?_
      refine vb (inc (n := j) (by omega)) ?_
      refine hagain3 (j + 1) _ _ ⟨by omega, rfl, g16.young c17 hmb, ?_⟩ (by omega)
      have : (fun k => G k - cnt k (ss.take (j + 1))) = (fun q => G q - cnt q (ss.take j) - if ss[j] = q then 1 else 0) := by funext k; rw [cnt_take hj']; omega
      rw [this]; exact m17
    have : j = ss.length := by omega
    subst this
    rw [List.take_length] at m16
    obtain ⟨ps, hmp, hnd, hlk⟩ := m16
    refine hmp.range fun m h18 hm hit g18 hs18 => ?_
    refine .by (fun (D : List Nat) h' => Gr h16 h' ∧ It .i64 mI h' h16.size m ps D) (fun D => ps.length - D.length) [] ⟨g18, hit⟩ ?_
    rintro D h19 ⟨g19, it19⟩ again4 hagain4
    refine it19.next (fun _ => ?_) fun q p h20 hp hq it20 c20 hent => ?_
    · simp only [ext0', vb_some, br_false]
      refine vb (inc (n := i) (by omega)) ?_
      exact hagain (i + 1) _ _ ⟨by omega, rfl, ((g4.trans g6).trans g16).trans g19⟩ (by omega)
    · simp only [ext0', vb_some, br_true]
      refine vb hent ?_
      simp only [ext1', vb_some, mI]
      rw [bin_neq, vb_some]
      have hz : p.2 = 0 := by
        have h1 := (lookA_mem hnd (k := p.1) (x := p.2)).mp (List.mem_of_getElem? hp)
        have h2 := hlk p.1
        rw [h1] at h2
        have h3 := e3 p.1
        have : G p.1 = cnt p.1 st + tot (fun i => con p.1 (opAt xs i) (aAt aa i)) (List.range xs.length) := by rw [← hG]
        simp only [Option.getD_some] at h2
        omega
      refine brF (by simp [hz]) ?_
      have := it20.len
      rw [List.length_append, List.length_cons, List.length_nil] at this
      refine hagain4 (D ++ [q]) _ ⟨g19.young c20 fun r e => by omega, it20⟩ (by rw [List.length_append, List.length_cons, List.length_nil]; omega)
  · exact C.awake fun h' g => hR h' (gh4.trans g)
end Go.En
