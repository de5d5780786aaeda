/-
  The engine, part I: a drawn region, by one walk: the theorem.
-/
import Derived.Test.YtggieecoagcmbaaEngH
namespace Go.En

/-- among the forks: the operation that the machine takes -/
theorem ahead_pick {P : Program} {n : Nat} {ops : Array Oper} {pre : Array Nat} {pend : List Pd} {env : Env} {h : Hp} {k : Env → Hp → Prop} {hs pl : List Nat} : ∀ {t : OT}, okGo P ops pre t hs pl = true → AheadT P n ops pre pend env h k t → ∀ i ∈ heads t,
    ∃ r, okGo P ops pre (.cons i r) hs pl = true ∧ AheadT P n ops pre pend env h k (.cons i r)
  | .nil, _, ha, i, hi => by cases hi
  | .cons e r, hok, ha, i, hi => by
    simp only [heads, List.mem_singleton] at hi
    subst hi
    exact ⟨r, hok, ha⟩
  | .alt x y, hok, ha, i, hi => by
    obtain ⟨_, hx, hy⟩ := okGo_alt hok
    rcases List.mem_append.1 hi with h1 | h1
    · exact ahead_pick hx ha.1 i h1
    · exact ahead_pick hy ha.2 i h1
theorem ahead_some {P : Program} {n : Nat} {ops : Array Oper} {pre : Array Nat} {pend : List Pd} {env : Env} {h : Hp} {k : Env → Hp → Prop} {hs pl : List Nat} : ∀ {t : OT}, okGo P ops pre t hs pl = true → AheadT P n ops pre pend env h k t →
    ∃ e r, okGo P ops pre (.cons e r) hs pl = true ∧ AheadT P n ops pre pend env h k (.cons e r)
  | .nil, _, ha => ha.elim
  | .cons e r, hok, ha => ⟨e, r, hok, ha⟩
  | .alt x y, hok, ha => ahead_some (okGo_alt hok).2.1 ha.1

def unl (ops : Array Oper) (listed : Array Bool) : Nat := ((List.range ops.size).filter fun i => !listed.getD i true).length

theorem unl_set {ops : Array Oper} {listed : Array Bool} (hsz : listed.size = ops.size) {i : Nat} (hi : i < ops.size) (hl : listed.getD i true = false) : unl ops listed = unl ops (listed.setIfInBounds i true) + 1 := by
  unfold unl
  have hg : ∀ j, (listed.setIfInBounds i true).getD j true = if i = j then true else listed.getD j true := by
    intro j
    simp only [Array.getD_eq_getD_getElem?, Array.getElem?_setIfInBounds]
    by_cases e : i = j
    · subst e; simp [hsz, hi]
    · simp [e]
  simp only [hg]
  have key : ∀ (l : List Nat), l.Nodup → i ∈ l → (l.filter fun j => !listed.getD j true).length = (l.filter fun j => !(if i = j then true else listed.getD j true)).length + 1 := by
    intro l
    induction l with
    | nil => intro _ h; cases h
    | cons x l ih =>
      intro hnd hm
      rw [List.nodup_cons] at hnd
      rcases List.mem_cons.1 hm with rfl | hm
      · rw [List.filter_cons_of_pos (by simp [hl]), List.filter_cons_of_neg (by simp)]
        simp only [List.length_cons]
        congr 2
        apply List.filter_congr
        intro y hy
        have : i ≠ y := fun e => hnd.1 (e ▸ hy)
        simp [this]
      · have hne : i ≠ x := fun e => hnd.1 (e ▸ hm)
        have := ih hnd.2 hm
        by_cases hx : listed.getD x true = true
        · rw [List.filter_cons_of_neg (by simp [hx]), List.filter_cons_of_neg (by simp [hne, hx])]
          exact this
        · have hx' : listed.getD x true = false := by simpa using hx
          rw [List.filter_cons_of_pos (by simp [hx']), List.filter_cons_of_pos (by simp [hne, hx'])]
          simp only [List.length_cons, this]
  exact key _ List.nodup_range (List.mem_range.2 hi)

theorem lst_getD {listed : Array Bool} {ops : Array Oper} (hsz : listed.size = ops.size) {i : Nat} (hi : i < ops.size) : listed.getD i true = lst listed i := by
  unfold lst
  simp [Array.getD_eq_getD_getElem?, hsz, hi]

theorem lst_set {listed : Array Bool} {ops : Array Oper} (hsz : listed.size = ops.size) {i : Nat} (hi : i < ops.size) (j : Nat) : lst (listed.setIfInBounds i true) j = if i = j then true else lst listed j := by
  unfold lst
  simp only [Array.getD_eq_getD_getElem?, Array.getElem?_setIfInBounds]
  by_cases e : i = j
  · subst e; simp [hsz, hi]
  · simp [e]

section
variable {P : Program} {F : Fence} (hF : Wd F) {m n : Nat} {ops : Array Oper} {pre : Array Nat}
variable {T : List Nat} {b : Nat → Option Value} (hT : ∀ o ∈ ops.toList, ∀ d, o.dst = some d → d ∉ T)
variable (hn : dstOk n ops.toList = true) (hdist : ∀ i j d, i < ops.size → j < ops.size → dstOf ops i = some d → dstOf ops j = some d → i = j)
variable (rk : Nat → Nat) (hrk : ∀ i o, ops[i]? = some o → ∀ e ∈ o.after, Region.binds .any e = true → rk e.on < rk i ∧ e.on < ops.size)
variable (hclos : ∀ i o, ops[i]? = some o → ∀ j, j < ops.size → rel pre i j = true → ∃ e ∈ o.after, Region.binds .any e = true ∧ (e.on = j ∨ rel pre e.on j = true))

theorem ready_iff {listed : Array Bool} (hsz : listed.size = ops.size) {i : Nat} : i ∈ Region.ready .any ops listed ↔ i < ops.size ∧ lst listed i = false ∧ ∃ o, ops[i]? = some o ∧ ∀ e ∈ o.after, Region.binds .any e = true → lst listed e.on = true := by
  unfold Region.ready
  simp only [List.mem_filter, List.mem_range, Bool.and_eq_true, Bool.not_eq_true']
  constructor
  · rintro ⟨hi, h1, h2⟩
    refine ⟨hi, by rw [← lst_getD hsz hi]; exact h1, ops[i], Array.getElem?_eq_getElem hi, ?_⟩
    rw [Array.getElem?_eq_getElem hi] at h2
    simp only [Option.map_some, Option.getD_some, Array.all_eq_true_iff_forall_mem, Bool.or_eq_true, Bool.not_eq_true'] at h2
    intro e he hb
    rcases h2 e he with h3 | h3
    · rw [hb] at h3; cases h3
    · exact h3
  · rintro ⟨hi, h1, o, ho, h2⟩
    refine ⟨hi, by rw [lst_getD hsz hi]; exact h1, ?_⟩
    rw [ho]
    simp only [Option.map_some, Option.getD_some, Array.all_eq_true_iff_forall_mem, Bool.or_eq_true, Bool.not_eq_true']
    intro e he
    cases hb : Region.binds .any e with
    | false => exact .inl rfl
    | true => exact .inr (h2 e he hb)

include hrk in
theorem ready_nil {listed : Array Bool} (hsz : listed.size = ops.size) (h : Region.ready .any ops listed = []) : ∀ i, i < ops.size → lst listed i = true := by
  have key : ∀ r i, rk i = r → i < ops.size → lst listed i = true := by
    intro r
    induction r using Nat.strongRecOn with
    | _ r ih =>
      intro i hr hi
      cases hl : lst listed i with
      | true => rfl
      | false =>
        have : i ∈ Region.ready .any ops listed := (ready_iff hsz).2 ⟨hi, hl, ops[i], Array.getElem?_eq_getElem hi, fun e he hb => by
          obtain ⟨h1, h2⟩ := hrk i ops[i] (Array.getElem?_eq_getElem hi) e he hb
          exact ih (rk e.on) (by omega) e.on rfl h2⟩
        rw [h] at this
        cases this
  exact fun i hi => key _ i rfl hi

include hF hT hn hdist hrk hclos in
theorem drawn_run {Q : Exit → Act → World → Prop} {w0 : World} {k : Env → Hp → Prop} (hQ : ∀ env a w, Agr n env a → Rst w0 w → (∀ t ∈ T, lk env t = b t) → k env w.heap → Q .normal a w) :
    ∀ (fuel : Nat) (listed : Array Bool) (a : Act) (w : World) (pl : List Nat) (rest : OT) (pend : List Pd) (env : Env), listed.size = ops.size → unl ops listed = fuel → okGo P ops pre rest (heads rest) pl = true →
      St P F m n ops pre pl env (lst listed) a w.heap pend T b → Ahead P n ops pre rest pend env w.heap k → Rst w0 w → wpAnyIn F m P .any ops Q fuel listed a w := by
  -- when all is listed
  have hend : ∀ (listed : Array Bool) (a : Act) (w : World) (pl : List Nat) (rest : OT) (pend : List Pd) (env : Env), listed.size = ops.size → okGo P ops pre rest (heads rest) pl = true →
      St P F m n ops pre pl env (lst listed) a w.heap pend T b → Ahead P n ops pre rest pend env w.heap k → Rst w0 w → Region.ready .any ops listed = [] → Q .normal a w := by
    intro listed a w pl rest pend env hsz hok hs ha hR hnil
    have hall := ready_nil rk hrk hsz hnil
    rcases ha with ⟨rfl, hk⟩ | ha
    · refine hQ env a w ⟨hs.sz, fun t v ht hv => hs.fr t v ht hv fun j hj _ => hall j (hs.lt j hj), hs.df⟩ hR hs.tr hk
    · obtain ⟨e, r, hok, _⟩ := ahead_some hok ha
      obtain ⟨⟨o', ho'⟩, _⟩ := okGo_at hok
      exact absurd (hs.sub e (mem_lt ho'.at_) (hall e (mem_lt ho'.at_))) ho'.notin
  intro fuel
  induction fuel with
  | zero =>
    intro listed a w pl rest pend env hsz hu hok hs ha hR
    have hnil : Region.ready .any ops listed = [] := by
      cases hr : Region.ready .any ops listed with
      | nil => rfl
      | cons i l =>
        have hi : i ∈ Region.ready .any ops listed := by rw [hr]; exact List.mem_cons_self ..
        obtain ⟨h1, h2, _⟩ := (ready_iff hsz).1 hi
        have := unl_set hsz h1 (by rw [lst_getD hsz h1]; exact h2)
        omega
    exact ⟨hnil, hend listed a w pl rest pend env hsz hok hs ha hR hnil⟩
  | succ fuel ih =>
    intro listed a w pl rest pend env hsz hu hok hs ha hR
    refine ⟨hend listed a w pl rest pend env hsz hok hs ha hR, fun i hi => ?_⟩
    obtain ⟨hilt, hil, o, ho, hpreds⟩ := (ready_iff hsz).1 hi
    have hpre : ∀ j, j < ops.size → rel pre i j = true → lst listed j = true := by
      intro j hj hr
      obtain ⟨e, he, hb, hc⟩ := hclos i o ho j hj hr
      rcases hc with rfl | hc
      · exact hpreds e he hb
      · exact hs.clo e.on (hpreds e he hb) j hj hc
    have hu' : unl ops (listed.setIfInBounds i true) = fuel := by
      have := unl_set hsz hilt (by rw [lst_getD hsz hilt]; exact hil)
      omega
    have hsz' : (listed.setIfInBounds i true).size = ops.size := by simp [hsz]
    have hD' := fun j => lst_set hsz hilt j
    have hdi := dstOf_at ho
    by_cases hip : i ∈ pl
    · -- the walk has it behind it
      obtain ⟨o', env', pl', v, hp⟩ := hs.pd i hip hil
      have : o' = o := by have := hp.at_; rw [ho] at this; exact (Option.some.inj this).symm
      subst this
      have hdlt : ∀ d, o'.dst = some d → d < n := fun d hd => dstOk_mem hn o' (by rw [Array.mem_toList_iff]; exact Array.mem_of_getElem? ho) d hd
      refine hp.run a w Q _ rfl ⟨hs.sz, fun t u ht htn hu => hp.fr t u ht htn hu fun j hj hjt => hpre j (hs.lt j (hp.sub j hj)) (hp.h1 j hj (haz_of hjt ht))⟩ ?_
      refine ih _ _ w pl rest pend env hsz' hu' hok ⟨hs.tr, ?_, ?_, ?_, ?_, ?_, hs.lt, ?_⟩ ha hR
      · cases hd : o'.dst <;> simp [Act.put, hs.sz]
      · intro u hu
        obtain ⟨ds, h1, h2⟩ := hs.df u hu
        exact ⟨ds, h1, by cases hd : o'.dst <;> simpa [Act.put] using h2⟩
      · intro t u htn hu hj
        by_cases e : o'.dst = some t
        · have := hp.val t e
          rw [this] at hu
          simp only [Option.some.injEq] at hu
          subst hu
          rw [e, getD_put (by rw [hs.sz]; exact htn), if_pos rfl]
        · have hsame : (a.put o'.dst v).tmps.getD t undef = a.tmps.getD t undef := by
            cases hd : o'.dst with
            | none => rfl
            | some d => rw [getD_put (by rw [hs.sz]; exact hdlt d hd), if_neg (fun h => e (by rw [hd, h]))]
          rw [hsame]
          refine hs.fr t u htn hu fun j hjp hjt => ?_
          have := hj j hjp hjt
          rw [hD'] at this
          split at this
          · rename_i hij; subst hij; exact absurd (hdi ▸ hjt) e
          · exact this
      · intro j hj hDj
        rw [hD'] at hDj
        split at hDj
        · rename_i e; subst e; exact hip
        · exact hs.sub j hj hDj
      · intro x hx j hj hr
        rw [hD'] at hx ⊢
        split
        · rfl
        · split at hx
          · rename_i e; subst e; exact hpre j hj hr
          · exact hs.clo x hx j hj hr
      · intro x hx hDx
        rw [hD'] at hDx
        split at hDx
        · cases hDx
        · rename_i hix
          obtain ⟨ox, envx, plx, vx, hpx⟩ := hs.pd x hx hDx
          refine ⟨ox, envx, plx, vx, hpx.at_, hpx.sub, hpx.run, hpx.keep, hpx.val, ?_, hpx.h1, hpx.h2, hpx.per⟩
          intro t u ht htn hu hj
          by_cases e : o'.dst = some t
          · have hdt : dstOf ops i = some t := by rw [hdi]; exact e
            by_cases hin : i ∈ plx
            · have h1 := hpx.per i hin t u hu hdt
              have h2 := hp.val t e
              rw [h2] at h1
              simp only [Option.some.injEq] at h1
              subst h1
              rw [e, getD_put (by rw [hs.sz]; exact htn), if_pos rfl]
            · have := hpre x (hs.lt x hx) (hpx.h2 i hilt hix hin (haz_of hdt ht))
              rw [hDx] at this; cases this
          · have hsame : (a.put o'.dst v).tmps.getD t undef = a.tmps.getD t undef := by
              cases hd : o'.dst with
              | none => rfl
              | some d => rw [getD_put (by rw [hs.sz]; exact hdlt d hd), if_neg (fun h => e (by rw [hd, h]))]
            rw [hsame]
            refine hpx.fr t u ht htn hu fun j hjp hjt => ?_
            have := hj j hjp hjt
            rw [hD'] at this
            split at this
            · rename_i hij; subst hij; exact absurd (hdi ▸ hjt) e
            · exact this
    · -- the walk has it ahead
      rcases ha with ⟨rfl, _⟩ | ha
      · unfold okGo at hok
        simp only [List.all_eq_true, List.mem_range, List.contains_eq_mem, decide_eq_true_eq] at hok
        exact absurd (hok i hilt) hip
      · by_cases hih : i ∈ heads rest
        · obtain ⟨r, hok, ha⟩ := ahead_pick hok ha i hih
          obtain ⟨oe, kb, hoe, hdc, hK, hw, hE⟩ := ha
          obtain ⟨⟨oe', hoke⟩, hok'⟩ := okGo_at hok
          have : oe' = oe := by have := hoke.at_; rw [hoe] at this; exact (Option.some.inj this).symm
          subst this
          have : oe' = o := by have := hoe; rw [ho] at this; exact (Option.some.inj this).symm
          subst this
          have hdlt : ∀ d, oe'.dst = some d → d < n := fun d hd => dstOk_mem hn oe' (by rw [Array.mem_toList_iff]; exact Array.mem_of_getElem? ho) d hd
          have hagree : agreeOn n env (oe'.looksAt ops) a := ⟨hs.sz, fun t u ht htn hu => hs.fr t u htn hu fun j hj hjt => hpre j (hs.lt j hj) (hoke.hz1 j hj (haz_of hjt ht))⟩
          have hcong := rho_cong (dc_e hdc) hagree
          unfold wpOpIn
          simp only [ho]
          rw [hw a hagree, if_pos rfl]
          refine run_eop hF (ρ := rho n env a) rho_holds hcong hE _ Q fun v w' hs' hk => ?_
          obtain ⟨hrest, hst⟩ := stabs_spec hk
          have hoth : ∀ j ∈ pl, ∀ t, dstOf ops j = some t → oe'.dst ≠ some t := by
            intro j hj t hjt e
            rw [← hdi] at e
            have := hdist j i t (hs.lt j hj) hilt hjt e
            subst this
            exact hoke.notin hj
          have hlk : ∀ t, oe'.dst ≠ some t → lk (put env oe'.dst v) t = lk env t := by
            intro t ht
            cases hd : oe'.dst with
            | none => rfl
            | some d => simp only [put]; rw [lk_put, if_neg (fun e => ht (by rw [hd, e]))]
          have hnn : oe'.dst ≠ some n := fun e => Nat.lt_irrefl n (hdlt n e)
          have hsame : ∀ t, oe'.dst ≠ some t → (a.put oe'.dst v).tmps.getD t undef = a.tmps.getD t undef := by
            intro t e
            cases hd : oe'.dst with
            | none => rfl
            | some d => rw [getD_put (by rw [hs.sz]; exact hdlt d hd), if_neg (fun h => e (by rw [hd, h]))]
          have hs2 : St P F m n ops pre (i :: pl) (put env oe'.dst v) (lst (listed.setIfInBounds i true)) (a.put oe'.dst v) w'.heap (keepP (pre.getD i 0) pend) T b := by
            refine ⟨fun t ht => by rw [hlk t (fun e => hT oe' (by rw [Array.mem_toList_iff]; exact Array.mem_of_getElem? ho) t e ht)]; exact hs.tr t ht, ?_, ?_, ?_, ?_, ?_, ?_, ?_⟩
            · cases hd : oe'.dst <;> simp [Act.put, hs.sz]
            · intro u hu
              rw [hlk n hnn] at hu
              obtain ⟨ds, h1, h2⟩ := hs.df u hu
              exact ⟨ds, h1, by cases hd : oe'.dst <;> simpa [Act.put] using h2⟩
            · intro t u htn hu hj
              by_cases e : oe'.dst = some t
              · rw [e] at hu ⊢
                simp only [put] at hu
                rw [lk_put, if_pos rfl] at hu
                simp only [Option.some.injEq] at hu
                subst hu
                rw [getD_put (by rw [hs.sz]; exact htn), if_pos rfl]
              · rw [hlk t e] at hu
                rw [hsame t e]
                refine hs.fr t u htn hu fun j hjp hjt => ?_
                have := hj j (List.mem_cons_of_mem _ hjp) hjt
                rw [hD'] at this
                split at this
                · rename_i hij; subst hij; exact absurd (hdi ▸ hjt) e
                · exact this
            · intro j hj hDj
              rw [hD'] at hDj
              split at hDj
              · rename_i e; subst e; exact List.mem_cons_self ..
              · exact List.mem_cons_of_mem _ (hs.sub j hj hDj)
            · intro x hx j hj hr
              rw [hD'] at hx ⊢
              split
              · rfl
              · split at hx
                · rename_i e; subst e; exact hpre j hj hr
                · exact hs.clo x hx j hj hr
            · intro j hj
              rcases List.mem_cons.1 hj with rfl | hj
              · exact hilt
              · exact hs.lt j hj
            · intro x hx hDx
              rw [hD'] at hDx
              split at hDx
              · cases hDx
              · rename_i hix
                rcases List.mem_cons.1 hx with h1 | hx
                · exact absurd h1.symm hix
                · obtain ⟨ox, envx, plx, vx, hpx⟩ := hs.pd x hx hDx
                  have hnrel : rel pre i x = false := by
                    cases hr : rel pre i x with
                    | false => rfl
                    | true => have := hpre x (hs.lt x hx) hr; rw [hDx] at this; cases this
                  have hrun : Comes1 P F m n ops x ox envx vx w'.heap := by
                    rcases hpx.keep with hk' | ⟨p, hpm, hpi, hpv⟩
                    · exact hk' _
                    · exact hpv _ (hst p hpm (by rw [hpi]; exact hnrel))
                  refine ⟨ox, envx, plx, vx, hpx.at_, fun j hj => List.mem_cons_of_mem _ (hpx.sub j hj), hrun, ?_, ?_, ?_, hpx.h1, hpx.h2, ?_⟩
                  · rcases hpx.keep with hk' | ⟨p, hpm, hpi, hpv⟩
                    · exact .inl hk'
                    · exact .inr ⟨p, keepP_mem hpm (by rw [hpi]; exact hnrel), hpi, hpv⟩
                  · intro d hd
                    rw [hlk d (hoth x hx d (by rw [dstOf_at hpx.at_]; exact hd))]
                    exact hpx.val d hd
                  · intro t u ht htn hu hj
                    by_cases e : oe'.dst = some t
                    · have hdt : dstOf ops i = some t := by rw [hdi]; exact e
                      have hnin : i ∉ plx := fun h => hoke.notin (hpx.sub i h)
                      have := hpre x (hs.lt x hx) (hpx.h2 i hilt hix hnin (haz_of hdt ht))
                      rw [hDx] at this; cases this
                    · rw [hsame t e]
                      refine hpx.fr t u ht htn hu fun j hjp hjt => ?_
                      have := hj j hjp hjt
                      rw [hD'] at this
                      split at this
                      · rename_i hij; subst hij; exact absurd (hdi ▸ hjt) e
                      · exact this
                  · intro j hj t u hu hjt
                    rw [hlk t (hoth j (hpx.sub j hj) t hjt)]
                    exact hpx.per j hj t u hu hjt
          rcases advance hF hT hn hdist r (heads r) (i :: pl) _ _ _ hok' (hK.put _ _) hs2 hrest with ⟨hok2, hst2, hah2⟩ | ⟨pl2, rest2, pend2, env2, hok2, hst2, hah2⟩
          · exact ih _ _ w' _ _ _ _ hsz' hu' hok2 hst2 hah2 (hR.trans hs')
          · exact ih _ _ w' pl2 rest2 pend2 env2 hsz' hu' hok2 hst2 hah2 (hR.trans hs')
        · -- what is not at the fork waits for one of it
          obtain ⟨e0, r0, hok0, ha0⟩ := ahead_some hok ha
          obtain ⟨⟨o0, ho0⟩, _⟩ := okGo_at hok0
          obtain ⟨o1, _, ho1, hdc1, _⟩ := ha0
          have : o0 = o1 := by have := ho0.at_; rw [ho1] at this; exact (Option.some.inj this).symm
          subst this
          obtain ⟨e, heh, hrel⟩ := ho0.wait hdc1 i hilt hip hih
          obtain ⟨r, hoke, hae⟩ := ahead_pick hok ha e heh
          obtain ⟨⟨oe, hoe⟩, _⟩ := okGo_at hoke
          have := hpre e (mem_lt hoe.at_) hrel
          exact absurd (hs.sub e (mem_lt hoe.at_) this) hoe.notin
end

/-- **A drawn region.** -/
theorem denD_sound {P : Program} {F : Fence} (hF : Wd F) {m n : Nat} {ops : Array Oper} {pre : Array Nat} {ord : OT} (hm : P.follows .mixedOrders = true) (hok : okD P n ops pre ord = true) {Q : Exit → Act → World → Prop} {w0 : World} {k : Env → Hp → Prop} {T : List Nat} {b : Nat → Option Value} (hT : ∀ o ∈ ops.toList, ∀ d, o.dst = some d → d ∉ T)
    (hQ : ∀ env a w, Agr n env a → Rst w0 w → (∀ t ∈ T, lk env t = b t) → k env w.heap → Q .normal a w) {env : Env} {a : Act} {w : World} {id : Nat} (hb : ∀ t ∈ T, lk env t = b t) (hA : Agr n env a) (hR : Rst w0 w) (h : denD P n ops pre ord [] env [] w.heap k) :
    (Code.region id ops true).wpIn F m P Q a w := by
  unfold okD at hok
  simp only [Bool.and_eq_true, List.all_eq_true, List.mem_range, Bool.or_eq_true, Bool.not_eq_true'] at hok
  obtain ⟨⟨⟨hn, hdst⟩, hgl⟩, hgo⟩ := hok
  have hdist : ∀ i j d, i < ops.size → j < ops.size → dstOf ops i = some d → dstOf ops j = some d → i = j := by
    intro i j d hi hj h1 h2
    rcases hdst i hi j hj with h3 | h3
    · exact Nat.eq_of_beq_eq_true h3
    · simp [sameDst, h1, h2] at h3
  have hat : ∀ i o, ops[i]? = some o → (∀ e ∈ o.after, Region.binds .any e = true → (pathOf ord).idxOf e.on < (pathOf ord).idxOf i ∧ e.on < ops.size) ∧ ∀ j, j < ops.size → rel pre i j = true → ∃ e ∈ o.after, Region.binds .any e = true ∧ (e.on = j ∨ rel pre e.on j = true) := by
    intro i o ho
    have := hgl i (mem_lt ho)
    simp only [ho, Bool.and_eq_true, List.all_eq_true, Array.all_eq_true_iff_forall_mem, List.mem_range, Bool.or_eq_true, Bool.not_eq_true', Array.any_eq_true', Nat.blt_eq] at this
    refine ⟨fun e he hb => ?_, fun j hj hr => ?_⟩
    · rcases this.1 e he with h2 | h2
      · rw [hb] at h2; cases h2
      · exact h2
    · rcases this.2 j hj with h2 | h2
      · rw [hr] at h2; cases h2
      · obtain ⟨e, he, hb, hc⟩ := h2
        exact ⟨e, he, hb, hc.imp Nat.eq_of_beq_eq_true (fun h => h)⟩
  have hrk : ∀ i o, ops[i]? = some o → ∀ e ∈ o.after, Region.binds .any e = true → (pathOf ord).idxOf e.on < (pathOf ord).idxOf i ∧ e.on < ops.size := fun i o ho => (hat i o ho).1
  have hclos : ∀ i o, ops[i]? = some o → ∀ j, j < ops.size → rel pre i j = true → ∃ e ∈ o.after, Region.binds .any e = true ∧ (e.on = j ∨ rel pre e.on j = true) := fun i o ho => (hat i o ho).2
  refine wpIn_region_any hm ?_
  have hl0 : ∀ j, lst (Array.replicate ops.size false) j = false := by
    intro j
    unfold lst
    simp only [Array.getD_eq_getD_getElem?, Array.getElem?_replicate]
    split <;> rfl
  have hu : unl ops (Array.replicate ops.size false) = ops.size := by
    unfold unl
    rw [List.filter_eq_self.2]
    · simp
    · intro j hj
      have : j < ops.size := List.mem_range.1 hj
      simp [Array.getD_eq_getD_getElem?, this]
  have hs0 : St P F m n ops pre [] env (lst (Array.replicate ops.size false)) a w.heap [] T b :=
    ⟨hb, hA.sz, hA.df, fun t v ht hv _ => hA.sl t v ht hv, fun j _ hD => (by rw [hl0] at hD; cases hD), fun i hD => (by rw [hl0] at hD; cases hD), fun j hj => (by cases hj), fun j hj => (by cases hj)⟩
  rcases advance hF hT hn hdist ord (heads ord) [] [] env [] hgo (KBok.nil n env) hs0 h with ⟨hok2, hst2, hah2⟩ | ⟨pl2, rest2, pend2, env2, hok2, hst2, hah2⟩
  · exact drawn_run hF hT hn hdist ((pathOf ord).idxOf ·) hrk hclos hQ ops.size (Array.replicate ops.size false) a { w with drawn := w.drawn + 1 } _ _ _ _ (by simp) hu hok2 hst2 hah2 ⟨hR.os, hR.tape, hR.output⟩
  · exact drawn_run hF hT hn hdist ((pathOf ord).idxOf ·) hrk hclos hQ ops.size (Array.replicate ops.size false) a { w with drawn := w.drawn + 1 } pl2 rest2 pend2 env2 (by simp) hu hok2 hst2 hah2 ⟨hR.os, hR.tape, hR.output⟩
end Go.En
