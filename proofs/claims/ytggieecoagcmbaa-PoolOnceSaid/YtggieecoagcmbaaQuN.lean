/-
  Layer 34: two queues that share a pool, as lists. No program text in sight.
-/
import Derived.Test.YtggieecoagcmbaaQuM
namespace Go.En
open Prog Spc

theorem wp_ret {α : Type} {p : Prog α} {σ : Spc} {Q : α → Spc → Prop} (h : wp (p >>= Prog.ret) σ Q) : wp p σ Q := by
  rw [wp_bind] at h; exact h

/-- the pool of the laws -/
abbrev pQ (n : Int) : Pl := ⟨3, 24, n⟩
abbrev dQ (n : Int) : Int → Prop := fun a => 0 ≤ a ∧ a < 24 + 8 * n
theorem pQ_good {n : Int} (h : 0 ≤ n ∧ n ≤ 8) : (pQ n).good := ⟨by simp, by simp, h.1, by simp only; omega, by simp, by simp only; omega, .inr (.inl (by simp))⟩
theorem dQ_dom {n r : Int} (hr : r = 8 ∨ r = 16) (h : 0 ≤ n ∧ n ≤ 8) : QDom (dQ n) (pQ n) r := by
  refine ⟨⟨fun i h0 h1 => ⟨by simp only; omega, by simp only; omega⟩, fun x hx i h0 h1 => ?_⟩, fun i h0 h1 => ⟨by omega, by omega⟩, by simp only; omega, by simp only; omega⟩
  obtain ⟨j, j0, j1, rfl⟩ := hx
  simp only at *
  exact ⟨by omega, by omega⟩

/-- two queues; since σ0 -/
def QS (n : Int) (σ0 σ : Spc) (r : Int) (vs : List Int) (r' : Int) (vs' : List Int) (c : Nat) : Prop :=
  ∃ m fr out ns ns', Sm (dQ n) σ0 σ m c ∧ PoolR m (pQ n) fr out ∧ QueueR m r ns vs ∧ QueueR m r' ns' vs' ∧ (∀ x ∈ ns ++ ns', ∃ i, 0 ≤ i ∧ i < out ∧ x = 24 + 8 * i) ∧ (fr ++ (ns ++ ns')).Nodup ∧ (fr.length + ns.length + ns'.length : Int) = out

section
variable {n r r' : Int} {σ0 σ : Spc} {vs vs' : List Int} {c : Nat}
theorem QS.swap (q : QS n σ0 σ r vs r' vs' c) : QS n σ0 σ r' vs' r vs c := by
  obtain ⟨m, fr, out, ns, ns', h1, h2, h3, h4, h5, h6, h7⟩ := q
  refine ⟨m, fr, out, ns', ns, h1, h2, h4, h3, fun x hx => h5 x (by rw [List.mem_append] at hx ⊢; exact hx.symm), ?_, by omega⟩
  exact (List.Perm.nodup_iff (List.Perm.append_left fr List.perm_append_comm)).1 h6
theorem QS.fresh (q : QS n σ0 σ r vs r' vs' c) : QS n σ σ r vs r' vs' 0 := by
  obtain ⟨m, fr, out, ns, ns', h1, h⟩ := q
  exact ⟨m, fr, out, ns, ns', h1.fresh, h⟩
theorem QS.over {σ1 : Spc} {ws ws' : List Int} {c' : Nat} (q : QS n σ0 σ1 r ws r' ws' c) (q' : QS n σ1 σ r vs r' vs' c') : QS n σ0 σ r vs r' vs' (c + c') := by
  obtain ⟨m, fr, out, ns, ns', h1, h⟩ := q'
  obtain ⟨_, _, _, _, _, g1, _⟩ := q
  exact ⟨m, fr, out, ns, ns', g1.trans h1, h⟩
theorem QS.mono (q : QS n σ0 σ r vs r' vs' c) {c' : Nat} (h : c ≤ c') : QS n σ0 σ r vs r' vs' c' := by
  obtain ⟨m, fr, out, ns, ns', h1, h2⟩ := q
  exact ⟨m, fr, out, ns, ns', h1.mono h, h2⟩
theorem QS.len (q : QS n σ0 σ r vs r' vs' c) : σ.pu.length ≤ σ0.pu.length + c := by
  obtain ⟨m, fr, out, ns, ns', h1, h2⟩ := q
  exact h1.len
theorem QueueR.len {m : Int → Int} {root : Int} {ns vs : List Int} (q : QueueR m root ns vs) : vs.length = ns.length := by rw [q.vals, List.length_map]

structure QHyp (n r r' : Int) : Prop where
  n : 0 ≤ n ∧ n ≤ 8
  r : r = 8 ∧ r' = 16 ∨ r = 16 ∧ r' = 8
theorem QHyp.swap (h : QHyp n r r') : QHyp n r' r := ⟨h.n, h.r.symm.imp And.symm And.symm⟩

theorem QS.put (q : QS n σ σ r vs r' vs' 0) (hh : QHyp n r r') (hl : σ.pu.length + 30 ≤ big) {v : Int} (hv : R64 v) :
    wp (qPut (pQ n) r v) σ fun e σ' => if (vs.length + vs'.length : Int) < n then e = 0 ∧ QS n σ σ' r (vs ++ [v]) r' vs' 20 else e = 9 ∧ QS n σ σ' r vs r' vs' 20 := by
  obtain ⟨m, fr, out, ns, ns', S, P, q1, q2, hN, hnd, hlen⟩ := q
  have hn := hh.n
  have hD := dQ_dom (r := r) (n := n) (by rcases hh.r with h | h <;> omega) hn
  have e1 := q1.len; have e2 := q2.len
  have ho := P.out1
  simp only at ho
  refine wp_ret ?_
  have hap : ∀ x ∈ ns ++ ns', x ∉ fr := fun x hx hf => (List.nodup_append.1 hnd).2.2 x hf x hx rfl
  refine wp_qPut S P q1 hD hl hv (fun x hx => hN x (List.mem_append_left _ hx)) (fun x hx => hap x (List.mem_append_left _ hx)) (List.nodup_append.1 (List.nodup_append.1 hnd).2.1).1 (fun x fr' out' σ' m' hT hx S' P' q1' hm => ?_) fun σ' hf he S' => ?_
  · have hT' := hT
    show ite _ _ _
    have hxout : ∃ i, 0 ≤ i ∧ i < out' ∧ x = 24 + 8 * i := by
      rcases hT with ⟨rfl, rfl⟩ | ⟨rfl, rfl, h1, h2, h3⟩
      · exact P.fN x (List.mem_cons_self ..)
      · exact ⟨out, P.out0, by omega, h2⟩
    have hle : out ≤ out' := by rcases hT with ⟨_, h⟩ | ⟨_, _, _, _, h⟩ <;> omega
    have hxn : x ∉ ns ++ ns' := by
      intro h
      rcases hT with ⟨rfl, rfl⟩ | ⟨rfl, rfl, h1, h2, h3⟩
      · exact hap x h (List.mem_cons_self ..)
      · obtain ⟨i, i0, i1, e⟩ := hN x h
        simp only at h2; omega
    have hfl : (fr'.length + (ns.length + 1) + ns'.length : Int) = out' ∧ (ns.length + ns'.length : Int) < n := by
      rcases hT with ⟨rfl, rfl⟩ | ⟨rfl, rfl, h1, h2, h3⟩
      · simp only [List.length_cons] at hlen; omega
      · simp only [List.length_nil] at hlen ⊢; simp only at h1; omega
    rw [if_pos (by omega)]
    refine ⟨rfl, m', fr', out', ns ++ [x], ns', S', P', q1', q2.ext fun a ha => ?_, fun y hy => ?_, ?_, by simp only [List.length_append, List.length_singleton]; omega⟩
    · -- the other queue is as it was
      have key : (a = r' ∨ a = r' + 1 ∨ a = r' + 7) ∨ ∃ y ∈ ns', ∃ i, 0 ≤ i ∧ y = 24 + 8 * i ∧ (a = y ∨ a = y + 1) := by
        rcases ha with h | h | h | ⟨y, hy, h⟩
        · exact .inl (.inl h)
        · exact .inl (.inr (.inl h))
        · exact .inl (.inr (.inr h))
        · obtain ⟨i, i0, _, e⟩ := hN y (List.mem_append_right _ hy)
          exact .inr ⟨y, hy, i, i0, e, h⟩
      have hnsx : ∀ z ∈ ns ++ [x], ∃ j, 0 ≤ j ∧ z = 24 + 8 * j := fun z hz => by
        rcases List.mem_append.1 hz with hz | hz
        · obtain ⟨j, j0, _, e⟩ := hN z (List.mem_append_left _ hz); exact ⟨j, j0, e⟩
        · simp only [List.mem_singleton] at hz; subst hz; obtain ⟨j, j0, _, e⟩ := hxout; exact ⟨j, j0, e⟩
      rcases key with h | ⟨y, hy, i, i0, rfl, h⟩
      · have := hh.r
        refine hm a ?_ ?_ ?_ ?_ ?_ ?_ fun z hz => ?_
        all_goals first
          | ((try simp only); omega)
          | (obtain ⟨j, j0, rfl⟩ := hnsx z hz; omega)
      · have := hh.r
        have hne : ∀ z ∈ ns ++ [x], z ≠ 24 + 8 * i := fun z hz e => by
          rcases List.mem_append.1 hz with hz | hz
          · exact (List.nodup_append.1 (List.nodup_append.1 hnd).2.1).2.2 z hz _ hy e
          · simp only [List.mem_singleton] at hz
            subst hz
            exact hxn (List.mem_append_right _ (e ▸ hy))
        refine hm a ?_ ?_ ?_ ?_ ?_ ?_ fun z hz => ?_
        all_goals first
          | ((try simp only); omega)
          | (have := hne z hz; obtain ⟨j, j0, rfl⟩ := hnsx z hz; omega)
    · rcases List.mem_append.1 hy with hy | hy
      · rcases List.mem_append.1 hy with hy | hy
        · obtain ⟨i, i0, i1, e⟩ := hN y (List.mem_append_left _ hy); exact ⟨i, i0, by omega, e⟩
        · simp only [List.mem_singleton] at hy; subst hy; exact hxout
      · obtain ⟨i, i0, i1, e⟩ := hN y (List.mem_append_right _ hy); exact ⟨i, i0, by omega, e⟩
    · have hp : (fr' ++ (ns ++ [x] ++ ns')).Perm (x :: (fr' ++ (ns ++ ns'))) := by
        rw [List.append_assoc ns]
        refine (List.Perm.append_left fr' (List.perm_middle (a := x) (l₁ := ns) (l₂ := ns'))).trans ?_
        exact List.perm_middle
      rw [hp.nodup_iff, List.nodup_cons]
      rcases hT with ⟨rfl, rfl⟩ | ⟨rfl, rfl, h1, h2, h3⟩
      · rw [List.cons_append, List.nodup_cons] at hnd; exact hnd
      · exact ⟨by simpa using hxn, hnd⟩
  · show ite _ _ _
    subst hf
    simp only [List.length_nil] at hlen
    simp only at he
    rw [if_neg (by omega)]
    exact ⟨rfl, m, [], out, ns, ns', S', P, q1, q2, hN, hnd, by simpa using hlen⟩

theorem QS.take (q : QS n σ σ r vs r' vs' 0) (hh : QHyp n r r') (hl : σ.pu.length + 30 ≤ big) :
    wp (qTake (pQ n) r) σ fun e σ' => match vs with
      | [] => e = (0, 8) ∧ QS n σ σ' r [] r' vs' 20
      | v :: ws => e = (v, 0) ∧ QS n σ σ' r ws r' vs' 20 := by
  obtain ⟨m, fr, out, ns, ns', S, P, q1, q2, hN, hnd, hlen⟩ := q
  have hn := hh.n
  have hD := dQ_dom (r := r) (n := n) (by rcases hh.r with h | h <;> omega) hn
  have e1 := q1.len; have e2 := q2.len
  refine wp_ret ?_
  have hap : ∀ x ∈ ns ++ ns', x ∉ fr := fun x hx hf => (List.nodup_append.1 hnd).2.2 x hf x hx rfl
  refine wp_qTake S P q1 hD hl (fun x hx => hN x (List.mem_append_left _ hx)) (fun x hx => hap x (List.mem_append_left _ hx)) (List.nodup_append.1 (List.nodup_append.1 hnd).2.1).1 (fun x ms v ws σ' m' hx hv hxN S' P' q1' hm => ?_) fun σ' hf S' => ?_
  · subst hx hv
    refine ⟨rfl, m', x :: fr, out, ms, ns', S', P', q1', q2.ext fun a ha => ?_, fun y hy => hN y ?_, ?_, by simp only [List.length_cons] at hlen ⊢; omega⟩
    · have hx := hN x (by simp)
      obtain ⟨j, j0, j1, rfl⟩ := hx
      have := hh.r
      rcases ha with h | h | h | ⟨y, hy, h⟩
      · exact hm a (by simp only; omega) (by simp only; omega) (by omega) (by omega) (by omega) (by omega)
      · exact hm a (by simp only; omega) (by simp only; omega) (by omega) (by omega) (by omega) (by omega)
      · exact hm a (by simp only; omega) (by simp only; omega) (by omega) (by omega) (by omega) (by omega)
      · obtain ⟨i, i0, i1, rfl⟩ := hN y (List.mem_append_right _ hy)
        have hne : (24 + 8 * j : Int) ≠ 24 + 8 * i := (List.nodup_append.1 (List.nodup_append.1 hnd).2.1).2.2 _ (List.mem_cons_self ..) _ hy
        exact hm a (by simp only; omega) (by simp only; omega) (by omega) (by omega) (by omega) (by omega)
    · rw [List.cons_append]; exact List.mem_cons_of_mem _ hy
    · rw [List.cons_append]
      rw [List.cons_append] at hnd
      exact (List.perm_middle.nodup_iff).1 hnd
  · subst hf
    have hv : vs = [] := List.length_eq_zero_iff.1 (by simpa using e1)
    subst hv
    exact ⟨rfl, m, fr, out, [], ns', S', P, q1, q2, hN, hnd, hlen⟩

theorem QS.isN {n out : Int} {ns' : List Int} (hN : ∀ x ∈ ns', ∃ i, 0 ≤ i ∧ i < out ∧ x = 24 + 8 * i) (ho : out ≤ n) : ∀ x ∈ ns', En.isN (pQ n) x := fun x hx => by
  obtain ⟨i, i0, i1, e⟩ := hN x hx
  exact ⟨i, i0, by simp only; omega, e⟩
theorem QS.first (q : QS n σ σ r vs r' vs' 0) (hh : QHyp n r r') : wp (qFirst r) σ fun e σ' => e = qHead vs ∧ QS n σ σ' r vs r' vs' 0 := by
  obtain ⟨m, fr, out, ns, ns', S, P, q1, q2, hN, hnd, hlen⟩ := q
  have hD := dQ_dom (r := r) (n := n) (by rcases hh.r with h | h <;> omega) hh.n
  refine wp_ret (wp_qFirst S P.good q1 hD (QS.isN (fun x hx => hN x (List.mem_append_left _ hx)) P.out1) fun σ' S' => ?_)
  exact ⟨rfl, m, fr, out, ns, ns', S', P, q1, q2, hN, hnd, hlen⟩
theorem QS.walk (q : QS n σ σ r vs r' vs' 0) (hh : QHyp n r r') : wp (qWalk (pQ n) r) σ fun e σ' => e = some vs ∧ QS n σ σ' r vs r' vs' 0 := by
  obtain ⟨m, fr, out, ns, ns', S, P, q1, q2, hN, hnd, hlen⟩ := q
  have hD := dQ_dom (r := r) (n := n) (by rcases hh.r with h | h <;> omega) hh.n
  have := P.out1
  refine wp_ret (wp_qWalk S P.good q1 hD (QS.isN (fun x hx => hN x (List.mem_append_left _ hx)) P.out1) (by simp only at *; omega) fun σ' S' => ?_)
  exact ⟨rfl, m, fr, out, ns, ns', S', P, q1, q2, hN, hnd, hlen⟩
theorem QS.lenw (q : QS n σ σ r vs r' vs' 0) (hh : QHyp n r r') : wp (gt (r + 7)) σ fun e σ' => e = vs.length ∧ QS n σ σ' r vs r' vs' 0 := by
  obtain ⟨m, fr, out, ns, ns', S, P, q1, q2, hN, hnd, hlen⟩ := q
  have hD := dQ_dom (r := r) (n := n) (by rcases hh.r with h | h <;> omega) hh.n
  refine wp_ret (wp_get S (hD.r 7 (by omega) (by omega)) fun σ' S' => ?_)
  exact ⟨by rw [q1.held, q1.len], m, fr, out, ns, ns', S', P, q1, q2, hN, hnd, hlen⟩
theorem QS.left (q : QS n σ σ r vs r' vs' 0) (hh : QHyp n r r') : wp (pLeft (pQ n)) σ fun e σ' => e = n - vs.length - vs'.length ∧ QS n σ σ' r vs r' vs' 0 := by
  obtain ⟨m, fr, out, ns, ns', S, P, q1, q2, hN, hnd, hlen⟩ := q
  have hD := dQ_dom (r := r) (n := n) (by rcases hh.r with h | h <;> omega) hh.n
  have e1 := q1.len; have e2 := q2.len
  refine wp_ret (wp_pLeft S P hD.pool fun σ' S' => ?_)
  exact ⟨by simp only; omega, m, fr, out, ns, ns', S', P, q1, q2, hN, hnd, hlen⟩
end
end Go.En
