/-
  Layer 37: a tree's programs on arbitrary words.
  Layer 37: a tree's operations on arbitrary words; the law Lost.
  Layer 37: the law Lost.
-/
import Derived.Test.YtmpdclbiopalaaaYM
namespace Go.En
open Prog Spc

section
variable {A : Int → Prop} {σ0 σ σ' : Spc} {c : Nat} {α : Type} {Q : α → Spc → Prop} {p : Pl} {root k v a b : Int} {w : Wk}
theorem PoolD.toA (h : PoolD A p) : PoolA A p := ⟨h.r, fun a ha => by have := h.n a (node_isN ha) 0 (by omega) (by omega); rwa [Int.add_zero] at this⟩
theorem node_R5 {x : Int} (h : (p.node x).isSome = true) : R64 x := by
  have := node_l h
  exact ⟨by omega, by omega⟩
theorem wd_dUn {q : Unit → Prog α} {e : Int} (H : Wld A σ0 σ c) (he : e ≠ 0) (hk : ∀ σ', Wld A σ0 σ' c → (σ'.en = false → σ'.pu = σ0.pu) → wp (q ()) σ' Q) : wp (dUn e σ0.pu.length >>= q) σ Q := by
  unfold dUn
  rw [if_pos he]
  exact wd_back H hk
/-- how many looks are left -/
def Wk.bd : Wk → Nat
  | .ok n => n.val
  | .no _ => 0
theorem bd_is : (tIs p w a).2.bd ≤ w.bd := by
  cases w with
  | no l => exact Nat.le_refl _
  | ok n =>
    unfold tIs
    dsimp only
    split
    · exact Nat.le_refl _
    · split
      · show n.val - 1 ≤ n.val; omega
      · exact Nat.zero_le _
theorem bd_dn (h : (tIs p w a).1 = true) : (tIs p w a).2.bd + 1 ≤ w.bd := by
  cases w with
  | no l => cases h
  | ok n =>
    unfold tIs at h ⊢
    dsimp only at h ⊢
    split at h
    · cases h
    · rename_i h0
      split at h
      · rename_i h1
        rw [if_neg h0, if_pos h1]
        show n.val - 1 + 1 ≤ n.val
        omega
      · cases h
theorem n_at (hD : PoolD A p) (h : (p.node a).isSome = true) {i : Int} (h0 : 0 ≤ i) (h1 : i ≤ 7) : A (a + i) := hD.n a (node_isN h) i h0 h1
theorem n_at0 (hD : PoolD A p) (h : (p.node a).isSome = true) : A a := by have := n_at hD h (i := 0) (by omega) (by omega); rwa [Int.add_zero] at this
theorem wd_of {cell : Int} {q : Int × Wk → Prog α} (H : Wld A σ0 σ c) (hD : PoolD A p) (h0 : 0 ≤ cell) (h1 : cell ≤ 7) (hk : ∀ v w' σ', Wld A σ0 σ' c → σ'.pu = σ.pu → w'.bd ≤ w.bd → wp (q (v, w')) σ' Q) : wp (tOf p w a cell >>= q) σ Q := by
  unfold tOf
  split
  · rename_i hi
    rw [wp_bind]
    exact wd_get H (n_at hD (tIs_n hi) h0 h1) fun v σ1 _ e H => hk v _ σ1 H e bd_is
  · exact hk 0 _ σ H rfl bd_is
theorem wd_ref {q : Wk → Prog α} (H : Wld A σ0 σ c) (hD : PoolD A p) (ha : (p.node a).isSome = true) (hl : σ0.pu.length + c + 2 ≤ big) (hk : ∀ w' σ', Wld A σ0 σ' (c + 2) → w'.bd ≤ w.bd → wp (q w') σ' Q) : wp (tRef p w a >>= q) σ Q := by
  unfold tRef
  rw [wp_bind]
  refine wd_get H (n_at hD ha (by omega) (by omega)) fun l σ1 _ _ H => ?_
  refine wd_get H (n_at hD ha (by omega) (by omega)) fun r σ1 _ _ H => ?_
  refine wd_of H hD (by omega) (by omega) fun x1 w1 σ1 H _ b1 => ?_
  refine wd_of H hD (by omega) (by omega) fun x2 w2 σ2 H _ b2 => ?_
  refine wd_put H (n_at hD ha (by omega) (by omega)) (w64_in _) (by omega) fun σ3 H => ?_
  unfold tRefT
  refine wd_get H (n_at hD ha (by omega) (by omega)) fun v σ1 _ _ H => ?_
  refine wd_of H hD (by omega) (by omega) fun x3 w3 σ1 H _ b3 => ?_
  refine wd_of H hD (by omega) (by omega) fun x4 w4 σ2 H _ b4 => ?_
  refine wd_put H (n_at hD ha (by omega) (by omega)) (w64_in _) (by omega) fun σ3 H => ?_
  exact hk _ _ H (by dsimp only at *; omega)
theorem zR : R64 0 := ⟨by decide, by decide⟩
theorem wd_spl (hD : PoolD A p) : ∀ (f : Nat) {c : Nat} {w : Wk} {a : Int} {σ : Spc}, Wld A σ0 σ c → σ0.pu.length + c + 3 * w.bd ≤ big → wp (tSpl p k f w a) σ fun r σ' => Wld A σ0 σ' (c + 3 * w.bd) ∧ R64 r.1.1 ∧ R64 r.1.2 ∧ r.2.bd ≤ w.bd
  | 0, c, w, a, σ, H, hl => ⟨H.mono (by omega), zR, zR, Nat.le_refl _⟩
  | f + 1, c, w, a, σ, H, hl => by
    unfold tSpl
    split
    · rename_i hi
      have hn := tIs_n hi
      have hb := bd_dn hi
      have hR := node_R5 hn
      refine wd_get H (n_at0 hD hn) fun x σ1 _ _ H => ?_
      split
      · refine wd_get H (n_at hD hn (by omega) (by omega)) fun r σ1 _ _ H => ?_
        rw [wp_bind]
        refine Prog.wp_mono (wd_spl hD f (w := (tIs p w a).2) H (by omega)) fun s σ2 ⟨H, r1, r2, b1⟩ => ?_
        refine wd_put H (n_at hD hn (by omega) (by omega)) r1 (by omega) fun σ3 H => ?_
        refine wd_ref H hD hn (by omega) fun w' σ4 H b2 => ?_
        exact ⟨H.mono (by omega), hR, r2, by dsimp only; omega⟩
      · refine wd_get H (n_at hD hn (by omega) (by omega)) fun r σ1 _ _ H => ?_
        rw [wp_bind]
        refine Prog.wp_mono (wd_spl hD f (w := (tIs p w a).2) H (by omega)) fun s σ2 ⟨H, r1, r2, b1⟩ => ?_
        refine wd_put H (n_at hD hn (by omega) (by omega)) r2 (by omega) fun σ3 H => ?_
        refine wd_ref H hD hn (by omega) fun w' σ4 H b2 => ?_
        exact ⟨H.mono (by omega), r1, hR, by dsimp only; omega⟩
    · exact ⟨H.mono (by omega), zR, zR, bd_is⟩
theorem wd_mrg (hD : PoolD A p) : ∀ (f : Nat) {c : Nat} {w : Wk} {a b : Int} {σ : Spc}, R64 b → Wld A σ0 σ c → σ0.pu.length + c + 3 * w.bd ≤ big → wp (tMrg p f w a b) σ fun r σ' => Wld A σ0 σ' (c + 3 * w.bd) ∧ R64 r.1 ∧ r.2.bd ≤ w.bd
  | 0, c, w, a, b, σ, hb, H, hl => ⟨H.mono (by omega), hb, Nat.le_refl _⟩
  | f + 1, c, w, a, b, σ, hb, H, hl => by
    unfold tMrg
    split
    · rename_i hi
      have hn := tIs_n hi
      have hbd := bd_dn hi
      have hR := node_R5 hn
      dsimp only
      split
      · rename_i hj
        have hm := tIs_n hj
        have hbe := bd_dn hj
        refine wd_get H (n_at0 hD hn) fun x σ1 _ _ H => ?_
        refine wd_get H (n_at0 hD hm) fun y σ1 _ _ H => ?_
        split
        · refine wd_get H (n_at hD hn (by omega) (by omega)) fun r σ1 _ _ H => ?_
          rw [wp_bind]
          refine Prog.wp_mono (wd_mrg hD f (w := (tIs p (tIs p w a).2 b).2) hb H (by omega)) fun s σ2 ⟨H, r1, b1⟩ => ?_
          refine wd_put H (n_at hD hn (by omega) (by omega)) r1 (by omega) fun σ3 H => ?_
          refine wd_ref H hD hn (by omega) fun w' σ4 H b2 => ?_
          exact ⟨H.mono (by omega), hR, by dsimp only; omega⟩
        · refine wd_get H (n_at hD hm (by omega) (by omega)) fun r σ1 hr _ H => ?_
          rw [wp_bind]
          refine Prog.wp_mono (wd_mrg hD f (w := (tIs p (tIs p w a).2 b).2) hr H (by omega)) fun s σ2 ⟨H, r1, b1⟩ => ?_
          refine wd_put H (n_at hD hm (by omega) (by omega)) r1 (by omega) fun σ3 H => ?_
          refine wd_ref H hD hm (by omega) fun w' σ4 H b2 => ?_
          exact ⟨H.mono (by omega), hb, by dsimp only; omega⟩
      · exact ⟨H.mono (by omega), hR, Nat.le_trans bd_is bd_is⟩
    · exact ⟨H.mono (by omega), hb, bd_is⟩
theorem wd_pathL (hD : PoolD A p) : ∀ (f : Nat) {w : Wk} {a : Int} {acc : List (Int × Int)} {σ : Spc}, Wld A σ0 σ c → (∀ x ∈ acc, (p.node x.1).isSome = true) → wp (tPathL p k f w a acc) σ fun r σ' => Wld A σ0 σ' c ∧ σ'.pu = σ.pu ∧ (∀ x ∈ r.1, (p.node x.1).isSome = true) ∧ r.1.length ≤ acc.length + f ∧ r.2.bd ≤ w.bd
  | 0, w, a, acc, σ, H, hn => ⟨H, rfl, hn, Nat.le_refl _, by
      show (if (tIs p w a).1 = true then (tIs p w a).2.lose else (tIs p w a).2).bd ≤ _
      have := bd_is (p := p) (w := w) (a := a)
      split
      · refine Nat.le_trans ?_ this
        cases (tIs p w a).2 <;> exact Nat.zero_le _
      · exact this⟩
  | f + 1, w, a, acc, σ, H, hn => by
    have hb := bd_is (p := p) (w := w) (a := a)
    have hsn : ∀ (x : Int), (p.node a).isSome = true → ∀ y ∈ acc ++ [(a, x)], (p.node y.1).isSome = true := fun x h y hy => by
      rcases List.mem_append.1 hy with h1 | h1
      · exact hn y h1
      · rw [List.mem_singleton] at h1; subst h1; exact h
    unfold tPathL
    split
    · rename_i hi
      have hna := tIs_n hi
      refine wd_get H (n_at0 hD hna) fun x σ1 _ e1 H => ?_
      split
      · exact ⟨H, e1, hsn x hna, by rw [List.length_append, List.length_singleton]; omega, hb⟩
      · have hkc : kidc k x = 2 ∨ kidc k x = 3 := by unfold kidc; split <;> simp
        refine wd_get H (n_at hD hna (by omega) (by omega)) fun b σ2 _ e2 H => ?_
        refine Prog.wp_mono (wd_pathL hD f H (hsn x hna)) fun r σ3 ⟨H, e3, h1, h2, h3⟩ => ?_
        rw [List.length_append, List.length_singleton] at h2
        exact ⟨H, e3.trans (e2.trans e1), h1, by omega, Nat.le_trans h3 hb⟩
    · exact ⟨H, rfl, hn, Nat.le_add_right _ _, hb⟩
theorem wd_tAdd {n v : Int} (hD : PoolD A p) : ∀ {l : List (Int × Int)} {c : Nat} {σ : Spc} {q : Unit → Prog α}, Wld A σ0 σ c → (∀ x ∈ l, (p.node x.1).isSome = true) → σ0.pu.length + c + 2 * l.length ≤ big → (∀ σ', Wld A σ0 σ' (c + 2 * l.length) → wp (q ()) σ' Q) → wp (tAdd n v l >>= q) σ Q
  | [], c, σ, q, H, hn, hl, hk => hk σ H
  | x :: l, c, σ, q, H, hn, hl, hk => by
    have hx := hn x (List.mem_cons_self ..)
    rw [List.length_cons] at hl hk
    have key : ∀ {σ : Spc}, Wld A σ0 σ (c + 2) → wp (tAdd n v l >>= q) σ Q := fun H =>
      wd_tAdd hD H (fun y hy => hn y (List.mem_cons_of_mem _ hy)) (by omega) fun σ' H => hk σ' (H.mono (by omega))
    have k1 : ∀ {σ : Spc}, Wld A σ0 σ (c + 1) → wp ((if v ≠ 0 then gt (x.1 + 5) >>= fun c => pt (x.1 + 5) (w64 (c + v)) else pure ()) >>= fun _ => tAdd n v l >>= q) σ Q := fun H => by
      split
      · rw [wp_bind]
        refine wd_get H (n_at hD hx (by omega) (by omega)) fun y σ1 _ _ H => ?_
        rw [← wp_bind]
        exact wd_put H (n_at hD hx (by omega) (by omega)) (w64_in _) (by omega) fun σ2 H => key H
      · exact key (H.mono (by omega))
    show wp (((if n ≠ 0 then gt (x.1 + 4) >>= fun c => pt (x.1 + 4) (w64 (c + n)) else pure ()) >>= fun _ => (if v ≠ 0 then gt (x.1 + 5) >>= fun c => pt (x.1 + 5) (w64 (c + v)) else pure ()) >>= fun _ => tAdd n v l) >>= q) σ Q
    rw [wp_bind, wp_bind]
    split
    · refine wd_get H (n_at hD hx (by omega) (by omega)) fun y σ1 _ _ H => ?_
      rw [wp_pt]
      refine ⟨w64_in _, Nat.le_trans H.len (by omega), ?_⟩
      have H2 := H.put (n_at hD hx (i := 4) (by omega) (by omega)) (w64_in (y + n)) (by omega)
      have := k1 H2
      rw [wp_bind] at this ⊢
      exact Prog.wp_mono this fun _ σ' h => by rw [← wp_bind]; exact h
    · have := k1 (H.mono (Nat.le_succ c))
      show wp (_ >>= fun _ => tAdd n v l) σ _
      rw [wp_bind] at this ⊢
      exact Prog.wp_mono this fun _ σ' h => by rw [← wp_bind]; exact h
theorem wd_hang {q : Unit → Prog α} {l : List (Int × Int)} (H : Wld A σ0 σ c) (hD : PoolD A p) (hr : A root) (hn : ∀ x ∈ l, (p.node x.1).isSome = true) (ha : R64 a) (hl : σ0.pu.length + c ≤ big) (hk : ∀ σ', Wld A σ0 σ' (c + 1) → wp (q ()) σ' Q) : wp (tHang root k a l >>= q) σ Q := by
  unfold tHang
  cases hx : l.getLast? with
  | none => exact wd_put H hr ha hl hk
  | some x =>
    have hkc : kidc k x.2 = 2 ∨ kidc k x.2 = 3 := by unfold kidc; split <;> simp
    exact wd_put H (n_at hD (hn x (List.mem_of_getLast? hx)) (by omega) (by omega)) ha hl hk
end
end Go.En
namespace Go.En
open Prog Spc Go.Sort

section
variable {A : Int → Prop} {σ0 σ σ' : Spc} {c : Nat} {α : Type} {Q : α → Spc → Prop} {p : Pl} {root k v a b : Int} {w : Wk}
theorem wk0_bd : (wk0 p).bd ≤ 64 * (p.nodes.toNat + 1) := Nat.mod_le _ _
theorem wd_path (hD : PoolD A p) (hr : A root) (H : Wld A σ0 σ c) : wp (tPath p root k w) σ fun r σ' => Wld A σ0 σ' c ∧ σ'.pu = σ.pu ∧ (∀ x ∈ r.1, (p.node x.1).isSome = true) ∧ r.1.length ≤ p.nodes.toNat ∧ r.2.bd ≤ w.bd := by
  unfold tPath
  refine wd_get H hr fun a σ1 _ e1 H => ?_
  refine Prog.wp_mono (wd_pathL hD p.nodes.toNat H fun x hx => by cases hx) fun r σ' ⟨H, e2, h1, h2, h3⟩ => ⟨H, e2.trans e1, h1, by simpa using h2, h3⟩
/-- an error undoes -/
abbrev Un3 (σ σ' : Spc) (e : Int × Bool × Int) : Prop := e.2.2 ≠ 0 → σ'.en = false → σ'.pu = σ.pu
/-- what an operation may write -/
def tWr (p : Pl) : Nat := 192 * (p.nodes.toNat + 1) + 4 * p.nodes.toNat + 20
theorem cut_sub {l : List (Int × Int)} {x : Int × Int} (h : x ∈ cutL k l) : x ∈ l := (List.takeWhile_sublist _).subset h
theorem cut_len {l : List (Int × Int)} : (cutL k l).length ≤ l.length := by unfold cutL; exact (List.takeWhile_sublist _).length_le
theorem wd_putU {l : List (Int × Int)} {s : (Int × Int) × Wk} {n : Int} (hD : PoolD A p) (hRD : RootD A root) (H : Wld A σ0 σ c) (hn : (p.node n).isSome = true) (hl : ∀ x ∈ l, (p.node x.1).isSome = true) (h1 : R64 s.1.1) (h2 : R64 s.1.2) (hb : σ0.pu.length + c + 2 * l.length + 10 ≤ big) :
    wp (tPutU p root k v σ0.pu.length l s n) σ fun e σ' => Wld A σ0 σ' (c + 2 * l.length + 10) ∧ Un3 σ0 σ' e := by
  have r0 := hRD 0 (by omega) (by omega)
  rw [Int.add_zero] at r0
  unfold tPutU
  refine wd_put H (n_at hD hn (by omega) (by omega)) h1 (by omega) fun σ1 H => ?_
  refine wd_put H (n_at hD hn (by omega) (by omega)) h2 (by omega) fun σ1 H => ?_
  refine wd_ref H hD hn (by omega) fun w σ2 H _ => ?_
  refine wd_tAdd hD H hl (by omega) fun σ3 H => ?_
  refine wd_hang H hD r0 hl (node_R5 hn) (by omega) fun σ4 H => ?_
  refine wd_get H (hRD 7 (by omega) (by omega)) fun x σ5 _ _ H => ?_
  refine wd_put H (hRD 7 (by omega) (by omega)) (w64_in _) (by omega) fun σ6 H => ?_
  split
  · exact wd_dUn H (by decide) fun σ7 H hu => ⟨H.mono (by omega), fun _ => hu⟩
  · exact ⟨H.mono (by omega), fun h => absurd rfl h⟩
theorem wd_tPut (hD : PoolD A p) (hRD : RootD A root) (hk : R64 k) (hv : R64 v) (hw : σ.wf) (hb : σ.pu.length + tWr p ≤ big) : wp (tPut p root k v) σ fun e σ' => Wld A σ σ' (tWr p) ∧ Un3 σ σ' e := by
  have r0 := hRD 0 (by omega) (by omega)
  rw [Int.add_zero] at r0
  have hbd := wk0_bd (p := p)
  unfold tWr at *
  unfold tPut
  refine wd_mark ?_
  rw [wp_bind]
  refine Prog.wp_mono (wd_path hD r0 (Wld.start (A := A) hw)) fun r σ1 ⟨H, e1, hn, hln, hrb⟩ => ?_
  split
  · exact wd_dUn H (by decide) fun σ7 H hu => ⟨H.mono (by omega), fun _ => hu⟩
  split
  · rename_i hf
    unfold tFnd at hf
    unfold tPutF
    cases hx : r.1.getLast? with
    | none => rw [hx] at hf; cases hf
    | some y =>
      have hy := hn y (List.mem_of_getLast? hx)
      show wp (gt (y.1 + 1) >>= fun old => pt (y.1 + 1) v >>= fun _ => _) σ1 _
      refine wd_get H (n_at hD hy (by omega) (by omega)) fun old σ2 _ _ H => ?_
      refine wd_put H (n_at hD hy (by omega) (by omega)) hv (by omega) fun σ3 H => ?_
      refine wd_tAdd hD H hn (by omega) fun σ4 H => ?_
      exact ⟨H.mono (by omega), fun h => absurd rfl h⟩
  · refine wd_take H hD.toA (by omega) (fun x σ2 hx H => ?_) fun e σ2 he H hpu => ?_
    · rw [if_neg (by simp)]
      unfold tPutT
      refine wd_put H (n_at0 hD hx) hk (by omega) fun σ3 H => ?_
      refine wd_put H (n_at hD hx (by omega) (by omega)) hv (by omega) fun σ3 H => ?_
      have hcl := cut_len (k := k) (l := r.1)
      have hcn : ∀ y ∈ cutL k r.1, (p.node y.1).isSome = true := fun y hy => hn y (cut_sub hy)
      cases hd : r.1.drop (cutL k r.1).length with
      | nil =>
        show wp (tPutU p root k v σ.pu.length (cutL k r.1) ((0, 0), r.2) x) σ3 _
        exact Prog.wp_mono (wd_putU hD hRD H hx hcn zR zR (by omega)) fun e σ4 ⟨H, U⟩ => ⟨H.mono (by omega), U⟩
      | cons y l' =>
        show wp (tSpl p k (fu p) r.2 y.1 >>= fun s => tPutU p root k v σ.pu.length (cutL k r.1) s x) σ3 _
        rw [wp_bind]
        refine Prog.wp_mono (wd_spl hD (fu p) H (by omega)) fun s σ4 ⟨H, r1, r2, _⟩ => ?_
        exact Prog.wp_mono (wd_putU hD hRD H hx hcn r1 r2 (by omega)) fun e σ4 ⟨H, U⟩ => ⟨H.mono (by omega), U⟩
    · have hne : e ≠ 0 := by
        rcases he with ⟨rfl, _⟩ | ⟨_, rfl | rfl⟩ <;> decide
      rw [if_pos hne]
      exact wd_dUn H hne fun σ7 H hu => ⟨H.mono (by omega), fun _ => hu⟩
theorem wd_tDrop (hD : PoolD A p) (hRD : RootD A root) (hw : σ.wf) (hb : σ.pu.length + tWr p ≤ big) : wp (tDrop p root k) σ fun e σ' => Wld A σ σ' (tWr p) ∧ Un3 σ σ' e := by
  have r0 := hRD 0 (by omega) (by omega)
  rw [Int.add_zero] at r0
  have hbd := wk0_bd (p := p)
  unfold tWr at *
  unfold tDrop
  refine wd_mark ?_
  rw [wp_bind]
  refine Prog.wp_mono (wd_path hD r0 (Wld.start (A := A) hw)) fun r σ1 ⟨H, e1, hn, hln, hrb⟩ => ?_
  split
  · exact wd_dUn H (by decide) fun σ7 H hu => ⟨H.mono (by omega), fun _ => hu⟩
  split
  · rename_i hf
    unfold tFnd at hf
    cases hx : r.1.getLast? with
    | none => rw [hx] at hf; cases hf
    | some y =>
      have hy := hn y (List.mem_of_getLast? hx)
      have hdn : ∀ x ∈ r.1.dropLast, (p.node x.1).isSome = true := fun x hx => hn x ((List.dropLast_sublist _).subset hx)
      have hdl : r.1.dropLast.length ≤ r.1.length := by rw [List.length_dropLast]; omega
      show wp (tDropT p root k σ.pu.length r.1.dropLast r.2 y.1) σ1 _
      unfold tDropT
      refine wd_get H (n_at hD hy (by omega) (by omega)) fun old σ2 _ _ H => ?_
      refine wd_get H (n_at hD hy (by omega) (by omega)) fun x σ2 _ _ H => ?_
      refine wd_get H (n_at hD hy (by omega) (by omega)) fun z σ2 hz _ H => ?_
      rw [wp_bind]
      refine Prog.wp_mono (wd_mrg hD (fu p) hz H (by omega)) fun s σ3 ⟨H, r1, _⟩ => ?_
      refine wd_hang H hD r0 hdn r1 (by omega) fun σ4 H => ?_
      refine wd_tAdd hD H hdn (by omega) fun σ5 H => ?_
      unfold tDropU
      refine wd_get H (hRD 7 (by omega) (by omega)) fun x σ5 _ _ H => ?_
      refine wd_put H (hRD 7 (by omega) (by omega)) (w64_in _) (by omega) fun σ6 H => ?_
      split
      · exact wd_dUn H (by decide) fun σ7 H hu => ⟨H.mono (by omega), fun _ => hu⟩
      · refine wd_give H hD.toA (by omega) (node_R5 hy) (fun σ7 _ H => ?_) fun h => ?_
        · rw [if_neg (by simp)]
          exact ⟨H.mono (by omega), fun h => absurd rfl h⟩
        · rw [hy] at h; cases h
  · exact ⟨H.mono (by omega), fun h => absurd rfl h⟩
/-! ### Reads -/
abbrev Rd (A : Int → Prop) (σ0 σ : Spc) (c : Nat) (σ' : Spc) : Prop := Wld A σ0 σ' c ∧ σ'.pu = σ.pu
theorem Rd.tr {σ1 σ2 : Spc} (e : σ1.pu = σ.pu) (h : Rd A σ0 σ1 c σ2) : Rd A σ0 σ c σ2 := ⟨h.1, h.2.trans e⟩
theorem wd_getL (hD : PoolD A p) : ∀ (f : Nat) {w : Wk} {a : Int} {σ : Spc}, Wld A σ0 σ c → wp (tGetL p k f w a) σ fun _ σ' => Rd A σ0 σ c σ'
  | 0, w, a, σ, H => ⟨H, rfl⟩
  | f + 1, w, a, σ, H => by
    unfold tGetL
    split
    · rename_i hi
      have hn := tIs_n hi
      refine wd_get H (n_at0 hD hn) fun x σ1 _ e1 H => ?_
      split
      · exact wd_get H (n_at hD hn (by omega) (by omega)) fun v σ2 _ e2 H => ⟨H, e2.trans e1⟩
      · have hkc : kidc k x = 2 ∨ kidc k x = 3 := by unfold kidc; split <;> simp
        refine wd_get H (n_at hD hn (by omega) (by omega)) fun b σ2 _ e2 H => ?_
        exact Prog.wp_mono (wd_getL hD f H) fun _ σ' h => h.tr (e2.trans e1)
    · exact ⟨H, rfl⟩
theorem wd_tGet (hD : PoolD A p) (hr : A root) (H : Wld A σ0 σ c) : wp (tGet p root k) σ fun _ σ' => Rd A σ0 σ c σ' := by
  unfold tGet
  exact wd_get H hr fun a σ1 _ e1 H => Prog.wp_mono (wd_getL hD _ H) fun _ σ' h => h.tr e1
theorem wd_nextL (hD : PoolD A p) : ∀ (f : Nat) {w : Wk} {a : Int} {bb : Int × Bool} {σ : Spc}, Wld A σ0 σ c → wp (tNextL p k f w a bb) σ fun _ σ' => Rd A σ0 σ c σ'
  | 0, w, a, bb, σ, H => ⟨H, rfl⟩
  | f + 1, w, a, bb, σ, H => by
    unfold tNextL
    split
    · rename_i hi
      have hn := tIs_n hi
      refine wd_get H (n_at0 hD hn) fun x σ1 _ e1 H => ?_
      split
      · exact ⟨H, e1⟩
      · have hkc : kidc k x = 2 ∨ kidc k x = 3 := by unfold kidc; split <;> simp
        refine wd_get H (n_at hD hn (by omega) (by omega)) fun b σ2 _ e2 H => ?_
        exact Prog.wp_mono (wd_nextL hD f H) fun _ σ' h => h.tr (e2.trans e1)
    · exact ⟨H, rfl⟩
theorem wd_tNext (hD : PoolD A p) (hr : A root) (H : Wld A σ0 σ c) : wp (tNext p root k) σ fun _ σ' => Rd A σ0 σ c σ' := by
  unfold tNext
  exact wd_get H hr fun a σ1 _ e1 H => Prog.wp_mono (wd_nextL hD _ H) fun _ σ' h => h.tr e1
theorem wd_untL {wi sq : Bool} (hD : PoolD A p) : ∀ (f : Nat) {w : Wk} {a tot : Int} {σ : Spc}, Wld A σ0 σ c → wp (tUntL p k wi sq f w a tot) σ fun _ σ' => Rd A σ0 σ c σ'
  | 0, w, a, tot, σ, H => ⟨H, rfl⟩
  | f + 1, w, a, tot, σ, H => by
    have hcel : 0 ≤ cel sq ∧ cel sq ≤ 7 := by unfold cel; split <;> decide
    unfold tUntL
    split
    · rename_i hi
      have hn := tIs_n hi
      refine wd_get H (n_at0 hD hn) fun x σ1 _ e1 H => ?_
      split
      · refine wd_get H (n_at hD hn (by omega) (by omega)) fun b σ2 _ e2 H => ?_
        exact Prog.wp_mono (wd_untL hD f H) fun _ σ' h => h.tr (e2.trans e1)
      · have key : ∀ {o : Int} {σ3 : Spc}, Wld A σ0 σ3 c → σ3.pu = σ.pu → wp (gt (a + 2) >>= fun l => tOf p (wk0 p) l (cel sq) >>= fun s => gt (a + 3) >>= fun r => tUntL p k wi sq f (tIs p w a).2 r (w64 (tot + w64 (o + s.1)))) σ3 fun _ σ' => Rd A σ0 σ c σ' := fun H e => by
          refine wd_get H (n_at hD hn (by omega) (by omega)) fun l σ4 _ e4 H => ?_
          refine wd_of H hD hcel.1 hcel.2 fun v w' σ5 H e5 _ => ?_
          refine wd_get H (n_at hD hn (by omega) (by omega)) fun r σ6 _ e6 H => ?_
          exact Prog.wp_mono (wd_untL hD f H) fun _ σ' h => h.tr (e6.trans (e5.trans (e4.trans e)))
        unfold tOwn
        split
        · exact wd_get H (n_at hD hn (by omega) (by omega)) fun o σ3 _ e3 H => key H (e3.trans e1)
        · exact key (o := 1) H e1
    · exact ⟨H, rfl⟩
theorem wd_tUnt {wi sq : Bool} (hD : PoolD A p) (hr : A root) (H : Wld A σ0 σ c) : wp (tUnt p root k wi sq) σ fun _ σ' => Rd A σ0 σ c σ' := by
  unfold tUnt
  exact wd_get H hr fun a σ1 _ e1 H => Prog.wp_mono (wd_untL hD _ H) fun _ σ' h => h.tr e1
theorem wd_tBtw {sq : Bool} (hD : PoolD A p) (hr : A root) (H : Wld A σ0 σ c) : wp (tBtw p root a b sq) σ fun _ σ' => Rd A σ0 σ c σ' := by
  unfold tBtw
  split
  · exact ⟨H, rfl⟩
  · rw [wp_bind]
    refine Prog.wp_mono (wd_tUnt hD hr H) fun x σ1 ⟨H, e1⟩ => ?_
    rw [wp_bind]
    exact Prog.wp_mono (wd_tUnt hD hr H) fun y σ2 ⟨H, e2⟩ => ⟨H, e2.trans e1⟩
theorem wd_nthL (hD : PoolD A p) : ∀ (f : Nat) {w : Wk} {a n : Int} {σ : Spc}, Wld A σ0 σ c → wp (tNthL p f w a n) σ fun _ σ' => Rd A σ0 σ c σ'
  | 0, w, a, n, σ, H => ⟨H, rfl⟩
  | f + 1, w, a, n, σ, H => by
    unfold tNthL
    split
    · rename_i hi
      have hn := tIs_n hi
      refine wd_get H (n_at hD hn (by omega) (by omega)) fun l σ1 _ e1 H => ?_
      refine wd_of H hD (by omega) (by omega) fun v w' σ2 H e2 _ => ?_
      dsimp only
      split
      · exact wd_get H (n_at0 hD hn) fun x σ3 _ e3 H => ⟨H, e3.trans (e2.trans e1)⟩
      · split
        · exact Prog.wp_mono (wd_nthL hD f H) fun _ σ' h => h.tr (e2.trans e1)
        · refine wd_get H (n_at hD hn (by omega) (by omega)) fun r σ3 _ e3 H => ?_
          exact Prog.wp_mono (wd_nthL hD f H) fun _ σ' h => h.tr (e3.trans (e2.trans e1))
    · exact ⟨H, rfl⟩
theorem wd_tNth {n : Int} (hD : PoolD A p) (hr : A root) (H : Wld A σ0 σ c) : wp (tNth p root n) σ fun _ σ' => Rd A σ0 σ c σ' := by
  unfold tNth
  split
  · exact ⟨H, rfl⟩
  · exact wd_get H hr fun a σ1 _ e1 H => Prog.wp_mono (wd_nthL hD _ H) fun _ σ' h => h.tr e1
/-- each is greater than the one before -/
def Asc (l : List Int) : Prop := ∀ j x y, l[j]? = some x → l[j + 1]? = some y → x < y
theorem Asc.snoc {l : List Int} {k : Int} (h : Asc l) (hk : ¬ (0 < l.length ∧ k ≤ (l.getLast?).getD 0)) : Asc (l ++ [k]) := by
  intro j x y hx hy
  rcases Nat.lt_trichotomy (j + 1) l.length with h1 | h1 | h1
  · rw [List.getElem?_append_left (by omega)] at hx hy
    exact h j x y hx hy
  · rw [List.getElem?_append_left (by omega)] at hx
    rw [List.getElem?_append_right (by omega), h1, Nat.sub_self] at hy
    have ey : k = y := by simpa using hy
    have hg : l.getLast? = some x := by rw [List.getLast?_eq_getElem?, ← hx]; congr 1; omega
    rw [hg] at hk
    have hk : ¬ (0 < l.length ∧ k ≤ x) := hk
    omega
  · rw [List.getElem?_append_right (by omega)] at hy
    obtain ⟨b, hb⟩ : ∃ b, j + 1 - l.length = b + 1 := ⟨j - l.length, by omega⟩
    rw [hb] at hy
    simp at hy
structure WlkOk (p : Pl) (x : Wlk) : Prop where
  asc : Asc x.ks
  len : x.ks.length = x.vs.length
  le : x.ks.length ≤ p.nodes.toNat
theorem wd_belE {nv : Int × Int} {x : Wlk} (hD : PoolD A p) (ha : (p.node a).isSome = true) (hx : WlkOk p x) (H : Wld A σ0 σ c) : wp (tBelE a nv x) σ fun r σ' => Rd A σ0 σ c σ' ∧ WlkOk p r.2 := by
  unfold tBelE
  split
  · exact ⟨⟨H, rfl⟩, ⟨hx.asc, hx.len, hx.le⟩⟩
  · refine wd_get H (n_at hD ha (by omega) (by omega)) fun v σ1 _ e1 H => ?_
    split
    · exact ⟨⟨H, e1⟩, ⟨hx.asc, hx.len, hx.le⟩⟩
    · exact wd_get H (n_at hD ha (by omega) (by omega)) fun v σ2 _ e2 H => ⟨⟨H, e2.trans e1⟩, ⟨hx.asc, hx.len, hx.le⟩⟩
theorem wd_bel (hD : PoolD A p) : ∀ (f : Nat) {x : Wlk} {a : Int} {σ : Spc}, WlkOk p x → Wld A σ0 σ c → wp (tBel p f x a) σ fun r σ' => Rd A σ0 σ c σ' ∧ WlkOk p r.2
  | 0, x, a, σ, hx, H => ⟨⟨H, rfl⟩, hx⟩
  | f + 1, x, a, σ, hx, H => by
    unfold tBel
    split
    · exact ⟨⟨H, rfl⟩, hx⟩
    · split
      · rename_i hi
        have hn := tIs_n hi
        refine wd_get H (n_at hD hn (by omega) (by omega)) fun l σ1 _ e1 H => ?_
        rw [wp_bind]
        refine Prog.wp_mono (wd_bel hD f (x := { x with w := (tIs p x.w a).2 }) ⟨hx.asc, hx.len, hx.le⟩ H) fun s σ2 ⟨⟨H, e2⟩, hs⟩ => ?_
        refine wd_get H (n_at0 hD hn) fun k σ3 _ e3 H => ?_
        split
        · exact ⟨⟨H, e3.trans (e2.trans e1)⟩, ⟨hs.asc, hs.len, hs.le⟩⟩
        · rename_i hc
          refine wd_get H (n_at hD hn (by omega) (by omega)) fun v σ4 _ e4 H => ?_
          refine wd_get H (n_at hD hn (by omega) (by omega)) fun r σ5 _ e5 H => ?_
          rw [wp_bind]
          refine Prog.wp_mono (wd_bel hD f (x := { s.2 with ks := s.2.ks ++ [k], vs := s.2.vs ++ [v] }) ⟨hs.asc.snoc fun h => hc (.inr (.inr h)), by show (s.2.ks ++ [k]).length = (s.2.vs ++ [v]).length; rw [List.length_append, List.length_append, hs.len]; rfl, by show (s.2.ks ++ [k]).length ≤ _; rw [List.length_append, List.length_singleton]; have := fun h => hc (.inr (.inl h)); omega⟩ H) fun u σ6 ⟨⟨H, e6⟩, hu⟩ => ?_
          refine wd_get H (n_at hD hn (by omega) (by omega)) fun v2 σ7 _ e7 H => ?_
          refine Prog.wp_mono (wd_belE hD hn hu H) fun r σ8 ⟨h1, h2⟩ => ⟨h1.tr (e7.trans (e6.trans (e5.trans (e4.trans (e3.trans (e2.trans e1)))))), h2⟩
      · exact ⟨⟨H, rfl⟩, ⟨hx.asc, hx.len, hx.le⟩⟩
theorem wd_tWlk (hD : PoolD A p) (hRD : RootD A root) (H : Wld A σ0 σ c) : wp (tWlk p root) σ fun r σ' => Rd A σ0 σ c σ' ∧ ∀ z, r = some z → Asc z.1 ∧ z.1.length = z.2.length ∧ z.1.length ≤ p.nodes.toNat := by
  have r0 := hRD 0 (by omega) (by omega)
  rw [Int.add_zero] at r0
  unfold tWlk
  refine wd_get H r0 fun a σ1 _ e1 H => ?_
  rw [wp_bind]
  refine Prog.wp_mono (wd_bel hD (fu p) (x := ⟨wk0 p, [], [], false⟩) ⟨(fun j x y hx _ => by simp at hx), rfl, Nat.zero_le _⟩ H) fun s σ2 ⟨⟨H, e2⟩, hs⟩ => ?_
  split
  · exact ⟨⟨H, e2.trans e1⟩, (fun z h => by cases h)⟩
  · refine wd_get H (hRD 7 (by omega) (by omega)) fun x σ3 _ e3 H => ?_
    split
    · exact ⟨⟨H, e3.trans (e2.trans e1)⟩, (fun z h => by cases h)⟩
    · exact ⟨⟨H, e3.trans (e2.trans e1)⟩, fun z h => by
        injection h with h
        subst h
        exact ⟨hs.asc, hs.len, hs.le⟩⟩
end
end Go.En
namespace Go.En
open Prog Spc Go.Sort

variable {S : Sys} {I : Ids} {h h0 h' : Hp} {F F0 : Fp} {R : Value → Hp → Prop} {L : List Res} {s : Value} {σ τ : Spc}
/-- a space with arbitrary words that all are known -/
structure WTs (n : Int) (c : Nat) (σ : Spc) : Prop where
  hn : 0 ≤ n ∧ n ≤ 8
  wf : σ.wf
  en : σ.en = false
  kn : ∀ a, D37 n a → (σ.kn a).isSome = true
  pu : σ.pu.length ≤ c
  cb : c + 10000 ≤ big
section
variable {n a b k v : Int} {c : Nat} {σ' : Spc}
theorem WTs.of {d : Nat} (H : WTs n c σ) (W : Wld (D37 n) σ σ' d) (hb : c + d + 10000 ≤ big) : WTs n (c + d) σ' := ⟨H.hn, W.wf, W.en H.en H.kn, fun a ha => by rw [W.kn]; exact H.kn a ha, by have := W.len; have := H.pu; omega, hb⟩
theorem WTs.mono {c' : Nat} (H : WTs n c σ) (h : c ≤ c') (hb : c' + 10000 ≤ big) : WTs n c' σ := ⟨H.hn, H.wf, H.en, H.kn, Nat.le_trans H.pu h, hb⟩
theorem WTs.lk (H : WTs n c σ) (W : Rd (D37 n) σ σ 0 σ') : WTs n c σ' := H.of (d := 0) W.1 H.cb
theorem WTs.n100 (H : WTs n c σ) : 0 ≤ n ∧ n ≤ 100 := ⟨H.hn.1, by have := H.hn.2; omega⟩
theorem WTs.r0 (H : WTs n c σ) : D37 n 8 := ⟨by decide, by have := H.hn.1; omega⟩
theorem tWr8 (hn : 0 ≤ n ∧ n ≤ 8) : tWr (p37 n) ≤ 3000 := by
  have : n.toNat ≤ 8 := by omega
  show 192 * (n.toNat + 1) + 4 * n.toNat + 20 ≤ 3000
  omega
theorem WTs.put (H : WTs n c σ) (hk : R64 k) (hv : R64 v) (hb : c + 3000 + 10000 ≤ big) : wp (tPut (p37 n) 8 k v) σ fun e σ' => WTs n (c + 3000) σ' ∧ (e.2.2 ≠ 0 → σ'.pu = σ.pu) :=
  have G := p37_G H.n100
  have hp := H.pu
  have hw := tWr8 H.hn
  Prog.wp_mono (wd_tPut G.dp G.R hk hv H.wf (by omega)) fun e σ' ⟨W, U⟩ => ⟨(H.of W (by omega)).mono (by omega) hb, fun he => U he (W.en H.en H.kn)⟩
theorem WTs.drop (H : WTs n c σ) (hb : c + 3000 + 10000 ≤ big) : wp (tDrop (p37 n) 8 k) σ fun e σ' => WTs n (c + 3000) σ' ∧ (e.2.2 ≠ 0 → σ'.pu = σ.pu) :=
  have G := p37_G H.n100
  have hp := H.pu
  have hw := tWr8 H.hn
  Prog.wp_mono (wd_tDrop G.dp G.R H.wf (by omega)) fun e σ' ⟨W, U⟩ => ⟨(H.of W (by omega)).mono (by omega) hb, fun he => U he (W.en H.en H.kn)⟩
theorem WTs.get (H : WTs n c σ) : wp (tGet (p37 n) 8 k) σ fun _ σ' => WTs n c σ' :=
  Prog.wp_mono (wd_tGet (p37_G H.n100).dp H.r0 (Wld.start H.wf)) fun _ _ h => H.lk h
theorem WTs.next (H : WTs n c σ) : wp (tNext (p37 n) 8 k) σ fun _ σ' => WTs n c σ' :=
  Prog.wp_mono (wd_tNext (p37_G H.n100).dp H.r0 (Wld.start H.wf)) fun _ _ h => H.lk h
theorem WTs.nth (H : WTs n c σ) : wp (tNth (p37 n) 8 k) σ fun _ σ' => WTs n c σ' :=
  Prog.wp_mono (wd_tNth (p37_G H.n100).dp H.r0 (Wld.start H.wf)) fun _ _ h => H.lk h
theorem WTs.btw {sq : Bool} (H : WTs n c σ) : wp (tBtw (p37 n) 8 a b sq) σ fun _ σ' => WTs n c σ' :=
  Prog.wp_mono (wd_tBtw (p37_G H.n100).dp H.r0 (Wld.start H.wf)) fun _ _ h => H.lk h
theorem WTs.wlk (H : WTs n c σ) : wp (tWlk (p37 n) 8) σ fun r σ' => WTs n c σ' ∧ ∀ z, r = some z → Asc z.1 ∧ z.1.length = z.2.length ∧ z.1.length ≤ (p37 n).nodes.toNat :=
  Prog.wp_mono (wd_tWlk (p37_G H.n100).dp (p37_G H.n100).R (Wld.start H.wf)) fun _ _ h => ⟨H.lk h.1, h.2⟩
end
/-- words of a list, then zeros -/
def wg37 (xs : List Int) (i : Nat) : W3 := ⟨xs[i]?.getD 0, 0, 0⟩
theorem kFsnoc (g : Nat → W3) (j : Nat) : knF g (j + 1) = knF g j ++ [((j : Int), g j)] := by unfold knF; rw [List.range_succ, List.map_append]; rfl
theorem kFnew {g : Nat → W3} {j : Nat} {w : W3} : updA (knF g j) (j : Int) w = knF g j ++ [((j : Int), w)] := by
  refine updA_end ?_
  rw [knF_look, if_neg (by omega)]
theorem kFupd2 {g : Nat → W3} {j : Nat} {w : W3} : updA (knF g j ++ [((j : Int), w)]) (j : Int) (g j) = knF g (j + 1) := by
  rw [kFsnoc]
  refine updA_mid (fun q hq => ?_) rfl
  obtain ⟨i, hi, rfl⟩ := List.mem_map.1 hq
  have := List.mem_range.1 hi
  show (i : Int) ≠ j
  omega
section
variable {l : List C37} {b1 b2 : Value} {xs : List Int}
set_option maxHeartbeats 800000 in
theorem L_TreeLost (cs : CsX4 S I) (s0 : Sl EI1 h b1 xs) (w0 : ∀ x ∈ xs, R64 x) (s1 : Sl ECl h b2 l) (w1 : ∀ x ∈ l, x.ok) (hR : ∀ h', Gr h h' → R (.bool true) h') : F_simulcastlaw37_TreeLost S I b1 b2 h R := by
  have h8 : (0 : Int) ≤ 8 ∧ (8 : Int) ≤ 4000 := by decide
  have r8 : R64 8 := by decide
  have hp0 : 0 ≤ (p37 8).nodes ∧ (p37 8).nodes ≤ 1000 := by decide
  unfold F_simulcastlaw37_TreeLost
  refine cs.awake37 fun h1 g => ?_
  have c := (Cx.start0 h).more g
  rw [uno_nb, vb_some, Bool.not_true, br_false]
  refine Jn1.at (fun v h' => ∃ bb : Bool, v = .bool bb ∧ (bb = false → xs.length ≤ 200 ∧ l.length ≤ 20) ∧ h' = h1) ?_ ?_
  · rw [s0.ln, vb_some, bin_gtr, vb_some]
    refine brd (fun h2 => ⟨true, rfl, (fun e => by cases e), rfl⟩) fun h2 => ?_
    rw [s1.ln, vb_some, bin_gtr, vb_some]
    exact ⟨_, rfl, fun e => ⟨by omega, by have := of_decide_eq_false e; omega⟩, rfl⟩
  rintro v h2 ⟨bb, rfl, hbb, rfl⟩
  cases bb with
  | true => rw [br_true]; exact hR _ c.gr
  | false =>
  obtain ⟨hxl, hll⟩ := hbb rfl
  rw [br_false]
  refine cs.made37 (n := 8) ⟨by decide, by decide⟩ fun h3 g => ?_
  have c := c.more g
  rw [show (24 + 8 * (8 : Int)) = ((N37 8 : Nat) : Int) from rfl]
  refine ext0t (ext1t ?_)
  refine c.nw ET (⟨0, 0, 0⟩, 0) rfl fun rt h4 c => ?_
  refine c.sto 0 rfl (p37 8, 8) rfl rfl fun h5 c => ?_
  refine c.mmk .i64 mW fun km h6 c => ?_
  have hv : ∀ i, R64 (wg37 xs i).v := fun i => by
    unfold wg37
    show R64 (xs[i]?.getD 0)
    cases h : xs[i]? with
    | none => exact ⟨by decide, by decide⟩
    | some y => exact w0 y (List.mem_of_getElem? h)
  refine Lp1.by (fun (j : Nat) v h' => v = .int .i64 j ∧ j ≤ N37 8 ∧ Cx (fun _ => False) h h' [rVar ET rt (p37 8, 8), rMp .i64 mW (.map (some km)) (knF (wg37 xs) j)]) (fun j => N37 8 - j) 0 ⟨rfl, Nat.zero_le _, c⟩ ?_
  clear c
  rintro j v h7 ⟨rfl, hj, c⟩ again hagain
  rw [bin_lss, vb_some]
  have hj88 : j ≤ 88 := hj
  refine brd (fun h10 => ?_) fun h10 => ?_
  · refine Jn0.at (fun h' => Cx (fun _ => False) h h' [rVar ET rt (p37 8, 8), rMp .i64 mW (.map (some km)) (knF (wg37 xs) (j + 1))]) ?_ ?_
    · rw [bldWz, vb_some]
      refine c.mup 1 rfl (j : Int) W0 rfl fun h11 c => ?_
      rw [kFnew] at c
      rw [s0.ln, vb_some, bin_lss, vb_some]
      refine brd (fun h12 => ?_) fun h12 => ?_
      · have hx : xs[j]? = some xs[j] := List.getElem?_eq_getElem (by omega)
        refine (s0.gr c.gr).one rfl hx rfl rfl ?_
        refine vb (v := mW ⟨xs[j], 0, 0⟩) (bldW0 _) ?_
        refine c.mup 1 rfl (j : Int) (wg37 xs j) (by unfold wg37; rw [hx]; rfl) fun h13 c => ?_
        rw [kFupd2] at c
        exact c
      · have e : wg37 xs j = W0 := by unfold wg37; rw [List.getElem?_eq_none (by omega)]; rfl
        rw [kFsnoc, e]
        exact c
    · clear c
      intro h11 c
      rw [bin_add, vb_some, wrS (by omega)]
      have : (j : Int) < ((N37 8 : Nat) : Int) := h10
      exact hagain (j + 1) _ _ ⟨rfl, by omega, c⟩ (by omega)
  have ej : j = N37 8 := by have : ¬ (j : Int) < ((N37 8 : Nat) : Int) := h10; omega
  subst ej
  clear hagain again
  refine c.cNew cs.toCsD 1 rfl (knF_nodup _ _) (knF_val fun i _ => hv i) fun s h11 c => ?_
  have H0 : WTs 8 0 (newS (knF (wg37 xs) (N37 8))) := ⟨⟨by decide, by decide⟩, newS_wf (knF_val fun i _ => hv i), rfl, fun a ha => by
    rw [newS_knF (fun i _ => rfl), if_pos ⟨ha.1, by have := ha.2; show a < ((24 + 8 * 8 : Nat) : Int); omega⟩]; rfl, Nat.le_refl 0, by decide⟩
  generalize newS (knF (wg37 xs) (N37 8)) = σ0 at *
  refine Lp1.by (fun (q : Nat × Spc) v h' => v = .int .i64 q.1 ∧ q.1 ≤ l.length ∧ WTs 8 (3000 * q.1) q.2 ∧ Cx (fun _ => False) h h' [rVar ET rt (p37 8, 8), rSpace s q.2]) (fun q => l.length - q.1) (0, σ0) ⟨rfl, Nat.zero_le _, H0, c.pick [0, 2]⟩ ?_
  clear c H0
  rintro ⟨i, σ⟩ v h12 ⟨rfl, hi, H, c⟩ again hagain
  dsimp only at *
  rw [s1.ln, vb_some, bin_lss, vb_some]
  refine brd (fun hlt => ?_) fun hge => hR _ c.gr
  have hx : l[i]? = some l[i] := List.getElem?_eq_getElem (by omega)
  have hok := w1 l[i] (List.getElem_mem _)
  generalize l[i] = x at *
  have hd := hok.d
  refine c.cMark cs.toCsD 1 rfl fun h13 c => ?_
  have hb : 3000 * i + 3000 + 10000 ≤ big := by unfold big; omega
  have Hm : ∀ {σ' : Spc}, WTs 8 (3000 * i) σ' → WTs 8 (3000 * (i + 1)) σ' := fun H => H.mono (by omega) (by omega)
  refine Jn1.at (fun e h' => ∃ r : Int, ∃ σ', e = .int .i64 r ∧ WTs 8 (3000 * (i + 1)) σ' ∧ (r ≠ 0 → σ'.pu = σ.pu) ∧ Cx (fun _ => False) h h' [rVar ET rt (p37 8, 8), rSpace s σ']) ?_ ?_
  · refine (s1.gr c.gr).fld rfl hx rfl (j := 0) rfl ?_
    rw [show bin .rem (.int .u8 x.d) (.int .u8 8) = some (.int .u8 (x.d % 8)) by rw [bin_rem (by omega), Int.tmod_eq_emod_of_nonneg hd.1], vb_some]
    generalize x.d % 8 = d
    rw [bin_eql, vb_some]
    refine brd (fun _ => ?_) fun _ => ?_
    · rw [tW (i := 0) c rfl, vb_some]
      refine (s1.gr c.gr).fld rfl hx rfl (j := 1) rfl ?_
      refine c.last (cs.tdrop' hp0 h8) 1 rfl (H.drop hb) fun e σ' h15 c hq => ?_
      unfold uT3
      rw [e3_0, vb_some, e3_1, vb_some, e3_2, vb_some]
      exact ⟨_, σ', rfl, hq.1, hq.2, c⟩
    rw [bin_eql, vb_some]
    refine brd (fun _ => ?_) fun _ => ?_
    · rw [tW (i := 0) c rfl, vb_some]
      refine (s1.gr c.gr).fld rfl hx rfl (j := 1) rfl ?_
      refine c.last (cs.tget' hp0 r8) 1 rfl H.get fun e σ' h15 c hq => ?_
      exact ⟨0, σ', rfl, Hm hq, (fun h => absurd rfl h), c⟩
    rw [bin_eql, vb_some]
    refine brd (fun _ => ?_) fun _ => ?_
    · rw [tW (i := 0) c rfl, vb_some]
      refine (s1.gr c.gr).fld rfl hx rfl (j := 1) rfl ?_
      refine (s1.gr c.gr).fld rfl hx rfl (j := 2) rfl ?_
      refine c.last (cs.tsum hp0 r8) 1 rfl H.btw fun e σ1 h15 c hq => ?_
      rw [tW (i := 0) c rfl, vb_some]
      refine (s1.gr c.gr).fld rfl hx rfl (j := 1) rfl ?_
      refine (s1.gr c.gr).fld rfl hx rfl (j := 2) rfl ?_
      refine c.last (cs.tcnt hp0 r8) 1 rfl hq.btw fun e σ2 h16 c hq2 => ?_
      exact ⟨0, σ2, rfl, Hm hq2, (fun h => absurd rfl h), c⟩
    rw [bin_eql, vb_some]
    refine brd (fun _ => ?_) fun _ => ?_
    · rw [tW (i := 0) c rfl, vb_some]
      refine (s1.gr c.gr).fld rfl hx rfl (j := 1) rfl ?_
      refine c.last (cs.tnext' hp0 r8) 1 rfl H.next fun e σ' h15 c hq => ?_
      exact ⟨0, σ', rfl, Hm hq, (fun h => absurd rfl h), c⟩
    rw [bin_eql, vb_some]
    refine brd (fun _ => ?_) fun _ => ?_
    · rw [tW (i := 0) c rfl, vb_some]
      refine (s1.gr c.gr).fld rfl hx rfl (j := 1) rfl ?_
      refine c.last (cs.tnth' hp0 r8) 1 rfl H.nth fun e σ' h15 c hq => ?_
      exact ⟨0, σ', rfl, Hm hq, (fun h => absurd rfl h), c⟩
    · rw [tW (i := 0) c rfl, vb_some]
      refine (s1.gr c.gr).fld rfl hx rfl (j := 1) rfl ?_
      refine (s1.gr c.gr).fld rfl hx rfl (j := 2) rfl ?_
      refine c.last (cs.tput' hp0 h8 hok.a) 1 rfl (H.put hok.a hok.b hb) fun e σ' h15 c hq => ?_
      unfold uT3
      rw [e3_0, vb_some, e3_1, vb_some, e3_2, vb_some]
      exact ⟨_, σ', rfl, hq.1, hq.2, c⟩
  · clear c
    rintro e h14 ⟨r, σ1, rfl, H1, hU, c⟩
    refine Jn1.at (fun v h' => v = .bool false ∧ Cx (fun _ => False) h h' [rVar ET rt (p37 8, 8), rSpace s σ1]) ?_ ?_
    · rw [bin_neq, vb_some]
      refine brd (fun he => ?_) fun he => ?_
      · refine c.cMark cs.toCsD 1 rfl fun h19 c => ?_
        rw [hU he, neI, vb_some, br_false]
        obtain ⟨F', pa⟩ := c.get (i := 1) rfl
        refine cs.ended pa ?_
        rw [H1.en]
        exact ⟨rfl, c⟩
      · obtain ⟨F', pa⟩ := c.get (i := 1) rfl
        refine cs.ended pa ?_
        rw [H1.en]
        exact ⟨rfl, c⟩
    clear c
    rintro v h15 ⟨rfl, c⟩
    rw [br_false, tW (i := 0) c rfl, vb_some]
    refine c.twlk cs.toCsX1 1 rfl h8 hp0 H1.wlk fun rr σ2 v1 v2 h16 c hq => ?_
    obtain ⟨H2, hz⟩ := hq
    have c : Cx (fun _ => False) h h16 [rVar ET rt (p37 8, 8), rSpace s σ2, rSl EI1 v1 (wq1 rr), rSl EI1 v2 (wq2 rr)] := c
    rw [e3_0, vb_some, e3_1, vb_some, e3_2, vb_some]
    have hasc : Asc (wq1 rr) := by
      cases rr with
      | none => exact fun j x y hx _ => by simp [wq1] at hx
      | some z => exact (hz z rfl).1
    have hll2 : (wq1 rr).length = (wq2 rr).length := by
      cases rr with
      | none => rfl
      | some z => exact (hz z rfl).2.1
    have hz0 : (if rr.isSome then (0 : Int) else 24) ≠ 0 → (wq1 rr).length = 0 ∧ (wq2 rr).length = 0 := fun he => by
      cases rr with
      | none => exact ⟨rfl, rfl⟩
      | some z => exact absurd rfl he
    have hle : (wq1 rr).length ≤ 1000 := by
      cases rr with
      | none => exact Nat.zero_le _
      | some z => exact Nat.le_trans (hz z rfl).2.2 (by decide)
    generalize (if rr.isSome then (0 : Int) else 24) = ev at *
    refine Jn1.at (fun v h' => v = .bool false ∧ h' = h16) ?_ ?_
    · rw [bin_neq, vb_some]
      refine brd (fun he => ?_) fun he => ?_
      · obtain ⟨z1, z2⟩ := hz0 he
        rw [(c.sl (i := 2) rfl).sl.ln, vb_some, (c.sl (i := 3) rfl).sl.ln, vb_some, z1, z2]
        refine En.vb (v := .int .i64 0) rfl (En.vb (v := .bool false) rfl ?_)
        rw [br_false, vb_some, vb_some, neI, vb_some]
        exact ⟨rfl, rfl⟩
      · rw [(c.sl (i := 2) rfl).sl.ln, vb_some, (c.sl (i := 3) rfl).sl.ln, vb_some, hll2, neI, vb_some]
        exact ⟨rfl, rfl⟩
    rintro v h17 ⟨rfl, rfl⟩
    rw [br_false]
    refine Lp1.by (fun (j : Nat) v h' => v = .int .i64 ((j : Int) + 1) ∧ h' = h17) (fun j => (wq1 rr).length - j) 0 ⟨rfl, rfl⟩ ?_
    rintro j v h18 ⟨rfl, rfl⟩ again2 hagain2
    rw [(c.sl (i := 2) rfl).sl.ln, vb_some, bin_lss, vb_some]
    refine brd (fun hlt2 => ?_) fun hge2 => ?_
    · have hx1 : (wq1 rr)[j]? = some ((wq1 rr)[j]'(by omega)) := List.getElem?_eq_getElem (by omega)
      have hx2 : (wq1 rr)[j + 1]? = some ((wq1 rr)[j + 1]'(by omega)) := List.getElem?_eq_getElem (by omega)
      have hlt3 := hasc j _ _ hx1 hx2
      rw [bin_sub, vb_some, wr64 ⟨by omega, by omega⟩]
      refine (c.sl (i := 2) rfl).sl.one rfl hx1 (by omega) rfl ?_
      refine (c.sl (i := 2) rfl).sl.one rfl hx2 (by omega) rfl ?_
      rw [bin_geq, vb_some]
      refine brd (fun h => absurd hlt3 (by omega)) fun _ => ?_
      refine En.vb (v := .int .i64 (((j + 1 : Nat) : Int) + 1)) (by rw [bin_add, wr64 ⟨by omega, by omega⟩]; congr 2) ?_
      exact hagain2 (j + 1) _ _ ⟨rfl, rfl⟩ (by omega)
    · rw [bin_add, vb_some, wrS (by omega)]
      exact hagain (i + 1, σ2) _ _ ⟨rfl, by dsimp only; omega, H2, c.pick [0, 1]⟩ (by dsimp only; omega)
end
end Go.En
