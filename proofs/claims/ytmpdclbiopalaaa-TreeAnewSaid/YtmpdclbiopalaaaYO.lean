/-
  Layer 37: a tree's programs on arbitrary words.
  Layer 37: a tree's operations on arbitrary words; the law Lost.
-/
import Derived.Test.YtmpdclbiopalaaaYM
namespace Go.En
open Prog Spc

section
variable {A : Int → Prop} {σ0 σ σ' : Spc} {c : Nat} {α : Type} {Q : α → Spc → Prop} {p : Pl} {root k v a b : Int} {w : Wk}
theorem PoolD.toA (h : PoolD A p) : PoolA A p := ⟨h.r, fun a ha => by have := h.n a (node_isN ha) 0 (by omega) (by omega); rwa [Int.add_zero] at this⟩
theorem node_R5 {x : Int} (h : (p.node x).isSome = true) : R64 x := by
  have := node_l h
  exact ⟨by omega, by omega⟩
theorem wd_dUn {q : Unit → Prog α} {e : Int} (H : Wld A σ0 σ c) (he : e ≠ 0) (hk : ∀ σ', Wld A σ0 σ' c → (σ'.en = false → σ'.pu = σ0.pu) → wp (q ()) σ' Q) : wp (dUn e σ0.pu.length >>= q) σ Q := by
  unfold dUn
  rw [if_pos he]
  exact wd_back H hk
/-- how many looks are left -/
def Wk.bd : Wk → Nat
  | .ok n => n.val
  | .no _ => 0
theorem bd_is : (tIs p w a).2.bd ≤ w.bd := by
  cases w with
  | no l => exact Nat.le_refl _
  | ok n =>
    unfold tIs
    dsimp only
    split
    · exact Nat.le_refl _
    · split
      · show n.val - 1 ≤ n.val; omega
      · exact Nat.zero_le _
theorem bd_dn (h : (tIs p w a).1 = true) : (tIs p w a).2.bd + 1 ≤ w.bd := by
  cases w with
  | no l => cases h
  | ok n =>
    unfold tIs at h ⊢
    dsimp only at h ⊢
    split at h
    · cases h
    · rename_i h0
      split at h
      · rename_i h1
        rw [if_neg h0, if_pos h1]
        show n.val - 1 + 1 ≤ n.val
        omega
      · cases h
theorem n_at (hD : PoolD A p) (h : (p.node a).isSome = true) {i : Int} (h0 : 0 ≤ i) (h1 : i ≤ 7) : A (a + i) := hD.n a (node_isN h) i h0 h1
theorem n_at0 (hD : PoolD A p) (h : (p.node a).isSome = true) : A a := by have := n_at hD h (i := 0) (by omega) (by omega); rwa [Int.add_zero] at this
theorem wd_of {cell : Int} {q : Int × Wk → Prog α} (H : Wld A σ0 σ c) (hD : PoolD A p) (h0 : 0 ≤ cell) (h1 : cell ≤ 7) (hk : ∀ v w' σ', Wld A σ0 σ' c → σ'.pu = σ.pu → w'.bd ≤ w.bd → wp (q (v, w')) σ' Q) : wp (tOf p w a cell >>= q) σ Q := by
  unfold tOf
  split
  · rename_i hi
    rw [wp_bind]
    exact wd_get H (n_at hD (tIs_n hi) h0 h1) fun v σ1 _ e H => hk v _ σ1 H e bd_is
  · exact hk 0 _ σ H rfl bd_is
theorem wd_ref {q : Wk → Prog α} (H : Wld A σ0 σ c) (hD : PoolD A p) (ha : (p.node a).isSome = true) (hl : σ0.pu.length + c + 2 ≤ big) (hk : ∀ w' σ', Wld A σ0 σ' (c + 2) → w'.bd ≤ w.bd → wp (q w') σ' Q) : wp (tRef p w a >>= q) σ Q := by
  unfold tRef
  rw [wp_bind]
  refine wd_get H (n_at hD ha (by omega) (by omega)) fun l σ1 _ _ H => ?_
  refine wd_get H (n_at hD ha (by omega) (by omega)) fun r σ1 _ _ H => ?_
  refine wd_of H hD (by omega) (by omega) fun x1 w1 σ1 H _ b1 => ?_
  refine wd_of H hD (by omega) (by omega) fun x2 w2 σ2 H _ b2 => ?_
  refine wd_put H (n_at hD ha (by omega) (by omega)) (w64_in _) (by omega) fun σ3 H => ?_
  unfold tRefT
  refine wd_get H (n_at hD ha (by omega) (by omega)) fun v σ1 _ _ H => ?_
  refine wd_of H hD (by omega) (by omega) fun x3 w3 σ1 H _ b3 => ?_
  refine wd_of H hD (by omega) (by omega) fun x4 w4 σ2 H _ b4 => ?_
  refine wd_put H (n_at hD ha (by omega) (by omega)) (w64_in _) (by omega) fun σ3 H => ?_
  exact hk _ _ H (by dsimp only at *; omega)
theorem zR : R64 0 := ⟨by decide, by decide⟩
theorem wd_spl (hD : PoolD A p) : ∀ (f : Nat) {c : Nat} {w : Wk} {a : Int} {σ : Spc}, Wld A σ0 σ c → σ0.pu.length + c + 3 * w.bd ≤ big → wp (tSpl p k f w a) σ fun r σ' => Wld A σ0 σ' (c + 3 * w.bd) ∧ R64 r.1.1 ∧ R64 r.1.2 ∧ r.2.bd ≤ w.bd
  | 0, c, w, a, σ, H, hl => ⟨H.mono (by omega), zR, zR, Nat.le_refl _⟩
  | f + 1, c, w, a, σ, H, hl => by
    unfold tSpl
    split
    · rename_i hi
      have hn := tIs_n hi
      have hb := bd_dn hi
      have hR := node_R5 hn
      refine wd_get H (n_at0 hD hn) fun x σ1 _ _ H => ?_
      split
      · refine wd_get H (n_at hD hn (by omega) (by omega)) fun r σ1 _ _ H => ?_
        rw [wp_bind]
        refine Prog.wp_mono (wd_spl hD f (w := (tIs p w a).2) H (by omega)) fun s σ2 ⟨H, r1, r2, b1⟩ => ?_
        refine wd_put H (n_at hD hn (by omega) (by omega)) r1 (by omega) fun σ3 H => ?_
        refine wd_ref H hD hn (by omega) fun w' σ4 H b2 => ?_
        exact ⟨H.mono (by omega), hR, r2, by dsimp only; omega⟩
      · refine wd_get H (n_at hD hn (by omega) (by omega)) fun r σ1 _ _ H => ?_
        rw [wp_bind]
        refine Prog.wp_mono (wd_spl hD f (w := (tIs p w a).2) H (by omega)) fun s σ2 ⟨H, r1, r2, b1⟩ => ?_
        refine wd_put H (n_at hD hn (by omega) (by omega)) r2 (by omega) fun σ3 H => ?_
        refine wd_ref H hD hn (by omega) fun w' σ4 H b2 => ?_
        exact ⟨H.mono (by omega), r1, hR, by dsimp only; omega⟩
    · exact ⟨H.mono (by omega), zR, zR, bd_is⟩
theorem wd_mrg (hD : PoolD A p) : ∀ (f : Nat) {c : Nat} {w : Wk} {a b : Int} {σ : Spc}, R64 b → Wld A σ0 σ c → σ0.pu.length + c + 3 * w.bd ≤ big → wp (tMrg p f w a b) σ fun r σ' => Wld A σ0 σ' (c + 3 * w.bd) ∧ R64 r.1 ∧ r.2.bd ≤ w.bd
  | 0, c, w, a, b, σ, hb, H, hl => ⟨H.mono (by omega), hb, Nat.le_refl _⟩
  | f + 1, c, w, a, b, σ, hb, H, hl => by
    unfold tMrg
    split
    · rename_i hi
      have hn := tIs_n hi
      have hbd := bd_dn hi
      have hR := node_R5 hn
      dsimp only
      split
      · rename_i hj
        have hm := tIs_n hj
        have hbe := bd_dn hj
        refine wd_get H (n_at0 hD hn) fun x σ1 _ _ H => ?_
        refine wd_get H (n_at0 hD hm) fun y σ1 _ _ H => ?_
        split
        · refine wd_get H (n_at hD hn (by omega) (by omega)) fun r σ1 _ _ H => ?_
          rw [wp_bind]
          refine Prog.wp_mono (wd_mrg hD f (w := (tIs p (tIs p w a).2 b).2) hb H (by omega)) fun s σ2 ⟨H, r1, b1⟩ => ?_
          refine wd_put H (n_at hD hn (by omega) (by omega)) r1 (by omega) fun σ3 H => ?_
          refine wd_ref H hD hn (by omega) fun w' σ4 H b2 => ?_
          exact ⟨H.mono (by omega), hR, by dsimp only; omega⟩
        · refine wd_get H (n_at hD hm (by omega) (by omega)) fun r σ1 hr _ H => ?_
          rw [wp_bind]
          refine Prog.wp_mono (wd_mrg hD f (w := (tIs p (tIs p w a).2 b).2) hr H (by omega)) fun s σ2 ⟨H, r1, b1⟩ => ?_
          refine wd_put H (n_at hD hm (by omega) (by omega)) r1 (by omega) fun σ3 H => ?_
          refine wd_ref H hD hm (by omega) fun w' σ4 H b2 => ?_
          exact ⟨H.mono (by omega), hb, by dsimp only; omega⟩
      · exact ⟨H.mono (by omega), hR, Nat.le_trans bd_is bd_is⟩
    · exact ⟨H.mono (by omega), hb, bd_is⟩
theorem wd_pathL (hD : PoolD A p) : ∀ (f : Nat) {w : Wk} {a : Int} {acc : List (Int × Int)} {σ : Spc}, Wld A σ0 σ c → (∀ x ∈ acc, (p.node x.1).isSome = true) → wp (tPathL p k f w a acc) σ fun r σ' => Wld A σ0 σ' c ∧ σ'.pu = σ.pu ∧ (∀ x ∈ r.1, (p.node x.1).isSome = true) ∧ r.1.length ≤ acc.length + f ∧ r.2.bd ≤ w.bd
  | 0, w, a, acc, σ, H, hn => ⟨H, rfl, hn, Nat.le_refl _, by
      show (if (tIs p w a).1 = true then (tIs p w a).2.lose else (tIs p w a).2).bd ≤ _
      have := bd_is (p := p) (w := w) (a := a)
      split
      · refine Nat.le_trans ?_ this
        cases (tIs p w a).2 <;> exact Nat.zero_le _
      · exact this⟩
  | f + 1, w, a, acc, σ, H, hn => by
    have hb := bd_is (p := p) (w := w) (a := a)
    have hsn : ∀ (x : Int), (p.node a).isSome = true → ∀ y ∈ acc ++ [(a, x)], (p.node y.1).isSome = true := fun x h y hy => by
      rcases List.mem_append.1 hy with h1 | h1
      · exact hn y h1
      · rw [List.mem_singleton] at h1; subst h1; exact h
    unfold tPathL
    split
    · rename_i hi
      have hna := tIs_n hi
      refine wd_get H (n_at0 hD hna) fun x σ1 _ e1 H => ?_
      split
      · exact ⟨H, e1, hsn x hna, by rw [List.length_append, List.length_singleton]; omega, hb⟩
      · have hkc : kidc k x = 2 ∨ kidc k x = 3 := by unfold kidc; split <;> simp
        refine wd_get H (n_at hD hna (by omega) (by omega)) fun b σ2 _ e2 H => ?_
        refine Prog.wp_mono (wd_pathL hD f H (hsn x hna)) fun r σ3 ⟨H, e3, h1, h2, h3⟩ => ?_
        rw [List.length_append, List.length_singleton] at h2
        exact ⟨H, e3.trans (e2.trans e1), h1, by omega, Nat.le_trans h3 hb⟩
    · exact ⟨H, rfl, hn, Nat.le_add_right _ _, hb⟩
theorem wd_tAdd {n v : Int} (hD : PoolD A p) : ∀ {l : List (Int × Int)} {c : Nat} {σ : Spc} {q : Unit → Prog α}, Wld A σ0 σ c → (∀ x ∈ l, (p.node x.1).isSome = true) → σ0.pu.length + c + 2 * l.length ≤ big → (∀ σ', Wld A σ0 σ' (c + 2 * l.length) → wp (q ()) σ' Q) → wp (tAdd n v l >>= q) σ Q
  | [], c, σ, q, H, hn, hl, hk => hk σ H
  | x :: l, c, σ, q, H, hn, hl, hk => by
    have hx := hn x (List.mem_cons_self ..)
    rw [List.length_cons] at hl hk
    have key : ∀ {σ : Spc}, Wld A σ0 σ (c + 2) → wp (tAdd n v l >>= q) σ Q := fun H =>
      wd_tAdd hD H (fun y hy => hn y (List.mem_cons_of_mem _ hy)) (by omega) fun σ' H => hk σ' (H.mono (by omega))
    have k1 : ∀ {σ : Spc}, Wld A σ0 σ (c + 1) → wp ((if v ≠ 0 then gt (x.1 + 5) >>= fun c => pt (x.1 + 5) (w64 (c + v)) else pure ()) >>= fun _ => tAdd n v l >>= q) σ Q := fun H => by
      split
      · rw [wp_bind]
        refine wd_get H (n_at hD hx (by omega) (by omega)) fun y σ1 _ _ H => ?_
        rw [← wp_bind]
        exact wd_put H (n_at hD hx (by omega) (by omega)) (w64_in _) (by omega) fun σ2 H => key H
      · exact key (H.mono (by omega))
    show wp (((if n ≠ 0 then gt (x.1 + 4) >>= fun c => pt (x.1 + 4) (w64 (c + n)) else pure ()) >>= fun _ => (if v ≠ 0 then gt (x.1 + 5) >>= fun c => pt (x.1 + 5) (w64 (c + v)) else pure ()) >>= fun _ => tAdd n v l) >>= q) σ Q
    rw [wp_bind, wp_bind]
    split
    · refine wd_get H (n_at hD hx (by omega) (by omega)) fun y σ1 _ _ H => ?_
      rw [wp_pt]
      refine ⟨w64_in _, Nat.le_trans H.len (by omega), ?_⟩
      have H2 := H.put (n_at hD hx (i := 4) (by omega) (by omega)) (w64_in (y + n)) (by omega)
      have := k1 H2
      rw [wp_bind] at this ⊢
      exact Prog.wp_mono this fun _ σ' h => by rw [← wp_bind]; exact h
    · have := k1 (H.mono (Nat.le_succ c))
      show wp (_ >>= fun _ => tAdd n v l) σ _
      rw [wp_bind] at this ⊢
      exact Prog.wp_mono this fun _ σ' h => by rw [← wp_bind]; exact h
theorem wd_hang {q : Unit → Prog α} {l : List (Int × Int)} (H : Wld A σ0 σ c) (hD : PoolD A p) (hr : A root) (hn : ∀ x ∈ l, (p.node x.1).isSome = true) (ha : R64 a) (hl : σ0.pu.length + c ≤ big) (hk : ∀ σ', Wld A σ0 σ' (c + 1) → wp (q ()) σ' Q) : wp (tHang root k a l >>= q) σ Q := by
  unfold tHang
  cases hx : l.getLast? with
  | none => exact wd_put H hr ha hl hk
  | some x =>
    have hkc : kidc k x.2 = 2 ∨ kidc k x.2 = 3 := by unfold kidc; split <;> simp
    exact wd_put H (n_at hD (hn x (List.mem_of_getLast? hx)) (by omega) (by omega)) ha hl hk
end
end Go.En
namespace Go.En
open Prog Spc Go.Sort

section
variable {A : Int → Prop} {σ0 σ σ' : Spc} {c : Nat} {α : Type} {Q : α → Spc → Prop} {p : Pl} {root k v a b : Int} {w : Wk}
theorem wk0_bd : (wk0 p).bd ≤ 64 * (p.nodes.toNat + 1) := Nat.mod_le _ _
theorem wd_path (hD : PoolD A p) (hr : A root) (H : Wld A σ0 σ c) : wp (tPath p root k w) σ fun r σ' => Wld A σ0 σ' c ∧ σ'.pu = σ.pu ∧ (∀ x ∈ r.1, (p.node x.1).isSome = true) ∧ r.1.length ≤ p.nodes.toNat ∧ r.2.bd ≤ w.bd := by
  unfold tPath
  refine wd_get H hr fun a σ1 _ e1 H => ?_
  refine Prog.wp_mono (wd_pathL hD p.nodes.toNat H fun x hx => by cases hx) fun r σ' ⟨H, e2, h1, h2, h3⟩ => ⟨H, e2.trans e1, h1, by simpa using h2, h3⟩
/-- an error undoes -/
abbrev Un3 (σ σ' : Spc) (e : Int × Bool × Int) : Prop := e.2.2 ≠ 0 → σ'.en = false → σ'.pu = σ.pu
/-- what an operation may write -/
def tWr (p : Pl) : Nat := 192 * (p.nodes.toNat + 1) + 4 * p.nodes.toNat + 20
theorem cut_sub {l : List (Int × Int)} {x : Int × Int} (h : x ∈ cutL k l) : x ∈ l := (List.takeWhile_sublist _).subset h
theorem cut_len {l : List (Int × Int)} : (cutL k l).length ≤ l.length := by unfold cutL; exact (List.takeWhile_sublist _).length_le
theorem wd_putU {l : List (Int × Int)} {s : (Int × Int) × Wk} {n : Int} (hD : PoolD A p) (hRD : RootD A root) (H : Wld A σ0 σ c) (hn : (p.node n).isSome = true) (hl : ∀ x ∈ l, (p.node x.1).isSome = true) (h1 : R64 s.1.1) (h2 : R64 s.1.2) (hb : σ0.pu.length + c + 2 * l.length + 10 ≤ big) :
    wp (tPutU p root k v σ0.pu.length l s n) σ fun e σ' => Wld A σ0 σ' (c + 2 * l.length + 10) ∧ Un3 σ0 σ' e := by
  have r0 := hRD 0 (by omega) (by omega)
  rw [Int.add_zero] at r0
  unfold tPutU
  refine wd_put H (n_at hD hn (by omega) (by omega)) h1 (by omega) fun σ1 H => ?_
  refine wd_put H (n_at hD hn (by omega) (by omega)) h2 (by omega) fun σ1 H => ?_
  refine wd_ref H hD hn (by omega) fun w σ2 H _ => ?_
  refine wd_tAdd hD H hl (by omega) fun σ3 H => ?_
  refine wd_hang H hD r0 hl (node_R5 hn) (by omega) fun σ4 H => ?_
  refine wd_get H (hRD 7 (by omega) (by omega)) fun x σ5 _ _ H => ?_
  refine wd_put H (hRD 7 (by omega) (by omega)) (w64_in _) (by omega) fun σ6 H => ?_
  split
  · exact wd_dUn H (by decide) fun σ7 H hu => ⟨H.mono (by omega), fun _ => hu⟩
  · exact ⟨H.mono (by omega), fun h => absurd rfl h⟩
theorem wd_tPut (hD : PoolD A p) (hRD : RootD A root) (hk : R64 k) (hv : R64 v) (hw : σ.wf) (hb : σ.pu.length + tWr p ≤ big) : wp (tPut p root k v) σ fun e σ' => Wld A σ σ' (tWr p) ∧ Un3 σ σ' e := by
  have r0 := hRD 0 (by omega) (by omega)
  rw [Int.add_zero] at r0
  have hbd := wk0_bd (p := p)
  unfold tWr at *
  unfold tPut
  refine wd_mark ?_
  rw [wp_bind]
  refine Prog.wp_mono (wd_path hD r0 (Wld.start (A := A) hw)) fun r σ1 ⟨H, e1, hn, hln, hrb⟩ => ?_
  split
  · exact wd_dUn H (by decide) fun σ7 H hu => ⟨H.mono (by omega), fun _ => hu⟩
  split
  · rename_i hf
    unfold tFnd at hf
    unfold tPutF
    cases hx : r.1.getLast? with
    | none => rw [hx] at hf; cases hf
    | some y =>
      have hy := hn y (List.mem_of_getLast? hx)
      show wp (gt (y.1 + 1) >>= fun old => pt (y.1 + 1) v >>= fun _ => _) σ1 _
      refine wd_get H (n_at hD hy (by omega) (by omega)) fun old σ2 _ _ H => ?_
      refine wd_put H (n_at hD hy (by omega) (by omega)) hv (by omega) fun σ3 H => ?_
      refine wd_tAdd hD H hn (by omega) fun σ4 H => ?_
      exact ⟨H.mono (by omega), fun h => absurd rfl h⟩
  · refine wd_take H hD.toA (by omega) (fun x σ2 hx H => ?_) fun e σ2 he H hpu => ?_
    · rw [if_neg (by simp)]
      unfold tPutT
      refine wd_put H (n_at0 hD hx) hk (by omega) fun σ3 H => ?_
      refine wd_put H (n_at hD hx (by omega) (by omega)) hv (by omega) fun σ3 H => ?_
      have hcl := cut_len (k := k) (l := r.1)
      have hcn : ∀ y ∈ cutL k r.1, (p.node y.1).isSome = true := fun y hy => hn y (cut_sub hy)
      cases hd : r.1.drop (cutL k r.1).length with
      | nil =>
        show wp (tPutU p root k v σ.pu.length (cutL k r.1) ((0, 0), r.2) x) σ3 _
        exact Prog.wp_mono (wd_putU hD hRD H hx hcn zR zR (by omega)) fun e σ4 ⟨H, U⟩ => ⟨H.mono (by omega), U⟩
      | cons y l' =>
        show wp (tSpl p k (fu p) r.2 y.1 >>= fun s => tPutU p root k v σ.pu.length (cutL k r.1) s x) σ3 _
        rw [wp_bind]
        refine Prog.wp_mono (wd_spl hD (fu p) H (by omega)) fun s σ4 ⟨H, r1, r2, _⟩ => ?_
        exact Prog.wp_mono (wd_putU hD hRD H hx hcn r1 r2 (by omega)) fun e σ4 ⟨H, U⟩ => ⟨H.mono (by omega), U⟩
    · have hne : e ≠ 0 := by
        rcases he with ⟨rfl, _⟩ | ⟨_, rfl | rfl⟩ <;> decide
      rw [if_pos hne]
      exact wd_dUn H hne fun σ7 H hu => ⟨H.mono (by omega), fun _ => hu⟩
theorem wd_tDrop (hD : PoolD A p) (hRD : RootD A root) (hw : σ.wf) (hb : σ.pu.length + tWr p ≤ big) : wp (tDrop p root k) σ fun e σ' => Wld A σ σ' (tWr p) ∧ Un3 σ σ' e := by
  have r0 := hRD 0 (by omega) (by omega)
  rw [Int.add_zero] at r0
  have hbd := wk0_bd (p := p)
  unfold tWr at *
  unfold tDrop
  refine wd_mark ?_
  rw [wp_bind]
  refine Prog.wp_mono (wd_path hD r0 (Wld.start (A := A) hw)) fun r σ1 ⟨H, e1, hn, hln, hrb⟩ => ?_
  split
  · exact wd_dUn H (by decide) fun σ7 H hu => ⟨H.mono (by omega), fun _ => hu⟩
  split
  · rename_i hf
    unfold tFnd at hf
    cases hx : r.1.getLast? with
    | none => rw [hx] at hf; cases hf
    | some y =>
      have hy := hn y (List.mem_of_getLast? hx)
      have hdn : ∀ x ∈ r.1.dropLast, (p.node x.1).isSome = true := fun x hx => hn x ((List.dropLast_sublist _).subset hx)
      have hdl : r.1.dropLast.length ≤ r.1.length := by rw [List.length_dropLast]; omega
      show wp (tDropT p root k σ.pu.length r.1.dropLast r.2 y.1) σ1 _
      unfold tDropT
      refine wd_get H (n_at hD hy (by omega) (by omega)) fun old σ2 _ _ H => ?_
      refine wd_get H (n_at hD hy (by omega) (by omega)) fun x σ2 _ _ H => ?_
      refine wd_get H (n_at hD hy (by omega) (by omega)) fun z σ2 hz _ H => ?_
      rw [wp_bind]
      refine Prog.wp_mono (wd_mrg hD (fu p) hz H (by omega)) fun s σ3 ⟨H, r1, _⟩ => ?_
      refine wd_hang H hD r0 hdn r1 (by omega) fun σ4 H => ?_
      refine wd_tAdd hD H hdn (by omega) fun σ5 H => ?_
      unfold tDropU
      refine wd_get H (hRD 7 (by omega) (by omega)) fun x σ5 _ _ H => ?_
      refine wd_put H (hRD 7 (by omega) (by omega)) (w64_in _) (by omega) fun σ6 H => ?_
      split
      · exact wd_dUn H (by decide) fun σ7 H hu => ⟨H.mono (by omega), fun _ => hu⟩
      · refine wd_give H hD.toA (by omega) (node_R5 hy) (fun σ7 _ H => ?_) fun h => ?_
        · rw [if_neg (by simp)]
          exact ⟨H.mono (by omega), fun h => absurd rfl h⟩
        · rw [hy] at h; cases h
  · exact ⟨H.mono (by omega), fun h => absurd rfl h⟩
/-! ### Reads -/
abbrev Rd (A : Int → Prop) (σ0 σ : Spc) (c : Nat) (σ' : Spc) : Prop := Wld A σ0 σ' c ∧ σ'.pu = σ.pu
theorem Rd.tr {σ1 σ2 : Spc} (e : σ1.pu = σ.pu) (h : Rd A σ0 σ1 c σ2) : Rd A σ0 σ c σ2 := ⟨h.1, h.2.trans e⟩
theorem wd_getL (hD : PoolD A p) : ∀ (f : Nat) {w : Wk} {a : Int} {σ : Spc}, Wld A σ0 σ c → wp (tGetL p k f w a) σ fun _ σ' => Rd A σ0 σ c σ'
  | 0, w, a, σ, H => ⟨H, rfl⟩
  | f + 1, w, a, σ, H => by
    unfold tGetL
    split
    · rename_i hi
      have hn := tIs_n hi
      refine wd_get H (n_at0 hD hn) fun x σ1 _ e1 H => ?_
      split
      · exact wd_get H (n_at hD hn (by omega) (by omega)) fun v σ2 _ e2 H => ⟨H, e2.trans e1⟩
      · have hkc : kidc k x = 2 ∨ kidc k x = 3 := by unfold kidc; split <;> simp
        refine wd_get H (n_at hD hn (by omega) (by omega)) fun b σ2 _ e2 H => ?_
        exact Prog.wp_mono (wd_getL hD f H) fun _ σ' h => h.tr (e2.trans e1)
    · exact ⟨H, rfl⟩
theorem wd_tGet (hD : PoolD A p) (hr : A root) (H : Wld A σ0 σ c) : wp (tGet p root k) σ fun _ σ' => Rd A σ0 σ c σ' := by
  unfold tGet
  exact wd_get H hr fun a σ1 _ e1 H => Prog.wp_mono (wd_getL hD _ H) fun _ σ' h => h.tr e1
theorem wd_nextL (hD : PoolD A p) : ∀ (f : Nat) {w : Wk} {a : Int} {bb : Int × Bool} {σ : Spc}, Wld A σ0 σ c → wp (tNextL p k f w a bb) σ fun _ σ' => Rd A σ0 σ c σ'
  | 0, w, a, bb, σ, H => ⟨H, rfl⟩
  | f + 1, w, a, bb, σ, H => by
    unfold tNextL
    split
    · rename_i hi
      have hn := tIs_n hi
      refine wd_get H (n_at0 hD hn) fun x σ1 _ e1 H => ?_
      split
      · exact ⟨H, e1⟩
      · have hkc : kidc k x = 2 ∨ kidc k x = 3 := by unfold kidc; split <;> simp
        refine wd_get H (n_at hD hn (by omega) (by omega)) fun b σ2 _ e2 H => ?_
        exact Prog.wp_mono (wd_nextL hD f H) fun _ σ' h => h.tr (e2.trans e1)
    · exact ⟨H, rfl⟩
theorem wd_tNext (hD : PoolD A p) (hr : A root) (H : Wld A σ0 σ c) : wp (tNext p root k) σ fun _ σ' => Rd A σ0 σ c σ' := by
  unfold tNext
  exact wd_get H hr fun a σ1 _ e1 H => Prog.wp_mono (wd_nextL hD _ H) fun _ σ' h => h.tr e1
theorem wd_untL {wi sq : Bool} (hD : PoolD A p) : ∀ (f : Nat) {w : Wk} {a tot : Int} {σ : Spc}, Wld A σ0 σ c → wp (tUntL p k wi sq f w a tot) σ fun _ σ' => Rd A σ0 σ c σ'
  | 0, w, a, tot, σ, H => ⟨H, rfl⟩
  | f + 1, w, a, tot, σ, H => by
    have hcel : 0 ≤ cel sq ∧ cel sq ≤ 7 := by unfold cel; split <;> decide
    unfold tUntL
    split
    · rename_i hi
      have hn := tIs_n hi
      refine wd_get H (n_at0 hD hn) fun x σ1 _ e1 H => ?_
      split
      · refine wd_get H (n_at hD hn (by omega) (by omega)) fun b σ2 _ e2 H => ?_
        exact Prog.wp_mono (wd_untL hD f H) fun _ σ' h => h.tr (e2.trans e1)
      · have key : ∀ {o : Int} {σ3 : Spc}, Wld A σ0 σ3 c → σ3.pu = σ.pu → wp (gt (a + 2) >>= fun l => tOf p (wk0 p) l (cel sq) >>= fun s => gt (a + 3) >>= fun r => tUntL p k wi sq f (tIs p w a).2 r (w64 (tot + w64 (o + s.1)))) σ3 fun _ σ' => Rd A σ0 σ c σ' := fun H e => by
          refine wd_get H (n_at hD hn (by omega) (by omega)) fun l σ4 _ e4 H => ?_
          refine wd_of H hD hcel.1 hcel.2 fun v w' σ5 H e5 _ => ?_
          refine wd_get H (n_at hD hn (by omega) (by omega)) fun r σ6 _ e6 H => ?_
          exact Prog.wp_mono (wd_untL hD f H) fun _ σ' h => h.tr (e6.trans (e5.trans (e4.trans e)))
        unfold tOwn
        split
        · exact wd_get H (n_at hD hn (by omega) (by omega)) fun o σ3 _ e3 H => key H (e3.trans e1)
        · exact key (o := 1) H e1
    · exact ⟨H, rfl⟩
theorem wd_tUnt {wi sq : Bool} (hD : PoolD A p) (hr : A root) (H : Wld A σ0 σ c) : wp (tUnt p root k wi sq) σ fun _ σ' => Rd A σ0 σ c σ' := by
  unfold tUnt
  exact wd_get H hr fun a σ1 _ e1 H => Prog.wp_mono (wd_untL hD _ H) fun _ σ' h => h.tr e1
theorem wd_tBtw {sq : Bool} (hD : PoolD A p) (hr : A root) (H : Wld A σ0 σ c) : wp (tBtw p root a b sq) σ fun _ σ' => Rd A σ0 σ c σ' := by
  unfold tBtw
  split
  · exact ⟨H, rfl⟩
  · rw [wp_bind]
    refine Prog.wp_mono (wd_tUnt hD hr H) fun x σ1 ⟨H, e1⟩ => ?_
    rw [wp_bind]
    exact Prog.wp_mono (wd_tUnt hD hr H) fun y σ2 ⟨H, e2⟩ => ⟨H, e2.trans e1⟩
theorem wd_nthL (hD : PoolD A p) : ∀ (f : Nat) {w : Wk} {a n : Int} {σ : Spc}, Wld A σ0 σ c → wp (tNthL p f w a n) σ fun _ σ' => Rd A σ0 σ c σ'
  | 0, w, a, n, σ, H => ⟨H, rfl⟩
  | f + 1, w, a, n, σ, H => by
    unfold tNthL
    split
    · rename_i hi
      have hn := tIs_n hi
      refine wd_get H (n_at hD hn (by omega) (by omega)) fun l σ1 _ e1 H => ?_
      refine wd_of H hD (by omega) (by omega) fun v w' σ2 H e2 _ => ?_
      dsimp only
      split
      · exact wd_get H (n_at0 hD hn) fun x σ3 _ e3 H => ⟨H, e3.trans (e2.trans e1)⟩
      · split
        · exact Prog.wp_mono (wd_nthL hD f H) fun _ σ' h => h.tr (e2.trans e1)
        · refine wd_get H (n_at hD hn (by omega) (by omega)) fun r σ3 _ e3 H => ?_
          exact Prog.wp_mono (wd_nthL hD f H) fun _ σ' h => h.tr (e3.trans (e2.trans e1))
    · exact ⟨H, rfl⟩
theorem wd_tNth {n : Int} (hD : PoolD A p) (hr : A root) (H : Wld A σ0 σ c) : wp (tNth p root n) σ fun _ σ' => Rd A σ0 σ c σ' := by
  unfold tNth
  split
  · exact ⟨H, rfl⟩
  · exact wd_get H hr fun a σ1 _ e1 H => Prog.wp_mono (wd_nthL hD _ H) fun _ σ' h => h.tr e1
/-- each is greater than the one before -/
def Asc (l : List Int) : Prop := ∀ j x y, l[j]? = some x → l[j + 1]? = some y → x < y
theorem Asc.snoc {l : List Int} {k : Int} (h : Asc l) (hk : ¬ (0 < l.length ∧ k ≤ (l.getLast?).getD 0)) : Asc (l ++ [k]) := by
  intro j x y hx hy
  rcases Nat.lt_trichotomy (j + 1) l.length with h1 | h1 | h1
  · rw [List.getElem?_append_left (by omega)] at hx hy
    exact h j x y hx hy
  · rw [List.getElem?_append_left (by omega)] at hx
    rw [List.getElem?_append_right (by omega), h1, Nat.sub_self] at hy
    have ey : k = y := by simpa using hy
    have hg : l.getLast? = some x := by rw [List.getLast?_eq_getElem?, ← hx]; congr 1; omega
    rw [hg] at hk
    have hk : ¬ (0 < l.length ∧ k ≤ x) := hk
    omega
  · rw [List.getElem?_append_right (by omega)] at hy
    obtain ⟨b, hb⟩ : ∃ b, j + 1 - l.length = b + 1 := ⟨j - l.length, by omega⟩
    rw [hb] at hy
    simp at hy
structure WlkOk (p : Pl) (x : Wlk) : Prop where
  asc : Asc x.ks
  len : x.ks.length = x.vs.length
  le : x.ks.length ≤ p.nodes.toNat
theorem wd_belE {nv : Int × Int} {x : Wlk} (hD : PoolD A p) (ha : (p.node a).isSome = true) (hx : WlkOk p x) (H : Wld A σ0 σ c) : wp (tBelE a nv x) σ fun r σ' => Rd A σ0 σ c σ' ∧ WlkOk p r.2 := by
  unfold tBelE
  split
  · exact ⟨⟨H, rfl⟩, ⟨hx.asc, hx.len, hx.le⟩⟩
  · refine wd_get H (n_at hD ha (by omega) (by omega)) fun v σ1 _ e1 H => ?_
    split
    · exact ⟨⟨H, e1⟩, ⟨hx.asc, hx.len, hx.le⟩⟩
    · exact wd_get H (n_at hD ha (by omega) (by omega)) fun v σ2 _ e2 H => ⟨⟨H, e2.trans e1⟩, ⟨hx.asc, hx.len, hx.le⟩⟩
theorem wd_bel (hD : PoolD A p) : ∀ (f : Nat) {x : Wlk} {a : Int} {σ : Spc}, WlkOk p x → Wld A σ0 σ c → wp (tBel p f x a) σ fun r σ' => Rd A σ0 σ c σ' ∧ WlkOk p r.2
  | 0, x, a, σ, hx, H => ⟨⟨H, rfl⟩, hx⟩
  | f + 1, x, a, σ, hx, H => by
    unfold tBel
    split
    · exact ⟨⟨H, rfl⟩, hx⟩
    · split
      · rename_i hi
        have hn := tIs_n hi
        refine wd_get H (n_at hD hn (by omega) (by omega)) fun l σ1 _ e1 H => ?_
        rw [wp_bind]
        refine Prog.wp_mono (wd_bel hD f (x := { x with w := (tIs p x.w a).2 }) ⟨hx.asc, hx.len, hx.le⟩ H) fun s σ2 ⟨⟨H, e2⟩, hs⟩ => ?_
        refine wd_get H (n_at0 hD hn) fun k σ3 _ e3 H => ?_
        split
        · exact ⟨⟨H, e3.trans (e2.trans e1)⟩, ⟨hs.asc, hs.len, hs.le⟩⟩
        · rename_i hc
          refine wd_get H (n_at hD hn (by omega) (by omega)) fun v σ4 _ e4 H => ?_
          refine wd_get H (n_at hD hn (by omega) (by omega)) fun r σ5 _ e5 H => ?_
          rw [wp_bind]
          refine Prog.wp_mono (wd_bel hD f (x := { s.2 with ks := s.2.ks ++ [k], vs := s.2.vs ++ [v] }) ⟨hs.asc.snoc fun h => hc (.inr (.inr h)), by show (s.2.ks ++ [k]).length = (s.2.vs ++ [v]).length; rw [List.length_append, List.length_append, hs.len]; rfl, by show (s.2.ks ++ [k]).length ≤ _; rw [List.length_append, List.length_singleton]; have := fun h => hc (.inr (.inl h)); omega⟩ H) fun u σ6 ⟨⟨H, e6⟩, hu⟩ => ?_
          refine wd_get H (n_at hD hn (by omega) (by omega)) fun v2 σ7 _ e7 H => ?_
          refine Prog.wp_mono (wd_belE hD hn hu H) fun r σ8 ⟨h1, h2⟩ => ⟨h1.tr (e7.trans (e6.trans (e5.trans (e4.trans (e3.trans (e2.trans e1)))))), h2⟩
      · exact ⟨⟨H, rfl⟩, ⟨hx.asc, hx.len, hx.le⟩⟩
theorem wd_tWlk (hD : PoolD A p) (hRD : RootD A root) (H : Wld A σ0 σ c) : wp (tWlk p root) σ fun r σ' => Rd A σ0 σ c σ' ∧ ∀ z, r = some z → Asc z.1 ∧ z.1.length = z.2.length ∧ z.1.length ≤ p.nodes.toNat := by
  have r0 := hRD 0 (by omega) (by omega)
  rw [Int.add_zero] at r0
  unfold tWlk
  refine wd_get H r0 fun a σ1 _ e1 H => ?_
  rw [wp_bind]
  refine Prog.wp_mono (wd_bel hD (fu p) (x := ⟨wk0 p, [], [], false⟩) ⟨(fun j x y hx _ => by simp at hx), rfl, Nat.zero_le _⟩ H) fun s σ2 ⟨⟨H, e2⟩, hs⟩ => ?_
  split
  · exact ⟨⟨H, e2.trans e1⟩, (fun z h => by cases h)⟩
  · refine wd_get H (hRD 7 (by omega) (by omega)) fun x σ3 _ e3 H => ?_
    split
    · exact ⟨⟨H, e3.trans (e2.trans e1)⟩, (fun z h => by cases h)⟩
    · exact ⟨⟨H, e3.trans (e2.trans e1)⟩, fun z h => by
        injection h with h
        subst h
        exact ⟨hs.asc, hs.len, hs.le⟩⟩
end
end Go.En
