/-
  Layer 38: the heap's programs on arbitrary words.
  Layer 38: the law Broken.
-/
import Derived.Test.YtjnpmadojjfkpaaGreatZE
namespace Go.En
open Prog Spc Go.Sort

section
variable {α β : Type} {A : Int → Prop} {c c' C : Nat} {p : Prog α} {q : α → Prog β} {P P' : α → Prop} {Q : β → Prop} {a v : Int}
/-- a program that keeps to a set of words, with at most c writes -/
def Sf (A : Int → Prop) (c : Nat) (p : Prog α) (P : α → Prop) : Prop := ∀ σ0 σ d, Wld A σ0 σ d → σ0.pu.length + d + c ≤ big → wp p σ fun a σ' => Wld A σ0 σ' (d + c) ∧ P a
theorem Sf.ret {a : α} (h : P a) : Sf A C (pure a : Prog α) P := fun _ _ _ H _ => ⟨H.mono (by omega), h⟩
theorem Sf.mono (H : Sf A c p P) (hc : c ≤ C) (hP : ∀ a, P a → P' a) : Sf A C p P' := fun σ0 σ d hW hl =>
  Prog.wp_mono (H σ0 σ d hW (by omega)) fun a _ h => ⟨h.1.mono (by omega), hP a h.2⟩
theorem Sf.b (h1 : Sf A c p P) (hc : c ≤ C) (h2 : ∀ a, P a → Sf A (C - c) (q a) Q) : Sf A C (p >>= q) Q := fun σ0 σ d H hl => by
  rw [wp_bind]
  refine Prog.wp_mono (h1 σ0 σ d H (by omega)) fun a σ' h => ?_
  refine Prog.wp_mono (h2 a h.2 σ0 σ' (d + c) h.1 (by omega)) fun b σ'' h' => ⟨?_, h'.2⟩
  exact h'.1.mono (by omega)
theorem Sf.gt (h : A a) : Sf A 0 (gt a) R64 := fun σ0 σ d H _ => by
  rw [wp_gt]; exact ⟨H.get h, (H.wf.get a).1⟩
theorem Sf.pt (h : A a) (hv : R64 v) : Sf A 1 (pt a v) fun _ => True := fun σ0 σ d H hl => by
  rw [wp_pt]; exact ⟨hv, Nat.le_trans H.len (by omega), H.put h hv (by omega), trivial⟩
theorem Sf.ite {x : Prop} [Decidable x] {p1 p2 : Prog α} (h1 : x → Sf A C p1 P) (h2 : ¬ x → Sf A C p2 P) : Sf A C (if x then p1 else p2) P := by
  split
  · rename_i h; exact h1 h
  · rename_i h; exact h2 h
end
/-- a node, or none -/
def NZ (n x : Int) : Prop := x = 0 ∨ ((p38 n).node x).isSome = true
theorem NZ.r {n x : Int} (h : NZ n x) : R64 x := by
  rcases h with rfl | h
  · exact ⟨by decide, by decide⟩
  · have := node_l h
    exact ⟨by omega, by omega⟩
section
variable {n : Int} (hn : 0 ≤ n ∧ n ≤ 40)
include hn
theorem NZ.D {x i : Int} (h : NZ n x) (hx : x ≠ 0) (hi : 0 ≤ i ∧ i ≤ 7) : D38 (x + i) := (p38_D hn).n x (node_isN (h.resolve_left hx)) i hi.1 hi.2
theorem sf_hGet {x i : Int} (h : NZ n x) (hi : 0 ≤ i ∧ i ≤ 7) : Sf D38 0 (hGet x i) R64 := by
  unfold hGet
  exact Sf.ite (fun _ => Sf.ret ⟨by decide, by decide⟩) fun hx => Sf.gt (h.D hn hx hi)
theorem sf_hPut {x i v : Int} (h : NZ n x) (hi : 0 ≤ i ∧ i ≤ 7) (hv : R64 v) : Sf D38 1 (hPut x i v) fun _ => True := by
  unfold hPut
  exact Sf.ite (fun _ => Sf.ret trivial) fun hx => Sf.pt (h.D hn hx hi) hv
omit hn in
theorem nz_hNode {b : Bool} {v : Int} : NZ n (hNode (p38 n) b v).1 ∧ ((hNode (p38 n) b v).2 = false → ((p38 n).node (hNode (p38 n) b v).1).isSome = true ∧ b = false) := by
  unfold hNode
  split
  · rename_i h; exact ⟨.inr h, fun hb => ⟨h, hb⟩⟩
  · exact ⟨.inl rfl, fun h => by cases h⟩
omit hn in
theorem rt_D {i : Int} (h : 0 ≤ i ∧ i ≤ 7) : D38 (16 + i) := ⟨by omega, by omega⟩
omit hn in
theorem sf_hRow {b : Bool} {i : Int} (h : 1 ≤ i ∧ i ≤ 32) : Sf D38 0 (hRow (p38 n) 16 b i) fun r => NZ n r.1 := by
  unfold hRow
  exact Sf.b (Sf.gt (rt_D ⟨by omega, by omega⟩)) (Nat.le_refl _) fun v _ => Sf.ret nz_hNode.1
theorem sf_hItem {b : Bool} {i : Int} (h : 1 ≤ i ∧ i ≤ 32) : Sf D38 0 (hItem (p38 n) 16 b i) fun r => NZ n r.1 := by
  unfold hItem
  refine Sf.b (sf_hRow h) (Nat.le_refl _) fun r hr => Sf.ite (fun _ => Sf.ret (.inl rfl)) fun _ => ?_
  exact Sf.b (sf_hGet hn hr ⟨by omega, by omega⟩) (Nat.le_refl _) fun v _ => Sf.ret nz_hNode.1
theorem sf_hKey {x : Int} (h : NZ n x) : Sf D38 0 (hKey x) fun _ => True := by
  unfold hKey
  exact Sf.b (sf_hGet hn h ⟨by decide, by decide⟩) (Nat.le_refl _) fun u _ => Sf.b (sf_hGet hn h ⟨by decide, by decide⟩) (Nat.le_refl _) fun o _ => Sf.ret trivial
theorem sf_hLay {b : Bool} {i x : Int} (hi : 1 ≤ i ∧ i ≤ 32) (h : NZ n x) : Sf D38 2 (hLay (p38 n) 16 b i x) fun _ => True := by
  unfold hLay
  refine Sf.b (sf_hRow hi) (by decide) fun r hr => ?_
  refine Sf.b (sf_hPut hn hr ⟨by omega, by omega⟩ h.r) (by decide) fun _ _ => ?_
  exact Sf.b (sf_hPut hn h ⟨by decide, by decide⟩ ⟨by omega, by omega⟩) (by decide) fun _ _ => Sf.ret trivial
theorem sf_hRise {own : Int × Int} {x : Int} (h : NZ n x) : ∀ (f : Nat) (b : Bool) (i : Int), 1 ≤ i ∧ i ≤ 32 → Sf D38 (2 * f + 2) (hRise (p38 n) 16 own x f b i) fun _ => True
  | 0, b, i, hi => by
    unfold hRise
    exact Sf.b (sf_hLay hn hi h) (by omega) fun _ _ => Sf.ret trivial
  | f + 1, b, i, hi => by
    unfold hRise
    refine Sf.ite (fun hx => ?_) fun _ => Sf.b (sf_hLay hn hi h) (by omega) fun _ _ => Sf.ret trivial
    refine Sf.b (sf_hItem hn ⟨by omega, by omega⟩) (by omega) fun u hu => ?_
    refine Sf.b (sf_hKey hn hu) (by omega) fun ku _ => ?_
    refine Sf.ite (fun _ => ?_) fun _ => Sf.b (sf_hLay hn hi h) (by omega) fun _ _ => Sf.ret trivial
    refine Sf.b (sf_hLay hn hi hu) (by omega) fun b' _ => ?_
    exact (sf_hRise h f b' (i / 2) ⟨by omega, by omega⟩).mono (by omega) fun _ _ => trivial
theorem sf_hRiseS {b : Bool} {i x : Int} (hi : 1 ≤ i ∧ i ≤ 32) (h : NZ n x) : Sf D38 66 (hRiseS (p38 n) 16 b i x) fun _ => True := by
  unfold hRiseS
  refine Sf.b (sf_hKey hn h) (by decide) fun own _ => ?_
  exact (sf_hRise hn h i.toNat b i hi).mono (by omega) fun _ _ => trivial
theorem sf_hKid {b : Bool} {i k : Int} (hi : 1 ≤ i) (hk : 2 * i ≤ k) (h32 : k ≤ 32) : Sf D38 0 (hKid (p38 n) 16 b i k) fun r => (1 ≤ r.1 ∧ r.1 ≤ 32) ∧ NZ n r.2.1 := by
  unfold hKid
  refine Sf.b (sf_hItem hn ⟨by omega, by omega⟩) (Nat.le_refl _) fun u hu => ?_
  refine Sf.ite (fun hx => ?_) fun _ => Sf.ret ⟨⟨by dsimp only; omega, by dsimp only; omega⟩, hu⟩
  refine Sf.b (sf_hItem hn ⟨by omega, by omega⟩) (Nat.le_refl _) fun y hy => ?_
  refine Sf.b (sf_hKey hn hy) (Nat.le_refl _) fun ky _ => ?_
  refine Sf.b (sf_hKey hn hu) (Nat.le_refl _) fun kx _ => ?_
  exact Sf.ite (fun _ => Sf.ret ⟨⟨by dsimp only; omega, by dsimp only; omega⟩, hy⟩) fun _ => Sf.ret ⟨⟨by dsimp only; omega, by dsimp only; omega⟩, hu⟩
theorem sf_hSink {own : Int × Int} {x k : Int} (h : NZ n x) (h32 : k ≤ 32) : ∀ (f : Nat) (b : Bool) (i : Int), 1 ≤ i ∧ i ≤ 32 → Sf D38 (2 * f + 2) (hSink (p38 n) 16 own x k f b i) fun _ => True
  | 0, b, i, hi => by
    unfold hSink
    exact (sf_hLay hn hi h).mono (by omega) fun _ _ => trivial
  | f + 1, b, i, hi => by
    unfold hSink
    refine Sf.ite (fun hx => ?_) fun _ => (sf_hLay hn hi h).mono (by omega) fun _ _ => trivial
    refine Sf.b (sf_hKid hn hi.1 hx.1 h32) (by omega) fun r hr => ?_
    refine Sf.b (sf_hKey hn hr.2) (by omega) fun kx _ => ?_
    refine Sf.ite (fun _ => ?_) fun _ => (sf_hLay hn hi h).mono (by omega) fun _ _ => trivial
    refine Sf.b (sf_hLay hn hi hr.2) (by omega) fun b' _ => ?_
    exact (sf_hSink h h32 f b' r.1 hr.1).mono (by omega) fun _ _ => trivial
theorem sf_hSinkS {b : Bool} {i x k : Int} (hi : 1 ≤ i ∧ i ≤ 32) (h : NZ n x) (h32 : k ≤ 32) : Sf D38 66 (hSinkS (p38 n) 16 b i x k) fun _ => True := by
  unfold hSinkS
  refine Sf.b (sf_hKey hn h) (by decide) fun own _ => ?_
  exact (sf_hSink hn h h32 (k - i).toNat b i hi).mono (by omega) fun _ _ => trivial
omit hn in
theorem sf_dMore {i d : Int} (h : 0 ≤ i ∧ i ≤ 7) : Sf D38 1 (dMore (16 + i) d) fun _ => True := by
  unfold dMore
  exact Sf.b (Sf.gt (rt_D h)) (by decide) fun v _ => Sf.pt (rt_D h) (w64_in _)
theorem p38_A : PoolA D38 (p38 n) := ⟨(p38_D hn).r, fun a h => by
  have := (p38_D hn).n a (node_isN h) 0 (by decide) (by decide)
  rwa [Int.add_zero] at this⟩
theorem sf_hTake : Sf D38 3 (hTake (p38 n) 16) fun t => NZ n t.1 := by
  have h1 : Sf D38 2 (pTake (p38 n)) fun t => NZ n t.1 := fun σ0 σ d H hl => by
    refine wp_ret' (wd_take H (p38_A hn) (by omega) (fun x σ' hx H' => ⟨H', .inr hx⟩) fun e σ' _ H' _ => ⟨H'.mono (by omega), .inl rfl⟩)
  unfold hTake
  refine Sf.b h1 (by decide) fun t ht => Sf.ite (fun _ => ?_) fun _ => Sf.ret ht
  exact Sf.b (sf_dMore ⟨by decide, by decide⟩) (by decide) fun _ _ => Sf.ret ht
theorem sf_hGive {a : Int} (h : NZ n a) : Sf D38 4 (hGive (p38 n) 16 a) fun _ => True := by
  have h1 : Sf D38 3 (pGive (p38 n) a) fun _ => True := fun σ0 σ d H hl => by
    refine wp_ret' (wd_give H (p38_A hn) (by omega) h.r (fun σ' _ H' => ⟨H', trivial⟩) fun _ => ⟨H.mono (by omega), trivial⟩)
  unfold hGive
  refine Sf.b h1 (by decide) fun t ht => Sf.ite (fun _ => ?_) fun _ => Sf.ret trivial
  exact Sf.b (sf_dMore ⟨by decide, by decide⟩) (by decide) fun _ _ => Sf.ret trivial
theorem sf_hPushT {x k pr v : Int} (h : NZ n x) (hk : 0 ≤ k ∧ k < 32) (hpr : R64 pr) (hv : R64 v) : Sf D38 71 (hPushT (p38 n) 16 x k pr v) fun _ => True := by
  unfold hPushT
  refine Sf.b (sf_hPut hn h ⟨by decide, by decide⟩ hpr) (by decide) fun _ _ => ?_
  refine Sf.b (sf_hPut hn h ⟨by decide, by decide⟩ hv) (by decide) fun _ _ => ?_
  refine Sf.b (Sf.gt (rt_D ⟨by decide, by decide⟩)) (by decide) fun o ho => ?_
  refine Sf.b (sf_hPut hn h ⟨by decide, by decide⟩ ho) (by decide) fun _ _ => ?_
  refine Sf.b (sf_dMore ⟨by decide, by decide⟩) (by decide) fun _ _ => ?_
  refine Sf.b (sf_dMore ⟨by decide, by decide⟩) (by decide) fun _ _ => ?_
  exact Sf.b (sf_hRiseS hn ⟨by omega, by omega⟩ h) (by decide) fun r _ => Sf.ret trivial
theorem sf_hPushB {pr v : Int} (hpr : R64 pr) (hv : R64 v) : Sf D38 200 (hPushB (p38 n) 16 pr v) fun _ => True := by
  unfold hPushB
  refine Sf.b (Sf.gt (rt_D ⟨by decide, by decide⟩)) (by decide) fun k _ => ?_
  refine Sf.ite (fun _ => Sf.ret trivial) fun hk1 => Sf.ite (fun _ => Sf.ret trivial) fun hk2 => ?_
  refine Sf.b (Sf.gt (rt_D ⟨by decide, by decide⟩)) (by decide) fun o _ => Sf.ite (fun _ => Sf.ret trivial) fun _ => ?_
  refine Sf.b (sf_hTake hn) (by decide) fun t ht => Sf.ite (fun _ => Sf.ret trivial) fun _ => ?_
  have hT : Sf D38 71 (hPushT (p38 n) 16 t.1 k pr v) fun _ => True := sf_hPushT hn ht ⟨by omega, by omega⟩ hpr hv
  refine Sf.ite (fun _ => ?_) fun _ => hT.mono (by decide) fun _ _ => trivial
  refine Sf.b (sf_hTake hn) (by decide) fun r hr => Sf.ite (fun _ => Sf.ret trivial) fun _ => ?_
  refine Sf.b (Sf.pt (rt_D ⟨by omega, by omega⟩) hr.r) (by decide) fun _ _ => ?_
  exact hT.mono (by decide) fun _ _ => trivial
theorem sf_hRemT {x pr v : Int} {b : Bool} (h : NZ n x) : Sf D38 4 (hRemT (p38 n) 16 x pr v b) fun _ => True := by
  unfold hRemT
  exact Sf.b (sf_hGive hn h) (by decide) fun e _ => Sf.ite (fun _ => Sf.ret trivial) fun _ => Sf.ite (fun _ => Sf.ret trivial) fun _ => Sf.ret trivial
theorem sf_hMove {i x k : Int} {b : Bool} (hi : 1 ≤ i ∧ i ≤ 32) (h : NZ n x) (hk : k ≤ 32) : Sf D38 132 (hMove (p38 n) 16 b i x k) fun _ => True := by
  unfold hMove
  refine Sf.ite (fun _ => ?_) fun _ => Sf.ret trivial
  refine Sf.b (sf_hRiseS hn hi h) (by decide) fun r _ => Sf.ite (fun _ => ?_) fun _ => Sf.ret trivial
  exact (sf_hSinkS hn hi h (by omega)).mono (by decide) fun _ _ => trivial
theorem sf_hRem {i k : Int} {b : Bool} (hi : 1 ≤ i ∧ i ≤ 32) (hk : 1 ≤ k ∧ k ≤ 32) : Sf D38 200 (hRem (p38 n) 16 b i k) fun _ => True := by
  unfold hRem
  refine Sf.b (sf_hItem hn hi) (by decide) fun x hx => ?_
  refine Sf.b (sf_hItem hn hk) (by decide) fun y hy => ?_
  refine Sf.b (sf_hGet hn hx ⟨by decide, by decide⟩) (by decide) fun pr _ => ?_
  refine Sf.b (sf_hGet hn hx ⟨by decide, by decide⟩) (by decide) fun v _ => ?_
  refine Sf.b (sf_hRow hk) (by decide) fun r hr => Sf.ite (fun _ => Sf.ret trivial) fun _ => ?_
  refine Sf.b (sf_dMore ⟨by decide, by decide⟩) (by decide) fun _ _ => ?_
  refine Sf.b (sf_hMove hn hi hy hk.2) (by decide) fun b' _ => ?_
  refine Sf.ite (fun _ => ?_) fun _ => (sf_hRemT hn hx).mono (by decide) fun _ _ => trivial
  refine Sf.b (Sf.pt (rt_D ⟨by omega, by omega⟩) ⟨by decide, by decide⟩) (by decide) fun _ _ => ?_
  refine Sf.b (sf_hGive hn hr) (by decide) fun e _ => Sf.ite (fun _ => Sf.ret trivial) fun _ => ?_
  exact (sf_hRemT hn hx).mono (by decide) fun _ _ => trivial
theorem sf_hPopB : Sf D38 200 (hPopB (p38 n) 16) fun _ => True := by
  unfold hPopB
  refine Sf.b (Sf.gt (rt_D ⟨by decide, by decide⟩)) (by decide) fun k _ => ?_
  refine Sf.ite (fun _ => Sf.ret trivial) fun hk1 => Sf.ite (fun _ => Sf.ret trivial) fun hk2 => ?_
  exact sf_hRem hn ⟨by decide, by decide⟩ ⟨by omega, by omega⟩
theorem sf_hFind {x : Int} : Sf D38 0 (hFind (p38 n) 16 x) fun f => f.2.2.2.1 = 0 → NZ n f.1 ∧ (1 ≤ f.2.1 ∧ f.2.1 ≤ 32) ∧ (1 ≤ f.2.2.1 ∧ f.2.2.1 ≤ 32) := by
  unfold hFind
  refine Sf.b (Sf.gt (rt_D ⟨by decide, by decide⟩)) (by decide) fun k _ => ?_
  refine Sf.ite (fun _ => Sf.ret fun h => by simp at h) fun hk => Sf.ite (fun hx => ?_) fun _ => Sf.ret fun h => by simp at h
  refine Sf.b (sf_hGet hn (.inr hx) ⟨by decide, by decide⟩) (by decide) fun q _ => Sf.ite (fun _ => Sf.ret fun h => by simp at h) fun hq => ?_
  have hq' : 1 ≤ q ∧ q ≤ k := ⟨Int.not_lt.1 fun h => hq (.inl h), Int.not_lt.1 fun h => hq (.inr h)⟩
  refine Sf.b (sf_hRow ⟨by omega, by omega⟩) (by decide) fun r hr => Sf.ite (fun _ => Sf.ret fun h => by simp at h) fun _ => ?_
  refine Sf.b (sf_hGet hn hr ⟨by omega, by omega⟩) (by decide) fun v _ => Sf.ite (fun _ => Sf.ret fun h => by simp at h) fun _ => ?_
  exact Sf.ret fun _ => ⟨.inr hx, ⟨by dsimp only; omega, by dsimp only; omega⟩, ⟨by dsimp only; omega, by dsimp only; omega⟩⟩
theorem sf_hLowB {x pr : Int} (hpr : R64 pr) : Sf D38 200 (hLowB (p38 n) 16 x pr) fun _ => True := by
  unfold hLowB
  refine Sf.b (sf_hFind hn) (by decide) fun f hf => Sf.ite (fun _ => Sf.ret trivial) fun h0 => ?_
  obtain ⟨f1, f2, f3⟩ := hf (Classical.not_not.1 h0)
  refine Sf.b (sf_hGet hn f1 ⟨by decide, by decide⟩) (by decide) fun u _ => Sf.ite (fun _ => Sf.ret trivial) fun _ => ?_
  refine Sf.b (sf_hPut hn f1 ⟨by decide, by decide⟩ hpr) (by decide) fun _ _ => ?_
  exact Sf.b (sf_hRiseS hn f2 f1) (by decide) fun r _ => Sf.ret trivial
theorem sf_hDropB {x : Int} : Sf D38 200 (hDropB (p38 n) 16 x) fun _ => True := by
  unfold hDropB
  refine Sf.b (sf_hFind hn) (by decide) fun f hf => Sf.ite (fun _ => Sf.ret trivial) fun h0 => ?_
  obtain ⟨f1, f2, f3⟩ := hf (Classical.not_not.1 h0)
  exact Sf.b (sf_hRem hn f2 f3) (by decide) fun r _ => Sf.ret trivial
end
section
variable {α β : Type} {ps : List (Int × W3)} {m : Int → Int} {V n : Int}
/-- an operation ends: an error undoes -/
theorem wd_hEnd {σ0 σ : Spc} {c : Nat} {q : Int → Prog α} {Q : α → Spc → Prop} {e : Int} {b : Bool} (H : Wld D38 σ0 σ c) (k : ∀ e' σ', Wld D38 σ0 σ' c → (e' ≠ 0 → σ'.en = false → σ'.pu = σ0.pu) → wp (q e') σ' Q) : wp (hEnd σ0.pu.length e b >>= q) σ Q := by
  obtain ⟨e', he'⟩ : ∃ e', e' = (if b = true ∧ e = 0 then 24 else e) := ⟨_, rfl⟩
  unfold hEnd
  dsimp only
  rw [← he']
  by_cases h : e' ≠ 0
  · rw [if_pos h, pb_assoc]
    exact wd_back H fun σ' H' hp => k _ σ' H' fun _ he => hp he
  · rw [if_neg h]
    exact k _ σ H fun h' => absurd h' h
theorem Sf.op {body : Prog α} {P : α → Prop} {q : α → Prog β} {Q : β → Prop} (W : WoR 384 ps m V) (H : Sf D38 200 body P) (hq : ∀ r σ, Wld D38 (newS ps) σ 200 → wp (q r) σ fun o σ' => Wld D38 (newS ps) σ' 200 ∧ (Q o → σ'.en = false → σ'.pu = [])) : wp (body >>= q) (newS ps) fun o σ' => Good 384 ps σ' ∧ (Q o → σ'.pu = []) := by
  refine Prog.wp_mono (wp_gd (Q := fun o σ' => Wld D38 (newS ps) σ' 200 ∧ (Q o → σ'.en = false → σ'.pu = [])) W.gd ?_) ?_
  · rw [wp_bind]
    refine Prog.wp_mono (H (newS ps) (newS ps) 0 (Wld.start W.gd.wf) (by show 0 + 0 + 200 ≤ 1099511627776; decide)) fun r σ' h => ?_
    exact hq r σ' (h.1.mono (by decide))
  · rintro o σ' ⟨g, _, _, H', he⟩
    have hen := H'.en rfl W.sm38.dom
    have hl : σ'.pu.length ≤ 0 + 200 := H'.len
    exact ⟨⟨g, H'.kn.trans W.kn, hen, by omega⟩, fun h => he h hen⟩
theorem push_wild (W : WoR 384 ps m V) (hn : 0 ≤ n ∧ n ≤ 40) {pr v : Int} (hpr : R64 pr) (hv : R64 v) : wp (hPush (p38 n) 16 pr v) (newS ps) fun e σ' => Good 384 ps σ' ∧ (e.2 ≠ 0 → σ'.pu = []) := by
  unfold hPush
  refine wd_mark (Sf.op (Q := fun e : Int × Int => e.2 ≠ 0) W (sf_hPushB hn hpr hv) fun r σ H => ?_)
  exact wd_hEnd H fun e' σ' H' h => ⟨H', h⟩
theorem pop_wild (W : WoR 384 ps m V) (hn : 0 ≤ n ∧ n ≤ 40) : wp (hPop (p38 n) 16) (newS ps) fun e σ' => Good 384 ps σ' ∧ (e.2.2 ≠ 0 → σ'.pu = []) := by
  unfold hPop
  refine wd_mark (Sf.op (Q := fun e : Int × Int × Int => e.2.2 ≠ 0) W (sf_hPopB hn) fun r σ H => ?_)
  exact wd_hEnd H fun e' σ' H' h => ⟨H', h⟩
theorem drop_wild (W : WoR 384 ps m V) (hn : 0 ≤ n ∧ n ≤ 40) {x : Int} : wp (hDrop (p38 n) 16 x) (newS ps) fun e σ' => Good 384 ps σ' ∧ (e.2 ≠ 0 → σ'.pu = []) := by
  unfold hDrop
  refine wd_mark (Sf.op (Q := fun e : Int × Int => e.2 ≠ 0) W (sf_hDropB hn) fun r σ H => ?_)
  exact wd_hEnd H fun e' σ' H' h => ⟨H', h⟩
theorem low_wild (W : WoR 384 ps m V) (hn : 0 ≤ n ∧ n ≤ 40) {x pr : Int} (hpr : R64 pr) : wp (hLow (p38 n) 16 x pr) (newS ps) fun e σ' => Good 384 ps σ' ∧ (e ≠ 0 → σ'.pu = []) := by
  unfold hLow
  refine wd_mark (Sf.op (Q := fun e : Int => e ≠ 0) W (sf_hLowB hn hpr) fun r σ H => ?_)
  exact wp_ret' (wd_hEnd H fun e' σ' H' h => ⟨H', h⟩)
theorem Good.same {σ : Spc} (H : Good 384 ps σ) (W : WoR 384 ps m V) (hp : σ.pu = []) : σ.vw = m := by
  funext b
  rw [vw_old (by rw [hp]; rfl), H.kn]
  have := W.sm38.vw b
  rw [vw_old (by rfl), W.kn] at this
  exact this
/-! ### Reading -/
def Sr (ps : List (Int × W3)) (m : Int → Int) (p : Prog α) (P : α → Prop) : Prop := ∀ σ, Rd38 ps m σ → wp p σ fun a σ' => Rd38 ps m σ' ∧ P a
theorem Sr.ret {a : α} {P : α → Prop} (h : P a) : Sr ps m (pure a : Prog α) P := fun _ H => ⟨H, h⟩
theorem Sr.b {p : Prog α} {q : α → Prog β} {P : α → Prop} {Q : β → Prop} (h1 : Sr ps m p P) (h2 : ∀ a, P a → Sr ps m (q a) Q) : Sr ps m (p >>= q) Q := fun σ H => by
  rw [wp_bind]
  exact Prog.wp_mono (h1 σ H) fun a σ' h => h2 a h.2 σ' h.1
theorem Sr.gt {a : Int} (h : D38 a) : Sr ps m (gt a) fun v => v = m a := fun _ H => H.get h
theorem Sr.ite {x : Prop} [Decidable x] {p1 p2 : Prog α} {P : α → Prop} (h1 : x → Sr ps m p1 P) (h2 : ¬ x → Sr ps m p2 P) : Sr ps m (if x then p1 else p2) P := by
  split
  · rename_i h; exact h1 h
  · rename_i h; exact h2 h
variable (hn : 0 ≤ n ∧ n ≤ 40)
include hn
theorem sr_hGet {x i : Int} (h : NZ n x) (hi : 0 ≤ i ∧ i ≤ 7) : Sr ps m (hGet x i) fun _ => True := by
  unfold hGet
  exact Sr.ite (fun _ => Sr.ret trivial) fun hx => fun σ H => Prog.wp_mono (Sr.gt (h.D hn hx hi) σ H) fun _ _ h => ⟨h.1, trivial⟩
theorem sr_hItem {b : Bool} {i : Int} (h : 1 ≤ i ∧ i ≤ 32) : Sr ps m (hItem (p38 n) 16 b i) fun r => NZ n r.1 ∧ (r.2 = false → ((p38 n).node r.1).isSome = true ∧ b = false) := by
  unfold hItem
  refine Sr.b (P := fun r => NZ n r.1 ∧ (r.2 = false → ((p38 n).node r.1).isSome = true ∧ b = false)) ?_ fun r hr => Sr.ite (fun h0 => Sr.ret ⟨.inl rfl, fun h => ?_⟩) fun _ => ?_
  · unfold hRow
    exact Sr.b (Sr.gt (rt_D ⟨by omega, by omega⟩)) fun v _ => Sr.ret nz_hNode
  · have h1 := node_l (hr.2 h).1
    omega
  · refine Sr.b (sr_hGet hn hr.1 ⟨by omega, by omega⟩) fun v _ => Sr.ret ⟨nz_hNode.1, fun h => ?_⟩
    have h1 := nz_hNode.2 h
    exact ⟨h1.1, (hr.2 h1.2).2⟩
theorem sr_hAllL {k : Int} (hk : k ≤ 32) : ∀ (f : Nat) (b : Bool) (i : Int) (acc : List Int), 1 ≤ i → (b = false → ∀ x ∈ acc, ((p38 n).node x).isSome = true) → Sr ps m (hAllL (p38 n) 16 k f b i acc) fun r => r.2 = false → ∀ x ∈ r.1, ((p38 n).node x).isSome = true
  | 0, b, i, acc, hi, ha => by
    unfold hAllL
    exact Sr.ret ha
  | f + 1, b, i, acc, hi, ha => by
    unfold hAllL
    refine Sr.ite (fun hx => ?_) fun _ => Sr.ret ha
    refine Sr.b (sr_hItem hn ⟨hi, by omega⟩) fun x hx' => ?_
    refine sr_hAllL hk f x.2 (i + 1) _ (by omega) fun hb y hy => ?_
    rcases List.mem_append.1 hy with hy | hy
    · exact ha hx.2 y hy
    · rw [List.mem_singleton] at hy
      subst hy
      exact (hx'.2 hb).1
theorem sr_hWalkP : Sr ps m (hWalkP (p38 n) 16) fun o => ∀ l, o = some l → ∀ x ∈ l, ((p38 n).node x).isSome = true := by
  unfold hWalkP
  refine Sr.b (Sr.gt (rt_D ⟨by decide, by decide⟩)) fun k _ => Sr.ite (fun _ => Sr.ret fun l h => by cases h) fun hk => ?_
  refine Sr.b (sr_hAllL hn (by omega) k.toNat false 1 [] (Int.le_refl _) fun _ x hx => by cases hx) fun r hr => Sr.ret fun l e => ?_
  split at e
  · cases e
  · rename_i h
    injection e with e
    subst e
    exact hr (by simpa using h)
theorem sr_hMin : Sr ps m (hMin (p38 n) 16) fun e => e.2.2 = 0 → m 16 > 0 := by
  unfold hMin
  refine Sr.b (Sr.gt (rt_D ⟨by decide, by decide⟩)) fun k ek => Sr.ite (fun _ => Sr.ret fun h => by simp at h) fun h0 => Sr.ite (fun _ => Sr.ret fun h => by simp at h) fun hk => ?_
  have ek : k = m 16 := ek
  refine Sr.b (sr_hItem hn ⟨by decide, by decide⟩) fun x hx => ?_
  refine Sr.b (sr_hGet hn hx.1 ⟨by decide, by decide⟩) fun pr _ => ?_
  refine Sr.b (sr_hGet hn hx.1 ⟨by decide, by decide⟩) fun v _ => Sr.ite (fun _ => Sr.ret fun h => by simp at h) fun _ => Sr.ret fun _ => by omega
end
end Go.En
namespace Go.En
open Prog Spc Go.Sort

variable {S : Sys} {I : Ids} {h h0 h' : Hp} {F F0 : Fp} {R : Value → Hp → Prop} {L : List Res} {s : Value} {σ τ : Spc}
section
variable {n v a : Int} {m : Int → Int} {ps qs : List (Int × W3)} {V : Int}
theorem WoR.set {N : Nat} {w : W3} (H : WoR N ps m V) (ha : 0 ≤ a ∧ a < (N : Int)) (hv : R64 w.v) (h0 : w.ref = 0) (h1 : 0 ≤ w.ver ∧ w.ver ≤ V) : WoR N (updA ps a w) (upd m a w.v) V := by
  refine ⟨nodup_updA _ _ H.nd, fun b => ?_, fun b u hu => ?_, fun b hb => ?_, fun b => ?_⟩
  · rw [lookA_updA]
    split
    · rename_i e
      subst e
      exact ⟨fun _ => ha, fun _ => rfl⟩
    · exact H.dom b
  · rw [lookA_updA] at hu
    unfold upd
    split at hu
    · rename_i e
      injection hu with hu
      subst hu
      rw [if_pos e]
      exact ⟨rfl, h0, h1⟩
    · rename_i e
      rw [if_neg e]
      exact H.val b u hu
  · unfold upd
    split
    · rename_i e
      subst e
      exact absurd ha hb
    · exact H.out b hb
  · unfold upd
    split
    · exact hv
    · exact H.rg b
theorem WoR.ext {N : Nat} (H : WoR N ps m V) {m' : Int → Int} (e : ∀ a, m a = m' a) : WoR N ps m' V := by
  have : m = m' := funext e
  exact this ▸ H
def vals38 (us : List Int) (i : Nat) : Int → Int := fun a => if 0 ≤ a ∧ a < (i : Int) then us.getD a.toNat 0 else 0
end
structure CsVX (S : Sys) (I : Ids) : Prop extends CsV8 S I where
  ubrk1 : ∀ {s a b c : Value} {h K}, F_simulcastlaw38_HeapBroken_1 S I s a b c h K → S.C I.f_simulcastlaw38_HeapBroken_1 [s, a, b, c] h K
  ubrk2 : ∀ {s a b c d : Value} {h K}, F_simulcastlaw38_HeapBroken_2 S I s a b c d h K → S.C I.f_simulcastlaw38_HeapBroken_2 [s, a, b, c, d] h K
section
variable {n b : Int} {ps : List (Int × W3)} {m : Int → Int} {V : Int} {wv : Value} {K : Value → Hp → Prop} {rc rx re rl rf rg : Nat} {X : Res} {cc : C38}
theorem K_broken1 (cs : CsV8 S I) (hc : cc.ok) (hn : 0 ≤ n ∧ n ≤ 40) (W : WoR 384 ps m V)
    (c : Cx F h0 h [rMp .i64 mW wv ps, rSpace s (newS ps), rVar EC8 rc cc, rVar EHe rx (p38 n, 16), rVar EI1 re b, X])
    (hk : ∀ σ' e h2, Good 384 ps σ' → (e ≠ 0 → σ'.pu = []) → Cx F h0 h2 [rMp .i64 mW wv ps, rSpace s σ', rVar EC8 rc cc, rVar EHe rx (p38 n, 16), rVar EI1 re e, X] → K (.tuple #[]) h2) :
    F_simulcastlaw38_HeapBroken_1 S I s (at0 rc) (at0 rx) (at0 re) h K := by
  have hd := hc.d
  have hr : R38 (16 : Int) := .inl rfl
  unfold F_simulcastlaw38_HeapBroken_1
  have lx : lda 4 (at0 rx) h = some (vHe (p38 n) 16) := (c.va (i := 3) rfl).whole rfl
  refine (c.va (i := 2) rfl).fld (j := 0) rfl ?_
  rw [remI hd.1 (by decide), vb_some, bin_eql, vb_some]
  refine brd (fun e => ?_) fun e => ?_
  · rw [lx, vb_some]
    refine c.last (cs.hpop hr.l) 1 rfl (pop_wild W hn) fun e σ2 h3 c ⟨hg, hq⟩ => ?_
    unfold uR3
    refine ext3 ?_
    refine c.sto1 4 rfl e.2.2 rfl rfl fun h4 c => ?_
    exact hk σ2 e.2.2 h4 hg hq c
  rw [bin_eql, vb_some]
  refine brd (fun e => ?_) fun e => ?_
  · rw [lx, vb_some]
    refine (c.va (i := 2) rfl).fld (j := 3) rfl ?_
    refine (c.va (i := 2) rfl).fld (j := 2) rfl ?_
    refine c.last (cs.hlow hr.l hc.V) 1 rfl (low_wild W hn hc.P) fun e σ2 h3 c ⟨hg, hq⟩ => ?_
    refine c.sto1 4 rfl e rfl rfl fun h4 c => ?_
    exact hk σ2 e h4 hg hq c
  rw [bin_eql, vb_some]
  refine brd (fun e => ?_) fun e => ?_
  · rw [lx, vb_some]
    refine (c.va (i := 2) rfl).fld (j := 3) rfl ?_
    refine c.last (cs.hdrop hr.l hc.V) 1 rfl (drop_wild W hn) fun e σ2 h3 c ⟨hg, hq⟩ => ?_
    unfold uE
    refine ext0t (ext1t ?_)
    refine c.sto1 4 rfl e.2 rfl rfl fun h4 c => ?_
    exact hk σ2 e.2 h4 hg hq c
  · rw [lx, vb_some]
    refine (c.va (i := 2) rfl).fld (j := 2) rfl ?_
    refine (c.va (i := 2) rfl).fld (j := 3) rfl ?_
    refine c.last (cs.hpush hr.l) 1 rfl (push_wild W hn hc.P hc.V) fun e σ2 h3 c ⟨hg, hq⟩ => ?_
    unfold uE
    refine ext0t (ext1t ?_)
    refine c.sto1 4 rfl e.2 rfl rfl fun h4 c => ?_
    exact hk σ2 e.2 h4 hg hq c
theorem K_broken2 (cs : CsV8 S I) (hn : 0 ≤ n ∧ n ≤ 40) (W : WoR 384 ps m V) {u0 : SH}
    (c : Cx F h0 h [rMp .i64 mW wv ps, rSpace s (newS ps), rVar EHe rx (p38 n, 16), rVar ESh rl u0, rVar EI1 rf 0, rVar EI1 rg 0, X])
    (hk : ∀ σ' u f g pts h2, Rd38 ps m σ' → (f = 0 ∨ pts = []) → (g = 0 → m 16 > 0) → Cx F h0 h2 [rMp .i64 mW wv ps, rSpace s σ', rVar EHe rx (p38 n, 16), rVar ESh rl u, rVar EI1 rf f, rVar EI1 rg g, X, rSl EPt (shV u) pts] → K (.tuple #[]) h2) :
    F_simulcastlaw38_HeapBroken_2 S I s (at0 rx) (at0 rl) (at0 rf) (at0 rg) h K := by
  have hr : R38 (16 : Int) := .inl rfl
  unfold F_simulcastlaw38_HeapBroken_2
  rw [show lda 4 (at0 rx) h = some (vHe (p38 n) 16) from (c.va (i := 2) rfl).whole rfl, vb_some]
  obtain ⟨F1, c1, up⟩ := c.frame (i := 1) rfl
  refine cs.hwalk (p := p38 n) (J := Rd38 ps m) (Qo := fun _ => True) hr.l (Rd38.jm hn) c1 (Prog.wp_mono (sr_hWalkP hn _ W.rd38) fun o σ' h => ⟨h.1, h.2, trivial⟩) fun o C σ1 v h1 M R1 _ hN _ c1 => ?_
  have c := up c1
  clear c1 up
  have c : Cx F h0 h1 [rMp .i64 mW wv ps, rSpace s σ1, rVar EHe rx (p38 n, 16), rVar ESh rl u0, rVar EI1 rf 0, rVar EI1 rg 0, X, rSl EPt v (C.map fun x => (m (x + 0), m (x + 1)))] := c.pick [0, 1, 2, 3, 4, 5, 6, 7]
  refine ext0t (ext1t ?_)
  obtain ⟨u, rfl⟩ := (c.sl (i := 7) rfl).isH
  refine c.sto1 3 rfl u rfl rfl fun h2 c => ?_
  refine c.sto1 4 rfl (if o.isSome then 0 else 24) rfl rfl fun h3 c => ?_
  rw [show lda 4 (at0 rx) h3 = some (vHe (p38 n) 16) from (c.va (i := 2) rfl).whole rfl, vb_some]
  refine c.last (cs.hmin hr.l) 1 rfl (sr_hMin hn _ R1) fun e σ2 h4 c ⟨R2, he⟩ => ?_
  unfold uR3
  refine ext3 ?_
  refine c.sto1 5 rfl e.2.2 rfl rfl fun h5 c => ?_
  refine hk σ2 u _ _ _ h5 R2 ?_ he c
  cases o with
  | none => exact .inr (by rw [hN rfl]; rfl)
  | some l => exact .inl rfl
variable {b1 : Value} {us : List Int}
set_option maxRecDepth 4000 in
set_option maxHeartbeats 3200000 in
theorem L_HeapBroken (cs : CsVX S I) (s1 : Sl EI1 h b1 us) (w1 : ∀ y ∈ us, R64 y) (hn0 : 0 ≤ n ∧ n ≤ 255) (hc : cc.ok) (hR : ∀ h', Gr h h' → R (.bool true) h') : F_simulcastlaw38_HeapBroken S I b1 (.int .u8 n) (vC8 cc) h R := by
  unfold F_simulcastlaw38_HeapBroken
  refine (Cx.start0 h).nw EC8 cc rfl fun rc h1 c => ?_
  rw [s1.ln, vb_some, bin_gtr, vb_some]
  refine brd (fun _ => cs.awake fun h4 g => hR h4 (c.more g).gr) fun hlen => ?_
  refine cs.fresh fun k h2 c2 => ?_
  have c := c.frame0 c2
  clear c2
  rw [vb_some]
  refine Lp1.by (fun (z : Nat × List (Int × W3)) v h' => v = .int .i64 z.1 ∧ z.1 ≤ us.length ∧ WoR 384 z.2 (vals38 us z.1) 0 ∧ Cx (fun _ => False) h h' [rVar EC8 rc cc, rMp .i64 mW (.map (some k)) z.2]) (fun z => us.length - z.1) (0, knF (fun _ => W0) 384)
    ⟨rfl, Nat.zero_le _, WoR.fresh.ext fun a => by unfold vals38; rw [if_neg (by dsimp only; omega)], c⟩ ?_
  clear c
  rintro ⟨i, ps⟩ v h3 ⟨rfl, hi, W, c⟩ again hagain
  dsimp only at *
  rw [bin_lss, vb_some]
  refine brd (fun hlt => ?_) fun hge => ?_
  · have hlt : i < us.length := by omega
    have hx : us[i]? = some us[i] := List.getElem?_eq_getElem hlt
    have hok := w1 us[i] (List.getElem_mem _)
    generalize us[i] = u at *
    refine (s1.gr c.gr).one rfl hx rfl rfl ?_
    refine En.vb (v := mW ⟨u, 0, 0⟩) (by kernel_rfl) ?_
    refine c.mup 1 rfl (i : Int) (⟨u, 0, 0⟩ : W3) rfl fun h4 c => ?_
    rw [bin_add, vb_some, wrS (by omega)]
    refine hagain (i + 1, _) _ _ ⟨rfl, by dsimp only; omega, ?_, c⟩ (by dsimp only; omega)
    refine (W.set (a := (i : Int)) (w := ⟨u, 0, 0⟩) ⟨by omega, by omega⟩ hok rfl ⟨Int.le_refl _, Int.le_refl _⟩).ext fun a => ?_
    unfold upd vals38
    dsimp only
    by_cases e : a = (i : Int)
    · rw [if_pos e, if_pos (by omega), e]
      simp [List.getD, hx]
    · rw [if_neg e]
      by_cases e2 : 0 ≤ a ∧ a < (i : Int)
      · rw [if_pos e2, if_pos (by omega)]
      · rw [if_neg e2, if_neg (by omega)]
  clear hagain again hge
  generalize vals38 us i = m at *
  have hnn : 0 ≤ n % 41 ∧ n % 41 ≤ 40 := by omega
  refine cs.made hn0 fun h4 g => ?_
  have c := c.more g
  generalize n % 41 = n at *
  refine c.nw EHe (⟨0, 0, 0⟩, 0) rfl fun rx h5 c => ?_
  refine c.sto 2 rfl (p38 n, 16) rfl rfl fun h6 c => ?_
  refine c.nw EI1 0 rfl fun re h7 c => ?_
  refine c.nw EI1 0 rfl fun rf h8 c => ?_
  refine c.nw EI1 0 rfl fun rg h9 c => ?_
  refine c.nw ESh (none, 0, 0) rfl fun rl h10 c => ?_
  rw [vb_some]
  have c := Cx.pack (L := [rMp .i64 mW (.map (some k)) ps, rVar EC8 rc cc, rVar EHe rx (p38 n, 16), rVar EI1 re 0]) (M := [rVar ESh rl (none, 0, 0), rVar EI1 rf 0, rVar EI1 rg 0]) (c.pick [1, 0, 2, 3, 6, 4, 5])
  refine cs.done (G := fun L' σ' => ∃ e, Good 384 ps σ' ∧ (e ≠ 0 → σ'.pu = []) ∧ L' = [rVar EC8 rc cc, rVar EHe rx (p38 n, 16), rVar EI1 re e, rStar [rVar ESh rl (none, 0, 0), rVar EI1 rf 0, rVar EI1 rg 0]])
    (by decide) W (by decide) (fun L' σ' ⟨_, hg, _⟩ => hg) c (fun s h1 K c kk => ?_) fun L' σ' ps' nv ev h11 ⟨e, hg, he, eL⟩ W' c => ?_
  · exact .inl ⟨_, _, _, rfl, cs.ubrk1 (K_broken1 cs.toCsV8 hc hnn W c fun σ' e h2 hg hq c => kk _ σ' h2 ⟨e, hg, hq, rfl⟩ c)⟩
  subst eL
  refine ext3 ?_
  rw [vb_some]
  have c := Cx.unpack (L := [rMp .i64 mW (.map (some k)) ps, rMp .i64 mW nv ps', rVar EHe rx (p38 n, 16), rVar EI1 re e]) (M := [rVar ESh rl (none, 0, 0), rVar EI1 rf 0, rVar EI1 rg 0]) (c.pick [0, 1, 4, 5, 6])
  have c := Cx.pack (L := [rMp .i64 mW (.map (some k)) ps, rVar EHe rx (p38 n, 16), rVar ESh rl (none, 0, 0), rVar EI1 rf 0, rVar EI1 rg 0]) (M := [rMp .i64 mW nv ps', rVar EI1 re e]) (c.pick [0, 2, 4, 5, 6, 1, 3])
  refine cs.done (G := fun L' σ' => ∃ u f g pts, Rd38 ps m σ' ∧ (f = 0 ∨ pts = []) ∧ (g = 0 → m 16 > 0) ∧ L' = [rVar EHe rx (p38 n, 16), rVar ESh rl u, rVar EI1 rf f, rVar EI1 rg g, rStar [rMp .i64 mW nv ps', rVar EI1 re e], rSl EPt (shV u) pts])
    (by decide) W (by decide) (fun L' σ' ⟨_, _, _, _, hg, _⟩ => hg.good W) c (fun s h1 K c kk => ?_) fun L' σ'' ps'' nv2 ev2 h12 ⟨u, f, g, pts, hg2, hf, hgm, eL⟩ W'' c => ?_
  · exact .inl ⟨_, _, _, rfl, cs.ubrk2 (K_broken2 cs.toCsV8 hnn W c fun σ' u f g pts h2 hg hf hgm c => kk _ σ' h2 ⟨u, f, g, pts, hg, hf, hgm, rfl⟩ c)⟩
  subst eL
  rw [hg2.vw] at W''
  refine ext3 ?_
  have c := Cx.unpack (L := [rMp .i64 mW (.map (some k)) ps, rMp .i64 mW nv2 ps'', rVar ESh rl u, rVar EI1 rf f, rVar EI1 rg g, rSl EPt (shV u) pts]) (M := [rMp .i64 mW nv ps', rVar EI1 re e]) (c.pick [0, 1, 4, 5, 6, 8, 7])
  have c : Cx (fun _ => False) h h12 [rMp .i64 mW (.map (some k)) ps, rMp .i64 mW nv2 ps'', rVar ESh rl u, rVar EI1 rf f, rVar EI1 rg g, rSl EPt (shV u) pts, rMp .i64 mW nv ps', rVar EI1 re e] := c
  have T2 : ∀ h16, Cx (fun _ => False) h h16 [rMp .i64 mW (.map (some k)) ps, rMp .i64 mW nv2 ps'', rVar ESh rl u, rVar EI1 rf f, rVar EI1 rg g, rSl EPt (shV u) pts, rMp .i64 mW nv ps', rVar EI1 re e] →
      Vb (ldc (at0 rg) h16) fun v82 =>
                Vb (bin .neq v82 (Value.int IntKind.i64 0)) fun v83 =>
                Br v83 (
                  S.C I.f_simulcastlaw38_awake [] h16 fun v92 h17 =>
                  R v92 h17) (
                  Vb (lkm (.int .i64) (Value.agg #[Value.int IntKind.i64 0, Value.int IntKind.u32 0, Value.int IntKind.u32 0]) false (.map (some k)) (Value.int IntKind.i64 16) h16) fun v86 =>
                  Vb (fdc 0 v86) fun v87 =>
                  Vb (bin .gtr v87 (Value.int IntKind.i64 0)) fun v88 =>
                  Br v88 (
                    S.C I.f_simulcastlaw38_awake [] h16 fun v92_1 h18 =>
                    R v92_1 h18) (
                    R (Value.bool false) h16)) := fun h16 c => by
    rw [(c.va (i := 4) rfl).one rfl, vb_some, bin_neq, vb_some]
    refine brd (fun _ => cs.awake fun h4 g => hR h4 (c.more g).gr) fun e0 => ?_
    have hm := hgm (by omega)
    refine c.wrd (i := 0) rfl W (a := 16) ⟨by decide, by decide⟩ ?_
    rw [bin_gtr, vb_some]
    exact brd (fun _ => cs.awake fun h4 g => hR h4 (c.more g).gr) fun e1 => absurd hm e1
  have T1 : ∀ h16, Cx (fun _ => False) h h16 [rMp .i64 mW (.map (some k)) ps, rMp .i64 mW nv2 ps'', rVar ESh rl u, rVar EI1 rf f, rVar EI1 rg g, rSl EPt (shV u) pts, rMp .i64 mW nv ps', rVar EI1 re e] →
      Vb (ldc (at0 rf) h16) fun v73 =>
              Vb (bin .eql v73 (Value.int IntKind.i64 0)) fun v74 =>
              Br v74 (
                Vb (ldc (at0 rg) h16) fun v82 =>
                Vb (bin .neq v82 (Value.int IntKind.i64 0)) fun v83 =>
                Br v83 (
                  S.C I.f_simulcastlaw38_awake [] h16 fun v92 h17 =>
                  R v92 h17) (
                  Vb (lkm (.int .i64) (Value.agg #[Value.int IntKind.i64 0, Value.int IntKind.u32 0, Value.int IntKind.u32 0]) false (.map (some k)) (Value.int IntKind.i64 16) h16) fun v86 =>
                  Vb (fdc 0 v86) fun v87 =>
                  Vb (bin .gtr v87 (Value.int IntKind.i64 0)) fun v88 =>
                  Br v88 (
                    S.C I.f_simulcastlaw38_awake [] h16 fun v92_1 h18 =>
                    R v92_1 h18) (
                    R (Value.bool false) h16))) (
                Vb (ldc (at0 rl) h16) fun v76 =>
                Vb (lnS v76) fun v77 =>
                Vb (bin .eql v77 (Value.int IntKind.i64 0)) fun v78 =>
                Br v78 (
                  Vb (ldc (at0 rg) h16) fun v82_1 =>
                  Vb (bin .neq v82_1 (Value.int IntKind.i64 0)) fun v83_1 =>
                  Br v83_1 (
                    S.C I.f_simulcastlaw38_awake [] h16 fun v92_2 h19 =>
                    R v92_2 h19) (
                    Vb (lkm (.int .i64) (Value.agg #[Value.int IntKind.i64 0, Value.int IntKind.u32 0, Value.int IntKind.u32 0]) false (.map (some k)) (Value.int IntKind.i64 16) h16) fun v86_1 =>
                    Vb (fdc 0 v86_1) fun v87_1 =>
                    Vb (bin .gtr v87_1 (Value.int IntKind.i64 0)) fun v88_1 =>
                    Br v88_1 (
                      S.C I.f_simulcastlaw38_awake [] h16 fun v92_3 h20 =>
                      R v92_3 h20) (
                      R (Value.bool false) h16))) (
                  R (Value.bool false) h16)) := fun h16 c => by
    rw [(c.va (i := 3) rfl).one rfl, vb_some, bin_eql, vb_some]
    refine brd (fun _ => T2 h16 c) fun e0 => ?_
    rw [(c.va (i := 2) rfl).one rfl, vb_some, (c.sl (i := 5) rfl).sl.ln, vb_some, hf.resolve_left e0]
    refine En.vb (v := .bool true) rfl ?_
    rw [br_true]
    exact T2 h16 c
  refine .here ?_
  rw [br_true, br_true, (c.va (i := 7) rfl).one rfl, vb_some, bin_eql, vb_some]
  refine brd (fun _ => ?_) fun e0 => ?_
  · refine cs.alike W W'' c fun h13 c => ?_
    rw [br_true]
    exact T1 h13 c
  · rw [hg.same W (he e0)] at W'
    have c := c.pick [0, 6, 1, 2, 3, 4, 5, 7]
    refine cs.alike W W' c fun h13 c => ?_
    rw [br_true]
    have c := c.pick [0, 2, 3, 4, 5, 6, 1, 7]
    refine cs.alike W W'' c fun h14 c => ?_
    rw [br_true]
    exact T1 h14 c
end
end Go.En
