/-
  Layer 38: two heaps over one pool; the law Merges.
  Layer 38: the law Merges.
-/
import Derived.Test.YtjnpmadojjfkpaaGreatZE
namespace Go.En
open Prog Spc Go.Sort

variable {S : Sys} {I : Ids} {h h0 h' : Hp} {F F0 : Fp} {R : Value → Hp → Prop} {L : List Res} {s : Value} {σ τ : Spc}
section
variable {n r1 r2 : Int} {m m' : Int → Int} {rw A rw' A' : Int → Int} {fr fr' : List Int} {out out' x pr v : Int} {l : List Im} {hs : List Int}
/-- a heap is untouched by what happens to another -/
theorem HS.frame {X : Int → Prop} (H : HS n r2 m rw A fr out l hs) (P' : PoolR m' (p38 n) fr' out') (sm : Smf (p38 n) r1 X m m') (hr : (r1 = 16 ∧ r2 = 24) ∨ (r1 = 24 ∧ r2 = 16)) (hX : ∀ x, X x → isN (p38 n) x) (hd : ∀ y, HOw l.length rw A y → ¬ X y) (ot : ∀ y, HOw l.length rw A y → Ot (p38 n) fr' out' y) : HS n r2 m' rw A fr' out' l hs := by
  have nodeEq : ∀ y, HOw l.length rw A y → ∀ o, 0 ≤ o → o ≤ 7 → m' (y + o) = m (y + o) := fun y hy o o0 o7 => by
    obtain ⟨i, i0, i1, ey⟩ := H.P.N.mem hy
    have ey : y = 64 + 8 * i := ey
    refine sm _ (fun j j0 j2 => ?_) (fun j j0 j7 => by omega) fun x hx j j0 j7 => ?_
    · show y + o ≠ 1 + j
      omega
    · obtain ⟨i', i0', i1', ex⟩ := hX x hx
      have ex : x = 64 + 8 * i' := ex
      have hne : y ≠ x := fun e => hd y hy (e ▸ hx)
      omega
  have rootEq : ∀ o, 0 ≤ o → o ≤ 7 → m' (r2 + o) = m (r2 + o) := fun o o0 o7 => by
    refine sm _ (fun j j0 j2 => ?_) (fun j j0 j7 => by omega) fun x hx j j0 j7 => ?_
    · show r2 + o ≠ 1 + j
      omega
    · obtain ⟨i', i0', i1', ex⟩ := hX x hx
      have ex : x = 64 + 8 * i' := ex
      omega
  have k := H.P
  have k32 := k.k32
  have hM : ∀ i, 1 ≤ i → i ≤ (l.length : Int) → HOw l.length rw A (A i) := fun i i1 i2 => .inl ⟨i, i1, i2, rfl⟩
  have hW : ∀ r, 0 ≤ r → 8 * r < (l.length : Int) → HOw l.length rw A (rw r) := fun r r0 r1 => .inr ⟨r, r0, r1, rfl⟩
  have ky : ∀ i, 1 ≤ i → i ≤ (l.length : Int) → kyM m' (A i) = kyM m (A i) := fun i i1 i2 => by
    have h0 := nodeEq _ (hM i i1 i2) 0 (by decide) (by decide)
    have h2 := nodeEq _ (hM i i1 i2) 2 (by decide) (by decide)
    rw [Int.add_zero] at h0
    unfold kyM
    rw [h0, h2]
  have it2 : ∀ y, Mem l.length A y → itm m' y = itm m y := fun y hy => itm_old fun o o0 o2 => nodeEq y (.inl hy) o o0 (by omega)
  refine ⟨⟨P', k.N, k.H.ext (fun r r0 r1 => rootEq _ (by omega) (by omega)) (fun i i1 i2 _ => nodeEq _ (hW _ (by omega) (by omega)) _ (by omega) (by omega)) (fun i i1 i2 _ => nodeEq _ (hM i i1 i2) 3 (by decide) (by decide)), k.k0, k.k32, (rootEq 0 (by decide) (by decide)).trans k.sz, (rootEq 7 (by decide) (by decide)).trans k.hl, fun r r0 r4 hk => (rootEq _ (by omega) (by omega)).trans (k.z r r0 r4 hk), ot, fun i i2 ik => ?_⟩, H.srt, fun it => ?_, fun y hy => ?_, (rootEq 1 (by decide) (by decide)).trans H.pu, H.hb⟩
  · show klt (kyM m' (A i)) (kyM m' (A (i / 2))) = false
    rw [ky i (by omega) ik, ky (i / 2) (by omega) (by omega)]
    exact k.o i i2 ik
  · rw [H.mem]
    exact ⟨fun ⟨y, hy, e⟩ => ⟨y, hy, (it2 y hy).trans e⟩, fun ⟨y, hy, e⟩ => ⟨y, hy, (it2 y hy).symm.trans e⟩⟩
  · rw [nodeEq y (.inl hy) 2 (by decide) (by decide)]
    exact H.hnd y hy
end
/-- two heaps over one pool -/
structure B38 (r1 r2 : Int) (b : Nat) (l1 l2 : List Im) (σ : Spc) : Prop where
  gd : Gd σ
  pu : σ.pu.length ≤ b
  hr : (r1 = 16 ∧ r2 = 24) ∨ (r1 = 24 ∧ r2 = 16)
  ex : ∃ m rw1 A1 rw2 A2 fr out hs1 hs2, Sm D38 σ σ m 0 ∧ HS 40 r1 m rw1 A1 fr out l1 hs1 ∧ HS 40 r2 m rw2 A2 fr out l2 hs2 ∧ (∀ y, HOw l2.length rw2 A2 y → ¬ HOw l1.length rw1 A1 y) ∧ hs1.length ≤ b ∧ hs2.length ≤ b ∧ (l1.length : Int) + (l1.length + 7) / 8 + (l2.length + (l2.length + 7) / 8) + fr.length = out
section
variable {r1 r2 : Int} {b : Nat} {l1 l2 : List Im}
theorem B38.swap (B : B38 r1 r2 b l1 l2 σ) : B38 r2 r1 b l2 l1 σ := by
  obtain ⟨g, pu, hr, m, rw1, A1, rw2, A2, fr, out, hs1, hs2, S, H1, H2, dj, b1, b2, cnt⟩ := B
  exact ⟨g, pu, by omega, m, rw2, A2, rw1, A1, fr, out, hs2, hs1, S, H2, H1, fun y h1 h2 => dj y h2 h1, b2, b1, by omega⟩
theorem B38.root (B : B38 r1 r2 b l1 l2 σ) : R38 r1 := by
  rcases B.hr with ⟨h, _⟩ | ⟨h, _⟩
  · exact .inl h
  · exact .inr h
theorem B38.push {pr v : Int} (B : B38 r1 r2 b l1 l2 σ) (hb : b ≤ 100000) (h1 : l1.length ≤ 15) (h2 : l2.length ≤ 16) (hpr : R64 pr) (hv : R64 v) : wp (hPush (p38 40) r1 pr v) σ fun e σ' => e.2 = 0 ∧ ∃ O, B38 r1 r2 (b + 200) (rPut l1 ⟨pr, v, O, O⟩) l2 σ' := by
  have hn : (0 : Int) ≤ 40 ∧ (40 : Int) ≤ 40 := by decide
  have hR := B.root
  obtain ⟨g, pu, hr, m, rw1, A1, rw2, A2, fr, out, hs1, hs2, S, H1, H2, dj, b1, b2, cnt⟩ := B
  refine Prog.wp_mono (wp_gd g (wp_hPush hR.A (p38_D hn) hR.D S H1.P hpr hv (by show _ ≤ 1099511627776; omega))) ?_
  rintro e σ' ⟨g', _, _, hq⟩
  have hd8 := dv8e l1.length
  have hdr : dR l1.length ≤ 1 := by unfold dR; split <;> omega
  rcases hq with ⟨x, rw', A', fr', out', m', rfl, hk, ho, S', P', D'⟩ | ⟨rfl, S', hw⟩
  · refine ⟨rfl, hs1.length, ?_⟩
    have hlen := S'.len
    have e1 : (((rPut l1 ⟨pr, v, hs1.length, hs1.length⟩).length : Nat) : Int) = (l1.length : Int) + 1 := by rw [len_rPut]; omega
    have kp : ∀ y, HOw l2.length rw2 A2 y → Ot (p38 40) fr' out' y ∧ ¬ HOw ((l1.length : Int) + 1) rw' A' y := fun y hy => D'.keep y (H2.P.ot y hy) (dj y hy)
    have hc := D'.cnt
    refine ⟨g', by omega, hr, m', rw', A', rw2, A2, fr', out', hs1 ++ [x], hs2, S'.fresh, H1.push P' D', H2.frame P'.P D'.sm hr (fun x hx => P'.N.mem hx) (fun y hy => (kp y hy).2) fun y hy => (kp y hy).1, fun y hy => ?_, by rw [List.length_append, List.length_singleton]; omega, by omega, ?_⟩
    · rw [e1]; exact (kp y hy).2
    · rw [e1]; omega
  · exfalso
    rcases hw with h | h | h
    · omega
    · rw [H1.pu] at h; omega
    · have h : (fr.length : Int) - out + 40 < 1 + dR l1.length := h
      omega
theorem B38.pop {it : Im} {t : List Im} (B : B38 r1 r2 b (it :: t) l2 σ) (hb : b ≤ 100000) : wp (hPop (p38 40) r1) σ fun e σ' => e = (it.P, it.V, 0) ∧ B38 r1 r2 (b + 200) t l2 σ' := by
  have hn : (0 : Int) ≤ 40 ∧ (40 : Int) ≤ 40 := by decide
  have hR := B.root
  obtain ⟨g, pu, hr, m, rw1, A1, rw2, A2, fr, out, hs1, hs2, S, H1, H2, dj, b1, b2, cnt⟩ := B
  refine Prog.wp_mono (wp_gd g (wp_hPop hR.A (p38_D hn) hR.D S H1.P (by show _ ≤ 1099511627776; omega))) ?_
  rintro e σ' ⟨g', _, _, hq⟩
  have hit := H1.head rfl
  have hl1 : (((it :: t).length : Nat) : Int) = (t.length : Int) + 1 := by rw [List.length_cons]; omega
  rcases hq with ⟨A', fr', m', rfl, hk, S', P', D'⟩ | ⟨rfl, hk, S'⟩
  · have hx := H1.rem (i := 1) (i0 := 0) (Int.le_refl _) hk (by rw [hit]; rfl) P' D'
    have hx : HS 40 r1 m' rw1 A' fr' out t hs1 := hx
    have hlen := S'.len
    have kp : ∀ y, HOw l2.length rw2 A2 y → Ot (p38 40) fr' out y ∧ ¬ HOw (((it :: t).length : Int) - 1) rw1 A' y := fun y hy => D'.keep y (H2.P.ot y hy) (dj y hy)
    have hc := D'.cnt
    have hd8 := dv8e t.length
    rw [hl1] at kp hc cnt
    rw [show (t.length : Int) + 1 - 1 = t.length by omega] at kp hc
    refine ⟨by rw [hit]; rfl, g', by omega, hr, m', rw1, A', rw2, A2, fr', out, hs1, hs2, S'.fresh, hx, H2.frame P'.P D'.sm hr (fun x hx => H1.P.N.mem hx) dj fun y hy => (kp y hy).1, fun y hy => (kp y hy).2, by omega, by omega, by omega⟩
  · rw [hl1] at hk; omega
theorem B38.len (B : B38 r1 r2 b l1 l2 σ) : wp (gt (r1 + 0)) σ fun e σ' => e = l1.length ∧ B38 r1 r2 b l1 l2 σ' := by
  have hR := B.root
  obtain ⟨g, pu, hr, m, rw1, A1, rw2, A2, fr, out, hs1, hs2, S, H1, H2, dj, b1, b2, cnt⟩ := B
  refine Prog.wp_mono (wp_gd (Q := fun e σ' => Sm D38 σ σ' m 0 ∧ e = m (r1 + 0)) g ?_) fun e σ' ⟨g', _, _, S', he⟩ => ⟨?_, g', ?_, hr, m, rw1, A1, rw2, A2, fr, out, hs1, hs2, S'.fresh, H1, H2, dj, b1, b2, cnt⟩
  · show Sm D38 σ (σ.get _).2 m 0 ∧ (σ.get _).1 = _
    rw [S.get (hR.D 0 (by decide) (by decide))]
    exact ⟨S.rds _, rfl⟩
  · rw [he, H1.P.sz]
  · have := S'.len; omega
theorem B38.left (B : B38 r1 r2 b [] [] σ) : wp (pLeft (p38 40)) σ fun e σ' => e = 40 ∧ B38 r1 r2 b [] [] σ' := by
  have hn : (0 : Int) ≤ 40 ∧ (40 : Int) ≤ 40 := by decide
  obtain ⟨g, pu, hr, m, rw1, A1, rw2, A2, fr, out, hs1, hs2, S, H1, H2, dj, b1, b2, cnt⟩ := B
  have P := H1.P.P
  have gd := P.good
  have hD := p38_D hn
  have c0 : (fr.length : Int) = out := by simpa using cnt
  refine Prog.wp_mono (wp_gd (Q := fun e σ' => Sm D38 σ σ' m 0 ∧ e = 40) g ?_) fun e σ' ⟨g', _, _, S', he⟩ => ⟨he, g', ?_, hr, m, rw1, A1, rw2, A2, fr, out, hs1, hs2, S'.fresh, H1, H2, dj, b1, b2, cnt⟩
  · unfold pLeft
    rw [if_pos gd]
    refine wp_get S (hD.r 2 (by omega) (by omega)) fun σ1 S => ?_
    refine wp_get S (hD.r 1 (by omega) (by omega)) fun σ1 S => ?_
    have h1 := P.out1
    have h1 : out ≤ 40 := h1
    have h0 := P.out0
    rw [P.frE, P.outE, w64_R (z := fr.length + (p38 40).nodes) ⟨by show _ ≤ _ + (40 : Int); omega, by show _ + (40 : Int) ≤ _; omega⟩]
    rw [show (fr.length : Int) + (p38 40).nodes - out = 40 by show (fr.length : Int) + 40 - out = 40; omega]
    exact ⟨S, rfl⟩
  · have := S'.len; omega
end
theorem perm_rPut {l : List Im} {x : Im} : (rPut l x).Perm (x :: l) := by
  unfold rPut
  have e := List.takeWhile_append_dropWhile (p := fun y => itLt y x) (l := l)
  have h := List.perm_middle (a := x) (l₁ := l.takeWhile fun y => itLt y x) (l₂ := l.dropWhile fun y => itLt y x)
  rw [e] at h
  exact h
/-- sorted lists with the same members, counted, are the same -/
theorem srt_eq : ∀ {a b : List Int}, a.Pairwise (· ≤ ·) → b.Pairwise (· ≤ ·) → a.Perm b → a = b
  | [], b, _, _, h => h.nil_eq
  | x :: a, [], _, _, h => by have := h.length_eq; simp at this
  | x :: a, y :: b, h1, h2, h => by
    obtain ⟨hx, ha⟩ := List.pairwise_cons.1 h1
    obtain ⟨hy, hb⟩ := List.pairwise_cons.1 h2
    have e : x = y := by
      rcases List.mem_cons.1 (h.mem_iff.1 (List.mem_cons_self ..)) with e | e
      · exact e
      · rcases List.mem_cons.1 (h.mem_iff.2 (List.mem_cons_self ..)) with e2 | e2
        · exact e2.symm
        · have := hy x e; have := hx y e2; omega
    subst e
    rw [srt_eq ha hb (List.Perm.cons_inv h)]
theorem asc_P {l : List Im} (h : Asc l) : (l.map (·.P)).Pairwise (· ≤ ·) := by
  rw [List.pairwise_map]
  refine h.imp fun {a b} h => ?_
  unfold itLt at h
  rw [klt_iff] at h
  dsimp only at h
  omega
theorem B38.asc {r1 r2 : Int} {b : Nat} {l1 l2 : List Im} (B : B38 r1 r2 b l1 l2 σ) : Asc l1 ∧ Asc l2 := by
  obtain ⟨g, pu, hr, m, rw1, A1, rw2, A2, fr, out, hs1, hs2, S, H1, H2, _⟩ := B
  exact ⟨H1.srt, H2.srt⟩
end Go.En
namespace Go.En
open Prog Spc Go.Sort

variable {S : Sys} {I : Ids} {h h0 h' : Hp} {F F0 : Fp} {R : Value → Hp → Prop} {L : List Res} {s : Value} {σ τ : Spc}
theorem HS.start {n root : Int} {m : Int → Int} (hn : 0 ≤ n ∧ n ≤ 40) (hz : ∀ a, m a = 0) : HS n root m (fun _ => 0) (fun _ => 0) [] 0 [] [] := by
  have nom : ∀ y, ¬ Mem 0 (fun _ => (0 : Int)) y := fun y ⟨i, i1, i2, _⟩ => by omega
  refine ⟨⟨⟨p38_good hn, hz _, hz _, hz _, Int.le_refl 0, hn.1, (fun x hx => by cases hx), List.nodup_nil⟩, ⟨fun i i1 ik => ?_, fun r r0 r1 => ?_, fun r i r0 r1 => ?_, fun r s r0 r1 => ?_, fun i j i1 ik => ?_⟩, ⟨fun r r0 r1 => ?_, fun i i1 ik => ?_, fun i i1 ik => ?_⟩, Int.le_refl 0, by decide, hz _, hz _, fun r _ _ _ => hz _, fun x hx => ?_, fun i i2 ik => ?_⟩, .nil, fun it => ?_, fun y hy => absurd hy (nom y), hz _, (fun y hy => by cases hy)⟩
  · have : i ≤ 0 := ik
    omega
  · have : 8 * r < 0 := r1
    omega
  · have : 8 * r < 0 := r1
    omega
  · have : 8 * r < 0 := r1
    omega
  · have : i ≤ 0 := ik
    omega
  · have : 8 * r < 0 := r1
    omega
  · have : i ≤ 0 := ik
    omega
  · have : i ≤ 0 := ik
    omega
  · rcases hx with hx | ⟨r, r0, r1, _⟩
    · exact absurd hx (nom x)
    · have : 8 * r < 0 := r1
      omega
  · have : i ≤ 0 := ik
    omega
  · constructor
    · intro h; cases h
    · rintro ⟨y, hy, _⟩; exact absurd hy (nom y)
theorem Sl.arr {ik q q' : IntKind} {n i j : Nat} {v : Value} {xs : List (Nat → Int)} {x : Nat → Int} {z z' : Int} (H : Sl (EAr ik n) h v xs) (hx : xs[i]? = some x) (hz : z = i) (hj : j < n) (hz' : z' = j) {k : Value → Prop} (hk : k (.int ik (x j))) :
    Vb (ixs n v (.int q z)) fun p => Vb (ixa n 1 p (.int q' z')) fun p => Vb (ldc p h) k := by
  obtain ⟨r, o, e, hr, _⟩ := H.ix hx rfl hz (k := q)
  exact En.vb e (En.vb (ixa_at hz' hj o) (En.vb (hr.ldc (EAr_get hj)) hk))
/-- a list, turned -/
def rot {α : Type} (l : List α) (t : Nat) : List α := l.drop (t % l.length) ++ l.take (t % l.length)
theorem rot_perm {α : Type} {l : List α} {t : Nat} : (rot l t).Perm l := by
  unfold rot
  have h := List.perm_append_comm (l₁ := l.drop (t % l.length)) (l₂ := l.take (t % l.length))
  rw [List.take_append_drop] at h
  exact h
theorem rot_get {α : Type} {l : List α} {t i : Nat} (h : i < l.length) : (rot l t)[i]? = l[(i + t) % l.length]? := by
  unfold rot
  have hq : t % l.length < l.length := Nat.mod_lt _ (by omega)
  have e : (i + t) % l.length = (i + t % l.length) % l.length := by rw [Nat.add_mod_mod]
  rw [e]
  generalize t % l.length = q at *
  by_cases h1 : i < l.length - q
  · rw [List.getElem?_append_left (by rw [List.length_drop]; exact h1), List.getElem?_drop, Nat.mod_eq_of_lt (by omega), Nat.add_comm]
  · rw [List.getElem?_append_right (by rw [List.length_drop]; omega), List.length_drop, List.getElem?_take_of_lt (by omega), Nat.mod_eq_sub_mod (by omega), Nat.mod_eq_of_lt (by omega)]
    congr 1
    omega
theorem h_i8' {z : Int} (h : (Lit.int .i8 z).wf = true) : -128 ≤ z ∧ z ≤ 127 := by
  have h1 : IntKind.i8.min = -128 := rfl
  have h2 : IntKind.i8.max = 127 := rfl
  simp only [Lit.wf, Bool.and_eq_true, decide_eq_true_eq] at h
  exact ⟨by omega, by omega⟩
theorem perm_snoc {l : List Im} {ms : List (Nat → Int)} {i : Nat} {f : Nat → Int} {v O : Int} (h : (l.map (·.P)).Perm ((ms.take i).map (· 0))) (hx : ms[i]? = some f) : ((rPut l ⟨f 0, v, O, O⟩).map (·.P)).Perm ((ms.take (i + 1)).map (· 0)) := by
  rw [List.take_add_one, hx, List.map_append]
  refine ((perm_rPut (l := l) (x := ⟨f 0, v, O, O⟩)).map (·.P)).trans ?_
  show (f 0 :: l.map (·.P)).Perm (_ ++ [f 0])
  exact (h.cons (f 0)).trans (List.perm_append_comm (l₁ := [f 0]))
set_option maxHeartbeats 3200000 in
theorem L_HeapMerges {b1 : Value} {ms : List (Nat → Int)} {t0 : Int} (cs : CsV8 S I) (s1 : Sl (EAr .i8 2) h b1 ms) (w1 : ∀ f ∈ ms, ∀ i, i < 2 → (Lit.int .i8 (f i)).wf = true) (ht : 0 ≤ t0 ∧ t0 ≤ 255) (hR : ∀ h', Gr h h' → R (.bool true) h') : F_simulcastlaw38_HeapMerges S I b1 (.int .u8 t0) h R := by
  obtain ⟨t, rfl⟩ : ∃ t : Nat, t0 = t := ⟨t0.toNat, by omega⟩
  unfold F_simulcastlaw38_HeapMerges
  rw [s1.ln, vb_some, bin_gtr, vb_some]
  refine brd (fun _ => cs.awake hR) fun hlen => ?_
  refine En.vb (v := vP (p38 40)) (by kernel_rfl) ?_
  refine En.vb (v := vHe (p38 40) 16) (by kernel_rfl) ?_
  refine (Cx.start0 h).nw EHe (⟨0, 0, 0⟩, 0) rfl fun ra h1 c => ?_
  refine c.sto 0 rfl (p38 40, 16) rfl rfl fun h2 c => ?_
  rw [show lda 4 (at0 ra) h2 = some (vHe (p38 40) 16) from (c.va (i := 0) rfl).whole rfl, vb_some]
  refine c.nw EHe (⟨0, 0, 0⟩, 0) rfl fun rb h3 c => ?_
  refine c.sto 1 rfl (p38 40, 16) rfl rfl fun h4 c => ?_
  refine c.stof 1 rfl (j := 3) (p38 40, 24) rfl (by decide) rfl fun h5 c => ?_
  refine cs.fresh fun k h6 c2 => ?_
  have c := c.frame0 c2
  clear c2
  have W0' := WoR.fresh (N := 384)
  refine c.cNew cs.toCsD 2 rfl W0'.nd W0'.r64 fun s h7 c => ?_
  have c : Cx (fun _ => False) h h7 [rVar EHe ra (p38 40, 16), rVar EHe rb (p38 40, 24), rSpace s (newS (knF (fun _ => W0) 384))] := c.pick [0, 1, 3]
  have hn40 : (0 : Int) ≤ 40 ∧ (40 : Int) ≤ 40 := by decide
  have B0 : B38 16 24 (400 * 0) [] [] (newS (knF (fun _ => W0) 384)) := by
    have H := W0'.rd38
    refine ⟨H.gd, by rw [H.pu]; exact Nat.le_refl 0, .inl ⟨rfl, rfl⟩, _, fun _ => 0, fun _ => 0, fun _ => 0, fun _ => 0, [], 0, [], [], H.sm.fresh, HS.start hn40 fun _ => rfl, HS.start hn40 fun _ => rfl, fun y hy => ?_, Nat.le_refl _, Nat.le_refl _, rfl⟩
    rcases hy with ⟨i, i1, i2, _⟩ | ⟨r, r0, r1, _⟩
    · have : i ≤ 0 := i2
      omega
    · have : 8 * r < 0 := r1
      omega
  rw [vb_some]
  refine Lp1.by (fun (z : Nat × List Im × List Im × Spc) u h' => u = .int .i64 z.1 ∧ z.1 ≤ ms.length ∧ z.2.1.length = z.1 ∧ z.2.2.1.length = z.1 ∧ (z.2.1.map (·.P)).Perm ((ms.take z.1).map (· 0)) ∧ (z.2.2.1.map (·.P)).Perm (((rot ms t).take z.1).map (· 0)) ∧ B38 16 24 (400 * z.1) z.2.1 z.2.2.1 z.2.2.2 ∧ Cx (fun _ => False) h h' [rVar EHe ra (p38 40, 16), rVar EHe rb (p38 40, 24), rSpace s z.2.2.2]) (fun z => ms.length - z.1) (0, [], [], _) ⟨rfl, Nat.zero_le _, rfl, rfl, .nil, .nil, B0, c⟩ ?_
  clear c B0 W0'
  rintro ⟨i, l1, l2, σ⟩ u h8 ⟨rfl, hi, hl1, hl2, hp1, hp2, B, c⟩ again hagain
  dsimp only at *
  rw [bin_lss, vb_some]
  refine brd (fun e => ?_) fun e => ?_
  · have hlt : i < ms.length := by omega
    have hq : (i + t) % ms.length < ms.length := Nat.mod_lt _ (by omega)
    have hx1 : ms[i]? = some ms[i] := List.getElem?_eq_getElem hlt
    have hx2 : ms[(i + t) % ms.length]? = some ms[(i + t) % ms.length] := List.getElem?_eq_getElem hq
    have hf1 := w1 _ (List.mem_of_getElem? hx1)
    have hf2 := w1 _ (List.mem_of_getElem? hx2)
    generalize ms[i] = f1 at hx1 hf1
    generalize ms[(i + t) % ms.length] = f2 at hx2 hf2
    have a0 := h_i8' (hf1 0 (by decide)); have a1 := h_i8' (hf1 1 (by decide))
    have b0 := h_i8' (hf2 0 (by decide)); have b1 := h_i8' (hf2 1 (by decide))
    clear hf1 hf2
    have hr2 := rot_get (l := ms) (t := t) hlt
    rw [hx2] at hr2
    rw [cvi_int, vb_some, wr64 ⟨by omega, by omega⟩, addI ⟨by omega, by omega⟩, vb_some, vb_some, remI (by omega) (by omega), vb_some]
    refine (s1.gr c.gr).whole rfl hx2 (by rw [← Int.natCast_add, ← Int.natCast_emod]) ?_
    refine c.nw (EAr .i8 2) (fun _ => 0) rfl fun rx h9 c => ?_
    refine c.sto 3 rfl f2 rfl rfl fun h10 c => ?_
    rw [show lda 4 (at0 ra) h10 = some (vHe (p38 40) 16) from (c.va (i := 0) rfl).whole rfl, vb_some]
    refine (s1.gr c.gr).arr hx1 rfl (j := 0) (by decide) rfl ?_
    rw [cvi_int, vb_some, wr64 ⟨by omega, by omega⟩]
    refine (s1.gr c.gr).arr hx1 rfl (j := 1) (by decide) rfl ?_
    rw [cvi_int, vb_some, wr64 ⟨by omega, by omega⟩]
    refine c.last (cs.hpush B.root.l) 2 rfl (B.push (by omega) (by omega) (by omega) ⟨by omega, by omega⟩ ⟨by omega, by omega⟩) fun e1 σ1 h11 c ⟨he1, O1, B1⟩ => ?_
    unfold uE
    refine ext0t (ext1t ?_)
    rw [show lda 4 (at0 rb) h11 = some (vHe (p38 40) 24) from (c.va (i := 1) rfl).whole rfl, vb_some]
    refine (c.va (i := 3) rfl).ix (i := 0) rfl (by decide) ?_
    rw [cvi_int, vb_some, wr64 ⟨by omega, by omega⟩]
    refine (c.va (i := 3) rfl).ix (i := 1) rfl (by decide) ?_
    rw [cvi_int, vb_some, wr64 ⟨by omega, by omega⟩]
    have hl1' : (rPut l1 ⟨f1 0, f1 1, O1, O1⟩).length = i + 1 := by rw [len_rPut]; omega
    refine c.last (cs.hpush B1.swap.root.l) 2 rfl (B1.swap.push (by omega) (by omega) (by omega) ⟨by omega, by omega⟩ ⟨by omega, by omega⟩) fun e2 σ2 h12 c ⟨he2, O2, B2⟩ => ?_
    unfold uE
    refine ext0t (ext1t ?_)
    refine .here ?_
    rw [he1, neI, vb_some, br_false, he2, neI, vb_some]
    show Br _ _ _
    rw [br_false, bin_add, vb_some, wrS (by omega)]
    refine hagain (i + 1, rPut l1 ⟨f1 0, f1 1, O1, O1⟩, rPut l2 ⟨f2 0, f2 1, O2, O2⟩, σ2) _ _ ⟨rfl, by dsimp only; omega, hl1', by dsimp only; rw [len_rPut]; omega, perm_snoc hp1 hx1, perm_snoc hp2 hr2, ?_, c.pick [0, 1, 2]⟩ (by dsimp only; omega)
    have e3 : 400 * (i + 1) = 400 * i + 200 + 200 := by omega
    dsimp only
    rw [e3]
    exact B2.swap
  have ei : i = ms.length := by omega
  subst ei
  clear hagain again
  have hrl : (rot ms t).length = ms.length := rot_perm.length_eq
  have hp2' : (rot ms t).take ms.length = rot ms t := by rw [← hrl, List.take_length]
  rw [List.take_length] at hp1
  rw [hp2'] at hp2
  have hP : l1.map (·.P) = l2.map (·.P) := srt_eq (asc_P B.asc.1) (asc_P B.asc.2) (hp1.trans ((hp2.trans (rot_perm.map _)).symm))
  clear hp1 hp2 hp2' hrl
  rw [vb_some]
  refine Lp1.by (fun (z : Nat × List Im × List Im × Spc) u h' => u = .int .i64 z.1 ∧ z.1 + z.2.1.length = ms.length ∧ z.2.1.map (·.P) = z.2.2.1.map (·.P) ∧ B38 16 24 (6400 + 400 * z.1) z.2.1 z.2.2.1 z.2.2.2 ∧ Cx (fun _ => False) h h' [rVar EHe ra (p38 40, 16), rVar EHe rb (p38 40, 24), rSpace s z.2.2.2]) (fun z => ms.length - z.1) (0, l1, l2, σ) ⟨rfl, by dsimp only; omega, hP, ⟨B.gd, by have := B.pu; dsimp only; omega, B.hr, ?_⟩, c⟩ ?_
  · obtain ⟨m, rw1, A1, rw2, A2, fr, out, hs1, hs2, hS, H1, H2, dj, q1, q2, cnt⟩ := B.ex
    exact ⟨m, rw1, A1, rw2, A2, fr, out, hs1, hs2, hS, H1, H2, dj, by omega, by omega, cnt⟩
  clear c B hP hl1 hl2
  rintro ⟨i, l1, l2, σ⟩ u h9 ⟨rfl, hi, hP, B, c⟩ again hagain
  dsimp only at *
  have hl12 : l1.length = l2.length := by have := congrArg List.length hP; rwa [List.length_map, List.length_map] at this
  rw [bin_lss, vb_some]
  refine brd (fun e => ?_) fun e => ?_
  · obtain ⟨it, t1, rfl⟩ : ∃ it t1, l1 = it :: t1 := by
      cases l1 with
      | nil => simp at hi; omega
      | cons it t1 => exact ⟨it, t1, rfl⟩
    obtain ⟨it2, t2, rfl⟩ : ∃ it2 t2, l2 = it2 :: t2 := by
      cases l2 with
      | nil => simp at hl12
      | cons it t1 => exact ⟨it, t1, rfl⟩
    rw [List.map_cons, List.map_cons] at hP
    injection hP with hP1 hP2
    rw [List.length_cons] at hi
    rw [show lda 4 (at0 ra) h9 = some (vHe (p38 40) 16) from (c.va (i := 0) rfl).whole rfl, vb_some]
    refine c.last (cs.hpop B.root.l) 2 rfl (B.pop (by omega)) fun e1 σ1 h10 c ⟨he1, B1⟩ => ?_
    subst he1
    unfold uR3
    refine ext3 ?_
    rw [show lda 4 (at0 rb) h10 = some (vHe (p38 40) 24) from (c.va (i := 1) rfl).whole rfl, vb_some]
    refine c.last (cs.hpop B1.swap.root.l) 2 rfl (B1.swap.pop (by omega)) fun e2 σ2 h11 c ⟨he2, B2⟩ => ?_
    subst he2
    unfold uR3
    refine ext3 ?_
    refine .here ?_
    rw [neI, vb_some, br_false, vb_some, br_false]
    show Vb (bin .neq (.int .i64 it.P) (.int .i64 it2.P)) _
    rw [hP1, neI, vb_some]
    show Br _ _ _
    rw [br_false, bin_add, vb_some, wrS (by omega)]
    refine hagain (i + 1, t1, t2, σ2) _ _ ⟨rfl, by dsimp only; omega, hP2, ?_, c⟩ (by dsimp only; omega)
    have e3 : 6400 + 400 * (i + 1) = 6400 + 400 * i + 200 + 200 := by omega
    dsimp only
    rw [e3]
    exact B2.swap
  have hl1 : l1 = [] := List.eq_nil_of_length_eq_zero (by omega)
  subst hl1
  have hl2 : l2 = [] := List.eq_nil_of_length_eq_zero hl12.symm
  subst hl2
  refine .here ?_
  rw [show lda 4 (at0 ra) h9 = some (vHe (p38 40) 16) from (c.va (i := 0) rfl).whole rfl, vb_some]
  refine c.last (cs.hlen B.root.l) 2 rfl B.len fun e1 σ1 h10 c ⟨he1, B⟩ => ?_
  subst he1
  unfold uI
  rw [show ((([] : List Im).length : Nat) : Int) = 0 from rfl, eqI, vb_some, br_true]
  rw [show lda 4 (at0 rb) h10 = some (vHe (p38 40) 24) from (c.va (i := 1) rfl).whole rfl, vb_some]
  refine c.last (cs.hlen B.swap.root.l) 2 rfl B.swap.len fun e2 σ2 h11 c ⟨he2, B⟩ => ?_
  subst he2
  unfold uI
  rw [show ((([] : List Im).length : Nat) : Int) = 0 from rfl, eqI, vb_some, br_true]
  have hr : Row EPl h11 ra (0 + 0) (p38 40) := fun j u hu => by
    have := (c.va (i := 0) rfl).row j u (by
      match j, hu with
      | 0, hu => exact hu
      | 1, hu => exact hu
      | 2, hu => exact hu
      | j + 3, hu => simp [EPl] at hu)
    exact this
  refine En.vb (fa_add _ _ _) (En.vb (hr.lda rfl) ?_)
  refine c.last cs.left 2 rfl B.left fun e3 σ3 h12 c ⟨he3, B⟩ => ?_
  subst he3
  unfold uI
  rw [eqI, vb_some, br_true]
  obtain ⟨F1, pa⟩ := c.get (i := 2) rfl
  refine cs.ended pa ?_
  obtain ⟨m, rw1, A1, rw2, A2, fr, out, hs1, hs2, hS, _⟩ := B.ex
  rw [hS.en, uno_nb, vb_some]
  show Br _ _ _
  rw [Bool.not_false, br_true]
  exact cs.awake fun h13 g => hR h13 (c.more g).gr
end Go.En
