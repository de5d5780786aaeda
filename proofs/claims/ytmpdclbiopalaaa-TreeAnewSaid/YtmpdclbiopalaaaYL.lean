/-
  Layer 37: a tree in a space, as the laws see it; the reference's answers.
  Layer 37: the reference over its clean texts; the rank of a key.
  Layer 37: the laws' own functions: made, empty; a call on the tree and on the reference; same.
-/
import Derived.Test.YtmpdclbiopalaaaYK
namespace Go.En
open Prog Spc Go.Sort

abbrev p37 (n : Int) : Pl := ⟨1, 24, n⟩
abbrev D37 (n : Int) : Int → Prop := fun a => 0 ≤ a ∧ a < 24 + 8 * n
abbrev N37 (n : Nat) : Nat := 24 + 8 * n
theorem p37_good {n : Int} (h : 0 ≤ n ∧ n ≤ 100) : (p37 n).good := ⟨by show (0 : Int) ≤ 1; decide, by show (1 : Int) ≤ 24; decide, h.1, by show n ≤ 128; omega, by show (1 : Int) ≤ 4093; decide, by show 24 + 8 * n ≤ 4096; omega, .inr (.inl (by show (1 : Int) + 3 ≤ 24; decide))⟩
theorem p37_G {n : Int} (_ : 0 ≤ n ∧ n ≤ 100) : TG (D37 n) (p37 n) 8 := by
  refine ⟨⟨fun i h0 h1 => ⟨by show 0 ≤ 1 + i; omega, by show 1 + i < _; omega⟩, fun x hx i h0 h1 => ?_⟩, fun i h0 h1 => ⟨by omega, by omega⟩, ⟨by show (1 : Int) + 3 ≤ 8; decide, by show (8 : Int) + 8 ≤ 24; decide⟩⟩
  obtain ⟨j, j0, j1, rfl⟩ := hx
  have j1 : j < n := j1
  exact ⟨by show 0 ≤ 24 + 8 * j + i; omega, by show 24 + 8 * j + i < _; omega⟩
theorem TS.start {n : Int} (h : 0 ≤ n ∧ n ≤ 100) {m : Int → Int} (hz : ∀ a, m a = 0) : TS (p37 n) 8 m .nil [] 0 :=
  ⟨⟨p37_good h, hz _, hz _, hz _, Int.le_refl 0, by show (0 : Int) ≤ n; omega, (fun x hx => by cases hx), List.nodup_nil⟩, hz _, trivial, List.nodup_nil, (fun x hx => by cases hx), rfl, hz _, .nil, (fun y hy => by cases hy), trivial⟩
structure ST (n : Int) (ks : List (Int × Int)) (c : Nat) (σ : Spc) : Prop where
  hn : 0 ≤ n ∧ n ≤ 100
  cb : c + 10000 ≤ big
  wk : ∃ m t fr out, Sm (D37 n) σ σ m 0 ∧ TS (p37 n) 8 m t fr out ∧ t.ks = ks ∧ σ.pu.length ≤ c
section
variable {n : Int} {ks : List (Int × Int)} {c c' : Nat} {σ σ' : Spc} {a b k v : Int}
theorem ST.of {m : Int → Int} {t : Tr} {fr : List Int} {out : Int} {j : Nat} (H : ST n ks c σ) (hb : c + j + 10000 ≤ big) (S : Sm (D37 n) σ σ' m j) (X : TS (p37 n) 8 m t fr out) : ST n t.ks (c + j) σ' := by
  obtain ⟨hn, hc, m0, t0, fr0, out0, S0, X0, e, hl⟩ := H
  exact ⟨hn, hb, m, t, fr, out, S.fresh, X, rfl, by have := S.len; omega⟩
theorem ST.mono (H : ST n ks c σ) (h : c ≤ c') (hb : c' + 10000 ≤ big) : ST n ks c' σ := by
  obtain ⟨hn, hc, m, t, fr, out, S, X, e, hl⟩ := H
  exact ⟨hn, hb, m, t, fr, out, S, X, e, by omega⟩
theorem ST.start {j : Nat} (h : j ≤ 100) {g : Nat → W3} (hg : ∀ i, g i = W0) : ST j [] 0 (newS (knF g (N37 j))) := by
  have hkn : ∀ a, (newS (knF g (N37 j))).kn a = if 0 ≤ a ∧ a < (N37 j : Nat) then some (g a.toNat) else none := fun a => newS_knF (g := g) fun i _ => by rw [hg]
  have hz : ∀ a, (newS (knF g (N37 j))).vw a = 0 := fun a => by
    unfold Spc.vw
    show (none : Option Int).getD _ = _
    rw [hkn]
    split
    · rw [hg]; rfl
    · rfl
  have hn : 0 ≤ (j : Int) ∧ (j : Int) ≤ 100 := ⟨by omega, by omega⟩
  refine ⟨hn, by decide, _, .nil, [], 0, Sm.start (fun a ha => ?_) rfl (newS_wf (knF_val fun i _ => by rw [hg]; exact ⟨by decide, by decide⟩)), TS.start hn hz, rfl, Nat.zero_le _⟩
  have ha : 0 ≤ a ∧ a < 24 + 8 * (j : Int) := ha
  rw [hkn, if_pos ⟨ha.1, by have := ha.2; show a < ((24 + 8 * j : Nat) : Int); omega⟩]; rfl
theorem ST.srt (H : ST n ks c σ) : Srt ks := let ⟨_, _, _, _, _, _, _, X, e, _⟩ := H; e ▸ X.srt
theorem ST.kr (H : ST n ks c σ) : ∀ y ∈ ks, R64 y.1 := let ⟨_, _, _, _, _, _, _, X, e, _⟩ := H; e ▸ X.kr
theorem ST.len (H : ST n ks c σ) : (ks.length : Int) ≤ n := by
  obtain ⟨_, _, _, _, _, _, _, X, e, _⟩ := H
  subst e
  rw [Tr.sz_ks]; exact X.len
theorem ST.pul (H : ST n ks c σ) : σ.pu.length ≤ c := let ⟨_, _, _, _, _, _, _, _, _, h⟩ := H; h
theorem rGet_in {l : List (Int × Int)} {old : Int} (hs : Srt l) (h : (k, old) ∈ l) : rGet l k = (old, true) := by
  obtain ⟨l1, l2, rfl⟩ := List.append_of_mem h
  obtain ⟨_, _, h3, _⟩ := srt_nd hs
  unfold rGet
  rw [find_app fun y hy => decide_eq_false (by have := h3 y hy; omega), List.find?_cons, decide_eq_true rfl]
  rfl
theorem rGet_out {l : List (Int × Int)} (h : k ∉ kI l) : rGet l k = (0, false) := by
  unfold rGet
  rw [List.find?_eq_none.2 fun y hy => by simpa using fun e : y.1 = k => h (e ▸ List.mem_map.2 ⟨y, hy, rfl⟩)]
  rfl
theorem rDrp_out {l : List (Int × Int)} (h : k ∉ kI l) : rDrp l k = l := by
  unfold rDrp
  exact List.filter_eq_self.2 fun y hy => by simpa using fun e : y.1 = k => h (e ▸ List.mem_map.2 ⟨y, hy, rfl⟩)
theorem ST.put (H : ST n ks c σ) (hk : R64 k) (hv : R64 v) (hb : c + 3000 + 10000 ≤ big) : wp (tPut (p37 n) 8 k v) σ fun e σ' =>
    ((rGet ks k).2 = false ∧ n ≤ ks.length ∧ e = (0, false, 9) ∧ ST n ks (c + 3000) σ') ∨
    (((rGet ks k).2 = true ∨ (ks.length : Int) < n) ∧ e = ((rGet ks k).1, (rGet ks k).2, 0) ∧ ST n (rPut ks k v) (c + 3000) σ') := by
  have H0 := H
  obtain ⟨hn, hc, m, t, fr, out, S, X, rfl, hl⟩ := H
  refine Prog.wp_mono (wp_tPut (k := k) (v := v) (p37_G hn) S X hk hv (by omega)) fun e σ' hq => ?_
  rcases hq with ⟨old, t', m', h1, rfl, S', X', h2⟩ | ⟨h1, ⟨h2, rfl, S'⟩ | ⟨h2, rfl, t', m', fr', out', S', X', h3⟩⟩
  · right
    rw [rGet_in X.srt h1]
    refine ⟨.inl rfl, rfl, ?_⟩
    have := H0.of (by omega) S' X'
    rw [h2] at this; exact this
  · left
    rw [rGet_out h1, Tr.sz_ks]
    exact ⟨rfl, h2, rfl, H0.of (by omega) S' X⟩
  · right
    rw [rGet_out h1, Tr.sz_ks]
    refine ⟨.inr h2, rfl, ?_⟩
    have := H0.of (by omega) S' X'
    rw [h3] at this; exact this
theorem ST.drop (H : ST n ks c σ) (hb : c + 3000 + 10000 ≤ big) : wp (tDrop (p37 n) 8 k) σ fun e σ' => e = ((rGet ks k).1, (rGet ks k).2, 0) ∧ ST n (rDrp ks k) (c + 3000) σ' := by
  have H0 := H
  obtain ⟨hn, hc, m, t, fr, out, S, X, rfl, hl⟩ := H
  refine Prog.wp_mono (wp_tDrop (k := k) (p37_G hn) S X (by omega)) fun e σ' hq => ?_
  rcases hq with ⟨h1, rfl, S'⟩ | ⟨old, t', m', fr', h1, rfl, S', X', h2⟩
  · rw [rGet_out h1, rDrp_out h1]
    exact ⟨rfl, H0.of (by omega) S' X⟩
  · rw [rGet_in X.srt h1]
    refine ⟨rfl, ?_⟩
    have := H0.of (by omega) S' X'
    rw [h2] at this; exact this
theorem ST.look {m : Int → Int} {t : Tr} {fr : List Int} {out : Int} (H : ST n t.ks c σ) (S : Sm (D37 n) σ σ' m 0) (X : TS (p37 n) 8 m t fr out) : ST n t.ks c σ' := H.of (j := 0) H.cb S X
theorem ST.get (H : ST n ks c σ) : wp (tGet (p37 n) 8 k) σ fun r σ' => r = rGet ks k ∧ ST n ks c σ' := by
  have H0 := H
  obtain ⟨hn, hc, m, t, fr, out, S, X, rfl, hl⟩ := H
  exact Prog.wp_mono (wp_tGet (k := k) (p37_G hn) S X) fun r σ' ⟨h1, h2⟩ => ⟨h1, H0.look h2 X⟩
theorem ST.next (H : ST n ks c σ) : wp (tNext (p37 n) 8 k) σ fun r σ' => r = rNxt ks k ∧ ST n ks c σ' := by
  have H0 := H
  obtain ⟨hn, hc, m, t, fr, out, S, X, rfl, hl⟩ := H
  exact Prog.wp_mono (wp_tNext (k := k) (p37_G hn) S X) fun r σ' ⟨h1, h2⟩ => ⟨h1, H0.look h2 X⟩
/-- sums over a range -/
def rRng (sq : Bool) (l : List (Int × Int)) (a b : Int) : Int := w64 (sumO sq (fun x => decide (a ≤ x) && decide (x ≤ b)) l)
theorem ST.btw {sq : Bool} (H : ST n ks c σ) : wp (tBtw (p37 n) 8 a b sq) σ fun r σ' => r = rRng sq ks a b ∧ ST n ks c σ' := by
  have H0 := H
  obtain ⟨hn, hc, m, t, fr, out, S, X, rfl, hl⟩ := H
  unfold tBtw rRng
  by_cases h : b < a
  · rw [if_pos h, sumO_none fun y hy => ?_]
    · exact ⟨w64_0.symm, H0⟩
    · by_cases h1 : a ≤ y.1 <;> by_cases h2 : y.1 ≤ b <;> simp [h1, h2]
      omega
  · rw [if_neg h, wp_bind]
    refine Prog.wp_mono (wp_tUnt (k := b) (wi := true) (sq := sq) (p37_G hn) S X) fun x σ1 ⟨h1, S1⟩ => ?_
    rw [wp_bind]
    refine Prog.wp_mono (wp_tUnt (k := a) (wi := false) (sq := sq) (p37_G hn) S1 X) fun y σ2 ⟨h2, S2⟩ => ?_
    refine ⟨?_, H0.look S2 X⟩
    rw [h1, h2, ← sumO_btw (by omega)]
    unfold w64
    simp only [IntKind.wrap_i64]
    omega
def rNth (l : List (Int × Int)) (i : Int) : Int × Bool := if 0 ≤ i then (((l[i.toNat]?).map (·.1)).getD 0, (l[i.toNat]?).isSome) else (0, false)
theorem ST.nth (H : ST n ks c σ) (hk : R64 k) : wp (tNth (p37 n) 8 k) σ fun r σ' => r = rNth ks k ∧ ST n ks c σ' := by
  have H0 := H
  obtain ⟨hn, hc, m, t, fr, out, S, X, rfl, hl⟩ := H
  exact Prog.wp_mono (wp_tNth (n := k) (p37_G hn) S X hk) fun r σ' ⟨h1, h2⟩ => ⟨h1, H0.look h2 X⟩
theorem ST.wlk (H : ST n ks c σ) : wp (tWlk (p37 n) 8) σ fun r σ' => r = some (kI ks, vI' ks) ∧ ST n ks c σ' := by
  have H0 := H
  obtain ⟨hn, hc, m, t, fr, out, S, X, rfl, hl⟩ := H
  exact Prog.wp_mono (wp_tWlk (p37_G hn) S X) fun r σ' ⟨h1, h2⟩ => ⟨h1, H0.look h2 X⟩
theorem ST.len' (H : ST n ks c σ) : wp (gt (8 + 7)) σ fun r σ' => r = (ks.length : Int) ∧ ST n ks c σ' := by
  have H0 := H
  obtain ⟨hn, hc, m, t, fr, out, S, X, rfl, hl⟩ := H
  have hD : D37 n (8 + 7) := ⟨by decide, by show (8 + 7 : Int) < 24 + 8 * n; omega⟩
  show (σ.get (8 + 7)).1 = _ ∧ ST n t.ks c (σ.get (8 + 7)).2
  rw [S.get hD]
  exact ⟨by rw [Tr.sz_ks]; exact X.n7, H0.look (S.rds _) X⟩
/-! ### The reference over keys in order -/
theorem srt_i {l : List (Int × Int)} {i : Nat} (hs : Srt l) (h1 : ∀ y ∈ l.take i, y.1 < k) (h2 : ∀ y, l[i]? = some y → ¬ y.1 < k) : ∀ y ∈ l.drop i, ¬ y.1 < k := by
  intro y hy
  cases hd : l.drop i with
  | nil => rw [hd] at hy; cases hy
  | cons z r =>
    have hz : l[i]? = some z := by
      have : (l.drop i)[0]? = some z := by rw [hd]; rfl
      rwa [List.getElem?_drop, Nat.add_zero] at this
    have hzk := h2 z hz
    have hs' : Srt (l.drop i) := hs.sublist (List.drop_sublist _ _)
    rw [hd] at hs' hy
    rcases List.mem_cons.1 hy with rfl | hy
    · exact hzk
    · have := (List.pairwise_cons.1 hs').1 y hy
      omega
end
end Go.En
namespace Go.En
open Prog Spc Go.Sort

variable {S : Sys} {I : Ids} {h h0 h' : Hp} {F F0 : Fp} {R : Value → Hp → Prop} {L : List Res} {s : Value} {σ τ : Spc}

/-! ### The rank -/
theorem bv_cvi (k : Int) : cvi .u64 (.int .i64 k) = some (.int .u64 ((BitVec.ofInt 64 k).toNat : Int)) := by
  rw [cvi_int, BitVec.toNat_ofInt]
  congr 2
  simp only [IntKind.wrap, IntKind.bits, IntKind.signed]
  simp
  omega
theorem bv_shr (x : BitVec 64) : bin .shr (.int .u64 (x.toNat : Int)) (.int .u64 33) = some (.int .u64 ((x >>> 33).toNat : Int)) := by
  rw [show bin .shr (.int .u64 (x.toNat : Int)) (.int .u64 33) = some (.int .u64 ((x.toNat / 2 ^ 33 : Nat) : Int)) from shr_ok (k := .u64) (k' := .u64) (z := 33) (s := 33) rfl (by decide), BitVec.toNat_ushiftRight, Nat.shiftRight_eq_div_pow]
theorem bv_xor (x y : BitVec 64) : bin .xor (.int .u64 (x.toNat : Int)) (.int .u64 (y.toNat : Int)) = some (.int .u64 ((x ^^^ y).toNat : Int)) := by
  have e : ∀ z : BitVec 64, BitVec.ofInt 64 (z.toNat : Int) = z := fun z => by rw [BitVec.ofInt_natCast]; simp
  show (if IntKind.u64 = IntKind.u64 then some (Value.int .u64 (IntKind.u64.wrap ((BitVec.ofInt 64 (x.toNat : Int) ^^^ BitVec.ofInt 64 (y.toNat : Int)).toNat : Int))) else none) = _
  rw [if_pos rfl, e, e, wu64]
  have := (x ^^^ y).isLt
  omega
theorem bv_mul (x : BitVec 64) : bin .mul (.int .u64 (x.toNat : Int)) (.int .u64 18397679294719823053) = some (.int .u64 ((x * 18397679294719823053#64).toNat : Int)) := by
  rw [bin_mul, BitVec.toNat_mul]
  congr 2
theorem K_rank {k : Int} (hR : R (.int .u64 (rk k)) h) : F_tree_rank S I (.int .i64 k) h R := by
  unfold F_tree_rank
  rw [bv_cvi, vb_some, bv_shr, vb_some, bv_xor, vb_some, bv_mul, vb_some, bv_shr, vb_some, bv_xor, vb_some]
  exact hR
theorem K_rRank {k : Int} (hR : R (.int .u64 (rk k)) h) : F_simulcastref37_Rank S I (.int .i64 k) h R := by
  unfold F_simulcastref37_Rank
  rw [bv_cvi, vb_some, bv_shr, vb_some, bv_xor, vb_some, bv_mul, vb_some, bv_shr, vb_some, bv_xor, vb_some]
  exact hR

/-! ### Lists -/
section
variable {l : List (Int × Int)} {k v : Int} {i : Nat}
theorem find_take {α : Type} {p : α → Bool} : ∀ {l : List α} {i : Nat} {y : α}, l[i]? = some y → (∀ z ∈ l.take i, p z = false) → p y = true → l.find? p = some y
  | [], i, y, h, _, _ => by simp at h
  | x :: l, 0, y, h, _, hy => by
    simp only [List.getElem?_cons_zero, Option.some.injEq] at h
    subst h
    rw [List.find?_cons, hy]
  | x :: l, i + 1, y, h, hn, hy => by
    have h1 : p x = false := hn x (by simp)
    rw [List.find?_cons, h1]
    exact find_take (by simpa using h) (fun z hz => hn z (by rw [List.take_succ_cons]; exact List.mem_cons_of_mem _ hz)) hy
theorem mem_take_snoc {α : Type} {l : List α} {i : Nat} {y z : α} (h : l[i]? = some y) (hz : z ∈ l.take (i + 1)) : z ∈ l.take i ∨ z = y := by
  rw [List.take_add_one, h, List.mem_append] at hz
  exact hz.imp_right fun h => by simpa using h
theorem filter_take {α : Type} {p : α → Bool} {l : List α} {i : Nat} {y : α} (h : l[i]? = some y) : (l.take (i + 1)).filter p = (l.take i).filter p ++ if p y then [y] else [] := by
  rw [List.take_add_one, h, List.filter_append, Option.toList_some, List.filter_cons]
  cases p y <;> rfl
theorem filter_len {α : Type} {p : α → Bool} {l : List α} {i : Nat} : ((l.take i).filter p).length ≤ l.length :=
  Nat.le_trans (List.length_filter_le ..) (by rw [List.length_take]; omega)
/-- the first place whose key is not less -/
structure Fnd (l : List (Int × Int)) (k : Int) (i : Nat) : Prop where
  le : i ≤ l.length
  lo : ∀ y ∈ l.take i, y.1 < k
  hi : ∀ y, l[i]? = some y → ¬ y.1 < k
/-- is the key there -/
def Fnd.at (l : List (Int × Int)) (k : Int) (i : Nat) : Bool := match l[i]? with | some y => decide (y.1 = k) | none => false
theorem Fnd.drop (H : Fnd l k i) (hs : Srt l) : (Fnd.at l k i = true → ∃ v, l.drop i = (k, v) :: l.drop (i + 1) ∧ ∀ y ∈ l.drop (i + 1), k < y.1) ∧ (Fnd.at l k i = false → ∀ y ∈ l.drop i, k < y.1) := by
  have h1 := srt_i hs H.lo H.hi
  have hs' : Srt (l.drop i) := hs.sublist (List.drop_sublist _ _)
  unfold Fnd.at
  cases hx : l[i]? with
  | none =>
    refine ⟨(fun e => by cases e), fun _ y hy => ?_⟩
    rw [List.drop_eq_nil_of_le (by rw [List.getElem?_eq_none_iff] at hx; exact hx)] at hy
    cases hy
  | some y =>
    have hlt : i < l.length := by
      rcases Nat.lt_or_ge i l.length with h | h
      · exact h
      · rw [List.getElem?_eq_none h] at hx; cases hx
    have e : l.drop i = y :: l.drop (i + 1) := by
      rw [List.drop_eq_getElem_cons hlt]
      rw [List.getElem?_eq_getElem hlt] at hx
      injection hx with hx
      rw [hx]
    rw [e] at hs' h1
    have ht := (List.pairwise_cons.1 hs').1
    refine ⟨fun e2 => ?_, fun e2 => ?_⟩
    · have e3 : y.1 = k := of_decide_eq_true e2
      refine ⟨y.2, by rw [e, ← e3], fun z hz => ?_⟩
      have := ht z hz
      omega
    · have e3 : y.1 ≠ k := of_decide_eq_false e2
      rw [e]
      have hy := h1 y (List.mem_cons_self ..)
      intro z hz
      rcases List.mem_cons.1 hz with rfl | hz
      · omega
      · have := ht z hz
        omega
theorem Fnd.get (H : Fnd l k i) (hs : Srt l) : rGet l k = match l[i]? with | some y => if y.1 = k then (y.2, true) else (0, false) | none => (0, false) := by
  have hd := H.drop hs
  have key : Fnd.at l k i = false → rGet l k = (0, false) := fun e => rGet_out fun hm => by
    obtain ⟨y, hy, ey⟩ := List.mem_map.1 hm
    rw [← List.take_append_drop i l] at hy
    rcases List.mem_append.1 hy with h | h
    · have := H.lo y h; omega
    · have := hd.2 e y h; omega
  unfold Fnd.at at key
  cases hx : l[i]? with
  | none => rw [hx] at key; exact key rfl
  | some y =>
    rw [hx] at key
    dsimp only at key ⊢
    by_cases e : y.1 = k
    · rw [if_pos e]
      have hm : (k, y.2) ∈ l := by rw [← e]; exact List.mem_of_getElem? hx
      exact rGet_in hs hm
    · rw [if_neg e]
      exact key (decide_eq_false e)
theorem Fnd.nxt (H : Fnd l k i) : rNxt l k = match l[i]? with | some y => (y.1, true) | none => (0, false) := by
  unfold rNxt
  cases hx : l[i]? with
  | none =>
    have hl : l.take i = l := List.take_of_length_le (by rw [List.getElem?_eq_none_iff] at hx; exact hx)
    rw [List.find?_eq_none.2 fun y hy => by rw [← hl] at hy; have := H.lo y hy; simp; omega]
    rfl
  | some y =>
    have hy := H.hi y hx
    rw [find_take hx (fun z hz => decide_eq_false (by have := H.lo z hz; omega)) (decide_eq_true (by omega))]
    rfl
theorem Fnd.put (H : Fnd l k i) (hs : Srt l) : rPut l k v = l.take i ++ (k, v) :: l.drop (if Fnd.at l k i = true then i + 1 else i) := by
  have hd := H.drop hs
  unfold rPut
  have e0 : l = l.take i ++ l.drop i := (List.take_append_drop i l).symm
  cases hf : Fnd.at l k i with
  | true =>
    obtain ⟨v0, e1, h1⟩ := hd.1 hf
    have e2 : l = l.take i ++ [(k, v0)] ++ l.drop (i + 1) := by rw [List.append_assoc, List.singleton_append, ← e1]; exact e0
    obtain ⟨f1, f2, _⟩ := flt_lr (k := k) (l1 := l.take i) (l2 := [(k, v0)]) (l3 := l.drop (i + 1)) H.lo (fun y hy => by rw [List.mem_singleton.1 hy]) h1
    rw [← e2] at f1 f2
    rw [f1, f2, if_pos rfl]
  | false =>
    have e2 : l = l.take i ++ [] ++ l.drop i := by rw [List.append_nil]; exact e0
    obtain ⟨f1, f2, _⟩ := flt_lr (k := k) (l1 := l.take i) (l2 := []) (l3 := l.drop i) H.lo (fun y hy => by cases hy) (hd.2 hf)
    rw [← e2] at f1 f2
    rw [f1, f2, if_neg (by simp)]
end
theorem Sl.at2 {α : Type} {E : Enc α} {lv : Value} {xs : List α} (H : Sl E h lv xs) {n : Nat} (hn : n = E.n) {i : Nat} {x : α} (hx : xs[i]? = some x) {q : IntKind} {z : Int} (hz : z = i) {j : Nat} {u : Value} (hu : (E.c x)[j]? = some u) :
    ∃ p r, ixs n lv (.int q z) = some p ∧ fa j p = some r ∧ ∀ h', Sl E h' lv xs → ldc r h' = some u := by
  obtain ⟨r, o, e, hr, _⟩ := H.ix hx hn hz (k := q)
  refine ⟨_, _, e, fa_add _ _ _, fun h' H' => ?_⟩
  obtain ⟨r2, o2, e2, hr2, _⟩ := H'.ix hx hn hz (k := q)
  rw [e] at e2
  cases e2
  exact hr2.ldc hu
theorem sl_drop {lv : Value} {l : List (Int × Int)} (H : Sl E2I h lv l) {u : Nat} (hu : u ≤ l.length) : ∃ w, slc 2 lv (some (.int .i64 (u : Int))) none none = some w ∧ ∀ h', Sl E2I h' lv l → Sl E2I h' w (l.drop u) := by
  obtain ⟨w, e, _, _⟩ := H.sub (n := 2) rfl (lo := some (.int .i64 (u : Int))) (hi := none) (l := u) (u := l.length) (.inr ⟨_, _, rfl, rfl⟩) (.inl ⟨rfl, rfl⟩) hu (Nat.le_refl _)
  refine ⟨w, e, fun h' H' => ?_⟩
  obtain ⟨w', e', H2, _⟩ := H'.sub (n := 2) rfl (lo := some (.int .i64 (u : Int))) (hi := none) (l := u) (u := l.length) (.inr ⟨_, _, rfl, rfl⟩) (.inl ⟨rfl, rfl⟩) hu (Nat.le_refl _)
  rw [e] at e'
  cases e'
  rwa [List.take_of_length_le (Nat.le_refl _)] at H2
section
variable {l : List (Int × Int)} {k v a b n : Int} {lv : Value}
theorem K_rFind (H : Sl E2I h lv l) (hN : l.length ≤ 100000) (hR : ∀ i : Nat, Fnd l k i → R (.int .i64 i) h) : F_simulcastref37_find S I lv (.int .i64 k) h R := by
  unfold F_simulcastref37_find
  refine Lp1.by (fun (i : Nat) v h' => v = .int .i64 i ∧ i ≤ l.length ∧ (∀ y ∈ l.take i, y.1 < k) ∧ h' = h) (fun i => l.length - i) 0 ⟨rfl, Nat.zero_le _, by simp, rfl⟩ ?_
  rintro i v h2 ⟨rfl, hi, hlo, rfl⟩ again hagain
  refine Jn1.at (fun v h' => v = .bool (match l[i]? with | some y => decide (y.1 < k) | none => false) ∧ h' = h2) ?_ ?_
  · rw [H.ln, vb_some, bin_lss, vb_some]
    refine brd (fun h3 => ?_) fun h3 => ?_
    · have hx : l[i]? = some l[i] := List.getElem?_eq_getElem (by omega)
      refine H.fld rfl hx rfl (j := 0) rfl ?_
      rw [bin_lss, vb_some, hx]
      exact ⟨rfl, rfl⟩
    · rw [List.getElem?_eq_none (by omega)]
      exact ⟨rfl, rfl⟩
  rintro v h3 ⟨rfl, rfl⟩
  cases hx : l[i]? with
  | none =>
    dsimp only
    rw [br_false]
    exact hR i ⟨hi, hlo, fun y hy => by rw [hx] at hy; cases hy⟩
  | some y =>
    have hlt : i < l.length := by
      rcases Nat.lt_or_ge i l.length with h | h
      · exact h
      · rw [List.getElem?_eq_none h] at hx; cases hx
    dsimp only
    refine brd (fun h4 => ?_) fun h4 => ?_
    · rw [bin_add, vb_some, wrS (by omega)]
      refine hagain (i + 1) _ _ ⟨rfl, hlt, fun z hz => ?_, rfl⟩ (by omega)
      rcases mem_take_snoc hx hz with h | rfl
      · exact hlo z h
      · exact h4
    · exact hR i ⟨hi, hlo, fun z hz => by rw [hx] at hz; cases hz; exact h4⟩
structure CsR37 (S : Sys) (I : Ids) : Prop where
  rfind : ∀ {lv l k h R}, Sl E2I h lv l → l.length ≤ 100000 → (∀ i : Nat, Fnd l k i → R (.int .i64 i) h) → S.C I.f_simulcastref37_find [lv, .int .i64 k] h R
  rrank : ∀ {k : Int} {h R}, R (.int .u64 (rk k)) h → S.C I.f_simulcastref37_Rank [.int .i64 k] h R
theorem some_lt {α : Type} {l : List α} {i : Nat} {y : α} (hx : l[i]? = some y) : i < l.length := by
  rcases Nat.lt_or_ge i l.length with h | h
  · exact h
  · rw [List.getElem?_eq_none h] at hx; cases hx
theorem K_rGet (cs : CsR37 S I) (H : Sl E2I h lv l) (hN : l.length ≤ 100000) (hs : Srt l) (hR : R (uTB (rGet l k)) h) : F_simulcastref37_Get S I lv (.int .i64 k) h R := by
  unfold F_simulcastref37_Get
  refine cs.rfind H hN fun i hf => ?_
  rw [hf.get hs] at hR
  refine .here ?_
  rw [H.ln, vb_some, bin_lss, vb_some]
  cases hx : l[i]? with
  | none =>
    rw [hx] at hR
    refine brd (fun h3 => absurd h3 (by rw [List.getElem?_eq_none_iff] at hx; omega)) fun h3 => ?_
    exact hR
  | some y =>
    have hlt := some_lt hx
    rw [hx] at hR
    dsimp only at hR
    refine brd (fun h3 => ?_) fun h3 => absurd (by omega) h3
    refine H.fld rfl hx rfl (j := 0) rfl ?_
    rw [bin_eql, vb_some]
    refine brd (fun h4 => ?_) fun h4 => ?_
    · rw [if_pos h4] at hR
      exact H.fld rfl hx rfl (j := 1) rfl hR
    · rw [if_neg h4] at hR
      exact hR
theorem K_rNext (cs : CsR37 S I) (H : Sl E2I h lv l) (hN : l.length ≤ 100000) (hR : R (uTB (rNxt l k)) h) : F_simulcastref37_Next S I lv (.int .i64 k) h R := by
  unfold F_simulcastref37_Next
  refine cs.rfind H hN fun i hf => ?_
  rw [hf.nxt] at hR
  rw [H.ln, vb_some, bin_lss, vb_some]
  cases hx : l[i]? with
  | none =>
    rw [hx] at hR
    refine brd (fun h3 => absurd h3 (by rw [List.getElem?_eq_none_iff] at hx; omega)) fun h3 => ?_
    exact hR
  | some y =>
    have hlt := some_lt hx
    rw [hx] at hR
    refine brd (fun h3 => ?_) fun h3 => absurd (by omega) h3
    exact H.fld rfl hx rfl (j := 0) rfl hR
theorem K_rNth (H : Sl E2I h lv l) (hR : R (uTB (rNth l n)) h) : F_simulcastref37_Nth S I lv (.int .i64 n) h R := by
  unfold F_simulcastref37_Nth
  unfold rNth at hR
  refine Jn1.at (fun v h' => v = .bool (decide (n < 0 ∨ (l.length : Int) ≤ n)) ∧ h' = h) ?_ ?_
  · rw [bin_lss, vb_some]
    refine brd (fun h3 => ⟨by rw [decide_eq_true (.inl h3)], rfl⟩) fun h3 => ?_
    rw [H.ln, vb_some, bin_geq, vb_some]
    exact ⟨by congr 1; exact decide_eq_decide.2 ⟨.inr, fun h => h.resolve_left h3⟩, rfl⟩
  rintro v h1 ⟨rfl, rfl⟩
  refine brd (fun h3 => ?_) fun h3 => ?_
  · split at hR
    · rw [List.getElem?_eq_none (by omega)] at hR
      exact hR
    · exact hR
  · rw [if_pos (by omega)] at hR
    have hx : l[n.toNat]? = some (l[n.toNat]'(by omega)) := List.getElem?_eq_getElem (by omega)
    generalize l[n.toNat]'(by omega) = y at hx
    rw [hx] at hR
    exact H.fld rfl hx (by omega) (j := 0) rfl hR
theorem K_rDrp (H : Sl E2I h lv l) (hN : l.length ≤ 100000) (hR : ∀ w h', Cx (fun _ => False) h h' [rSl E2I w (rDrp l k)] → R w h') : F_simulcastref37_Drop S I lv (.int .i64 k) h R := by
  unfold F_simulcastref37_Drop
  have c := (Cx.start0 h).nil E2I
  refine Lp2.by (fun (i : Nat) w v h' => v = .int .i64 i ∧ i ≤ l.length ∧ Cx (fun _ => False) h h' [rSl E2I w ((l.take i).filter fun y => decide (y.1 ≠ k))]) (fun i => l.length - i) 0 ⟨rfl, Nat.zero_le _, c⟩ ?_
  clear c
  rintro i w v h5 ⟨rfl, hi, c⟩ again hagain
  rw [(H.gr c.gr).ln, vb_some, bin_lss, vb_some]
  refine brd (fun h6 => ?_) fun h6 => ?_
  · have hx : l[i]? = some l[i] := List.getElem?_eq_getElem (by omega)
    generalize l[i] = y at hx
    refine Jn1.at (fun w h' => Cx (fun _ => False) h h' [rSl E2I w ((l.take (i + 1)).filter fun y => decide (y.1 ≠ k))]) ?_ ?_
    · refine (H.gr c.gr).fld rfl hx rfl (j := 0) rfl ?_
      rw [bin_neq, vb_some, filter_take hx]
      refine brd (fun h7 => ?_) fun h7 => ?_
      · rw [if_pos (by rw [decide_eq_true h7])]
        refine (H.gr c.gr).whole rfl hx rfl ?_
        have hl := filter_len (p := fun y : Int × Int => decide (y.1 ≠ k)) (l := l) (i := i)
        exact c.app1 0 rfl y rfl rfl rfl (by omega) (by omega) fun w2 h9 c => c
      · rw [if_neg (by rw [decide_eq_false h7]; simp), List.append_nil]
        exact c
    · clear c
      intro w h7 c
      rw [bin_add, vb_some, wrS (by omega)]
      exact hagain (i + 1) _ _ _ ⟨rfl, by omega, c⟩ (by omega)
  · rw [List.take_of_length_le (by omega)] at c
    exact hR w _ c
theorem bldP (k v : Int) : bldS [(0, 1), (1, 1)] #[Value.int IntKind.i64 0, Value.int IntKind.i64 0] [(0, .int .i64 k), (1, .int .i64 v)] = some (.agg ⟨E2I.c (k, v)⟩) := by kernel_rfl
theorem K_rPut (cs : CsR37 S I) (H : Sl E2I h lv l) (hN : l.length ≤ 100000) (hs : Srt l) (hR : ∀ w h', Cx (fun _ => False) h h' [rSl E2I w (rPut l k v)] → R w h') : F_simulcastref37_Put S I lv (.int .i64 k) (.int .i64 v) h R := by
  unfold F_simulcastref37_Put
  refine cs.rfind H hN fun i hf => ?_
  have hle := hf.le
  refine (Cx.start0 h).bsl0 E2I fun u h1 c => ?_
  obtain ⟨w1, e1, H1⟩ := sl_take H hle
  rw [e1, vb_some]
  have ht : (l.take i).length ≤ 100000 := by rw [List.length_take]; omega
  refine c.ap 0 rfl (H1 _ (H.gr c.gr)) rfl rfl (by simp only [List.length_nil]; omega) (by simp only [List.length_nil]; omega) fun w2 h2 c => ?_
  rw [bldP, vb_some]
  refine c.app1 0 rfl (k, v) rfl rfl rfl (by simp only [List.nil_append]; omega) (by simp only [List.nil_append]; omega) fun w3 h3 c => ?_
  have c : Cx (fun _ => False) h h3 [rSl E2I w3 (l.take i ++ [(k, v)])] := c
  refine .here ?_
  refine Jn1.at (fun u h' => u = .bool (Fnd.at l k i) ∧ h' = h3) ?_ ?_
  · rw [(H.gr c.gr).ln, vb_some, bin_lss, vb_some]
    unfold Fnd.at
    cases hx : l[i]? with
    | none =>
      refine brd (fun h3 => absurd h3 (by rw [List.getElem?_eq_none_iff] at hx; omega)) fun h3 => ?_
      exact ⟨rfl, rfl⟩
    | some y =>
      have hlt := some_lt hx
      refine brd (fun h3 => ?_) fun h3 => absurd (by omega) h3
      refine (H.gr c.gr).fld rfl hx rfl (j := 0) rfl ?_
      rw [bin_eql, vb_some]
      exact ⟨rfl, rfl⟩
  rintro u2 h4 ⟨rfl, rfl⟩
  have fin : ∀ j : Nat, j ≤ l.length → l.take i ++ (k, v) :: l.drop j = rPut l k v → Vb (slc 2 lv (some (.int .i64 (j : Int))) none none) fun v41 => Ap I.t_simulcastref37_Pair #[Value.int IntKind.i64 0, Value.int IntKind.i64 0] 2 16 w3 v41 h4 R := fun j hj e => by
    obtain ⟨w4, e4, H4⟩ := sl_drop H hj
    rw [e4, vb_some]
    refine c.ap (xs := ([] ++ l.take i) ++ [(k, v)]) 0 rfl (H4 _ (H.gr c.gr)) rfl rfl ?_ ?_ fun w5 h5 c => ?_
    · have e1 : (([] ++ l.take i) ++ [(k, v)]).length = i + 1 := by simp; omega
      rw [e1, List.length_drop]; omega
    · have e1 : (([] ++ l.take i) ++ [(k, v)]).length = i + 1 := by simp; omega
      rw [e1, List.length_drop]; omega
    have c : Cx (fun _ => False) h h5 [rSl E2I w5 ((l.take i ++ [(k, v)]) ++ l.drop j)] := c
    rw [List.append_assoc, List.singleton_append, e] at c
    exact hR _ _ c
  cases hb : Fnd.at l k i with
  | true =>
    rw [br_true]
    rw [bin_add, vb_some, wrS (by omega)]
    have hlt : i < l.length := by
      unfold Fnd.at at hb
      cases hx : l[i]? with
      | none => rw [hx] at hb; cases hb
      | some y => exact some_lt hx
    exact fin (i + 1) (by omega) (by rw [hf.put hs, hb, if_pos rfl])
  | false =>
    rw [br_false]
    exact fin i hle (by rw [hf.put hs, hb, if_neg (by simp)])
theorem w64_add (a b : Int) : w64 (w64 a + b) = w64 (a + b) := by
  unfold w64
  simp only [IntKind.wrap_i64]
  omega
theorem sumO_take {sq : Bool} {q : Int → Bool} {i : Nat} {y : Int × Int} (hx : l[i]? = some y) : sumO sq q (l.take (i + 1)) = sumO sq q (l.take i) + if q y.1 then ownS sq y else 0 := by
  rw [List.take_add_one, hx, Option.toList_some, sumO_app]
  show _ + ((if q y.1 then ownS sq y else 0) + 0) = _
  rw [Int.add_zero]
theorem K_rRange (H : Sl E2I h lv l) (hN : l.length ≤ 100000) (hR : R (.tuple #[.int .i64 (rRng true l a b), .int .i64 (rRng false l a b)]) h) : F_simulcastref37_Range S I lv (.int .i64 a) (.int .i64 b) h R := by
  unfold F_simulcastref37_Range
  unfold rRng at hR
  generalize hq : (fun x => decide (a ≤ x) && decide (x ≤ b)) = q at hR
  refine Lp3.by (fun (i : Nat) u v w h' => u = .int .i64 (w64 (sumO true q (l.take i))) ∧ v = .int .i64 (w64 (sumO false q (l.take i))) ∧ w = .int .i64 i ∧ i ≤ l.length ∧ h' = h) (fun i => l.length - i) 0 ⟨rfl, rfl, rfl, Nat.zero_le _, rfl⟩ ?_
  rintro i u v w h2 ⟨rfl, rfl, rfl, hi, rfl⟩ again hagain
  rw [H.ln, vb_some, bin_lss, vb_some]
  refine brd (fun h3 => ?_) fun h3 => ?_
  · have hx : l[i]? = some l[i] := List.getElem?_eq_getElem (by omega)
    generalize l[i] = y at hx
    refine Jn2.at (fun u v h' => u = .int .i64 (w64 (sumO true q (l.take (i + 1)))) ∧ v = .int .i64 (w64 (sumO false q (l.take (i + 1)))) ∧ h' = h2) ?_ ?_
    · refine Jn1.at (fun v h' => v = .bool (q y.1) ∧ h' = h2) ?_ ?_
      · refine H.fld rfl hx rfl (j := 0) rfl ?_
        have hqy : q y.1 = (decide (a ≤ y.1) && decide (y.1 ≤ b)) := by rw [← hq]
        rw [bin_geq, vb_some, hqy]
        refine brd (fun h4 => ?_) fun h4 => ?_
        · refine H.fld rfl hx rfl (j := 0) rfl ?_
          rw [bin_leq, vb_some, decide_eq_true h4, Bool.true_and]
          exact ⟨rfl, rfl⟩
        · rw [decide_eq_false h4, Bool.false_and]
          exact ⟨rfl, rfl⟩
      rintro v h4 ⟨rfl, rfl⟩
      rw [sumO_take hx, sumO_take hx]
      cases hp : q y.1 with
      | true =>
        rw [br_true, if_pos rfl, if_pos rfl]
        refine H.fld rfl hx rfl (j := 1) rfl ?_
        rw [bin_addw, vb_some, bin_addw, vb_some, w64_add, w64_add]
        exact ⟨rfl, rfl, rfl⟩
      | false =>
        rw [br_false, if_neg (by simp), if_neg (by simp), Int.add_zero, Int.add_zero]
        exact ⟨rfl, rfl, rfl⟩
    rintro u v h4 ⟨rfl, rfl, rfl⟩
    rw [bin_add, vb_some, wrS (by omega)]
    exact hagain (i + 1) _ _ _ _ ⟨rfl, rfl, rfl, by omega, rfl⟩ (by omega)
  · rw [List.take_of_length_le (by omega)]
    exact hR
/-- the greatest rank's place -/
def TopAt (l : List (Int × Int)) (t : Int) : Prop := l = [] ∧ t = -1 ∨ ∃ (a : Nat) (y : Int × Int), t = a ∧ l[a]? = some y ∧ ∀ z ∈ l, rk z.1 ≤ rk y.1
theorem K_rTop (cs : CsR37 S I) (H : Sl E2I h lv l) (hN : l.length ≤ 100000) (hR : ∀ t : Int, TopAt l t → R (.int .i64 t) h) : F_simulcastref37_Top S I lv h R := by
  unfold F_simulcastref37_Top
  refine Lp2.by (fun (i : Nat) u v h' => v = .int .i64 i ∧ i ≤ l.length ∧ (∃ t : Int, u = .int .i64 t ∧ (i = 0 ∧ t = -1 ∨ ∃ (a : Nat) (y : Int × Int), a < i ∧ t = a ∧ l[a]? = some y ∧ ∀ z ∈ l.take i, rk z.1 ≤ rk y.1)) ∧ h' = h) (fun i => l.length - i) 0 ⟨rfl, Nat.zero_le _, ⟨-1, rfl, .inl ⟨rfl, rfl⟩⟩, rfl⟩ ?_
  rintro i u v h2 ⟨rfl, hi, ⟨t, rfl, ht⟩, rfl⟩ again hagain
  rw [H.ln, vb_some, bin_lss, vb_some]
  refine brd (fun h3 => ?_) fun h3 => ?_
  · have hx : l[i]? = some l[i] := List.getElem?_eq_getElem (by omega)
    generalize l[i] = y at hx
    refine Jn1.at (fun u h' => (∃ t : Int, u = .int .i64 t ∧ ∃ (a : Nat) (y : Int × Int), a < i + 1 ∧ t = a ∧ l[a]? = some y ∧ ∀ z ∈ l.take (i + 1), rk z.1 ≤ rk y.1) ∧ h' = h2) ?_ ?_
    · refine Jn1.at (fun v h' => (∃ bb : Bool, v = .bool bb ∧ (bb = true → ∀ z ∈ l.take i, rk z.1 ≤ rk y.1) ∧ (bb = false → ∃ (a : Nat) (x : Int × Int), a < i ∧ t = a ∧ l[a]? = some x ∧ (∀ z ∈ l.take i, rk z.1 ≤ rk x.1) ∧ rk y.1 ≤ rk x.1)) ∧ h' = h2) ?_ ?_
      · rw [bin_lss, vb_some]
        rcases ht with ⟨rfl, rfl⟩ | ⟨a, x, ha, rfl, hax, hall⟩
        · rw [show decide ((-1 : Int) < 0) = true from rfl, br_true]
          exact ⟨⟨true, rfl, (fun _ z hz => by simp at hz), (fun e => by cases e)⟩, rfl⟩
        · rw [decide_eq_false (by omega), br_false]
          refine H.fld rfl hx rfl (j := 0) rfl ?_
          obtain ⟨p, r, e1, e2, e3⟩ := H.at2 (n := 2) rfl hax (q := .i64) (z := (a : Int)) rfl (j := 0) (u := .int .i64 x.1) rfl
          rw [e1, vb_some, e2, vb_some, e3 _ H, vb_some]
          refine cs.rrank ⟨e3 _ H, cs.rrank ?_⟩
          rw [bin_gtr, vb_some]
          refine ⟨⟨_, rfl, fun e z hz => ?_, fun e => ⟨a, x, ha, rfl, hax, hall, ?_⟩⟩, rfl⟩
          · have := hall z hz
            have := of_decide_eq_true e
            omega
          · have := of_decide_eq_false e
            omega
      rintro v h4 ⟨⟨bb, rfl, hb1, hb2⟩, rfl⟩
      cases bb with
      | true =>
        rw [br_true]
        refine ⟨⟨_, rfl, i, y, by omega, rfl, hx, fun z hz => ?_⟩, rfl⟩
        rcases mem_take_snoc hx hz with h | rfl
        · exact hb1 rfl z h
        · exact Int.le_refl _
      | false =>
        rw [br_false]
        obtain ⟨a, x, ha, hta, hax, hall, hle⟩ := hb2 rfl
        refine ⟨⟨_, rfl, a, x, by omega, hta, hax, fun z hz => ?_⟩, rfl⟩
        rcases mem_take_snoc hx hz with h | rfl
        · exact hall z h
        · exact hle
    rintro u h4 ⟨⟨t', rfl, ht'⟩, rfl⟩
    rw [bin_add, vb_some, wrS (by omega)]
    exact hagain (i + 1) _ _ _ ⟨rfl, by omega, ⟨t', rfl, .inr ht'⟩, rfl⟩ (by omega)
  · refine hR t ?_
    have e0 : l.take i = l := List.take_of_length_le (by omega)
    rcases ht with ⟨rfl, rfl⟩ | ⟨a, x, ha, rfl, hax, hall⟩
    · exact .inl ⟨by cases l with | nil => rfl | cons y l => simp at h3, rfl⟩
    · rw [e0] at hall
      exact .inr ⟨a, x, rfl, hax, hall⟩
end
end Go.En
namespace Go.En
open Prog Spc Go.Sort

variable {S : Sys} {I : Ids} {h h0 h' : Hp} {F F0 : Fp} {R : Value → Hp → Prop} {L : List Res} {s : Value} {σ τ : Spc}
/-- a call of layer 37 -/
structure C37 where
  d : Int
  a : Int
  b : Int
def ECl : Enc C37 := { n := 3, c := fun x => [.int .u8 x.d, .int .i64 x.a, .int .i64 x.b], len := fun _ => rfl, one := fun a v h => by simp only [List.mem_cons, List.not_mem_nil, or_false] at h; rcases h with rfl | rfl | rfl <;> rfl }
def vCl (x : C37) : Value := .agg ⟨ECl.c x⟩
structure C37.ok (x : C37) : Prop where
  d : 0 ≤ x.d ∧ x.d ≤ 255
  a : R64 x.a
  b : R64 x.b
section
variable {n : Int}
theorem K_made37 (hn : 0 ≤ n ∧ n ≤ 100) (hR : ∀ h', Gr h h' → R (.tuple #[vT (p37 n) 8, .int .i64 (24 + 8 * n)]) h') : F_simulcastlaw37_made S I (.int .i64 n) h R := by
  unfold F_simulcastlaw37_made
  refine (Cx.start0 h).nw ET (⟨0, 0, 0⟩, 0) rfl fun r h1 c => ?_
  refine En.vb (v := vP (p37 n)) (by kernel_rfl) ?_
  refine En.vb (v := vT (p37 n) 8) (by kernel_rfl) ?_
  refine En.vb (v := .int .i64 (8 * n)) (by rw [bin_mul, wr64 (by omega)]) ?_
  refine En.vb (v := .int .i64 (24 + 8 * n)) (by rw [bin_add, wr64 (by omega)]) ?_
  refine c.sto 0 rfl (p37 n, 8) rfl rfl fun h2 c => ?_
  rw [tW (i := 0) c rfl, vb_some]
  exact hR _ c.gr
theorem bldWz : bldS [(0, 1), (1, 1), (2, 1)] #[Value.int IntKind.i64 0, Value.int IntKind.u32 0, Value.int IntKind.u32 0] [] = some (mW W0) := by kernel_rfl
theorem K_empty37 {N : Nat} (cs : CsD S I) (hN : N ≤ 5000) (hR : ∀ s h', Cx (fun _ => False) h h' [rSpace s (newS (knF (fun _ => W0) N))] → R s h') : F_simulcastlaw37_empty S I (.int .i64 N) h R := by
  unfold F_simulcastlaw37_empty
  refine (Cx.start0 h).mmk .i64 mW fun km h1 c => ?_
  refine Lp1.by (fun (j : Nat) v h' => v = .int .i64 j ∧ j ≤ N ∧ Cx (fun _ => False) h h' [rMp .i64 mW (.map (some km)) (knF (fun _ => W0) j)]) (fun j => N - j) 0 ⟨rfl, Nat.zero_le _, c⟩ ?_
  clear c
  rintro j v h4 ⟨rfl, hj, c⟩ again hagain
  rw [bin_lss, vb_some]
  refine brd (fun h5 => ?_) fun h5 => ?_
  · rw [bldWz, vb_some]
    refine c.mup 0 rfl (j : Int) W0 rfl fun h6 c => ?_
    have c : Cx (fun _ => False) h h6 [rMp .i64 mW (.map (some km)) (updA (knF (fun _ => W0) j) (j : Int) ((fun _ => W0) j))] := c
    rw [knF_upd] at c
    rw [bin_add, vb_some, wrS (by omega)]
    exact hagain (j + 1) _ _ ⟨rfl, by omega, c⟩ (by omega)
  · have ej : j = N := by omega
    subst ej
    refine c.cNew cs 0 rfl (knF_nodup _ _) (knF_val fun _ _ => ⟨by decide, by decide⟩) fun s h6 c => ?_
    exact hR s _ (c.pick [1])
end
structure CsX1 (S : Sys) (I : Ids) : Prop extends CsW4 S I, CsR37 S I where
  tput' : ∀ {p : Pl} {root k v : Int} {s}, 0 ≤ p.nodes ∧ p.nodes ≤ 1000 → 0 ≤ root ∧ root ≤ 4000 → R64 k → Does S I.f_tree_Tree_Put [vT p root, s, .int .i64 k, .int .i64 v] s (tPut p root k v) uT3
  tdrop' : ∀ {p : Pl} {root k : Int} {s}, 0 ≤ p.nodes ∧ p.nodes ≤ 1000 → 0 ≤ root ∧ root ≤ 4000 → Does S I.f_tree_Tree_Drop [vT p root, s, .int .i64 k] s (tDrop p root k) uT3
  tget' : ∀ {p : Pl} {root k : Int} {s}, 0 ≤ p.nodes ∧ p.nodes ≤ 1000 → R64 root → Does S I.f_tree_Tree_Get [vT p root, s, .int .i64 k] s (tGet p root k) uTB
  tnext' : ∀ {p : Pl} {root k : Int} {s}, 0 ≤ p.nodes ∧ p.nodes ≤ 1000 → R64 root → Does S I.f_tree_Tree_Next [vT p root, s, .int .i64 k] s (tNext p root k) uTB
  tbtw : ∀ {p : Pl} {root a b : Int} {sq : Bool} {s}, 0 ≤ p.nodes ∧ p.nodes ≤ 1000 → R64 root → Does S I.f_tree_Tree_between [vT p root, s, .int .i64 a, .int .i64 b, .int .i64 (cel sq), fOwn I sq] s (tBtw p root a b sq) uI
  tnth' : ∀ {p : Pl} {root k : Int} {s}, 0 ≤ p.nodes ∧ p.nodes ≤ 1000 → R64 root → Does S I.f_tree_Tree_Nth [vT p root, s, .int .i64 k] s (tNth p root k) uTB
  twlk : ∀ {p : Pl} {root : Int} {s h0 F σ} {R : Value → Hp → Prop} {Q : WQ → Spc → Prop}, 0 ≤ p.nodes ∧ p.nodes ≤ 1000 → 0 ≤ root ∧ root ≤ 4000 → Cx F h0 h0 [rSpace s σ] → wp (tWlk p root) σ Q →
    (∀ r σ' v1 v2 h' M, Cx F h0 h' (rSpace s σ' :: rSl EI1 v1 (wq1 r) :: rSl EI1 v2 (wq2 r) :: M) → Q r σ' → R (.tuple #[v1, v2, .int .i64 (if r.isSome then 0 else 24)]) h') → S.C I.f_tree_Tree_Walk [vT p root, s] h0 R
section
variable {p : Pl} {root a b : Int}
theorem K_tSum (cs : CsX1 S I) (hp0 : 0 ≤ p.nodes ∧ p.nodes ≤ 1000) (hr : R64 root) : ∀ h0 F σ R Q, Cx F h0 h0 [rSpace s σ] → wp (tBtw p root a b true) σ Q → (∀ a σ' h' M, Cx F h0 h' (rSpace s σ' :: M) → Q a σ' → R (uI a) h') → F_tree_Tree_Sum S I (vT p root) s (.int .i64 a) (.int .i64 b) h0 R := by
  intro h0 F σ R Q c hp hR
  unfold F_tree_Tree_Sum
  refine c.nw ET (p, root) rfl fun rt h1 c => ?_
  rw [tW (i := 1) c rfl, vb_some]
  exact c.last (cs.tbtw (sq := true) hp0 hr) 0 rfl hp fun x σ h2 c hq => hR _ _ _ _ c hq
theorem K_tCnt (cs : CsX1 S I) (hp0 : 0 ≤ p.nodes ∧ p.nodes ≤ 1000) (hr : R64 root) : ∀ h0 F σ R Q, Cx F h0 h0 [rSpace s σ] → wp (tBtw p root a b false) σ Q → (∀ a σ' h' M, Cx F h0 h' (rSpace s σ' :: M) → Q a σ' → R (uI a) h') → F_tree_Tree_Count S I (vT p root) s (.int .i64 a) (.int .i64 b) h0 R := by
  intro h0 F σ R Q c hp hR
  unfold F_tree_Tree_Count
  refine c.nw ET (p, root) rfl fun rt h1 c => ?_
  rw [tW (i := 1) c rfl, vb_some]
  exact c.last (cs.tbtw (sq := false) hp0 hr) 0 rfl hp fun x σ h2 c hq => hR _ _ _ _ c hq
end
structure CsX2 (S : Sys) (I : Ids) : Prop extends CsX1 S I where
  tsum : ∀ {p : Pl} {root a b : Int} {s}, 0 ≤ p.nodes ∧ p.nodes ≤ 1000 → R64 root → Does S I.f_tree_Tree_Sum [vT p root, s, .int .i64 a, .int .i64 b] s (tBtw p root a b true) uI
  tcnt : ∀ {p : Pl} {root a b : Int} {s}, 0 ≤ p.nodes ∧ p.nodes ≤ 1000 → R64 root → Does S I.f_tree_Tree_Count [vT p root, s, .int .i64 a, .int .i64 b] s (tBtw p root a b false) uI
  rget : ∀ {lv l k h R}, Sl E2I h lv l → l.length ≤ 100000 → Srt l → R (uTB (rGet l k)) h → S.C I.f_simulcastref37_Get [lv, .int .i64 k] h R
  rnext : ∀ {lv l k h R}, Sl E2I h lv l → l.length ≤ 100000 → R (uTB (rNxt l k)) h → S.C I.f_simulcastref37_Next [lv, .int .i64 k] h R
  rnth : ∀ {lv l n h R}, Sl E2I h lv l → R (uTB (rNth l n)) h → S.C I.f_simulcastref37_Nth [lv, .int .i64 n] h R
  rdrp : ∀ {lv l k h R}, Sl E2I h lv l → l.length ≤ 100000 → (∀ w h', Cx (fun _ => False) h h' [rSl E2I w (rDrp l k)] → R w h') → S.C I.f_simulcastref37_Drop [lv, .int .i64 k] h R
  rput : ∀ {lv l k v h R}, Sl E2I h lv l → l.length ≤ 100000 → Srt l → (∀ w h', Cx (fun _ => False) h h' [rSl E2I w (rPut l k v)] → R w h') → S.C I.f_simulcastref37_Put [lv, .int .i64 k, .int .i64 v] h R
  rrng : ∀ {lv l a b h R}, Sl E2I h lv l → l.length ≤ 100000 → R (.tuple #[.int .i64 (rRng true l a b), .int .i64 (rRng false l a b)]) h → S.C I.f_simulcastref37_Range [lv, .int .i64 a, .int .i64 b] h R
  rtop : ∀ {lv l h R}, Sl E2I h lv l → l.length ≤ 100000 → (∀ t : Int, TopAt l t → R (.int .i64 t) h) → S.C I.f_simulcastref37_Top [lv] h R
  made37 : ∀ {n h R}, 0 ≤ n ∧ n ≤ 100 → (∀ h', Gr h h' → R (.tuple #[vT (p37 n) 8, .int .i64 (24 + 8 * n)]) h') → S.C I.f_simulcastlaw37_made [.int .i64 n] h R
  empty37 : ∀ {N : Nat} {h R}, N ≤ 5000 → (∀ s h', Cx (fun _ => False) h h' [rSpace s (newS (knF (fun _ => W0) N))] → R s h') → S.C I.f_simulcastlaw37_empty [.int .i64 N] h R
theorem e3_0 {x y z : Value} : ext 0 (.tuple #[x, y, z]) = some x := rfl
theorem e3_1 {x y z : Value} : ext 1 (.tuple #[x, y, z]) = some y := rfl
theorem e3_2 {x y z : Value} : ext 2 (.tuple #[x, y, z]) = some z := rfl
theorem e2_0 {x y : Value} : ext 0 (.tuple #[x, y]) = some x := rfl
theorem e2_1 {x y : Value} : ext 1 (.tuple #[x, y]) = some y := rfl
theorem pEq (b : Bool) : pos? (eqB (.bool b) (.bool b)) = some (.bool true) := by cases b <;> rfl
theorem Cx.twlk {p : Pl} {root : Int} {Q : WQ → Spc → Prop} (cs : CsX1 S I) (c : Cx F0 h0 h L) (i : Nat) (hi : L[i]? = some (rSpace s σ)) (hr : 0 ≤ root ∧ root ≤ 4000) (hp0 : 0 ≤ p.nodes ∧ p.nodes ≤ 1000) (hp : wp (tWlk p root) σ Q)
    (k : ∀ (r : WQ) σ' v1 v2 h', Cx F0 h0 h' (L.set i (rSpace s σ') ++ [rSl EI1 v1 (wq1 r), rSl EI1 v2 (wq2 r)]) → Q r σ' → R (.tuple #[v1, v2, .int .i64 (if r.isSome then 0 else 24)]) h') : S.C I.f_tree_Tree_Walk [vT p root, s] h R := by
  obtain ⟨F1, c1, up⟩ := c.frame hi
  refine cs.twlk hp0 hr c1 hp fun r σ' v1 v2 h' M c2 hq => k r σ' v1 v2 h' ?_ hq
  have c3 : Cx F0 h0 h' (L.set i (rSpace s σ') ++ ([rSl EI1 v1 (wq1 r), rSl EI1 v2 (wq2 r)] ++ M)) := up c2
  rw [← List.append_assoc] at c3
  exact c3.drop
section
variable {n : Int} {ks : List (Int × Int)} {cnt : Nat} {x : C37} {lv : Value}
theorem K_do37 (cs : CsX2 S I) (hx : x.ok) (H : ST n ks cnt σ) (hb : cnt + 3000 + 10000 ≤ big) (c : Cx F h0 h0 [rSpace s σ, rSl E2I lv ks])
    (hR : ∀ σ' ks' lv' h', Cx F h0 h' [rSpace s σ', rSl E2I lv' ks'] → ST n ks' (cnt + 3000) σ' → R (.tuple #[lv', .bool true]) h') : F_simulcastlaw37_do S I (vT (p37 n) 8) s lv (vCl x) (.int .i64 n) h0 R := by
  have hn := H.hn
  have hln := H.len
  have hd := hx.d
  have hs := H.srt
  have hN : ks.length ≤ 100000 := by omega
  have h8 : (0 : Int) ≤ 8 ∧ (8 : Int) ≤ 4000 := by decide
  have r8 : R64 8 := by decide
  have hp0 : 0 ≤ (p37 n).nodes ∧ (p37 n).nodes ≤ 1000 := ⟨hn.1, by show n ≤ 1000; omega⟩
  unfold F_simulcastlaw37_do
  refine c.nw ET (p37 n, 8) rfl fun rt h1 c => ?_
  refine c.nw ECl x rfl fun rc h2 c => ?_
  have c : Cx F h0 h2 [rSpace s σ, rSl E2I lv ks, rVar ET rt (p37 n, 8), rVar ECl rc x] := c
  refine (c.va (i := 3) rfl).fld (j := 0) rfl ?_
  rw [show bin .rem (.int .u8 x.d) (.int .u8 8) = some (.int .u8 (x.d % 8)) by rw [bin_rem (by omega), Int.tmod_eq_emod_of_nonneg hd.1], vb_some]
  generalize x.d % 8 = d
  rw [bin_eql, vb_some]
  refine brd (fun _ => ?_) fun _ => ?_
  · -- Drop
    rw [tW (i := 2) c rfl, vb_some]
    refine (c.va (i := 3) rfl).fld (j := 1) rfl ?_
    refine c.last (cs.tdrop' hp0 h8) 0 rfl (H.drop (k := x.a) (by omega)) fun e σ' h3 c hq => ?_
    obtain ⟨rfl, H'⟩ := hq
    unfold uT3
    rw [e3_0, vb_some, e3_1, vb_some, e3_2, vb_some]
    refine (c.va (i := 3) rfl).fld (j := 1) rfl ?_
    refine cs.rget (c.sl (i := 1) rfl).sl hN hs ?_
    unfold uTB
    rw [e2_0, vb_some, e2_1, vb_some]
    refine .here ?_
    refine (c.va (i := 3) rfl).fld (j := 1) rfl ?_
    refine cs.rdrp (c.sl (i := 1) rfl).sl hN fun w h4 c2 => ?_
    have c := c.frame0 c2
    rw [eqI, vb_some, br_true, eqI, vb_some, br_true, pEq, vb_some]
    exact hR _ _ _ _ (c.pick [0, 4]) H'
  rw [bin_eql, vb_some]
  refine brd (fun _ => ?_) fun _ => ?_
  · -- Get
    rw [tW (i := 2) c rfl, vb_some]
    refine (c.va (i := 3) rfl).fld (j := 1) rfl ?_
    refine c.last (cs.tget' hp0 r8) 0 rfl (H.get (k := x.a)) fun e σ' h3 c hq => ?_
    obtain ⟨rfl, H'⟩ := hq
    unfold uTB
    rw [e2_0, vb_some, e2_1, vb_some]
    refine (c.va (i := 3) rfl).fld (j := 1) rfl ?_
    refine cs.rget (c.sl (i := 1) rfl).sl hN hs ?_
    unfold uTB
    rw [e2_0, vb_some, e2_1, vb_some]
    refine .here ?_
    rw [eqI, vb_some, br_true, pEq, vb_some]
    exact hR _ _ _ _ (c.pick [0, 1]) (H'.mono (by omega) hb)
  rw [bin_eql, vb_some]
  refine brd (fun _ => ?_) fun _ => ?_
  · -- Range
    refine (c.va (i := 3) rfl).fld (j := 1) rfl ?_
    refine (c.va (i := 3) rfl).fld (j := 2) rfl ?_
    refine cs.rrng (c.sl (i := 1) rfl).sl hN ?_
    rw [e2_0, vb_some, e2_1, vb_some]
    refine .here ?_
    rw [tW (i := 2) c rfl, vb_some]
    refine (c.va (i := 3) rfl).fld (j := 1) rfl ?_
    refine (c.va (i := 3) rfl).fld (j := 2) rfl ?_
    refine c.last (cs.tsum hp0 r8) 0 rfl (H.btw (a := x.a) (b := x.b) (sq := true)) fun e σ1 h3 c hq => ?_
    obtain ⟨rfl, H1⟩ := hq
    unfold uI
    rw [eqI, vb_some, br_true, tW (i := 2) c rfl, vb_some]
    refine (c.va (i := 3) rfl).fld (j := 1) rfl ?_
    refine (c.va (i := 3) rfl).fld (j := 2) rfl ?_
    refine c.last (cs.tcnt hp0 r8) 0 rfl (H1.btw (a := x.a) (b := x.b) (sq := false)) fun e σ2 h4 c hq => ?_
    obtain ⟨rfl, H2⟩ := hq
    unfold uI
    rw [eqI, vb_some]
    exact hR _ _ _ _ (c.pick [0, 1]) (H2.mono (by omega) hb)
  rw [bin_eql, vb_some]
  refine brd (fun _ => ?_) fun _ => ?_
  · -- Next
    rw [tW (i := 2) c rfl, vb_some]
    refine (c.va (i := 3) rfl).fld (j := 1) rfl ?_
    refine c.last (cs.tnext' hp0 r8) 0 rfl (H.next (k := x.a)) fun e σ' h3 c hq => ?_
    obtain ⟨rfl, H'⟩ := hq
    unfold uTB
    rw [e2_0, vb_some, e2_1, vb_some]
    refine (c.va (i := 3) rfl).fld (j := 1) rfl ?_
    refine cs.rnext (c.sl (i := 1) rfl).sl hN ?_
    unfold uTB
    rw [e2_0, vb_some, e2_1, vb_some]
    refine .here ?_
    rw [eqI, vb_some, br_true, pEq, vb_some]
    exact hR _ _ _ _ (c.pick [0, 1]) (H'.mono (by omega) hb)
  rw [bin_eql, vb_some]
  refine brd (fun _ => ?_) fun _ => ?_
  · -- Nth
    rw [tW (i := 2) c rfl, vb_some]
    refine (c.va (i := 3) rfl).fld (j := 1) rfl ?_
    refine c.last (cs.tnth' hp0 r8) 0 rfl (H.nth hx.a) fun e σ' h3 c hq => ?_
    obtain ⟨rfl, H'⟩ := hq
    unfold uTB
    rw [e2_0, vb_some, e2_1, vb_some]
    refine (c.va (i := 3) rfl).fld (j := 1) rfl ?_
    refine cs.rnth (c.sl (i := 1) rfl).sl ?_
    unfold uTB
    rw [e2_0, vb_some, e2_1, vb_some]
    refine .here ?_
    rw [eqI, vb_some, br_true, pEq, vb_some]
    exact hR _ _ _ _ (c.pick [0, 1]) (H'.mono (by omega) hb)
  · -- Put
    rw [tW (i := 2) c rfl, vb_some]
    refine (c.va (i := 3) rfl).fld (j := 1) rfl ?_
    refine (c.va (i := 3) rfl).fld (j := 2) rfl ?_
    refine c.last (cs.tput' hp0 h8 hx.a) 0 rfl (H.put hx.a hx.b (by omega)) fun e σ' h3 c hq => ?_
    obtain ⟨e1, e2, e3⟩ := e
    unfold uT3
    rw [e3_0, vb_some, e3_1, vb_some, e3_2, vb_some]
    refine (c.va (i := 3) rfl).fld (j := 1) rfl ?_
    refine cs.rget (c.sl (i := 1) rfl).sl hN hs ?_
    unfold uTB
    rw [e2_0, vb_some, e2_1, vb_some]
    refine Jn1.at (fun v h' => v = .bool (decide ((rGet ks x.a).2 = false ∧ n ≤ ks.length)) ∧ h' = h3) ?_ ?_
    · rw [uno_nb, vb_some]
      cases hg : (rGet ks x.a).2 with
      | true =>
        rw [Bool.not_true, br_false, decide_eq_false (by rintro ⟨h, _⟩; cases h)]
        exact ⟨rfl, rfl⟩
      | false =>
        rw [Bool.not_false, br_true, (c.sl (i := 1) rfl).sl.ln, vb_some, bin_geq, vb_some]
        exact ⟨by congr 1; exact decide_eq_decide.2 ⟨fun h => ⟨rfl, h⟩, fun h => h.2⟩, rfl⟩
    rintro v h4 ⟨rfl, rfl⟩
    rcases hq with ⟨h1, h2, he, H'⟩ | ⟨h1, he, H'⟩
    · rw [decide_eq_true ⟨h1, h2⟩, br_true]
      injection he with he1 he
      injection he with he2 he3
      subst he1 he2 he3
      refine .here ?_
      rw [eqI, vb_some, br_true, eqI, vb_some, br_true, uno_nb, vb_some]
      exact hR _ _ _ _ (c.pick [0, 1]) H'
    · have hno : ¬ ((rGet ks x.a).2 = false ∧ n ≤ ks.length) := by
        rintro ⟨h3, h4⟩
        rcases h1 with h1 | h1
        · rw [h3] at h1; cases h1
        · omega
      rw [decide_eq_false hno, br_false]
      injection he with he1 he
      injection he with he2 he3
      subst he1 he2 he3
      refine .here ?_
      refine (c.va (i := 3) rfl).fld (j := 1) rfl ?_
      refine (c.va (i := 3) rfl).fld (j := 2) rfl ?_
      refine cs.rput (c.sl (i := 1) rfl).sl hN hs fun w h4 c2 => ?_
      have c := c.frame0 c2
      rw [eqI, vb_some, br_true, eqI, vb_some, br_true, pEq, vb_some]
      exact hR _ _ _ _ (c.pick [0, 4]) H'
theorem K_same37 (cs : CsX2 S I) (H : ST n ks cnt σ) (c : Cx F h0 h0 [rSpace s σ, rSl E2I lv ks]) (hR : ∀ σ' h', Cx F h0 h' [rSpace s σ', rSl E2I lv ks] → ST n ks cnt σ' → R (.bool true) h') : F_simulcastlaw37_same S I (vT (p37 n) 8) s lv h0 R := by
  have hn := H.hn
  have hln := H.len
  have hN : ks.length ≤ 100000 := by omega
  have h8 : (0 : Int) ≤ 8 ∧ (8 : Int) ≤ 4000 := by decide
  have hp0 : 0 ≤ (p37 n).nodes ∧ (p37 n).nodes ≤ 1000 := ⟨hn.1, by show n ≤ 1000; omega⟩
  unfold F_simulcastlaw37_same
  refine c.nw ET (p37 n, 8) rfl fun rt h1 c => ?_
  rw [tW (i := 2) c rfl, vb_some]
  refine c.twlk cs.toCsX1 0 rfl h8 hp0 H.wlk fun r σ1 v1 v2 h2 c hq => ?_
  obtain ⟨rfl, H1⟩ := hq
  have c : Cx F h0 h2 [rSpace s σ1, rSl E2I lv ks, rVar ET rt (p37 n, 8), rSl EI1 v1 (kI ks), rSl EI1 v2 (vI' ks)] := c
  have lk : (kI ks).length = ks.length := List.length_map ..
  have lv' : (vI' ks).length = ks.length := List.length_map ..
  rw [e3_0, vb_some, e3_1, vb_some, e3_2, vb_some]
  refine Jn1.at (fun v h' => v = .bool false ∧ ∃ σ, ST n ks cnt σ ∧ Cx F h0 h' [rSpace s σ, rSl E2I lv ks, rVar ET rt (p37 n, 8), rSl EI1 v1 (kI ks), rSl EI1 v2 (vI' ks)]) ?_ ?_
  · refine En.vb (v := .bool false) rfl ?_
    rw [br_false, (c.sl (i := 3) rfl).sl.ln, vb_some, (c.sl (i := 1) rfl).sl.ln, vb_some, lk, neI, vb_some, br_false, (c.sl (i := 4) rfl).sl.ln, vb_some, vb_some, lv', neI, vb_some, br_false, tW (i := 2) c rfl, vb_some]
    refine c.last (cs.tlen h8) 0 rfl H1.len' fun e σ2 h3 c hq => ?_
    obtain ⟨rfl, H2⟩ := hq
    unfold uI
    rw [vb_some, neI, vb_some]
    exact ⟨rfl, _, H2, c⟩
  clear c H1
  rintro v h3 ⟨rfl, σ1, H1, c⟩
  rw [br_false]
  refine Lp1.by (fun (i : Nat) v h' => v = .int .i64 i ∧ i ≤ ks.length ∧ h' = h3) (fun i => ks.length - i) 0 ⟨rfl, Nat.zero_le _, rfl⟩ ?_
  rintro i v h4 ⟨rfl, hi, rfl⟩ again hagain
  rw [(c.sl (i := 1) rfl).sl.ln, vb_some, bin_lss, vb_some]
  refine brd (fun h5 => ?_) fun h5 => hR _ _ (c.pick [0, 1]) H1
  have hx : ks[i]? = some ks[i] := List.getElem?_eq_getElem (by omega)
  generalize ks[i] = y at hx
  have hk : (kI ks)[i]? = some y.1 := by show (ks.map _)[i]? = _; rw [List.getElem?_map, hx]; rfl
  have hv : (vI' ks)[i]? = some y.2 := by show (ks.map _)[i]? = _; rw [List.getElem?_map, hx]; rfl
  refine Jn1.at (fun v h' => v = .bool false ∧ h' = h4) ?_ ?_
  · refine (c.sl (i := 3) rfl).sl.one rfl hk rfl rfl ?_
    refine (c.sl (i := 1) rfl).sl.fld rfl hx rfl (j := 0) rfl ?_
    rw [neI, vb_some, br_false]
    refine (c.sl (i := 4) rfl).sl.one rfl hv rfl rfl ?_
    refine (c.sl (i := 1) rfl).sl.fld rfl hx rfl (j := 1) rfl ?_
    rw [neI, vb_some]
    exact ⟨rfl, rfl⟩
  rintro v h5 ⟨rfl, rfl⟩
  rw [br_false, bin_add, vb_some, wrS (by omega)]
  exact hagain (i + 1) _ _ ⟨rfl, by omega, rfl⟩ (by omega)
end
end Go.En
