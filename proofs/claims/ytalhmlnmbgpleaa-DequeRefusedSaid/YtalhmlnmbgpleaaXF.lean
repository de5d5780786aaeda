/-
  Layer 32: the counters: programs, contracts, the reference.
  Layer 32: what the actions come to; the model's words; the laws Acts and Sums.
  Layer 32: the example; the laws Acts and Sums.
  Layer 32: the laws Sums, Back, Own, Moves.
  Layer 32: the laws Own, Moves.
-/
import Derived.Test.YtalhmlnmbgpleaaXE
import Derived.Test.YtalhmlnmbgpleaaXD
namespace Go.En
open Prog Spc Go.Sort

variable {S : Sys} {I : Ids} {h h0 h' : Hp} {F F0 : Fp} {R : Value → Hp → Prop} {L : List Res} {s : Value} {σ τ : Spc}

/-! ### Programs -/
def cAdd (root n : Int) : Prog (Int × Int) := do
  let v ← gt root
  if R64 (v + n) then do
    pt root (v + n)
    pure (v + n, 0)
  else pure (0, 9)
def cSet (root n : Int) : Prog Int := do
  let v ← gt root
  pt root n
  pure v
def cMove (a b n : Int) : Prog Int :=
  if n < 0 then pure 4 else do
    let x ← gt a
    if x < n then pure 8 else if a = b then pure 0 else do
      let y ← gt b
      if R64 (y + n) then do
        pt a (x - n)
        pt b (y + n)
        pure 0
      else pure 9
/-- an action -/
structure C4 where
  d : Int
  a : Int
  b : Int
  n : Int
def EC4 : Enc C4 := { n := 4, c := fun x => [.int .u8 x.d, .int .u8 x.a, .int .u8 x.b, .int .i64 x.n], len := fun _ => rfl, one := fun a v h => by simp only [List.mem_cons, List.not_mem_nil, or_false] at h; rcases h with rfl | rfl | rfl | rfl <;> rfl }
def mC (x : C4) : Value := .agg #[.int .u8 x.d, .int .u8 x.a, .int .u8 x.b, .int .i64 x.n]
structure C4.ok (x : C4) : Prop where
  d : 0 ≤ x.d ∧ x.d ≤ 255
  a : 0 ≤ x.a ∧ x.a ≤ 255
  b : 0 ≤ x.b ∧ x.b ≤ 255
  n : R64 x.n
def ER4 : Enc C4 := { n := 4, c := fun x => [.int .i64 x.d, .int .i64 x.a, .int .i64 x.b, .int .i64 x.n], len := fun _ => rfl, one := fun a v h => by simp only [List.mem_cons, List.not_mem_nil, or_false] at h; rcases h with rfl | rfl | rfl | rfl <;> rfl }
def mR (x : C4) : Value := .agg #[.int .i64 x.d, .int .i64 x.a, .int .i64 x.b, .int .i64 x.n]
def C4.r (x : C4) : C4 := ⟨x.d % 4, x.a % 4, x.b % 4, x.n⟩
structure C4.rok (x : C4) : Prop where
  d : 0 ≤ x.d ∧ x.d ≤ 3
  a : 0 ≤ x.a ∧ x.a ≤ 3
  b : 0 ≤ x.b ∧ x.b ≤ 3
  n : R64 x.n
theorem C4.ok.r {x : C4} (H : x.ok) : x.r.rok := ⟨by show 0 ≤ x.d % 4 ∧ x.d % 4 ≤ 3; omega, by show 0 ≤ x.a % 4 ∧ x.a % 4 ≤ 3; omega, by show 0 ≤ x.b % 4 ∧ x.b % 4 ≤ 3; omega, H.n⟩
def rt (i : Int) : Int := 8 * i + 3
def cAct (r : C4) : Prog (Int × Int) :=
  if r.d = 0 then do
    let v ← gt (rt r.a)
    pure (v, 0)
  else if r.d = 1 then cAdd (rt r.a) r.n
  else if r.d = 2 then do
    let v ← cSet (rt r.a) r.n
    pure (v, 0)
  else do
    let e ← cMove (rt r.a) (rt r.b) r.n
    pure (0, e)

/-! ### Contracts -/
theorem K_cFits {a n : Int} (ha : R64 a) (hn : R64 n) : ∀ h R, Cx (fun _ => False) h h [] → (∀ h' M, Cx (fun _ => False) h h' M → R (.bool (decide (R64 (a + n)))) h') → F_counter_fits S I (.int .i64 a) (.int .i64 n) h R := by
  intro h R c hR
  unfold F_counter_fits
  rw [bin_gtr, vb_some]
  refine brd (fun h1 => ?_) fun h1 => ?_
  · rw [bin_sub, vb_some, wr64 (by omega), bin_leq, vb_some, show decide (a ≤ 9223372036854775807 - n) = decide (R64 (a + n)) from decide_eq_decide.2 (by constructor <;> intro h <;> omega)]
    exact hR _ _ c
  · rw [bin_sub, vb_some, wr64 (by omega), bin_geq, vb_some, show decide (-9223372036854775808 - n ≤ a) = decide (R64 (a + n)) from decide_eq_decide.2 (by constructor <;> intro h <;> omega)]
    exact hR _ _ c
theorem K_rFits {a n : Int} (ha : R64 a) (hn : R64 n) : ∀ h R, Cx (fun _ => False) h h [] → (∀ h' M, Cx (fun _ => False) h h' M → R (.bool (decide (R64 (a + n)))) h') → F_simulcastref32_fits S I (.int .i64 a) (.int .i64 n) h R := by
  intro h R c hR
  unfold F_simulcastref32_fits
  rw [bin_gtr, vb_some]
  refine brd (fun h1 => ?_) fun h1 => ?_
  · rw [bin_sub, vb_some, wr64 (by omega), bin_leq, vb_some, show decide (a ≤ 9223372036854775807 - n) = decide (R64 (a + n)) from decide_eq_decide.2 (by constructor <;> intro h <;> omega)]
    exact hR _ _ c
  · rw [bin_sub, vb_some, wr64 (by omega), bin_geq, vb_some, show decide (-9223372036854775808 - n ≤ a) = decide (R64 (a + n)) from decide_eq_decide.2 (by constructor <;> intro h <;> omega)]
    exact hR _ _ c
theorem K_root32 {n : Int} (hn : 0 ≤ n ∧ n ≤ 3) : ∀ h R, Cx (fun _ => False) h h [] → (∀ h' M, Cx (fun _ => False) h h' M → R (.int .i64 (rt n)) h') → F_simulcastlaw32_root S I (.int .i64 n) h R := by
  intro h R c hR
  unfold F_simulcastlaw32_root
  rw [bin_mul, vb_some, wr64 (by omega), bin_add, vb_some, wr64 (by omega)]
  exact hR _ _ c
structure CsC0 (S : Sys) (I : Ids) : Prop extends CsM3 S I where
  cfits : ∀ {a n : Int}, R64 a → R64 n → Pur S I.f_counter_fits [.int .i64 a, .int .i64 n] (.bool (decide (R64 (a + n))))
  rfits : ∀ {a n : Int}, R64 a → R64 n → Pur S I.f_simulcastref32_fits [.int .i64 a, .int .i64 n] (.bool (decide (R64 (a + n))))
  root : ∀ {n : Int}, 0 ≤ n ∧ n ≤ 3 → Pur S I.f_simulcastlaw32_root [.int .i64 n] (.int .i64 (rt n))
theorem K_cGet {root : Int} (cs : CsC0 S I) : ∀ h0 F σ R Q, Cx F h0 h0 [rSpace s σ] → wp (gt root) σ Q → (∀ a σ' h' M, Cx F h0 h' (rSpace s σ' :: M) → Q a σ' → R (uI a) h') → F_counter_Get S I s (.int .i64 root) h0 R := by
  intro h0 F σ R Q c hp hR
  unfold F_counter_Get
  refine c.last cs.get 0 rfl hp fun a σ' h1 c hq => ?_
  exact hR a σ' h1 [] c hq
structure CsC1 (S : Sys) (I : Ids) : Prop extends CsC0 S I where
  cget : ∀ {root : Int} {s}, Does S I.f_counter_Get [s, .int .i64 root] s (gt root) uI
theorem K_cAdd {root n : Int} (cs : CsC1 S I) (hn : R64 n) : ∀ h0 F σ R Q, Cx F h0 h0 [rSpace s σ] → wp (cAdd root n) σ Q → (∀ a σ' h' M, Cx F h0 h' (rSpace s σ' :: M) → Q a σ' → R (uE a) h') → F_counter_Add S I s (.int .i64 root) (.int .i64 n) h0 R := by
  intro h0 F σ R Q c hp hR
  unfold F_counter_Add
  unfold cAdd at hp
  refine c.doesE cs.cget (Ens.gt _) 0 rfl hp fun v σ h1 hv c hp => ?_
  unfold uI
  refine c.pur (cs.cfits hv hn) fun h2 c => ?_
  by_cases hf : R64 (v + n)
  · rw [if_pos hf] at hp
    rw [decide_eq_true hf]
    refine vb (v := .bool false) rfl ?_
    rw [br_false, bin_add, vb_some, wr64 hf]
    refine c.does cs.put 0 rfl hp fun _ σ h3 c hp => ?_
    rw [vb_some]
    exact hR _ _ _ [] c hp
  · rw [if_neg hf] at hp
    rw [decide_eq_false hf]
    refine vb (v := .bool true) rfl ?_
    rw [br_true]
    exact hR _ _ _ [] c hp
theorem K_cSet {root n : Int} (cs : CsC1 S I) : ∀ h0 F σ R Q, Cx F h0 h0 [rSpace s σ] → wp (cSet root n) σ Q → (∀ a σ' h' M, Cx F h0 h' (rSpace s σ' :: M) → Q a σ' → R (uI a) h') → F_counter_Set S I s (.int .i64 root) (.int .i64 n) h0 R := by
  intro h0 F σ R Q c hp hR
  unfold F_counter_Set
  unfold cSet at hp
  refine c.does cs.cget 0 rfl hp fun v σ h1 c hp => ?_
  refine c.does cs.put 0 rfl hp fun _ σ h3 c hp => ?_
  exact hR _ _ _ [] c hp
theorem K_cMove {a b n : Int} (cs : CsC1 S I) (hn : R64 n) : ∀ h0 F σ R Q, Cx F h0 h0 [rSpace s σ] → wp (cMove a b n) σ Q → (∀ a σ' h' M, Cx F h0 h' (rSpace s σ' :: M) → Q a σ' → R (uI a) h') → F_counter_Move S I s (.int .i64 a) (.int .i64 b) (.int .i64 n) h0 R := by
  intro h0 F σ R Q c hp hR
  unfold F_counter_Move
  unfold cMove at hp
  rw [bin_lss, vb_some]
  refine brd (fun h1 => ?_) fun h1 => ?_
  · rw [if_pos h1] at hp
    exact hR _ _ _ [] c hp
  rw [if_neg h1] at hp
  refine c.doesE cs.cget (Ens.gt _) 0 rfl hp fun x σ h2 hx c hp => ?_
  unfold uI
  rw [bin_lss, vb_some]
  refine brd (fun h3 => ?_) fun h3 => ?_
  · rw [if_pos h3] at hp
    exact hR _ _ _ [] c hp
  rw [if_neg h3] at hp
  rw [bin_eql, vb_some]
  refine brd (fun h4 => ?_) fun h4 => ?_
  · rw [if_pos h4] at hp
    exact hR _ _ _ [] c hp
  rw [if_neg h4] at hp
  refine c.doesE cs.cget (Ens.gt _) 0 rfl hp fun y σ h5 hy c hp => ?_
  unfold uI
  refine c.pur (cs.cfits hy hn) fun h6 c => ?_
  by_cases hf : R64 (y + n)
  · rw [if_pos hf] at hp
    rw [decide_eq_true hf]
    refine vb (v := .bool false) rfl ?_
    rw [br_false, bin_sub, vb_some, wr64 (by omega)]
    refine c.does cs.put 0 rfl hp fun _ σ h7 c hp => ?_
    rw [bin_add, vb_some, wr64 hf]
    refine c.does cs.put 0 rfl hp fun _ σ h8 c hp => ?_
    exact hR _ _ _ [] c hp
  · rw [if_neg hf] at hp
    rw [decide_eq_false hf]
    refine vb (v := .bool true) rfl ?_
    rw [br_true]
    exact hR _ _ _ [] c hp
theorem bldR4 (a b c d : Int) : bldS [(0, 1), (1, 1), (2, 1), (3, 1)] #[Value.int IntKind.i64 0, Value.int IntKind.i64 0, Value.int IntKind.i64 0, Value.int IntKind.i64 0] [(0, .int .i64 a), (1, .int .i64 b), (2, .int .i64 c), (3, .int .i64 d)] = some (mR ⟨a, b, c, d⟩) := by kernel_rfl
theorem u8m4 {x : Int} (h : 0 ≤ x) {K : Value → Prop} (hK : K (.int .i64 (x % 4))) : Vb (bin .rem (.int .u8 x) (.int .u8 4)) fun v => Vb (cvi .i64 v) K := by
  rw [bin_rem (by omega), vb_some, Int.tmod_eq_emod_of_nonneg h, cvi_int, vb_some, wr64 (by omega)]
  exact hK
theorem K_cRef {x : C4} (hx : x.ok) : ∀ h R, Cx (fun _ => False) h h [] → (∀ h' M, Cx (fun _ => False) h h' M → R (mR x.r) h') → F_simulcastlaw32_Act_ref S I (mC x) h R := by
  intro h R c hR
  unfold F_simulcastlaw32_Act_ref
  refine c.nw EC4 x rfl fun r1 h1 c => ?_
  refine c.nw ER4 ⟨0, 0, 0, 0⟩ rfl fun r2 h2 c => ?_
  refine (c.va (i := 0) rfl).fld (j := 0) rfl (u8m4 hx.d.1 ?_)
  refine (c.va (i := 0) rfl).fld (j := 1) rfl (u8m4 hx.a.1 ?_)
  refine (c.va (i := 0) rfl).fld (j := 2) rfl (u8m4 hx.b.1 ?_)
  refine (c.va (i := 0) rfl).fld (j := 3) rfl ?_
  rw [bldR4, vb_some]
  refine c.sto 1 rfl x.r rfl rfl fun h3 c => ?_
  rw [(c.va (i := 1) rfl).whole (n := 4) rfl, vb_some]
  exact hR _ _ c
structure CsC2 (S : Sys) (I : Ids) : Prop extends CsC1 S I where
  cadd : ∀ {root n : Int} {s}, R64 n → Does S I.f_counter_Add [s, .int .i64 root, .int .i64 n] s (cAdd root n) uE
  cset : ∀ {root n : Int} {s}, Does S I.f_counter_Set [s, .int .i64 root, .int .i64 n] s (cSet root n) uI
  cmove : ∀ {a b n : Int} {s}, R64 n → Does S I.f_counter_Move [s, .int .i64 a, .int .i64 b, .int .i64 n] s (cMove a b n) uI
  cref : ∀ {x : C4}, x.ok → Pur S I.f_simulcastlaw32_Act_ref [mC x] (mR x.r)
theorem K_cDo {x : C4} (cs : CsC2 S I) (hx : x.ok) : ∀ h0 F σ R Q, Cx F h0 h0 [rSpace s σ] → wp (cAct x.r) σ Q → (∀ a σ' h' M, Cx F h0 h' (rSpace s σ' :: M) → Q a σ' → R (uE a) h') → F_simulcastlaw32_Act_do S I (mC x) s h0 R := by
  intro h0 F σ R Q c hp hR
  have hr := hx.r
  unfold F_simulcastlaw32_Act_do
  unfold cAct at hp
  refine c.nw EC4 x rfl fun r1 h1 c => ?_
  rw [(c.va (i := 1) rfl).whole (n := 4) rfl, vb_some]
  refine c.pur (cs.cref hx) fun h2 c => ?_
  refine c.nw ER4 ⟨0, 0, 0, 0⟩ rfl fun r2 h3 c => ?_
  refine c.sto 2 rfl x.r rfl rfl fun h4 c => ?_
  refine (c.va (i := 2) rfl).fld (j := 0) rfl ?_
  have lA : ∀ {K : Value → Prop}, K (.int .i64 x.r.a) → Vb (fa 1 (at0 r2)) fun p => Vb (ldc p h4) K := fun hK => (c.va (i := 2) rfl).fld (j := 1) rfl hK
  rw [bin_eql, vb_some]
  refine brd (fun h5 => ?_) fun h5 => ?_
  · rw [if_pos h5] at hp
    refine lA ?_
    refine c.pur (cs.root hr.a) fun h6 c => ?_
    refine c.does cs.cget 0 rfl hp fun v σ h7 c hp => ?_
    exact hR _ _ _ _ c hp
  rw [if_neg h5] at hp
  rw [bin_eql, vb_some]
  refine brd (fun h6 => ?_) fun h6 => ?_
  · rw [if_pos h6] at hp
    refine lA ?_
    rw [show fa 3 (at0 r1) = some (.pointer (some ⟨r1, 0 + 3, none⟩)) from fa_add _ _ _, vb_some, show ldc (.pointer (some ⟨r1, 0 + 3, none⟩)) h4 = some (.int .i64 x.n) from (c.va (i := 1) rfl).row.ldc (j := 3) rfl, vb_some]
    refine c.pur (cs.root hr.a) fun h6 c => ?_
    refine ⟨(c.va (i := 1) rfl).row.ldc (j := 3) rfl, ?_⟩
    refine c.last (cs.cadd hx.n) 0 rfl hp fun e σ h7 c hq => ?_
    unfold uE
    refine ext0t (ext1t ?_)
    exact hR e _ _ _ c hq
  rw [if_neg h6] at hp
  rw [bin_eql, vb_some]
  refine brd (fun h7 => ?_) fun h7 => ?_
  · rw [if_pos h7] at hp
    refine lA ?_
    rw [show fa 3 (at0 r1) = some (.pointer (some ⟨r1, 0 + 3, none⟩)) from fa_add _ _ _, vb_some, show ldc (.pointer (some ⟨r1, 0 + 3, none⟩)) h4 = some (.int .i64 x.n) from (c.va (i := 1) rfl).row.ldc (j := 3) rfl, vb_some]
    refine c.pur (cs.root hr.a) fun h6 c => ?_
    refine ⟨(c.va (i := 1) rfl).row.ldc (j := 3) rfl, ?_⟩
    refine c.does cs.cset 0 rfl hp fun v σ h7 c hp => ?_
    exact hR _ _ _ _ c hp
  · rw [if_neg h7] at hp
    refine lA ?_
    rw [show fa 2 (at0 r2) = some (.pointer (some ⟨r2, 0 + 2, none⟩)) from fa_add _ _ _, vb_some, show ldc (.pointer (some ⟨r2, 0 + 2, none⟩)) h4 = some (.int .i64 x.r.b) from (c.va (i := 2) rfl).row.ldc (j := 2) rfl, vb_some]
    rw [show fa 3 (at0 r1) = some (.pointer (some ⟨r1, 0 + 3, none⟩)) from fa_add _ _ _, vb_some, show ldc (.pointer (some ⟨r1, 0 + 3, none⟩)) h4 = some (.int .i64 x.n) from (c.va (i := 1) rfl).row.ldc (j := 3) rfl, vb_some]
    refine c.pur (cs.root hr.a) fun h6 c => ?_
    refine ⟨(c.va (i := 1) rfl).row.ldc (j := 3) rfl, (c.va (i := 2) rfl).row.ldc (j := 2) rfl, ?_⟩
    refine c.pur (cs.root hr.b) fun h7 c => ?_
    refine ⟨(c.va (i := 1) rfl).row.ldc (j := 3) rfl, ?_⟩
    refine c.does (cs.cmove hx.n) 0 rfl hp fun v σ h8 c hp => ?_
    exact hR _ _ _ _ c hp

/-! ### The reference -/
def set4 (l : Nat → Int) (i : Int) (v : Int) : Nat → Int := fun j => if (j : Int) = i then v else l j
def list4 (l : Nat → Int) : List Int := (List.range 4).map l
theorem list4_len (l : Nat → Int) : (list4 l).length = 4 := rfl
theorem list4_get {l : Nat → Int} {i : Int} (h : 0 ≤ i ∧ i ≤ 3) : (list4 l)[i.toNat]? = some (l i.toNat) := by
  have : i.toNat < 4 := by omega
  simp [list4, this]
theorem list4_set {l : Nat → Int} {i v : Int} (h : 0 ≤ i ∧ i ≤ 3) : (list4 l).set i.toNat v = list4 (set4 l i v) := by
  refine List.ext_getElem? fun j => ?_
  rw [List.getElem?_set]
  by_cases hj : j < 4
  · have e : (list4 (set4 l i v))[j]? = some (set4 l i v j) := by simp [list4, hj]
    rw [e]
    unfold set4
    by_cases hij : i.toNat = j
    · rw [if_pos hij, if_pos (by rw [list4_len]; omega), if_pos (by omega)]
    · rw [if_neg hij, if_neg (by omega)]
      simp [list4, hj]
  · rw [List.getElem?_eq_none (l := list4 (set4 l i v)) (by rw [list4_len]; omega)]
    split
    · rw [if_neg (by rw [list4_len]; omega)]
    · exact List.getElem?_eq_none (by rw [list4_len]; omega)
def cRes (l : Nat → Int) (r : C4) : (Nat → Int) × Int × Int :=
  if r.d = 0 then (l, l r.a.toNat, 0)
  else if r.d = 1 then if R64 (l r.a.toNat + r.n) then (set4 l r.a (l r.a.toNat + r.n), l r.a.toNat + r.n, 0) else (l, 0, 9)
  else if r.d = 2 then (set4 l r.a r.n, l r.a.toNat, 0)
  else if r.n < 0 then (l, 0, 4) else if l r.a.toNat < r.n then (l, 0, 8) else if r.a = r.b then (l, 0, 0)
  else if R64 (l r.b.toNat + r.n) then (set4 (set4 l r.a (l r.a.toNat - r.n)) r.b (l r.b.toNat + r.n), 0, 0) else (l, 0, 9)
theorem K_cRefDo {w : Value} {l : Nat → Int} {r : C4} (cs : CsC0 S I) (hr : r.rok) (hl : ∀ i, i < 4 → R64 (l i)) (hs : Sl EI1 h w (list4 l)) (hR : ∀ u h', Cx (fun _ => False) h h' [rSl EI1 u (list4 (cRes l r).1)] → R (.tuple #[u, .int .i64 (cRes l r).2.1, .int .i64 (cRes l r).2.2]) h') :
    F_simulcastref32_Do S I w (mR r) h R := by
  unfold F_simulcastref32_Do
  have c := Cx.start0 h
  have ha := hl r.a.toNat (by have := hr.a; omega)
  have hb := hl r.b.toNat (by have := hr.b; omega)
  refine c.nw ER4 r rfl fun r1 h1 c => ?_
  have c := c.nil EI1
  refine c.ap 1 rfl (hs.gr c.gr) rfl rfl (by rw [list4_len]; simp) (by rw [list4_len]; simp) fun u h2 c => ?_
  have c : Cx (fun _ => False) h h2 [rVar ER4 r1 r, rSl EI1 u (list4 l)] := c
  have fd : ∀ {h' L} {K : Value → Prop} (j : Nat) (v : Value), Cx (fun _ => False) h h' L → L[0]? = some (rVar ER4 r1 r) → (ER4.c r)[j]? = some v → K v → Vb (fa j (at0 r1)) fun p => Vb (ldc p h') K := fun j v c hi hv hK => (c.va hi).fld (j := j) hv hK
  refine fd 1 _ c rfl rfl ?_
  refine (hs.gr c.gr).one rfl (list4_get hr.a) (by have := hr.a; omega) rfl ?_
  refine fd 0 _ c rfl rfl ?_
  unfold cRes at hR
  rw [bin_eql, vb_some]
  refine brd (fun h3 => ?_) fun h3 => ?_
  · rw [if_pos h3] at hR
    exact hR _ _ (c.pick [1])
  rw [if_neg h3] at hR
  refine fd 0 _ c rfl rfl ?_
  rw [bin_eql, vb_some]
  refine brd (fun h4 => ?_) fun h4 => ?_
  · rw [if_pos h4] at hR
    refine fd 3 _ c rfl rfl ?_
    refine c.pur (cs.rfits ha hr.n) fun h5 c => ?_
    by_cases hf : R64 (l r.a.toNat + r.n)
    · rw [if_pos hf] at hR
      rw [decide_eq_true hf]
      refine vb (v := .bool false) rfl ?_
      rw [br_false]
      refine fd 1 _ c rfl rfl ?_
      refine fd 3 _ c rfl rfl ?_
      rw [bin_add, vb_some, wr64 hf]
      refine c.wr 1 rfl (n := r.a.toNat) (by have := hr.a; omega) (by rw [list4_len]; have := hr.a; omega) (l r.a.toNat + r.n) rfl rfl fun h6 c => ?_
      rw [list4_set hr.a] at c
      refine fd 3 _ c rfl rfl ?_
      rw [bin_add, vb_some, wr64 hf]
      exact hR _ _ (c.pick [1])
    · rw [if_neg hf] at hR
      rw [decide_eq_false hf]
      refine vb (v := .bool true) rfl ?_
      rw [br_true]
      exact hR _ _ (c.pick [1])
  rw [if_neg h4] at hR
  refine fd 0 _ c rfl rfl ?_
  rw [bin_eql, vb_some]
  refine brd (fun h5 => ?_) fun h5 => ?_
  · rw [if_pos h5] at hR
    refine fd 1 _ c rfl rfl ?_
    refine fd 3 _ c rfl rfl ?_
    refine c.wr 1 rfl (n := r.a.toNat) (by have := hr.a; omega) (by rw [list4_len]; have := hr.a; omega) r.n rfl rfl fun h6 c => ?_
    rw [list4_set hr.a] at c
    exact hR _ _ (c.pick [1])
  rw [if_neg h5] at hR
  refine fd 3 _ c rfl rfl ?_
  rw [bin_lss, vb_some]
  refine brd (fun h6 => ?_) fun h6 => ?_
  · rw [if_pos h6] at hR
    exact hR _ _ (c.pick [1])
  rw [if_neg h6] at hR
  refine fd 3 _ c rfl rfl ?_
  rw [bin_lss, vb_some]
  refine brd (fun h7 => ?_) fun h7 => ?_
  · rw [if_pos h7] at hR
    exact hR _ _ (c.pick [1])
  rw [if_neg h7] at hR
  refine fd 1 _ c rfl rfl ?_
  refine fd 2 _ c rfl rfl ?_
  rw [bin_eql, vb_some]
  refine brd (fun h8 => ?_) fun h8 => ?_
  · rw [if_pos h8] at hR
    exact hR _ _ (c.pick [1])
  rw [if_neg h8] at hR
  refine fd 2 _ c rfl rfl ?_
  refine (hs.gr c.gr).one rfl (list4_get hr.b) (by have := hr.b; omega) rfl ?_
  refine fd 3 _ c rfl rfl ?_
  refine c.pur (cs.rfits hb hr.n) fun h9 c => ?_
  by_cases hf : R64 (l r.b.toNat + r.n)
  · rw [if_pos hf] at hR
    rw [decide_eq_true hf]
    have hn := hr.n
    refine vb (v := .bool false) rfl ?_
    rw [br_false]
    refine fd 1 _ c rfl rfl ?_
    refine fd 3 _ c rfl rfl ?_
    rw [bin_sub, vb_some, wr64 (by omega)]
    refine c.wr 1 rfl (n := r.a.toNat) (by have := hr.a; omega) (by rw [list4_len]; have := hr.a; omega) (l r.a.toNat - r.n) rfl rfl fun h10 c => ?_
    rw [list4_set hr.a] at c
    refine fd 2 _ c rfl rfl ?_
    refine fd 2 _ c rfl rfl ?_
    refine (hs.gr c.gr).one rfl (list4_get hr.b) (by have := hr.b; omega) rfl ?_
    refine fd 3 _ c rfl rfl ?_
    rw [bin_add, vb_some, wr64 hf]
    refine c.wr 1 rfl (n := r.b.toNat) (by have := hr.b; omega) (by rw [list4_len]; have := hr.b; omega) (l r.b.toNat + r.n) rfl rfl fun h11 c => ?_
    rw [list4_set hr.b] at c
    exact hR _ _ (c.pick [1])
  · rw [if_neg hf] at hR
    rw [decide_eq_false hf]
    refine vb (v := .bool true) rfl ?_
    rw [br_true]
    exact hR _ _ (c.pick [1])
end Go.En
namespace Go.En
open Prog Spc Go.Sort

variable {S : Sys} {I : Ids} {h h0 h' : Hp} {F F0 : Fp} {R : Value → Hp → Prop} {L : List Res} {s : Value} {σ τ : Spc}

section
variable {D : Int → Prop} {m : Int → Int} {l : Nat → Int} {r : C4}
theorem set4_R {l : Nat → Int} (h : ∀ i, i < 4 → R64 (l i)) {a v : Int} (hv : R64 v) : ∀ i, i < 4 → R64 (set4 l a v i) := fun i hi => by
  unfold set4; split
  · exact hv
  · exact h i hi
theorem cRes_R (hr : r.rok) (h : ∀ i, i < 4 → R64 (l i)) : ∀ i, i < 4 → R64 ((cRes l r).1 i) := by
  have ha := h r.a.toNat (by have := hr.a; omega)
  have hn := hr.n
  unfold cRes
  split
  · exact h
  · split
    · split
      · exact set4_R h (by assumption)
      · exact h
    · split
      · exact set4_R h hr.n
      · split
        · exact h
        · split
          · exact h
          · split
            · exact h
            · split
              · refine set4_R (set4_R h ?_) (by assumption)
                exact ⟨by omega, by omega⟩
              · exact h
theorem upd_set4 {m : Int → Int} {l : Nat → Int} {a v : Int} (h : ∀ i : Nat, i < 4 → m (rt i) = l i) : ∀ i : Nat, i < 4 → upd m (rt a) v (rt i) = set4 l a v i := fun i hi => by
  unfold upd set4 rt
  by_cases e : (i : Int) = a
  · rw [if_pos (by omega), if_pos e]
  · rw [if_neg (by omega), if_neg e]; exact h i hi
theorem rt_at {m : Int → Int} {l : Nat → Int} (hm : ∀ i : Nat, i < 4 → m (rt i) = l i) {a : Int} (ha : 0 ≤ a ∧ a ≤ 3) : m (rt a) = l a.toNat := by
  have := hm a.toNat (by omega)
  rw [Int.toNat_of_nonneg ha.1] at this
  exact this
theorem wp_cAct (S : Sm D σ σ m 0) (hD : ∀ i, 0 ≤ i → i ≤ 3 → D (rt i)) (hr : r.rok) (hm : ∀ i : Nat, i < 4 → m (rt i) = l i) (hl : σ.pu.length + 10 ≤ big) :
    wp (cAct r) σ fun a σ' => a = (cRes l r).2 ∧ ∃ m', Sm D σ σ' m' 2 ∧ ∀ i : Nat, i < 4 → m' (rt i) = (cRes l r).1 i := by
  have ha := rt_at hm hr.a
  have hb := rt_at hm hr.b
  have hn := hr.n
  have hDa := hD r.a hr.a.1 hr.a.2
  have hDb := hD r.b hr.b.1 hr.b.2
  unfold cAct cRes
  by_cases h0 : r.d = 0
  · rw [if_pos h0, if_pos h0]
    refine wp_get S hDa fun σ1 S => ?_
    exact ⟨by rw [ha], m, S.mono (by omega), hm⟩
  rw [if_neg h0, if_neg h0]
  by_cases h1 : r.d = 1
  · rw [if_pos h1, if_pos h1]
    unfold cAdd
    refine wp_get S hDa fun σ1 S1 => ?_
    rw [ha]
    by_cases hf : R64 (l r.a.toNat + r.n)
    · rw [if_pos hf, if_pos hf]
      refine wp_put S1 hDa hf (by omega) fun σ2 S2 => ?_
      exact ⟨rfl, _, S2.mono (by omega), upd_set4 hm⟩
    · rw [if_neg hf, if_neg hf]
      exact ⟨rfl, m, S1.mono (by omega), hm⟩
  rw [if_neg h1, if_neg h1]
  by_cases h2 : r.d = 2
  · rw [if_pos h2, if_pos h2]
    unfold cSet
    rw [wp_bind]
    refine wp_get S hDa fun σ1 S1 => ?_
    refine wp_put S1 hDa hn (by omega) fun σ2 S2 => ?_
    exact ⟨by rw [ha], _, S2.mono (by omega), upd_set4 hm⟩
  rw [if_neg h2, if_neg h2]
  unfold cMove
  rw [wp_bind]
  by_cases h3 : r.n < 0
  · rw [if_pos h3, if_pos h3]
    exact ⟨rfl, m, S.mono (by omega), hm⟩
  rw [if_neg h3, if_neg h3]
  refine wp_get S hDa fun σ1 S1 => ?_
  rw [ha]
  by_cases h4 : l r.a.toNat < r.n
  · rw [if_pos h4, if_pos h4]
    exact ⟨rfl, m, S1.mono (by omega), hm⟩
  rw [if_neg h4, if_neg h4]
  by_cases h5 : r.a = r.b
  · rw [if_pos (by rw [h5]), if_pos h5]
    exact ⟨rfl, m, S1.mono (by omega), hm⟩
  rw [if_neg (by unfold rt; omega), if_neg h5]
  refine wp_get S1 hDb fun σ2 S2 => ?_
  rw [hb]
  by_cases hf : R64 (l r.b.toNat + r.n)
  · rw [if_pos hf, if_pos hf]
    have hR := S.rg (rt r.a)
    rw [ha] at hR
    refine wp_put S2 hDa ⟨by omega, by omega⟩ (by omega) fun σ3 S3 => ?_
    refine wp_put S3 hDb hf (by omega) fun σ4 S4 => ?_
    exact ⟨rfl, _, S4.mono (by omega), upd_set4 (upd_set4 hm)⟩
  · rw [if_neg hf, if_neg hf]
    exact ⟨rfl, m, S2.mono (by omega), hm⟩
theorem safe_cAct (hr : r.rok) (hw : σ.wf) (hp : σ.pu = []) : wp (cAct r) σ fun _ _ => True := by
  have H : Wld All σ σ 0 := Wld.start hw
  have hb : σ.pu.length + 0 + 10 ≤ big := by rw [hp]; decide
  have hn := hr.n
  unfold cAct
  split
  · exact wd_get H trivial fun v σ1 hv _ H => trivial
  · split
    · unfold cAdd
      refine wd_get H trivial fun v σ1 hv _ H => ?_
      split
      · exact wd_put H trivial (by assumption) (by omega) fun σ2 H => trivial
      · trivial
    · split
      · unfold cSet
        rw [wp_bind]
        refine wd_get H trivial fun v σ1 hv _ H => ?_
        exact wd_put H trivial hn (by omega) fun σ2 H => trivial
      · unfold cMove
        rw [wp_bind]
        split
        · trivial
        · refine wd_get H trivial fun x σ1 hx _ H => ?_
          split
          · trivial
          · split
            · trivial
            · refine wd_get H trivial fun y σ2 hy _ H => ?_
              split
              · refine wd_put H trivial ⟨by omega, by omega⟩ (by omega) fun σ3 H => ?_
                exact wd_put H trivial (by assumption) (by omega) fun σ4 H => trivial
              · trivial
theorem cost_cAct : costLe 32 (cAct r) := by
  unfold cAct
  refine cost_ite (cost_gt fun v => trivial) (cost_ite ?_ (cost_ite ?_ ?_))
  · unfold cAdd
    exact cost_gt fun v => cost_ite (cost_pt trivial) trivial
  · refine costLe.mono (n := 2 + 0) (costLe.bind (fun _ => ?_) ?_) (by decide)
    · trivial
    unfold cSet
    exact cost_gt fun v => cost_pt trivial
  · refine costLe.mono (n := 4 + 0) (costLe.bind (fun _ => ?_) ?_) (by decide)
    · trivial
    unfold cMove
    refine cost_ite trivial (cost_gt fun x => cost_ite trivial (cost_ite trivial (cost_gt fun y => cost_ite (cost_pt (cost_pt trivial)) trivial)))
end

/-! ### The model of the counters -/
def gC (l : Nat → Int) (i : Nat) : W3 := if i % 8 = 3 ∧ i < 32 then ⟨l (i / 8), 0, 0⟩ else W0
/-- the model's words tell the counters -/
structure Cn (g : Nat → W3) (l : Nat → Int) (k : Nat) : Prop extends GW 40 g k where
  at' : ∀ i : Nat, i < 4 → (g (8 * i + 3)).v = l i
theorem Cn.r64 {g : Nat → W3} {l : Nat → Int} {k : Nat} (H : Cn g l k) : ∀ i, i < 4 → R64 (l i) := fun i hi => by rw [← H.at' i hi]; exact H.v _ (by omega)
theorem Cn.start {l : Nat → Int} (hl : ∀ i, i < 4 → R64 (l i)) : Cn (gC l) l 0 := by
  refine ⟨⟨fun i hi => ?_, fun i hi => ?_, fun i hi => ?_⟩, fun i hi => ?_⟩
  · unfold gC; split <;> rfl
  · unfold gC; split
    · exact hl _ (by omega)
    · exact ⟨by decide, by decide⟩
  · unfold gC; split <;> exact ⟨Int.le_refl 0, Int.le_refl 0⟩
  · unfold gC
    rw [if_pos ⟨by omega, by omega⟩]
    show l ((8 * i + 3) / 8) = _
    congr 1; omega
theorem Cn.dom {g : Nat → W3} {l : Nat → Int} {k : Nat} (H : Cn g l k) {i : Int} (h : 0 ≤ i ∧ i ≤ 3) : (newS (knF g 40)).vw (rt i) = l i.toNat := by
  have hd : Dom 40 (newS (knF g 40)).kn := Dom.start H.ref
  unfold Spc.vw
  show (none : Option Int).getD _ = _
  rw [H.toGW.kn, if_pos (by unfold rt; omega)]
  show (g (rt i).toNat).v = _
  rw [← H.at' _ (by omega)]
  congr 2
  unfold rt; omega
/-- an action on the model -/
theorem Cn.act {g : Nat → W3} {l : Nat → Int} {k : Nat} {r : C4} (H : Cn g l k) (hr : r.rok) :
    wp (cAct r) (newS (knF g 40)) fun a σ' => σ'.en = false ∧ a = (cRes l r).2 ∧ ∀ i : Nat, i < 4 → σ'.vw (rt i) = (cRes l r).1 i := by
  have hw : (newS (knF g 40)).wf := newS_wf (knF_val H.v)
  have S : Sm (fun a => 0 ≤ a ∧ a < 40) (newS (knF g 40)) (newS (knF g 40)) (newS (knF g 40)).vw 0 := Sm.start (fun a ha => Dom.start H.ref a ha.1 ha.2) rfl hw
  refine Prog.wp_mono (wp_cAct (l := l) S (fun i h0 h1 => by unfold rt; exact ⟨by omega, by omega⟩) hr (fun i hi => ?_) (by show 0 + 10 ≤ big; decide)) fun a σ' ⟨h1, m', S', h2⟩ => ⟨S'.en, h1, fun i hi => by rw [S'.vw]; exact h2 i hi⟩
  rw [H.dom ⟨by omega, by omega⟩]
  congr 1
theorem Cn.next {g : Nat → W3} {l l' : Nat → Int} {k : Nat} (H : Cn g l k) (O : OnG 40 g σ) (hv : ∀ i : Nat, i < 4 → σ.vw (rt i) = l' i) : Cn (nxt g σ) l' (k + 1) :=
  ⟨H.toGW.nxt O, fun i hi => by rw [nxt_v H.toGW O (by omega), ← hv i hi]; congr 1⟩

structure CsC3 (S : Sys) (I : Ids) : Prop extends CsC2 S I where
  cdo : ∀ {x : C4} {s}, x.ok → Does S I.f_simulcastlaw32_Act_do [mC x, s] s (cAct x.r) uE
  refdo : ∀ {w : Value} {l : Nat → Int} {r : C4} {h R}, r.rok → (∀ i, i < 4 → R64 (l i)) → Sl EI1 h w (list4 l) → (∀ u h', Cx (fun _ => False) h h' [rSl EI1 u (list4 (cRes l r).1)] → R (.tuple #[u, .int .i64 (cRes l r).2.1, .int .i64 (cRes l r).2.2]) h') → S.C I.f_simulcastref32_Do [w, mR r] h R
  told : ∀ {α β : Type} {C : β → Res} {fn : Value} {p : Prog α} {out : β → α → β} {b0 : β} {u : MS} {g : Nat → W3} {n k : Nat} {Q : α → Spc → Prop} {F0 h0 h R},
    n ≤ 4096 → GW n g k → k < 4294967295 → (∀ σ, σ.wf → σ.pu = [] → wp p σ fun _ _ => True) → Acts S fn C p out → costLe 32 p →
    wp p (newS (knF g n)) Q → (∀ a σ', Q a σ' → σ'.en = false) → Cx F0 h0 h [rSl EW (sV u) (wsF g n), C b0] →
    (∀ b a σ' u' h', Q a σ' → OnG n g σ' → Cx F0 h0 h' [rSl EW (sV u') (wsF (nxt g σ') n), C (out b a)] → R (.tuple #[mM u', .bool true]) h') → S.C I.f_simulcastlaw32_Told [mM u, fn] h R
  acts1 : ∀ {a b c d h R}, F_simulcastlaw32_CounterActs_1 S I a b c d h R → S.C I.f_simulcastlaw32_CounterActs_1 [a, b, c, d] h R
  sums1 : ∀ {a b h R}, F_simulcastlaw32_CounterSums_1 S I a b h R → S.C I.f_simulcastlaw32_CounterSums_1 [a, b] h R
  awake1 : ∀ {a b h R}, F_simulcastlaw32_awake_1 S I a b h R → S.C I.f_simulcastlaw32_awake_1 [a, b] h R

/-! ### The closures -/
theorem acts_A {x : C4} {r1 r2 r3 : Nat} (cs : CsC3 S I) (hx : x.ok) : Acts S (.func (.func I.f_simulcastlaw32_CounterActs_1) #[] #[at0 r1, at0 r2, at0 r3]) (fun b : Int × Int => rStar [rVar EC4 r1 x, rVar EI1 r2 b.1, rVar EI1 r3 b.2]) (cAct x.r) (fun _ a => a) := by
  intro b s σ h0 F0 h R c hp
  refine .inl ⟨_, _, _, rfl, ?_⟩
  refine cs.acts1 ?_
  have c := Cx.unpack (L := [rSpace s σ]) c
  unfold F_simulcastlaw32_CounterActs_1
  rw [(c.va (i := 1) rfl).whole (n := 4) rfl, vb_some]
  refine c.last (cs.cdo hx) 0 rfl hp fun a σ' h1 c hq => ?_
  unfold uE
  refine ext0t (ext1t ?_)
  refine c.sto1 2 rfl a.1 rfl rfl fun h2 c => ?_
  refine c.sto1 3 rfl a.2 rfl rfl fun h3 c => ?_
  exact hq _ (Cx.pack (L := [_]) c)
theorem acts_S {x : C4} {r1 : Nat} (cs : CsC3 S I) (hx : x.ok) : Acts S (.func (.func I.f_simulcastlaw32_CounterSums_1) #[] #[at0 r1]) (fun _ : Unit => rVar EC4 r1 x) (cAct x.r) (fun _ _ => ()) := by
  intro b s σ h0 F0 h R c hp
  refine .inl ⟨_, _, _, rfl, ?_⟩
  refine cs.sums1 ?_
  unfold F_simulcastlaw32_CounterSums_1
  rw [(c.va (i := 1) rfl).whole (n := 4) rfl, vb_some]
  refine c.last (cs.cdo hx) 0 rfl hp fun a σ' h1 c hq => ?_
  exact hq _ c
theorem acts_W {r1 : Nat} (cs : CsC3 S I) : Acts S (.func (.func I.f_simulcastlaw32_awake_1) #[] #[at0 r1]) (fun b : Int => rVar EI1 r1 b) (cAct (C4.mk 1 0 0 3).r) (fun _ a => a.1) := by
  intro b s σ h0 F0 h R c hp
  refine .inl ⟨_, _, _, rfl, ?_⟩
  refine cs.awake1 ?_
  unfold F_simulcastlaw32_awake_1
  refine vb (v := mC ⟨1, 0, 0, 3⟩) (by kernel_rfl) ?_
  refine c.last (cs.cdo ⟨by decide, by decide, by decide, by decide⟩) 0 rfl hp fun a σ' h1 c hq => ?_
  unfold uE
  refine ext0t (ext1t ?_)
  refine c.sto1 1 rfl a.1 rfl rfl fun h2 c => ?_
  exact hq _ c
/-- the word of a counter, in whatever order -/
theorem at_fork {rm : Nat} {u : MS} {ws : List W3} {n : Int} {e : TypeId} (cs : CsC3 S I) (hv : Va EMd h rm u) (hs : Sl EW h (sV u) ws) (hn : 0 ≤ n ∧ n ≤ 3) (hN : ws.length ≤ 1000000) {K : Value → Value → Hp → Prop}
    (hK : ∀ r h', Cx (fun _ => False) h h' [rVar EW r ((wAt ws (rt n)).getD W0)] → K (at0 r) (.bool (wAt ws (rt n)).isSome) h') :
    And (
      S.C I.f_simulcastlaw32_root [.int .i64 n] h fun v19 h5 =>
      lda 1 (at0 rm) h5 = some (mM u) ∧
      And (
        S.C I.f_model_Model_At [mM u, v19] h5 fun v20 h6 =>
        Vb (ext 0 v20) fun v21 =>
        Vb (ext 1 v20) fun v22 =>
        Eb (nw #[Value.int IntKind.i64 0, Value.int IntKind.u32 0, Value.int IntKind.u32 0] e h6) fun w7_1 h7 =>
        Sb (sto 3 w7_1 v21 h7) fun h8 =>
        K w7_1 v22 h8) (
        Eb (nw #[Value.int IntKind.i64 0, Value.int IntKind.u32 0, Value.int IntKind.u32 0] e h5) fun w7_2 h9 =>
        lda 1 (at0 rm) h9 = some (mM u) ∧
        S.C I.f_model_Model_At [mM u, v19] h9 fun v20_1 h10 =>
        Vb (ext 0 v20_1) fun v21_1 =>
        Vb (ext 1 v20_1) fun v22_1 =>
        Sb (sto 3 w7_2 v21_1 h10) fun h11 =>
        K w7_2 v22_1 h11)) (
      Eb (nw #[Value.int IntKind.i64 0, Value.int IntKind.u32 0, Value.int IntKind.u32 0] e h) fun w7_3 h12 =>
      lda 1 (at0 rm) h12 = some (mM u) ∧
      S.C I.f_simulcastlaw32_root [.int .i64 n] h12 fun v19_1 h13 =>
      lda 1 (at0 rm) h13 = some (mM u) ∧
      S.C I.f_model_Model_At [mM u, v19_1] h13 fun v20_2 h14 =>
      Vb (ext 0 v20_2) fun v21_2 =>
      Vb (ext 1 v20_2) fun v22_2 =>
      Sb (sto 3 w7_3 v21_2 h14) fun h15 =>
      K w7_3 v22_2 h15) := by
  have c := Cx.start0 h
  have hvr : ∀ {h' L}, Cx (fun _ => False) h h' L → lda 1 (at0 rm) h' = some (mM u) := fun c => (hv.gr c.gr).whole rfl
  refine ⟨?_, ?_⟩
  · refine c.pur (cs.root hn) fun h1 c => ?_
    refine ⟨hvr c, ?_, ?_⟩
    · refine cs.at' (u := u) (ws := ws) hN (hs.gr c.gr) fun h2 g => ?_
      have c := c.more g
      refine ext0t (ext1t ?_)
      refine c.nw EW W0 rfl fun r h3 c => ?_
      refine c.sto 0 rfl ((wAt ws (rt n)).getD W0) rfl rfl fun h4 c => ?_
      exact hK r _ c
    · refine c.nw EW W0 rfl fun r h3 c => ?_
      refine ⟨hvr c, ?_⟩
      refine cs.at' (u := u) (ws := ws) hN (hs.gr c.gr) fun h2 g => ?_
      have c := c.more g
      refine ext0t (ext1t ?_)
      refine c.sto 0 rfl ((wAt ws (rt n)).getD W0) rfl rfl fun h4 c => ?_
      exact hK r _ c
  · refine c.nw EW W0 rfl fun r h3 c => ?_
    refine ⟨hvr c, ?_⟩
    refine c.pur (cs.root hn) fun h1 c => ?_
    refine ⟨hvr c, ?_⟩
    refine cs.at' (u := u) (ws := ws) hN (hs.gr c.gr) fun h2 g => ?_
    have c := c.more g
    refine ext0t (ext1t ?_)
    refine c.sto 0 rfl ((wAt ws (rt n)).getD W0) rfl rfl fun h4 c => ?_
    exact hK r _ c
theorem idc4 {l : Nat → Int} {i : Nat} (hi : i < 4) {q : IntKind} {z : Int} (hz : z = i) : idc 4 1 (.agg ⟨(EAr .i64 4).c l⟩) (.int q z) = some (.int .i64 (l i)) := by
  subst hz
  have : (0 : Int) ≤ (i : Int) ∧ (i : Int) < ((4 : Nat) : Int) := by omega
  unfold idc
  simp only [this, and_self, if_true, Int.toNat_natCast, Nat.mul_one]
  have := EAr_get (ik := .i64) (n := 4) (f := l) hi
  simpa using this

theorem K_words32 {l : Nat → Int} (cs : CsC3 S I) (hl : ∀ i, i < 4 → R64 (l i)) (hR : ∀ u h', Cx (fun _ => False) h h' [rSl EW (sV u) (wsF (gC l) 40)] → R (mM u) h') : F_simulcastlaw32_words S I (.agg ⟨(EAr .i64 4).c l⟩) h R := by
  unfold F_simulcastlaw32_words
  refine (Cx.start0 h).nw (EAr .i64 4) l rfl fun r1 h1 c => ?_
  refine c.nw EMd (none, 0, 0) rfl fun r2 h2 c => ?_
  refine c.mksl EW W0 (n := 40) rfl rfl rfl (by omega) (by omega) fun a h3 c => ?_
  rw [(c.va (i := 0) rfl).whole (n := 4) rfl, vb_some]
  let gi : Nat → Nat → W3 := fun j i => if i % 8 = 3 ∧ i / 8 < j then ⟨l (i / 8), 0, 0⟩ else W0
  have e0 : List.replicate 40 W0 = wsF (gi 0) 40 := by
    refine List.ext_getElem? fun i => ?_
    by_cases hi : i < 40
    · rw [wsF_get hi, List.getElem?_replicate, if_pos hi]
      show some W0 = some (if _ then _ else _)
      rw [if_neg (by omega)]
    · rw [List.getElem?_eq_none (by simp; omega), List.getElem?_eq_none (by rw [wsF_len]; omega)]
  rw [e0] at c
  refine Lp1.by (fun (j : Nat) v h' => v = .int .i64 j ∧ j ≤ 4 ∧ Cx (fun _ => False) h h' [rVar (EAr .i64 4) r1 l, rVar EMd r2 (none, 0, 0), rSl EW (.slice (some a) 40 40) (wsF (gi j) 40)]) (fun j => 4 - j) 0 ⟨rfl, by omega, c⟩ ?_
  clear c
  rintro j v h4 ⟨rfl, hj, c⟩ again hagain
  rw [bin_lss, vb_some]
  refine brd (fun h5 => ?_) fun h5 => ?_
  · rw [idc4 (i := j) (by omega) rfl, vb_some]
    refine c.pur (cs.root ⟨by omega, by omega⟩) fun h6 c => ?_
    refine c.wrF 2 rfl (n := 8 * j + 3) (by unfold rt; omega) (wsF_get (by omega)) ⟨l j, 0, 0⟩ rfl (j := 0) rfl (by decide) ?_ fun h7 c => ?_
    · show [_, _, _] = [_, _, _]
      have : gi j (8 * j + 3) = W0 := by
        show (if _ then _ else _) = _
        rw [if_neg (by omega)]
      rw [this]
    have e1 : (wsF (gi j) 40).set (8 * j + 3) ⟨l j, 0, 0⟩ = wsF (gi (j + 1)) 40 := by
      refine List.ext_getElem? fun i => ?_
      by_cases hi : i < 40
      · rw [List.getElem?_set, wsF_get (g := gi (j + 1)) hi]
        by_cases e : 8 * j + 3 = i
        · rw [if_pos e, if_pos (by rw [wsF_len]; omega)]
          show _ = some (if _ then _ else _)
          rw [if_pos ⟨by omega, by omega⟩, show i / 8 = j by omega]
        · rw [if_neg e, wsF_get hi]
          show some (if _ then _ else _) = some (if _ then _ else _)
          by_cases h8 : i % 8 = 3 ∧ i / 8 < j
          · rw [if_pos h8, if_pos ⟨h8.1, by omega⟩]
          · rw [if_neg h8, if_neg (fun h9 => by omega)]
      · rw [List.getElem?_eq_none (by rw [List.length_set, wsF_len]; omega), List.getElem?_eq_none (by rw [wsF_len]; omega)]
    rw [e1] at c
    rw [bin_add, vb_some, wrS (by omega)]
    exact hagain (j + 1) _ _ ⟨rfl, by omega, c⟩ (by omega)
  · have e4 : j = 4 := by omega
    subst e4
    have e2 : wsF (gi 4) 40 = wsF (gC l) 40 := wsF_ext fun i hi => by
      show (if _ then _ else _) = _
      unfold gC
      by_cases h8 : i % 8 = 3 ∧ i < 32
      · rw [if_pos h8, if_pos ⟨h8.1, by omega⟩]
      · rw [if_neg h8, if_neg (fun h9 => by omega)]
    rw [e2] at c
    have hc := Cn.start hl
    refine cs.mnew (ws := wsF (gC l) 40) (by rw [wsF_len]; omega) (fun w hw => by obtain ⟨i, hi, rfl⟩ := List.mem_map.1 hw; exact hc.ref i (List.mem_range.1 hi)) (c.sl (i := 2) rfl).sl fun u h8 c2 => ?_
    have c := c.frame0 c2
    refine c.sto (n := 1) 1 rfl u rfl rfl fun h9 c => ?_
    rw [mM_of (i := 1) c rfl, vb_some]
    exact hR u _ (c.pick [3])
theorem K_is32 {u : MS} {g : Nat → W3} {l : Nat → Int} {k : Nat} {w : Value} (cs : CsC3 S I) (H : Cn g l k) (hs : Sl EW h (sV u) (wsF g 40)) (hl : Sl EI1 h w (list4 l)) (hR : ∀ h', Gr h h' → R (.bool true) h') : F_simulcastlaw32_is S I (mM u) w h R := by
  unfold F_simulcastlaw32_is
  refine (Cx.start0 h).nw EMd u rfl fun r1 h1 c => ?_
  rw [hl.ln, list4_len, vb_some]
  refine Lp1.by (fun (j : Nat) v h' => v = .int .i64 j ∧ j ≤ 4 ∧ Cx (fun _ => False) h h' [rVar EMd r1 u]) (fun j => 4 - j) 0 ⟨rfl, by omega, c⟩ ?_
  clear c
  rintro j v h4 ⟨rfl, hj, c⟩ again hagain
  rw [bin_lss, vb_some]
  refine brd (fun h5 => ?_) fun h5 => hR _ c.gr
  have hx := list4_get (l := l) (i := (j : Int)) ⟨by omega, by omega⟩
  rw [Int.toNat_natCast] at hx
  refine (hl.gr c.gr).one rfl hx rfl rfl ?_
  have hwa : wAt (wsF g 40) (rt j) = some (g (8 * j + 3)) := by
    rw [wsF_at (by unfold rt; omega)]
    congr 2
  refine Jn2.at (fun w7 ok h' => ∃ r, w7 = at0 r ∧ ok = .bool true ∧ Cx (fun _ => False) h h' [rVar EMd r1 u, rVar EW r (g (8 * j + 3))]) ?_ ?_
  · rw [mM_of (i := 0) c rfl, vb_some]
    refine at_fork cs (c.va (i := 0) rfl) (hs.gr c.gr) ⟨by omega, by omega⟩ (by rw [wsF_len]; omega) fun r h6 c2 => ?_
    rw [hwa] at c2 ⊢
    exact ⟨r, rfl, rfl, c.frame0 c2⟩
  · rintro w7 ok h6 ⟨r, rfl, rfl, c⟩
    refine .here ?_
    refine vb (v := .bool false) rfl ?_
    rw [br_false]
    refine (c.va (i := 1) rfl).fld (j := 0) rfl ?_
    rw [H.at' j (by omega), show bin .neq (.int .i64 (l j)) (.int .i64 (l j)) = some (.bool false) by rw [bin_neq]; simp, vb_some]
    dsimp only
    rw [br_false, bin_add, vb_some, wrS (by omega)]
    exact hagain (j + 1) _ _ ⟨rfl, by omega, c.drop (L := [_]) (L' := [_])⟩ (by omega)
end Go.En
namespace Go.En
open Prog Spc Go.Sort

variable {S : Sys} {I : Ids} {h h0 h' : Hp} {F F0 : Fp} {R : Value → Hp → Prop} {L : List Res} {s : Value} {σ τ : Spc}

structure CsC4 (S : Sys) (I : Ids) : Prop extends CsC3 S I where
  words32 : ∀ {l : Nat → Int} {h R}, (∀ i, i < 4 → R64 (l i)) → (∀ u h', Cx (fun _ => False) h h' [rSl EW (sV u) (wsF (gC l) 40)] → R (mM u) h') → S.C I.f_simulcastlaw32_words [.agg ⟨(EAr .i64 4).c l⟩] h R
  is32 : ∀ {u : MS} {g : Nat → W3} {l : Nat → Int} {k : Nat} {w : Value} {h R}, Cn g l k → Sl EW h (sV u) (wsF g 40) → Sl EI1 h w (list4 l) → (∀ h', Gr h h' → R (.bool true) h') → S.C I.f_simulcastlaw32_is [mM u, w] h R
def l5 (i : Nat) : Int := if i = 0 then 5 else 0
theorem l5_R : ∀ i, i < 4 → R64 (l5 i) := fun i _ => by unfold l5; split <;> exact ⟨by decide, by decide⟩
theorem K_awake32 (cs : CsC4 S I) (hR : ∀ h', Gr h h' → R (.bool true) h') : F_simulcastlaw32_awake S I h R := by
  unfold F_simulcastlaw32_awake
  refine vb (v := .agg ⟨(EAr .i64 4).c l5⟩) (by kernel_rfl) ?_
  refine cs.words32 l5_R fun u h1 c => ?_
  refine c.nw EMd (none, 0, 0) rfl fun rm h2 c => ?_
  refine c.sto (n := 1) 1 rfl u rfl rfl fun h3 c => ?_
  refine c.nw EI1 0 rfl fun rv h4 c => ?_
  refine c.sto1 2 rfl 0 rfl rfl fun h5 c => ?_
  rw [mM_of (i := 1) c rfl, vb_some, vb_some]
  have H := Cn.start l5_R
  have hp : wp (cAct (C4.mk 1 0 0 3).r) (newS (knF (gC l5) 40)) fun a σ' => σ'.en = false ∧ a = (8, 0) ∧ σ'.pu = [(3, 8)] := by
    have D : Dom 40 (newS (knF (gC l5) 40)).kn := Dom.start H.ref
    have H0 : InN 40 (newS (knF (gC l5) 40)).kn (newS (knF (gC l5) 40)) := InN.start (n := 40) H.v
    have h3 := H.dom (i := 0) ⟨by decide, by decide⟩
    have e3 : rt 0 = 3 := rfl
    rw [e3] at h3
    have hg := H0.getE D (a := 3) ⟨by decide, by decide⟩
    show wp (gt 3 >>= fun v => if R64 (v + 3) then (pt 3 (v + 3) >>= fun _ => pure (v + 3, 0)) else pure (0, 9)) _ _
    rw [wp_bind, wp_gt, hg, h3]
    show wp (if R64 (l5 0 + 3) then (pt 3 (l5 0 + 3) >>= fun _ => pure (l5 0 + 3, 0)) else pure (0, 9)) _ _
    rw [if_pos (by decide), wp_bind, wp_pt]
    have H1 := H0.rds (a := 3) ⟨by decide, by decide⟩
    refine ⟨by decide, by show 0 ≤ big; decide, ?_⟩
    rw [H1.putE D ⟨by decide, by decide⟩]
    exact ⟨rfl, rfl, rfl⟩
  obtain ⟨F1, c1, hF1, up⟩ := Cx.frameL (L := [rVar EMd rm u]) (M := [rSl EW (sV u) (wsF (gC l5) 40), rVar EI1 rv 0]) (c.pick [1, 0, 2])
  refine cs.told (k := 0) (by decide) H.toGW (by decide) (fun σ hw hp => safe_cAct ⟨by decide, by decide, by decide, by decide⟩ hw hp) (acts_W cs.toCsC3) cost_cAct hp (fun a σ' hq => hq.1) c1 fun b a σ' u' h6 hq O c2 => ?_
  have c := up c2
  obtain ⟨he, rfl, hpu⟩ := hq
  refine ext0t (ext1t ?_)
  refine c.sto (n := 1) 0 rfl u' rfl rfl fun h7 c => ?_
  have hg' : wAt (wsF (nxt (gC l5) σ') 40) (rt 0) = some ⟨8, 1, 0⟩ := by
    rw [wsF_at ⟨by decide, by decide⟩]
    have e3 : (rt 0).toNat = 3 := rfl
    rw [e3]
    unfold nxt
    have hl : lastP σ'.pu ((3 : Nat) : Int) = some 8 := by rw [hpu]; rfl
    rw [hl, Option.isSome_some, if_pos rfl]
    have hv : σ'.vw ((3 : Nat) : Int) = 8 := by unfold Spc.vw; rw [hl]; rfl
    rw [hv]; rfl
  refine Jn1.at (fun w h' => ∃ r, w = at0 r ∧ Cx (fun _ => False) h h' [rVar EI1 rv 8, rVar EW r ⟨8, 1, 0⟩]) ?_ ?_
  · rw [mM_of (i := 0) c rfl, vb_some]
    refine at_fork cs.toCsC3 (K := fun w _ h' => ∃ r, w = at0 r ∧ Cx (fun _ => False) h h' [rVar EI1 rv 8, rVar EW r ⟨8, 1, 0⟩]) (c.va (i := 0) rfl) (c.sl (i := 1) rfl).sl ⟨by decide, by decide⟩ (by rw [wsF_len]; decide) fun r h8 c2 => ?_
    rw [hg'] at c2
    exact ⟨r, rfl, (c.frame0 c2).pick [2, 3]⟩
  clear c
  rintro w h8 ⟨r, rfl, c⟩
  refine .here ?_
  rw [br_true, (c.va (i := 0) rfl).one rfl, vb_some]
  refine vb (v := .bool true) rfl ?_
  rw [br_true]
  refine (c.va (i := 1) rfl).fld (j := 0) rfl ?_
  refine vb (v := .bool true) rfl ?_
  rw [br_true]
  refine (c.va (i := 1) rfl).fld (j := 1) rfl ?_
  refine vb (v := .bool true) rfl ?_
  exact hR _ c.gr

structure CsC5 (S : Sys) (I : Ids) : Prop extends CsC4 S I where
  awake32 : ∀ {h R}, (∀ h', Gr h h' → R (.bool true) h') → S.C I.f_simulcastlaw32_awake [] h R
theorem sla4 (r : Nat) : sla 4 1 (at0 r) none none none = some (.slice (some ⟨r, 0, none⟩) 4 4) := by rfl
/-- an array read as a slice -/
theorem Cx.arr4 {r i : Nat} {l : Nat → Int} (c : Cx F0 h0 h L) (hi : L[i]? = some (rVar (EAr .i64 4) r l)) : Cx F0 h0 h (L.set i (rSl EI1 (.slice (some ⟨r, 0, none⟩) 4 4) (list4 l))) := by
  refine c.conv hi fun F ⟨v, hf⟩ => ⟨.inr ⟨r, 0, 4, rfl, Nat.le_refl _, v.lt, fun j x hx k u hu => ?_, fun j hj => ?_⟩, fun q => ?_⟩
  · have hj : j < 4 := by
      have := (List.getElem?_eq_some_iff.1 hx).1
      rwa [list4_len] at this
    have hk : k = 0 := by
      have := (List.getElem?_eq_some_iff.1 hu).1
      have e : (EI1.c x).length = 1 := rfl
      omega
    subst hk
    have hx' : x = l j := by
      have : (list4 l)[j]? = some (l j) := by simp [list4, hj]
      rw [this] at hx; exact (Option.some.inj hx).symm
    have hu' : u = .int .i64 (l j) := by
      have hu : some (Value.int .i64 x) = some u := hu
      rw [← Option.some.inj hu, hx']
    subst hu'
    have e1 : EI1.n = 1 := rfl
    have := v.row j _ (EAr_get hj)
    rw [e1, Nat.mul_one, Nat.zero_add, Nat.add_zero]
    rw [Nat.zero_add] at this
    exact this
  · have e1 : EI1.n = 1 := rfl
    rw [e1, Nat.mul_one] at hj
    rw [Nat.zero_add]
    exact v.wr j hj
  · rw [hf]; simp [blk, eq_comm]

section
variable {l : Nat → Int} {acts : List C4} {b1 : Value}
theorem L_CounterActs (cs : CsC5 S I) (hl : ∀ i, i < 4 → R64 (l i)) (s1 : Sl EC4 h b1 acts) (w1 : ∀ x ∈ acts, x.ok) (hR : ∀ h', Gr h h' → R (.bool true) h') :
    F_simulcastlaw32_CounterActs S I (.agg ⟨(EAr .i64 4).c l⟩) b1 h R := by
  unfold F_simulcastlaw32_CounterActs
  refine (Cx.start0 h).nw (EAr .i64 4) l rfl fun r1 h1 c => ?_
  rw [s1.ln, vb_some, bin_gtr, vb_some]
  refine brd (fun _ => cs.awake32 fun h2 g => hR _ (Gr.trans c.gr g)) fun hlen => ?_
  refine Jn2.at (fun m5 now h' => ∃ r u, m5 = at0 r ∧ Cx (fun _ => False) h h' [rVar EMd r u, rSl EW (sV u) (wsF (gC l) 40), rSl EI1 now (list4 l)]) ?_ ?_
  · rw [(c.va (i := 0) rfl).whole (n := 4) rfl, vb_some, sla4, vb_some]
    refine ⟨?_, ?_⟩
    · refine cs.words32 hl fun u h2 c2 => ?_
      have c := c.frame0 c2
      refine c.nw EMd (none, 0, 0) rfl fun rm h3 c => ?_
      refine c.sto (n := 1) 2 rfl u rfl rfl fun h4 c => ?_
      exact ⟨rm, u, rfl, (c.arr4 (i := 0) rfl).pick [2, 1, 0]⟩
    · refine c.nw EMd (none, 0, 0) rfl fun rm h3 c => ?_
      refine ⟨(c.va (i := 0) rfl).whole (n := 4) rfl, ?_⟩
      refine cs.words32 hl fun u h2 c2 => ?_
      have c := c.frame0 c2
      refine c.sto (n := 1) 1 rfl u rfl rfl fun h4 c => ?_
      exact ⟨rm, u, rfl, (c.arr4 (i := 0) rfl).pick [1, 2, 0]⟩
  clear c
  rintro m5 now h2 ⟨rm, u, rfl, c⟩
  rw [vb_some]
  refine Lp2.by (fun (x : Nat × (Nat → W3) × (Nat → Int) × MS) v0 v1 h' => v1 = .int .i64 x.1 ∧ x.1 ≤ acts.length ∧ Cn x.2.1 x.2.2.1 x.1 ∧ Cx (fun _ => False) h h' [rVar EMd rm x.2.2.2, rSl EW (sV x.2.2.2) (wsF x.2.1 40), rSl EI1 v0 (list4 x.2.2.1)]) (fun x => acts.length - x.1) (0, gC l, l, u)
    ⟨rfl, Nat.zero_le _, Cn.start hl, c⟩ ?_
  clear c
  rintro ⟨i, g, l, u⟩ v0 v1 h3 ⟨rfl, hi, H, c⟩ again hagain
  dsimp only at *
  rw [bin_lss, vb_some]
  refine brd (fun hlt => ?_) fun _ => cs.awake32 fun h2 g => hR _ (Gr.trans c.gr g)
  have hx : acts[i]? = some acts[i] := List.getElem?_eq_getElem (by omega)
  have hok := w1 acts[i] (List.getElem_mem _)
  generalize acts[i] = x at *
  refine (s1.gr c.gr).whole rfl hx rfl ?_
  refine c.nw EC4 ⟨0, 0, 0, 0⟩ rfl fun rx h4 c => ?_
  refine c.sto 3 rfl x rfl rfl fun h5 c => ?_
  refine c.nw EI1 0 rfl fun rv h6 c => ?_
  refine c.nw EI1 0 rfl fun re h7 c => ?_
  rw [mM_of (i := 0) c rfl, vb_some, vb_some]
  have c := Cx.pack (L := [rVar EMd rm u, rSl EI1 v0 (list4 l), rSl EW (sV u) (wsF g 40)]) (M := [rVar EC4 rx x, rVar EI1 rv 0, rVar EI1 re 0]) (c.pick [0, 2, 1, 3, 4, 5])
  obtain ⟨F1, c1, hF1, up⟩ := Cx.frameL (L := [rVar EMd rm u, rSl EI1 v0 (list4 l)]) (M := [rSl EW (sV u) (wsF g 40), rStar [rVar EC4 rx x, rVar EI1 rv 0, rVar EI1 re 0]]) c
  refine cs.told (C := fun b : Int × Int => rStar [rVar EC4 rx x, rVar EI1 rv b.1, rVar EI1 re b.2]) (b0 := (0, 0)) (by decide) H.toGW (by omega) (fun σ hw hp => safe_cAct hok.r hw hp) (acts_A cs.toCsC3 hok) cost_cAct (H.act hok.r) (fun a σ' hq => hq.1) c1 fun b a σ' u' h8 hq O c2 => ?_
  have c := Cx.unpack (L := [rVar EMd rm u, rSl EI1 v0 (list4 l), rSl EW (sV u') (wsF (nxt g σ') 40)]) (up c2)
  clear c1 c2 up
  obtain ⟨he, ha, hv⟩ := hq
  have H' := H.next O hv
  refine ext0t (ext1t ?_)
  refine c.nw EMd (none, 0, 0) rfl fun rn h9 c => ?_
  refine c.sto (n := 1) 6 rfl u' rfl rfl fun h10 c => ?_
  rw [(c.va (i := 3) rfl).whole (n := 4) rfl, vb_some]
  refine c.pur (cs.cref hok) fun h11 c => ?_
  refine cs.refdo hok.r H.r64 (c.sl (i := 1) rfl).sl fun w h12 c2 => ?_
  have c := c.frame0 c2
  rw [← ha] at *
  rw [show ext 0 (.tuple #[w, .int .i64 a.1, .int .i64 a.2]) = some w from rfl, vb_some, show ext 1 (.tuple #[w, .int .i64 a.1, .int .i64 a.2]) = some (.int .i64 a.1) from rfl, vb_some, show ext 2 (.tuple #[w, .int .i64 a.1, .int .i64 a.2]) = some (.int .i64 a.2) from rfl, vb_some]
  refine Jn1.at (fun v h' => v = .bool false ∧ Cx (fun _ => False) h h' [rVar EMd rm u, rSl EW (sV u') (wsF (nxt g σ') 40), rVar EMd rn u', rSl EI1 w (list4 (cRes l x.r).1)]) ?_ ?_
  · refine vb (v := .bool false) rfl ?_
    rw [br_false, (c.va (i := 4) rfl).one rfl, vb_some, show bin .neq (.int .i64 a.1) (.int .i64 a.1) = some (.bool false) by rw [bin_neq]; simp, vb_some, br_false]
    rw [(c.va (i := 5) rfl).one rfl, vb_some, show bin .neq (.int .i64 a.2) (.int .i64 a.2) = some (.bool false) by rw [bin_neq]; simp, vb_some, br_false]
    rw [mM_of (i := 6) c rfl, vb_some]
    refine cs.is32 H' (c.sl (i := 2) rfl).sl (c.sl (i := 7) rfl).sl fun h13 gg => ?_
    have c := c.more gg
    refine vb (v := .bool false) rfl ?_
    exact ⟨rfl, c.pick [0, 2, 6, 7]⟩
  clear c
  rintro v h13 ⟨rfl, c⟩
  rw [br_false, mM_of (i := 2) c rfl, vb_some]
  refine c.sto (n := 1) 0 rfl u' rfl rfl fun h14 c => ?_
  rw [bin_add, vb_some, wrS (by omega)]
  exact hagain (i + 1, nxt g σ', (cRes l x.r).1, u') _ _ _ ⟨rfl, by dsimp only; omega, H', c.pick [0, 1, 3]⟩ (by dsimp only; omega)
end
end Go.En
namespace Go.En
open Prog Spc Go.Sort

variable {S : Sys} {I : Ids} {h h0 h' : Hp} {F F0 : Fp} {R : Value → Hp → Prop} {L : List Res} {s : Value} {σ τ : Spc}

/-! ### Sums -/
def sum4 (l : Nat → Int) : Int := l 0 + l 1 + l 2 + l 3
theorem c4 {a : Int} (h : 0 ≤ a ∧ a ≤ 3) : a = 0 ∨ a = 1 ∨ a = 2 ∨ a = 3 := by omega
theorem sum_move {l : Nat → Int} {r : C4} (hr : r.rok) (hd : r.d = 3) (hl : ∀ i, i < 4 → 0 ≤ l i) : (∀ i, i < 4 → 0 ≤ (cRes l r).1 i) ∧ sum4 (cRes l r).1 = sum4 l := by
  have hA := hl r.a.toNat (by have := hr.a; omega)
  have hB := hl r.b.toNat (by have := hr.b; omega)
  unfold cRes
  rw [if_neg (by omega), if_neg (by omega), if_neg (by omega)]
  split
  · exact ⟨hl, rfl⟩
  · split
    · exact ⟨hl, rfl⟩
    · split
      · exact ⟨hl, rfl⟩
      · split
        · refine ⟨fun i hi => ?_, ?_⟩
          · show 0 ≤ set4 (set4 l r.a (l r.a.toNat - r.n)) r.b (l r.b.toNat + r.n) i
            unfold set4
            split
            · omega
            · split
              · omega
              · exact hl i hi
          · show sum4 (set4 (set4 l r.a (l r.a.toNat - r.n)) r.b (l r.b.toNat + r.n)) = _
            rcases c4 hr.a with h1 | h1 | h1 | h1 <;> rcases c4 hr.b with h2 | h2 | h2 | h2 <;> first
              | (exfalso; omega)
              | (unfold sum4 set4; rw [h1, h2]; simp; omega)
        · exact ⟨hl, rfl⟩
section
variable {l : Nat → Int} {acts : List C4} {b1 : Value}
theorem L_CounterSums (cs : CsC5 S I) (hl : ∀ i, i < 4 → R64 (l i)) (s1 : Sl EC4 h b1 acts) (w1 : ∀ x ∈ acts, x.ok) (hR : ∀ h', Gr h h' → R (.bool true) h') :
    F_simulcastlaw32_CounterSums S I (.agg ⟨(EAr .i64 4).c l⟩) b1 h R := by
  unfold F_simulcastlaw32_CounterSums
  refine (Cx.start0 h).nw (EAr .i64 4) l rfl fun r1 h1 c => ?_
  rw [s1.ln, vb_some, bin_gtr, vb_some]
  refine brd (fun _ => cs.awake32 fun h2 g => hR _ (Gr.trans c.gr g)) fun hlen => ?_
  rw [(c.va (i := 0) rfl).whole (n := 4) rfl, vb_some]
  refine Lp1.by (fun (j : Nat) v h' => v = .int .i64 j ∧ j ≤ 4 ∧ h' = h1 ∧ ∀ i, i < j → 0 ≤ l i ∧ l i ≤ 1099511627776) (fun j => 4 - j) 0 ⟨rfl, by omega, rfl, fun i hi => absurd hi (Nat.not_lt_zero _)⟩ ?_
  rintro j v h2 ⟨rfl, hj, rfl, hb⟩ again hagain
  rw [bin_lss, vb_some]
  refine brd (fun h3 => ?_) fun h3 => ?_
  · rw [show (Value.agg ⟨(EAr IntKind.i64 4).c l⟩) = .agg ⟨(EAr .i64 4).c l⟩ from rfl, idc4 (i := j) (by omega) rfl, vb_some]
    refine Jn1.at (fun v h' => (v = .bool true ∨ v = .bool false ∧ 0 ≤ l j ∧ l j ≤ 1099511627776) ∧ h' = h2) ?_ ?_
    · rw [bin_lss, vb_some]
      refine brd (fun h4 => ⟨.inl rfl, rfl⟩) fun h4 => ?_
      rw [bin_gtr, vb_some]
      by_cases h5 : (1099511627776 : Int) < l j
      · rw [decide_eq_true h5]; exact ⟨.inl rfl, rfl⟩
      · rw [decide_eq_false h5]; exact ⟨.inr ⟨rfl, by omega, by omega⟩, rfl⟩
    rintro v h4 ⟨hv | ⟨hv, h5, h6⟩, rfl⟩
    · subst hv
      rw [br_true]
      exact cs.awake32 fun h2 g => hR _ (Gr.trans c.gr g)
    · subst hv
      rw [br_false, bin_add, vb_some, wrS (by omega)]
      refine hagain (j + 1) _ _ ⟨rfl, by omega, rfl, fun i hi => ?_⟩ (by omega)
      by_cases e : i = j
      · subst e; exact ⟨h5, h6⟩
      · exact hb i (by omega)
  have e4 : j = 4 := by omega
  subst e4
  clear hagain again h3 hj
  have hs0 : sum4 l ≤ 4398046511104 := by
    have h0 := hb 0 (by omega); have h1 := hb 1 (by omega); have h2 := hb 2 (by omega); have h3 := hb 3 (by omega)
    unfold sum4; omega
  rw [(c.va (i := 0) rfl).whole (n := 4) rfl, vb_some]
  refine cs.words32 hl fun u h3 c2 => ?_
  have c := c.frame0 c2
  refine c.nw EMd (none, 0, 0) rfl fun rm h4 c => ?_
  refine c.sto (n := 1) 2 rfl u rfl rfl fun h5 c => ?_
  rw [vb_some]
  refine Lp1.by (fun (x : Nat × (Nat → W3) × (Nat → Int) × MS) v1 h' => v1 = .int .i64 x.1 ∧ x.1 ≤ acts.length ∧ Cn x.2.1 x.2.2.1 x.1 ∧ (∀ i, i < 4 → 0 ≤ x.2.2.1 i) ∧ sum4 x.2.2.1 = sum4 l ∧
      Cx (fun _ => False) h h' [rVar (EAr .i64 4) r1 l, rVar EMd rm x.2.2.2, rSl EW (sV x.2.2.2) (wsF x.2.1 40)]) (fun x => acts.length - x.1) (0, gC l, l, u)
    ⟨rfl, Nat.zero_le _, Cn.start hl, fun i hi => (hb i hi).1, rfl, c.pick [0, 2, 1]⟩ ?_
  clear c c2
  rintro ⟨i, g, k, u⟩ v1 h6 ⟨rfl, hi, H, hk, hsum, c⟩ again hagain
  dsimp only at *
  rw [bin_lss, vb_some]
  refine brd (fun hlt => ?_) fun hge => ?_
  · have hx : acts[i]? = some acts[i] := List.getElem?_eq_getElem (by omega)
    have hok := w1 acts[i] (List.getElem_mem _)
    generalize acts[i] = x at *
    refine (s1.gr c.gr).whole rfl hx rfl ?_
    refine c.nw EC4 ⟨0, 0, 0, 0⟩ rfl fun rx h4 c => ?_
    refine c.sto 3 rfl x rfl rfl fun h5 c => ?_
    have hok' : ({ x with d := 3 } : C4).ok := ⟨by show (0 : Int) ≤ 3 ∧ (3 : Int) ≤ 255; omega, hok.a, hok.b, hok.n⟩
    refine c.stof 3 rfl (j := 0) { x with d := 3 } rfl (by decide) rfl fun h6 c => ?_
    rw [mM_of (i := 1) c rfl, vb_some, vb_some]
    obtain ⟨F1, c1, hF1, up⟩ := Cx.frameL (L := [rVar (EAr .i64 4) r1 l, rVar EMd rm u]) (M := [rSl EW (sV u) (wsF g 40), rVar EC4 rx { x with d := 3 }]) c
    refine cs.told (C := fun _ : Unit => rVar EC4 rx { x with d := 3 }) (b0 := ()) (by decide) H.toGW (by omega) (fun σ hw hp => safe_cAct hok'.r hw hp) (acts_S cs.toCsC3 hok') cost_cAct (H.act hok'.r) (fun a σ' hq => hq.1) c1 fun b a σ' u' h8 hq O c2 => ?_
    have c := up c2
    clear c1 c2 up
    obtain ⟨he, ha, hv⟩ := hq
    have H' := H.next O hv
    obtain ⟨m1, m2⟩ := sum_move (l := k) hok'.r rfl hk
    refine ext0t (ext1t ?_)
    refine c.nw EMd (none, 0, 0) rfl fun rn h9 c => ?_
    refine c.sto (n := 1) 4 rfl u' rfl rfl fun h10 c => ?_
    refine vb (v := .bool false) rfl ?_
    rw [br_false, mM_of (i := 4) c rfl, vb_some]
    refine c.sto (n := 1) 1 rfl u' rfl rfl fun h11 c => ?_
    rw [bin_add, vb_some, wrS (by omega)]
    exact hagain (i + 1, nxt g σ', (cRes k ({ x with d := 3 } : C4).r).1, u') _ _ ⟨rfl, by dsimp only; omega, H', m1, m2.trans hsum, c.pick [0, 1, 2]⟩ (by dsimp only; omega)
  · let ps : Nat → Int := fun j => if j = 0 then 0 else if j = 1 then k 0 else if j = 2 then k 0 + k 1 else if j = 3 then k 0 + k 1 + k 2 else sum4 k
    have hk0 := hk 0 (by omega); have hk1 := hk 1 (by omega); have hk2 := hk 2 (by omega); have hk3 := hk 3 (by omega)
    have hse : sum4 k = k 0 + k 1 + k 2 + k 3 := rfl
    refine Lp2.by (fun (j : Nat) v0 v1 h' => v0 = .int .i64 (ps j) ∧ v1 = .int .i64 j ∧ j ≤ 4 ∧ Cx (fun _ => False) h h' [rVar (EAr .i64 4) r1 l, rVar EMd rm u, rSl EW (sV u) (wsF g 40)]) (fun j => 4 - j) 0 ⟨rfl, rfl, by omega, c⟩ ?_
    clear c
    rintro j v0 v1 h7 ⟨rfl, rfl, hj, c⟩ again2 hagain2
    rw [bin_lss, vb_some]
    refine brd (fun h8 => ?_) fun h8 => ?_
    · have hwa : wAt (wsF g 40) (rt j) = some (g (8 * j + 3)) := by
        rw [wsF_at (by unfold rt; omega)]
        congr 2
      refine Jn1.at (fun w7 h' => ∃ r, w7 = at0 r ∧ Cx (fun _ => False) h h' [rVar (EAr .i64 4) r1 l, rVar EMd rm u, rSl EW (sV u) (wsF g 40), rVar EW r (g (8 * j + 3))]) ?_ ?_
      · rw [mM_of (i := 1) c rfl, vb_some]
        refine at_fork cs.toCsC3 (K := fun w _ h' => ∃ r, w = at0 r ∧ Cx (fun _ => False) h h' [rVar (EAr .i64 4) r1 l, rVar EMd rm u, rSl EW (sV u) (wsF g 40), rVar EW r (g (8 * j + 3))]) (c.va (i := 1) rfl) (c.sl (i := 2) rfl).sl ⟨by omega, by omega⟩ (by rw [wsF_len]; decide) fun r h9 c2 => ?_
        rw [hwa] at c2
        exact ⟨r, rfl, c.frame0 c2⟩
      clear c
      rintro w7 h9 ⟨r, rfl, c⟩
      have hkj := hk j (by omega)
      refine (c.va (i := 3) rfl).fld (j := 0) rfl ?_
      rw [H.at' j (by omega), show bin .lss (.int .i64 (k j)) (.int .i64 0) = some (.bool (decide (k j < 0))) from bin_lss, vb_some]
      refine brF (by omega) ?_
      refine (c.va (i := 3) rfl).fld (j := 0) rfl ?_
      rw [H.at' j (by omega)]
      have hps : ps j + k j = ps (j + 1) := by
        have hj4 : j = 0 ∨ j = 1 ∨ j = 2 ∨ j = 3 := by omega
        rcases hj4 with rfl | rfl | rfl | rfl
        · show 0 + k 0 = k 0; omega
        · rfl
        · rfl
        · rfl
      have hpr : -9223372036854775808 ≤ ps j + k j ∧ ps j + k j ≤ 9223372036854775807 := by
        have hj4 : j = 0 ∨ j = 1 ∨ j = 2 ∨ j = 3 := by omega
        rcases hj4 with rfl | rfl | rfl | rfl
        · show _ ≤ 0 + k 0 ∧ 0 + k 0 ≤ _; omega
        · show _ ≤ k 0 + k 1 ∧ k 0 + k 1 ≤ _; omega
        · show _ ≤ k 0 + k 1 + k 2 ∧ k 0 + k 1 + k 2 ≤ _; omega
        · show _ ≤ k 0 + k 1 + k 2 + k 3 ∧ k 0 + k 1 + k 2 + k 3 ≤ _; omega
      rw [show bin .add (.int .i64 (ps j)) (.int .i64 (k j)) = some (.int .i64 (IntKind.i64.wrap (ps j + k j))) from bin_add, vb_some, wr64 hpr, hps, bin_add, vb_some, wrS (by omega)]
      exact hagain2 (j + 1) _ _ _ ⟨rfl, rfl, by omega, c.drop (L := [_, _, _]) (L' := [_])⟩ (by omega)
    · have e4 : j = 4 := by omega
      subst e4
      refine .here ?_
      refine cs.awake32 fun h9 gg => ?_
      have c := c.more gg
      rw [br_true]
      have b0 := hb 0 (by omega); have b1 := hb 1 (by omega); have b2 := hb 2 (by omega); have b3 := hb 3 (by omega)
      refine (c.va (i := 0) rfl).ix (i := 0) rfl (by omega) ?_
      refine (c.va (i := 0) rfl).ix (i := 1) rfl (by omega) ?_
      rw [bin_add, vb_some, wr64 (by omega)]
      refine (c.va (i := 0) rfl).ix (i := 2) rfl (by omega) ?_
      rw [bin_add, vb_some, wr64 (by omega)]
      refine (c.va (i := 0) rfl).ix (i := 3) rfl (by omega) ?_
      rw [bin_add, vb_some, wr64 (by omega)]
      have e : ps 4 = l 0 + l 1 + l 2 + l 3 := hsum
      rw [e]
      refine vb (v := .bool true) (by rw [bin_eql]; simp) ?_
      exact hR _ c.gr
end

/-! ### A space that knows the counters -/
def kn4 (l : Nat → Int) (j : Nat) : List (Int × W3) := (List.range j).map fun (i : Nat) => (rt i, ⟨l i, 0, 0⟩)
theorem kn4_nodup (l : Nat → Int) (j : Nat) : ((kn4 l j).map (·.1)).Nodup := by
  have : (kn4 l j).map (·.1) = (List.range j).map fun (i : Nat) => rt i := by unfold kn4; rw [List.map_map]; rfl
  rw [this]
  unfold List.Nodup
  rw [List.pairwise_map]
  have key : ∀ {a b : Nat}, a ≠ b → rt (a : Int) ≠ rt (b : Int) := fun {a b} hne e => by
    unfold rt at e
    omega
  exact List.Pairwise.imp (R := fun a b : Nat => a ≠ b) key List.nodup_range
theorem kn4_look {l : Nat → Int} {j : Nat} {i : Nat} (hi : i < j) : lookA (kn4 l j) (rt i) = some ⟨l i, 0, 0⟩ := by
  rw [← lookA_mem (kn4_nodup l j)]
  exact List.mem_map.2 ⟨i, List.mem_range.2 hi, rfl⟩
theorem kn4_upd {l : Nat → Int} {j : Nat} : updA (kn4 l j) (rt j) ⟨l j, 0, 0⟩ = kn4 l (j + 1) := by
  rw [updA_end]
  · unfold kn4; rw [List.range_succ, List.map_append]; rfl
  · unfold lookA
    rw [Option.map_eq_none_iff, List.find?_eq_none]
    intro p hp
    obtain ⟨i, hi, rfl⟩ := List.mem_map.1 hp
    have := List.mem_range.1 hi
    simp only [beq_iff_eq]
    unfold rt; omega
abbrev D4 : Int → Prop := fun a => ∃ i : Int, 0 ≤ i ∧ i ≤ 3 ∧ a = rt i
/-- the space's counters, c writes behind -/
def Sc4 (l0 l : Nat → Int) (σ : Spc) (c : Nat) : Prop := ∃ m, Sm D4 (newS (kn4 l0 4)) σ m c ∧ ∀ i : Nat, i < 4 → m (rt i) = l i
theorem Sc4.start {l : Nat → Int} (hl : ∀ i, i < 4 → R64 (l i)) : Sc4 l l (newS (kn4 l 4)) 0 := by
  have hv : ∀ p ∈ kn4 l 4, R64 p.2.v := fun p hp => by
    obtain ⟨i, hi, rfl⟩ := List.mem_map.1 hp
    exact hl i (List.mem_range.1 hi)
  have hkn : ∀ i : Nat, i < 4 → (newS (kn4 l 4)).kn (rt i) = some ⟨l i, 0, 0⟩ := fun i hi => by
    show (lookA (kn4 l 4) (rt i)).filter _ = _
    rw [kn4_look hi]; rfl
  refine ⟨_, Sm.start (fun a ⟨i, h0, h1, e⟩ => ?_) rfl (newS_wf hv), fun i hi => ?_⟩
  · have := hkn i.toNat (by omega)
    rw [Int.toNat_of_nonneg h0] at this
    rw [e, this]; rfl
  · unfold Spc.vw
    show (none : Option Int).getD _ = _
    rw [hkn i hi]; rfl
section
variable {l0 l : Nat → Int} {c : Nat} {a b n : Int}
theorem D4_rt (ha : 0 ≤ a ∧ a ≤ 3) : D4 (rt a) := ⟨a, ha.1, ha.2, rfl⟩
theorem Sc4.len (H : Sc4 l0 l σ c) : σ.pu.length ≤ c := by
  obtain ⟨m, S, _⟩ := H
  have := S.len
  have e : (newS (kn4 l0 4)).pu.length = 0 := rfl
  omega
theorem st_get (H : Sc4 l0 l σ c) (ha : 0 ≤ a ∧ a ≤ 3) : wp (gt (rt a)) σ fun v σ' => v = l a.toNat ∧ Sc4 l0 l σ' c := by
  obtain ⟨m, S, hm⟩ := H
  rw [wp_gt, S.get (D4_rt ha)]
  exact ⟨rt_at hm ha, m, S.rds _, hm⟩
theorem st_set (H : Sc4 l0 l σ c) (ha : 0 ≤ a ∧ a ≤ 3) (hn : R64 n) (hc : c ≤ 100) : wp (cSet (rt a) n) σ fun v σ' => v = l a.toNat ∧ Sc4 l0 (set4 l a n) σ' (c + 1) := by
  obtain ⟨m, S, hm⟩ := H
  unfold cSet
  refine wp_get S (D4_rt ha) fun σ1 S => ?_
  refine wp_put S (D4_rt ha) hn (by show 0 + c ≤ big; unfold big; omega) fun σ2 S => ?_
  exact ⟨rt_at hm ha, _, S, upd_set4 hm⟩
theorem st_add (H : Sc4 l0 l σ c) (ha : 0 ≤ a ∧ a ≤ 3) (hc : c ≤ 100) : wp (cAdd (rt a) n) σ fun r σ' => (R64 (l a.toNat + n) ∧ r = (l a.toNat + n, 0) ∧ Sc4 l0 (set4 l a (l a.toNat + n)) σ' (c + 1)) ∨ (¬ R64 (l a.toNat + n) ∧ r = (0, 9) ∧ Sc4 l0 l σ' c) := by
  obtain ⟨m, S, hm⟩ := H
  have e := rt_at hm ha
  unfold cAdd
  refine wp_get S (D4_rt ha) fun σ1 S => ?_
  rw [e]
  by_cases hf : R64 (l a.toNat + n)
  · rw [if_pos hf]
    refine wp_put S (D4_rt ha) hf (by show 0 + c ≤ big; unfold big; omega) fun σ2 S => ?_
    exact .inl ⟨hf, rfl, _, S, upd_set4 hm⟩
  · rw [if_neg hf]
    exact .inr ⟨hf, rfl, m, S, hm⟩
theorem st_move (H : Sc4 l0 l σ c) (ha : 0 ≤ a ∧ a ≤ 3) (hb : 0 ≤ b ∧ b ≤ 3) (hn : R64 n) (hc : c ≤ 100) : wp (cMove (rt a) (rt b) n) σ fun e σ' =>
    (e ≠ 0 ∧ (n < 0 ∨ l a.toNat < n ∨ a ≠ b ∧ ¬ R64 (l b.toNat + n)) ∧ Sc4 l0 l σ' c) ∨ (e = 0 ∧ 0 ≤ n ∧ n ≤ l a.toNat ∧ (a = b ∧ Sc4 l0 l σ' c ∨ a ≠ b ∧ R64 (l b.toNat + n) ∧ Sc4 l0 (set4 (set4 l a (l a.toNat - n)) b (l b.toNat + n)) σ' (c + 2))) := by
  obtain ⟨m, S, hm⟩ := H
  have ea := rt_at hm ha
  have eb := rt_at hm hb
  unfold cMove
  by_cases h1 : n < 0
  · rw [if_pos h1]; exact .inl ⟨(by decide : (4 : Int) ≠ 0), .inl h1, m, S, hm⟩
  rw [if_neg h1]
  refine wp_get S (D4_rt ha) fun σ1 S => ?_
  rw [ea]
  by_cases h2 : l a.toNat < n
  · rw [if_pos h2]; exact .inl ⟨(by decide : (8 : Int) ≠ 0), .inr (.inl h2), m, S, hm⟩
  rw [if_neg h2]
  by_cases h3 : a = b
  · rw [if_pos (by rw [h3])]; exact .inr ⟨rfl, by omega, by omega, .inl ⟨h3, m, S, hm⟩⟩
  rw [if_neg (by unfold rt; omega)]
  refine wp_get S (D4_rt hb) fun σ2 S => ?_
  rw [eb]
  have hR := S.rg (rt a)
  rw [ea] at hR
  by_cases hf : R64 (l b.toNat + n)
  · rw [if_pos hf]
    refine wp_put S (D4_rt ha) ⟨by omega, by omega⟩ (by show 0 + c ≤ big; unfold big; omega) fun σ3 S => ?_
    refine wp_put S (D4_rt hb) hf (by show 0 + (c + 1) ≤ big; unfold big; omega) fun σ4 S => ?_
    exact .inr ⟨rfl, by omega, by omega, .inr ⟨h3, hf, _, S, upd_set4 (upd_set4 hm)⟩⟩
  · rw [if_neg hf]; exact .inl ⟨(by decide : (9 : Int) ≠ 0), .inr (.inr ⟨h3, hf⟩), m, S, hm⟩
end
/-- a space over the counters is made -/
theorem known4 {r1 : Nat} {l : Nat → Int} {Z : Hp → Prop} {K : Value → Hp → Prop} (cs : CsC5 S I) (hl : ∀ i, i < 4 → R64 (l i)) (hv : Va (EAr .i64 4) h r1 l) (hK : ∀ s h', Cx (fun _ => False) h h' [rSpace s (newS (kn4 l 4))] → K s h') :
    Eb (mmk h) fun v14 h2 =>
    Vb (lda 4 (at0 r1) h2) fun v15 =>
    Lp1 (Value.int IntKind.i64 0) h2 fun v16 h3 again0 =>
    Vb (bin .lss v16 (Value.int IntKind.i64 4)) fun v17 =>
    Br v17 (
      Vb (idc 4 1 v15 v16) fun v19 =>
      S.C I.f_simulcastlaw32_root [v16] h3 fun v22 h4 =>
      Vb (bldS [(0, 1), (1, 1), (2, 1)] #[Value.int IntKind.i64 0, Value.int IntKind.u32 0, Value.int IntKind.u32 0] [(0, v19)]) fun v24 =>
      Sb (mup (.int .i64) v14 v22 v24 h4) fun h5 =>
      Vb (bin .add v16 (Value.int IntKind.i64 1)) fun v25 =>
      again0 v25 h5) (
      S.C I.f_space_New [v14] h3 fun v27 h6 =>
      Vb (pos? (eqP v27 (Value.pointer none))) fun v29 =>
      Br v29 (Z h6) (K v27 h6)) := by
  have c := Cx.start0 h
  refine c.mmk .i64 mW fun m h1 c => ?_
  rw [show lda 4 (at0 r1) h1 = some (.agg ⟨(EAr .i64 4).c l⟩) from (hv.gr c.gr).whole rfl, vb_some]
  refine Lp1.by (fun (j : Nat) v h' => v = .int .i64 j ∧ j ≤ 4 ∧ Cx (fun _ => False) h h' [rMp .i64 mW (.map (some m)) (kn4 l j)]) (fun j => 4 - j) 0 ⟨rfl, by omega, c⟩ ?_
  clear c
  rintro j v h2 ⟨rfl, hj, c⟩ again hagain
  rw [bin_lss, vb_some]
  refine brd (fun h3 => ?_) fun h3 => ?_
  · rw [idc4 (i := j) (by omega) rfl, vb_some]
    refine c.pur (cs.root ⟨by omega, by omega⟩) fun h4 c => ?_
    rw [bldW0, vb_some]
    refine c.mup 0 rfl (rt j) ⟨l j, 0, 0⟩ rfl fun h5 c => ?_
    rw [kn4_upd] at c
    rw [bin_add, vb_some, wrS (by omega)]
    exact hagain (j + 1) _ _ ⟨rfl, by omega, c⟩ (by omega)
  · have e4 : j = 4 := by omega
    subst e4
    refine c.cNew cs.toCsD 0 rfl (kn4_nodup _ _) (fun p hp => by obtain ⟨i, hi, rfl⟩ := List.mem_map.1 hp; exact hl i (List.mem_range.1 hi)) fun s h4 c => ?_
    rw [(c.eqP0 (i := 1) rfl), pos_some, vb_some, br_false]
    exact hK s _ (c.pick [1])
theorem set4_same {l : Nat → Int} {a v : Int} (ha : 0 ≤ a ∧ a ≤ 3) : set4 l a v a.toNat = v := by
  unfold set4; rw [if_pos (Int.toNat_of_nonneg ha.1)]
theorem set4_ne {l : Nat → Int} {a b v : Int} (hb : 0 ≤ b ∧ b ≤ 3) (h : b ≠ a) : set4 l a v b.toNat = l b.toNat := by
  unfold set4; rw [if_neg (by rw [Int.toNat_of_nonneg hb.1]; exact h)]
theorem eqI (a : Int) : bin .eql (.int .i64 a) (.int .i64 a) = some (.bool true) := by rw [bin_eql]; simp
theorem neI (a : Int) : bin .neq (.int .i64 a) (.int .i64 a) = some (.bool false) := by rw [bin_neq]; simp

theorem L_CounterBack {l : Nat → Int} {n : Int} (cs : CsC5 S I) (hl : ∀ i, i < 4 → R64 (l i)) (hn : R64 n) (hR : ∀ h', Gr h h' → R (.bool true) h') :
    F_simulcastlaw32_CounterBack S I (.agg ⟨(EAr .i64 4).c l⟩) (.int .i64 n) h R := by
  unfold F_simulcastlaw32_CounterBack
  refine (Cx.start0 h).nw (EAr .i64 4) l rfl fun r1 h1 c => ?_
  refine known4 cs hl (c.va (i := 0) rfl) fun s h2 c2 => ?_
  have c := c.frame0 c2
  clear c2
  have H := Sc4.start hl
  generalize newS (kn4 l 4) = σ0 at *
  refine c.pur (cs.root ⟨by decide, by decide⟩) fun h3 c => ?_
  refine c.last cs.cset 1 rfl (st_set H ⟨by decide, by decide⟩ hn (by decide)) fun old σ h4 c hq => ?_
  obtain ⟨rfl, H⟩ := hq
  unfold uI
  refine Jn1.at (fun v h' => v = .bool false ∧ ∃ σ, Sc4 l (set4 (set4 l 1 n) 1 (l (1 : Int).toNat)) σ 2 ∧ Cx (fun _ => False) h h' [rVar (EAr .i64 4) r1 l, rSpace s σ]) ?_ ?_
  · refine c.pur (cs.root ⟨by decide, by decide⟩) fun h5 c => ?_
    refine c.last cs.cget 1 rfl (st_get H ⟨by decide, by decide⟩) fun v σ h6 c hq => ?_
    obtain ⟨ev, H⟩ := hq
    rw [set4_same ⟨by decide, by decide⟩] at ev
    rw [ev]
    unfold uI
    rw [neI, vb_some, br_false]
    refine c.pur (cs.root ⟨by decide, by decide⟩) fun h7 c => ?_
    refine c.last cs.cset 1 rfl (st_set H ⟨by decide, by decide⟩ (hl _ (by decide)) (by decide)) fun v σ h8 c hq => ?_
    obtain ⟨ev, H⟩ := hq
    rw [set4_same ⟨by decide, by decide⟩] at ev
    rw [ev]
    unfold uI
    rw [neI, vb_some, br_false]
    refine (c.va (i := 0) rfl).ix (i := 1) rfl (by omega) ?_
    refine vb (v := .bool false) (neI _) ?_
    exact ⟨rfl, σ, H, c⟩
  clear c H
  rintro v h5 ⟨rfl, σ, H, c⟩
  have e0 : (set4 (set4 l 1 n) 1 (l (1 : Int).toNat)) (0 : Int).toNat = l 0 := by
    rw [set4_ne ⟨by decide, by decide⟩ (by decide), set4_ne ⟨by decide, by decide⟩ (by decide)]; rfl
  generalize hk : set4 (set4 l 1 n) 1 (l (1 : Int).toNat) = k at *
  rw [br_false]
  refine c.pur (cs.root ⟨by decide, by decide⟩) fun h6 c => ?_
  refine c.last (cs.cadd hn) 1 rfl (st_add H ⟨by decide, by decide⟩ (by decide)) fun r σ h7 c hq => ?_
  rw [e0] at hq
  rcases hq with ⟨hf, rfl, H⟩ | ⟨hf, rfl, H⟩
  · unfold uE
    refine ext0t (ext1t ?_)
    refine vb (v := .bool false) rfl ?_
    rw [br_false]
    have hl0 := hl 0 (by omega)
    refine Jn1.at (fun v h' => h' = h7 ∧ ∃ bb : Bool, v = .bool bb ∧ (bb = false → n ≠ -9223372036854775808)) ?_ ?_
    · rw [uno_neg, vb_some, bin_eql, vb_some]
      refine brd (fun h8 => ?_) fun h8 => ?_
      · rw [bin_neq, vb_some]
        refine ⟨rfl, _, rfl, fun e => ?_⟩
        have e := of_decide_eq_false e
        omega
      · refine ⟨rfl, false, rfl, fun _ e => h8 ?_⟩
        rw [e]; decide
    rintro v h8 ⟨rfl, bb, rfl, hb⟩
    cases bb with
    | true => rw [br_true]; exact cs.awake32 fun h2 g => hR _ (Gr.trans c.gr g)
    | false =>
      have hb := hb rfl
      rw [br_false]
      refine c.pur (cs.root ⟨by decide, by decide⟩) fun h9 c => ?_
      rw [uno_neg, vb_some, wr64 (by omega)]
      refine c.last (cs.cadd (n := 0 - n) ⟨by omega, by omega⟩) 1 rfl (st_add (n := 0 - n) H ⟨by decide, by decide⟩ (by decide)) fun r σ h10 c hq => ?_
      rw [set4_same ⟨by decide, by decide⟩] at hq
      have hr : r = (l 0, 0) := by
        rcases hq with ⟨_, h, _⟩ | ⟨h, _⟩
        · rw [h]; congr 1; omega
        · exact absurd ⟨by omega, by omega⟩ h
      subst hr
      unfold uE
      refine ext0t (ext1t ?_)
      refine .here ?_
      refine cs.awake32 fun h11 gg => ?_
      have c := c.more gg
      rw [br_true]
      refine vb (v := .bool true) rfl ?_
      rw [br_true, bin_sub, vb_some, wr64 (by omega), show l 0 + n - n = l 0 by omega]
      refine (c.va (i := 0) rfl).ix (i := 0) rfl (by omega) ?_
      refine vb (eqI _) ?_
      rw [br_true]
      refine (c.va (i := 0) rfl).ix (i := 0) rfl (by omega) ?_
      refine vb (eqI _) ?_
      exact hR _ c.gr
  · unfold uE
    refine ext0t (ext1t ?_)
    refine vb (v := .bool true) rfl ?_
    rw [br_true]
    refine .here ?_
    refine cs.awake32 fun h8 gg => ?_
    have c := c.more gg
    rw [br_true]
    refine vb (v := .bool true) rfl ?_
    rw [br_true]
    have hl1 : ∀ {h' L}, Cx (fun _ => False) h h' L → L[0]? = some (rVar (EAr .i64 4) r1 l) → ldc (.pointer (some ⟨r1, 0 + 0, none⟩)) h' = some (.int .i64 (l 0)) := fun c hi => (c.va hi).row.ldc (EAr_get (by omega))
    rw [show ixa 4 1 (at0 r1) (.int .i64 0) = some (.pointer (some ⟨r1, 0 + 0, none⟩)) from ixa_at (i := 0) rfl (by omega) 0, vb_some, hl1 c rfl, vb_some]
    refine c.pur (cs.root ⟨by decide, by decide⟩) fun h9 c => ?_
    refine ⟨hl1 c rfl, ?_⟩
    refine c.last cs.cget 1 rfl (st_get H ⟨by decide, by decide⟩) fun v σ h10 c hq => ?_
    obtain ⟨rfl, _⟩ := hq
    refine ⟨hl1 c rfl, ?_⟩
    unfold uI
    rw [e0]
    refine vb (eqI _) ?_
    exact hR _ c.gr
end Go.En
namespace Go.En
open Prog Spc Go.Sort

variable {S : Sys} {I : Ids} {h h0 h' : Hp} {F F0 : Fp} {R : Value → Hp → Prop} {L : List Res} {s : Value} {σ τ : Spc}

theorem cpt0 : (cpt (sorted (([] : List (Int × Int)).map (·.1)))).length = 0 := by
  have := cpt_len (sorted (([] : List (Int × Int)).map (·.1)))
  rw [sorted_len] at this
  simpa using this
section
variable {A : Int → Prop} {r : C4}
theorem wd_cAct (hr : r.rok) (hw : σ.wf) (hp : σ.pu = []) (ha : A (rt r.a)) (hb : r.d = 3 → A (rt r.b)) : wp (cAct r) σ fun e σ' => Wld A σ σ' 2 ∧ (e.2 ≠ 0 → σ'.pu = []) := by
  have H : Wld A σ σ 0 := Wld.start hw
  have hl : σ.pu.length + 0 + 10 ≤ big := by rw [hp]; decide
  have hn := hr.n; have hd := hr.d
  unfold cAct
  split
  · exact wd_get H ha fun v σ1 hv e H => ⟨H.mono (by omega), fun _ => e.trans hp⟩
  · split
    · unfold cAdd
      refine wd_get H ha fun v σ1 hv e H => ?_
      split
      · exact wd_put H ha (by assumption) (by omega) fun σ2 H => ⟨H.mono (by omega), fun h => absurd rfl h⟩
      · exact ⟨H.mono (by omega), fun _ => e.trans hp⟩
    · split
      · unfold cSet
        rw [wp_bind]
        refine wd_get H ha fun v σ1 hv _ H => ?_
        exact wd_put H ha hn (by omega) fun σ2 H => ⟨H.mono (by omega), fun h => absurd rfl h⟩
      · have hb := hb (by omega)
        unfold cMove
        rw [wp_bind]
        split
        · exact ⟨H.mono (by omega), fun _ => hp⟩
        · refine wd_get H ha fun x σ1 hx e1 H => ?_
          split
          · exact ⟨H.mono (by omega), fun _ => e1.trans hp⟩
          · split
            · exact ⟨H.mono (by omega), fun _ => e1.trans hp⟩
            · refine wd_get H hb fun y σ2 hy e2 H => ?_
              split
              · refine wd_put H ha ⟨by omega, by omega⟩ (by omega) fun σ3 H => ?_
                exact wd_put H hb (by assumption) (by omega) fun σ4 H => ⟨H.mono (by omega), fun h => absurd rfl h⟩
              · exact ⟨H.mono (by omega), fun _ => (e2.trans e1).trans hp⟩
end
theorem lB {r1 : Nat} {l : Nat → Int} {i : Nat} (hi : i < 4) (c : Cx F0 h0 h L) {j : Nat} (hj : L[j]? = some (rVar (EAr .i64 4) r1 l)) : ldc (.pointer (some ⟨r1, 0 + i, none⟩)) h = some (.int .i64 (l i)) := (c.va hj).row.ldc (EAr_get hi)

theorem L_CounterOwn {l : Nat → Int} {x : C4} (cs : CsC5 S I) (hl : ∀ i, i < 4 → R64 (l i)) (hx : x.ok) (hR : ∀ h', Gr h h' → R (.bool true) h') :
    F_simulcastlaw32_CounterOwn S I (.agg ⟨(EAr .i64 4).c l⟩) (.agg ⟨EC4.c x⟩) h R := by
  unfold F_simulcastlaw32_CounterOwn
  have hr := hx.r
  refine (Cx.start0 h).nw (EAr .i64 4) l rfl fun r1 h1 c => ?_
  refine c.nw EC4 x rfl fun rx h2 c => ?_
  refine known4 cs hl (c.va (i := 0) rfl) fun s h2 c2 => ?_
  have c := c.frame0 c2
  clear c2
  have G0 : Gd (newS (kn4 l 4)) := Gd.new fun p hp => by
    obtain ⟨i, hi, rfl⟩ := List.mem_map.1 hp
    exact hl i (List.mem_range.1 hi)
  have hp0 : (newS (kn4 l 4)).pu = [] := rfl
  have hr0 : (newS (kn4 l 4)).rd = [] := rfl
  generalize newS (kn4 l 4) = σ0 at *
  rw [show lda 4 (at0 rx) h2 = some (mC x) from (c.va (i := 1) rfl).whole rfl, vb_some]
  let A : Int → Prop := fun a => a = rt x.r.a ∨ x.r.d = 3 ∧ a = rt x.r.b
  refine c.last (cs.cdo hx) 2 rfl (wp_gd G0 (wp_cost cost_cAct (wd_cAct (A := A) hr G0.wf hp0 (.inl rfl) fun h => .inr ⟨h, rfl⟩))) fun e σ h3 c hq => ?_
  obtain ⟨G1, hk, _, hrl, H, hpu⟩ := hq
  rw [hr0] at hrl
  simp only [List.length_nil] at hrl
  have hpl : σ.pu.length ≤ 2 := by have := H.len; rw [hp0] at this; simpa using this
  have hA : ∀ a ∈ σ.rd, A a := fun a ha => by
    rcases H.rd a ha with h | h
    · rw [hr0] at h; cases h
    · exact h
  have hAw : ∀ a ∈ cpt (sorted (σ.pu.map (·.1))), A a := fun a ha => by
    rw [cpt_mem, (sorted_perm _).mem_iff, List.mem_map] at ha
    obtain ⟨p, hp, rfl⟩ := ha
    exact hA _ (G1.pu p hp)
  unfold uE
  refine ext0t (ext1t ?_)
  rw [show lda 4 (at0 rx) h3 = some (mC x) from (c.va (i := 1) rfl).whole rfl, vb_some]
  refine c.pur (cs.cref hx) fun h4 c => ?_
  refine c.nw ER4 ⟨0, 0, 0, 0⟩ rfl fun rr h5 c => ?_
  refine c.sto 3 rfl x.r rfl rfl fun h6 c => ?_
  refine c.cReads cs.toCsH 2 rfl (by omega) fun v1 h7 c => ?_
  refine c.cWrites cs.toCsH 2 rfl (by omega) fun v2 h8 c => ?_
  have hcl : (cpt (sorted (σ.pu.map (·.1)))).length ≤ 2 := by
    have := cpt_len (sorted (σ.pu.map (·.1)))
    rw [sorted_len, List.length_map] at this
    omega
  have hsl := sorted_len σ.rd
  refine c.ap 4 rfl (c.sl (i := 5) rfl).sl rfl rfl (by omega) (by omega) fun v3 h9 c => ?_
  have hall : ∀ a ∈ sorted σ.rd ++ cpt (sorted (σ.pu.map (·.1))), A a := fun a ha => by
    rcases List.mem_append.1 ha with h | h
    · exact hA a ((sorted_perm _).mem_iff.1 h)
    · exact hAw a h
  have hll : (sorted σ.rd ++ cpt (sorted (σ.pu.map (·.1)))).length ≤ 40 := by rw [List.length_append]; omega
  have c := c.pick [0, 2, 3, 4]
  have c : Cx (fun _ => False) h h9 [rVar (EAr .i64 4) r1 l, rSpace s σ, rVar ER4 rr x.r, rSl EI1 v3 (sorted σ.rd ++ cpt (sorted (σ.pu.map (·.1))))] := c
  generalize sorted σ.rd ++ cpt (sorted (σ.pu.map (·.1))) = ls at *
  rw [(c.sl (i := 3) rfl).sl.ln, vb_some]
  refine Lp1.by (fun (j : Nat) v h' => v = .int .i64 j ∧ j ≤ ls.length ∧ Cx (fun _ => False) h h' [rVar (EAr .i64 4) r1 l, rSpace s σ, rVar ER4 rr x.r, rSl EI1 v3 ls]) (fun j => ls.length - j) 0 ⟨rfl, Nat.zero_le _, c⟩ ?_
  clear c
  rintro j v h10 ⟨rfl, hj, c⟩ again hagain
  rw [bin_lss, vb_some]
  refine brd (fun hlt => ?_) fun hge => ?_
  · have hxj : ls[j]? = some ls[j] := List.getElem?_eq_getElem (by omega)
    have hAj := hall ls[j] (List.getElem_mem _)
    generalize ls[j] = a at *
    refine (c.sl (i := 3) rfl).sl.one rfl hxj rfl rfl ?_
    refine Jn1.at (fun v h' => v = .bool false ∧ Cx (fun _ => False) h h' [rVar (EAr .i64 4) r1 l, rSpace s σ, rVar ER4 rr x.r, rSl EI1 v3 ls]) ?_ ?_
    · refine (c.va (i := 2) rfl).fld (j := 1) rfl ?_
      refine c.pur (cs.root hr.a) fun h11 c => ?_
      rw [show bin .neq (.int .i64 a) (.int .i64 (rt x.r.a)) = some (.bool (decide (a ≠ rt x.r.a))) from bin_neq, vb_some]
      refine brd (fun h12 => ?_) fun h12 => ⟨rfl, c⟩
      obtain ⟨hd, ha⟩ := hAj.resolve_left h12
      refine (c.va (i := 2) rfl).fld (j := 0) rfl ?_
      rw [hd]
      refine vb (v := .bool false) rfl ?_
      rw [br_false]
      refine (c.va (i := 2) rfl).fld (j := 2) rfl ?_
      refine c.pur (cs.root hr.b) fun h13 c => ?_
      rw [ha]
      exact vb (neI _) ⟨rfl, c⟩
    clear c
    rintro v h11 ⟨rfl, c⟩
    rw [br_false, bin_add, vb_some, wrS (by omega)]
    exact hagain (j + 1) _ _ ⟨rfl, by omega, c⟩ (by omega)
  · refine .here ?_
    refine cs.awake32 fun h11 gg => ?_
    have c := c.more gg
    rw [br_true, bin_eql, vb_some]
    refine brd (fun h12 => hR _ c.gr) fun h12 => ?_
    have e0 := hpu h12
    refine c.cWrites cs.toCsH 1 rfl (by omega) fun v4 h13 c => ?_
    rw [(c.sl (i := 4) rfl).sl.ln, vb_some, e0, cpt0]
    refine vb (v := .bool true) rfl ?_
    exact hR _ c.gr

theorem L_CounterMoves {l : Nat → Int} {a b n : Int} (cs : CsC5 S I) (hl : ∀ i, i < 4 → R64 (l i)) (ha : 0 ≤ a ∧ a ≤ 255) (hb : 0 ≤ b ∧ b ≤ 255) (hn : R64 n) (hR : ∀ h', Gr h h' → R (.bool true) h') :
    F_simulcastlaw32_CounterMoves S I (.agg ⟨(EAr .i64 4).c l⟩) (.int .u8 a) (.int .u8 b) (.int .i64 n) h R := by
  unfold F_simulcastlaw32_CounterMoves
  refine (Cx.start0 h).nw (EAr .i64 4) l rfl fun r1 h1 c => ?_
  refine u8m4 ha.1 (u8m4 hb.1 ?_)
  have hx : 0 ≤ a % 4 ∧ a % 4 ≤ 3 := by omega
  have hy : 0 ≤ b % 4 ∧ b % 4 ≤ 3 := by omega
  generalize a % 4 = x at *
  generalize b % 4 = y at *
  refine known4 cs hl (c.va (i := 0) rfl) fun s h2 c2 => ?_
  have c := c.frame0 c2
  clear c2
  have H := Sc4.start hl
  generalize newS (kn4 l 4) = σ0 at *
  have hlx := hl x.toNat (by omega)
  have hly := hl y.toNat (by omega)
  refine Jn1.at (fun v h' => h' = h2 ∧ ∃ bb : Bool, v = .bool bb ∧ (bb = false → 0 ≤ l x.toNat ∧ 0 ≤ l y.toNat)) ?_ ?_
  · refine (c.va (i := 0) rfl).ix (i := x.toNat) (by omega) (by omega) ?_
    rw [bin_lss, vb_some]
    refine brd (fun h3 => ⟨rfl, true, rfl, fun e => by cases e⟩) fun h3 => ?_
    refine (c.va (i := 0) rfl).ix (i := y.toNat) (by omega) (by omega) ?_
    rw [bin_lss, vb_some]
    exact ⟨rfl, _, rfl, fun e => ⟨by omega, by have := of_decide_eq_false e; omega⟩⟩
  rintro v h3 ⟨rfl, bb, rfl, hbb⟩
  cases bb with
  | true => rw [br_true]; exact cs.awake32 fun h2 g => hR _ (Gr.trans c.gr g)
  | false =>
    obtain ⟨hpx, hpy⟩ := hbb rfl
    rw [br_false]
    refine c.pur (cs.root hx) fun h4 c => ?_
    refine c.pur (cs.root hy) fun h5 c => ?_
    refine c.last (cs.cmove hn) 1 rfl (st_move H hx hy hn (by decide)) fun e σ h6 c hq => ?_
    have ix : ∀ (z : Int), 0 ≤ z ∧ z ≤ 3 → ixa 4 1 (at0 r1) (.int .i64 z) = some (.pointer (some ⟨r1, 0 + z.toNat, none⟩)) := fun z hz => ixa_at (i := z.toNat) (by omega) (by omega) 0
    unfold uI
    rcases hq with ⟨he, hwhy, H1⟩ | ⟨rfl, n0, nx, hq⟩
    · rw [show bin .neq (.int .i64 e) (.int .i64 0) = some (.bool (decide (e ≠ 0))) from bin_neq, vb_some, decide_eq_true he, br_true]
      have hwr : ∀ {h' : Hp} {L : List Res}, Cx (fun _ => False) h h' L → L[1]? = some (rSpace s σ) → ∀ J : Value → Hp → Prop, (∀ h'', Gr h h'' → J (.bool true) h'') → S.C I.f_space_Space_Writes [s] h' fun v86 h14 => Vb (lnS v86) fun v87 => Vb (bin .eql v87 (.int .i64 0)) fun v88 => J v88 h14 := fun {h' L} c hi J hJ => by
        have hpl := H1.len
        have e0 : σ.pu = [] := List.eq_nil_of_length_eq_zero (by omega)
        obtain ⟨F1, c1, up⟩ := c.frame hi
        obtain ⟨F', a1, m⟩ := c1.fin
        refine cs.writes (by omega) a1 fun v h14 c2 => ?_
        have c := up ((c2.wk m.2).front 1 rfl)
        have c2' := c2.sl (i := 0) rfl
        rw [e0] at c2'
        rw [c2'.sl.ln, vb_some, cpt0]
        exact vb (v := .bool true) rfl (hJ _ c.gr)
      refine .here ?_
      refine cs.awake32 fun h7 gg => ?_
      have c := c.more gg
      rw [br_true, bin_lss, vb_some]
      refine brd (fun h8 => hwr c rfl R hR) fun h8 => ?_
      rw [ix x hx, vb_some, lB (by omega) c (j := 0) rfl, vb_some, bin_gtr, vb_some]
      refine brd (fun h9 => hwr c rfl R hR) fun h9 => ?_
      have hw3 : x ≠ y ∧ ¬ R64 (l y.toNat + n) := by
        rcases hwhy with h | h | h
        · omega
        · omega
        · exact h
      rw [bin_neq, vb_some, decide_eq_true hw3.1, br_true, ix y hy, vb_some, lB (by omega) c (j := 0) rfl, vb_some, bin_sub, vb_some, wr64 (by omega), bin_gtr, vb_some]
      have hgt : 9223372036854775807 - n < l y.toNat := by
        have := hw3.2
        omega
      rw [decide_eq_true hgt, br_true]
      exact hwr c rfl R hR
    · refine vb (v := .bool false) rfl ?_
      rw [br_false]
      -- what both hold now
      have key : ∃ k : Nat → Int, Sc4 l k σ 2 ∧ (x = y ∧ k = l ∨ x ≠ y ∧ R64 (l y.toNat + n) ∧ k = set4 (set4 l x (l x.toNat - n)) y (l y.toNat + n)) := by
        rcases hq with ⟨e, H1⟩ | ⟨e, hf, H1⟩
        · obtain ⟨m, S1, hm⟩ := H1
          exact ⟨l, ⟨m, S1.mono (by omega), hm⟩, .inl ⟨e, rfl⟩⟩
        · exact ⟨_, H1, .inr ⟨e, hf, rfl⟩⟩
      clear hq H
      obtain ⟨k, H, hk⟩ := key
      have kx : x ≠ y → k x.toNat = l x.toNat - n := fun hne => by
        rcases hk with ⟨e, _⟩ | ⟨_, _, e⟩
        · exact absurd e hne
        · rw [e, set4_ne hx hne, set4_same hx]
      have ky : x ≠ y → k y.toNat = l y.toNat + n := fun hne => by
        rcases hk with ⟨e, _⟩ | ⟨_, _, e⟩
        · exact absurd e hne
        · rw [e, set4_same hy]
      refine Jn1.at (fun v h' => v = .bool false ∧ ∃ σ, Sc4 l k σ 2 ∧ Cx (fun _ => False) h h' [rVar (EAr .i64 4) r1 l, rSpace s σ]) ?_ ?_
      · rw [bin_neq, vb_some]
        refine brd (fun hne => ?_) fun hne => ⟨rfl, σ, H, c⟩
        have hf : R64 (l y.toNat + n) := by
          rcases hk with ⟨e, _⟩ | ⟨_, hf, _⟩
          · exact absurd e hne
          · exact hf
        rw [ix x hx, vb_some, lB (by omega) c (j := 0) rfl, vb_some, bin_sub, vb_some, wr64 (by omega)]
        refine c.pur (cs.root hx) fun h7 c => ?_
        refine ⟨lB (by omega) c (j := 0) rfl, ?_⟩
        refine c.last cs.cget 1 rfl (st_get H hx) fun v σ h8 c hq => ?_
        obtain ⟨ev, H⟩ := hq
        refine ⟨lB (by omega) c (j := 0) rfl, ?_⟩
        unfold uI
        rw [ev, kx hne, neI, vb_some, br_false]
        rw [ix y hy, vb_some, lB (by omega) c (j := 0) rfl, vb_some, bin_add, vb_some, wr64 hf]
        refine c.pur (cs.root hy) fun h9 c => ?_
        refine ⟨lB (by omega) c (j := 0) rfl, ?_⟩
        refine c.last cs.cget 1 rfl (st_get H hy) fun v σ h10 c hq => ?_
        obtain ⟨ev, H⟩ := hq
        refine ⟨lB (by omega) c (j := 0) rfl, ?_⟩
        unfold uI
        rw [ev, ky hne]
        exact vb (neI _) ⟨rfl, σ, H, c⟩
      clear c H
      rintro v h7 ⟨rfl, σ, H, c⟩
      rw [br_false]
      refine c.pur (cs.root hy) fun h8 c => ?_
      refine c.pur (cs.root hx) fun h9 c => ?_
      refine c.last (cs.cmove hn) 1 rfl (st_move H hy hx hn (by decide)) fun e σ h10 c hq => ?_
      have hback : e = 0 ∧ ∃ k' : Nat → Int, Sc4 l k' σ 4 ∧ k' x.toNat = l x.toNat ∧ k' y.toNat = l y.toNat := by
        rcases hk with ⟨rfl, rfl⟩ | ⟨hne, hf, hke⟩
        · rcases hq with ⟨_, h, _⟩ | ⟨h0, _, _, ⟨_, H⟩ | ⟨h, _⟩⟩
          · rcases h with h | h | ⟨h, _⟩
            · omega
            · omega
            · exact absurd rfl h
          · obtain ⟨m, S1, hm⟩ := H
            exact ⟨h0, k, ⟨m, S1.mono (by omega), hm⟩, rfl, rfl⟩
          · exact absurd rfl h
        · rw [kx hne, ky hne] at hq
          have hs : l x.toNat - n + n = l x.toNat := by omega
          rcases hq with ⟨_, h, _⟩ | ⟨h0, _, _, ⟨h, _⟩ | ⟨_, _, H⟩⟩
          · rcases h with h | h | ⟨_, h⟩
            · omega
            · omega
            · exact absurd (by rw [hs]; exact hlx) h
          · exact absurd h.symm hne
          · refine ⟨h0, _, H, ?_, ?_⟩
            · rw [set4_same hx]; omega
            · rw [set4_ne hy (fun e => hne e.symm), set4_same hy]; omega
      obtain ⟨rfl, k', H, ex, ey⟩ := hback
      unfold uI
      refine .here ?_
      refine cs.awake32 fun h11 gg => ?_
      have c := c.more gg
      rw [br_true]
      refine vb (v := .bool true) rfl ?_
      rw [br_true, ix x hx, vb_some, lB (by omega) c (j := 0) rfl, vb_some]
      refine c.pur (cs.root hx) fun h12 c => ?_
      refine ⟨lB (by omega) c (j := 0) rfl, ?_⟩
      refine c.last cs.cget 1 rfl (st_get H hx) fun v σ h13 c hq => ?_
      obtain ⟨ev, H⟩ := hq
      refine ⟨lB (by omega) c (j := 0) rfl, ?_⟩
      unfold uI
      rw [ev, ex, eqI, vb_some, br_true, ix y hy, vb_some, lB (by omega) c (j := 0) rfl, vb_some]
      refine c.pur (cs.root hy) fun h14 c => ?_
      refine ⟨lB (by omega) c (j := 0) rfl, ?_⟩
      refine c.last cs.cget 1 rfl (st_get H hy) fun v σ h15 c hq => ?_
      obtain ⟨ev, H⟩ := hq
      refine ⟨lB (by omega) c (j := 0) rfl, ?_⟩
      unfold uI
      rw [ev, ey]
      exact vb (eqI _) (hR _ c.gr)
end Go.En
