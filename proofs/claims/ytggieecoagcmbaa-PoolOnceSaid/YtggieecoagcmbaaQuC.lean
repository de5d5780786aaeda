/-
  Layers 31 and 34: the helpers of the laws.
-/
import Derived.Test.YtggieecoagcmbaaQuB
import Derived.Test.YtggieecoagcmbaaQuM
namespace Go.En
open Prog Spc

variable {S : Sys} {I : Ids} {h h0 h' : Hp} {F F0 : Fp} {R : Value → Hp → Prop} {s : Value} {σ : Spc} {L : List Res}

/-- words from the location 0 on, as entries of a map -/
def knW (xs : List Int) : List (Int × W3) := xs.zipIdx.map fun x => ((x.2 : Int), ⟨x.1, 0, 0⟩)
theorem knW_snoc (xs : List Int) (x : Int) : knW (xs ++ [x]) = knW xs ++ [((xs.length : Int), ⟨x, 0, 0⟩)] := by
  unfold knW
  rw [List.zipIdx_append, List.map_append]; simp
theorem knW_keys (xs : List Int) : (knW xs).map (·.1) = (List.range xs.length).map fun (i : Nat) => (i : Int) := by
  unfold knW
  apply List.ext_getElem?
  intro i
  simp only [List.map_map, List.getElem?_map, List.getElem?_zipIdx]
  by_cases hi : i < xs.length
  · simp [hi]
  · simp [hi]
theorem knW_nodup (xs : List Int) : ((knW xs).map (·.1)).Nodup := by
  rw [knW_keys]
  unfold List.Nodup
  rw [List.pairwise_map]
  exact List.nodup_range.imp fun h e => h (by exact_mod_cast e)
theorem knW_look (xs : List Int) (a : Int) : lookA (knW xs) a = if 0 ≤ a ∧ a < xs.length then some ⟨xs[a.toNat]?.getD 0, 0, 0⟩ else none := by
  by_cases h : 0 ≤ a ∧ a < xs.length
  · rw [if_pos h, ← lookA_mem (knW_nodup xs)]
    unfold knW
    rw [List.mem_map]
    refine ⟨(xs[a.toNat]'(by omega), a.toNat), ?_, ?_⟩
    · rw [List.mem_zipIdx_iff_getElem?]; simp
    · have : a.toNat < xs.length := by omega
      simp [this]; omega
  · rw [if_neg h]
    cases hl : lookA (knW xs) a with
    | none => rfl
    | some w =>
      rw [← lookA_mem (knW_nodup xs)] at hl
      have : a ∈ (knW xs).map (·.1) := List.mem_map.2 ⟨_, hl, rfl⟩
      rw [knW_keys, List.mem_map] at this
      obtain ⟨i, hi, e⟩ := this
      rw [List.mem_range] at hi
      exact absurd ⟨by omega, by omega⟩ h
theorem knW_val {xs : List Int} (hx : ∀ x ∈ xs, R64 x) : ∀ p ∈ knW xs, R64 p.2.v := by
  intro p hp
  unfold knW at hp
  obtain ⟨x, hx', rfl⟩ := List.mem_map.1 hp
  rw [List.mem_zipIdx_iff_getElem?] at hx'
  exact hx _ (List.mem_of_getElem? hx')
/-- a space over words -/
def spW (xs : List Int) : Spc := newS (knW xs)
theorem spW_kn (xs : List Int) (a : Int) : (spW xs).kn a = if 0 ≤ a ∧ a < xs.length then some ⟨xs[a.toNat]?.getD 0, 0, 0⟩ else none := by
  unfold spW newS
  simp only [knW_look]
  split <;> rfl
theorem spW_vw (xs : List Int) (a : Int) : (spW xs).vw a = if 0 ≤ a ∧ a < xs.length then xs[a.toNat]?.getD 0 else 0 := by
  unfold Spc.vw
  rw [spW_kn]
  show (lastP [] a).getD _ = _
  rw [lastP_nil]
  split <;> rfl

structure CsW (S : Sys) (I : Ids) : Prop extends CsV S I where
  walk : ∀ {p : Pl} {root : Int} {s h0 F σ R} {Q : Option (List Int) → Spc → Prop}, 0 ≤ root ∧ root ≤ 1000000 → Cx F h0 h0 [rSpace s σ] → wp (qWalk p root) σ Q →
    (∀ (o : Option (List Int)) σ' v h' M, Cx F h0 h' (rSpace s σ' :: rSl EI1 v (o.getD []) :: M) → Q o σ' → R (.tuple #[v, .int .i64 (if o.isSome then 0 else 24)]) h') → S.C I.f_queue_Walk [s, vP p, .int .i64 root] h0 R

theorem K_Known {v : Value} {xs : List Int} (hs : Sl EI1 h v xs) (hb : xs.length ≤ 1000000) (hR : ∀ m h', Cx (fun _ => False) h h' [rMp .i64 mW (.map (some m)) (knW xs)] → R (.map (some m)) h') :
    F_simulcastlaw31_Words_Known S I (.agg #[v]) h R := by
  unfold F_simulcastlaw31_Words_Known
  obtain ⟨a, cap, rfl, hs1⟩ := id hs
  refine (Cx.start0 h).nw ESh (a, xs.length, cap) rfl fun r h1 c => ?_
  refine c.mmk .i64 mW fun m h2 c => ?_
  refine Lp1.by (fun (i : Nat) v h' => i ≤ xs.length ∧ v = .int .i64 i ∧ Cx (fun _ => False) h h' [rVar ESh r (a, xs.length, cap), rMp .i64 mW (.map (some m)) (knW (xs.take i))]) (fun i => xs.length - i) 0 ⟨by omega, rfl, c⟩ ?_
  rintro i v h3 ⟨hi, rfl, c⟩ again hagain
  refine (c.va (i := 0) rfl).fld (j := 0) rfl ?_
  simp only [go_sem]
  refine brd (fun h4 => ?_) fun h4 => ?_
  · have hi' : i < xs.length := by omega
    refine (c.va (i := 0) rfl).row.ldc (j := 0) rfl |> fun e => ?_
    rw [e, vb_some]
    refine (hs.gr c.gr).one rfl (List.getElem?_eq_getElem hi') rfl rfl ?_
    refine vb rfl ?_
    refine c.mup 1 rfl (i : Int) ⟨xs[i], 0, 0⟩ rfl fun h5 c => ?_
    rw [wrS (by omega)]
    refine hagain (i + 1) _ _ ⟨by omega, rfl, ?_⟩ (by omega)
    rw [List.take_add_one, List.getElem?_eq_getElem hi']
    have e2 : updA (knW (xs.take i)) (i : Int) ⟨xs[i], 0, 0⟩ = knW (xs.take i ++ [xs[i]]) := by
      rw [knW_snoc, updA_end]
      · rw [List.length_take, Nat.min_eq_left (by omega)]
      · rw [knW_look, if_neg (by rw [List.length_take]; omega)]
    rw [e2] at c
    exact c
  · have : i = xs.length := by omega
    subst this
    rw [List.take_length] at c
    exact hR _ _ (c.one 1 rfl)

structure CsX (S : Sys) (I : Ids) : Prop extends CsW S I where
  known : ∀ {v xs h R}, Sl EI1 h v xs → xs.length ≤ 1000000 → (∀ m h', Cx (fun _ => False) h h' [rMp .i64 mW (.map (some m)) (knW xs)] → R (.map (some m)) h') → S.C I.f_simulcastlaw31_Words_Known [.agg #[v]] h R

theorem K_space0 {v : Value} {xs : List Int} (cs : CsX S I) (hs : Sl EI1 h v xs) (hb : xs.length ≤ 1000000) (hx : ∀ x ∈ xs, R64 x) (hR : ∀ s h', Cx (fun _ => False) h h' [rSpace s (spW xs)] → R s h') :
    F_simulcastlaw34_space0 S I (.agg #[v]) h R := by
  unfold F_simulcastlaw34_space0
  obtain ⟨a, cap, rfl, hs1⟩ := id hs
  refine (Cx.start0 h).nw ESh (a, xs.length, cap) rfl fun r h1 c => ?_
  rw [(c.va (i := 0) rfl).whole (n := 1) rfl, vb_some]
  refine cs.known (hs.gr c.gr) hb fun m h2 c2 => ?_
  have c := c.frame0 c2
  obtain ⟨F, c3, up⟩ := c.frame (i := 1) rfl
  refine cs.new (knW_nodup xs) (knW_val hx) c3 fun s h3 c4 => ?_
  exact hR _ _ ((up c4).one 2 rfl)

/-- a new slice of zeroes -/
theorem Cx.mksl {α : Type} (E : Enc α) (x0 : α) (c : Cx F0 h0 h L) {zero : Array Value} {n : Nat} {size bytes : Nat} {e : TypeId} {z : Int} (hz : z = n) (h0' : zero.toList = E.c x0) (hs : size = E.n) (hb : n ≤ 1000000000) (hb2 : bytes ≤ 10000) {k : Value → Hp → Prop}
    (hk : ∀ a h', Cx F0 h0 h' (L ++ [rSl E (.slice (some a) n n) (List.replicate n x0)]) → k (.slice (some a) n n) h') : Eb (msl zero size bytes e (.int .i64 z) (.int .i64 z) h) k := by
  subst hz
  refine make_ok h0' hs hb hb2 fun h' o g hsz => hk _ h' (c.add (F' := fun q => q = h.size) ⟨o, fun q => by simp [blk, eq_comm]⟩ g fun r e => by omega)

theorem K_start34 {n : Int} (hn : 0 ≤ n ∧ n ≤ 255) (hR : ∀ a l c h', Cx (fun _ => False) h h' [rSl EI1 (.slice a l c) (List.replicate (24 + 8 * (n % 9).toNat) 0)] → R (.tuple #[vP ⟨3, 24, n % 9⟩, .agg #[.slice a l c]]) h') :
    F_simulcastlaw34_start S I (.int .u8 n) h R := by
  unfold F_simulcastlaw34_start
  refine (Cx.start0 h).nw EPl ⟨0, 0, 0⟩ rfl fun r2 h1 c => ?_
  refine c.nw ESh (none, 0, 0) rfl fun r3 h1 c => ?_
  rw [bin_rem (by omega), vb_some, cvi_int, vb_some, Int.tmod_eq_emod_of_nonneg hn.1, wr64 (n := n % 9) (by omega)]
  refine vb rfl ?_
  refine c.nw EPl ⟨0, 0, 0⟩ rfl fun r4 h1 c => ?_
  refine c.sto 2 rfl ⟨3, 24, n % 9⟩ rfl rfl fun h1 c => ?_
  refine .here ?_
  rw [plA (i := 2) c rfl]
  simp only [go_sem, pl2 (i := 2) c rfl]
  rw [wr64 (n := 8 * (n % 9)) (by omega), wr64 (n := 24 + 8 * (n % 9)) (by omega)]
  refine ⟨?_, ?_⟩
  · refine c.mksl EI1 0 (n := 24 + 8 * (n % 9).toNat) (by omega) rfl rfl (by omega) (by omega) fun a h2 c => ?_
    refine ⟨plA (i := 2) c rfl, ?_⟩
    refine vb rfl ?_
    refine c.sto 0 rfl ⟨3, 24, n % 9⟩ rfl rfl fun h3 c => ?_
    refine c.sto (n := 1) 1 rfl (some a, _, _) rfl rfl fun h4 c => ?_
    rw [plA (i := 0) c rfl, vb_some, (c.va (i := 1) rfl).whole (n := 1) rfl, vb_some]
    exact hR _ _ _ _ (c.one 3 rfl)
  · refine c.sto 0 rfl ⟨3, 24, n % 9⟩ rfl rfl fun h3 c => ?_
    refine ⟨pl2 (i := 2) c rfl, ?_⟩
    refine c.mksl EI1 0 (n := 24 + 8 * (n % 9).toNat) (by omega) rfl rfl (by omega) (by omega) fun a h2 c => ?_
    refine vb rfl ?_
    refine c.sto (n := 1) 1 rfl (some a, _, _) rfl rfl fun h4 c => ?_
    rw [plA (i := 0) c rfl, vb_some, (c.va (i := 1) rfl).whole (n := 1) rfl, vb_some]
    exact hR _ _ _ _ (c.one 3 rfl)
end Go.En
