/-
  Layer 34: the queue's walk.
-/
import Derived.Test.YtggieecoagcmbaaQuA
namespace Go.En
open Prog Spc

variable {S : Sys} {I : Ids} {h h0 h' : Hp} {F F0 : Fp} {R : Value → Hp → Prop} {s : Value} {σ : Spc} {L : List Res}

def EPtr : Enc (Option Addr) := { n := 1, c := fun a => [.pointer a], len := fun _ => rfl, one := fun a v h => by simp only [List.mem_singleton] at h; subst h; rfl }
def ESh : Enc (Option Addr × Nat × Nat) := { n := 1, c := fun a => [.slice a.1 a.2.1 a.2.2], len := fun _ => rfl, one := fun a v h => by simp only [List.mem_singleton] at h; subst h; rfl }
theorem Cx.ptr {i : Nat} (c : Cx F0 h0 h L) (hi : L[i]? = some (rSpace s σ)) : ∃ p, s = at0 p := let ⟨_, x, hp, _⟩ := c.get hi; ⟨x.1, hp.1⟩
/-- a slice of none -/
theorem Cx.nilSl {α : Type} (E : Enc α) (c : Cx F0 h0 h L) : Cx F0 h0 h (L ++ [rSl E (.slice none 0 0) []]) :=
  c.add (F' := fun _ => False) ⟨.nil, fun q => by simp [blk]⟩ (.refl _ _) fun r e => e.elim

structure CsV (S : Sys) (I : Ids) : Prop extends CsU S I where
  qput : ∀ {p : Pl} {root v : Int} {s}, 0 ≤ root ∧ root ≤ 1000000 → R64 v → Does S I.f_queue_Put [s, vP p, .int .i64 root, .int .i64 v] s (qPut p root v) uI
  qtake : ∀ {p : Pl} {root : Int} {s}, 0 ≤ root ∧ root ≤ 1000000 → Does S I.f_queue_Take [s, vP p, .int .i64 root] s (qTake p root) uE
  qfirst : ∀ {root : Int} {s}, 0 ≤ root ∧ root ≤ 1000000 → Does S I.f_queue_First [s, .int .i64 root] s (qFirst root) uE
  qlen : ∀ {root : Int} {s}, 0 ≤ root ∧ root ≤ 1000000 → Does S I.f_queue_Len [s, .int .i64 root] s (gt (root + 7)) uI
  nodes : ∀ {a : Option Addr} {root : Int} {h R}, (∀ x y h', Cx (fun _ => False) h h' [rVar EPtr x a, rVar EI1 y root] → R (.func (.func I.f_queue_nodes_1) #[] #[at0 x, at0 y]) h') → S.C I.f_queue_nodes [.pointer a, .int .i64 root] h R
  nodes1 : ∀ {x y z h R}, F_queue_nodes_1 S I x y z h R → S.C I.f_queue_nodes_1 [x, y, z] h R

theorem K_nodes {a : Option Addr} {root : Int} (hR : ∀ x y h', Cx (fun _ => False) h h' [rVar EPtr x a, rVar EI1 y root] → R (.func (.func I.f_queue_nodes_1) #[] #[at0 x, at0 y]) h') : F_queue_nodes S I (.pointer a) (.int .i64 root) h R := by
  unfold F_queue_nodes
  refine (Cx.start0 h).nw EPtr a rfl fun x h1 c => ?_
  refine c.nw EI1 root rfl fun y h1 c => ?_
  exact vb rfl (hR x y _ c)

theorem ow_len {α : Type} {E : Enc α} {a : Option Addr} {l c : Nat} {xs : List α} (o : Ow E h (.slice a l c) xs) : l = xs.length := by
  rcases o with ⟨e, rfl⟩ | ⟨r, o, cap, e, _⟩
  · simp only [Value.slice.injEq] at e; simp [e.2.1]
  · simp only [Value.slice.injEq] at e; exact e.2.1
/-- what a walk has at hand -/
abbrev qwL (sp rs rp rv re ro x y d l : Nat) (p : Pl) (root : Int) (o : Loop) (σ : Spc) (sh : Option Addr × Nat × Nat) (acc : List Int) (st : LoopState) : List Res :=
  [rSpace (at0 sp) σ, rVar EPtr rs (some ⟨sp, 0, none⟩), rVar EPl rp p, rVar ESh rv (none, 0, 0), rVar EI1 re 0, rVar ESh ro sh, rSl EI1 (.slice sh.1 sh.2.1 sh.2.2) acc, rVar EPtr x (some ⟨sp, 0, none⟩), rVar EI1 y root,
    rObj d (.deferred (some [])), rObj l (lpO o st none)]
theorem qLoop_end {p : Pl} {n : Nat} {acc : List Int} : qLoop p n 0 acc = pure (some acc) := by cases n <;> rfl
theorem qLoop_lost {p : Pl} {n : Nat} {a : Int} {acc : List Int} (h0 : a ≠ 0) (hn : n = p.nodes.toNat - acc.length) (h : (p.node a).isSome = false ∨ p.nodes ≤ acc.length) : qLoop p n a acc = pure none := by
  cases n with
  | zero => simp [qLoop, h0]
  | succ n =>
    have : (p.node a).isSome = false := h.resolve_right (by omega)
    simp [qLoop, h0, this]
theorem qLoop_more {p : Pl} {n : Nat} {a : Int} {acc : List Int} (h0 : a ≠ 0) (hn : n = p.nodes.toNat - acc.length) (h : (p.node a).isSome = true) (h2 : acc.length < p.nodes) : ∃ m, n = m + 1 ∧ qLoop p n a acc = (do
      let v ← gt a
      let nx ← gt (a + 1)
      qLoop p m nx (acc ++ [v])) := by
  cases n with
  | zero => omega
  | succ n => exact ⟨n, rfl, by simp [qLoop, h0, h]⟩

theorem K_qWalk {p : Pl} {root : Int} (cs : CsV S I) (hr : 0 ≤ root ∧ root ≤ 1000000) :
    ∀ h0 F σ R Q, Cx F h0 h0 [rSpace s σ] → wp (qWalk p root) σ Q → (∀ (o : Option (List Int)) σ' v h' M, Cx F h0 h' (rSpace s σ' :: rSl EI1 v (o.getD []) :: M) → Q o σ' → R (.tuple #[v, .int .i64 (if o.isSome then 0 else 24)]) h') → F_queue_Walk S I s (vP p) (.int .i64 root) h0 R := by
  intro h0 F σ R Q c hp hR
  obtain ⟨sp, rfl⟩ := c.ptr (i := 0) rfl
  unfold F_queue_Walk
  refine c.nw EPtr (some ⟨sp, 0, none⟩) rfl fun rs h1 c => ?_
  refine c.nw EPl p rfl fun rp h1 c => ?_
  refine c.nw ESh (none, 0, 0) rfl fun rv h1 c => ?_
  refine c.nw EI1 0 rfl fun re h1 c => ?_
  refine c.nw ESh (none, 0, 0) rfl fun ro h1 c => ?_
  have c := c.nilSl EI1
  rw [(c.va (i := 1) rfl).one rfl]
  simp only [go_sem]
  refine cs.nodes fun x y h2 c2 => ?_
  have c := c.frame0 c2
  refine c.rg rfl fun l d o h3 hd hY c => ?_
  subst hd
  refine cs.nodes1 ?_
  unfold F_queue_nodes_1
  rw [(c.va (i := 7) rfl).one rfl, vb_some, (c.va (i := 8) rfl).one rfl, vb_some, bin_add, vb_some, wr64 (n := root + 0) (by omega), Int.add_zero]
  unfold qWalk at hp
  refine c.doesE cs.get (Ens.gt _) 0 rfl hp fun a σ h4 ha c hp => ?_
  refine Lp1.by (fun (x' : Nat × Int × List Int × Spc × (Option Addr × Nat × Nat)) v h' => v = .int .i64 x'.2.1 ∧ R64 x'.2.1 ∧ x'.1 = p.nodes.toNat - x'.2.2.1.length ∧ wp (qLoop p x'.1 x'.2.1 x'.2.2.1) x'.2.2.2.1 Q ∧
    Cx F h0 h' (qwL sp rs rp rv re ro x y h2.size l p root o x'.2.2.2.1 x'.2.2.2.2 x'.2.2.1 .ready))
    (fun x' => x'.1) (p.nodes.toNat, a, [], σ, (none, 0, 0)) ⟨rfl, ha, by simp, hp, c⟩ ?_
  rintro ⟨n, a, acc, σ, sh⟩ v h5 ⟨rfl, ha, hn, hp, c⟩ again hagain
  dsimp only at *
  refine .here ?_
  simp only [go_sem]
  refine brd (fun h6 => ?_) fun h6 => ?_
  · refine .inr ⟨l, rfl, hY _ _ _ (c.lpat (i := 10) rfl) ?_⟩
    show A1 [_] _
    unfold A1
    refine c.bgn (i := 10) rfl fun h7 c => ?_
    refine Jn1.at (fun v h => ∃ b : Bool, v = .bool b ∧ Cx F h0 h (qwL sp rs rp rv re ro x y h2.size l p root o σ sh acc .busy) ∧ (b = true → (p.node a).isSome = false ∨ p.nodes ≤ acc.length) ∧ (b = false → (p.node a).isSome = true ∧ acc.length < p.nodes)) ?_ ?_
    · rw [plA (i := 2) c rfl]
      simp only [go_sem]
      refine c.pur (cs.isNode ha) fun h8 c => ?_
      simp only [go_sem]
      cases hnd : (p.node a).isSome with
      | false =>
        simp only [Bool.not_false, go_sem]
        exact ⟨true, rfl, c, fun _ => by simp, fun e => by cases e⟩
      | true =>
        simp only [Bool.not_true, go_sem]
        rw [(c.va (i := 5) rfl).one rfl]
        simp only [go_sem]
        rw [pl2 (i := 2) c rfl, ow_len (c.sl (i := 6) rfl)]
        simp only [go_sem]
        exact ⟨_, rfl, c, fun e => .inr (by simpa using e), fun e => ⟨trivial, by simpa using e⟩⟩
    · rintro v h8 ⟨b, rfl, c, hb1, hb2⟩
      cases b with
      | true =>
        simp only [go_sem]
        rw [qLoop_lost h6 hn (hb1 rfl)] at hp
        refine c.sto1 3 rfl (none, 0, 0) rfl rfl fun h9 c => ?_
        refine c.sto1 4 rfl 24 rfl rfl fun h9 c => ?_
        refine c.fin' (i := 10) (some .ret) rfl fun h9 c => ?_
        obtain ⟨h10, e, c⟩ := c.endl (i := 10) rfl (by simp)
        refine ⟨_, _, e, ?_⟩
        unfold Jp
        refine c.tkd (i := 9) rfl fun h11 c => ?_
        rw [(c.va (i := 3) rfl).one rfl, vb_some, (c.va (i := 4) rfl).one rfl, vb_some]
        have c := c.nilSl EI1
        have c := (c.front 11 rfl).front 1 rfl
        exact hR none _ _ _ _ c hp
      | false =>
        obtain ⟨hnd, hlen⟩ := hb2 rfl
        obtain ⟨nn, hnn⟩ := Option.isSome_iff_exists.1 hnd
        have hlt := node_lt hnn
        have hgood := (node_some hnn).1
        have := hgood.n1
        obtain ⟨m, rfl, hq⟩ := qLoop_more h6 hn hnd hlen
        rw [hq] at hp
        simp only [go_sem]
        rw [(c.va (i := 5) rfl).one rfl, vb_some, (c.va (i := 1) rfl).one rfl, vb_some, wr64 (n := a + 0) (by omega), Int.add_zero]
        refine c.does cs.get 0 rfl hp fun v σ h9 c hp => ?_
        refine ⟨(c.va (i := 5) rfl).one rfl, ?_⟩
        have hb : acc.length ≤ 128 := by omega
        refine c.bsl1 EI1 v rfl rfl fun u h10 c => ?_
        refine ⟨(c.va (i := 5) rfl).one rfl, ?_⟩
        refine c.ap 6 rfl (c.sl (i := 11) rfl).sl rfl rfl (by simp only [List.length_singleton]; omega) (by simp only [List.length_singleton]; omega) fun w h11 c => ?_
        obtain ⟨a2, l2, c2, rfl⟩ := ow_slice (c.sl (i := 6) rfl)
        refine c.sto1 5 rfl (a2, l2, c2) rfl rfl fun h12 c => ?_
        refine c.fin' (i := 10) none rfl fun h13 c => ?_
        try simp only [go_sem]
        rw [(c.va (i := 7) rfl).one rfl, vb_some, wr64 (n := a + 1) (by omega)]
        refine c.doesE cs.get (Ens.gt _) 0 rfl hp fun nx σ h14 hnx c hp => ?_
        refine hagain (m, nx, acc ++ [v], σ, (a2, l2, c2)) _ _ ⟨rfl, hnx, ?_, hp, ?_⟩ (by simp)
        · simp only [List.length_append, List.length_singleton]; omega
        · exact c.drop (L := qwL sp rs rp rv re ro x y h2.size l p root o σ (a2, l2, c2) (acc ++ [v]) .ready) (L' := [_])
  · have : a = 0 := by omega
    subst this
    rw [qLoop_end] at hp
    obtain ⟨h10, e, c⟩ := c.endl (i := 10) rfl (by simp)
    refine ⟨_, _, e, ?_⟩
    unfold Jp
    rw [(c.va (i := 5) rfl).one rfl, vb_some]
    refine c.sto1 3 rfl sh rfl rfl fun h11 c => ?_
    refine c.sto1 4 rfl 0 rfl rfl fun h12 c => ?_
    refine c.tkd (i := 9) rfl fun h13 c => ?_
    rw [(c.va (i := 3) rfl).one rfl, vb_some, (c.va (i := 4) rfl).one rfl, vb_some]
    have c := (c.front 6 rfl).front 1 rfl
    exact hR (some acc) _ _ _ _ c hp
end Go.En
