/-
  Layer 38: a call on a world and on the reference.
  Layer 38: a call on a state; whether a memory agrees.
  Layer 38: calls, one after the other; the example; the law Plays.
-/
import Derived.Test.YtjnpmadojjfkpaaGreatZD
namespace Go.En
open Prog Spc Go.Sort

variable {S : Sys} {I : Ids} {h h0 h' : Hp} {F F0 : Fp} {R : Value → Hp → Prop} {L : List Res} {s : Value} {σ τ : Spc}
/-- a state -/
structure X38 where
  k : Option Nat
  p : Pl
  root : Int
  l : SH
  hs : SH
def ESt : Enc X38 := { n := 7, c := fun x => [.map x.k, .int .i64 x.p.root, .int .i64 x.p.frm, .int .i64 x.p.nodes, .int .i64 x.root, shV x.l, shV x.hs], len := fun _ => rfl, one := fun a v h => by simp only [List.mem_cons, List.not_mem_nil, or_false] at h; rcases h with rfl | rfl | rfl | rfl | rfl | rfl | rfl <;> rfl }
def vSt (x : X38) : Value := .agg ⟨ESt.c x⟩
def X0 : X38 := ⟨none, ⟨0, 0, 0⟩, 0, (none, 0, 0), (none, 0, 0)⟩
/-- a call -/
structure C38 where
  d : Int
  b : Int
  P : Int
  V : Int
def EC8 : Enc C38 := { n := 4, c := fun x => [.int .u8 x.d, .int .u8 x.b, .int .i64 x.P, .int .i64 x.V], len := fun _ => rfl, one := fun a v h => by simp only [List.mem_cons, List.not_mem_nil, or_false] at h; rcases h with rfl | rfl | rfl | rfl <;> rfl }
def vC8 (x : C38) : Value := .agg ⟨EC8.c x⟩
structure C38.ok (x : C38) : Prop where
  d : 0 ≤ x.d ∧ x.d ≤ 255
  b : 0 ≤ x.b ∧ x.b ≤ 255
  P : R64 x.P
  V : R64 x.V
/-- what is not seen -/
structure G38 where
  rw : Int → Int
  A : Int → Int
  fr : List Int
  out : Int
structure T38 (n : Int) (m : Int → Int) (l : List Im) (hs : List Int) (g : G38) : Prop where
  H : HS n 16 m g.rw g.A g.fr g.out l hs
  cnt : (l.length : Int) + (l.length + 7) / 8 + g.fr.length = g.out
structure S38 (n : Int) (x : X38) (ps : List (Int × W3)) (m : Int → Int) (V : Int) (l : List Im) (hs : List Int) (g : G38) : Prop where
  p : x.p = p38 n
  r : x.root = 16
  nn : 0 ≤ n ∧ n ≤ 40
  W : WoR 384 ps m V
  T : T38 n m l hs g
abbrev L38 (x : X38) (ps : List (Int × W3)) (l : List Im) (hs : List Int) : List Res := [rMp .i64 mW (.map x.k) ps, rSl EIm (shV x.l) l, rSl EI1 (shV x.hs) hs]
/-- the item that a call is about -/
def byOf (c : C38) (hs : List Int) : Int := if hs.length = 0 then 0 else c.b % hs.length
/-- what a call does to the reference -/
structure Step38 (n : Int) (c : C38) (l : List Im) (hs : List Int) (l' : List Im) (hs' : List Int) : Prop where
  pop : c.d % 6 = 3 → l' = l.tail ∧ hs' = hs
  push : c.d % 6 < 3 → l.length < 32 → (l.length : Int) + 1 + (l.length + 1 + 7) / 8 ≤ n → ∃ x, l' = rPut l ⟨c.P, c.V, hs.length, hs.length⟩ ∧ hs' = hs ++ [x]
  low : c.d % 6 = 4 → ∀ (i : Nat) (it : Im), hs ≠ [] → l[i]? = some it → it.B = byOf c hs → c.P ≤ it.P → l' = rPut (l.eraseIdx i) ⟨c.P, it.V, it.O, it.B⟩ ∧ hs' = hs
  hl : hs'.length ≤ hs.length + 1
  vs : ∀ it ∈ l', it.V = c.V ∨ ∃ a ∈ l, a.V = it.V
theorem dv8c {k : Int} (h : k % 8 = 0) : (k + 1 + 7) / 8 = (k + 7) / 8 + 1 := by omega
theorem dv8d {k : Int} (h : k % 8 ≠ 0) : (k + 1 + 7) / 8 = (k + 7) / 8 := by omega
theorem dv8e (k : Int) : (k + 1 + 7) / 8 = (k + 7) / 8 + dR k := by
  unfold dR
  split
  · rename_i h; exact dv8c h
  · rename_i h; rw [dv8d h]; omega
section
variable {n : Int} {m m' : Int → Int} {l : List Im} {hs : List Int} {g : G38} {x pr v : Int}
theorem T38.push {rw' A' : Int → Int} {fr' : List Int} {out' : Int} (T : T38 n m l hs g) (H : HS n 16 m' rw' A' fr' out' (rPut l ⟨pr, v, hs.length, hs.length⟩) (hs ++ [x])) (D : PushD (p38 n) 16 m m' l.length g.rw g.A rw' A' g.fr fr' g.out out' x pr v) : T38 n m' (rPut l ⟨pr, v, hs.length, hs.length⟩) (hs ++ [x]) ⟨rw', A', fr', out'⟩ ∧ (l.length : Int) + 1 + (l.length + 1 + 7) / 8 ≤ n := by
  have h1 := T.cnt; have h2 := D.cnt; have h3 := dv8e l.length
  have h4 : out' ≤ n := H.P.P.out1
  have h5 : (((rPut l ⟨pr, v, hs.length, hs.length⟩).length : Nat) : Int) = (l.length : Int) + 1 := by rw [len_rPut]; omega
  refine ⟨⟨H, ?_⟩, by omega⟩
  show (((rPut l ⟨pr, v, hs.length, hs.length⟩).length : Nat) : Int) + ((rPut l ⟨pr, v, hs.length, hs.length⟩).length + 7) / 8 + fr'.length = out'
  rw [h5]
  omega
theorem T38.rem {A' : Int → Int} {fr' : List Int} {l' : List Im} {i : Int} (T : T38 n m l hs g) (H : HS n 16 m' g.rw A' fr' g.out l' hs) (hl : (l'.length : Int) = l.length - 1) (D : RemD (p38 n) 16 m m' l.length i g.rw g.A A' g.fr fr' g.out) : T38 n m' l' hs ⟨g.rw, A', fr', g.out⟩ := by
  have h1 := T.cnt; have h2 := D.cnt; have h3 := dv8e ((l.length : Int) - 1)
  refine ⟨H, ?_⟩
  show (l'.length : Int) + (l'.length + 7) / 8 + fr'.length = g.out
  rw [hl]
  rw [show (l.length : Int) - 1 + 1 + 7 = l.length + 7 by omega] at h3
  omega
theorem T38.full (T : T38 n m l hs g) (h : l.length = 32 ∨ (g.fr.length : Int) - g.out + n < 1 + dR l.length) : 32 ≤ l.length ∨ n < (l.length : Int) + 1 + (l.length + 1 + 7) / 8 := by
  have h1 := T.cnt; have h3 := dv8e l.length
  rcases h with h | h
  · exact .inl (by omega)
  · exact .inr (by omega)
end
structure CsV4 (S : Sys) (I : Ids) : Prop extends CsV3 S I where
  hpush : ∀ {p : Pl} {root pr v : Int} {s}, Rtl root → Does S I.f_heap_Heap_Push [vHe p root, s, .int .i64 pr, .int .i64 v] s (hPush p root pr v) uE
  hpop : ∀ {p : Pl} {root : Int} {s}, Rtl root → Does S I.f_heap_Heap_Pop [vHe p root, s] s (hPop p root) uR3
  hmin : ∀ {p : Pl} {root : Int} {s}, Rtl root → Does S I.f_heap_Heap_Min [vHe p root, s] s (hMin p root) uR3
  hlow : ∀ {p : Pl} {root x pr : Int} {s}, Rtl root → R64 x → Does S I.f_heap_Heap_Lower [vHe p root, s, .int .i64 x, .int .i64 pr] s (hLow p root x pr) uI
  hdrop : ∀ {p : Pl} {root x : Int} {s}, Rtl root → R64 x → Does S I.f_heap_Heap_Drop [vHe p root, s, .int .i64 x] s (hDrop p root x) uE
  hlen : ∀ {p : Pl} {root : Int} {s}, Rtl root → Does S I.f_heap_Heap_Len [vHe p root, s] s (gt (root + 0)) uI
  hwalk : ∀ {p : Pl} {root : Int} {s : Value} {F h0 h σ} {R : Value → Hp → Prop} {J : Spc → Prop} {m : Int → Int} {Qo : Option (List Int) → Prop}, Rtl root → Jm p m J → Cx F h0 h [rSpace s σ] → Prog.wp (hWalkP p root) σ (fun o σ' => J σ' ∧ (∀ l, o = some l → ∀ x ∈ l, (p.node x).isSome = true) ∧ Qo o) →
    (∀ o C σ' v h' M, J σ' → Qo o → (o = none → C = []) → (∀ l, o = some l → C.Perm l ∧ Srt (nlt m) C) → Cx F h0 h' (rSpace s σ' :: rSl EPt v (C.map fun x => (m (x + 0), m (x + 1))) :: M) → R (.tuple #[v, .int .i64 (if o.isSome then 0 else 24)]) h') → S.C I.f_heap_Heap_Walk [vHe p root, s] h R
  rfind : ∀ {v : Value} {l : List Im} {b : Int} {h R}, Sl EIm h v l → l.length ≤ 100000 → (∀ z, FindR l b z → R (.int .i64 z) h) → S.C I.f_simulcastref38_Find [v, .int .i64 b] h R
  rwithout : ∀ {v : Value} {l : List Im} {i : Nat} {h R}, Sl EIm h v l → l.length ≤ 100000 → i < l.length → (∀ w h', Cx (fun _ => False) h h' [rSl EIm (shV w) (l.eraseIdx i)] → R (shV w) h') → S.C I.f_simulcastref38_Without [v, .int .i64 (i : Int)] h R
  rput : ∀ {v : Value} {l : List Im} {x : Im} {h R}, Sl EIm h v l → l.length ≤ 100000 → (∀ w h', Cx (fun _ => False) h h' [rSl EIm (shV w) (rPut l x)] → R (shV w) h') → S.C I.f_simulcastref38_Put [v, vIm x] h R
  rnodes : ∀ {n : Int} {h R}, 0 ≤ n ∧ n ≤ 1000000 → R (.int .i64 (n + (n + 7) / 8)) h → S.C I.f_simulcastref38_Nodes [.int .i64 n] h R
  clone : ∀ {v : Value} {ws : List Int} {h R}, ws.length ≤ 1000000 → Sl EI1 h v ws → (∀ u h', Cx (fun _ => False) h h' [rSl EI1 (shV u) ws] → R (shV u) h') → S.C I.f_slices_Clone_int64_int64 [v] h R
  done : ∀ {N : Nat} {ps : List (Int × W3)} {m : Int → Int} {V : Int} {wv fn : Value} {G : List Res → Spc → Prop} {L : List Res} {F h0 h R}, N ≤ 4096 → WoR N ps m V → V < 4294967295 → (∀ L' σ', G L' σ' → Good N ps σ') → Cx F h0 h (rMp .i64 mW wv ps :: L) →
    (∀ s h1 K, Cx F h0 h1 (rMp .i64 mW wv ps :: rSpace s (newS ps) :: L) → (∀ L' σ' h2, G L' σ' → Cx F h0 h2 (rMp .i64 mW wv ps :: rSpace s σ' :: L') → K (.tuple #[]) h2) → Cv S.C S.Y fn [s] h1 K) →
    (∀ L' σ' ps' nv ev h3, G L' σ' → WoR N ps' σ'.vw (V + 1) → Cx F h0 h3 (rMp .i64 mW wv ps :: rMp .i64 mW nv ps' :: rSl EE ev σ'.ents.1 :: L') → R (.tuple #[nv, ev, .bool true]) h3) → S.C I.f_simulcastlaw33_World_Done [wv, fn] h R
  ustep1 : ∀ {s a b c d : Value} {h K}, F_simulcastlaw38_step_1 S I s a b c d h K → S.C I.f_simulcastlaw38_step_1 [s, a, b, c, d] h K
section
variable {x : X38} {cc : C38} {n : Int} {ps : List (Int × W3)} {m : Int → Int} {V : Int} {wv : Value} {rx rc rb ro : Nat} {l : List Im} {hs : List Int} {g : G38} {X : Res} {K : Value → Hp → Prop}
theorem Cx.getH {i : Nat} (c : Cx F0 h0 h L) (hi : L[i]? = some (rVar ESt rx x)) {k : Value → Prop} (hk : k (vHe x.p x.root)) : Vb (fa 1 (at0 rx)) fun p => Vb (lda 4 p h) k := by
  have hr : Row EHe h rx (0 + 1) (x.p, x.root) := fun j u hu => by
    have := (c.va hi).row (1 + j) u (by
      match j, hu with
      | 0, hu => exact hu
      | 1, hu => exact hu
      | 2, hu => exact hu
      | 3, hu => exact hu
      | j + 4, hu => simp [EHe] at hu)
    rwa [show 0 + (1 + j) = 0 + 1 + j by omega] at this
  exact En.vb (fa_add _ _ _) (En.vb (hr.lda rfl) hk)
theorem Cx.getP {i : Nat} (c : Cx F0 h0 h L) (hi : L[i]? = some (rVar ESt rx x)) {k : Value → Prop} (hk : k (vP x.p)) : Vb (fa 1 (at0 rx)) fun p => Vb (fa 0 p) fun p => Vb (lda 3 p h) k := by
  have hr : Row EPl h rx (0 + 1) x.p := fun j u hu => by
    have := (c.va hi).row (1 + j) u (by
      match j, hu with
      | 0, hu => exact hu
      | 1, hu => exact hu
      | 2, hu => exact hu
      | j + 3, hu => simp [EPl] at hu)
    rwa [show 0 + (1 + j) = 0 + 1 + j by omega] at this
  exact En.vb (fa_add _ _ _) (En.vb (fa_add _ _ _) (En.vb (hr.lda rfl) hk))
abbrev S1L (s wv : Value) (ps : List (Int × W3)) (σ : Spc) (x : X38) (l : List Im) (hs : List Int) (cc : C38) (by' : Int) (rx rc rb ro : Nat) (X : Res) : List Res :=
  [rMp .i64 mW wv ps, rSpace s σ, rVar EC8 rc cc, rVar ESt rx x, rVar EB1 ro true, rVar EI1 rb by', rSl EIm (shV x.l) l, rSl EI1 (shV x.hs) hs, X]
/-- the place of the item that a handle refers to -/
def Ix38 (m : Int → Int) (A : Int → Int) (l : List Im) (hh iv : Int) : Prop := (∃ i : Nat, iv = i ∧ l[i]? = some (itm m hh) ∧ Mem l.length A hh) ∨ (iv = -1 ∧ ¬ Mem l.length A hh)
theorem bldI (a b c d : Int) : bldS [(0, 1), (1, 1), (2, 1), (3, 1)] #[Value.int IntKind.i64 0, Value.int IntKind.i64 0, Value.int IntKind.i64 0, Value.int IntKind.i64 0] [(0, .int .i64 a), (1, .int .i64 b), (2, .int .i64 c), (3, .int .i64 d)] = some (vIm ⟨a, b, c, d⟩) := by kernel_rfl
set_option maxHeartbeats 3200000 in
theorem K_step1 (cs : CsV4 S I) (hx : x.p = p38 n) (hrt : x.root = 16) (hn : 0 ≤ n ∧ n ≤ 40) (hc : cc.ok) (W : WoR 384 ps m V) (T : T38 n m l hs g) (hh60 : hs.length ≤ 60)
    (c : Cx F0 h0 h (S1L s wv ps (newS ps) x l hs cc (byOf cc hs) rx rc rb ro X))
    (hk : ∀ u w l' hs' g' σ' h2, Good 384 ps σ' → T38 n σ'.vw l' hs' g' → Step38 n cc l hs l' hs' → (cc.d % 6 ≤ 3 → FewP (cc.d % 6 == 3) l.length g.A σ'.vw) → Cx F0 h0 h2 (S1L s wv ps σ' { x with l := u, hs := w } l' hs' cc (byOf cc hs) rx rc rb ro X) → K (.tuple #[]) h2) :
    F_simulcastlaw38_step_1 S I s (at0 rc) (at0 rx) (at0 ro) (at0 rb) h K := by
  have hd := hc.d
  have k32 := T.H.P.k32
  have hr : R38 (16 : Int) := .inl rfl
  have G0 := W.rd38
  have hGH := T.H
  unfold F_simulcastlaw38_step_1
  refine (c.va (i := 2) rfl).fld (j := 0) rfl ?_
  rw [remI hd.1 (by decide), vb_some, bin_eql, vb_some]
  refine brd (fun e => ?_) fun e => ?_
  · -- Pop
    refine c.getH (i := 3) rfl ?_
    rw [hx, hrt]
    refine c.last (cs.hpop hr.l) 1 rfl (pop_38 G0 W hn hr T.H) fun t σ' h1 c ⟨hg, hq⟩ => ?_
    unfold uR3
    refine ext0r (ext1r (ext2r ?_))
    refine (c.va (i := 3) rfl).fld (j := 5) rfl ?_
    rw [(c.sl (i := 6) rfl).sl.ln, vb_some, bin_eql, vb_some]
    rcases hq with ⟨it, tl, A', fr', rfl, rfl, H', D'⟩ | ⟨rfl, rfl, hvw⟩
    · refine brd (fun e2 => by rw [List.length_cons] at e2; omega) fun _ => ?_
      refine .here ?_
      rw [eqI, vb_some, br_true]
      refine (c.va (i := 3) rfl).fld (j := 5) rfl ?_
      refine (c.sl (i := 6) rfl).sl.fld rfl (i := 0) (x := it) rfl rfl (j := 0) rfl ?_
      rw [eqI, vb_some, br_true]
      refine (c.va (i := 3) rfl).fld (j := 5) rfl ?_
      refine (c.sl (i := 6) rfl).sl.fld rfl (i := 0) (x := it) rfl rfl (j := 1) rfl ?_
      rw [eqI, vb_some]
      refine c.sto1 4 rfl true rfl rfl fun h2 c => ?_
      show Vb (fa 5 (at0 rx)) _
      refine (c.va (i := 3) rfl).fld (j := 5) rfl ?_
      refine cs.rwithout (i := 0) (c.sl (i := 6) rfl).sl (by omega) (by rw [List.length_cons]; omega) fun w h3 c2 => ?_
      have c := c.frame0 c2
      clear c2
      refine c.stof 3 rfl (j := 5) { x with l := w } rfl (by decide) rfl fun h4 c => ?_
      have hl : ((tl.length : Nat) : Int) = ((it :: tl).length : Nat) - 1 := by rw [List.length_cons]; omega
      refine hk w x.hs tl hs _ σ' h4 hg (T.rem H' hl D') ⟨fun _ => ⟨rfl, rfl⟩, fun h => by omega, fun h => by omega, by omega, fun it2 hit => .inr ⟨it2, List.mem_cons_of_mem _ hit, rfl⟩⟩ (fun _ => ?_) (c.pick [0, 1, 2, 3, 4, 5, 9, 7, 8])
      obtain ⟨P, hP, p1, hPj⟩ := D'.pos rfl
      refine ⟨((it :: tl).length : Int) :: P, by rw [List.length_cons]; omega, fun j j1 jk hj ht => ?_⟩
      have h1 : j ≠ ((it :: tl).length : Int) := fun e => hj (e ▸ List.mem_cons_self ..)
      have h2 : j ∉ P := fun e => hj (List.mem_cons_of_mem _ e)
      rw [← hPj j h2 j1 (by omega)]
      refine H'.P.H.pos j j1 ?_ (by omega)
      rw [hl]; omega
    · refine brd (fun _ => ?_) fun e2 => by exact absurd rfl e2
      refine .here ?_
      rw [eqI, vb_some, br_true, eqI, vb_some, br_true, vb_some]
      refine c.sto1 4 rfl true rfl rfl fun h2 c => ?_
      refine hk x.l x.hs [] hs g σ' h2 hg (by rw [hvw]; exact T) ⟨fun _ => ⟨rfl, rfl⟩, fun h => by omega, fun h => by omega, by omega, fun it2 hit => .inr ⟨it2, hit, rfl⟩⟩ (fun _ => by rw [hvw]; exact .none T.H.P.H) c
  refine Jn1.at (fun v h' => v = .bool (decide (cc.d % 6 = 4 ∨ cc.d % 6 = 5)) ∧ h' = h) ?_ ?_
  · rw [bin_eql, vb_some]
    refine brd (fun e2 => ?_) fun e2 => ?_
    · exact ⟨by rw [decide_eq_true e2, decide_eq_true (.inl e2)], rfl⟩
    · rw [bin_eql, vb_some]
      refine ⟨?_, rfl⟩
      congr 1
      exact decide_eq_decide.2 ⟨fun h => .inr h, fun h => h.resolve_left e2⟩
  rintro v h1 ⟨rfl, rfl⟩
  refine brd (fun e45 => ?_) fun e45 => ?_
  rotate_left
  · -- Push
    have e02 : cc.d % 6 < 3 := by omega
    refine c.getH (i := 3) rfl ?_
    rw [hx, hrt]
    refine (c.va (i := 2) rfl).fld (j := 2) rfl ?_
    refine (c.va (i := 2) rfl).fld (j := 3) rfl ?_
    refine c.last (cs.hpush hr.l) 1 rfl (push_38 G0 W hn hr T.H hc.P hc.V (by omega)) fun t σ' h2 c ⟨hg, hq⟩ => ?_
    unfold uE
    refine ext0t (ext1t ?_)
    refine Jn1.at (fun v h' => v = .bool (decide (32 ≤ l.length ∨ n < (l.length : Int) + 1 + (l.length + 1 + 7) / 8)) ∧ h' = h2) ?_ ?_
    · refine (c.va (i := 3) rfl).fld (j := 5) rfl ?_
      rw [(c.sl (i := 6) rfl).sl.ln, vb_some, bin_geq, vb_some]
      refine brd (fun e2 => ?_) fun e2 => ?_
      · exact ⟨by rw [decide_eq_true (.inl (by omega))], rfl⟩
      · refine (c.va (i := 3) rfl).fld (j := 5) rfl ?_
        rw [(c.sl (i := 6) rfl).sl.ln, vb_some, addI ⟨by omega, by omega⟩, vb_some]
        refine En.vb (fa_add _ _ _) (En.vb (fa_add _ _ _) (En.vb (fa_add _ _ _) (En.vb ((c.va (i := 3) rfl).row.ldc (j := 3) rfl) ?_)))
        refine cs.rnodes ⟨by omega, by omega⟩ ?_
        refine ⟨(c.va (i := 3) rfl).row.ldc (j := 3) rfl, ?_⟩
        rw [hx]
        rw [bin_gtr, vb_some]
        refine ⟨?_, rfl⟩
        congr 1
        exact decide_eq_decide.2 ⟨fun h => .inr h, fun h => h.resolve_left (by omega)⟩
    rintro v h3 ⟨rfl, rfl⟩
    rcases hq with ⟨y, rw', A', fr', out', rfl, hl32, H', D'⟩ | ⟨rfl, hfull, hvw⟩
    · obtain ⟨T', hroom⟩ := T.push H' D'
      refine brd (fun e2 => by omega) fun _ => ?_
      have hyN : isN (p38 n) y := H'.P.N.mem (.inl (by rw [show (((rPut l ⟨cc.P, cc.V, hs.length, hs.length⟩).length : Nat) : Int) = (l.length : Int) + 1 by rw [len_rPut]; omega]; exact (D'.mem y).2 (.inl rfl)))
      have hnd := isN_node H'.P.P.good hyN
      have hyl := node_l hnd
      refine c.getP (i := 3) rfl ?_
      rw [hx]
      refine c.pur (cs.node ⟨by omega, by omega⟩) fun h4 c => ?_
      unfold vN
      refine ext0t (ext1t ?_)
      refine .here ?_
      rw [eqI, vb_some, br_true, hnd]
      refine c.sto1 4 rfl true rfl rfl fun h5 c => ?_
      show Vb (fa 6 (at0 rx)) _
      refine (c.va (i := 3) rfl).fld (j := 6) rfl ?_
      rw [(c.sl (i := 7) rfl).sl.ln, vb_some]
      refine (c.va (i := 3) rfl).fld (j := 5) rfl ?_
      refine (c.va (i := 2) rfl).fld (j := 2) rfl ?_
      refine (c.va (i := 2) rfl).fld (j := 3) rfl ?_
      rw [bldI, vb_some]
      refine cs.rput (c.sl (i := 6) rfl).sl (by omega) fun w h6 c2 => ?_
      have c := c.frame0 c2
      clear c2
      refine c.stof 3 rfl (j := 5) { x with l := w } rfl (by decide) rfl fun h7 c => ?_
      refine (c.va (i := 3) rfl).fld (j := 6) rfl ?_
      refine cs.clone (ws := hs) (by omega) (c.sl (i := 7) rfl).sl fun w2 h8 c2 => ?_
      have c := c.frame0 c2
      clear c2
      refine c.bsl1 EI1 y rfl rfl fun b1 h9 c => ?_
      refine c.ap (xs := hs) 10 rfl (ys := [y]) (c.sl (i := 11) rfl).sl rfl rfl (by simp only [List.length_singleton]; omega) (by simp only [List.length_singleton]; omega) fun w3 h10 c => ?_
      obtain ⟨u3, rfl⟩ := (c.sl (i := 10) rfl).isH
      refine c.stof 3 rfl (j := 6) { x with l := w, hs := u3 } rfl (by decide) rfl fun h11 c => ?_
      refine hk w u3 _ (hs ++ [y]) _ σ' h11 hg T' ⟨fun h => by omega, fun _ _ _ => ⟨y, rfl, rfl⟩, fun h => by omega, by rw [List.length_append]; exact Nat.le_refl _, fun it2 hit => (mem_rPut.1 hit).elim (fun e => .inl (by rw [e])) fun h => .inr ⟨it2, h, rfl⟩⟩ (fun _ => ?_) (c.pick [0, 1, 2, 3, 4, 5, 9, 10, 8])
      obtain ⟨P, hP, p1, hPj⟩ := D'.pos
      refine ⟨P, hP, fun j j1 jk hj ht => ?_⟩
      rw [← hPj j hj j1 jk]
      refine H'.P.H.pos j j1 ?_ (by omega)
      rw [show (((rPut l ⟨cc.P, cc.V, hs.length, hs.length⟩).length : Nat) : Int) = (l.length : Int) + 1 by rw [len_rPut]; omega]; omega
    · have hf := T.full hfull
      refine brd (fun _ => ?_) fun e2 => absurd hf e2
      refine .here ?_
      rw [eqI, vb_some, br_true, eqI, vb_some]
      refine c.sto1 4 rfl true rfl rfl fun h5 c => ?_
      refine hk x.l x.hs l hs g σ' h5 hg (by rw [hvw]; exact T) ⟨fun h => by omega, fun _ h1 h2 => by omega, fun h => by omega, by omega, fun it2 hit => .inr ⟨it2, hit, rfl⟩⟩ (fun _ => by rw [hvw]; exact .none T.H.P.H) c
  · -- Lower, Drop
    refine (c.va (i := 3) rfl).fld (j := 6) rfl ?_
    rw [(c.sl (i := 7) rfl).sl.ln, vb_some, bin_eql, vb_some]
    refine brd (fun e0 => ?_) fun e0 => ?_
    · have hnil : hs = [] := List.eq_nil_of_length_eq_zero (by omega)
      refine hk x.l x.hs l hs g (newS ps) h1 (G0.good W) (by rw [G0.vw]; exact T) ⟨fun h => by omega, fun h => by omega, fun _ i it h => absurd hnil h, by omega, fun it2 hit => .inr ⟨it2, hit, rfl⟩⟩ (fun h => by omega) c
    have hby0 : 0 ≤ byOf cc hs ∧ byOf cc hs < hs.length := by
      unfold byOf
      rw [if_neg (by omega)]
      exact ⟨Int.emod_nonneg _ (by omega), Int.emod_lt_of_pos _ (by omega)⟩
    obtain ⟨bn, hbn⟩ : ∃ bn : Nat, byOf cc hs = bn := ⟨(byOf cc hs).toNat, by omega⟩
    have hbx : hs[bn]? = some (hs[bn]'(by omega)) := List.getElem?_eq_getElem (by omega)
    have hhb := T.H.hb _ (List.getElem_mem (l := hs) (n := bn) (by omega))
    generalize hs[bn]'(by omega) = hh at *
    refine (c.va (i := 3) rfl).fld (j := 5) rfl ?_
    rw [(c.va (i := 5) rfl).one rfl, vb_some]
    refine cs.rfind (c.sl (i := 6) rfl).sl (by omega) fun z0 hz0 => ?_
    refine (c.va (i := 3) rfl).fld (j := 6) rfl ?_
    rw [(c.va (i := 5) rfl).one rfl, vb_some]
    refine (c.sl (i := 7) rfl).sl.one rfl hbx hbn rfl ?_
    refine (c.va (i := 3) rfl).fld (j := 6) rfl ?_
    rw [(c.sl (i := 7) rfl).sl.ln, vb_some]
    -- behind the search
    have fin : ∀ iv : Int, Ix38 m g.A l hh iv → Jn2 (fun e14 v15 h18 =>
                  Vb (bin .lss (.int .i64 iv) (Value.int IntKind.i64 0)) fun v219 =>
                  Br v219 (
                    Vb (bin .eql e14 (Value.int IntKind.i64 10)) fun v221 =>
                    Br v221 (
                      Vb (bin .eql v15 (Value.int IntKind.i64 0)) fun v224 =>
                      Sb (sto 1 (at0 ro) v224 h18) fun h19 =>
                      K (.tuple #[]) h19) (
                      Sb (sto 1 (at0 ro) (Value.bool false) h18) fun h20 =>
                      K (.tuple #[]) h20)) (
                    Vb (fa 0 (at0 rc)) fun v227 =>
                    Vb (ldc v227 h18) fun v228 =>
                    Vb (bin .rem v228 (Value.int IntKind.u8 6)) fun v229 =>
                    Vb (bin .eql v229 (Value.int IntKind.u8 5)) fun v230 =>
                    Br v230 (
                      Jn0 (fun h21 =>
                          Vb (fa 5 (at0 rx)) fun v243 =>
                          Vb (ldc v243 h21) fun v244 =>
                          S.C I.f_simulcastref38_Without [v244, .int .i64 iv] h21 fun v246 h22 =>
                          Vb (fa 5 (at0 rx)) fun v247 =>
                          Sb (sto 1 v247 v246 h22) fun h23 =>
                          K (.tuple #[]) h23) fun J6 =>
                      Vb (bin .eql e14 (Value.int IntKind.i64 0)) fun v232 =>
                      Br v232 (
                        Vb (fa 5 (at0 rx)) fun v235 =>
                        Vb (ldc v235 h18) fun v236 =>
                        Vb (ixs 4 v236 (.int .i64 iv)) fun v238 =>
                        Vb (fa 1 v238) fun v239 =>
                        Vb (ldc v239 h18) fun v240 =>
                        Vb (bin .eql v15 v240) fun v241 =>
                        Sb (sto 1 (at0 ro) v241 h18) fun h24 =>
                        J6 h24) (
                        Sb (sto 1 (at0 ro) (Value.bool false) h18) fun h25 =>
                        J6 h25)) (
                      Vb (fa 2 (at0 rc)) fun v249 =>
                      Vb (ldc v249 h18) fun v250 =>
                      Vb (fa 5 (at0 rx)) fun v251 =>
                      Vb (ldc v251 h18) fun v252 =>
                      Vb (ixs 4 v252 (.int .i64 iv)) fun v254 =>
                      Vb (fa 0 v254) fun v255 =>
                      Vb (ldc v255 h18) fun v256 =>
                      Vb (bin .gtr v250 v256) fun v257 =>
                      Br v257 (
                        Vb (bin .eql e14 (Value.int IntKind.i64 4)) fun v259 =>
                        Sb (sto 1 (at0 ro) v259 h18) fun h26 =>
                        K (.tuple #[]) h26) (
                        Vb (fa 5 (at0 rx)) fun v200 =>
                        Vb (ldc v200 h18) fun v201 =>
                        Vb (ixs 4 v201 (.int .i64 iv)) fun v203 =>
                        Vb (lda 4 v203 h18) fun v204 =>
                        Eb (nw #[Value.int IntKind.i64 0, Value.int IntKind.i64 0, Value.int IntKind.i64 0, Value.int IntKind.i64 0] I.t_simulcastref38_Item h18) fun it16 h27 =>
                        Sb (sto 4 it16 v204 h27) fun h28 =>
                        Vb (fa 2 (at0 rc)) fun v205 =>
                        Vb (ldc v205 h28) fun v206 =>
                        Vb (fa 0 it16) fun v207 =>
                        Sb (sto 1 v207 v206 h28) fun h29 =>
                        Vb (bin .eql e14 (Value.int IntKind.i64 0)) fun v209 =>
                        Sb (sto 1 (at0 ro) v209 h29) fun h30 =>
                        Vb (fa 5 (at0 rx)) fun v210 =>
                        Vb (ldc v210 h30) fun v211 =>
                        Vb (lda 4 it16 h30) fun v214 =>
                        S.C I.f_simulcastref38_Without [v211, .int .i64 iv] h30 fun v213 h31 =>
                        lda 4 it16 h31 = some v214 ∧
                        S.C I.f_simulcastref38_Put [v213, v214] h31 fun v215 h32 =>
                        Vb (fa 5 (at0 rx)) fun v216 =>
                        Sb (sto 1 v216 v215 h32) fun h33 =>
                        K (.tuple #[]) h33)))) fun J5 =>
              Vb (fa 0 (at0 rc)) fun v181 =>
              Vb (ldc v181 h1) fun v182 =>
              Vb (bin .rem v182 (Value.int IntKind.u8 6)) fun v183 =>
              Vb (bin .eql v183 (Value.int IntKind.u8 4)) fun v184 =>
              Br v184 (
                Vb (fa 1 (at0 rx)) fun v185 =>
                Vb (lda 4 v185 h1) fun v186 =>
                Vb (fa 2 (at0 rc)) fun v189 =>
                Vb (ldc v189 h1) fun v190 =>
                S.C I.f_heap_Heap_Lower [v186, s, .int .i64 hh, v190] h1 fun v191 h34 =>
                J5 v191 (Value.int IntKind.i64 0) h34) (
                Vb (fa 1 (at0 rx)) fun v193 =>
                Vb (lda 4 v193 h1) fun v194 =>
                S.C I.f_heap_Heap_Drop [v194, s, .int .i64 hh] h1 fun v197 h35 =>
                Vb (ext 0 v197) fun v198 =>
                Vb (ext 1 v197) fun v199 =>
                J5 v199 v198 h35) := by
      intro iv hiv
      -- the item that the call names is the handle's
      have hname : ∀ (i : Nat) (it : Im), l[i]? = some it → it.B = byOf cc hs → it = itm m hh ∧ Mem l.length g.A hh := fun i it hi hB => by
        obtain ⟨y, hy, rfl⟩ := (T.H.mem it).1 (List.mem_of_getElem? hi)
        have hB : m (y + 2) = byOf cc hs := hB
        have h2 := (T.H.hnd y hy).2
        rw [hB, hbn, Int.toNat_natCast, hbx] at h2
        injection h2 with h2
        subst h2
        exact ⟨rfl, hy⟩
      refine .here ?_
      refine (c.va (i := 2) rfl).fld (j := 0) rfl ?_
      rw [remI hd.1 (by decide), vb_some, bin_eql, vb_some]
      refine brd (fun e4 => ?_) fun e4 => ?_
      · -- Lower
        refine c.getH (i := 3) rfl ?_
        rw [hx, hrt]
        refine (c.va (i := 2) rfl).fld (j := 2) rfl ?_
        refine c.last (cs.hlow hr.l ⟨by omega, by omega⟩) 1 rfl (low_38 G0 W hn hr T.H hc.P) fun t σ' h2 c ⟨hg, hq⟩ => ?_
        unfold uI
        show Vb (bin .lss (.int .i64 iv) (.int .i64 0)) _
        rw [bin_lss, vb_some]
        rcases hq with ⟨rfl, hm, hle, hH⟩ | ⟨rfl, hm, hlt, hvw⟩ | ⟨rfl, hm, hvw⟩
        · rcases hiv with ⟨i, rfl, hi, _⟩ | ⟨_, hm2⟩
          · obtain ⟨A', H'⟩ := hH i hi
            have hil := (List.getElem?_eq_some_iff.1 hi).1
            refine brd (fun e2 => by omega) fun _ => ?_
            refine (c.va (i := 2) rfl).fld (j := 0) rfl ?_
            rw [remI hd.1 (by decide), vb_some, bin_eql, vb_some]
            refine brd (fun e5 => by omega) fun _ => ?_
            refine (c.va (i := 2) rfl).fld (j := 2) rfl ?_
            refine (c.va (i := 3) rfl).fld (j := 5) rfl ?_
            refine (c.sl (i := 6) rfl).sl.fld rfl hi rfl (j := 0) rfl ?_
            rw [bin_gtr, vb_some]
            refine brd (fun e6 => by have e6 : m (hh + 0) < cc.P := e6; omega) fun _ => ?_
            refine (c.va (i := 3) rfl).fld (j := 5) rfl ?_
            refine (c.sl (i := 6) rfl).sl.whole rfl hi rfl ?_
            refine c.nw EIm ⟨0, 0, 0, 0⟩ rfl fun ri h3 c => ?_
            refine c.sto 9 rfl (itm m hh) rfl rfl fun h4 c => ?_
            refine (c.va (i := 2) rfl).fld (j := 2) rfl ?_
            refine c.stof 9 rfl (j := 0) { itm m hh with P := cc.P } rfl (by decide) rfl fun h5 c => ?_
            rw [eqI, vb_some]
            refine c.sto1 4 rfl true rfl rfl fun h6 c => ?_
            refine (c.va (i := 3) rfl).fld (j := 5) rfl ?_
            rw [show lda 4 (at0 ri) h6 = some (vIm { itm m hh with P := cc.P }) from (c.va (i := 9) rfl).whole rfl, vb_some]
            refine cs.rwithout (c.sl (i := 6) rfl).sl (by omega) hil fun w h7 c2 => ?_
            have c := c.frame0 c2
            clear c2
            refine ⟨(c.va (i := 9) rfl).whole rfl, ?_⟩
            refine cs.rput (c.sl (i := 10) rfl).sl (by rw [List.length_eraseIdx]; split <;> omega) fun w2 h8 c2 => ?_
            have c := c.frame0 c2
            clear c2
            refine c.stof 3 rfl (j := 5) { x with l := w2 } rfl (by decide) rfl fun h9 c => ?_
            have hlen : (((rPut (l.eraseIdx i) ⟨cc.P, m (hh + 1), m (hh + 2), m (hh + 2)⟩).length : Nat) : Int) = l.length := by rw [len_rPut, List.length_eraseIdx, if_pos hil]; omega
            refine hk w2 x.hs _ hs ⟨g.rw, A', g.fr, g.out⟩ σ' h9 hg ⟨H', ?_⟩ ⟨fun h => by omega, fun h => by omega, fun _ i2 it _ hi2 hB hP => ?_, by omega, fun it2 hit => (mem_rPut.1 hit).elim (fun e => .inr ⟨_, List.mem_of_getElem? hi, by rw [e]; rfl⟩) fun h => .inr ⟨it2, List.mem_of_mem_eraseIdx h, rfl⟩⟩ (fun h => by omega) (c.pick [0, 1, 2, 3, 4, 5, 11, 7, 8])
            · rw [hlen]; exact T.cnt
            · obtain ⟨e7, _⟩ := hname i2 it hi2 hB
              subst e7
              have := T.H.srt.inj hi hi2
              subst this
              exact ⟨rfl, rfl⟩
          · exact absurd hm hm2
        · rcases hiv with ⟨i, rfl, hi, _⟩ | ⟨_, hm2⟩
          · refine brd (fun e2 => by omega) fun _ => ?_
            refine (c.va (i := 2) rfl).fld (j := 0) rfl ?_
            rw [remI hd.1 (by decide), vb_some, bin_eql, vb_some]
            refine brd (fun e5 => by omega) fun _ => ?_
            refine (c.va (i := 2) rfl).fld (j := 2) rfl ?_
            refine (c.va (i := 3) rfl).fld (j := 5) rfl ?_
            refine (c.sl (i := 6) rfl).sl.fld rfl hi rfl (j := 0) rfl ?_
            rw [bin_gtr, vb_some]
            refine brd (fun _ => ?_) fun e6 => by exact absurd hlt e6
            rw [eqI, vb_some]
            refine c.sto1 4 rfl true rfl rfl fun h6 c => ?_
            refine hk x.l x.hs l hs g σ' h6 hg (by rw [hvw]; exact T) ⟨fun h => by omega, fun h => by omega, fun _ i2 it _ hi2 hB hP => ?_, by omega, fun it2 hit => .inr ⟨it2, hit, rfl⟩⟩ (fun h => by omega) c
            obtain ⟨e7, _⟩ := hname i2 it hi2 hB
            subst e7
            have hP : cc.P ≤ m (hh + 0) := hP
            omega
          · exact absurd hm hm2
        · rcases hiv with ⟨i, rfl, hi, hm2⟩ | ⟨rfl, _⟩
          · exact absurd hm2 hm
          · refine brd (fun _ => ?_) fun e2 => by omega
            rw [eqI, vb_some, br_true, eqI, vb_some]
            refine c.sto1 4 rfl true rfl rfl fun h6 c => ?_
            refine hk x.l x.hs l hs g σ' h6 hg (by rw [hvw]; exact T) ⟨fun h => by omega, fun h => by omega, fun _ i2 it _ hi2 hB hP => absurd (hname i2 it hi2 hB).2 hm, by omega, fun it2 hit => .inr ⟨it2, hit, rfl⟩⟩ (fun h => by omega) c
      · -- Drop
        refine c.getH (i := 3) rfl ?_
        rw [hx, hrt]
        refine c.last (cs.hdrop hr.l ⟨by omega, by omega⟩) 1 rfl (drop_38 (x := hh) G0 W hn hr T.H) fun t σ' h2 c ⟨hg, hq⟩ => ?_
        unfold uE
        refine ext0t (ext1t ?_)
        show Vb (bin .lss (.int .i64 iv) (.int .i64 0)) _
        rw [bin_lss, vb_some]
        rcases hq with ⟨rfl, hm, qq, A', fr', hH, D'⟩ | ⟨rfl, hm, hvw⟩
        · rcases hiv with ⟨i, rfl, hi, _⟩ | ⟨_, hm2⟩
          · have H' := hH i hi
            have hil := (List.getElem?_eq_some_iff.1 hi).1
            refine brd (fun e2 => by omega) fun _ => ?_
            refine (c.va (i := 2) rfl).fld (j := 0) rfl ?_
            rw [remI hd.1 (by decide), vb_some, bin_eql, vb_some]
            refine brd (fun _ => ?_) fun e5 => by omega
            refine .here ?_
            rw [eqI, vb_some, br_true]
            refine (c.va (i := 3) rfl).fld (j := 5) rfl ?_
            refine (c.sl (i := 6) rfl).sl.fld rfl hi rfl (j := 1) rfl ?_
            refine En.vb (v := .bool true) (eqI (m (hh + 1))) ?_
            refine c.sto1 4 rfl true rfl rfl fun h6 c => ?_
            show Vb (fa 5 (at0 rx)) _
            refine (c.va (i := 3) rfl).fld (j := 5) rfl ?_
            refine cs.rwithout (c.sl (i := 6) rfl).sl (by omega) hil fun w h7 c2 => ?_
            have c := c.frame0 c2
            clear c2
            refine c.stof 3 rfl (j := 5) { x with l := w } rfl (by decide) rfl fun h9 c => ?_
            refine hk w x.hs _ hs _ σ' h9 hg (T.rem H' (by rw [List.length_eraseIdx, if_pos hil]; omega) D') ⟨fun h => by omega, fun h => by omega, fun h => by omega, by omega, fun it2 hit => .inr ⟨it2, List.mem_of_mem_eraseIdx hit, rfl⟩⟩ (fun h => by omega) (c.pick [0, 1, 2, 3, 4, 5, 9, 7, 8])
          · exact absurd hm hm2
        · rcases hiv with ⟨i, rfl, hi, hm2⟩ | ⟨rfl, _⟩
          · exact absurd hm2 hm
          · refine brd (fun _ => ?_) fun e2 => by omega
            rw [eqI, vb_some, br_true, eqI, vb_some]
            refine c.sto1 4 rfl true rfl rfl fun h6 c => ?_
            refine hk x.l x.hs l hs g σ' h6 hg (by rw [hvw]; exact T) ⟨fun h => by omega, fun h => by omega, fun h => by omega, by omega, fun it2 hit => .inr ⟨it2, hit, rfl⟩⟩ (fun h => by omega) c
    refine Lp2.by (fun (z : Int × Nat) u w h' => u = .int .i64 z.1 ∧ w = .int .i64 z.2 ∧ z.2 ≤ hs.length ∧ h' = h1 ∧ ((∃ i : Nat, z.1 = i ∧ l[i]? = some (itm m hh) ∧ Mem l.length g.A hh) ∨ (z.1 = -1 ∧ ∀ y, Mem l.length g.A y → m (y + 2) < z.2 → y ≠ hh))) (fun z => hs.length - z.2) (z0, 0) ⟨rfl, rfl, Nat.zero_le _, rfl, ?_⟩ ?_
    · rcases T.H.find hz0 with ⟨i, y, rfl, hi, hy, _, _, h2⟩ | ⟨rfl, _⟩
      · rw [hbn, Int.toNat_natCast, hbx] at h2
        injection h2 with h2
        subst h2
        exact .inl ⟨i, rfl, hi, hy⟩
      · exact .inr ⟨rfl, fun y hy h2 => by have := (T.H.hnd y hy).1; dsimp only at h2; omega⟩
    rintro ⟨iv, q⟩ u w h2 ⟨rfl, rfl, hq, rfl, hinv⟩ again hagain
    dsimp only at *
    rw [bin_lss, vb_some]
    refine brd (fun e2 => ?_) fun e2 => ?_
    · have hlt : q < hs.length := by omega
      have hgx : hs[q]? = some hs[q] := List.getElem?_eq_getElem hlt
      generalize hs[q] = gq at *
      refine .here ?_
      refine (c.sl (i := 7) rfl).sl.one rfl hgx rfl rfl ?_
      refine (c.va (i := 3) rfl).fld (j := 5) rfl ?_
      refine cs.rfind (c.sl (i := 6) rfl).sl (by omega) fun zq hzq => ?_
      refine Jn1.at (fun v h' => v = .bool (decide (iv < 0 ∧ gq = hh ∧ 0 ≤ zq)) ∧ h' = h2) ?_ ?_
      · rw [bin_lss, vb_some]
        refine brd (fun e3 => ?_) fun e3 => ?_
        · rw [bin_eql, vb_some]
          refine brd (fun e4 => ?_) fun e4 => ?_
          · rw [bin_geq, vb_some]
            refine ⟨?_, rfl⟩
            congr 1
            exact decide_eq_decide.2 ⟨fun h => ⟨e3, e4, h⟩, fun h => h.2.2⟩
          · exact ⟨by rw [decide_eq_false fun h => e4 h.2.1], rfl⟩
        · exact ⟨by rw [decide_eq_false fun h => e3 h.1], rfl⟩
      rintro v h3 ⟨rfl, rfl⟩
      have next : ∀ iv' : Int, ((∃ i : Nat, iv' = i ∧ l[i]? = some (itm m hh) ∧ Mem l.length g.A hh) ∨ (iv' = -1 ∧ ∀ y, Mem l.length g.A y → m (y + 2) < ((q + 1 : Nat) : Int) → y ≠ hh)) → Vb (bin .add (.int .i64 (q : Int)) (.int .i64 1)) fun w => again (.int .i64 iv') w h3 := fun iv' hi => by
        rw [bin_add, vb_some, wrS (by omega)]
        exact hagain (iv', q + 1) _ _ _ ⟨rfl, rfl, by dsimp only; omega, rfl, hi⟩ (by dsimp only; omega)
      refine brd (fun e3 => ?_) fun e3 => ?_
      · refine next zq (.inl ?_)
        rcases T.H.find hzq with ⟨i, y, rfl, hi, hy, _, _, h4⟩ | ⟨rfl, _⟩
        · rw [Int.toNat_natCast, hgx] at h4
          injection h4 with h4
          rw [e3.2.1] at h4
          subst h4
          exact ⟨i, rfl, hi, hy⟩
        · have := e3.2.2; omega
      · refine next iv (hinv.imp id fun ⟨h4, h5⟩ => ⟨h4, fun y hy hlt2 ey => ?_⟩)
        by_cases e5 : m (y + 2) < q
        · exact h5 y hy e5 ey
        · have e6 : m (y + 2) = (q : Int) := by omega
          have h6 := (T.H.hnd y hy).2
          rw [e6, Int.toNat_natCast, hgx] at h6
          injection h6 with h6
          subst ey
          rcases T.H.find hzq with ⟨i, y2, rfl, _⟩ | ⟨_, h7⟩
          · exact e3 ⟨by omega, h6, by omega⟩
          · exact h7 y hy e6
    · refine fin iv (hinv.imp id fun ⟨h4, h5⟩ => ⟨h4, fun hm => ?_⟩)
      have h6 := T.H.hnd hh hm
      have := (List.getElem?_eq_some_iff.1 h6.2).1
      exact h5 hh hm (by omega) rfl
end
end Go.En
namespace Go.En
open Prog Spc Go.Sort

variable {S : Sys} {I : Ids} {h h0 h' : Hp} {F F0 : Fp} {R : Value → Hp → Prop} {L : List Res} {s : Value} {σ τ : Spc}
theorem ext3 {x y z : Value} {k : Value → Value → Value → Prop} (hk : k x y z) : Vb (ext 0 (.tuple #[x, y, z])) fun a => Vb (ext 1 (.tuple #[x, y, z])) fun b => Vb (ext 2 (.tuple #[x, y, z])) fun c => k a b c := ext0r (ext1r (ext2r hk))
structure CsV5 (S : Sys) (I : Ids) : Prop extends CsV4 S I where
  alike : ∀ {ps qs : List (Int × W3)} {m : Int → Int} {V V' : Int} {av bv : Value} {L F h0 h R}, WoR 384 ps m V → WoR 384 qs m V' → Cx F h0 h (rMp .i64 mW av ps :: rMp .i64 mW bv qs :: L) → (∀ h', Cx F h0 h' (rMp .i64 mW av ps :: rMp .i64 mW bv qs :: L) → R (.bool true) h') → S.C I.f_simulcastlaw33_Alike [av, bv] h R
  uis1 : ∀ {s a b : Value} {h K}, F_simulcastlaw38_is_1 S I s a b h K → S.C I.f_simulcastlaw38_is_1 [s, a, b] h K
section
variable {x : X38} {cc : C38} {n : Int} {ps : List (Int × W3)} {m : Int → Int} {V : Int} {wv : Value} {rx ro : Nat} {l : List Im} {hs : List Int} {g : G38} {X : Res} {K : Value → Hp → Prop}
set_option maxHeartbeats 1600000 in
theorem K_step (cs : CsV4 S I) (H : S38 n x ps m V l hs g) (hV : V < 4294967295) (hc : cc.ok) (hh60 : hs.length ≤ 60) (c : Cx F h h (L38 x ps l hs))
    (hR : ∀ x' ps' m' l' hs' g' h3, S38 n x' ps' m' (V + 1) l' hs' g' → Step38 n cc l hs l' hs' → (cc.d % 6 ≤ 3 → FewP (cc.d % 6 == 3) l.length g.A m') → Cx F h h3 (rMp .i64 mW (.map x.k) ps :: L38 x' ps' l' hs') → R (.tuple #[vSt x', .bool true]) h3) : F_simulcastlaw38_step S I (vSt x) (vC8 cc) h R := by
  unfold F_simulcastlaw38_step
  refine c.nw ESt x rfl fun rx h1 c => ?_
  refine c.nw EC8 cc rfl fun rc h2 c => ?_
  refine c.nw ESt X0 rfl fun r4 h3 c => ?_
  refine c.nw EB1 false rfl fun ro h4 c => ?_
  refine c.sto1 6 rfl true rfl rfl fun h5 c => ?_
  refine c.nw EI1 0 rfl fun rb h6 c => ?_
  refine c.sto1 7 rfl 0 rfl rfl fun h7 c => ?_
  refine Jn0.at (fun h' => Cx F h h' [rMp .i64 mW (.map x.k) ps, rVar EC8 rc cc, rVar ESt rx x, rVar EB1 ro true, rVar EI1 rb (byOf cc hs), rSl EIm (shV x.l) l, rSl EI1 (shV x.hs) hs, rVar ESt r4 X0]) ?_ ?_
  · refine (c.va (i := 3) rfl).fld (j := 6) rfl ?_
    rw [(c.sl (i := 2) rfl).sl.ln, vb_some, bin_gtr, vb_some]
    refine brd (fun e => ?_) fun e => ?_
    · refine (c.va (i := 4) rfl).fld (j := 1) rfl ?_
      have hb := hc.b
      rw [cvi_int, vb_some, wr64 ⟨by omega, by omega⟩]
      refine (c.va (i := 3) rfl).fld (j := 6) rfl ?_
      rw [(c.sl (i := 2) rfl).sl.ln, vb_some, remI hb.1 (by omega), vb_some]
      refine c.sto1 7 rfl (byOf cc hs) rfl (by unfold byOf; rw [if_neg (by omega)]; rfl) fun h8 c => ?_
      exact c.pick [0, 4, 3, 6, 7, 1, 2, 5]
    · have e0 : byOf cc hs = 0 := by unfold byOf; rw [if_pos (by omega)]
      rw [e0]
      exact c.pick [0, 4, 3, 6, 7, 1, 2, 5]
  clear c
  intro h8 c
  refine (c.va (i := 2) rfl).fld (j := 0) rfl ?_
  rw [vb_some]
  refine cs.done (G := fun L' σ' => ∃ u w l' hs' g', Good 384 ps σ' ∧ T38 n σ'.vw l' hs' g' ∧ Step38 n cc l hs l' hs' ∧ (cc.d % 6 ≤ 3 → FewP (cc.d % 6 == 3) l.length g.A σ'.vw) ∧ L' = [rVar EC8 rc cc, rVar ESt rx { x with l := u, hs := w }, rVar EB1 ro true, rVar EI1 rb (byOf cc hs), rSl EIm (shV u) l', rSl EI1 (shV w) hs', rVar ESt r4 X0])
    (by decide) H.W hV (fun L' σ' ⟨_, _, _, _, _, hg, _⟩ => hg) c (fun s h1 K c k => ?_) fun L' σ' ps' nv ev h9 ⟨u, w, l', hs', g', hg, T', St', Fe', eL⟩ W' c => ?_
  · refine .inl ⟨_, _, _, rfl, cs.ustep1 (K_step1 cs H.p H.r H.nn hc H.W H.T hh60 c fun u w l' hs' g' σ' h2 hg T' St' Fe' c => k _ _ h2 ⟨u, w, l', hs', g', hg, T', St', Fe', rfl⟩ c)⟩
  subst eL
  obtain ⟨k2, rfl⟩ : ∃ k2, nv = .map k2 := by
    obtain ⟨r, es, clock, e, _⟩ := c.mp (i := 1) rfl
    exact ⟨_, e⟩
  refine ext3 ?_
  refine c.stof 4 rfl (j := 0) { x with k := k2, l := u, hs := w } rfl (by decide) rfl fun h10 c => ?_
  refine .here ?_
  rw [show lda 7 (at0 rx) h10 = some (vSt { x with k := k2, l := u, hs := w }) from (c.va (i := 4) rfl).whole rfl, vb_some, (c.va (i := 5) rfl).one rfl, vb_some, br_true]
  refine c.sto 9 rfl { x with k := k2, l := u, hs := w } rfl rfl fun h11 c => ?_
  show Vb (lda 7 (at0 r4) h11) _
  rw [show lda 7 (at0 r4) h11 = some (vSt { x with k := k2, l := u, hs := w }) from (c.va (i := 9) rfl).whole rfl, vb_some]
  exact hR { x with k := k2, l := u, hs := w } ps' σ'.vw l' hs' g' h11 ⟨H.p, H.r, H.nn, W', T'⟩ St' Fe' (c.pick [0, 1, 7, 8])
set_option maxHeartbeats 1600000 in
theorem K_is1 (cs : CsV5 S I) (H : S38 n x ps m V l hs g)
    (c : Cx F h0 h [rMp .i64 mW wv ps, rSpace s (newS ps), rVar ESt rx x, rVar EB1 ro true, rSl EIm (shV x.l) l, X])
    (hk : ∀ σ' h2, Rd38 ps m σ' → Cx F h0 h2 [rMp .i64 mW wv ps, rSpace s σ', rVar ESt rx x, rVar EB1 ro true, rSl EIm (shV x.l) l, X] → K (.tuple #[]) h2) :
    F_simulcastlaw38_is_1 S I s (at0 rx) (at0 ro) h K := by
  have hn := H.nn
  have hr : R38 (16 : Int) := .inl rfl
  have X0' := H.T.H
  have k32 := X0'.P.k32
  unfold F_simulcastlaw38_is_1
  refine c.getH (i := 2) rfl ?_
  rw [H.p, H.r]
  obtain ⟨F1, c1, up⟩ := c.frame (i := 1) rfl
  refine cs.hwalk (p := p38 n) (J := Rd38 ps m) (Qo := fun o => o = some (allA g.A l.length)) hr.l (Rd38.jm hn) c1 (walk_38 H.W.rd38 hn hr X0') fun o C σ1 v h1 M R1 eo _ hC c1 => ?_
  subst eo
  obtain ⟨hCp, hCs⟩ := hC _ rfl
  have hsame := X0'.same hCp hCs
  have hpairs : C.map (fun x => (m (x + 0), m (x + 1))) = l.map fun it => (it.P, it.V) := by
    rw [← hsame, List.map_map]; rfl
  rw [hpairs] at c1
  clear hCp hCs hC hsame hpairs
  have c := up c1
  clear c1 up
  have c : Cx F h0 h1 [rMp .i64 mW wv ps, rSpace s σ1, rVar ESt rx x, rVar EB1 ro true, rSl EIm (shV x.l) l, X, rSl EPt v (l.map fun it => (it.P, it.V))] := c.pick [0, 1, 2, 3, 4, 5, 6]
  refine ext0t (ext1t ?_)
  refine c.getH (i := 2) rfl ?_
  rw [H.p, H.r]
  refine c.last (cs.hmin hr.l) 1 rfl (min_38 R1 hn hr X0') fun t σ2 h2 c ⟨R2, et⟩ => ?_
  subst et
  unfold uR3
  refine ext3 ?_
  refine Jn0.at (fun h' => ∃ σ', Rd38 ps m σ' ∧ Cx F h0 h' [rMp .i64 mW wv ps, rSpace s σ', rVar ESt rx x, rVar EB1 ro true, rSl EIm (shV x.l) l, X, rSl EPt v (l.map fun it => (it.P, it.V))]) ?_ ?_
  · rw [show (if (some (allA g.A l.length)).isSome = true then (0 : Int) else 24) = 0 from rfl, eqI, vb_some, br_true]
    rw [(c.sl (i := 6) rfl).sl.ln, vb_some, List.length_map]
    refine (c.va (i := 2) rfl).fld (j := 5) rfl ?_
    rw [(c.sl (i := 4) rfl).sl.ln, vb_some, eqI, vb_some, br_true]
    refine c.getH (i := 2) rfl ?_
    rw [H.p, H.r]
    refine En.vb (fa_add _ _ _) (En.vb ((c.va (i := 2) rfl).row.ldc (j := 5) rfl) ?_)
    rw [(c.sl (i := 4) rfl).sl.ln, vb_some]
    refine c.last (cs.hlen hr.l) 1 rfl (R2.get (hr.D 0 (by decide) (by decide))) fun e σ3 h4 c ⟨R3, ee⟩ => ?_
    subst ee
    refine ⟨(c.va (i := 2) rfl).row.ldc (j := 5) rfl, ?_⟩
    unfold uI
    rw [X0'.P.sz, eqI, vb_some, br_true]
    refine En.vb (fa_add _ _ _) (En.vb ((c.va (i := 2) rfl).row.ldc (j := 5) rfl) ?_)
    rw [(c.sl (i := 4) rfl).sl.ln, vb_some]
    refine c.last cs.get 1 rfl (R3.get (hr.D 7 (by decide) (by decide))) fun e σ4 h5 c ⟨R4, ee⟩ => ?_
    subst ee
    refine ⟨(c.va (i := 2) rfl).row.ldc (j := 5) rfl, ?_⟩
    refine cs.rnodes ⟨by omega, by omega⟩ ?_
    unfold uI
    rw [show m 23 = (l.length : Int) + (l.length + 7) / 8 from X0'.P.hl, eqI, vb_some]
    refine c.sto1 3 rfl true rfl rfl fun h6 c => ?_
    exact ⟨σ4, R4, c⟩
  clear c R1 R2
  rintro h3 ⟨σ', R4, c⟩
  refine Lp1.by (fun (i : Nat) u h' => u = .int .i64 i ∧ i ≤ l.length ∧ Cx F h0 h' [rMp .i64 mW wv ps, rSpace s σ', rVar ESt rx x, rVar EB1 ro true, rSl EIm (shV x.l) l, X, rSl EPt v (l.map fun it => (it.P, it.V))]) (fun i => l.length - i) 0 ⟨rfl, Nat.zero_le _, c⟩ ?_
  clear c
  rintro i u h4 ⟨rfl, hi, c⟩ again hagain
  refine Jn1.at (fun v h' => v = .bool (decide (i < l.length)) ∧ h' = h4) ?_ ?_
  · rw [(c.va (i := 3) rfl).one rfl, vb_some, br_true, (c.sl (i := 6) rfl).sl.ln, vb_some, List.length_map, bin_lss, vb_some]
    exact ⟨by congr 1; exact decide_eq_decide.2 (by omega), rfl⟩
  rintro v' h5 ⟨rfl, rfl⟩
  refine brd (fun e => ?_) fun e => ?_
  · have hx : l[i]? = some l[i] := List.getElem?_eq_getElem e
    generalize l[i] = it at *
    refine (c.sl (i := 6) rfl).sl.whole rfl (i := i) (x := (it.P, it.V)) (by rw [List.getElem?_map, hx]; rfl) rfl ?_
    refine (c.va (i := 2) rfl).fld (j := 5) rfl ?_
    refine (c.sl (i := 4) rfl).sl.fld rfl hx rfl (j := 0) rfl ?_
    refine (c.va (i := 2) rfl).fld (j := 5) rfl ?_
    refine (c.sl (i := 4) rfl).sl.fld rfl hx rfl (j := 1) rfl ?_
    rw [bldK, vb_some]
    have ee : eqA [true, true] (Value.agg (EPt.c (it.P, it.V)).toArray) (mK (it.P, it.V)) = some true := by
      have := eqA_K (it.P, it.V) (it.P, it.V)
      rw [decide_eq_true rfl] at this
      exact this
    rw [ee]
    refine En.vb (v := .bool true) rfl ?_
    refine c.sto1 3 rfl true rfl rfl fun h6 c => ?_
    rw [bin_add, vb_some, wrS (by omega)]
    exact hagain (i + 1) _ _ ⟨rfl, by omega, c⟩ (by omega)
  · refine Jn0.at (fun h' => Cx F h0 h' [rMp .i64 mW wv ps, rSpace s σ', rVar ESt rx x, rVar EB1 ro true, rSl EIm (shV x.l) l, X, rSl EPt v (l.map fun it => (it.P, it.V))]) ?_ ?_
    · refine (c.va (i := 2) rfl).fld (j := 5) rfl ?_
      rw [(c.sl (i := 4) rfl).sl.ln, vb_some, bin_eql, vb_some]
      cases l with
      | nil =>
        refine brd (fun _ => ?_) fun e2 => by exact absurd rfl e2
        rw [(c.va (i := 3) rfl).one rfl, vb_some, br_true]
        show Vb (bin .eql (.int .i64 0) (.int .i64 0)) _
        rw [eqI, vb_some, br_true]
        show Vb (bin .eql (.int .i64 0) (.int .i64 0)) _
        rw [eqI, vb_some, br_true]
        show Vb (bin .eql (.int .i64 8) (.int .i64 8)) _
        rw [eqI, vb_some]
        exact c.sto1 3 rfl true rfl rfl fun h6 c => c
      | cons it t =>
        refine brd (fun e2 => by rw [List.length_cons] at e2; omega) fun _ => ?_
        rw [(c.va (i := 3) rfl).one rfl, vb_some, br_true]
        refine (c.va (i := 2) rfl).fld (j := 5) rfl ?_
        refine (c.sl (i := 4) rfl).sl.fld rfl (i := 0) (x := it) rfl rfl (j := 0) rfl ?_
        refine En.vb (v := .bool true) (eqI it.P) ?_
        rw [br_true]
        refine (c.va (i := 2) rfl).fld (j := 5) rfl ?_
        refine (c.sl (i := 4) rfl).sl.fld rfl (i := 0) (x := it) rfl rfl (j := 1) rfl ?_
        refine En.vb (v := .bool true) (eqI it.V) ?_
        rw [br_true]
        refine En.vb (v := .bool true) (eqI 0) ?_
        exact c.sto1 3 rfl true rfl rfl fun h6 c => c
    clear c
    intro h6 c
    rw [(c.va (i := 3) rfl).one rfl, vb_some, br_true]
    refine c.cWrites cs.hh 1 rfl (by rw [R4.pu]; exact Nat.zero_le _) fun wv' h7 c => ?_
    rw [R4.pu] at c
    have e0 : (cpt (sorted (([] : List (Int × Int)).map (·.1)))).length = 0 := by
      have := cpt_len (sorted (([] : List (Int × Int)).map (·.1)))
      rw [sorted_len] at this
      simpa using this
    rw [(c.sl (i := 7) rfl).sl.ln, e0, vb_some]
    refine En.vb (v := .bool true) rfl ?_
    refine c.sto1 3 rfl true rfl rfl fun h8 c => ?_
    exact hk σ' h8 R4 (c.pick [0, 1, 2, 3, 4, 5])
theorem K_is (cs : CsV5 S I) (H : S38 n x ps m V l hs g) (hV : V < 4294967295) (c : Cx F h h (L38 x ps l hs))
    (hR : ∀ h3, Cx F h h3 (L38 x ps l hs) → R (.bool true) h3) : F_simulcastlaw38_is S I (vSt x) h R := by
  unfold F_simulcastlaw38_is
  refine c.nw ESt x rfl fun rx h1 c => ?_
  refine c.nw EB1 false rfl fun ro h2 c => ?_
  refine c.sto1 4 rfl true rfl rfl fun h3 c => ?_
  refine (c.va (i := 3) rfl).fld (j := 0) rfl ?_
  rw [vb_some]
  have c : Cx F h h3 [rMp .i64 mW (.map x.k) ps, rVar ESt rx x, rVar EB1 ro true, rSl EIm (shV x.l) l, rSl EI1 (shV x.hs) hs] := c.pick [0, 3, 4, 1, 2]
  refine cs.done (G := fun L' σ' => Rd38 ps m σ' ∧ L' = [rVar ESt rx x, rVar EB1 ro true, rSl EIm (shV x.l) l, rSl EI1 (shV x.hs) hs]) (by decide) H.W hV (fun L' σ' h => h.1.good H.W) c (fun s h1 K c k => ?_) fun L' σ' ps' nv ev h4 ⟨g', eL⟩ W' c => ?_
  · exact .inl ⟨_, _, _, rfl, cs.uis1 (K_is1 cs H c fun σ' h2 g' c => k _ _ _ ⟨g', rfl⟩ c)⟩
  subst eL
  rw [g'.vw] at W'
  refine ext3 ?_
  refine .here ?_
  rw [(c.va (i := 4) rfl).one rfl, vb_some, br_true, br_true]
  refine (c.va (i := 3) rfl).fld (j := 0) rfl ?_
  have c := c.pick [1, 0, 3, 4, 5, 6]
  refine cs.alike W' H.W c fun h5 c => ?_
  exact hR h5 (c.pick [1, 4, 5])
end
end Go.En
namespace Go.En
open Prog Spc Go.Sort

variable {S : Sys} {I : Ids} {h h0 h' : Hp} {F F0 : Fp} {R : Value → Hp → Prop} {L : List Res} {s : Value} {σ τ : Spc}
theorem K_Equal {l : List Int} {v1 v2 : Value} (H1 : Sl EI1 h v1 l) (H2 : Sl EI1 h v2 l) (hl : l.length ≤ 100000) (hR : R (.bool true) h) : F_slices_Equal_int64_int64 S I v1 v2 h R := by
  unfold F_slices_Equal_int64_int64
  rw [H1.ln, vb_some, H2.ln, vb_some, neI, vb_some, br_false, vb_some]
  refine Lp1.by (fun (i : Nat) v h' => v = .int .i64 i ∧ i ≤ l.length ∧ h' = h) (fun i => l.length - i) 0 ⟨rfl, Nat.zero_le _, rfl⟩ ?_
  rintro i v h3 ⟨rfl, hi, rfl⟩ again hagain
  rw [bin_lss, vb_some]
  refine brd (fun e => ?_) fun e => hR
  have hx : l[i]? = some (l[i]'(by omega)) := List.getElem?_eq_getElem (by omega)
  refine H1.one rfl hx rfl rfl ?_
  refine H2.one rfl hx rfl rfl ?_
  rw [neI, vb_some, br_false, bin_add, vb_some, wrS (by omega)]
  exact hagain (i + 1) _ _ ⟨rfl, by omega, rfl⟩ (by omega)
theorem K_great {b1 : Value} {cl : List C38} (H : Sl EC8 h b1 cl) (hR : R (.bool (decide ((cl.length : Int) > 50))) h) : F_simulcastlaw38_great S I b1 h R := by
  unfold F_simulcastlaw38_great
  rw [H.ln, vb_some, bin_gtr, vb_some]
  exact hR
/-- what calls do to the reference -/
def Run38 (n : Int) : List C38 → List Im → List Int → List Im → List Int → Prop
  | [], l, hs, l', hs' => l' = l ∧ hs' = hs
  | c :: cl, l, hs, l', hs' => ∃ l1 hs1, Step38 n c l hs l1 hs1 ∧ Run38 n cl l1 hs1 l' hs'
theorem run_snoc {n : Int} {c : C38} : ∀ {cl : List C38} {l : List Im} {hs : List Int} {l1 : List Im} {hs1 : List Int} {l' : List Im} {hs' : List Int}, Run38 n cl l hs l1 hs1 → Step38 n c l1 hs1 l' hs' → Run38 n (cl ++ [c]) l hs l' hs'
  | [], l, hs, l1, hs1, l', hs', ⟨h1, h2⟩, h => by subst h1; subst h2; exact ⟨l', hs', h, rfl, rfl⟩
  | d :: cl, l, hs, l1, hs1, l', hs', ⟨a, b, h1, h2⟩, h => ⟨a, b, h1, run_snoc h2 h⟩
structure CsV6 (S : Sys) (I : Ids) : Prop extends CsV5 S I where
  step : ∀ {x : X38} {cc : C38} {n : Int} {ps : List (Int × W3)} {m : Int → Int} {V : Int} {l : List Im} {hs : List Int} {g : G38} {F h R}, S38 n x ps m V l hs g → V < 4294967295 → cc.ok → hs.length ≤ 60 → Cx F h h (L38 x ps l hs) →
    (∀ x' ps' m' l' hs' g' h3, S38 n x' ps' m' (V + 1) l' hs' g' → Step38 n cc l hs l' hs' → (cc.d % 6 ≤ 3 → FewP (cc.d % 6 == 3) l.length g.A m') → Cx F h h3 (rMp .i64 mW (.map x.k) ps :: L38 x' ps' l' hs') → R (.tuple #[vSt x', .bool true]) h3) → S.C I.f_simulcastlaw38_step [vSt x, vC8 cc] h R
  is : ∀ {x : X38} {n : Int} {ps : List (Int × W3)} {m : Int → Int} {V : Int} {l : List Im} {hs : List Int} {g : G38} {F h R}, S38 n x ps m V l hs g → V < 4294967295 → Cx F h h (L38 x ps l hs) → (∀ h3, Cx F h h3 (L38 x ps l hs) → R (.bool true) h3) → S.C I.f_simulcastlaw38_is [vSt x] h R
  fresh : ∀ {h R}, (∀ k h', Cx (fun _ => False) h h' [rMp .i64 mW (.map (some k)) (knF (fun _ => W0) 384)] → R (.map (some k)) h') → S.C I.f_simulcastlaw33_Fresh [.int .i64 384] h R
  made : ∀ {n : Int} {h R}, 0 ≤ n ∧ n ≤ 255 → (∀ h', Gr h h' → R (vHe ⟨1, 64, n % 41⟩ 16) h') → S.C I.f_simulcastlaw38_made [.int .u8 n] h R
  equal : ∀ {l : List Int} {v1 v2 : Value} {h R}, Sl EI1 h v1 l → Sl EI1 h v2 l → l.length ≤ 100000 → R (.bool true) h → S.C I.f_slices_Equal_int64_int64 [v1, v2] h R
section
variable {x : X38} {cc : C38} {n : Int} {ps : List (Int × W3)} {m : Int → Int} {V : Int} {l : List Im} {hs : List Int} {g : G38} {M : List Res}
/-- a call, in a context -/
theorem Cx.cStep (cs : CsV6 S I) (c : Cx F0 h0 h (M ++ L38 x ps l hs)) (H : S38 n x ps m V l hs g) (hV : V < 4294967295) (hc : cc.ok) (hh60 : hs.length ≤ 60)
    (hR : ∀ x' ps' m' l' hs' g' h3, S38 n x' ps' m' (V + 1) l' hs' g' → Step38 n cc l hs l' hs' → (cc.d % 6 ≤ 3 → FewP (cc.d % 6 == 3) l.length g.A m') → Cx F0 h0 h3 (M ++ (rMp .i64 mW (.map x.k) ps :: L38 x' ps' l' hs')) → R (.tuple #[vSt x', .bool true]) h3) : S.C I.f_simulcastlaw38_step [vSt x, vC8 cc] h R := by
  obtain ⟨F1, c1, hF, up⟩ := Cx.frameL (L := M) (M := L38 x ps l hs) c
  exact cs.step H hV hc hh60 c1 fun x' ps' m' l' hs' g' h3 H' St' Fe' c2 => hR x' ps' m' l' hs' g' h3 H' St' Fe' (up c2)
theorem Cx.cIs (cs : CsV6 S I) (c : Cx F0 h0 h (M ++ L38 x ps l hs)) (H : S38 n x ps m V l hs g) (hV : V < 4294967295)
    (hR : ∀ h3, Cx F0 h0 h3 (M ++ L38 x ps l hs) → R (.bool true) h3) : S.C I.f_simulcastlaw38_is [vSt x] h R := by
  obtain ⟨F1, c1, hF, up⟩ := Cx.frameL (L := M) (M := L38 x ps l hs) c
  exact cs.is H hV c1 fun h3 c2 => hR h3 (up c2)
theorem T38.start (hn : 0 ≤ n ∧ n ≤ 40) (hz : ∀ a, m a = 0) : T38 n m [] [] ⟨fun _ => 0, fun _ => 0, [], 0⟩ := by
  have nom : ∀ y, ¬ Mem 0 (fun _ => (0 : Int)) y := fun y ⟨i, i1, i2, _⟩ => by omega
  refine ⟨⟨⟨⟨p38_good hn, hz _, hz _, hz _, Int.le_refl 0, hn.1, (fun x hx => by cases hx), List.nodup_nil⟩, ⟨fun i i1 ik => ?_, fun r r0 r1 => ?_, fun r i r0 r1 => ?_, fun r s r0 r1 => ?_, fun i j i1 ik => ?_⟩, ⟨fun r r0 r1 => ?_, fun i i1 ik => ?_, fun i i1 ik => ?_⟩, Int.le_refl 0, by decide, hz _, hz _, fun r _ _ _ => hz _, fun x hx => ?_, fun i i2 ik => ?_⟩, .nil, fun it => ?_, fun y hy => absurd hy (nom y), hz _, (fun y hy => by cases hy)⟩, rfl⟩
  · have : i ≤ 0 := ik
    omega
  · have : 8 * r < 0 := r1
    omega
  · have : 8 * r < 0 := r1
    omega
  · have : 8 * r < 0 := r1
    omega
  · have : i ≤ 0 := ik
    omega
  · have : 8 * r < 0 := r1
    omega
  · have : i ≤ 0 := ik
    omega
  · have : i ≤ 0 := ik
    omega
  · rcases hx with hx | ⟨r, r0, r1, _⟩
    · exact absurd hx (nom x)
    · have : 8 * r < 0 := r1
      omega
  · have : i ≤ 0 := ik
    omega
  · constructor
    · intro h; cases h
    · rintro ⟨y, hy, _⟩; exact absurd hy (nom y)
set_option maxHeartbeats 1600000 in
theorem K_played {b0 : Value} {cl : List C38} (cs : CsV6 S I) (hn : 0 ≤ n ∧ n ≤ 255) (s0 : Sl EC8 h b0 cl) (w0 : ∀ y ∈ cl, y.ok) (hcl : cl.length ≤ 50)
    (hR : ∀ x ps m l hs g h', S38 (n % 41) x ps m cl.length l hs g → hs.length ≤ cl.length → Run38 (n % 41) cl [] [] l hs → Cx (fun _ => False) h h' (L38 x ps l hs) → R (.tuple #[vSt x, .bool true]) h') : F_simulcastlaw38_played S I (.int .u8 n) b0 h R := by
  have hn' : 0 ≤ n % 41 ∧ n % 41 ≤ 40 := by omega
  unfold F_simulcastlaw38_played
  refine (Cx.start0 h).nw ESt X0 rfl fun r4 h1 c => ?_
  refine cs.fresh fun k h2 c2 => ?_
  have c := c.frame0 c2
  clear c2
  refine cs.made hn fun h3 g => ?_
  have c := c.more g
  refine En.vb (v := vSt ⟨some k, p38 (n % 41), 16, (none, 0, 0), (none, 0, 0)⟩) (by kernel_rfl) ?_
  refine c.nw ESt X0 rfl fun r6 h4 c => ?_
  refine c.sto 2 rfl ⟨some k, p38 (n % 41), 16, (none, 0, 0), (none, 0, 0)⟩ rfl rfl fun h5 c => ?_
  have c := (c.nil EIm).nil EI1
  rw [s0.ln, vb_some]
  have H0 : S38 (n % 41) ⟨some k, p38 (n % 41), 16, (none, 0, 0), (none, 0, 0)⟩ (knF (fun _ => W0) 384) (fun _ => 0) (0 : Nat) [] [] ⟨fun _ => 0, fun _ => 0, [], 0⟩ := ⟨rfl, rfl, hn', WoR.fresh, T38.start hn' fun _ => rfl⟩
  refine Lp1.by (fun (z : Nat × X38 × List (Int × W3) × (Int → Int) × List Im × List Int × G38) v h' => v = .int .i64 z.1 ∧ z.1 ≤ cl.length ∧ S38 (n % 41) z.2.1 z.2.2.1 z.2.2.2.1 z.1 z.2.2.2.2.1 z.2.2.2.2.2.1 z.2.2.2.2.2.2 ∧ z.2.2.2.2.2.1.length ≤ z.1 ∧ Run38 (n % 41) (cl.take z.1) [] [] z.2.2.2.2.1 z.2.2.2.2.2.1 ∧ Cx (fun _ => False) h h' ([rVar ESt r4 X0, rVar ESt r6 z.2.1] ++ L38 z.2.1 z.2.2.1 z.2.2.2.2.1 z.2.2.2.2.2.1)) (fun z => cl.length - z.1)
    (0, ⟨some k, p38 (n % 41), 16, (none, 0, 0), (none, 0, 0)⟩, knF (fun _ => W0) 384, fun _ => 0, [], [], ⟨fun _ => 0, fun _ => 0, [], 0⟩) ⟨rfl, Nat.zero_le _, H0, Nat.zero_le _, ⟨rfl, rfl⟩, c.pick [0, 2, 1, 3, 4]⟩ ?_
  clear c H0 g
  rintro ⟨i, x, ps, m, l, hs, g⟩ v h6 ⟨rfl, hi, H, hlen, hrun, c⟩ again hagain
  dsimp only at *
  rw [bin_lss, vb_some]
  refine brd (fun hlt => ?_) fun hge => ?_
  · have hlt : i < cl.length := by omega
    have hx : cl[i]? = some cl[i] := List.getElem?_eq_getElem hlt
    have hok := w0 cl[i] (List.getElem_mem _)
    have et : cl.take (i + 1) = cl.take i ++ [cl[i]] := by rw [List.take_add_one, hx]; rfl
    generalize cl[i] = cc at *
    refine (s0.gr c.gr).whole rfl hx rfl ?_
    refine c.nw EC8 ⟨0, 0, 0, 0⟩ rfl fun rc h7 c => ?_
    refine c.sto 5 rfl cc rfl rfl fun h8 c => ?_
    rw [show lda 7 (at0 r6) h8 = some (vSt x) from (c.va (i := 1) rfl).whole rfl, vb_some, show lda 4 (at0 rc) h8 = some (vC8 cc) from (c.va (i := 5) rfl).whole rfl, vb_some]
    have c : Cx (fun _ => False) h h8 ([rVar ESt r4 X0, rVar ESt r6 x] ++ L38 x ps l hs) := c.pick [0, 1, 2, 3, 4]
    refine c.cStep cs H (by omega) hok (by omega) fun x' ps' m' l' hs' g' h9 H' St' _ c => ?_
    have hl2 := St'.hl
    refine ext0t (ext1t ?_)
    refine c.nw ESt X0 rfl fun r9 h10 c => ?_
    refine c.sto 6 rfl x' rfl rfl fun h11 c => ?_
    refine .here ?_
    rw [uno_nb, vb_some, Bool.not_true, br_false]
    rw [show lda 7 (at0 r9) h11 = some (vSt x') from (c.va (i := 6) rfl).whole rfl, vb_some]
    have c : Cx (fun _ => False) h h11 ([rVar ESt r4 X0, rVar ESt r6 x, rVar ESt r9 x'] ++ L38 x' ps' l' hs') := c.pick [0, 1, 6, 3, 4, 5]
    refine c.cIs cs H' (by omega) fun h12 c => ?_
    rw [uno_nb, vb_some]
    show Br _ _ _
    rw [Bool.not_true, br_false]
    rw [show lda 7 (at0 r9) h12 = some (vSt x') from (c.va (i := 2) rfl).whole rfl, vb_some]
    refine c.sto 1 rfl x' rfl rfl fun h13 c => ?_
    rw [bin_add, vb_some, wrS (by omega)]
    exact hagain (i + 1, x', ps', m', l', hs', g') _ _ ⟨rfl, by dsimp only; omega, by dsimp only; rw [Int.natCast_add]; exact H', by dsimp only; omega, by dsimp only; rw [et]; exact run_snoc hrun St', c.pick [0, 1, 3, 4, 5]⟩ (by dsimp only; omega)
  · have ei : i = cl.length := by omega
    subst ei
    rw [List.take_length] at hrun
    rw [show lda 7 (at0 r6) h6 = some (vSt x) from (c.va (i := 1) rfl).whole rfl, vb_some]
    refine c.sto 0 rfl x rfl rfl fun h7 c => ?_
    rw [show lda 7 (at0 r4) h7 = some (vSt x) from (c.va (i := 0) rfl).whole rfl, vb_some]
    exact hR x ps m l hs g h7 H hlen hrun (c.pick [2, 3, 4])
end
structure CsV7 (S : Sys) (I : Ids) : Prop extends CsV6 S I where
  played : ∀ {b0 : Value} {cl : List C38} {n : Int} {h R}, 0 ≤ n ∧ n ≤ 255 → Sl EC8 h b0 cl → (∀ y ∈ cl, y.ok) → cl.length ≤ 50 →
    (∀ x ps m l hs g h', S38 (n % 41) x ps m cl.length l hs g → hs.length ≤ cl.length → Run38 (n % 41) cl [] [] l hs → Cx (fun _ => False) h h' (L38 x ps l hs) → R (.tuple #[vSt x, .bool true]) h') → S.C I.f_simulcastlaw38_played [.int .u8 n, b0] h R
  uawk1 : ∀ {s a b : Value} {h K}, F_simulcastlaw38_awake_1 S I s a b h K → S.C I.f_simulcastlaw38_awake_1 [s, a, b] h K
def ESh : Enc SH := { n := 1, c := fun a => [shV a], len := fun _ => rfl, one := fun a v h => by simp only [List.mem_singleton] at h; subst h; rfl }
section
variable {x : X38} {n : Int} {ps : List (Int × W3)} {m : Int → Int} {V : Int} {l : List Im} {hs : List Int} {g : G38} {wv : Value} {rx rg : Nat} {X : Res} {u : SH} {acc : List Int} {K : Value → Hp → Prop}
theorem K_awk1 (cs : CsV7 S I) (hx : x.p = p38 n) (hrt : x.root = 16) (hn : 0 ≤ n ∧ n ≤ 40) (W : WoR 384 ps m V) (T : T38 n m l hs g) (hacc : acc.length ≤ 1000) {it : Im} {t : List Im} (hl : l = it :: t)
    (c : Cx F h0 h [rMp .i64 mW wv ps, rSpace s (newS ps), rVar ESt rx x, rVar ESh rg u, rSl EI1 (shV u) acc, X])
    (hk : ∀ u' g' σ' h2, Good 384 ps σ' → T38 n σ'.vw t hs g' → Cx F h0 h2 [rMp .i64 mW wv ps, rSpace s σ', rVar ESt rx x, rVar ESh rg u', rSl EI1 (shV u') (acc ++ [it.P, it.V]), X] → K (.tuple #[]) h2) :
    F_simulcastlaw38_awake_1 S I s (at0 rx) (at0 rg) h K := by
  have hr : R38 (16 : Int) := .inl rfl
  unfold F_simulcastlaw38_awake_1
  refine c.getH (i := 2) rfl ?_
  rw [hx, hrt]
  refine c.last (cs.hpop hr.l) 1 rfl (pop_38 W.rd38 W hn hr T.H) fun e σ' h1 c ⟨hg, hq⟩ => ?_
  unfold uR3
  refine ext3 ?_
  rcases hq with ⟨it2, t2, A', fr', e1, rfl, H', D'⟩ | ⟨e1, _⟩
  · rw [hl] at e1
    injection e1 with e2 e3
    subst e2; subst e3
    rw [(c.va (i := 3) rfl).one rfl, vb_some]
    refine c.bslN EI1 [it.P, it.V] [.int .i64 it.P, .int .i64 it.V] rfl rfl rfl (fun u hu => by simp only [List.mem_cons, List.not_mem_nil, or_false] at hu; rcases hu with rfl | rfl <;> rfl) rfl fun b h2 c => ?_
    refine c.ap (xs := acc) 4 rfl (ys := [it.P, it.V]) (c.sl (i := 6) rfl).sl rfl rfl (by simp only [List.length_cons, List.length_nil]; omega) (by simp only [List.length_cons, List.length_nil]; omega) fun w h3 c => ?_
    obtain ⟨u', rfl⟩ := (c.sl (i := 4) rfl).isH
    refine c.sto1 3 rfl u' rfl rfl fun h4 c => ?_
    refine hk u' _ σ' h4 hg (T.rem H' (by rw [hl, List.length_cons]; omega) D') (c.pick [0, 1, 2, 3, 4, 5])
  · rw [hl] at e1; cases e1
theorem WoR.lk38 (W : WoR 384 ps m V) {a : Int} (ha : D38 a) : ∃ w, lookA ps a = some w ∧ w.v = m a := by
  obtain ⟨w, hw⟩ := Option.isSome_iff_exists.1 ((W.dom a).2 ⟨ha.1, ha.2⟩)
  exact ⟨w, hw, (W.val a w hw).1⟩
/-- a word's value in a world -/
theorem Cx.wrd {i : Nat} {wv : Value} {a : Int} (c : Cx F0 h0 h L) (hi : L[i]? = some (rMp .i64 mW wv ps)) (W : WoR 384 ps m V) (ha : D38 a) {k : Value → Prop} (hk : k (.int .i64 (m a))) :
    Vb (lkm (.int .i64) (Value.agg #[Value.int IntKind.i64 0, Value.int IntKind.u32 0, Value.int IntKind.u32 0]) false wv (.int .i64 a) h) fun v => Vb (fdc 0 v) k := by
  obtain ⟨w, hw, hv⟩ := W.lk38 ha
  rw [(c.mp hi).look, vb_some, hw]
  refine En.vb (show fdc 0 (mW w) = some (.int .i64 w.v) from rfl) ?_
  rw [hv]; exact hk
set_option maxHeartbeats 1600000 in
theorem K_awake (cs : CsV7 S I) (hR : ∀ h', Gr h h' → R (.bool true) h') : F_simulcastlaw38_awake S I h R := by
  have okc : ∀ a b p v : Int, 0 ≤ a ∧ a ≤ 255 → 0 ≤ b ∧ b ≤ 255 → 0 ≤ p ∧ p ≤ 255 → 0 ≤ v ∧ v ≤ 255 → (⟨a, b, p, v⟩ : C38).ok := fun a b p v ha hb hp hv => ⟨ha, hb, by show R64 p; unfold R64; omega, by show R64 v; unfold R64; omega⟩
  unfold F_simulcastlaw38_awake
  refine En.vb (v := vC8 ⟨0, 0, 5, 50⟩) (by kernel_rfl) ?_
  refine En.vb (v := vC8 ⟨0, 0, 3, 30⟩) (by kernel_rfl) ?_
  refine En.vb (v := vC8 ⟨0, 0, 5, 51⟩) (by kernel_rfl) ?_
  refine En.vb (v := vC8 ⟨4, 2, 1, 0⟩) (by kernel_rfl) ?_
  refine (Cx.start0 h).bslN EC8 [⟨0, 0, 5, 50⟩, ⟨0, 0, 3, 30⟩, ⟨0, 0, 5, 51⟩, ⟨4, 2, 1, 0⟩] [vC8 ⟨0, 0, 5, 50⟩, vC8 ⟨0, 0, 3, 30⟩, vC8 ⟨0, 0, 5, 51⟩, vC8 ⟨4, 2, 1, 0⟩] rfl rfl rfl (fun u hu => by simp only [List.mem_cons, List.not_mem_nil, or_false] at hu; rcases hu with rfl | rfl | rfl | rfl <;> rfl) rfl fun b h1 c => ?_
  refine cs.played (n := 20) (cl := [⟨0, 0, 5, 50⟩, ⟨0, 0, 3, 30⟩, ⟨0, 0, 5, 51⟩, ⟨4, 2, 1, 0⟩]) ⟨by decide, by decide⟩ (c.sl (i := 0) rfl).sl (fun y hy => by
    simp only [List.mem_cons, List.not_mem_nil, or_false] at hy
    rcases hy with rfl | rfl | rfl | rfl <;> exact okc _ _ _ _ (by decide) (by decide) (by decide) (by decide)) (by decide) fun x ps m l hs g h2 H hlen hrun c2 => ?_
  have c := c.frame0 c2
  clear c2
  have hl : l = [⟨1, 51, 2, 2⟩, ⟨3, 30, 1, 1⟩, ⟨5, 50, 0, 0⟩] := by
    obtain ⟨l1, hs1, st1, l2, hs2, st2, l3, hs3, st3, l4, hs4, st4, e1, e2⟩ := hrun
    subst e1; subst e2
    obtain ⟨x1, a1, b1⟩ := st1.push (by decide) (by decide) (by decide)
    have a1 : l1 = [⟨5, 50, 0, 0⟩] := a1
    have b1 : hs1 = [x1] := b1
    subst a1; subst b1
    obtain ⟨x2, a2, b2⟩ := st2.push (by decide) (by decide) (by decide)
    have a2 : l2 = [⟨3, 30, 1, 1⟩, ⟨5, 50, 0, 0⟩] := a2
    have b2 : hs2 = [x1, x2] := b2
    subst a2; subst b2
    obtain ⟨x3, a3, b3⟩ := st3.push (by decide) (by decide) (by decide)
    have a3 : l3 = [⟨3, 30, 1, 1⟩, ⟨5, 50, 0, 0⟩, ⟨5, 51, 2, 2⟩] := a3
    have b3 : hs3 = [x1, x2, x3] := b3
    subst a3; subst b3
    obtain ⟨a4, _⟩ := st4.low (by decide) 2 ⟨5, 51, 2, 2⟩ (by simp) rfl rfl (by decide)
    exact a4
  clear hrun
  refine ext0t (ext1t ?_)
  refine c.nw ESt X0 rfl fun r1 h3 c => ?_
  refine c.sto 4 rfl x rfl rfl fun h4 c => ?_
  rw [uno_nb, vb_some, Bool.not_true, br_false]
  refine c.nw ESh (none, 0, 0) rfl fun rg h5 c => ?_
  have c := c.nil EI1
  have c := Cx.pack (L := [rVar ESt r1 x, rMp .i64 mW (.map x.k) ps, rVar ESh rg (none, 0, 0), rSl EI1 (.slice none 0 0) []]) (M := [rSl EIm (shV x.l) l, rSl EI1 (shV x.hs) hs]) (c.pick [4, 1, 5, 6, 2, 3])
  have hgen : ∃ V0 : Int, V0 = 4 ∧ S38 20 x ps m V0 l hs g := ⟨_, rfl, H⟩
  clear H hlen
  obtain ⟨V0, hV0, H⟩ := hgen
  refine Lp1.by (fun (z : Nat × X38 × List (Int × W3) × (Int → Int) × List Im × G38 × SH × List Int) v h' => v = .int .i64 z.1 ∧ z.1 ≤ 3 ∧ z.2.1.p = p38 20 ∧ z.2.1.root = 16 ∧ WoR 384 z.2.2.1 z.2.2.2.1 (4 + z.1) ∧ T38 20 z.2.2.2.1 z.2.2.2.2.1 hs z.2.2.2.2.2.1 ∧ z.2.2.2.2.1 = ([⟨1, 51, 2, 2⟩, ⟨3, 30, 1, 1⟩, ⟨5, 50, 0, 0⟩] : List Im).drop z.1 ∧ z.2.2.2.2.2.2.2 = ([1, 51, 3, 30, 5, 50] : List Int).take (2 * z.1) ∧
    Cx (fun _ => False) h h' [rVar ESt r1 z.2.1, rMp .i64 mW (.map z.2.1.k) z.2.2.1, rVar ESh rg z.2.2.2.2.2.2.1, rSl EI1 (shV z.2.2.2.2.2.2.1) z.2.2.2.2.2.2.2, rStar [rSl EIm (shV x.l) l, rSl EI1 (shV x.hs) hs]]) (fun z => 3 - z.1) (0, x, ps, m, l, g, (none, 0, 0), [])
    ⟨rfl, Nat.zero_le _, H.p, H.r, by dsimp only; rw [Int.natCast_zero, Int.add_zero, ← hV0]; exact H.W, H.T, hl, rfl, c⟩ ?_
  clear c H
  rintro ⟨i, y, ps, m, l2, g, u, acc⟩ v h6 ⟨rfl, hi, yp, yr, W, T, hl2, hacc, c⟩ again hagain
  dsimp only at *
  rw [bin_lss, vb_some]
  refine brd (fun e => ?_) fun e => ?_
  · obtain ⟨it, t, ht, ht2, hacc2⟩ : ∃ it t, l2 = it :: t ∧ t = ([⟨1, 51, 2, 2⟩, ⟨3, 30, 1, 1⟩, ⟨5, 50, 0, 0⟩] : List Im).drop (i + 1) ∧ acc ++ [it.P, it.V] = ([1, 51, 3, 30, 5, 50] : List Int).take (2 * (i + 1)) := by
      subst hl2; subst hacc
      match i, e with
      | 0, _ => exact ⟨_, _, rfl, rfl, rfl⟩
      | 1, _ => exact ⟨_, _, rfl, rfl, rfl⟩
      | 2, _ => exact ⟨_, _, rfl, rfl, rfl⟩
      | i + 3, e => omega
    have hal : acc.length ≤ 1000 := by rw [hacc, List.length_take]; simp; omega
    refine (c.va (i := 0) rfl).fld (j := 0) rfl ?_
    rw [vb_some]
    have c : Cx (fun _ => False) h h6 [rMp .i64 mW (.map y.k) ps, rVar ESt r1 y, rVar ESh rg u, rSl EI1 (shV u) acc, rStar [rSl EIm (shV x.l) l, rSl EI1 (shV x.hs) hs]] := c.pick [1, 0, 2, 3, 4]
    refine cs.done (G := fun L' σ' => ∃ u' g', Good 384 ps σ' ∧ T38 20 σ'.vw t hs g' ∧ L' = [rVar ESt r1 y, rVar ESh rg u', rSl EI1 (shV u') (acc ++ [it.P, it.V]), rStar [rSl EIm (shV x.l) l, rSl EI1 (shV x.hs) hs]]) (by decide) W (by omega) (fun L' σ' ⟨_, _, hg, _⟩ => hg) c (fun s h1 K c k => ?_) fun L' σ' ps' nv ev h7 ⟨u', g', hg, T', eL⟩ W' c => ?_
    · exact .inl ⟨_, _, _, rfl, cs.uawk1 (K_awk1 cs yp yr (by decide) W T hal ht c fun u' g' σ' h2 hg T' c => k _ _ h2 ⟨u', g', hg, T', rfl⟩ c)⟩
    subst eL
    obtain ⟨k2, rfl⟩ : ∃ k2, nv = .map k2 := by
      obtain ⟨r, es, clock, e, _⟩ := c.mp (i := 1) rfl
      exact ⟨_, e⟩
    refine ext3 ?_
    rw [uno_nb, vb_some, Bool.not_true, br_false]
    refine c.stof 3 rfl (j := 0) { y with k := k2 } rfl (by decide) rfl fun h8 c => ?_
    rw [bin_add, vb_some, wrS (by omega)]
    refine hagain (i + 1, { y with k := k2 }, ps', σ'.vw, t, g', u', acc ++ [it.P, it.V]) _ _ ⟨rfl, by dsimp only; omega, yp, yr, ?_, T', ht2, hacc2, c.pick [3, 1, 4, 5, 6]⟩ (by dsimp only; omega)
    dsimp only
    rw [show (4 : Int) + ((i + 1 : Nat) : Int) = 4 + (i : Int) + 1 by omega]; exact W'
  · have ei : i = 3 := by omega
    subst ei
    have hl0 : l2 = [] := hl2
    subst hl0
    subst hacc
    refine .here ?_
    rw [(c.va (i := 2) rfl).one rfl, vb_some]
    refine c.bslN EI1 [1, 51, 3, 30, 5, 50] [.int .i64 1, .int .i64 51, .int .i64 3, .int .i64 30, .int .i64 5, .int .i64 50] rfl rfl rfl (fun u hu => by simp only [List.mem_cons, List.not_mem_nil, or_false] at hu; rcases hu with rfl | rfl | rfl | rfl | rfl | rfl <;> rfl) rfl fun b h7 c => ?_
    refine cs.equal (l := [1, 51, 3, 30, 5, 50]) (c.sl (i := 3) rfl).sl (c.sl (i := 5) rfl).sl (by decide) ?_
    rw [br_true]
    refine (c.va (i := 0) rfl).fld (j := 0) rfl ?_
    refine c.wrd (i := 1) rfl W (a := 16) ⟨by decide, by decide⟩ ?_
    have z16 : m 16 = 0 := T.H.P.sz
    have z23 : m 23 = 0 := T.H.P.hl
    rw [z16, eqI, vb_some, br_true]
    refine (c.va (i := 0) rfl).fld (j := 0) rfl ?_
    refine c.wrd (i := 1) rfl W (a := 23) ⟨by decide, by decide⟩ ?_
    rw [z23, eqI, vb_some]
    exact hR _ c.gr
end
structure CsV8 (S : Sys) (I : Ids) : Prop extends CsV7 S I where
  awake : ∀ {h : Hp} {R : Value → Hp → Prop}, (∀ h', Gr h h' → R (.bool true) h') → S.C I.f_simulcastlaw38_awake [] h R
  great : ∀ {v : Value} {cl : List C38} {h : Hp} {R : Value → Hp → Prop}, Sl EC8 h v cl → R (.bool (decide ((cl.length : Int) > 50))) h → S.C I.f_simulcastlaw38_great [v] h R
theorem L_HeapPlays {b1 : Value} {cl : List C38} {n : Int} (cs : CsV8 S I) (hn : 0 ≤ n ∧ n ≤ 255) (s1 : Sl EC8 h b1 cl) (w1 : ∀ y ∈ cl, y.ok) (hR : ∀ h', Gr h h' → R (.bool true) h') : F_simulcastlaw38_HeapPlays S I (.int .u8 n) b1 h R := by
  unfold F_simulcastlaw38_HeapPlays
  refine cs.great s1 ?_
  refine brd (fun _ => cs.awake hR) fun hlen => ?_
  refine cs.played hn s1 w1 (by omega) fun x ps m l hs g h1 H _ _ c => ?_
  refine ext0t (ext1t ?_)
  refine c.nw ESt X0 rfl fun r4 h2 c => ?_
  refine c.sto 3 rfl x rfl rfl fun h3 c => ?_
  refine .here ?_
  rw [br_true]
  exact cs.awake fun h4 g => hR h4 (c.more g).gr
end Go.En
