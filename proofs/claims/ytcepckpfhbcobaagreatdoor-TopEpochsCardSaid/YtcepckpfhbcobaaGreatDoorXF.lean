/-
  The memory: histories and views, as lists. (Steps printed by wip/tools/walk.py from EqC.src.)
  The memory: Look, Store, Swap, the newest word. (Steps printed by wip/tools/walk.py from EqD.src.)
  The memory: a message is added; Store, Swap. (Steps printed by wip/tools/walk.py from EqE.src.)
-/
import Derived.Test.YtcepckpfhbcobaaGreatDoorXE
namespace Go.En

variable {S : Sys} {I : Ids} {h h0 h' : Hp} {F F0 : Fp} {R : Value → Hp → Prop} {L : List Res} {B B' : Bs}
def EMm : Enc (SH × SH) := { n := 2, c := fun x => [shV x.1, shV x.2], len := fun _ => rfl, one := fun a v h => by simp only [List.mem_cons, List.not_mem_nil, or_false] at h; rcases h with rfl | rfl <;> rfl }
def vMm (x : SH × SH) : Value := .agg #[shV x.1, shV x.2]
/-- a message: its word, and what its view holds at the least -/
structure AM where
  w : W3
  f : Int → Int
/-- a memory: the messages of each place, the threads' views -/
structure Me where
  hs : List (List AM)
  vs : List (Int → Int)
def Me.view (m : Me) (t : Nat) : Int → Int := m.vs.getD (t - 1) fun _ => 0
def Me.at (m : Me) (i : Nat) : List AM := m.hs.getD i []
/-- a thread finds a message -/
def Me.fnd (m : Me) (t i n : Nat) (x : AM) (j : Bool) : Me := { m with vs := m.vs.set (t - 1) (if j then vjoin (vset (m.view t) i n) x.f else vset (m.view t) i n) }
/-- a thread adds a message -/
def Me.add (m : Me) (t i : Nat) (w : W3) (whole : Bool) : Me :=
  { hs := m.hs.set i (m.at i ++ [⟨w, if whole then vset (m.view t) i (m.at i).length else vset (fun _ => 0) i (m.at i).length⟩]),
    vs := m.vs.set (t - 1) (vset (m.view t) i (m.at i).length) }
/-- the messages of a place in the heap -/
def Al (B : Bs) (ms : List Msg) (as : List AM) : Prop := ms.length = as.length ∧ ∀ (i : Nat) (m : Msg) (a : AM), ms[i]? = some m → as[i]? = some a → m.w = a.w ∧ VO B m.a a.f
def HO (B : Bs) (u : SH) (as : List AM) : Prop := ∃ ms, (On B fun h => Sl EMs h (shV u) ms) ∧ Al B ms as
structure MO (B : Bs) (x : SH × SH) (m : Me) : Prop where
  vs : ∃ us : List (Option Nat), (On B fun h => Sl EM h (shV x.2) us) ∧ us.length = m.vs.length ∧ ∀ (i : Nat) (a : Option Nat) (f : Int → Int), us[i]? = some a → m.vs[i]? = some f → VO B a f
  hs : ∃ us : List SH, (On B fun h => Sl EH1 h (shV x.1) us) ∧ us.length = m.hs.length ∧ ∀ (i : Nat) (u : SH) (as : List AM), us[i]? = some u → m.hs[i]? = some as → HO B u as
/-- its sizes: T threads, n places, at most b messages a place -/
structure Mk (T n b : Nat) (m : Me) : Prop where
  vs : m.vs.length = T
  hs : m.hs.length = n
  le : T ≤ 8 ∧ n ≤ 4096
  len : ∀ as ∈ m.hs, 1 ≤ as.length ∧ as.length ≤ b
theorem Al.le {ms : List Msg} {as : List AM} (H : Al B ms as) (l : B.le B') : Al B' ms as := ⟨H.1, fun i m a h1 h2 => ⟨(H.2 i m a h1 h2).1, (H.2 i m a h1 h2).2.le l⟩⟩
theorem HO.le {u : SH} {as : List AM} (H : HO B u as) (l : B.le B') : HO B' u as := let ⟨ms, a, b⟩ := H; ⟨ms, a.le l, b.le l⟩
theorem MO.le {x : SH × SH} {m : Me} (H : MO B x m) (l : B.le B') : MO B' x m := by
  obtain ⟨⟨us, a, b, c⟩, ⟨vs, d, e, f⟩⟩ := H
  exact ⟨⟨us, a.le l, b, fun i y g h1 h2 => (c i y g h1 h2).le l⟩, ⟨vs, d.le l, e, fun i u as h1 h2 => (f i u as h1 h2).le l⟩⟩
theorem VO.zero (B : Bs) : VO B none fun _ => 0 := ⟨[], fun _ _ => .inl ⟨rfl, rfl⟩, fun _ => ⟨Int.le_refl _, Int.le_refl _⟩⟩
section
variable {T n b t i : Nat} {x : SH × SH} {m : Me} {w : W3}
theorem MO.ln (H : MO B x m) (b0 : B.p h) : lnS (shV x.2) = some (.int .i64 m.vs.length) ∧ lnS (shV x.1) = some (.int .i64 m.hs.length) := by
  obtain ⟨us, a, e, _⟩ := H.vs
  obtain ⟨vs, d, e2, _⟩ := H.hs
  rw [← e, ← e2]
  exact ⟨(a h b0).ln, (d h b0).ln⟩
theorem K_thread (b0 : B.p h) (H : MO B x m) (k : Mk T n b m) (ht : 1 ≤ t ∧ t ≤ T) (hR : ∀ h', Gr h h' → R (.bool true) h') : F_memory_Memory_thread S I (vMm x) (.int .i64 t) h R := by
  have hT := k.vs
  unfold F_memory_Memory_thread
  have c := Cx.start0 h
  refine c.nv (cs := [_, _]) rfl rfl fun m2_ _ c => ?_
  replace c : Cx _ _ _ [_] := c
  refine .here ?_
  refine En.vb (k_geT (by omega)) ?_
  refine brt ?_
  refine En.vb (fa_add _ _ _) ?_
  refine En.vb (c.vc (i := 0) rfl rfl) ?_
  refine En.vb (H.ln b0).1 ?_
  refine En.vb (k_leT (by omega)) ?_
  exact hR _ c.gr
theorem K_place (b0 : B.p h) (H : MO B x m) (k : Mk T n b m) (hi : i < n) (hR : ∀ h', Gr h h' → R (.bool true) h') : F_memory_Memory_place S I (vMm x) (.int .i64 i) h R := by
  have hn := k.hs
  unfold F_memory_Memory_place
  have c := Cx.start0 h
  refine c.nv (cs := [_, _]) rfl rfl fun m2_ _ c => ?_
  replace c : Cx _ _ _ [_] := c
  refine .here ?_
  refine En.vb (k_geT (by omega)) ?_
  refine brt ?_
  refine En.vb (fa_add _ _ _) ?_
  refine En.vb (c.vc (i := 0) rfl rfl) ?_
  refine En.vb (H.ln b0).2 ?_
  refine En.vb (k_ltT (by omega)) ?_
  exact hR _ c.gr
theorem K_mSize (b0 : B.p h) (H : MO B x m) (k : Mk T n b m) (hR : ∀ h', Gr h h' → R (.tuple #[.int .i64 T, .int .i64 n]) h') : F_memory_Memory_Size S I (vMm x) h R := by
  obtain ⟨hT, hn, _, _⟩ := k
  subst hT hn
  unfold F_memory_Memory_Size
  have c := Cx.start0 h
  refine c.nv (cs := [_, _]) rfl rfl fun m1_ _ c => ?_
  replace c : Cx _ _ _ [_] := c
  refine En.vb (fa_add _ _ _) ?_
  refine En.vb (c.vc (i := 0) rfl rfl) ?_
  refine En.vb (H.ln b0).1 ?_
  refine En.vb (fa_add _ _ _) ?_
  refine En.vb (c.vc (i := 0) rfl rfl) ?_
  refine En.vb (H.ln b0).2 ?_
  exact hR _ c.gr
structure CmA (S : Sys) (I : Ids) : Prop extends CfC S I where
  hLast : ∀ {u : SH} {ms : List Msg} {l : Msg} {h R}, Sl EMs h (shV u) (ms ++ [l]) → ms.length ≤ 1000000 → (∀ h', Gr h h' → R (vMs l) h') → S.C I.f_history_History_Last [vH u] h R
  hAdd : ∀ {u : SH} {ms : List Msg} {m : Msg} {h R}, Sl EMs h (shV u) ms → ms.length ≤ 1000000 → (∀ u' h', Cx (fun _ => False) h h' [rSl EMs (shV u') (ms ++ [m])] → R (vH u') h') → S.C I.f_history_History_Add [vH u, vMs m] h R
  thread : ∀ {B : Bs} {T n b t : Nat} {x : SH × SH} {m : Me} {h R}, B.p h → MO B x m → Mk T n b m → (1 ≤ t ∧ t ≤ T) → (∀ h', Gr h h' → R (.bool true) h') → S.C I.f_memory_Memory_thread [vMm x, .int .i64 t] h R
  place : ∀ {B : Bs} {T n b i : Nat} {x : SH × SH} {m : Me} {h R}, B.p h → MO B x m → Mk T n b m → i < n → (∀ h', Gr h h' → R (.bool true) h') → S.C I.f_memory_Memory_place [vMm x, .int .i64 i] h R
theorem K_wrong (cs : CmA S I) (b0 : B.p h) (H : MO B x m) (k : Mk T n b m) (ht : 1 ≤ t ∧ t ≤ T) (hi : i < n) (hR : ∀ h', Gr h h' → R (.int .i64 0) h') : F_memory_Memory_wrong S I (vMm x) (.int .i64 t) (.int .i64 i) h R := by
  unfold F_memory_Memory_wrong
  have c := Cx.start0 h
  refine c.nv (cs := [_, _]) rfl rfl fun m3_ _ c => ?_
  replace c : Cx _ _ _ [_] := c
  refine En.vb (c.vl (i := 0) rfl rfl) ?_
  refine cs.thread (B.up b0 c.gr) H k ht fun _ g => ?_
  have c := c.more g
  replace c : Cx _ _ _ [_] := c
  refine En.vb (v := .bool false) (rfl) ?_
  refine brf ?_
  refine En.vb (c.vl (i := 0) rfl rfl) ?_
  refine cs.place (B.up b0 c.gr) H k hi fun _ g => ?_
  have c := c.more g
  replace c : Cx _ _ _ [_] := c
  refine En.vb (v := .bool false) (rfl) ?_
  refine brf ?_
  exact hR _ c.gr
theorem K_Seen (cs : CmA S I) (b0 : B.p h) (H : MO B x m) (k : Mk T n b m) (ht : 1 ≤ t ∧ t ≤ T) (hR : ∀ a, VO B a (m.view t) → ∀ h', Gr h h' → R (vV a) h') : F_memory_Memory_Seen S I (vMm x) (.int .i64 t) h R := by
  obtain ⟨us, h1, h2, h3⟩ := H.vs
  have hT := k.vs
  have hlt : t - 1 < us.length := by omega
  have hx := List.getElem?_eq_getElem hlt
  have hf : m.vs[t - 1]? = some (m.view t) := by
    unfold Me.view
    rw [List.getD_eq_getElem?_getD, List.getElem?_eq_getElem (by omega)]; rfl
  have Va := h3 _ _ _ hx hf
  generalize us[t - 1] = a at hx Va
  have hle := k.le
  unfold F_memory_Memory_Seen
  have c := Cx.start0 h
  refine c.nv (cs := [_, _]) rfl rfl fun m2_ _ c => ?_
  replace c : Cx _ _ _ [_] := c
  refine c.nv (cs := [_]) rfl rfl fun v4_ _ c => ?_
  replace c : Cx _ _ _ [_, _] := c
  refine En.vb (c.vl (i := 0) rfl rfl) ?_
  refine cs.thread (B.up b0 c.gr) H k ht fun _ g => ?_
  have c := c.more g
  replace c : Cx _ _ _ [_, _] := c
  refine En.vb (v := .bool false) (rfl) ?_
  refine brf ?_
  refine En.vb (fa_add _ _ _) ?_
  refine En.vb (c.vc (i := 0) rfl rfl) ?_
  refine En.vb (subI ⟨by omega, by omega⟩) ?_
  refine (h1 _ (B.up b0 c.gr)).whole rfl hx (by omega) ?_
  refine c.vw 1 rfl (vs := [_]) (by exact rfl) (by exact rfl) (by exact rfl) (by exact rfl) fun _ c => ?_
  replace c : Cx _ _ _ [_, _] := c
  refine En.vb (c.vl (i := 1) rfl rfl) ?_
  exact hR a Va _ c.gr
theorem K_with {us : List (Option Nat)} (h1 : Sl EM h (shV x.2) us) (hT : us.length ≤ 8) (ht : 1 ≤ t ∧ t ≤ us.length) {a : Option Nat} (hR : ∀ u h', Cx (fun _ => False) h h' [rSl EM (shV u) (us.set (t - 1) a)] → R (vMm (x.1, u)) h') : F_memory_Memory_with S I (vMm x) (.int .i64 t) (vV a) h R := by
  unfold F_memory_Memory_with
  have c := Cx.start0 h
  refine c.nv (cs := [_, _]) rfl rfl fun m3_ _ c => ?_
  replace c : Cx _ _ _ [_] := c
  refine c.nv (cs := [_]) rfl rfl fun v5_ _ c => ?_
  replace c : Cx _ _ _ [_, _] := c
  refine c.nv (cs := [_, _]) rfl rfl fun v6_ _ c => ?_
  replace c : Cx _ _ _ [_, _, _] := c
  refine En.vb (fa_add _ _ _) ?_
  refine En.vb (c.vc (i := 0) rfl rfl) ?_
  refine En.vb (h1.gr c.gr).ln ?_
  refine c.mksl EM none rfl rfl rfl (by omega) (by decide) fun ad _ c => ?_
  obtain ⟨u, hu⟩ : ∃ u : SH, shV u = .slice (some ad) us.length us.length := ⟨(some ad, us.length, us.length), rfl⟩
  rw [← hu] at c ⊢
  replace c : Cx _ _ _ [_, _, _, _] := c
  refine En.vb (fa_add _ _ _) ?_
  refine En.vb (c.vc (i := 0) rfl rfl) ?_
  refine c.cpy 3 rfl (h1.gr c.gr) (by rw [List.length_replicate]) rfl fun _ c => ?_
  replace c : Cx _ _ _ [_, _, _, _] := c
  refine En.vb (subI ⟨by omega, by omega⟩) ?_
  refine En.vb (c.vl (i := 1) rfl rfl) ?_
  refine c.seti 3 rfl (j := t - 1) (by omega) a rfl (by omega) rfl fun _ c => ?_
  replace c : Cx _ _ _ [_, _, _, _] := c
  refine En.vb (fa_add _ _ _) ?_
  refine c.vq 0 rfl (vs := [_]) (ds := [_, _]) (by exact rfl) (by exact rfl) (by exact rfl) (by exact rfl) (by exact rfl) fun _ c => ?_
  replace c : Cx _ _ _ [_, _, _, _] := c
  refine En.vb (c.vl (i := 0) rfl rfl) ?_
  refine c.vw 2 rfl (vs := [_, _]) (by exact rfl) (by exact rfl) (by exact rfl) (by exact rfl) fun _ c => ?_
  replace c : Cx _ _ _ [_, _, _, _] := c
  refine En.vb (c.vl (i := 2) rfl rfl) ?_
  exact hR u _ (c.pick [3])
theorem K_last {ms : List Msg} {u : SH} {v0 v2 : Value} (cs : CmA S I) (H : Sl EMs h (shV u) ms) (hb : ms.length ≤ 2000000) (hR : ∀ h', Gr h h' → R (.int .i64 ((ms.length : Int) - 1)) h') : F_memory_picker_last S I v0 (vH u) v2 h R := by
  unfold F_memory_picker_last
  have c := Cx.start0 h
  refine c.nv (cs := [_]) rfl rfl fun x4_ _ c => ?_
  replace c : Cx _ _ _ [_] := c
  refine En.vb (c.vl (i := 0) rfl rfl) ?_
  refine cs.hLen (H.gr c.gr) fun _ g => ?_
  have c := c.more g
  replace c : Cx _ _ _ [_] := c
  refine En.vb (subI ⟨by omega, by omega⟩) ?_
  exact hR _ c.gr
structure CmB (S : Sys) (I : Ids) : Prop extends CmA S I where
  wrong : ∀ {B : Bs} {T n b t i : Nat} {x : SH × SH} {m : Me} {h R}, B.p h → MO B x m → Mk T n b m → (1 ≤ t ∧ t ≤ T) → i < n → (∀ h', Gr h h' → R (.int .i64 0) h') → S.C I.f_memory_Memory_wrong [vMm x, .int .i64 t, .int .i64 i] h R
  seen : ∀ {B : Bs} {T n b t : Nat} {x : SH × SH} {m : Me} {h R}, B.p h → MO B x m → Mk T n b m → (1 ≤ t ∧ t ≤ T) → (∀ a, VO B a (m.view t) → ∀ h', Gr h h' → R (vV a) h') → S.C I.f_memory_Memory_Seen [vMm x, .int .i64 t] h R
  wth : ∀ {x : SH × SH} {us : List (Option Nat)} {t : Nat} {a : Option Nat} {h R}, Sl EM h (shV x.2) us → us.length ≤ 8 → (1 ≤ t ∧ t ≤ us.length) → (∀ u h', Cx (fun _ => False) h h' [rSl EM (shV u) (us.set (t - 1) a)] → R (vMm (x.1, u)) h') → S.C I.f_memory_Memory_with [vMm x, .int .i64 t, vV a] h R
  last : ∀ {ms : List Msg} {u : SH} {v0 v2 : Value} {h R}, Sl EMs h (shV u) ms → ms.length ≤ 2000000 → (∀ h', Gr h h' → R (.int .i64 ((ms.length : Int) - 1)) h') → S.C I.f_memory_picker_last [v0, vH u, v2] h R
/-- a thread's view set -/
theorem MO.wth (H : MO B x m) {us : List (Option Nat)} (h1 : On B fun h => Sl EM h (shV x.2) us) (h2 : us.length = m.vs.length) (h3 : ∀ (i : Nat) (a : Option Nat) (f : Int → Int), us[i]? = some a → m.vs[i]? = some f → VO B a f)
    {a : Option Nat} {f : Int → Int} (Va : VO B a f) (ht : t - 1 < us.length) {M : List Res} {u : SH} {j : Nat} (hj : M[j]? = some (rSl EM (shV u) (us.set (t - 1) a))) : MO (B.and M) (x.1, u) { m with vs := m.vs.set (t - 1) f } := by
  refine ⟨⟨us.set (t - 1) a, On.sl hj, by rw [List.length_set, List.length_set, h2], fun i y g hy hg => ?_⟩, (H.le (Bs.le_and _ _)).hs⟩
  rw [List.getElem?_set] at hy
  by_cases e : t - 1 = i
  · rw [if_pos e] at hy
    have hg : (m.vs.set (t - 1) f)[i]? = some g := hg
    rw [List.getElem?_set, if_pos e, if_pos (by omega)] at hg
    rw [if_pos (by omega)] at hy
    injection hy with hy; injection hg with hg
    subst hy hg
    exact Va.le (Bs.le_and _ _)
  · rw [if_neg e] at hy
    have hg : (m.vs.set (t - 1) f)[i]? = some g := hg
    rw [List.getElem?_set, if_neg e] at hg
    exact (h3 i y g hy hg).le (Bs.le_and _ _)
/-- a message is found -/
theorem K_finds (cs : CmB S I) (b0 : B.p h) (H : MO B x m) (k : Mk T n b m) (ht : 1 ≤ t ∧ t ≤ T) (hi : i < n) {q : Nat} {am : AM} (hq : (m.at i)[q]? = some am) {jn : Bool}
    (hR : ∀ x', Rt B h (fun B => MO B x' (m.fnd t i q am jn)) fun h' => R (.tuple #[vMm x', mW am.w]) h') : F_memory_Memory_finds S I (vMm x) (.int .i64 t) (.int .i64 i) (.int .i64 q) (.bool jn) h R := by
  obtain ⟨us, h1, h2, h3⟩ := H.hs
  obtain ⟨vs, v1, v2, v3⟩ := id H.vs
  have hn := k.hs
  have hT := k.vs
  have hle := k.le
  have hu := List.getElem?_eq_getElem (l := us) (i := i) (by omega)
  have hm : m.hs[i]? = some (m.at i) := by
    unfold Me.at
    rw [List.getD_eq_getElem?_getD, List.getElem?_eq_getElem (by omega)]; rfl
  obtain ⟨ms, hs, ha⟩ := h3 _ _ _ hu hm
  generalize us[i] = u at hu hs
  have hql := (List.getElem?_eq_some_iff.1 hq).1
  have hms := List.getElem?_eq_getElem (l := ms) (i := q) (by rw [ha.1]; exact hql)
  obtain ⟨hw, Vm⟩ := ha.2 _ _ _ hms hq
  generalize ms[q]'(by rw [ha.1]; exact hql) = l at hms hw Vm
  obtain ⟨aw, af⟩ := am
  dsimp only at hw Vm
  subst hw
  cases jn with
  | true =>
    unfold F_memory_Memory_finds
    have c := Cx.start0 h
    refine c.nv (cs := [_, _]) rfl rfl fun m5_ _ c => ?_
    replace c : Cx _ _ _ [_] := c
    refine c.nv (cs := [_, _]) rfl rfl fun v10_ _ c => ?_
    replace c : Cx _ _ _ [_, _] := c
    refine c.nv (cs := [_, _, _]) rfl rfl fun v11_ _ c => ?_
    replace c : Cx _ _ _ [_, _, _] := c
    refine En.vb (fa_add _ _ _) ?_
    refine En.vb (c.vc (i := 0) rfl rfl) ?_
    refine (h1 _ (B.up b0 c.gr)).whole rfl hu rfl ?_
    refine cs.hAt (hs _ (B.up b0 c.gr)) hms fun _ g => ?_
    have c := c.more g
    replace c : Cx _ _ _ [_, _, _] := c
    refine En.vb rfl ?_
    refine En.vb rfl ?_
    refine c.nv (cs := [_, _, _, _, _]) rfl rfl fun x12_ _ c => ?_
    replace c : Cx _ _ _ [_, _, _, _] := c
    refine c.vw 3 rfl (vs := [_, _, _, _, _]) (by exact rfl) (by exact rfl) (by exact rfl) (by exact rfl) fun _ c => ?_
    replace c : Cx _ _ _ [_, _, _, _] := c
    refine En.vb (c.vl (i := 0) rfl rfl) ?_
    refine cs.seen (B.up b0 c.gr) H k ht fun a Va _ g => ?_
    have c := c.more g
    replace c : Cx _ _ _ [_, _, _, _] := c
    refine cs.vWith (B.up b0 c.gr) Va ⟨by omega, by omega⟩ (Int.natCast_nonneg q) fun a2 M _ d ok => ?_
    have c := c.frame0 d
    replace c : Cx _ _ _ [_, _, _, _, _] := c
    refine c.nv (cs := [_]) rfl rfl fun v14_ _ c => ?_
    replace c : Cx _ _ _ [_, _, _, _, _, _] := c
    refine c.vw 5 rfl (vs := [_]) (by exact rfl) (by exact rfl) (by exact rfl) (by exact rfl) fun _ c => ?_
    replace c : Cx _ _ _ [_, _, _, _, _, _] := c
    refine .here ?_
    refine brt ?_
    refine En.vb (c.vl (i := 5) rfl rfl) ?_
    refine En.vb (fa_add _ _ _) ?_
    refine En.vb (c.vp (i := 3) (ds := [_]) rfl rfl rfl) ?_
    refine cs.vJoin (B := B.and M) ⟨B.up b0 c.gr, c.get (i := 4) rfl⟩ ok (Vm.le (Bs.le_and _ _)) fun a3 N _ d ok2 => ?_
    have c := c.frame0 d
    replace c : Cx _ _ _ [_, _, _, _, _, _, _] := c
    refine c.vw 5 rfl (vs := [_]) (by exact rfl) (by exact rfl) (by exact rfl) (by exact rfl) fun _ c => ?_
    replace c : Cx _ _ _ [_, _, _, _, _, _, _] := c
    refine En.vb (c.vl (i := 0) rfl rfl) ?_
    refine En.vb (c.vl (i := 5) rfl rfl) ?_
    refine En.vb (fa_add _ _ _) ?_
    refine En.vb (c.vp (i := 3) (ds := [_, _, _]) rfl rfl rfl) ?_
    refine cs.wth (t := t) (v1 _ (B.up b0 c.gr)) (by omega) ⟨ht.1, by omega⟩ fun u2 _ d => ?_
    have c := c.frame0 d
    replace c : Cx _ _ _ [_, _, _, _, _, _, _, _] := c
    refine And.intro (c.vp (i := 3) (ds := [_, _, _]) rfl rfl rfl) ?_
    refine c.vw 1 rfl (vs := [_, _]) (by exact rfl) (by exact rfl) (by exact rfl) (by exact rfl) fun _ c => ?_
    replace c : Cx _ _ _ [_, _, _, _, _, _, _, _] := c
    refine And.intro (c.vp (i := 3) (ds := [_, _, _]) rfl rfl rfl) ?_
    refine c.vw 2 rfl (vs := [_, _, _]) (by exact rfl) (by exact rfl) (by exact rfl) (by exact rfl) fun _ c => ?_
    replace c : Cx _ _ _ [_, _, _, _, _, _, _, _] := c
    refine En.vb (c.vl (i := 1) rfl rfl) ?_
    refine En.vb (c.vl (i := 2) rfl rfl) ?_
    refine hR (x.1, u2) [rStar M, rStar N, rSl EM (shV u2) (vs.set (t - 1) a3)] _ (Cx.pack (L := []) (c.pick [4, 6, 7])) ?_
    have r : MO (((B.and M).and N).and [rSl EM (shV u2) (vs.set (t - 1) a3)]) (x.1, u2) _ := (H.le ((Bs.le_and B M).trans (Bs.le_and _ N))).wth (v1.le ((Bs.le_and B M).trans (Bs.le_and _ N))) v2 (fun i a f e1 e2 => (v3 i a f e1 e2).le ((Bs.le_and B M).trans (Bs.le_and _ N))) ok2 (by omega) (j := 0) rfl
    exact r.le fun h b => ⟨⟨⟨b.1, Bs.star b (i := 0) rfl⟩, Bs.star b (i := 1) rfl⟩, let ⟨_, F, p⟩ := b; let ⟨F', p'⟩ := (Cx.star p).get (i := 2) rfl; let ⟨F'', p'', _⟩ := (Cx.start p').unstar; ⟨F'', p''⟩⟩
  | false =>
    unfold F_memory_Memory_finds
    have c := Cx.start0 h
    refine c.nv (cs := [_, _]) rfl rfl fun m5_ _ c => ?_
    replace c : Cx _ _ _ [_] := c
    refine c.nv (cs := [_, _]) rfl rfl fun v10_ _ c => ?_
    replace c : Cx _ _ _ [_, _] := c
    refine c.nv (cs := [_, _, _]) rfl rfl fun v11_ _ c => ?_
    replace c : Cx _ _ _ [_, _, _] := c
    refine En.vb (fa_add _ _ _) ?_
    refine En.vb (c.vc (i := 0) rfl rfl) ?_
    refine (h1 _ (B.up b0 c.gr)).whole rfl hu rfl ?_
    refine cs.hAt (hs _ (B.up b0 c.gr)) hms fun _ g => ?_
    have c := c.more g
    replace c : Cx _ _ _ [_, _, _] := c
    refine En.vb rfl ?_
    refine En.vb rfl ?_
    refine c.nv (cs := [_, _, _, _, _]) rfl rfl fun x12_ _ c => ?_
    replace c : Cx _ _ _ [_, _, _, _] := c
    refine c.vw 3 rfl (vs := [_, _, _, _, _]) (by exact rfl) (by exact rfl) (by exact rfl) (by exact rfl) fun _ c => ?_
    replace c : Cx _ _ _ [_, _, _, _] := c
    refine En.vb (c.vl (i := 0) rfl rfl) ?_
    refine cs.seen (B.up b0 c.gr) H k ht fun a Va _ g => ?_
    have c := c.more g
    replace c : Cx _ _ _ [_, _, _, _] := c
    refine cs.vWith (B.up b0 c.gr) Va ⟨by omega, by omega⟩ (Int.natCast_nonneg q) fun a2 M _ d ok => ?_
    have c := c.frame0 d
    replace c : Cx _ _ _ [_, _, _, _, _] := c
    refine c.nv (cs := [_]) rfl rfl fun v14_ _ c => ?_
    replace c : Cx _ _ _ [_, _, _, _, _, _] := c
    refine c.vw 5 rfl (vs := [_]) (by exact rfl) (by exact rfl) (by exact rfl) (by exact rfl) fun _ c => ?_
    replace c : Cx _ _ _ [_, _, _, _, _, _] := c
    refine .here ?_
    refine brf ?_
    refine En.vb (c.vl (i := 0) rfl rfl) ?_
    refine En.vb (c.vl (i := 5) rfl rfl) ?_
    refine En.vb (fa_add _ _ _) ?_
    refine En.vb (c.vp (i := 3) (ds := [_, _, _]) rfl rfl rfl) ?_
    refine cs.wth (t := t) (v1 _ (B.up b0 c.gr)) (by omega) ⟨ht.1, by omega⟩ fun u2 _ d => ?_
    have c := c.frame0 d
    replace c : Cx _ _ _ [_, _, _, _, _, _, _] := c
    refine And.intro (c.vp (i := 3) (ds := [_, _, _]) rfl rfl rfl) ?_
    refine c.vw 1 rfl (vs := [_, _]) (by exact rfl) (by exact rfl) (by exact rfl) (by exact rfl) fun _ c => ?_
    replace c : Cx _ _ _ [_, _, _, _, _, _, _] := c
    refine And.intro (c.vp (i := 3) (ds := [_, _, _]) rfl rfl rfl) ?_
    refine c.vw 2 rfl (vs := [_, _, _]) (by exact rfl) (by exact rfl) (by exact rfl) (by exact rfl) fun _ c => ?_
    replace c : Cx _ _ _ [_, _, _, _, _, _, _] := c
    refine En.vb (c.vl (i := 1) rfl rfl) ?_
    refine En.vb (c.vl (i := 2) rfl rfl) ?_
    refine hR (x.1, u2) [rStar M, rSl EM (shV u2) (vs.set (t - 1) a2)] _ (Cx.pack (L := []) (c.pick [4, 6])) ?_
    have r : MO ((B.and M).and [rSl EM (shV u2) (vs.set (t - 1) a2)]) (x.1, u2) _ := (H.le (Bs.le_and B M)).wth (v1.le (Bs.le_and B M)) v2 (fun i a f e1 e2 => (v3 i a f e1 e2).le (Bs.le_and B M)) ok (by omega) (j := 0) rfl
    exact r.le fun h b => ⟨⟨b.1, Bs.star b (i := 0) rfl⟩, let ⟨_, F, p⟩ := b; let ⟨F', p'⟩ := (Cx.star p).get (i := 1) rfl; let ⟨F'', p'', _⟩ := (Cx.start p').unstar; ⟨F'', p''⟩⟩
end
end Go.En
namespace Go.En

variable {S : Sys} {I : Ids} {h h0 h' : Hp} {F F0 : Fp} {R : Value → Hp → Prop} {L : List Res} {B B' : Bs}
abbrev cMm (x : SH × SH) : List Value := [shV x.1, shV x.2]
abbrev cW (w : W3) : List Value := [.int .i64 w.v, .int .u32 w.ver, .int .u32 w.ref]
abbrev cM0 : List Value := [.slice none 0 0, .slice none 0 0]
structure CmC (S : Sys) (I : Ids) : Prop extends CmB S I where
  finds : ∀ {B : Bs} {T n b t i q : Nat} {x : SH × SH} {m : Me} {am : AM} {jn : Bool} {h R}, B.p h → MO B x m → Mk T n b m → (1 ≤ t ∧ t ≤ T) → i < n → (m.at i)[q]? = some am →
    (∀ x', Rt B h (fun B => MO B x' (m.fnd t i q am jn)) fun h' => R (.tuple #[vMm x', mW am.w]) h') → S.C I.f_memory_Memory_finds [vMm x, .int .i64 t, .int .i64 i, .int .i64 q, .bool jn] h R
  mSize : ∀ {B : Bs} {T n b : Nat} {x : SH × SH} {m : Me} {h R}, B.p h → MO B x m → Mk T n b m → (∀ h', Gr h h' → R (.tuple #[.int .i64 T, .int .i64 n]) h') → S.C I.f_memory_Memory_Size [vMm x] h R
section
variable {T n b t i : Nat} {x : SH × SH} {m : Me} {w : W3} {am : AM}
/-- the newest message of a place -/
def Me.top (m : Me) (i : Nat) : AM := (m.at i).getLast?.getD ⟨W0, fun _ => 0⟩
theorem Mk.at (k : Mk T n b m) (hi : i < n) : m.hs[i]? = some (m.at i) ∧ 1 ≤ (m.at i).length ∧ (m.at i).length ≤ b := by
  have hn := k.hs
  have hm : m.hs[i]? = some (m.at i) := by
    unfold Me.at
    rw [List.getD_eq_getElem?_getD, List.getElem?_eq_getElem (by omega)]; rfl
  exact ⟨hm, k.len _ (List.mem_of_getElem? hm)⟩
theorem Mk.top (k : Mk T n b m) (hi : i < n) : (m.at i)[(m.at i).length - 1]? = some (m.top i) := by
  obtain ⟨_, h1, _⟩ := k.at hi
  unfold Me.top
  rw [List.getLast?_eq_getElem?, List.getElem?_eq_getElem (by omega)]
  rfl
theorem K_look (cs : CmC S I) (b0 : B.p h) (H : MO B x m) (k : Mk T n b m) (hb : b ≤ 1000000) (ht : 1 ≤ t ∧ t ≤ T) (hi : i < n)
    (hR : ∀ x', Rt B h (fun B => MO B x' (m.fnd t i ((m.at i).length - 1) (m.top i) true)) fun h' => R (.tuple #[vMm x', mW (m.top i).w, .int .i64 0]) h') : F_memory_Memory_look S I (vMm x) (.int .i64 t) (.int .i64 i) (.bool true) (.func (.func I.f_memory_picker_last) #[.int .i64 0] #[]) h R := by
  obtain ⟨us, h1, h2, h3⟩ := H.hs
  have hn := k.hs
  have hu := List.getElem?_eq_getElem (l := us) (i := i) (by omega)
  obtain ⟨hm, hl1, hl2⟩ := k.at hi
  have htop := k.top hi
  obtain ⟨ms, hs, ha⟩ := h3 _ _ _ hu hm
  generalize us[i] = u at hu hs
  have hlen : ((ms.length : Nat) : Int) - 1 = ((m.at i).length - 1 : Nat) := by have := ha.1; omega
  obtain ⟨rp, op, e33, row33, _⟩ := (h1 h b0).ix hu (n := 1) rfl (k := .i64) (z := (i : Int)) rfl
  have f33 : ∀ {h'' : Hp}, Gr h h'' → lda 1 (.pointer (some ⟨rp, op, none⟩)) h'' = some (vH u) := fun g => (row33.ch g fun e => e).lda rfl
  have fin : ∀ (x' : SH × SH) (M : List Res) (r1 r2 r3 ro rw : Nat) (h' : Hp), Cx (fun _ => False) h h' [rV r1 (cMm x), rV r2 cM0, rV r3 (cW W0), rV ro (cMm x'), rV rw (cW (m.top i).w), rStar M] → MO (B.and M) x' (m.fnd t i ((m.at i).length - 1) (m.top i) true) →
    ∃ ro' rw' x' M, at0 ro = at0 ro' ∧ at0 rw = at0 rw' ∧ Cx (fun _ => False) h h' [rV r1 (cMm x), rV r2 cM0, rV r3 (cW W0), rV ro' (cMm x'), rV rw' (cW (m.top i).w), rStar M] ∧ MO (B.and M) x' (m.fnd t i ((m.at i).length - 1) (m.top i) true) := fun x' M r1 r2 r3 ro rw h' c ok => ⟨ro, rw, x', M, rfl, rfl, c, ok⟩
  unfold F_memory_Memory_look
  have c := Cx.start0 h
  refine c.nv (cs := [_, _]) rfl rfl fun m5_ _ c => ?_
  replace c : Cx _ _ _ [_] := c
  refine c.nv (cs := [_, _]) rfl rfl fun v10_ _ c => ?_
  replace c : Cx _ _ _ [_, _] := c
  refine c.nv (cs := [_, _, _]) rfl rfl fun v11_ _ c => ?_
  replace c : Cx _ _ _ [_, _, _] := c
  refine En.vb (c.vl (i := 0) rfl rfl) ?_
  refine cs.wrong (B.up b0 c.gr) H k ht hi fun _ g => ?_
  have c := c.more g
  replace c : Cx _ _ _ [_, _, _] := c
  refine En.vb (v := .bool false) rfl ?_
  refine brf ?_
  refine Jn2.at (fun o q h' => ∃ ro rw x' M, o = at0 ro ∧ q = at0 rw ∧ Cx (fun _ => False) h h' [rV m5_ (cMm x), rV v10_ cM0, rV v11_ (cW W0), rV ro (cMm x'), rV rw (cW (m.top i).w), rStar M] ∧ MO (B.and M) x' (m.fnd t i ((m.at i).length - 1) (m.top i) true)) ?_ ?_
  · refine En.vb (c.vl (i := 0) rfl rfl) ?_
    refine En.vb (fa_add _ _ _) ?_
    refine En.vb (c.vc (i := 0) rfl rfl) ?_
    refine En.vb e33 ?_
    refine En.vb (f33 c.gr) ?_
    refine En.vb (c.vl (i := 0) rfl rfl) ?_
    refine And.intro ?_ ?_
    · refine cs.seen (B.up b0 c.gr) H k ht fun a Va _ g => ?_
      have c := c.more g
      replace c : Cx _ _ _ [_, _, _] := c
      refine And.intro (f33 c.gr) ?_
      refine And.intro (c.vc (i := 0) rfl rfl) ?_
      refine And.intro (c.vl (i := 0) rfl rfl) ?_
      refine And.intro ?_ ?_
      · refine cs.vAt (B.up b0 c.gr) Va fun _ q _ _ g => ?_
        have c := c.more g
        replace c : Cx _ _ _ [_, _, _] := c
        refine And.intro (f33 c.gr) ?_
        refine And.intro (c.vc (i := 0) rfl rfl) ?_
        refine And.intro (c.vl (i := 0) rfl rfl) ?_
        refine And.intro ?_ ?_
        · refine .inl (.inl ⟨_, _, _, rfl, cs.last (hs _ (B.up b0 c.gr)) (by have := ha.1; omega) fun _ g => ?_⟩)
          have c := c.more g
          rw [hlen]
          replace c : Cx _ _ _ [_, _, _] := c
          refine And.intro (c.vl (i := 0) rfl rfl) ?_
          refine And.intro ?_ ?_
          · refine cs.finds (B.up b0 c.gr) H k ht hi htop fun x' M _ d ok => ?_
            have c := c.frame0 d
            replace c : Cx _ _ _ [_, _, _, _] := c
            refine En.vb rfl ?_
            refine En.vb rfl ?_
            refine And.intro ?_ ?_
            · refine c.nv (cs := [_, _]) rfl rfl fun out14_1_ _ c => ?_
              replace c : Cx _ _ _ [_, _, _, _, _] := c
              refine c.nv (cs := [_, _, _]) rfl rfl fun w15_1_ _ c => ?_
              replace c : Cx _ _ _ [_, _, _, _, _, _] := c
              refine c.vw 4 rfl (vs := [_, _]) (by exact rfl) (by exact rfl) (by exact rfl) (by exact rfl) fun _ c => ?_
              replace c : Cx _ _ _ [_, _, _, _, _, _] := c
              refine c.vw 5 rfl (vs := [_, _, _]) (by exact rfl) (by exact rfl) (by exact rfl) (by exact rfl) fun _ c => ?_
              replace c : Cx _ _ _ [_, _, _, _, _, _] := c
              exact fin _ M _ _ _ _ _ _ (c.pick [0, 1, 2, 4, 5, 3]) ok
            · refine c.nv (cs := [_, _, _]) rfl rfl fun w15_2_ _ c => ?_
              replace c : Cx _ _ _ [_, _, _, _, _] := c
              refine c.nv (cs := [_, _]) rfl rfl fun out14_2_ _ c => ?_
              replace c : Cx _ _ _ [_, _, _, _, _, _] := c
              refine c.vw 5 rfl (vs := [_, _]) (by exact rfl) (by exact rfl) (by exact rfl) (by exact rfl) fun _ c => ?_
              replace c : Cx _ _ _ [_, _, _, _, _, _] := c
              refine c.vw 4 rfl (vs := [_, _, _]) (by exact rfl) (by exact rfl) (by exact rfl) (by exact rfl) fun _ c => ?_
              replace c : Cx _ _ _ [_, _, _, _, _, _] := c
              exact fin _ M _ _ _ _ _ _ (c.pick [0, 1, 2, 5, 4, 3]) ok
          · refine And.intro ?_ ?_
            · refine c.nv (cs := [_, _]) rfl rfl fun out14_3_ _ c => ?_
              replace c : Cx _ _ _ [_, _, _, _] := c
              refine And.intro (c.vl (i := 0) rfl rfl) ?_
              refine And.intro ?_ ?_
              · refine cs.finds (B.up b0 c.gr) H k ht hi htop fun x' M _ d ok => ?_
                have c := c.frame0 d
                replace c : Cx _ _ _ [_, _, _, _, _] := c
                refine En.vb rfl ?_
                refine En.vb rfl ?_
                refine c.nv (cs := [_, _, _]) rfl rfl fun w15_3_ _ c => ?_
                replace c : Cx _ _ _ [_, _, _, _, _, _] := c
                refine c.vw 3 rfl (vs := [_, _]) (by exact rfl) (by exact rfl) (by exact rfl) (by exact rfl) fun _ c => ?_
                replace c : Cx _ _ _ [_, _, _, _, _, _] := c
                refine c.vw 5 rfl (vs := [_, _, _]) (by exact rfl) (by exact rfl) (by exact rfl) (by exact rfl) fun _ c => ?_
                replace c : Cx _ _ _ [_, _, _, _, _, _] := c
                exact fin _ M _ _ _ _ _ _ (c.pick [0, 1, 2, 3, 5, 4]) ok
              · refine c.nv (cs := [_, _, _]) rfl rfl fun w15_4_ _ c => ?_
                replace c : Cx _ _ _ [_, _, _, _, _] := c
                refine And.intro (c.vl (i := 0) rfl rfl) ?_
                refine cs.finds (B.up b0 c.gr) H k ht hi htop fun x' M _ d ok => ?_
                have c := c.frame0 d
                replace c : Cx _ _ _ [_, _, _, _, _, _] := c
                refine En.vb rfl ?_
                refine En.vb rfl ?_
                refine c.vw 3 rfl (vs := [_, _]) (by exact rfl) (by exact rfl) (by exact rfl) (by exact rfl) fun _ c => ?_
                replace c : Cx _ _ _ [_, _, _, _, _, _] := c
                refine c.vw 4 rfl (vs := [_, _, _]) (by exact rfl) (by exact rfl) (by exact rfl) (by exact rfl) fun _ c => ?_
                replace c : Cx _ _ _ [_, _, _, _, _, _] := c
                exact fin _ M _ _ _ _ _ _ (c.pick [0, 1, 2, 3, 4, 5]) ok
            · refine c.nv (cs := [_, _, _]) rfl rfl fun w15_5_ _ c => ?_
              replace c : Cx _ _ _ [_, _, _, _] := c
              refine And.intro (c.vl (i := 0) rfl rfl) ?_
              refine And.intro ?_ ?_
              · refine cs.finds (B.up b0 c.gr) H k ht hi htop fun x' M _ d ok => ?_
                have c := c.frame0 d
                replace c : Cx _ _ _ [_, _, _, _, _] := c
                refine En.vb rfl ?_
                refine En.vb rfl ?_
                refine c.nv (cs := [_, _]) rfl rfl fun out14_4_ _ c => ?_
                replace c : Cx _ _ _ [_, _, _, _, _, _] := c
                refine c.vw 5 rfl (vs := [_, _]) (by exact rfl) (by exact rfl) (by exact rfl) (by exact rfl) fun _ c => ?_
                replace c : Cx _ _ _ [_, _, _, _, _, _] := c
                refine c.vw 3 rfl (vs := [_, _, _]) (by exact rfl) (by exact rfl) (by exact rfl) (by exact rfl) fun _ c => ?_
                replace c : Cx _ _ _ [_, _, _, _, _, _] := c
                exact fin _ M _ _ _ _ _ _ (c.pick [0, 1, 2, 5, 3, 4]) ok
              · refine c.nv (cs := [_, _]) rfl rfl fun out14_5_ _ c => ?_
                replace c : Cx _ _ _ [_, _, _, _, _] := c
                refine And.intro (c.vl (i := 0) rfl rfl) ?_
                refine cs.finds (B.up b0 c.gr) H k ht hi htop fun x' M _ d ok => ?_
                have c := c.frame0 d
                replace c : Cx _ _ _ [_, _, _, _, _, _] := c
                refine En.vb rfl ?_
                refine En.vb rfl ?_
                refine c.vw 4 rfl (vs := [_, _]) (by exact rfl) (by exact rfl) (by exact rfl) (by exact rfl) fun _ c => ?_
                replace c : Cx _ _ _ [_, _, _, _, _, _] := c
                refine c.vw 3 rfl (vs := [_, _, _]) (by exact rfl) (by exact rfl) (by exact rfl) (by exact rfl) fun _ c => ?_
                replace c : Cx _ _ _ [_, _, _, _, _, _] := c
                exact fin _ M _ _ _ _ _ _ (c.pick [0, 1, 2, 4, 3, 5]) ok
        · refine And.intro ?_ ?_
          · refine c.nv (cs := [_, _]) rfl rfl fun out14_6_ _ c => ?_
            replace c : Cx _ _ _ [_, _, _, _] := c
            refine And.intro (f33 c.gr) ?_
            refine And.intro (c.vc (i := 0) rfl rfl) ?_
            refine And.intro (c.vl (i := 0) rfl rfl) ?_
            refine And.intro ?_ ?_
            · refine .inl (.inl ⟨_, _, _, rfl, cs.last (hs _ (B.up b0 c.gr)) (by have := ha.1; omega) fun _ g => ?_⟩)
              have c := c.more g
              rw [hlen]
              replace c : Cx _ _ _ [_, _, _, _] := c
              refine And.intro (c.vl (i := 0) rfl rfl) ?_
              refine And.intro ?_ ?_
              · refine cs.finds (B.up b0 c.gr) H k ht hi htop fun x' M _ d ok => ?_
                have c := c.frame0 d
                replace c : Cx _ _ _ [_, _, _, _, _] := c
                refine En.vb rfl ?_
                refine En.vb rfl ?_
                refine c.nv (cs := [_, _, _]) rfl rfl fun w15_6_ _ c => ?_
                replace c : Cx _ _ _ [_, _, _, _, _, _] := c
                refine c.vw 3 rfl (vs := [_, _]) (by exact rfl) (by exact rfl) (by exact rfl) (by exact rfl) fun _ c => ?_
                replace c : Cx _ _ _ [_, _, _, _, _, _] := c
                refine c.vw 5 rfl (vs := [_, _, _]) (by exact rfl) (by exact rfl) (by exact rfl) (by exact rfl) fun _ c => ?_
                replace c : Cx _ _ _ [_, _, _, _, _, _] := c
                exact fin _ M _ _ _ _ _ _ (c.pick [0, 1, 2, 3, 5, 4]) ok
              · refine c.nv (cs := [_, _, _]) rfl rfl fun w15_7_ _ c => ?_
                replace c : Cx _ _ _ [_, _, _, _, _] := c
                refine And.intro (c.vl (i := 0) rfl rfl) ?_
                refine cs.finds (B.up b0 c.gr) H k ht hi htop fun x' M _ d ok => ?_
                have c := c.frame0 d
                replace c : Cx _ _ _ [_, _, _, _, _, _] := c
                refine En.vb rfl ?_
                refine En.vb rfl ?_
                refine c.vw 3 rfl (vs := [_, _]) (by exact rfl) (by exact rfl) (by exact rfl) (by exact rfl) fun _ c => ?_
                replace c : Cx _ _ _ [_, _, _, _, _, _] := c
                refine c.vw 4 rfl (vs := [_, _, _]) (by exact rfl) (by exact rfl) (by exact rfl) (by exact rfl) fun _ c => ?_
                replace c : Cx _ _ _ [_, _, _, _, _, _] := c
                exact fin _ M _ _ _ _ _ _ (c.pick [0, 1, 2, 3, 4, 5]) ok
            · refine c.nv (cs := [_, _, _]) rfl rfl fun w15_8_ _ c => ?_
              replace c : Cx _ _ _ [_, _, _, _, _] := c
              refine And.intro (f33 c.gr) ?_
              refine And.intro (c.vc (i := 0) rfl rfl) ?_
              refine And.intro (c.vl (i := 0) rfl rfl) ?_
              refine .inl (.inl ⟨_, _, _, rfl, cs.last (hs _ (B.up b0 c.gr)) (by have := ha.1; omega) fun _ g => ?_⟩)
              have c := c.more g
              rw [hlen]
              replace c : Cx _ _ _ [_, _, _, _, _] := c
              refine And.intro (c.vl (i := 0) rfl rfl) ?_
              refine cs.finds (B.up b0 c.gr) H k ht hi htop fun x' M _ d ok => ?_
              have c := c.frame0 d
              replace c : Cx _ _ _ [_, _, _, _, _, _] := c
              refine En.vb rfl ?_
              refine En.vb rfl ?_
              refine c.vw 3 rfl (vs := [_, _]) (by exact rfl) (by exact rfl) (by exact rfl) (by exact rfl) fun _ c => ?_
              replace c : Cx _ _ _ [_, _, _, _, _, _] := c
              refine c.vw 4 rfl (vs := [_, _, _]) (by exact rfl) (by exact rfl) (by exact rfl) (by exact rfl) fun _ c => ?_
              replace c : Cx _ _ _ [_, _, _, _, _, _] := c
              exact fin _ M _ _ _ _ _ _ (c.pick [0, 1, 2, 3, 4, 5]) ok
          · refine c.nv (cs := [_, _, _]) rfl rfl fun w15_9_ _ c => ?_
            replace c : Cx _ _ _ [_, _, _, _] := c
            refine And.intro (f33 c.gr) ?_
            refine And.intro (c.vc (i := 0) rfl rfl) ?_
            refine And.intro (c.vl (i := 0) rfl rfl) ?_
            refine And.intro ?_ ?_
            · refine .inl (.inl ⟨_, _, _, rfl, cs.last (hs _ (B.up b0 c.gr)) (by have := ha.1; omega) fun _ g => ?_⟩)
              have c := c.more g
              rw [hlen]
              replace c : Cx _ _ _ [_, _, _, _] := c
              refine And.intro (c.vl (i := 0) rfl rfl) ?_
              refine And.intro ?_ ?_
              · refine cs.finds (B.up b0 c.gr) H k ht hi htop fun x' M _ d ok => ?_
                have c := c.frame0 d
                replace c : Cx _ _ _ [_, _, _, _, _] := c
                refine En.vb rfl ?_
                refine En.vb rfl ?_
                refine c.nv (cs := [_, _]) rfl rfl fun out14_7_ _ c => ?_
                replace c : Cx _ _ _ [_, _, _, _, _, _] := c
                refine c.vw 5 rfl (vs := [_, _]) (by exact rfl) (by exact rfl) (by exact rfl) (by exact rfl) fun _ c => ?_
                replace c : Cx _ _ _ [_, _, _, _, _, _] := c
                refine c.vw 3 rfl (vs := [_, _, _]) (by exact rfl) (by exact rfl) (by exact rfl) (by exact rfl) fun _ c => ?_
                replace c : Cx _ _ _ [_, _, _, _, _, _] := c
                exact fin _ M _ _ _ _ _ _ (c.pick [0, 1, 2, 5, 3, 4]) ok
              · refine c.nv (cs := [_, _]) rfl rfl fun out14_8_ _ c => ?_
                replace c : Cx _ _ _ [_, _, _, _, _] := c
                refine And.intro (c.vl (i := 0) rfl rfl) ?_
                refine cs.finds (B.up b0 c.gr) H k ht hi htop fun x' M _ d ok => ?_
                have c := c.frame0 d
                replace c : Cx _ _ _ [_, _, _, _, _, _] := c
                refine En.vb rfl ?_
                refine En.vb rfl ?_
                refine c.vw 4 rfl (vs := [_, _]) (by exact rfl) (by exact rfl) (by exact rfl) (by exact rfl) fun _ c => ?_
                replace c : Cx _ _ _ [_, _, _, _, _, _] := c
                refine c.vw 3 rfl (vs := [_, _, _]) (by exact rfl) (by exact rfl) (by exact rfl) (by exact rfl) fun _ c => ?_
                replace c : Cx _ _ _ [_, _, _, _, _, _] := c
                exact fin _ M _ _ _ _ _ _ (c.pick [0, 1, 2, 4, 3, 5]) ok
            · refine c.nv (cs := [_, _]) rfl rfl fun out14_9_ _ c => ?_
              replace c : Cx _ _ _ [_, _, _, _, _] := c
              refine And.intro (f33 c.gr) ?_
              refine And.intro (c.vc (i := 0) rfl rfl) ?_
              refine And.intro (c.vl (i := 0) rfl rfl) ?_
              refine .inl (.inl ⟨_, _, _, rfl, cs.last (hs _ (B.up b0 c.gr)) (by have := ha.1; omega) fun _ g => ?_⟩)
              have c := c.more g
              rw [hlen]
              replace c : Cx _ _ _ [_, _, _, _, _] := c
              refine And.intro (c.vl (i := 0) rfl rfl) ?_
              refine cs.finds (B.up b0 c.gr) H k ht hi htop fun x' M _ d ok => ?_
              have c := c.frame0 d
              replace c : Cx _ _ _ [_, _, _, _, _, _] := c
              refine En.vb rfl ?_
              refine En.vb rfl ?_
              refine c.vw 4 rfl (vs := [_, _]) (by exact rfl) (by exact rfl) (by exact rfl) (by exact rfl) fun _ c => ?_
              replace c : Cx _ _ _ [_, _, _, _, _, _] := c
              refine c.vw 3 rfl (vs := [_, _, _]) (by exact rfl) (by exact rfl) (by exact rfl) (by exact rfl) fun _ c => ?_
              replace c : Cx _ _ _ [_, _, _, _, _, _] := c
              exact fin _ M _ _ _ _ _ _ (c.pick [0, 1, 2, 4, 3, 5]) ok
      · refine And.intro ?_ ?_
        · refine c.nv (cs := [_, _]) rfl rfl fun out14_10_ _ c => ?_
          replace c : Cx _ _ _ [_, _, _, _] := c
          refine And.intro (f33 c.gr) ?_
          refine And.intro (c.vc (i := 0) rfl rfl) ?_
          refine And.intro (c.vl (i := 0) rfl rfl) ?_
          refine And.intro ?_ ?_
          · refine cs.vAt (B.up b0 c.gr) Va fun _ q _ _ g => ?_
            have c := c.more g
            replace c : Cx _ _ _ [_, _, _, _] := c
            refine And.intro (f33 c.gr) ?_
            refine And.intro (c.vc (i := 0) rfl rfl) ?_
            refine And.intro (c.vl (i := 0) rfl rfl) ?_
            refine And.intro ?_ ?_
            · refine .inl (.inl ⟨_, _, _, rfl, cs.last (hs _ (B.up b0 c.gr)) (by have := ha.1; omega) fun _ g => ?_⟩)
              have c := c.more g
              rw [hlen]
              replace c : Cx _ _ _ [_, _, _, _] := c
              refine And.intro (c.vl (i := 0) rfl rfl) ?_
              refine And.intro ?_ ?_
              · refine cs.finds (B.up b0 c.gr) H k ht hi htop fun x' M _ d ok => ?_
                have c := c.frame0 d
                replace c : Cx _ _ _ [_, _, _, _, _] := c
                refine En.vb rfl ?_
                refine En.vb rfl ?_
                refine c.nv (cs := [_, _, _]) rfl rfl fun w15_10_ _ c => ?_
                replace c : Cx _ _ _ [_, _, _, _, _, _] := c
                refine c.vw 3 rfl (vs := [_, _]) (by exact rfl) (by exact rfl) (by exact rfl) (by exact rfl) fun _ c => ?_
                replace c : Cx _ _ _ [_, _, _, _, _, _] := c
                refine c.vw 5 rfl (vs := [_, _, _]) (by exact rfl) (by exact rfl) (by exact rfl) (by exact rfl) fun _ c => ?_
                replace c : Cx _ _ _ [_, _, _, _, _, _] := c
                exact fin _ M _ _ _ _ _ _ (c.pick [0, 1, 2, 3, 5, 4]) ok
              · refine c.nv (cs := [_, _, _]) rfl rfl fun w15_11_ _ c => ?_
                replace c : Cx _ _ _ [_, _, _, _, _] := c
                refine And.intro (c.vl (i := 0) rfl rfl) ?_
                refine cs.finds (B.up b0 c.gr) H k ht hi htop fun x' M _ d ok => ?_
                have c := c.frame0 d
                replace c : Cx _ _ _ [_, _, _, _, _, _] := c
                refine En.vb rfl ?_
                refine En.vb rfl ?_
                refine c.vw 3 rfl (vs := [_, _]) (by exact rfl) (by exact rfl) (by exact rfl) (by exact rfl) fun _ c => ?_
                replace c : Cx _ _ _ [_, _, _, _, _, _] := c
                refine c.vw 4 rfl (vs := [_, _, _]) (by exact rfl) (by exact rfl) (by exact rfl) (by exact rfl) fun _ c => ?_
                replace c : Cx _ _ _ [_, _, _, _, _, _] := c
                exact fin _ M _ _ _ _ _ _ (c.pick [0, 1, 2, 3, 4, 5]) ok
            · refine c.nv (cs := [_, _, _]) rfl rfl fun w15_12_ _ c => ?_
              replace c : Cx _ _ _ [_, _, _, _, _] := c
              refine And.intro (f33 c.gr) ?_
              refine And.intro (c.vc (i := 0) rfl rfl) ?_
              refine And.intro (c.vl (i := 0) rfl rfl) ?_
              refine .inl (.inl ⟨_, _, _, rfl, cs.last (hs _ (B.up b0 c.gr)) (by have := ha.1; omega) fun _ g => ?_⟩)
              have c := c.more g
              rw [hlen]
              replace c : Cx _ _ _ [_, _, _, _, _] := c
              refine And.intro (c.vl (i := 0) rfl rfl) ?_
              refine cs.finds (B.up b0 c.gr) H k ht hi htop fun x' M _ d ok => ?_
              have c := c.frame0 d
              replace c : Cx _ _ _ [_, _, _, _, _, _] := c
              refine En.vb rfl ?_
              refine En.vb rfl ?_
              refine c.vw 3 rfl (vs := [_, _]) (by exact rfl) (by exact rfl) (by exact rfl) (by exact rfl) fun _ c => ?_
              replace c : Cx _ _ _ [_, _, _, _, _, _] := c
              refine c.vw 4 rfl (vs := [_, _, _]) (by exact rfl) (by exact rfl) (by exact rfl) (by exact rfl) fun _ c => ?_
              replace c : Cx _ _ _ [_, _, _, _, _, _] := c
              exact fin _ M _ _ _ _ _ _ (c.pick [0, 1, 2, 3, 4, 5]) ok
          · refine c.nv (cs := [_, _, _]) rfl rfl fun w15_13_ _ c => ?_
            replace c : Cx _ _ _ [_, _, _, _, _] := c
            refine And.intro (f33 c.gr) ?_
            refine And.intro (c.vc (i := 0) rfl rfl) ?_
            refine And.intro (c.vl (i := 0) rfl rfl) ?_
            refine cs.vAt (B.up b0 c.gr) Va fun _ q _ _ g => ?_
            have c := c.more g
            replace c : Cx _ _ _ [_, _, _, _, _] := c
            refine And.intro (f33 c.gr) ?_
            refine And.intro (c.vc (i := 0) rfl rfl) ?_
            refine And.intro (c.vl (i := 0) rfl rfl) ?_
            refine .inl (.inl ⟨_, _, _, rfl, cs.last (hs _ (B.up b0 c.gr)) (by have := ha.1; omega) fun _ g => ?_⟩)
            have c := c.more g
            rw [hlen]
            replace c : Cx _ _ _ [_, _, _, _, _] := c
            refine And.intro (c.vl (i := 0) rfl rfl) ?_
            refine cs.finds (B.up b0 c.gr) H k ht hi htop fun x' M _ d ok => ?_
            have c := c.frame0 d
            replace c : Cx _ _ _ [_, _, _, _, _, _] := c
            refine En.vb rfl ?_
            refine En.vb rfl ?_
            refine c.vw 3 rfl (vs := [_, _]) (by exact rfl) (by exact rfl) (by exact rfl) (by exact rfl) fun _ c => ?_
            replace c : Cx _ _ _ [_, _, _, _, _, _] := c
            refine c.vw 4 rfl (vs := [_, _, _]) (by exact rfl) (by exact rfl) (by exact rfl) (by exact rfl) fun _ c => ?_
            replace c : Cx _ _ _ [_, _, _, _, _, _] := c
            exact fin _ M _ _ _ _ _ _ (c.pick [0, 1, 2, 3, 4, 5]) ok
        · refine c.nv (cs := [_, _, _]) rfl rfl fun w15_14_ _ c => ?_
          replace c : Cx _ _ _ [_, _, _, _] := c
          refine And.intro (f33 c.gr) ?_
          refine And.intro (c.vc (i := 0) rfl rfl) ?_
          refine And.intro (c.vl (i := 0) rfl rfl) ?_
          refine And.intro ?_ ?_
          · refine cs.vAt (B.up b0 c.gr) Va fun _ q _ _ g => ?_
            have c := c.more g
            replace c : Cx _ _ _ [_, _, _, _] := c
            refine And.intro (f33 c.gr) ?_
            refine And.intro (c.vc (i := 0) rfl rfl) ?_
            refine And.intro (c.vl (i := 0) rfl rfl) ?_
            refine And.intro ?_ ?_
            · refine .inl (.inl ⟨_, _, _, rfl, cs.last (hs _ (B.up b0 c.gr)) (by have := ha.1; omega) fun _ g => ?_⟩)
              have c := c.more g
              rw [hlen]
              replace c : Cx _ _ _ [_, _, _, _] := c
              refine And.intro (c.vl (i := 0) rfl rfl) ?_
              refine And.intro ?_ ?_
              · refine cs.finds (B.up b0 c.gr) H k ht hi htop fun x' M _ d ok => ?_
                have c := c.frame0 d
                replace c : Cx _ _ _ [_, _, _, _, _] := c
                refine En.vb rfl ?_
                refine En.vb rfl ?_
                refine c.nv (cs := [_, _]) rfl rfl fun out14_11_ _ c => ?_
                replace c : Cx _ _ _ [_, _, _, _, _, _] := c
                refine c.vw 5 rfl (vs := [_, _]) (by exact rfl) (by exact rfl) (by exact rfl) (by exact rfl) fun _ c => ?_
                replace c : Cx _ _ _ [_, _, _, _, _, _] := c
                refine c.vw 3 rfl (vs := [_, _, _]) (by exact rfl) (by exact rfl) (by exact rfl) (by exact rfl) fun _ c => ?_
                replace c : Cx _ _ _ [_, _, _, _, _, _] := c
                exact fin _ M _ _ _ _ _ _ (c.pick [0, 1, 2, 5, 3, 4]) ok
              · refine c.nv (cs := [_, _]) rfl rfl fun out14_12_ _ c => ?_
                replace c : Cx _ _ _ [_, _, _, _, _] := c
                refine And.intro (c.vl (i := 0) rfl rfl) ?_
                refine cs.finds (B.up b0 c.gr) H k ht hi htop fun x' M _ d ok => ?_
                have c := c.frame0 d
                replace c : Cx _ _ _ [_, _, _, _, _, _] := c
                refine En.vb rfl ?_
                refine En.vb rfl ?_
                refine c.vw 4 rfl (vs := [_, _]) (by exact rfl) (by exact rfl) (by exact rfl) (by exact rfl) fun _ c => ?_
                replace c : Cx _ _ _ [_, _, _, _, _, _] := c
                refine c.vw 3 rfl (vs := [_, _, _]) (by exact rfl) (by exact rfl) (by exact rfl) (by exact rfl) fun _ c => ?_
                replace c : Cx _ _ _ [_, _, _, _, _, _] := c
                exact fin _ M _ _ _ _ _ _ (c.pick [0, 1, 2, 4, 3, 5]) ok
            · refine c.nv (cs := [_, _]) rfl rfl fun out14_13_ _ c => ?_
              replace c : Cx _ _ _ [_, _, _, _, _] := c
              refine And.intro (f33 c.gr) ?_
              refine And.intro (c.vc (i := 0) rfl rfl) ?_
              refine And.intro (c.vl (i := 0) rfl rfl) ?_
              refine .inl (.inl ⟨_, _, _, rfl, cs.last (hs _ (B.up b0 c.gr)) (by have := ha.1; omega) fun _ g => ?_⟩)
              have c := c.more g
              rw [hlen]
              replace c : Cx _ _ _ [_, _, _, _, _] := c
              refine And.intro (c.vl (i := 0) rfl rfl) ?_
              refine cs.finds (B.up b0 c.gr) H k ht hi htop fun x' M _ d ok => ?_
              have c := c.frame0 d
              replace c : Cx _ _ _ [_, _, _, _, _, _] := c
              refine En.vb rfl ?_
              refine En.vb rfl ?_
              refine c.vw 4 rfl (vs := [_, _]) (by exact rfl) (by exact rfl) (by exact rfl) (by exact rfl) fun _ c => ?_
              replace c : Cx _ _ _ [_, _, _, _, _, _] := c
              refine c.vw 3 rfl (vs := [_, _, _]) (by exact rfl) (by exact rfl) (by exact rfl) (by exact rfl) fun _ c => ?_
              replace c : Cx _ _ _ [_, _, _, _, _, _] := c
              exact fin _ M _ _ _ _ _ _ (c.pick [0, 1, 2, 4, 3, 5]) ok
          · refine c.nv (cs := [_, _]) rfl rfl fun out14_14_ _ c => ?_
            replace c : Cx _ _ _ [_, _, _, _, _] := c
            refine And.intro (f33 c.gr) ?_
            refine And.intro (c.vc (i := 0) rfl rfl) ?_
            refine And.intro (c.vl (i := 0) rfl rfl) ?_
            refine cs.vAt (B.up b0 c.gr) Va fun _ q _ _ g => ?_
            have c := c.more g
            replace c : Cx _ _ _ [_, _, _, _, _] := c
            refine And.intro (f33 c.gr) ?_
            refine And.intro (c.vc (i := 0) rfl rfl) ?_
            refine And.intro (c.vl (i := 0) rfl rfl) ?_
            refine .inl (.inl ⟨_, _, _, rfl, cs.last (hs _ (B.up b0 c.gr)) (by have := ha.1; omega) fun _ g => ?_⟩)
            have c := c.more g
            rw [hlen]
            replace c : Cx _ _ _ [_, _, _, _, _] := c
            refine And.intro (c.vl (i := 0) rfl rfl) ?_
            refine cs.finds (B.up b0 c.gr) H k ht hi htop fun x' M _ d ok => ?_
            have c := c.frame0 d
            replace c : Cx _ _ _ [_, _, _, _, _, _] := c
            refine En.vb rfl ?_
            refine En.vb rfl ?_
            refine c.vw 4 rfl (vs := [_, _]) (by exact rfl) (by exact rfl) (by exact rfl) (by exact rfl) fun _ c => ?_
            replace c : Cx _ _ _ [_, _, _, _, _, _] := c
            refine c.vw 3 rfl (vs := [_, _, _]) (by exact rfl) (by exact rfl) (by exact rfl) (by exact rfl) fun _ c => ?_
            replace c : Cx _ _ _ [_, _, _, _, _, _] := c
            exact fin _ M _ _ _ _ _ _ (c.pick [0, 1, 2, 4, 3, 5]) ok
    · refine And.intro ?_ ?_
      · refine c.nv (cs := [_, _]) rfl rfl fun out14_15_ _ c => ?_
        replace c : Cx _ _ _ [_, _, _, _] := c
        refine And.intro (c.vl (i := 0) rfl rfl) ?_
        refine And.intro (f33 c.gr) ?_
        refine And.intro (c.vc (i := 0) rfl rfl) ?_
        refine And.intro (c.vl (i := 0) rfl rfl) ?_
        refine And.intro ?_ ?_
        · refine cs.seen (B.up b0 c.gr) H k ht fun a Va _ g => ?_
          have c := c.more g
          replace c : Cx _ _ _ [_, _, _, _] := c
          refine And.intro (f33 c.gr) ?_
          refine And.intro (c.vc (i := 0) rfl rfl) ?_
          refine And.intro (c.vl (i := 0) rfl rfl) ?_
          refine And.intro ?_ ?_
          · refine cs.vAt (B.up b0 c.gr) Va fun _ q _ _ g => ?_
            have c := c.more g
            replace c : Cx _ _ _ [_, _, _, _] := c
            refine And.intro (f33 c.gr) ?_
            refine And.intro (c.vc (i := 0) rfl rfl) ?_
            refine And.intro (c.vl (i := 0) rfl rfl) ?_
            refine And.intro ?_ ?_
            · refine .inl (.inl ⟨_, _, _, rfl, cs.last (hs _ (B.up b0 c.gr)) (by have := ha.1; omega) fun _ g => ?_⟩)
              have c := c.more g
              rw [hlen]
              replace c : Cx _ _ _ [_, _, _, _] := c
              refine And.intro (c.vl (i := 0) rfl rfl) ?_
              refine And.intro ?_ ?_
              · refine cs.finds (B.up b0 c.gr) H k ht hi htop fun x' M _ d ok => ?_
                have c := c.frame0 d
                replace c : Cx _ _ _ [_, _, _, _, _] := c
                refine En.vb rfl ?_
                refine En.vb rfl ?_
                refine c.nv (cs := [_, _, _]) rfl rfl fun w15_15_ _ c => ?_
                replace c : Cx _ _ _ [_, _, _, _, _, _] := c
                refine c.vw 3 rfl (vs := [_, _]) (by exact rfl) (by exact rfl) (by exact rfl) (by exact rfl) fun _ c => ?_
                replace c : Cx _ _ _ [_, _, _, _, _, _] := c
                refine c.vw 5 rfl (vs := [_, _, _]) (by exact rfl) (by exact rfl) (by exact rfl) (by exact rfl) fun _ c => ?_
                replace c : Cx _ _ _ [_, _, _, _, _, _] := c
                exact fin _ M _ _ _ _ _ _ (c.pick [0, 1, 2, 3, 5, 4]) ok
              · refine c.nv (cs := [_, _, _]) rfl rfl fun w15_16_ _ c => ?_
                replace c : Cx _ _ _ [_, _, _, _, _] := c
                refine And.intro (c.vl (i := 0) rfl rfl) ?_
                refine cs.finds (B.up b0 c.gr) H k ht hi htop fun x' M _ d ok => ?_
                have c := c.frame0 d
                replace c : Cx _ _ _ [_, _, _, _, _, _] := c
                refine En.vb rfl ?_
                refine En.vb rfl ?_
                refine c.vw 3 rfl (vs := [_, _]) (by exact rfl) (by exact rfl) (by exact rfl) (by exact rfl) fun _ c => ?_
                replace c : Cx _ _ _ [_, _, _, _, _, _] := c
                refine c.vw 4 rfl (vs := [_, _, _]) (by exact rfl) (by exact rfl) (by exact rfl) (by exact rfl) fun _ c => ?_
                replace c : Cx _ _ _ [_, _, _, _, _, _] := c
                exact fin _ M _ _ _ _ _ _ (c.pick [0, 1, 2, 3, 4, 5]) ok
            · refine c.nv (cs := [_, _, _]) rfl rfl fun w15_17_ _ c => ?_
              replace c : Cx _ _ _ [_, _, _, _, _] := c
              refine And.intro (f33 c.gr) ?_
              refine And.intro (c.vc (i := 0) rfl rfl) ?_
              refine And.intro (c.vl (i := 0) rfl rfl) ?_
              refine .inl (.inl ⟨_, _, _, rfl, cs.last (hs _ (B.up b0 c.gr)) (by have := ha.1; omega) fun _ g => ?_⟩)
              have c := c.more g
              rw [hlen]
              replace c : Cx _ _ _ [_, _, _, _, _] := c
              refine And.intro (c.vl (i := 0) rfl rfl) ?_
              refine cs.finds (B.up b0 c.gr) H k ht hi htop fun x' M _ d ok => ?_
              have c := c.frame0 d
              replace c : Cx _ _ _ [_, _, _, _, _, _] := c
              refine En.vb rfl ?_
              refine En.vb rfl ?_
              refine c.vw 3 rfl (vs := [_, _]) (by exact rfl) (by exact rfl) (by exact rfl) (by exact rfl) fun _ c => ?_
              replace c : Cx _ _ _ [_, _, _, _, _, _] := c
              refine c.vw 4 rfl (vs := [_, _, _]) (by exact rfl) (by exact rfl) (by exact rfl) (by exact rfl) fun _ c => ?_
              replace c : Cx _ _ _ [_, _, _, _, _, _] := c
              exact fin _ M _ _ _ _ _ _ (c.pick [0, 1, 2, 3, 4, 5]) ok
          · refine c.nv (cs := [_, _, _]) rfl rfl fun w15_18_ _ c => ?_
            replace c : Cx _ _ _ [_, _, _, _, _] := c
            refine And.intro (f33 c.gr) ?_
            refine And.intro (c.vc (i := 0) rfl rfl) ?_
            refine And.intro (c.vl (i := 0) rfl rfl) ?_
            refine cs.vAt (B.up b0 c.gr) Va fun _ q _ _ g => ?_
            have c := c.more g
            replace c : Cx _ _ _ [_, _, _, _, _] := c
            refine And.intro (f33 c.gr) ?_
            refine And.intro (c.vc (i := 0) rfl rfl) ?_
            refine And.intro (c.vl (i := 0) rfl rfl) ?_
            refine .inl (.inl ⟨_, _, _, rfl, cs.last (hs _ (B.up b0 c.gr)) (by have := ha.1; omega) fun _ g => ?_⟩)
            have c := c.more g
            rw [hlen]
            replace c : Cx _ _ _ [_, _, _, _, _] := c
            refine And.intro (c.vl (i := 0) rfl rfl) ?_
            refine cs.finds (B.up b0 c.gr) H k ht hi htop fun x' M _ d ok => ?_
            have c := c.frame0 d
            replace c : Cx _ _ _ [_, _, _, _, _, _] := c
            refine En.vb rfl ?_
            refine En.vb rfl ?_
            refine c.vw 3 rfl (vs := [_, _]) (by exact rfl) (by exact rfl) (by exact rfl) (by exact rfl) fun _ c => ?_
            replace c : Cx _ _ _ [_, _, _, _, _, _] := c
            refine c.vw 4 rfl (vs := [_, _, _]) (by exact rfl) (by exact rfl) (by exact rfl) (by exact rfl) fun _ c => ?_
            replace c : Cx _ _ _ [_, _, _, _, _, _] := c
            exact fin _ M _ _ _ _ _ _ (c.pick [0, 1, 2, 3, 4, 5]) ok
        · refine c.nv (cs := [_, _, _]) rfl rfl fun w15_19_ _ c => ?_
          replace c : Cx _ _ _ [_, _, _, _, _] := c
          refine And.intro (c.vl (i := 0) rfl rfl) ?_
          refine And.intro (f33 c.gr) ?_
          refine And.intro (c.vc (i := 0) rfl rfl) ?_
          refine And.intro (c.vl (i := 0) rfl rfl) ?_
          refine cs.seen (B.up b0 c.gr) H k ht fun a Va _ g => ?_
          have c := c.more g
          replace c : Cx _ _ _ [_, _, _, _, _] := c
          refine And.intro (f33 c.gr) ?_
          refine And.intro (c.vc (i := 0) rfl rfl) ?_
          refine And.intro (c.vl (i := 0) rfl rfl) ?_
          refine cs.vAt (B.up b0 c.gr) Va fun _ q _ _ g => ?_
          have c := c.more g
          replace c : Cx _ _ _ [_, _, _, _, _] := c
          refine And.intro (f33 c.gr) ?_
          refine And.intro (c.vc (i := 0) rfl rfl) ?_
          refine And.intro (c.vl (i := 0) rfl rfl) ?_
          refine .inl (.inl ⟨_, _, _, rfl, cs.last (hs _ (B.up b0 c.gr)) (by have := ha.1; omega) fun _ g => ?_⟩)
          have c := c.more g
          rw [hlen]
          replace c : Cx _ _ _ [_, _, _, _, _] := c
          refine And.intro (c.vl (i := 0) rfl rfl) ?_
          refine cs.finds (B.up b0 c.gr) H k ht hi htop fun x' M _ d ok => ?_
          have c := c.frame0 d
          replace c : Cx _ _ _ [_, _, _, _, _, _] := c
          refine En.vb rfl ?_
          refine En.vb rfl ?_
          refine c.vw 3 rfl (vs := [_, _]) (by exact rfl) (by exact rfl) (by exact rfl) (by exact rfl) fun _ c => ?_
          replace c : Cx _ _ _ [_, _, _, _, _, _] := c
          refine c.vw 4 rfl (vs := [_, _, _]) (by exact rfl) (by exact rfl) (by exact rfl) (by exact rfl) fun _ c => ?_
          replace c : Cx _ _ _ [_, _, _, _, _, _] := c
          exact fin _ M _ _ _ _ _ _ (c.pick [0, 1, 2, 3, 4, 5]) ok
      · refine c.nv (cs := [_, _, _]) rfl rfl fun w15_20_ _ c => ?_
        replace c : Cx _ _ _ [_, _, _, _] := c
        refine And.intro (c.vl (i := 0) rfl rfl) ?_
        refine And.intro (f33 c.gr) ?_
        refine And.intro (c.vc (i := 0) rfl rfl) ?_
        refine And.intro (c.vl (i := 0) rfl rfl) ?_
        refine And.intro ?_ ?_
        · refine cs.seen (B.up b0 c.gr) H k ht fun a Va _ g => ?_
          have c := c.more g
          replace c : Cx _ _ _ [_, _, _, _] := c
          refine And.intro (f33 c.gr) ?_
          refine And.intro (c.vc (i := 0) rfl rfl) ?_
          refine And.intro (c.vl (i := 0) rfl rfl) ?_
          refine And.intro ?_ ?_
          · refine cs.vAt (B.up b0 c.gr) Va fun _ q _ _ g => ?_
            have c := c.more g
            replace c : Cx _ _ _ [_, _, _, _] := c
            refine And.intro (f33 c.gr) ?_
            refine And.intro (c.vc (i := 0) rfl rfl) ?_
            refine And.intro (c.vl (i := 0) rfl rfl) ?_
            refine And.intro ?_ ?_
            · refine .inl (.inl ⟨_, _, _, rfl, cs.last (hs _ (B.up b0 c.gr)) (by have := ha.1; omega) fun _ g => ?_⟩)
              have c := c.more g
              rw [hlen]
              replace c : Cx _ _ _ [_, _, _, _] := c
              refine And.intro (c.vl (i := 0) rfl rfl) ?_
              refine And.intro ?_ ?_
              · refine cs.finds (B.up b0 c.gr) H k ht hi htop fun x' M _ d ok => ?_
                have c := c.frame0 d
                replace c : Cx _ _ _ [_, _, _, _, _] := c
                refine En.vb rfl ?_
                refine En.vb rfl ?_
                refine c.nv (cs := [_, _]) rfl rfl fun out14_16_ _ c => ?_
                replace c : Cx _ _ _ [_, _, _, _, _, _] := c
                refine c.vw 5 rfl (vs := [_, _]) (by exact rfl) (by exact rfl) (by exact rfl) (by exact rfl) fun _ c => ?_
                replace c : Cx _ _ _ [_, _, _, _, _, _] := c
                refine c.vw 3 rfl (vs := [_, _, _]) (by exact rfl) (by exact rfl) (by exact rfl) (by exact rfl) fun _ c => ?_
                replace c : Cx _ _ _ [_, _, _, _, _, _] := c
                exact fin _ M _ _ _ _ _ _ (c.pick [0, 1, 2, 5, 3, 4]) ok
              · refine c.nv (cs := [_, _]) rfl rfl fun out14_17_ _ c => ?_
                replace c : Cx _ _ _ [_, _, _, _, _] := c
                refine And.intro (c.vl (i := 0) rfl rfl) ?_
                refine cs.finds (B.up b0 c.gr) H k ht hi htop fun x' M _ d ok => ?_
                have c := c.frame0 d
                replace c : Cx _ _ _ [_, _, _, _, _, _] := c
                refine En.vb rfl ?_
                refine En.vb rfl ?_
                refine c.vw 4 rfl (vs := [_, _]) (by exact rfl) (by exact rfl) (by exact rfl) (by exact rfl) fun _ c => ?_
                replace c : Cx _ _ _ [_, _, _, _, _, _] := c
                refine c.vw 3 rfl (vs := [_, _, _]) (by exact rfl) (by exact rfl) (by exact rfl) (by exact rfl) fun _ c => ?_
                replace c : Cx _ _ _ [_, _, _, _, _, _] := c
                exact fin _ M _ _ _ _ _ _ (c.pick [0, 1, 2, 4, 3, 5]) ok
            · refine c.nv (cs := [_, _]) rfl rfl fun out14_18_ _ c => ?_
              replace c : Cx _ _ _ [_, _, _, _, _] := c
              refine And.intro (f33 c.gr) ?_
              refine And.intro (c.vc (i := 0) rfl rfl) ?_
              refine And.intro (c.vl (i := 0) rfl rfl) ?_
              refine .inl (.inl ⟨_, _, _, rfl, cs.last (hs _ (B.up b0 c.gr)) (by have := ha.1; omega) fun _ g => ?_⟩)
              have c := c.more g
              rw [hlen]
              replace c : Cx _ _ _ [_, _, _, _, _] := c
              refine And.intro (c.vl (i := 0) rfl rfl) ?_
              refine cs.finds (B.up b0 c.gr) H k ht hi htop fun x' M _ d ok => ?_
              have c := c.frame0 d
              replace c : Cx _ _ _ [_, _, _, _, _, _] := c
              refine En.vb rfl ?_
              refine En.vb rfl ?_
              refine c.vw 4 rfl (vs := [_, _]) (by exact rfl) (by exact rfl) (by exact rfl) (by exact rfl) fun _ c => ?_
              replace c : Cx _ _ _ [_, _, _, _, _, _] := c
              refine c.vw 3 rfl (vs := [_, _, _]) (by exact rfl) (by exact rfl) (by exact rfl) (by exact rfl) fun _ c => ?_
              replace c : Cx _ _ _ [_, _, _, _, _, _] := c
              exact fin _ M _ _ _ _ _ _ (c.pick [0, 1, 2, 4, 3, 5]) ok
          · refine c.nv (cs := [_, _]) rfl rfl fun out14_19_ _ c => ?_
            replace c : Cx _ _ _ [_, _, _, _, _] := c
            refine And.intro (f33 c.gr) ?_
            refine And.intro (c.vc (i := 0) rfl rfl) ?_
            refine And.intro (c.vl (i := 0) rfl rfl) ?_
            refine cs.vAt (B.up b0 c.gr) Va fun _ q _ _ g => ?_
            have c := c.more g
            replace c : Cx _ _ _ [_, _, _, _, _] := c
            refine And.intro (f33 c.gr) ?_
            refine And.intro (c.vc (i := 0) rfl rfl) ?_
            refine And.intro (c.vl (i := 0) rfl rfl) ?_
            refine .inl (.inl ⟨_, _, _, rfl, cs.last (hs _ (B.up b0 c.gr)) (by have := ha.1; omega) fun _ g => ?_⟩)
            have c := c.more g
            rw [hlen]
            replace c : Cx _ _ _ [_, _, _, _, _] := c
            refine And.intro (c.vl (i := 0) rfl rfl) ?_
            refine cs.finds (B.up b0 c.gr) H k ht hi htop fun x' M _ d ok => ?_
            have c := c.frame0 d
            replace c : Cx _ _ _ [_, _, _, _, _, _] := c
            refine En.vb rfl ?_
            refine En.vb rfl ?_
            refine c.vw 4 rfl (vs := [_, _]) (by exact rfl) (by exact rfl) (by exact rfl) (by exact rfl) fun _ c => ?_
            replace c : Cx _ _ _ [_, _, _, _, _, _] := c
            refine c.vw 3 rfl (vs := [_, _, _]) (by exact rfl) (by exact rfl) (by exact rfl) (by exact rfl) fun _ c => ?_
            replace c : Cx _ _ _ [_, _, _, _, _, _] := c
            exact fin _ M _ _ _ _ _ _ (c.pick [0, 1, 2, 4, 3, 5]) ok
        · refine c.nv (cs := [_, _]) rfl rfl fun out14_20_ _ c => ?_
          replace c : Cx _ _ _ [_, _, _, _, _] := c
          refine And.intro (c.vl (i := 0) rfl rfl) ?_
          refine And.intro (f33 c.gr) ?_
          refine And.intro (c.vc (i := 0) rfl rfl) ?_
          refine And.intro (c.vl (i := 0) rfl rfl) ?_
          refine cs.seen (B.up b0 c.gr) H k ht fun a Va _ g => ?_
          have c := c.more g
          replace c : Cx _ _ _ [_, _, _, _, _] := c
          refine And.intro (f33 c.gr) ?_
          refine And.intro (c.vc (i := 0) rfl rfl) ?_
          refine And.intro (c.vl (i := 0) rfl rfl) ?_
          refine cs.vAt (B.up b0 c.gr) Va fun _ q _ _ g => ?_
          have c := c.more g
          replace c : Cx _ _ _ [_, _, _, _, _] := c
          refine And.intro (f33 c.gr) ?_
          refine And.intro (c.vc (i := 0) rfl rfl) ?_
          refine And.intro (c.vl (i := 0) rfl rfl) ?_
          refine .inl (.inl ⟨_, _, _, rfl, cs.last (hs _ (B.up b0 c.gr)) (by have := ha.1; omega) fun _ g => ?_⟩)
          have c := c.more g
          rw [hlen]
          replace c : Cx _ _ _ [_, _, _, _, _] := c
          refine And.intro (c.vl (i := 0) rfl rfl) ?_
          refine cs.finds (B.up b0 c.gr) H k ht hi htop fun x' M _ d ok => ?_
          have c := c.frame0 d
          replace c : Cx _ _ _ [_, _, _, _, _, _] := c
          refine En.vb rfl ?_
          refine En.vb rfl ?_
          refine c.vw 4 rfl (vs := [_, _]) (by exact rfl) (by exact rfl) (by exact rfl) (by exact rfl) fun _ c => ?_
          replace c : Cx _ _ _ [_, _, _, _, _, _] := c
          refine c.vw 3 rfl (vs := [_, _, _]) (by exact rfl) (by exact rfl) (by exact rfl) (by exact rfl) fun _ c => ?_
          replace c : Cx _ _ _ [_, _, _, _, _, _] := c
          exact fin _ M _ _ _ _ _ _ (c.pick [0, 1, 2, 4, 3, 5]) ok
  · rintro _ _ h7 ⟨ro, rw, x', M, rfl, rfl, c, ok⟩
    replace c : Cx _ _ _ [_, _, _, _, _, _] := c
    refine En.vb (c.vl (i := 3) rfl rfl) ?_
    refine En.vb (c.vl (i := 4) rfl rfl) ?_
    refine c.vw 1 rfl (vs := [_, _]) (by exact rfl) (by exact rfl) (by exact rfl) (by exact rfl) fun _ c => ?_
    replace c : Cx _ _ _ [_, _, _, _, _, _] := c
    refine And.intro (c.vl (i := 4) rfl rfl) ?_
    refine c.vw 2 rfl (vs := [_, _, _]) (by exact rfl) (by exact rfl) (by exact rfl) (by exact rfl) fun _ c => ?_
    replace c : Cx _ _ _ [_, _, _, _, _, _] := c
    refine En.vb (c.vl (i := 1) rfl rfl) ?_
    refine En.vb (c.vl (i := 2) rfl rfl) ?_
    exact hR x' M _ (c.pick [5]) ok
theorem K_History {us : List SH} {u : SH} (cs : CmC S I) (b0 : B.p h) (H : MO B x m) (k : Mk T n b m) (hi : i < n) (h1 : On B fun h => Sl EH1 h (shV x.1) us) (hu : us[i]? = some u) (hR : ∀ h', Gr h h' → R (.tuple #[vH u, .bool true]) h') : F_memory_Memory_History S I (vMm x) (.int .i64 i) h R := by
  unfold F_memory_Memory_History
  have c := Cx.start0 h
  refine c.nv (cs := [_, _]) rfl rfl fun m2_ _ c => ?_
  replace c : Cx _ _ _ [_] := c
  refine c.nv (cs := [_]) rfl rfl fun v4_ _ c => ?_
  replace c : Cx _ _ _ [_, _] := c
  refine En.vb (c.vl (i := 0) rfl rfl) ?_
  refine cs.place (B.up b0 c.gr) H k hi fun _ g => ?_
  have c := c.more g
  replace c : Cx _ _ _ [_, _] := c
  refine En.vb (v := .bool false) (rfl) ?_
  refine brf ?_
  refine En.vb (fa_add _ _ _) ?_
  refine En.vb (c.vc (i := 0) rfl rfl) ?_
  refine (h1 _ (B.up b0 c.gr)).whole rfl hu rfl ?_
  refine c.vw 1 rfl (vs := [_]) (by exact rfl) (by exact rfl) (by exact rfl) (by exact rfl) fun _ c => ?_
  replace c : Cx _ _ _ [_, _] := c
  refine En.vb (c.vl (i := 1) rfl rfl) ?_
  exact hR _ c.gr
structure CmD (S : Sys) (I : Ids) : Prop extends CmC S I where
  look : ∀ {B : Bs} {T n b t i : Nat} {x : SH × SH} {m : Me} {h R}, B.p h → MO B x m → Mk T n b m → b ≤ 1000000 → (1 ≤ t ∧ t ≤ T) → i < n →
    (∀ x', Rt B h (fun B => MO B x' (m.fnd t i ((m.at i).length - 1) (m.top i) true)) fun h' => R (.tuple #[vMm x', mW (m.top i).w, .int .i64 0]) h') → S.C I.f_memory_Memory_look [vMm x, .int .i64 t, .int .i64 i, .bool true, .func (.func I.f_memory_picker_last) #[.int .i64 0] #[]] h R
  hist : ∀ {B : Bs} {T n b i : Nat} {x : SH × SH} {m : Me} {us : List SH} {u : SH} {h R}, B.p h → MO B x m → Mk T n b m → i < n → (On B fun h => Sl EH1 h (shV x.1) us) → us[i]? = some u → (∀ h', Gr h h' → R (.tuple #[vH u, .bool true]) h') → S.C I.f_memory_Memory_History [vMm x, .int .i64 i] h R
theorem K_Look (cs : CmD S I) (b0 : B.p h) (H : MO B x m) (k : Mk T n b m) (hb : b ≤ 1000000) (ht : 1 ≤ t ∧ t ≤ T) (hi : i < n)
    (hR : ∀ x', Rt B h (fun B => MO B x' (m.fnd t i ((m.at i).length - 1) (m.top i) true)) fun h' => R (.tuple #[vMm x', mW (m.top i).w, .int .i64 0]) h') : F_memory_Memory_Look S I (vMm x) (.int .i64 t) (.int .i64 i) h R := by
  unfold F_memory_Memory_Look
  have c := Cx.start0 h
  refine c.nv (cs := [_, _]) rfl rfl fun m3_ _ c => ?_
  replace c : Cx _ _ _ [_] := c
  refine c.nv (cs := [_, _]) rfl rfl fun v6_ _ c => ?_
  replace c : Cx _ _ _ [_, _] := c
  refine c.nv (cs := [_, _, _]) rfl rfl fun v7_ _ c => ?_
  replace c : Cx _ _ _ [_, _, _] := c
  refine En.vb (c.vl (i := 0) rfl rfl) ?_
  refine En.vb rfl ?_
  refine cs.look (B.up b0 c.gr) H k hb ht hi fun x' M _ d ok => ?_
  have c := c.frame0 d
  replace c : Cx _ _ _ [_, _, _, _] := c
  refine En.vb rfl ?_
  refine En.vb rfl ?_
  refine En.vb rfl ?_
  refine c.vw 1 rfl (vs := [_, _]) (by exact rfl) (by exact rfl) (by exact rfl) (by exact rfl) fun _ c => ?_
  replace c : Cx _ _ _ [_, _, _, _] := c
  refine c.vw 2 rfl (vs := [_, _, _]) (by exact rfl) (by exact rfl) (by exact rfl) (by exact rfl) fun _ c => ?_
  replace c : Cx _ _ _ [_, _, _, _] := c
  refine En.vb (c.vl (i := 1) rfl rfl) ?_
  refine En.vb (c.vl (i := 2) rfl rfl) ?_
  exact hR x' M _ (c.pick [3]) ok
theorem K_mLast (cs : CmD S I) (b0 : B.p h) (H : MO B x m) (k : Mk T n b m) (hb : b ≤ 1000000) (hi : i < n) (hR : ∀ h', Gr h h' → R (.tuple #[mW (m.top i).w, .bool true]) h') : F_memory_Memory_Last S I (vMm x) (.int .i64 i) h R := by
  obtain ⟨us, h1, h2, h3⟩ := H.hs
  have hn := k.hs
  have hu := List.getElem?_eq_getElem (l := us) (i := i) (by omega)
  obtain ⟨hm, hl1, hl2⟩ := k.at hi
  have htop := k.top hi
  obtain ⟨ms, hs, ha⟩ := h3 _ _ _ hu hm
  generalize us[i] = u at hu hs
  have hl : ms.length = (m.at i).length := ha.1
  have hms := List.getElem?_eq_getElem (l := ms) (i := (m.at i).length - 1) (by omega)
  have hw := (ha.2 _ _ _ hms htop).1
  generalize ms[(m.at i).length - 1]'(by omega) = l at hms hw
  have hdec : ms = ms.dropLast ++ [l] := by
    have hne : ms ≠ [] := fun e => by rw [e] at hl; simp at hl; omega
    have h9 := List.dropLast_concat_getLast hne
    have h8 : ms.getLast hne = l := by
      have := List.getLast?_eq_some_getLast hne
      rw [List.getLast?_eq_getElem?, hl, hms] at this
      injection this with this
      exact this.symm
    rw [h8] at h9
    exact h9.symm
  rw [← hw] at hR
  rw [hdec] at hs
  have hl5 : ms.dropLast.length ≤ 1000000 := by rw [List.length_dropLast]; omega
  generalize ms.dropLast = ms0 at hs hl5
  unfold F_memory_Memory_Last
  have c := Cx.start0 h
  refine c.nv (cs := [_, _]) rfl rfl fun m2_ _ c => ?_
  replace c : Cx _ _ _ [_] := c
  refine c.nv (cs := [_, _, _]) rfl rfl fun v4_ _ c => ?_
  replace c : Cx _ _ _ [_, _] := c
  refine En.vb (c.vl (i := 0) rfl rfl) ?_
  refine cs.hist (B.up b0 c.gr) H k hi h1 hu fun _ g => ?_
  have c := c.more g
  replace c : Cx _ _ _ [_, _] := c
  refine En.vb rfl ?_
  refine En.vb rfl ?_
  refine c.nv (cs := [_]) rfl rfl fun x6_ _ c => ?_
  replace c : Cx _ _ _ [_, _, _] := c
  refine c.vw 2 rfl (vs := [_]) (by exact rfl) (by exact rfl) (by exact rfl) (by exact rfl) fun _ c => ?_
  replace c : Cx _ _ _ [_, _, _] := c
  refine En.vb (c.vl (i := 2) rfl rfl) ?_
  refine cs.hLast (hs _ (B.up b0 c.gr)) hl5 fun _ g => ?_
  have c := c.more g
  replace c : Cx _ _ _ [_, _, _] := c
  refine En.vb (v := mW l.w) (by kernel_rfl) ?_
  refine c.vw 1 rfl (vs := [_, _, _]) (by exact rfl) (by exact rfl) (by exact rfl) (by exact rfl) fun _ c => ?_
  replace c : Cx _ _ _ [_, _, _] := c
  refine En.vb (c.vl (i := 1) rfl rfl) ?_
  exact hR _ c.gr
end
end Go.En
namespace Go.En

variable {S : Sys} {I : Ids} {h h0 h' : Hp} {F F0 : Fp} {R : Value → Hp → Prop} {L : List Res} {B B' : Bs}
section
variable {T n b t i : Nat} {x : SH × SH} {m : Me} {w : W3} {am : AM}
theorem take_set_drop {α : Type} : ∀ {l : List α} {i : Nat} (y : α), i < l.length → l.take i ++ [y] ++ l.drop (i + 1) = l.set i y
  | [], i, y, h => by simp at h
  | a :: l, 0, y, h => by simp
  | a :: l, i + 1, y, h => by simpa using take_set_drop (l := l) (i := i) y (by simpa using h)
theorem MO.added {Ms : List Res} {us : List SH} {vs : List (Option Nat)} {u' u2 u3 : SH} {ms : List Msg} {a a2 : Option Nat} {f g : Int → Int} (hi : i < us.length) (h2 : us.length = m.hs.length) (h3 : ∀ (i : Nat) (u : SH) (as : List AM), us[i]? = some u → m.hs[i]? = some as → HO B u as)
    (v2 : vs.length = m.vs.length) (v3 : ∀ (i : Nat) (a : Option Nat) (f : Int → Int), vs[i]? = some a → m.vs[i]? = some f → VO B a f) (ht : t - 1 < vs.length) (ha : Al B ms (m.at i)) (Va : VO (B.and Ms) a f) (Vt : VO (B.and Ms) a2 g) {tt : Int}
    (s1 : On (B.and Ms) fun h => Sl EMs h (shV u') (ms ++ [⟨w, tt, a2⟩])) (s2 : On (B.and Ms) fun h => Sl EH1 h (shV u2) (us.take i ++ [u'] ++ us.drop (i + 1))) (s3 : On (B.and Ms) fun h => Sl EM h (shV u3) (vs.set (t - 1) a)) :
    MO (B.and Ms) (u2, u3) { hs := m.hs.set i (m.at i ++ [⟨w, g⟩]), vs := m.vs.set (t - 1) f } := by
  have lb := Bs.le_and B Ms
  rw [take_set_drop u' hi] at s2
  refine ⟨⟨vs.set (t - 1) a, s3, by rw [List.length_set, List.length_set, v2], fun j y e hy he => ?_⟩, ⟨us.set i u', s2, by rw [List.length_set, List.length_set, h2], fun j y e hy he => ?_⟩⟩
  · have he : (m.vs.set (t - 1) f)[j]? = some e := he
    rw [List.getElem?_set] at hy he
    by_cases e1 : t - 1 = j
    · rw [if_pos e1, if_pos (by omega)] at hy he
      injection hy with hy; injection he with he
      subst hy he
      exact Va
    · rw [if_neg e1] at hy he
      exact (v3 j y e hy he).le lb
  · have he : (m.hs.set i (m.at i ++ [⟨w, g⟩]))[j]? = some e := he
    rw [List.getElem?_set] at hy he
    by_cases e1 : i = j
    · rw [if_pos e1, if_pos (by omega)] at hy he
      injection hy with hy; injection he with he
      subst hy he
      refine ⟨_, s1, by rw [List.length_append, List.length_append, ha.1, List.length_singleton, List.length_singleton], fun p q r hq hr => ?_⟩
      by_cases hp : p < ms.length
      · rw [List.getElem?_append_left hp] at hq
        rw [List.getElem?_append_left (by rw [← ha.1]; exact hp)] at hr
        exact ⟨(ha.2 p q r hq hr).1, (ha.2 p q r hq hr).2.le lb⟩
      · rw [List.getElem?_append_right (by omega)] at hq
        rw [List.getElem?_append_right (by have := ha.1; omega), ← ha.1] at hr
        cases hz : p - ms.length with
        | zero =>
          rw [hz] at hq hr
          simp only [List.getElem?_cons_zero, Option.some.injEq] at hq hr
          subst hq hr
          exact ⟨rfl, Vt⟩
        | succ z => rw [hz] at hq; simp at hq
    · rw [if_neg e1] at hy he
      exact (h3 j y e hy he).le lb
theorem K_adds (cs : CmD S I) (b0 : B.p h) (H : MO B x m) (k : Mk T n b m) (hb : b ≤ 900000) (ht : 1 ≤ t ∧ t ≤ T) (hi : i < n) {wl : Bool}
    (hR : ∀ x', Rt B h (fun B => MO B x' (m.add t i w wl)) fun h' => R (vMm x') h') : F_memory_Memory_adds S I (vMm x) (.int .i64 t) (.int .i64 i) (mW w) (.bool wl) h R := by
  obtain ⟨us, h1, h2, h3⟩ := H.hs
  obtain ⟨vs, v1, v2, v3⟩ := id H.vs
  have hn := k.hs
  have hT := k.vs
  have hle := k.le
  have hu := List.getElem?_eq_getElem (l := us) (i := i) (by omega)
  obtain ⟨hm, hl1, hl2⟩ := k.at hi
  obtain ⟨ms, hs, ha⟩ := h3 _ _ _ hu hm
  generalize us[i] = u at hu hs
  have hml : ms.length = (m.at i).length := ha.1
  obtain ⟨vr, er, Hr, _⟩ := (h1 h b0).sub (n := 1) rfl (lo := some (.int .i64 ((i : Int) + 1))) (hi := none) (l := i + 1) (.inr ⟨_, _, rfl, by omega⟩) (.inl ⟨rfl, rfl⟩) (by omega) (Nat.le_refl _)
  rw [List.take_length] at Hr
  obtain ⟨ac, ec, Hc⟩ := (h1 h b0).clip (n := 1) (k := .i64) (k' := .i64) rfl (z := (i : Int)) rfl (by omega : i ≤ us.length)
  have hlt2 : (us.take i).length = i := by rw [List.length_take]; omega
  have fin : ∀ (a : Option Nat) (M : List Res) (r1 r2 r3 r4 ro : Nat) (h' : Hp), Cx (fun _ => False) h h' [rV r1 (cMm x), rV r2 (cW w), rV r3 cM0, rV r4 [shV u], rV ro [.map a], rStar M] → VO (B.and M) a (vset (m.view t) i (m.at i).length) →
    ∃ ro' a M, at0 ro = at0 ro' ∧ Cx (fun _ => False) h h' [rV r1 (cMm x), rV r2 (cW w), rV r3 cM0, rV r4 [shV u], rV ro' [.map a], rStar M] ∧ VO (B.and M) a (vset (m.view t) i (m.at i).length) := fun a M r1 r2 r3 r4 ro h' c ok => ⟨ro, a, M, rfl, c, ok⟩
  cases wl with
  | true =>
    unfold F_memory_Memory_adds
    have c := Cx.start0 h
    refine c.nv (cs := [_, _]) rfl rfl fun m5_ _ c => ?_
    replace c : Cx _ _ _ [_] := c
    refine c.nv (cs := [_, _, _]) rfl rfl fun w8_ _ c => ?_
    replace c : Cx _ _ _ [_, _] := c
    refine c.nv (cs := [_, _]) rfl rfl fun v10_ _ c => ?_
    replace c : Cx _ _ _ [_, _, _] := c
    refine En.vb (fa_add _ _ _) ?_
    refine En.vb (c.vc (i := 0) rfl rfl) ?_
    refine (h1 _ (B.up b0 c.gr)).whole rfl hu rfl ?_
    refine c.nv (cs := [_]) rfl rfl fun x11_ _ c => ?_
    replace c : Cx _ _ _ [_, _, _, _] := c
    refine c.vw 3 rfl (vs := [_]) (by exact rfl) (by exact rfl) (by exact rfl) (by exact rfl) fun _ c => ?_
    replace c : Cx _ _ _ [_, _, _, _] := c
    refine Jn1.at (fun v h' => ∃ ro a M, v = at0 ro ∧ Cx (fun _ => False) h h' [rV m5_ (cMm x), rV w8_ (cW w), rV v10_ cM0, rV x11_ [shV u], rV ro [.map a], rStar M] ∧ VO (B.and M) a (vset (m.view t) i (m.at i).length)) ?_ ?_
    · refine En.vb (c.vl (i := 0) rfl rfl) ?_
      refine En.vb (c.vl (i := 3) rfl rfl) ?_
      refine And.intro ?_ ?_
      · refine cs.seen (B.up b0 c.gr) H k ht fun a Va _ g => ?_
        have c := c.more g
        replace c : Cx _ _ _ [_, _, _, _] := c
        refine And.intro (c.vl (i := 3) rfl rfl) ?_
        refine And.intro ?_ ?_
        · refine cs.hLen (hs _ (B.up b0 c.gr)) fun _ g => ?_
          have c := c.more g
          rw [hml]
          replace c : Cx _ _ _ [_, _, _, _] := c
          refine And.intro ?_ ?_
          · refine cs.vWith (B.up b0 c.gr) Va ⟨by omega, by omega⟩ (Int.natCast_nonneg _) fun a2 M _ d ok => ?_
            have c := c.frame0 d
            replace c : Cx _ _ _ [_, _, _, _, _] := c
            refine c.nv (cs := [_]) rfl rfl fun v12_1_ _ c => ?_
            replace c : Cx _ _ _ [_, _, _, _, _, _] := c
            refine c.vw 5 rfl (vs := [_]) (by exact rfl) (by exact rfl) (by exact rfl) (by exact rfl) fun _ c => ?_
            replace c : Cx _ _ _ [_, _, _, _, _, _] := c
            exact fin _ M _ _ _ _ _ _ (c.pick [0, 1, 2, 3, 5, 4]) ok
          · refine c.nv (cs := [_]) rfl rfl fun v12_2_ _ c => ?_
            replace c : Cx _ _ _ [_, _, _, _, _] := c
            refine cs.vWith (B.up b0 c.gr) Va ⟨by omega, by omega⟩ (Int.natCast_nonneg _) fun a2 M _ d ok => ?_
            have c := c.frame0 d
            replace c : Cx _ _ _ [_, _, _, _, _, _] := c
            refine c.vw 4 rfl (vs := [_]) (by exact rfl) (by exact rfl) (by exact rfl) (by exact rfl) fun _ c => ?_
            replace c : Cx _ _ _ [_, _, _, _, _, _] := c
            exact fin _ M _ _ _ _ _ _ (c.pick [0, 1, 2, 3, 4, 5]) ok
        · refine c.nv (cs := [_]) rfl rfl fun v12_3_ _ c => ?_
          replace c : Cx _ _ _ [_, _, _, _, _] := c
          refine And.intro (c.vl (i := 3) rfl rfl) ?_
          refine cs.hLen (hs _ (B.up b0 c.gr)) fun _ g => ?_
          have c := c.more g
          rw [hml]
          replace c : Cx _ _ _ [_, _, _, _, _] := c
          refine cs.vWith (B.up b0 c.gr) Va ⟨by omega, by omega⟩ (Int.natCast_nonneg _) fun a2 M _ d ok => ?_
          have c := c.frame0 d
          replace c : Cx _ _ _ [_, _, _, _, _, _] := c
          refine c.vw 4 rfl (vs := [_]) (by exact rfl) (by exact rfl) (by exact rfl) (by exact rfl) fun _ c => ?_
          replace c : Cx _ _ _ [_, _, _, _, _, _] := c
          exact fin _ M _ _ _ _ _ _ (c.pick [0, 1, 2, 3, 4, 5]) ok
      · refine c.nv (cs := [_]) rfl rfl fun v12_4_ _ c => ?_
        replace c : Cx _ _ _ [_, _, _, _, _] := c
        refine And.intro (c.vl (i := 3) rfl rfl) ?_
        refine And.intro (c.vl (i := 0) rfl rfl) ?_
        refine cs.seen (B.up b0 c.gr) H k ht fun a Va _ g => ?_
        have c := c.more g
        replace c : Cx _ _ _ [_, _, _, _, _] := c
        refine And.intro (c.vl (i := 3) rfl rfl) ?_
        refine cs.hLen (hs _ (B.up b0 c.gr)) fun _ g => ?_
        have c := c.more g
        rw [hml]
        replace c : Cx _ _ _ [_, _, _, _, _] := c
        refine cs.vWith (B.up b0 c.gr) Va ⟨by omega, by omega⟩ (Int.natCast_nonneg _) fun a2 M _ d ok => ?_
        have c := c.frame0 d
        replace c : Cx _ _ _ [_, _, _, _, _, _] := c
        refine c.vw 4 rfl (vs := [_]) (by exact rfl) (by exact rfl) (by exact rfl) (by exact rfl) fun _ c => ?_
        replace c : Cx _ _ _ [_, _, _, _, _, _] := c
        exact fin _ M _ _ _ _ _ _ (c.pick [0, 1, 2, 3, 4, 5]) ok
    · rintro _ h6 ⟨ro, a, M, rfl, c, ok⟩
      replace c : Cx _ _ _ [_, _, _, _, _, _] := c
      refine En.vb (c.vl (i := 4) rfl rfl) ?_
      refine c.nv (cs := [_]) rfl rfl fun told13_ _ c => ?_
      replace c : Cx _ _ _ [_, _, _, _, _, _, _] := c
      refine c.vw 6 rfl (vs := [_]) (by exact rfl) (by exact rfl) (by exact rfl) (by exact rfl) fun _ c => ?_
      replace c : Cx _ _ _ [_, _, _, _, _, _, _] := c
      refine .here ?_
      refine En.vb (v := .bool false) (rfl) ?_
      refine brf ?_
      refine En.vb (fa_add _ _ _) ?_
      refine En.vb (c.vc (i := 0) rfl rfl) ?_
      refine En.vb (addI ⟨by omega, by omega⟩) ?_
      refine En.vb er ?_
      refine En.vb (fa_add _ _ _) ?_
      refine En.vb (c.vc (i := 0) rfl rfl) ?_
      refine En.vb ec ?_
      refine En.vb (c.vl (i := 3) rfl rfl) ?_
      refine En.vb (c.vl (i := 1) rfl rfl) ?_
      refine En.vb (c.vl (i := 6) rfl rfl) ?_
      refine En.vb (bldS_ok (ds := [_, _, _, _, _]) rfl) ?_
      refine cs.hAdd (m := ⟨w, t, a⟩) (hs _ (B.up b0 c.gr)) (by omega) fun u' _ d => ?_
      have c := c.frame0 d
      replace c : Cx _ _ _ [_, _, _, _, _, _, _, _] := c
      refine And.intro (c.vc (i := 0) rfl rfl) ?_
      refine c.bsl1 EH1 u' rfl rfl fun v52 _ c => ?_
      replace c : Cx _ _ _ [_, _, _, _, _, _, _, _, _] := c
      refine And.intro (c.vc (i := 0) rfl rfl) ?_
      refine c.apc (Hc.gr c.gr) (c.sl (i := 8) rfl).sl (by simp) rfl rfl (by rw [hlt2, List.length_singleton]; omega) (by rw [hlt2, List.length_singleton]; omega) fun v53 _ c => ?_
      replace c : Cx _ _ _ [_, _, _, _, _, _, _, _, _, _] := c
      refine c.ap 9 rfl (Hr.gr c.gr) rfl rfl (by simp only [List.length_append, List.length_take, List.length_drop, List.length_singleton]; omega) (by simp only [List.length_append, List.length_take, List.length_drop, List.length_singleton]; omega) fun v56 _ c => ?_
      obtain ⟨u2, rfl⟩ := (c.sl (i := 9) rfl).isH
      replace c : Cx _ _ _ [_, _, _, _, _, _, _, _, _, _] := c
      refine En.vb (fa_add _ _ _) ?_
      refine c.vq 0 rfl (vs := [_]) (ds := [_, _]) (by exact rfl) (by exact rfl) (by exact rfl) (by exact rfl) (by exact rfl) fun _ c => ?_
      replace c : Cx _ _ _ [_, _, _, _, _, _, _, _, _, _] := c
      refine En.vb (c.vl (i := 0) rfl rfl) ?_
      refine En.vb (c.vl (i := 4) rfl rfl) ?_
      refine cs.wth (x := (u2, x.2)) (t := t) (v1 _ (B.up b0 c.gr)) (by omega) ⟨ht.1, by omega⟩ fun u3 _ d => ?_
      have c := c.frame0 d
      replace c : Cx _ _ _ [_, _, _, _, _, _, _, _, _, _, _] := c
      refine c.vw 2 rfl (vs := [_, _]) (by exact rfl) (by exact rfl) (by exact rfl) (by exact rfl) fun _ c => ?_
      replace c : Cx _ _ _ [_, _, _, _, _, _, _, _, _, _, _] := c
      refine En.vb (c.vl (i := 2) rfl rfl) ?_
      refine hR (u2, u3) [rStar M, rSl EMs (shV u') (ms ++ [(⟨w, t, a⟩ : Msg)]), rSl EH1 (shV u2) (us.take i ++ [u'] ++ us.drop (i + 1)), rSl EM (shV u3) (vs.set (t - 1) a)] _ (Cx.pack (L := []) (c.pick [5, 7, 9, 10])) ?_
      have Va : VO (B.and [rStar M, rSl EMs (shV u') (ms ++ [(⟨w, t, a⟩ : Msg)]), rSl EH1 (shV u2) (us.take i ++ [u'] ++ us.drop (i + 1)), rSl EM (shV u3) (vs.set (t - 1) a)]) a (vset (m.view t) i (m.at i).length) := ok.le fun h b => ⟨b.1, Bs.star b (i := 0) rfl⟩
      exact MO.added (by omega) h2 h3 v2 v3 (by omega) ha Va Va (On.sl (i := 1) rfl) (On.sl (i := 2) rfl) (On.sl (i := 3) rfl)
  | false =>
    unfold F_memory_Memory_adds
    have c := Cx.start0 h
    refine c.nv (cs := [_, _]) rfl rfl fun m5_ _ c => ?_
    replace c : Cx _ _ _ [_] := c
    refine c.nv (cs := [_, _, _]) rfl rfl fun w8_ _ c => ?_
    replace c : Cx _ _ _ [_, _] := c
    refine c.nv (cs := [_, _]) rfl rfl fun v10_ _ c => ?_
    replace c : Cx _ _ _ [_, _, _] := c
    refine En.vb (fa_add _ _ _) ?_
    refine En.vb (c.vc (i := 0) rfl rfl) ?_
    refine (h1 _ (B.up b0 c.gr)).whole rfl hu rfl ?_
    refine c.nv (cs := [_]) rfl rfl fun x11_ _ c => ?_
    replace c : Cx _ _ _ [_, _, _, _] := c
    refine c.vw 3 rfl (vs := [_]) (by exact rfl) (by exact rfl) (by exact rfl) (by exact rfl) fun _ c => ?_
    replace c : Cx _ _ _ [_, _, _, _] := c
    refine Jn1.at (fun v h' => ∃ ro a M, v = at0 ro ∧ Cx (fun _ => False) h h' [rV m5_ (cMm x), rV w8_ (cW w), rV v10_ cM0, rV x11_ [shV u], rV ro [.map a], rStar M] ∧ VO (B.and M) a (vset (m.view t) i (m.at i).length)) ?_ ?_
    · refine En.vb (c.vl (i := 0) rfl rfl) ?_
      refine En.vb (c.vl (i := 3) rfl rfl) ?_
      refine And.intro ?_ ?_
      · refine cs.seen (B.up b0 c.gr) H k ht fun a Va _ g => ?_
        have c := c.more g
        replace c : Cx _ _ _ [_, _, _, _] := c
        refine And.intro (c.vl (i := 3) rfl rfl) ?_
        refine And.intro ?_ ?_
        · refine cs.hLen (hs _ (B.up b0 c.gr)) fun _ g => ?_
          have c := c.more g
          rw [hml]
          replace c : Cx _ _ _ [_, _, _, _] := c
          refine And.intro ?_ ?_
          · refine cs.vWith (B.up b0 c.gr) Va ⟨by omega, by omega⟩ (Int.natCast_nonneg _) fun a2 M _ d ok => ?_
            have c := c.frame0 d
            replace c : Cx _ _ _ [_, _, _, _, _] := c
            refine c.nv (cs := [_]) rfl rfl fun v12_1_ _ c => ?_
            replace c : Cx _ _ _ [_, _, _, _, _, _] := c
            refine c.vw 5 rfl (vs := [_]) (by exact rfl) (by exact rfl) (by exact rfl) (by exact rfl) fun _ c => ?_
            replace c : Cx _ _ _ [_, _, _, _, _, _] := c
            exact fin _ M _ _ _ _ _ _ (c.pick [0, 1, 2, 3, 5, 4]) ok
          · refine c.nv (cs := [_]) rfl rfl fun v12_2_ _ c => ?_
            replace c : Cx _ _ _ [_, _, _, _, _] := c
            refine cs.vWith (B.up b0 c.gr) Va ⟨by omega, by omega⟩ (Int.natCast_nonneg _) fun a2 M _ d ok => ?_
            have c := c.frame0 d
            replace c : Cx _ _ _ [_, _, _, _, _, _] := c
            refine c.vw 4 rfl (vs := [_]) (by exact rfl) (by exact rfl) (by exact rfl) (by exact rfl) fun _ c => ?_
            replace c : Cx _ _ _ [_, _, _, _, _, _] := c
            exact fin _ M _ _ _ _ _ _ (c.pick [0, 1, 2, 3, 4, 5]) ok
        · refine c.nv (cs := [_]) rfl rfl fun v12_3_ _ c => ?_
          replace c : Cx _ _ _ [_, _, _, _, _] := c
          refine And.intro (c.vl (i := 3) rfl rfl) ?_
          refine cs.hLen (hs _ (B.up b0 c.gr)) fun _ g => ?_
          have c := c.more g
          rw [hml]
          replace c : Cx _ _ _ [_, _, _, _, _] := c
          refine cs.vWith (B.up b0 c.gr) Va ⟨by omega, by omega⟩ (Int.natCast_nonneg _) fun a2 M _ d ok => ?_
          have c := c.frame0 d
          replace c : Cx _ _ _ [_, _, _, _, _, _] := c
          refine c.vw 4 rfl (vs := [_]) (by exact rfl) (by exact rfl) (by exact rfl) (by exact rfl) fun _ c => ?_
          replace c : Cx _ _ _ [_, _, _, _, _, _] := c
          exact fin _ M _ _ _ _ _ _ (c.pick [0, 1, 2, 3, 4, 5]) ok
      · refine c.nv (cs := [_]) rfl rfl fun v12_4_ _ c => ?_
        replace c : Cx _ _ _ [_, _, _, _, _] := c
        refine And.intro (c.vl (i := 3) rfl rfl) ?_
        refine And.intro (c.vl (i := 0) rfl rfl) ?_
        refine cs.seen (B.up b0 c.gr) H k ht fun a Va _ g => ?_
        have c := c.more g
        replace c : Cx _ _ _ [_, _, _, _, _] := c
        refine And.intro (c.vl (i := 3) rfl rfl) ?_
        refine cs.hLen (hs _ (B.up b0 c.gr)) fun _ g => ?_
        have c := c.more g
        rw [hml]
        replace c : Cx _ _ _ [_, _, _, _, _] := c
        refine cs.vWith (B.up b0 c.gr) Va ⟨by omega, by omega⟩ (Int.natCast_nonneg _) fun a2 M _ d ok => ?_
        have c := c.frame0 d
        replace c : Cx _ _ _ [_, _, _, _, _, _] := c
        refine c.vw 4 rfl (vs := [_]) (by exact rfl) (by exact rfl) (by exact rfl) (by exact rfl) fun _ c => ?_
        replace c : Cx _ _ _ [_, _, _, _, _, _] := c
        exact fin _ M _ _ _ _ _ _ (c.pick [0, 1, 2, 3, 4, 5]) ok
    · rintro _ h6 ⟨ro, a, M, rfl, c, ok⟩
      replace c : Cx _ _ _ [_, _, _, _, _, _] := c
      refine En.vb (c.vl (i := 4) rfl rfl) ?_
      refine c.nv (cs := [_]) rfl rfl fun told13_ _ c => ?_
      replace c : Cx _ _ _ [_, _, _, _, _, _, _] := c
      refine c.vw 6 rfl (vs := [_]) (by exact rfl) (by exact rfl) (by exact rfl) (by exact rfl) fun _ c => ?_
      replace c : Cx _ _ _ [_, _, _, _, _, _, _] := c
      refine .here ?_
      refine En.vb (v := .bool true) (rfl) ?_
      refine brt ?_
      refine En.vb (bldS_ok (ds := [_]) rfl) ?_
      refine En.vb (c.vl (i := 3) rfl rfl) ?_
      refine cs.hLen (hs _ (B.up b0 c.gr)) fun _ g => ?_
      have c := c.more g
      rw [hml]
      replace c : Cx _ _ _ [_, _, _, _, _, _, _] := c
      refine cs.vWith (B := B.and M) (a := none) ⟨B.up b0 c.gr, c.get (i := 5) rfl⟩ (VO.zero _) ⟨by omega, by omega⟩ (Int.natCast_nonneg _) fun a3 N _ d ok2 => ?_
      have c := c.frame0 d
      replace c : Cx _ _ _ [_, _, _, _, _, _, _, _] := c
      refine c.vw 6 rfl (vs := [_]) (by exact rfl) (by exact rfl) (by exact rfl) (by exact rfl) fun _ c => ?_
      replace c : Cx _ _ _ [_, _, _, _, _, _, _, _] := c
      refine En.vb (fa_add _ _ _) ?_
      refine En.vb (c.vc (i := 0) rfl rfl) ?_
      refine En.vb (addI ⟨by omega, by omega⟩) ?_
      refine En.vb er ?_
      refine En.vb (fa_add _ _ _) ?_
      refine En.vb (c.vc (i := 0) rfl rfl) ?_
      refine En.vb ec ?_
      refine En.vb (c.vl (i := 3) rfl rfl) ?_
      refine En.vb (c.vl (i := 1) rfl rfl) ?_
      refine En.vb (c.vl (i := 6) rfl rfl) ?_
      refine En.vb (bldS_ok (ds := [_, _, _, _, _]) rfl) ?_
      refine cs.hAdd (m := ⟨w, t, a3⟩) (hs _ (B.up b0 c.gr)) (by omega) fun u' _ d => ?_
      have c := c.frame0 d
      replace c : Cx _ _ _ [_, _, _, _, _, _, _, _, _] := c
      refine And.intro (c.vc (i := 0) rfl rfl) ?_
      refine c.bsl1 EH1 u' rfl rfl fun v52 _ c => ?_
      replace c : Cx _ _ _ [_, _, _, _, _, _, _, _, _, _] := c
      refine And.intro (c.vc (i := 0) rfl rfl) ?_
      refine c.apc (Hc.gr c.gr) (c.sl (i := 9) rfl).sl (by simp) rfl rfl (by rw [hlt2, List.length_singleton]; omega) (by rw [hlt2, List.length_singleton]; omega) fun v53 _ c => ?_
      replace c : Cx _ _ _ [_, _, _, _, _, _, _, _, _, _, _] := c
      refine c.ap 10 rfl (Hr.gr c.gr) rfl rfl (by simp only [List.length_append, List.length_take, List.length_drop, List.length_singleton]; omega) (by simp only [List.length_append, List.length_take, List.length_drop, List.length_singleton]; omega) fun v56 _ c => ?_
      obtain ⟨u2, rfl⟩ := (c.sl (i := 10) rfl).isH
      replace c : Cx _ _ _ [_, _, _, _, _, _, _, _, _, _, _] := c
      refine En.vb (fa_add _ _ _) ?_
      refine c.vq 0 rfl (vs := [_]) (ds := [_, _]) (by exact rfl) (by exact rfl) (by exact rfl) (by exact rfl) (by exact rfl) fun _ c => ?_
      replace c : Cx _ _ _ [_, _, _, _, _, _, _, _, _, _, _] := c
      refine En.vb (c.vl (i := 0) rfl rfl) ?_
      refine En.vb (c.vl (i := 4) rfl rfl) ?_
      refine cs.wth (x := (u2, x.2)) (t := t) (v1 _ (B.up b0 c.gr)) (by omega) ⟨ht.1, by omega⟩ fun u3 _ d => ?_
      have c := c.frame0 d
      replace c : Cx _ _ _ [_, _, _, _, _, _, _, _, _, _, _, _] := c
      refine c.vw 2 rfl (vs := [_, _]) (by exact rfl) (by exact rfl) (by exact rfl) (by exact rfl) fun _ c => ?_
      replace c : Cx _ _ _ [_, _, _, _, _, _, _, _, _, _, _, _] := c
      refine En.vb (c.vl (i := 2) rfl rfl) ?_
      refine hR (u2, u3) [rStar M, rSl EMs (shV u') (ms ++ [(⟨w, t, a3⟩ : Msg)]), rSl EH1 (shV u2) (us.take i ++ [u'] ++ us.drop (i + 1)), rSl EM (shV u3) (vs.set (t - 1) a), rStar N] _ (Cx.pack (L := []) (c.pick [5, 8, 10, 11, 7])) ?_
      have Va : VO (B.and [rStar M, rSl EMs (shV u') (ms ++ [(⟨w, t, a3⟩ : Msg)]), rSl EH1 (shV u2) (us.take i ++ [u'] ++ us.drop (i + 1)), rSl EM (shV u3) (vs.set (t - 1) a), rStar N]) a (vset (m.view t) i (m.at i).length) := ok.le fun h b => ⟨b.1, Bs.star b (i := 0) rfl⟩
      have Vt : VO (B.and [rStar M, rSl EMs (shV u') (ms ++ [(⟨w, t, a3⟩ : Msg)]), rSl EH1 (shV u2) (us.take i ++ [u'] ++ us.drop (i + 1)), rSl EM (shV u3) (vs.set (t - 1) a), rStar N]) a3 _ := ok2.le fun h b => ⟨⟨b.1, Bs.star b (i := 0) rfl⟩, Bs.star b (i := 4) rfl⟩
      exact MO.added (by omega) h2 h3 v2 v3 (by omega) ha Va Vt (On.sl (i := 1) rfl) (On.sl (i := 2) rfl) (On.sl (i := 3) rfl)
structure CmE (S : Sys) (I : Ids) : Prop extends CmD S I where
  adds : ∀ {B : Bs} {T n b t i : Nat} {x : SH × SH} {m : Me} {w : W3} {wl : Bool} {h R}, B.p h → MO B x m → Mk T n b m → b ≤ 900000 → (1 ≤ t ∧ t ≤ T) → i < n → (∀ x', Rt B h (fun B => MO B x' (m.add t i w wl)) fun h' => R (vMm x') h') →
    S.C I.f_memory_Memory_adds [vMm x, .int .i64 t, .int .i64 i, mW w, .bool wl] h R
  Look : ∀ {B : Bs} {T n b t i : Nat} {x : SH × SH} {m : Me} {h R}, B.p h → MO B x m → Mk T n b m → b ≤ 1000000 → (1 ≤ t ∧ t ≤ T) → i < n →
    (∀ x', Rt B h (fun B => MO B x' (m.fnd t i ((m.at i).length - 1) (m.top i) true)) fun h' => R (.tuple #[vMm x', mW (m.top i).w, .int .i64 0]) h') → S.C I.f_memory_Memory_Look [vMm x, .int .i64 t, .int .i64 i] h R
theorem K_Store (cs : CmE S I) (b0 : B.p h) (H : MO B x m) (k : Mk T n b m) (hb : b ≤ 900000) (ht : 1 ≤ t ∧ t ≤ T) (hi : i < n) {wl : Bool}
    (hR : ∀ x', Rt B h (fun B => MO B x' (m.add t i w wl)) fun h' => R (.tuple #[vMm x', .int .i64 0]) h') : F_memory_Memory_Store S I (vMm x) (.int .i64 t) (.int .i64 i) (mW w) (.bool wl) h R := by
  unfold F_memory_Memory_Store
  have c := Cx.start0 h
  refine c.nv (cs := [_, _]) rfl rfl fun m5_ _ c => ?_
  replace c : Cx _ _ _ [_] := c
  refine c.nv (cs := [_, _, _]) rfl rfl fun w8_ _ c => ?_
  replace c : Cx _ _ _ [_, _] := c
  refine c.nv (cs := [_, _]) rfl rfl fun v10_ _ c => ?_
  replace c : Cx _ _ _ [_, _, _] := c
  refine En.vb (c.vl (i := 0) rfl rfl) ?_
  refine cs.wrong (B.up b0 c.gr) H k ht hi fun _ g => ?_
  have c := c.more g
  replace c : Cx _ _ _ [_, _, _] := c
  refine En.vb (v := .bool false) rfl ?_
  refine brf ?_
  refine En.vb (c.vl (i := 0) rfl rfl) ?_
  refine En.vb (c.vl (i := 1) rfl rfl) ?_
  refine cs.adds (w := w) (B.up b0 c.gr) H k hb ht hi fun x' M _ d ok => ?_
  have c := c.frame0 d
  replace c : Cx _ _ _ [_, _, _, _] := c
  refine c.vw 2 rfl (vs := [_, _]) (by exact rfl) (by exact rfl) (by exact rfl) (by exact rfl) fun _ c => ?_
  replace c : Cx _ _ _ [_, _, _, _] := c
  refine En.vb (c.vl (i := 2) rfl rfl) ?_
  exact hR x' M _ (c.pick [3]) ok
theorem Mk.fnd (k : Mk T n b m) (q : Nat) (j : Bool) : Mk T n b (m.fnd t i q am j) := ⟨(List.length_set ..).trans k.vs, k.hs, k.le, k.len⟩
theorem Mk.add (k : Mk T n b m) (hi : i < n) {wl : Bool} : Mk T n (b + 1) (m.add t i w wl) := by
  obtain ⟨hm, h1, h2⟩ := k.at hi
  refine ⟨(List.length_set ..).trans k.vs, (List.length_set ..).trans k.hs, k.le, fun as has => ?_⟩
  rcases List.mem_or_eq_of_mem_set has with h | rfl
  · have := k.len as h
    omega
  · rw [List.length_append, List.length_singleton]
    omega
theorem W3.iff (a b : W3) : (a.v = b.v ∧ a.ver = b.ver ∧ a.ref = b.ref) ↔ a = b := by
  obtain ⟨a1, a2, a3⟩ := a
  obtain ⟨b1, b2, b3⟩ := b
  simp
instance : DecidableEq W3 := fun a b => decidable_of_iff _ (W3.iff a b)
/-- the memory behind a swap -/
def Me.swp (m : Me) (t i : Nat) (old new : W3) : Me := if (m.top i).w = old then (m.fnd t i ((m.at i).length - 1) (m.top i) true).add t i new true else m.fnd t i ((m.at i).length - 1) (m.top i) true
theorem neq3 (a b : W3) : neg? (eqA [true, true, true] (.agg ⟨cW a⟩) (.agg ⟨cW b⟩)) = some (.bool (decide (a ≠ b))) := by
  have : eqA [true, true, true] (.agg ⟨cW a⟩) (.agg ⟨cW b⟩) = some (decide (a = b)) := by
    show ((some (a.v == b.v)).bind fun x => ((some (a.ver == b.ver)).bind fun x => ((some (a.ref == b.ref)).bind fun x => (some true).bind fun q => some (x && q)).bind fun q => some (x && q)).bind fun q => some (x && q)) = _
    have := W3.iff a b
    by_cases h1 : a.v = b.v <;> by_cases h2 : a.ver = b.ver <;> by_cases h3 : a.ref = b.ref <;> simp [h1, h2, h3, ← this]
  rw [this, neg_some]
  by_cases h : a = b <;> simp [h]
theorem K_Swap (cs : CmE S I) (b0 : B.p h) (H : MO B x m) (k : Mk T n b m) (hb : b ≤ 900000) (ht : 1 ≤ t ∧ t ≤ T) (hi : i < n) {old new : W3}
    (hR : ∀ x', Rt B h (fun B => MO B x' (m.swp t i old new)) fun h' => R (.tuple #[vMm x', mW (m.top i).w, .bool (decide ((m.top i).w = old)), .int .i64 0]) h') : F_memory_Memory_Swap S I (vMm x) (.int .i64 t) (.int .i64 i) (mW old) (mW new) h R := by
  by_cases e : (m.top i).w = old
  · rw [Me.swp, if_pos e, decide_eq_true e] at hR
    unfold F_memory_Memory_Swap
    have c := Cx.start0 h
    refine c.nv (cs := [_, _]) rfl rfl fun m5_ _ c => ?_
    replace c : Cx _ _ _ [_] := c
    refine c.nv (cs := [_, _, _]) rfl rfl fun old8_ _ c => ?_
    replace c : Cx _ _ _ [_, _] := c
    refine c.nv (cs := [_, _, _]) rfl rfl fun next9_ _ c => ?_
    replace c : Cx _ _ _ [_, _, _] := c
    refine c.nv (cs := [_, _]) rfl rfl fun v10_ _ c => ?_
    replace c : Cx _ _ _ [_, _, _, _] := c
    refine c.nv (cs := [_, _, _]) rfl rfl fun v11_ _ c => ?_
    replace c : Cx _ _ _ [_, _, _, _, _] := c
    refine En.vb (c.vl (i := 0) rfl rfl) ?_
    refine cs.Look (B.up b0 c.gr) H k (by omega) ht hi fun x' M _ d ok => ?_
    have c := c.frame0 d
    replace c : Cx _ _ _ [_, _, _, _, _, _] := c
    refine En.vb rfl ?_
    refine En.vb rfl ?_
    refine En.vb rfl ?_
    refine c.nv (cs := [_, _]) rfl rfl fun out14_ _ c => ?_
    replace c : Cx _ _ _ [_, _, _, _, _, _, _] := c
    refine c.nv (cs := [_, _, _]) rfl rfl fun w15_ _ c => ?_
    replace c : Cx _ _ _ [_, _, _, _, _, _, _, _] := c
    refine c.vw 6 rfl (vs := [_, _]) (by exact rfl) (by exact rfl) (by exact rfl) (by exact rfl) fun _ c => ?_
    replace c : Cx _ _ _ [_, _, _, _, _, _, _, _] := c
    refine c.vw 7 rfl (vs := [_, _, _]) (by exact rfl) (by exact rfl) (by exact rfl) (by exact rfl) fun _ c => ?_
    replace c : Cx _ _ _ [_, _, _, _, _, _, _, _] := c
    refine .here ?_
    refine En.vb (v := .bool false) rfl ?_
    refine brf ?_
    refine En.vb (c.vl (i := 7) rfl rfl) ?_
    refine En.vb (c.vl (i := 1) rfl rfl) ?_
    refine En.vb ((neq3 _ _).trans (by rw [decide_eq_false fun h => h e])) ?_
    refine brf ?_
    refine En.vb (c.vl (i := 6) rfl rfl) ?_
    refine En.vb (c.vl (i := 2) rfl rfl) ?_
    refine En.vb (c.vl (i := 7) rfl rfl) ?_
    refine cs.adds (B := B.and M) (w := new) ⟨B.up b0 c.gr, c.get (i := 5) rfl⟩ ok (k.fnd _ _) hb ht hi fun x2 N _ d ok2 => ?_
    have c := c.frame0 d
    replace c : Cx _ _ _ [_, _, _, _, _, _, _, _, _] := c
    refine And.intro (c.vl (i := 7) rfl rfl) ?_
    refine c.vw 3 rfl (vs := [_, _]) (by exact rfl) (by exact rfl) (by exact rfl) (by exact rfl) fun _ c => ?_
    replace c : Cx _ _ _ [_, _, _, _, _, _, _, _, _] := c
    refine And.intro (c.vl (i := 7) rfl rfl) ?_
    refine c.vw 4 rfl (vs := [_, _, _]) (by exact rfl) (by exact rfl) (by exact rfl) (by exact rfl) fun _ c => ?_
    replace c : Cx _ _ _ [_, _, _, _, _, _, _, _, _] := c
    refine En.vb (c.vl (i := 3) rfl rfl) ?_
    refine En.vb (c.vl (i := 4) rfl rfl) ?_
    exact hR x2 [rStar M, rStar N] _ (Cx.pack (L := []) (c.pick [5, 8])) (ok2.le Bs.le2)
  · rw [Me.swp, if_neg e, decide_eq_false e] at hR
    unfold F_memory_Memory_Swap
    have c := Cx.start0 h
    refine c.nv (cs := [_, _]) rfl rfl fun m5_ _ c => ?_
    replace c : Cx _ _ _ [_] := c
    refine c.nv (cs := [_, _, _]) rfl rfl fun old8_ _ c => ?_
    replace c : Cx _ _ _ [_, _] := c
    refine c.nv (cs := [_, _, _]) rfl rfl fun next9_ _ c => ?_
    replace c : Cx _ _ _ [_, _, _] := c
    refine c.nv (cs := [_, _]) rfl rfl fun v10_ _ c => ?_
    replace c : Cx _ _ _ [_, _, _, _] := c
    refine c.nv (cs := [_, _, _]) rfl rfl fun v11_ _ c => ?_
    replace c : Cx _ _ _ [_, _, _, _, _] := c
    refine En.vb (c.vl (i := 0) rfl rfl) ?_
    refine cs.Look (B.up b0 c.gr) H k (by omega) ht hi fun x' M _ d ok => ?_
    have c := c.frame0 d
    replace c : Cx _ _ _ [_, _, _, _, _, _] := c
    refine En.vb rfl ?_
    refine En.vb rfl ?_
    refine En.vb rfl ?_
    refine c.nv (cs := [_, _]) rfl rfl fun out14_ _ c => ?_
    replace c : Cx _ _ _ [_, _, _, _, _, _, _] := c
    refine c.nv (cs := [_, _, _]) rfl rfl fun w15_ _ c => ?_
    replace c : Cx _ _ _ [_, _, _, _, _, _, _, _] := c
    refine c.vw 6 rfl (vs := [_, _]) (by exact rfl) (by exact rfl) (by exact rfl) (by exact rfl) fun _ c => ?_
    replace c : Cx _ _ _ [_, _, _, _, _, _, _, _] := c
    refine c.vw 7 rfl (vs := [_, _, _]) (by exact rfl) (by exact rfl) (by exact rfl) (by exact rfl) fun _ c => ?_
    replace c : Cx _ _ _ [_, _, _, _, _, _, _, _] := c
    refine .here ?_
    refine En.vb (v := .bool false) rfl ?_
    refine brf ?_
    refine En.vb (c.vl (i := 7) rfl rfl) ?_
    refine En.vb (c.vl (i := 1) rfl rfl) ?_
    refine En.vb ((neq3 _ _).trans (by rw [decide_eq_true e])) ?_
    refine brt ?_
    refine En.vb (c.vl (i := 6) rfl rfl) ?_
    refine En.vb (c.vl (i := 7) rfl rfl) ?_
    refine c.vw 3 rfl (vs := [_, _]) (by exact rfl) (by exact rfl) (by exact rfl) (by exact rfl) fun _ c => ?_
    replace c : Cx _ _ _ [_, _, _, _, _, _, _, _] := c
    refine And.intro (c.vl (i := 7) rfl rfl) ?_
    refine c.vw 4 rfl (vs := [_, _, _]) (by exact rfl) (by exact rfl) (by exact rfl) (by exact rfl) fun _ c => ?_
    replace c : Cx _ _ _ [_, _, _, _, _, _, _, _] := c
    refine En.vb (c.vl (i := 3) rfl rfl) ?_
    refine En.vb (c.vl (i := 4) rfl rfl) ?_
    exact hR x' M _ (c.pick [5]) ok
end
end Go.En
