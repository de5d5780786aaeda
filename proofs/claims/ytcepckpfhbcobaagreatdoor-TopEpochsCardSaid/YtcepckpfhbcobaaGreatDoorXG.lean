/-
  Slices cloned and clipped; the lines of the persistent memory. (Steps printed by wip/tools/walk.py from EqF.src.)
  The machine: its parts, its acts. (Steps printed by wip/tools/walk.py from EqG.src.)
  The machine made anew. (Steps printed by wip/tools/walk.py from EqH.src.)
-/
import Derived.Test.YtcepckpfhbcobaaGreatDoorXF
namespace Go.En

variable {S : Sys} {I : Ids} {h h0 h' : Hp} {F F0 : Fp} {R : Value → Hp → Prop} {L : List Res} {B B' : Bs}
section
variable {α : Type} {E : Enc α} {v : Value} {xs : List α}
theorem Sl.isNil (H : Sl E h v xs) : ∃ b, eqS v (.slice none 0 0) = some b ∧ (b = true → xs = []) := by
  obtain ⟨a, cap, rfl, h1, h2, h3⟩ := H
  cases a with
  | none => exact ⟨true, rfl, fun _ => List.eq_nil_of_length_eq_zero (by have := h2 rfl; omega)⟩
  | some a => exact ⟨false, rfl, fun e => by cases e⟩
/-- the text of slices.Clone -/
theorem clone_ok {zero : Array Value} {n bytes : Nat} {e e' : TypeId} (hs : Sl E h v xs) (hn : n = E.n) (hz : zero.size = E.n) (hN : xs.length * bytes ≤ 140737488355328) (hl : xs.length ≤ 1000000000) (hR : ∀ u h', Cx (fun _ => False) h h' [rSl E (shV u) xs] → R (shV u) h') :
    Vb (pos? (eqS v (.slice none 0 0))) fun v4 => Br v4 (R (.slice none 0 0) h) (Eb (bsl zero n 0 e [] h) fun v5 h1 => Ap e' zero n bytes v5 v h1 fun v7 h2 => R v7 h2) := by
  obtain ⟨b, e, hb⟩ := hs.isNil
  rw [e]
  refine En.vb (v := .bool b) rfl ?_
  cases b with
  | true =>
    obtain rfl := hb rfl
    exact hR (none, 0, 0) _ ((Cx.start0 h).nil E)
  | false =>
    refine brf ?_
    have c := Cx.start0 h
    refine c.bsl0 E fun u h1 c => ?_
    refine c.ap 0 rfl (ys := xs) (hs.gr c.gr) hn hz (by simpa using hN) (by simp only [List.length_nil]; omega) fun v' h2 c => ?_
    obtain ⟨u, rfl⟩ := (c.sl (i := 0) rfl).isH
    exact hR u _ c
/-- the text of slices.Clip -/
theorem clip_ok {n : Nat} {u : Value} (hs : Sl E h v xs) (e : slc n v none (some (.int .i64 xs.length)) (some (.int .i64 xs.length)) = some u) (hR : R u h) :
    Vb (lnS v) fun v5 => Vb (lnS v) fun v7 => Vb (slc n v none (some v5) (some v7)) fun v8 => R v8 h :=
  En.vb hs.ln (En.vb hs.ln (En.vb e hR))
theorem Sl.clipped (hs : Sl E h v xs) {n : Nat} (hn : n = E.n) : ∃ a, slc n v none (some (.int .i64 xs.length)) (some (.int .i64 xs.length)) = some (.slice a xs.length xs.length) ∧ Sl E h (.slice a xs.length xs.length) xs := by
  obtain ⟨a, e, Hc⟩ := hs.clip (n := n) (k := .i64) (k' := .i64) hn rfl (Nat.le_refl _)
  rw [List.take_length] at e Hc
  exact ⟨a, e, Hc⟩
/-- a field set in an element whose place is known -/
theorem Cx.setp (c : Cx F0 h0 h L) (i : Nat) (hi : L[i]? = some (rSl E v xs)) {p : Nat} {x : α} (hx : xs[p]? = some x) (y : α) {n : Nat} (hn : n = E.n) {q : IntKind} {z : Int} (hz : z = p) {r o j : Nat} (e : ixs n v (.int q z) = some (.pointer (some ⟨r, o, none⟩))) {w : Value} (hw : w.oneCell' = true) (hj : j < E.n) (hy : E.c y = (E.c x).set j w) {k : Hp → Prop}
    (hk : ∀ h', Cx F0 h0 h' (L.set i (rSl E v (xs.set p y))) → k h') : Sb (En.sto 1 (.pointer (some ⟨r, o + j, none⟩)) w h) k := by
  obtain ⟨_, e1, _, e2, s⟩ := c.setf i hi hx y hn hz hw hj hy hk
  rw [e] at e1
  injection e1 with e1
  subst e1
  rw [fa_add] at e2
  injection e2 with e2
  subst e2
  exact s
end
/-- a store in a line's log -/
abbrev Sto : Type := Int × W3
def ESt : Enc Sto := { n := 4, c := fun x => [.int .i64 x.1, .int .i64 x.2.v, .int .u32 x.2.ver, .int .u32 x.2.ref], len := fun _ => rfl, one := fun a v h => by simp only [List.mem_cons, List.not_mem_nil, or_false] at h; rcases h with rfl | rfl | rfl | rfl <;> rfl }
def ELg : Enc (SH × Int) := { n := 2, c := fun x => [shV x.1, .int .i64 x.2], len := fun _ => rfl, one := fun a v h => by simp only [List.mem_cons, List.not_mem_nil, or_false] at h; rcases h with rfl | rfl <;> rfl }
/-- the lines: the first words, the logs with what is kept, what is asked -/
structure Li where
  fst : List W3
  lg : List (List Sto × Int)
  as : Option Nat
structure LV where
  f : SH
  l : SH
  a : Option Nat
abbrev cLn (y : LV) : List Value := [shV y.f, shV y.l, .map y.a]
def vLn (y : LV) : Value := .agg #[shV y.f, shV y.l, .map y.a]
structure LO (B : Bs) (y : LV) (l : Li) : Prop where
  fst : On B fun h => Sl EW h (shV y.f) l.fst
  lg : ∃ us : List (SH × Int), (On B fun h => Sl ELg h (shV y.l) us) ∧ us.length = l.lg.length ∧ ∀ (i : Nat) (u : SH × Int) (g : List Sto × Int), us[i]? = some u → l.lg[i]? = some g → u.2 = g.2 ∧ On B fun h => Sl ESt h (shV u.1) g.1
  as : y.a = l.as
theorem LO.le {y : LV} {l : Li} (H : LO B y l) (le : B.le B') : LO B' y l := by
  obtain ⟨a, ⟨us, b, c, d⟩, e⟩ := H
  exact ⟨a.le le, ⟨us, b.le le, c, fun i u g h1 h2 => ⟨(d i u g h1 h2).1, (d i u g h1 h2).2.le le⟩⟩, e⟩
/-- the sizes of lines: n words, at most b stores a log -/
structure Lk (n b : Nat) (l : Li) : Prop where
  fst : l.fst.length = n
  lg : l.lg.length = (n + 7) / 8
  le : n ≤ 4096
  len : ∀ g ∈ l.lg, g.1.length ≤ b
/-- a store -/
def Li.sto (l : Li) (i : Nat) (w : W3) : Li := { l with lg := l.lg.set (i / 8) (((l.lg.getD (i / 8) ([], 0)).1 ++ [((i : Int), w)]), (l.lg.getD (i / 8) ([], 0)).2) }
theorem Lk.sto {n b i : Nat} {l : Li} {w : W3} (k : Lk n b l) (hi : i < n) : Lk n (b + 1) (l.sto i w) := by
  refine ⟨k.fst, (List.length_set ..).trans k.lg, k.le, fun g hg => ?_⟩
  rcases List.mem_or_eq_of_mem_set hg with h | rfl
  · have := k.len g h
    omega
  · have hl := k.lg
    have : l.lg[i / 8]? = some (l.lg.getD (i / 8) ([], 0)) := by
      rw [List.getD_eq_getElem?_getD, List.getElem?_eq_getElem (by omega)]; rfl
    have := k.len _ (List.mem_of_getElem? this)
    rw [List.length_append, List.length_singleton]
    omega
section
variable {n b i : Nat} {y : LV} {l : Li} {w : W3} {ws : List W3}
theorem K_cloneW {v : Value} (hs : Sl EW h v ws) (hl : ws.length ≤ 1000000) (hR : ∀ u h', Cx (fun _ => False) h h' [rSl EW (shV u) ws] → R (shV u) h') : F_slices_Clone_api_Word_api_Word S I v h R := by
  unfold F_slices_Clone_api_Word_api_Word
  exact clone_ok hs rfl rfl (by omega) (by omega) hR
theorem K_cloneL {v : Value} {us : List (SH × Int)} (hs : Sl ELg h v us) (hl : us.length ≤ 1000000) (hR : ∀ u h', Cx (fun _ => False) h h' [rSl ELg (shV u) us] → R (shV u) h') : F_slices_Clone_line_log_line_log S I v h R := by
  unfold F_slices_Clone_line_log_line_log
  exact clone_ok hs rfl rfl (by omega) (by omega) hR
theorem K_cloneI {v : Value} {us : List Int} (hs : Sl EI1 h v us) (hl : us.length ≤ 1000000) (hR : ∀ u h', Cx (fun _ => False) h h' [rSl EI1 (shV u) us] → R (shV u) h') : F_slices_Clone_int_int S I v h R := by
  unfold F_slices_Clone_int_int
  exact clone_ok hs rfl rfl (by omega) (by omega) hR
theorem K_clipS {v u : Value} {us : List Sto} (hs : Sl ESt h v us) (e : slc 4 v none (some (.int .i64 us.length)) (some (.int .i64 us.length)) = some u) (hR : R u h) : F_slices_Clip_line_store_line_store S I v h R := by
  unfold F_slices_Clip_line_store_line_store
  exact clip_ok hs e hR
theorem K_has (b0 : B.p h) (H : LO B y l) (k : Lk n b l) (hi : i < n) (hR : ∀ h', Gr h h' → R (.bool true) h') : F_line_Lines_has S I (vLn y) (.int .i64 i) h R := by
  have hn := k.fst
  unfold F_line_Lines_has
  have c := Cx.start0 h
  refine c.nv (cs := [_, _, _]) rfl rfl fun l2_ _ c => ?_
  replace c : Cx _ _ _ [_] := c
  refine .here ?_
  refine En.vb (k_geT (by omega)) ?_
  refine brt ?_
  refine En.vb (fa_add _ _ _) ?_
  refine En.vb (c.vc (i := 0) rfl rfl) ?_
  refine En.vb (H.fst h b0).ln ?_
  refine En.vb (k_ltT (by omega)) ?_
  exact hR _ c.gr
structure CnA (S : Sys) (I : Ids) : Prop extends CmE S I where
  cloneW : ∀ {v : Value} {ws : List W3} {h R}, Sl EW h v ws → ws.length ≤ 1000000 → (∀ u h', Cx (fun _ => False) h h' [rSl EW (shV u) ws] → R (shV u) h') → S.C I.f_slices_Clone_api_Word_api_Word [v] h R
  cloneL : ∀ {v : Value} {us : List (SH × Int)} {h R}, Sl ELg h v us → us.length ≤ 1000000 → (∀ u h', Cx (fun _ => False) h h' [rSl ELg (shV u) us] → R (shV u) h') → S.C I.f_slices_Clone_line_log_line_log [v] h R
  cloneI : ∀ {v : Value} {us : List Int} {h R}, Sl EI1 h v us → us.length ≤ 1000000 → (∀ u h', Cx (fun _ => False) h h' [rSl EI1 (shV u) us] → R (shV u) h') → S.C I.f_slices_Clone_int_int [v] h R
  clipS : ∀ {v u : Value} {us : List Sto} {h} {R : Value → Hp → Prop}, Sl ESt h v us → slc 4 v none (some (.int .i64 us.length)) (some (.int .i64 us.length)) = some u → R u h → S.C I.f_slices_Clip_line_store_line_store [v] h R
  has : ∀ {B : Bs} {n b i : Nat} {y : LV} {l : Li} {h R}, B.p h → LO B y l → Lk n b l → i < n → (∀ h', Gr h h' → R (.bool true) h') → S.C I.f_line_Lines_has [vLn y, .int .i64 i] h R
  Store : ∀ {B : Bs} {T n b t i : Nat} {x : SH × SH} {m : Me} {w : W3} {wl : Bool} {h R}, B.p h → MO B x m → Mk T n b m → b ≤ 900000 → (1 ≤ t ∧ t ≤ T) → i < n → (∀ x', Rt B h (fun B => MO B x' (m.add t i w wl)) fun h' => R (.tuple #[vMm x', .int .i64 0]) h') →
    S.C I.f_memory_Memory_Store [vMm x, .int .i64 t, .int .i64 i, mW w, .bool wl] h R
  Swap : ∀ {B : Bs} {T n b t i : Nat} {x : SH × SH} {m : Me} {old new : W3} {h R}, B.p h → MO B x m → Mk T n b m → b ≤ 900000 → (1 ≤ t ∧ t ≤ T) → i < n → (∀ x', Rt B h (fun B => MO B x' (m.swp t i old new)) fun h' => R (.tuple #[vMm x', mW (m.top i).w, .bool (decide ((m.top i).w = old)), .int .i64 0]) h') →
    S.C I.f_memory_Memory_Swap [vMm x, .int .i64 t, .int .i64 i, mW old, mW new] h R
  Last : ∀ {B : Bs} {T n b i : Nat} {x : SH × SH} {m : Me} {h R}, B.p h → MO B x m → Mk T n b m → b ≤ 1000000 → i < n → (∀ h', Gr h h' → R (.tuple #[mW (m.top i).w, .bool true]) h') → S.C I.f_memory_Memory_Last [vMm x, .int .i64 i] h R
theorem K_lStore (cs : CnA S I) (b0 : B.p h) (H : LO B y l) (k : Lk n b l) (hb : b ≤ 900000) (hi : i < n)
    (hR : ∀ y', Rt B h (fun B => LO B y' (l.sto i w)) fun h' => R (.tuple #[vLn y', .int .i64 0]) h') : F_line_Lines_Store S I (vLn y) (.int .i64 i) (mW w) h R := by
  obtain ⟨us, h1, h2, h3⟩ := H.lg
  have hl := k.lg
  have hle := k.le
  have hlt : i / 8 < us.length := by omega
  have hu := List.getElem?_eq_getElem (l := us) (i := i / 8) hlt
  have hg : l.lg[i / 8]? = some (l.lg.getD (i / 8) ([], 0)) := by
    rw [List.getD_eq_getElem?_getD, List.getElem?_eq_getElem (by omega)]; rfl
  obtain ⟨e2, s1⟩ := h3 _ _ _ hu hg
  have hgl := k.len _ (List.mem_of_getElem? hg)
  generalize us[i / 8] = u at hu e2 s1
  obtain ⟨u, kp⟩ := u
  dsimp only at e2 s1
  obtain ⟨ac, ec, Hc⟩ := (s1 h b0).clipped (n := 4) rfl
  have eq8 : ((i : Int)) / 8 = ((i / 8 : Nat) : Int) := by omega
  have fin : ∀ (f l' : SH) (M : List Res) (u2 : SH), M = [rSl ELg (shV l') (us.set (i / 8) (u2, kp)), rSl ESt (shV u2) ((l.lg.getD (i / 8) ([], 0)).1 ++ [((i : Int), w)])] → LO (B.and M) ⟨y.f, l', y.a⟩ (l.sto i w) := fun f l' M u2 hM => by
    subst hM
    refine ⟨H.fst.le (Bs.le_and _ _), ⟨_, On.sl (i := 0) rfl, by rw [List.length_set, Li.sto, List.length_set, h2], fun j p q hp hq => ?_⟩, H.as⟩
    have hq : (l.lg.set (i / 8) (((l.lg.getD (i / 8) ([], 0)).1 ++ [((i : Int), w)]), (l.lg.getD (i / 8) ([], 0)).2))[j]? = some q := hq
    rw [List.getElem?_set] at hp hq
    by_cases ej : i / 8 = j
    · rw [if_pos ej, if_pos (by omega)] at hp hq
      injection hp with hp; injection hq with hq
      subst hp hq
      exact ⟨e2, On.sl (i := 1) rfl⟩
    · rw [if_neg ej] at hp hq
      exact ⟨(h3 j p q hp hq).1, (h3 j p q hp hq).2.le (Bs.le_and _ _)⟩
  unfold F_line_Lines_Store
  have c := Cx.start0 h
  refine c.nv (cs := [_, _, _]) rfl rfl fun l3_ _ c => ?_
  replace c : Cx _ _ _ [_] := c
  refine c.nv (cs := [_, _, _]) rfl rfl fun w5_ _ c => ?_
  replace c : Cx _ _ _ [_, _] := c
  refine c.nv (cs := [_, _, _]) rfl rfl fun v6_ _ c => ?_
  replace c : Cx _ _ _ [_, _, _] := c
  refine En.vb (c.vl (i := 0) rfl rfl) ?_
  refine cs.has (B.up b0 c.gr) H k hi fun _ g => ?_
  have c := c.more g
  replace c : Cx _ _ _ [_, _, _] := c
  refine En.vb (v := .bool false) (rfl) ?_
  refine brf ?_
  refine En.vb (fa_add _ _ _) ?_
  refine En.vb (c.vc (i := 0) rfl rfl) ?_
  refine cs.cloneL (h1 _ (B.up b0 c.gr)) (by omega) fun l' _ d => ?_
  have c := c.frame0 d
  replace c : Cx _ _ _ [_, _, _, _] := c
  refine En.vb (fa_add _ _ _) ?_
  refine c.vq 0 rfl (vs := [_]) (ds := [_, _, _]) (by exact rfl) (by exact rfl) (by exact rfl) (by exact rfl) (by exact rfl) fun _ c => ?_
  replace c : Cx _ _ _ [_, _, _, _] := c
  refine En.vb (fa_add _ _ _) ?_
  refine En.vb (c.vc (i := 0) rfl rfl) ?_
  refine En.vb (quoI ⟨by omega, by omega⟩ (by decide)) ?_
  rw [eq8]
  obtain ⟨r, o, cap, el, ei, row⟩ := (c.sl (i := 3) rfl).ix hu (n := 2) rfl (k := .i64) (z := ((i / 8 : Nat) : Int)) rfl
  refine En.vb ei ?_
  refine .here ?_
  refine En.vb rfl ?_
  refine En.vb (fa_add _ _ _) ?_
  refine En.vb (row.ldc (j := 0) rfl) ?_
  refine En.vb (c.vl (i := 1) rfl rfl) ?_
  refine En.vb (bldS_ok (ds := [_, _, _, _]) rfl) ?_
  refine And.intro ?_ ?_
  · refine cs.clipS (s1 _ (B.up b0 c.gr)) ec ?_
    refine And.intro (c.vl (i := 1) rfl rfl) ?_
    refine c.bsl1 ESt ((i : Int), w) rfl rfl fun v32 _ c => ?_
    replace c : Cx _ _ _ [_, _, _, _, _] := c
    refine c.apc (Hc.gr c.gr) (c.sl (i := 4) rfl).sl (by simp) rfl rfl (by rw [List.length_singleton]; omega) (by rw [List.length_singleton]; omega) fun v33 _ c => ?_
    obtain ⟨u2, rfl⟩ := (c.sl (i := 5) rfl).isH
    replace c : Cx _ _ _ [_, _, _, _, _, _] := c
    refine En.vb rfl ?_
    refine En.vb (fa_add _ _ _) ?_
    refine c.setp 3 rfl hu (u2, kp) rfl rfl (j := 0) ei rfl (by decide) rfl fun _ c => ?_
    replace c : Cx _ _ _ [_, _, _, _, _, _] := c
    refine En.vb (c.vl (i := 0) rfl rfl) ?_
    refine c.vw 2 rfl (vs := [_, _, _]) (by exact rfl) (by exact rfl) (by exact rfl) (by exact rfl) fun _ c => ?_
    replace c : Cx _ _ _ [_, _, _, _, _, _] := c
    refine En.vb (c.vl (i := 2) rfl rfl) ?_
    exact hR ⟨y.f, l', y.a⟩ [rSl ELg (shV l') (us.set (i / 8) (u2, kp)), rSl ESt (shV u2) ((l.lg.getD (i / 8) ([], 0)).1 ++ [((i : Int), w)])] _ (Cx.pack (L := []) (c.pick [3, 5])) (fin y.f l' _ u2 rfl)
  · refine c.bsl1 ESt ((i : Int), w) rfl rfl fun v32 _ c => ?_
    replace c : Cx _ _ _ [_, _, _, _, _] := c
    obtain ⟨r', o', cap', el', ei', row'⟩ := (c.sl (i := 3) rfl).ix hu (n := 2) rfl (k := .i64) (z := ((i / 8 : Nat) : Int)) rfl
    rw [ei] at ei'
    injection ei' with ei'
    injection ei' with ei'
    injection ei' with ei'
    injection ei' with e7 e8
    subst e7
    rw [← e8] at row'
    refine And.intro (row'.ldc (j := 0) rfl) ?_
    refine cs.clipS (s1 _ (B.up b0 c.gr)) ec ?_
    refine c.apc (Hc.gr c.gr) (c.sl (i := 4) rfl).sl (by simp) rfl rfl (by rw [List.length_singleton]; omega) (by rw [List.length_singleton]; omega) fun v33 _ c => ?_
    obtain ⟨u2, rfl⟩ := (c.sl (i := 5) rfl).isH
    replace c : Cx _ _ _ [_, _, _, _, _, _] := c
    refine En.vb rfl ?_
    refine En.vb (fa_add _ _ _) ?_
    refine c.setp 3 rfl hu (u2, kp) rfl rfl (j := 0) ei rfl (by decide) rfl fun _ c => ?_
    replace c : Cx _ _ _ [_, _, _, _, _, _] := c
    refine En.vb (c.vl (i := 0) rfl rfl) ?_
    refine c.vw 2 rfl (vs := [_, _, _]) (by exact rfl) (by exact rfl) (by exact rfl) (by exact rfl) fun _ c => ?_
    replace c : Cx _ _ _ [_, _, _, _, _, _] := c
    refine En.vb (c.vl (i := 2) rfl rfl) ?_
    exact hR ⟨y.f, l', y.a⟩ [rSl ELg (shV l') (us.set (i / 8) (u2, kp)), rSl ESt (shV u2) ((l.lg.getD (i / 8) ([], 0)).1 ++ [((i : Int), w)])] _ (Cx.pack (L := []) (c.pick [3, 5])) (fin y.f l' _ u2 rfl)
end
end Go.En
namespace Go.En

variable {S : Sys} {I : Ids} {h h0 h' : Hp} {F F0 : Fp} {R : Value → Hp → Prop} {L : List Res} {B B' : Bs}
structure MV where
  x : SH × SH
  y : LV
  s : SH
  cr : Int
abbrev cMc (v : MV) : List Value := [shV v.x.1, shV v.x.2, shV v.y.f, shV v.y.l, .map v.y.a, shV v.s, .int .i64 v.cr]
def vMc (v : MV) : Value := .agg #[shV v.x.1, shV v.x.2, shV v.y.f, shV v.y.l, .map v.y.a, shV v.s, .int .i64 v.cr]
structure Mc where
  me : Me
  li : Li
structure KO (B : Bs) (T : Nat) (v : MV) (m : Mc) : Prop where
  me : MO B v.x m.me
  li : LO B v.y m.li
  st : ∃ ss : List Int, (On B fun h => Sl EI1 h (shV v.s) ss) ∧ ss.length = T
theorem KO.le {T : Nat} {v : MV} {m : Mc} (H : KO B T v m) (l : B.le B') : KO B' T v m := let ⟨a, b, ss, c, d⟩ := H; ⟨a.le l, b.le l, ss, c.le l, d⟩
structure Kk (T n b : Nat) (m : Mc) : Prop where
  me : Mk T n b m.me
  li : Lk n b m.li
def Mc.look (m : Mc) (t i : Nat) : Mc := { m with me := m.me.fnd t i ((m.me.at i).length - 1) (m.me.top i) true }
def Mc.swap (m : Mc) (t i : Nat) (old new : W3) : Mc := { me := m.me.swp t i old new, li := if (m.me.top i).w = old then m.li.sto i new else m.li }
def Mc.put (m : Mc) (t i : Nat) (w : W3) (wl : Bool) : Mc := { me := m.me.add t i w wl, li := m.li.sto i w }
section
variable {T n b t i : Nat} {v : MV} {m : Mc} {w : W3}
theorem Lk.up {b' : Nat} {l : Li} (k : Lk n b l) (hb : b ≤ b') : Lk n b' l := ⟨k.fst, k.lg, k.le, fun g hg => Nat.le_trans (k.len g hg) hb⟩
theorem Mk.up {b' : Nat} {m : Me} (k : Mk T n b m) (hb : b ≤ b') : Mk T n b' m := ⟨k.vs, k.hs, k.le, fun g hg => ⟨(k.len g hg).1, Nat.le_trans (k.len g hg).2 hb⟩⟩
theorem Kk.up {b' : Nat} (k : Kk T n b m) (hb : b ≤ b') : Kk T n b' m := ⟨k.me.up hb, k.li.up hb⟩
theorem Kk.look (k : Kk T n b m) : Kk T n b (m.look t i) := ⟨k.me.fnd _ _, k.li⟩
theorem Kk.put (k : Kk T n b m) (hi : i < n) {wl : Bool} : Kk T n (b + 1) (m.put t i w wl) := ⟨k.me.add hi, k.li.sto hi⟩
theorem Kk.swap (k : Kk T n b m) (hi : i < n) {old new : W3} : Kk T n (b + 1) (m.swap t i old new) := by
  unfold Mc.swap Me.swp
  split
  · exact ⟨(k.me.fnd _ _).add hi, k.li.sto hi⟩
  · exact ⟨(k.me.fnd _ _).up (Nat.le_succ _), k.li.up (Nat.le_succ _)⟩
theorem K_kSize (cs : CnA S I) (b0 : B.p h) (H : KO B T v m) (k : Kk T n b m) (hR : ∀ h', Gr h h' → R (.tuple #[.int .i64 T, .int .i64 n]) h') : F_machine_Machine_Size S I (vMc v) h R := by
  unfold F_machine_Machine_Size
  have c := Cx.start0 h
  refine c.nv (cs := [_, _, _, _, _, _, _]) rfl rfl fun m1_ _ c => ?_
  replace c : Cx _ _ _ [_] := c
  refine En.vb (fa_add _ _ _) ?_
  refine En.vb (c.vp (i := 0) (ds := [_, _]) rfl rfl rfl) ?_
  refine cs.mSize (x := v.x) (B.up b0 c.gr) H.me k.me fun _ g => ?_
  have c := c.more g
  replace c : Cx _ _ _ [_] := c
  refine En.vb rfl ?_
  refine En.vb rfl ?_
  exact hR _ c.gr
theorem K_kWord (cs : CnA S I) (b0 : B.p h) (H : KO B T v m) (k : Kk T n b m) (hb : b ≤ 1000000) (hi : i < n) (hR : ∀ h', Gr h h' → R (.tuple #[mW (m.me.top i).w, .bool true]) h') : F_machine_Machine_Word S I (vMc v) (.int .i64 i) h R := by
  unfold F_machine_Machine_Word
  have c := Cx.start0 h
  refine c.nv (cs := [_, _, _, _, _, _, _]) rfl rfl fun m2_ _ c => ?_
  replace c : Cx _ _ _ [_] := c
  refine c.nv (cs := [_, _, _]) rfl rfl fun v4_ _ c => ?_
  replace c : Cx _ _ _ [_, _] := c
  refine En.vb (fa_add _ _ _) ?_
  refine En.vb (c.vp (i := 0) (ds := [_, _]) rfl rfl rfl) ?_
  refine cs.Last (x := v.x) (B.up b0 c.gr) H.me k.me hb hi fun _ g => ?_
  have c := c.more g
  replace c : Cx _ _ _ [_, _] := c
  refine En.vb rfl ?_
  refine En.vb rfl ?_
  refine c.vw 1 rfl (vs := [_, _, _]) (by exact rfl) (by exact rfl) (by exact rfl) (by exact rfl) fun _ c => ?_
  replace c : Cx _ _ _ [_, _] := c
  refine En.vb (c.vl (i := 1) rfl rfl) ?_
  exact hR _ c.gr
structure CnB (S : Sys) (I : Ids) : Prop extends CnA S I where
  kSize : ∀ {B : Bs} {T n b : Nat} {v : MV} {m : Mc} {h R}, B.p h → KO B T v m → Kk T n b m → (∀ h', Gr h h' → R (.tuple #[.int .i64 T, .int .i64 n]) h') → S.C I.f_machine_Machine_Size [vMc v] h R
  lStore : ∀ {B : Bs} {n b i : Nat} {y : LV} {l : Li} {w : W3} {h R}, B.p h → LO B y l → Lk n b l → b ≤ 900000 → i < n → (∀ y', Rt B h (fun B => LO B y' (l.sto i w)) fun h' => R (.tuple #[vLn y', .int .i64 0]) h') → S.C I.f_line_Lines_Store [vLn y, .int .i64 i, mW w] h R
theorem K_kcheck (cs : CnB S I) (b0 : B.p h) (H : KO B T v m) (k : Kk T n b m) (ht : 1 ≤ t ∧ t ≤ T) {a : Ac} (ho : 0 ≤ a.op ∧ a.op ≤ 8) (hat : a.op ≠ 0 → a.op ≠ 8 → 0 ≤ a.at' ∧ a.at' < n) (hR : ∀ h', Gr h h' → R (.int .i64 0) h') : F_machine_Machine_check S I (vMc v) (.int .i64 t) (vAc a) h R := by
  unfold F_machine_Machine_check
  have c := Cx.start0 h
  refine c.nv (cs := [_, _, _, _, _, _, _]) rfl rfl fun m3_ _ c => ?_
  replace c : Cx _ _ _ [_] := c
  refine c.nv (cs := [_, _, _, _, _, _, _, _]) rfl rfl fun a5_ _ c => ?_
  replace c : Cx _ _ _ [_, _] := c
  refine En.vb (c.vl (i := 0) rfl rfl) ?_
  refine cs.kSize (v := v) (B.up b0 c.gr) H k fun _ g => ?_
  have c := c.more g
  replace c : Cx _ _ _ [_, _] := c
  refine En.vb rfl ?_
  refine En.vb rfl ?_
  refine .here ?_
  refine En.vb (k_ltF (by omega)) ?_
  refine brf ?_
  refine En.vb (k_gtF (by omega)) ?_
  refine brf ?_
  refine .here ?_
  refine En.vb (fa_add _ _ _) ?_
  refine En.vb (c.vc (i := 1) rfl rfl) ?_
  refine En.vb (k_ltF (by omega)) ?_
  refine brf ?_
  refine En.vb (fa_add _ _ _) ?_
  refine En.vb (c.vc (i := 1) rfl rfl) ?_
  refine En.vb (k_gtF (by omega)) ?_
  refine brf ?_
  refine .here ?_
  refine En.vb (fa_add _ _ _) ?_
  refine En.vb (c.vc (i := 1) rfl rfl) ?_
  refine En.vb bin_neq ?_
  refine brd (fun e34 => ?_) fun e34 => ?_
  · refine En.vb (fa_add _ _ _) ?_
    refine En.vb (c.vc (i := 1) rfl rfl) ?_
    refine En.vb bin_neq ?_
    refine brd (fun e38 => ?_) fun e38 => ?_
    · refine En.vb (fa_add _ _ _) ?_
      refine En.vb (c.vc (i := 1) rfl rfl) ?_
      refine En.vb (k_ltF (Int.not_lt.2 (hat e34 e38).1)) ?_
      refine brf ?_
      refine En.vb (fa_add _ _ _) ?_
      refine En.vb (c.vc (i := 1) rfl rfl) ?_
      refine En.vb (k_geF (Int.not_le.2 (hat e34 e38).2)) ?_
      refine brf ?_
      exact hR _ c.gr
    · refine brf ?_
      exact hR _ c.gr
  · refine brf ?_
    exact hR _ c.gr
theorem K_kchg {a : Ac} {r : Bool} (hr : r = decide (a.op = 3 ∨ a.op = 4 ∨ a.op = 6)) (hR : ∀ h', Gr h h' → R (.bool r) h') : F_machine_Changes S I (vAc a) h R := by
  have h1 : a.op = 3 → ∀ h', Gr h h' → R (.bool true) h' := fun e h' g => by
    have := hR h' g
    rwa [hr, decide_eq_true (.inl e)] at this
  have h2 : a.op = 4 → ∀ h', Gr h h' → R (.bool true) h' := fun e h' g => by
    have := hR h' g
    rwa [hr, decide_eq_true (.inr (.inl e))] at this
  have h3 : ¬ a.op = 3 → ¬ a.op = 4 → ∀ h', Gr h h' → R (.bool (decide (a.op = 6))) h' := fun e5 e9 h' g => by
    have := hR h' g
    rwa [hr, show decide (a.op = 3 ∨ a.op = 4 ∨ a.op = 6) = decide (a.op = 6) from decide_eq_decide.2 ⟨fun h => h.elim (fun h => absurd h e5) fun h => h.elim (fun h => absurd h e9) id, fun h => .inr (.inr h)⟩] at this
  unfold F_machine_Changes
  have c := Cx.start0 h
  refine c.nv (cs := [_, _, _, _, _, _, _, _]) rfl rfl fun a1_ _ c => ?_
  replace c : Cx _ _ _ [_] := c
  refine .here ?_
  refine En.vb (fa_add _ _ _) ?_
  refine En.vb (c.vc (i := 0) rfl rfl) ?_
  refine En.vb bin_eql ?_
  refine brd (fun e5 => ?_) fun e5 => ?_
  · first | exact h1 e5 _ c.gr | exact h2 e9 _ c.gr | exact h3 e5 e9 _ c.gr
  · refine En.vb (fa_add _ _ _) ?_
    refine En.vb (c.vc (i := 0) rfl rfl) ?_
    refine En.vb bin_eql ?_
    refine brd (fun e9 => ?_) fun e9 => ?_
    · first | exact h1 e5 _ c.gr | exact h2 e9 _ c.gr | exact h3 e5 e9 _ c.gr
    · refine En.vb (fa_add _ _ _) ?_
      refine En.vb (c.vc (i := 0) rfl rfl) ?_
      refine En.vb bin_eql ?_
      first | exact h1 e5 _ c.gr | exact h2 e9 _ c.gr | exact h3 e5 e9 _ c.gr
theorem K_kread (cs : CnB S I) (b0 : B.p h) (H : KO B T v m) (k : Kk T n b m) (hb : b ≤ 1000000) (ht : 1 ≤ t ∧ t ≤ T) (hi : i < n) {o1 o2 : W3} {ch : Value} (hR : ∀ v', Rt B h (fun B => KO B T v' (m.look t i)) fun h' => R (.tuple #[vMc v', vGo ⟨(m.me.top i).w, true⟩]) h') : F_machine_Machine_read S I (vMc v) (.int .i64 t) (vAc ⟨5, i, o1, o2⟩) ch h R := by
  unfold F_machine_Machine_read
  have c := Cx.start0 h
  refine c.nv (cs := [_, _, _, _, _, _, _]) rfl rfl fun m4_ _ c => ?_
  replace c : Cx _ _ _ [_] := c
  refine c.nv (cs := [_, _, _, _, _, _, _, _]) rfl rfl fun a6_ _ c => ?_
  replace c : Cx _ _ _ [_, _] := c
  refine c.nv (cs := [_, _, _, _, _, _, _]) rfl rfl fun v8_ _ c => ?_
  replace c : Cx _ _ _ [_, _, _] := c
  refine c.nv (cs := [_, _, _, _]) rfl rfl fun v9_ _ c => ?_
  replace c : Cx _ _ _ [_, _, _, _] := c
  refine c.nv (cs := [_, _, _]) rfl rfl fun w10_ _ c => ?_
  replace c : Cx _ _ _ [_, _, _, _, _] := c
  refine .here ?_
  refine En.vb (fa_add _ _ _) ?_
  refine En.vb (c.vc (i := 1) rfl rfl) ?_
  refine En.vb (v := .bool true) rfl ?_
  refine brt ?_
  refine En.vb (fa_add _ _ _) ?_
  refine En.vb (c.vp (i := 0) (ds := [_, _]) rfl rfl rfl) ?_
  refine En.vb (fa_add _ _ _) ?_
  refine En.vb (c.vc (i := 1) rfl rfl) ?_
  refine cs.Look (x := v.x) (B.up b0 c.gr) H.me k.me hb ht hi fun x' M _ d ok => ?_
  have c := c.frame0 d
  replace c : Cx _ _ _ [_, _, _, _, _, _] := c
  refine En.vb rfl ?_
  refine En.vb rfl ?_
  refine En.vb rfl ?_
  refine En.vb (fa_add _ _ _) ?_
  refine c.vq 0 rfl (vs := [_, _]) (ds := [_, _, _, _, _, _, _]) (by exact rfl) (by exact rfl) (by exact rfl) (by exact rfl) (by exact rfl) fun _ c => ?_
  replace c : Cx _ _ _ [_, _, _, _, _, _] := c
  refine c.vw 4 rfl (vs := [_, _, _]) (by exact rfl) (by exact rfl) (by exact rfl) (by exact rfl) fun _ c => ?_
  replace c : Cx _ _ _ [_, _, _, _, _, _] := c
  refine En.vb (c.vl (i := 0) rfl rfl) ?_
  refine En.vb (c.vl (i := 4) rfl rfl) ?_
  refine En.vb (bldS_ok (ds := [_, _, _, _]) rfl) ?_
  refine c.vw 2 rfl (vs := [_, _, _, _, _, _, _]) (by exact rfl) (by exact rfl) (by exact rfl) (by exact rfl) fun _ c => ?_
  replace c : Cx _ _ _ [_, _, _, _, _, _] := c
  refine And.intro (c.vl (i := 4) rfl rfl) ?_
  refine c.vw 3 rfl (vs := [_, _, _, _]) (by exact rfl) (by exact rfl) (by exact rfl) (by exact rfl) fun _ c => ?_
  replace c : Cx _ _ _ [_, _, _, _, _, _] := c
  refine En.vb (c.vl (i := 2) rfl rfl) ?_
  refine En.vb (c.vl (i := 3) rfl rfl) ?_
  exact hR { v with x := x' } M _ (c.pick [5]) (let H' := H.le (Bs.le_and B M); ⟨ok, H'.li, H'.st⟩)
/-- a swap -/
theorem K_kswap (cs : CnB S I) (b0 : B.p h) (H : KO B T v m) (k : Kk T n b m) (hb : b ≤ 900000) (ht : 1 ≤ t ∧ t ≤ T) (hi : i < n) {old new : W3} (hR : ∀ v', Rt B h (fun B => KO B T v' (m.swap t i old new)) fun h' => R (.tuple #[vMc v', vGo ⟨(m.me.top i).w, decide ((m.me.top i).w = old)⟩]) h') : F_machine_Machine_write S I (vMc v) (.int .i64 t) (vAc ⟨6, i, old, new⟩) h R := by
  by_cases e : (m.me.top i).w = old
  · rw [Mc.swap, if_pos e, decide_eq_true e] at hR
    unfold F_machine_Machine_write
    have c := Cx.start0 h
    refine c.nv (cs := [_, _, _, _, _, _, _]) rfl rfl fun m3_ _ c => ?_
    replace c : Cx _ _ _ [_] := c
    refine c.nv (cs := [_, _, _, _, _, _, _, _]) rfl rfl fun a5_ _ c => ?_
    replace c : Cx _ _ _ [_, _] := c
    refine c.nv (cs := [_, _, _, _, _, _, _]) rfl rfl fun v6_ _ c => ?_
    replace c : Cx _ _ _ [_, _, _] := c
    refine c.nv (cs := [_, _, _, _]) rfl rfl fun v7_ _ c => ?_
    replace c : Cx _ _ _ [_, _, _, _] := c
    refine En.vb (bldS_ok (ds := [_, _, _, _]) rfl) ?_
    refine c.nv (cs := [_, _, _, _]) rfl rfl fun g8_ _ c => ?_
    replace c : Cx _ _ _ [_, _, _, _, _] := c
    refine c.vw 4 rfl (vs := [_, _, _, _]) (by exact rfl) (by exact rfl) (by exact rfl) (by exact rfl) fun _ c => ?_
    replace c : Cx _ _ _ [_, _, _, _, _] := c
    refine .here ?_
    refine En.vb (fa_add _ _ _) ?_
    refine En.vb (c.vc (i := 1) rfl rfl) ?_
    refine En.vb (v := .bool true) rfl ?_
    refine brt ?_
    refine En.vb (fa_add _ _ _) ?_
    refine En.vb (c.vp (i := 0) (ds := [_, _]) rfl rfl rfl) ?_
    refine En.vb (fa_add _ _ _) ?_
    refine En.vb (c.vc (i := 1) rfl rfl) ?_
    refine En.vb (fa_add _ _ _) ?_
    refine En.vb (c.vp (i := 1) (ds := [_, _, _]) rfl rfl rfl) ?_
    refine En.vb (fa_add _ _ _) ?_
    refine En.vb (c.vp (i := 1) (ds := [_, _, _]) rfl rfl rfl) ?_
    refine cs.Swap (x := v.x) (old := old) (new := new) (B.up b0 c.gr) H.me k.me hb ht hi fun x' M _ d ok => ?_
    rw [decide_eq_true e]
    have c := c.frame0 d
    replace c : Cx _ _ _ [_, _, _, _, _, _] := c
    refine En.vb rfl ?_
    refine En.vb rfl ?_
    refine En.vb rfl ?_
    refine En.vb rfl ?_
    refine En.vb (fa_add _ _ _) ?_
    refine c.vq 0 rfl (vs := [_, _]) (ds := [_, _, _, _, _, _, _]) (by exact rfl) (by exact rfl) (by exact rfl) (by exact rfl) (by exact rfl) fun _ c => ?_
    replace c : Cx _ _ _ [_, _, _, _, _, _] := c
    refine En.vb (fa_add _ _ _) ?_
    refine c.vq 4 rfl (vs := [_, _, _]) (ds := [_, _, _, _]) (by exact rfl) (by exact rfl) (by exact rfl) (by exact rfl) (by exact rfl) fun _ c => ?_
    replace c : Cx _ _ _ [_, _, _, _, _, _] := c
    refine En.vb (fa_add _ _ _) ?_
    refine c.vq 4 rfl (vs := [_]) (ds := [_, _, _, _]) (by exact rfl) (by exact rfl) (by exact rfl) (by exact rfl) (by exact rfl) fun _ c => ?_
    replace c : Cx _ _ _ [_, _, _, _, _, _] := c
    refine .here ?_
    refine En.vb (fa_add _ _ _) ?_
    refine En.vb (c.vc (i := 4) rfl rfl) ?_
    refine brt ?_
    refine En.vb (fa_add _ _ _) ?_
    refine En.vb (c.vp (i := 0) (ds := [_, _, _]) rfl rfl rfl) ?_
    refine En.vb (fa_add _ _ _) ?_
    refine En.vb (c.vc (i := 1) rfl rfl) ?_
    refine En.vb (fa_add _ _ _) ?_
    refine En.vb (c.vp (i := 1) (ds := [_, _, _]) rfl rfl rfl) ?_
    refine cs.lStore (y := v.y) (w := new) (B.up b0 c.gr) H.li k.li hb hi fun y' N _ d ok2 => ?_
    have c := c.frame0 d
    replace c : Cx _ _ _ [_, _, _, _, _, _, _] := c
    refine En.vb rfl ?_
    refine En.vb rfl ?_
    refine En.vb (fa_add _ _ _) ?_
    refine c.vq 0 rfl (vs := [_, _, _]) (ds := [_, _, _, _, _, _, _]) (by exact rfl) (by exact rfl) (by exact rfl) (by exact rfl) (by exact rfl) fun _ c => ?_
    replace c : Cx _ _ _ [_, _, _, _, _, _, _] := c
    refine En.vb (c.vl (i := 0) rfl rfl) ?_
    refine En.vb (c.vl (i := 4) rfl rfl) ?_
    refine c.vw 2 rfl (vs := [_, _, _, _, _, _, _]) (by exact rfl) (by exact rfl) (by exact rfl) (by exact rfl) fun _ c => ?_
    replace c : Cx _ _ _ [_, _, _, _, _, _, _] := c
    refine And.intro (c.vl (i := 4) rfl rfl) ?_
    refine c.vw 3 rfl (vs := [_, _, _, _]) (by exact rfl) (by exact rfl) (by exact rfl) (by exact rfl) fun _ c => ?_
    replace c : Cx _ _ _ [_, _, _, _, _, _, _] := c
    refine En.vb (c.vl (i := 2) rfl rfl) ?_
    refine En.vb (c.vl (i := 3) rfl rfl) ?_
    exact hR { v with x := x', y := y' } [rStar M, rStar N] _ (Cx.pack (L := []) (c.pick [5, 6])) (let H' := H.le (Bs.le_and B [rStar M, rStar N]); ⟨ok.le fun h b => ⟨b.1, Bs.star b (i := 0) rfl⟩, ok2.le fun h b => ⟨b.1, Bs.star b (i := 1) rfl⟩, H'.st⟩)
  · rw [Mc.swap, if_neg e, decide_eq_false e] at hR
    unfold F_machine_Machine_write
    have c := Cx.start0 h
    refine c.nv (cs := [_, _, _, _, _, _, _]) rfl rfl fun m3_ _ c => ?_
    replace c : Cx _ _ _ [_] := c
    refine c.nv (cs := [_, _, _, _, _, _, _, _]) rfl rfl fun a5_ _ c => ?_
    replace c : Cx _ _ _ [_, _] := c
    refine c.nv (cs := [_, _, _, _, _, _, _]) rfl rfl fun v6_ _ c => ?_
    replace c : Cx _ _ _ [_, _, _] := c
    refine c.nv (cs := [_, _, _, _]) rfl rfl fun v7_ _ c => ?_
    replace c : Cx _ _ _ [_, _, _, _] := c
    refine En.vb (bldS_ok (ds := [_, _, _, _]) rfl) ?_
    refine c.nv (cs := [_, _, _, _]) rfl rfl fun g8_ _ c => ?_
    replace c : Cx _ _ _ [_, _, _, _, _] := c
    refine c.vw 4 rfl (vs := [_, _, _, _]) (by exact rfl) (by exact rfl) (by exact rfl) (by exact rfl) fun _ c => ?_
    replace c : Cx _ _ _ [_, _, _, _, _] := c
    refine .here ?_
    refine En.vb (fa_add _ _ _) ?_
    refine En.vb (c.vc (i := 1) rfl rfl) ?_
    refine En.vb (v := .bool true) rfl ?_
    refine brt ?_
    refine En.vb (fa_add _ _ _) ?_
    refine En.vb (c.vp (i := 0) (ds := [_, _]) rfl rfl rfl) ?_
    refine En.vb (fa_add _ _ _) ?_
    refine En.vb (c.vc (i := 1) rfl rfl) ?_
    refine En.vb (fa_add _ _ _) ?_
    refine En.vb (c.vp (i := 1) (ds := [_, _, _]) rfl rfl rfl) ?_
    refine En.vb (fa_add _ _ _) ?_
    refine En.vb (c.vp (i := 1) (ds := [_, _, _]) rfl rfl rfl) ?_
    refine cs.Swap (x := v.x) (old := old) (new := new) (B.up b0 c.gr) H.me k.me hb ht hi fun x' M _ d ok => ?_
    rw [decide_eq_false e]
    have c := c.frame0 d
    replace c : Cx _ _ _ [_, _, _, _, _, _] := c
    refine En.vb rfl ?_
    refine En.vb rfl ?_
    refine En.vb rfl ?_
    refine En.vb rfl ?_
    refine En.vb (fa_add _ _ _) ?_
    refine c.vq 0 rfl (vs := [_, _]) (ds := [_, _, _, _, _, _, _]) (by exact rfl) (by exact rfl) (by exact rfl) (by exact rfl) (by exact rfl) fun _ c => ?_
    replace c : Cx _ _ _ [_, _, _, _, _, _] := c
    refine En.vb (fa_add _ _ _) ?_
    refine c.vq 4 rfl (vs := [_, _, _]) (ds := [_, _, _, _]) (by exact rfl) (by exact rfl) (by exact rfl) (by exact rfl) (by exact rfl) fun _ c => ?_
    replace c : Cx _ _ _ [_, _, _, _, _, _] := c
    refine En.vb (fa_add _ _ _) ?_
    refine c.vq 4 rfl (vs := [_]) (ds := [_, _, _, _]) (by exact rfl) (by exact rfl) (by exact rfl) (by exact rfl) (by exact rfl) fun _ c => ?_
    replace c : Cx _ _ _ [_, _, _, _, _, _] := c
    refine .here ?_
    refine En.vb (fa_add _ _ _) ?_
    refine En.vb (c.vc (i := 4) rfl rfl) ?_
    refine brf ?_
    refine En.vb (c.vl (i := 0) rfl rfl) ?_
    refine En.vb (c.vl (i := 4) rfl rfl) ?_
    refine c.vw 2 rfl (vs := [_, _, _, _, _, _, _]) (by exact rfl) (by exact rfl) (by exact rfl) (by exact rfl) fun _ c => ?_
    replace c : Cx _ _ _ [_, _, _, _, _, _] := c
    refine And.intro (c.vl (i := 4) rfl rfl) ?_
    refine c.vw 3 rfl (vs := [_, _, _, _]) (by exact rfl) (by exact rfl) (by exact rfl) (by exact rfl) fun _ c => ?_
    replace c : Cx _ _ _ [_, _, _, _, _, _] := c
    refine En.vb (c.vl (i := 2) rfl rfl) ?_
    refine En.vb (c.vl (i := 3) rfl rfl) ?_
    exact hR { v with x := x' } M _ (c.pick [5]) (let H' := H.le (Bs.le_and B M); ⟨ok, H'.li, H'.st⟩)
/-- a store -/
theorem K_kput (cs : CnB S I) (b0 : B.p h) (H : KO B T v m) (k : Kk T n b m) (hb : b ≤ 900000) (ht : 1 ≤ t ∧ t ≤ T) (hi : i < n) {wl : Bool} {o1 : W3} (hR : ∀ v', Rt B h (fun B => KO B T v' (m.put t i w wl)) fun h' => R (.tuple #[vMc v', vGo ⟨W0, true⟩]) h') : F_machine_Machine_write S I (vMc v) (.int .i64 t) (vAc ⟨if wl then 4 else 3, i, o1, w⟩) h R := by
  cases wl with
  | true =>
    unfold F_machine_Machine_write
    have c := Cx.start0 h
    refine c.nv (cs := [_, _, _, _, _, _, _]) rfl rfl fun m3_ _ c => ?_
    replace c : Cx _ _ _ [_] := c
    refine c.nv (cs := [_, _, _, _, _, _, _, _]) rfl rfl fun a5_ _ c => ?_
    replace c : Cx _ _ _ [_, _] := c
    refine c.nv (cs := [_, _, _, _, _, _, _]) rfl rfl fun v6_ _ c => ?_
    replace c : Cx _ _ _ [_, _, _] := c
    refine c.nv (cs := [_, _, _, _]) rfl rfl fun v7_ _ c => ?_
    replace c : Cx _ _ _ [_, _, _, _] := c
    refine En.vb (bldS_ok (ds := [_, _, _, _]) rfl) ?_
    refine c.nv (cs := [_, _, _, _]) rfl rfl fun g8_ _ c => ?_
    replace c : Cx _ _ _ [_, _, _, _, _] := c
    refine c.vw 4 rfl (vs := [_, _, _, _]) (by exact rfl) (by exact rfl) (by exact rfl) (by exact rfl) fun _ c => ?_
    replace c : Cx _ _ _ [_, _, _, _, _] := c
    refine .here ?_
    refine En.vb (fa_add _ _ _) ?_
    refine En.vb (c.vc (i := 1) rfl rfl) ?_
    refine En.vb (v := .bool false) rfl ?_
    refine brf ?_
    refine En.vb (fa_add _ _ _) ?_
    refine En.vb (c.vp (i := 0) (ds := [_, _]) rfl rfl rfl) ?_
    refine En.vb (fa_add _ _ _) ?_
    refine En.vb (c.vc (i := 1) rfl rfl) ?_
    refine En.vb (fa_add _ _ _) ?_
    refine En.vb (c.vp (i := 1) (ds := [_, _, _]) rfl rfl rfl) ?_
    refine En.vb (fa_add _ _ _) ?_
    refine En.vb (c.vc (i := 1) rfl rfl) ?_
    refine En.vb (v := .bool true) rfl ?_
    refine cs.Store (x := v.x) (w := w) (B.up b0 c.gr) H.me k.me hb ht hi fun x' M _ d ok => ?_
    have c := c.frame0 d
    replace c : Cx _ _ _ [_, _, _, _, _, _] := c
    refine En.vb rfl ?_
    refine En.vb rfl ?_
    refine En.vb (fa_add _ _ _) ?_
    refine c.vq 0 rfl (vs := [_, _]) (ds := [_, _, _, _, _, _, _]) (by exact rfl) (by exact rfl) (by exact rfl) (by exact rfl) (by exact rfl) fun _ c => ?_
    replace c : Cx _ _ _ [_, _, _, _, _, _] := c
    refine .here ?_
    refine En.vb (fa_add _ _ _) ?_
    refine En.vb (c.vc (i := 4) rfl rfl) ?_
    refine brt ?_
    refine En.vb (fa_add _ _ _) ?_
    refine En.vb (c.vp (i := 0) (ds := [_, _, _]) rfl rfl rfl) ?_
    refine En.vb (fa_add _ _ _) ?_
    refine En.vb (c.vc (i := 1) rfl rfl) ?_
    refine En.vb (fa_add _ _ _) ?_
    refine En.vb (c.vp (i := 1) (ds := [_, _, _]) rfl rfl rfl) ?_
    refine cs.lStore (y := v.y) (w := w) (B.up b0 c.gr) H.li k.li hb hi fun y' N _ d ok2 => ?_
    have c := c.frame0 d
    replace c : Cx _ _ _ [_, _, _, _, _, _, _] := c
    refine En.vb rfl ?_
    refine En.vb rfl ?_
    refine En.vb (fa_add _ _ _) ?_
    refine c.vq 0 rfl (vs := [_, _, _]) (ds := [_, _, _, _, _, _, _]) (by exact rfl) (by exact rfl) (by exact rfl) (by exact rfl) (by exact rfl) fun _ c => ?_
    replace c : Cx _ _ _ [_, _, _, _, _, _, _] := c
    refine En.vb (c.vl (i := 0) rfl rfl) ?_
    refine En.vb (c.vl (i := 4) rfl rfl) ?_
    refine c.vw 2 rfl (vs := [_, _, _, _, _, _, _]) (by exact rfl) (by exact rfl) (by exact rfl) (by exact rfl) fun _ c => ?_
    replace c : Cx _ _ _ [_, _, _, _, _, _, _] := c
    refine And.intro (c.vl (i := 4) rfl rfl) ?_
    refine c.vw 3 rfl (vs := [_, _, _, _]) (by exact rfl) (by exact rfl) (by exact rfl) (by exact rfl) fun _ c => ?_
    replace c : Cx _ _ _ [_, _, _, _, _, _, _] := c
    refine En.vb (c.vl (i := 2) rfl rfl) ?_
    refine En.vb (c.vl (i := 3) rfl rfl) ?_
    exact hR { v with x := x', y := y' } [rStar M, rStar N] _ (Cx.pack (L := []) (c.pick [5, 6])) (let H' := H.le (Bs.le_and B [rStar M, rStar N]); ⟨ok.le fun h b => ⟨b.1, Bs.star b (i := 0) rfl⟩, ok2.le fun h b => ⟨b.1, Bs.star b (i := 1) rfl⟩, H'.st⟩)
  | false =>
    unfold F_machine_Machine_write
    have c := Cx.start0 h
    refine c.nv (cs := [_, _, _, _, _, _, _]) rfl rfl fun m3_ _ c => ?_
    replace c : Cx _ _ _ [_] := c
    refine c.nv (cs := [_, _, _, _, _, _, _, _]) rfl rfl fun a5_ _ c => ?_
    replace c : Cx _ _ _ [_, _] := c
    refine c.nv (cs := [_, _, _, _, _, _, _]) rfl rfl fun v6_ _ c => ?_
    replace c : Cx _ _ _ [_, _, _] := c
    refine c.nv (cs := [_, _, _, _]) rfl rfl fun v7_ _ c => ?_
    replace c : Cx _ _ _ [_, _, _, _] := c
    refine En.vb (bldS_ok (ds := [_, _, _, _]) rfl) ?_
    refine c.nv (cs := [_, _, _, _]) rfl rfl fun g8_ _ c => ?_
    replace c : Cx _ _ _ [_, _, _, _, _] := c
    refine c.vw 4 rfl (vs := [_, _, _, _]) (by exact rfl) (by exact rfl) (by exact rfl) (by exact rfl) fun _ c => ?_
    replace c : Cx _ _ _ [_, _, _, _, _] := c
    refine .here ?_
    refine En.vb (fa_add _ _ _) ?_
    refine En.vb (c.vc (i := 1) rfl rfl) ?_
    refine En.vb (v := .bool false) rfl ?_
    refine brf ?_
    refine En.vb (fa_add _ _ _) ?_
    refine En.vb (c.vp (i := 0) (ds := [_, _]) rfl rfl rfl) ?_
    refine En.vb (fa_add _ _ _) ?_
    refine En.vb (c.vc (i := 1) rfl rfl) ?_
    refine En.vb (fa_add _ _ _) ?_
    refine En.vb (c.vp (i := 1) (ds := [_, _, _]) rfl rfl rfl) ?_
    refine En.vb (fa_add _ _ _) ?_
    refine En.vb (c.vc (i := 1) rfl rfl) ?_
    refine En.vb (v := .bool false) rfl ?_
    refine cs.Store (x := v.x) (w := w) (B.up b0 c.gr) H.me k.me hb ht hi fun x' M _ d ok => ?_
    have c := c.frame0 d
    replace c : Cx _ _ _ [_, _, _, _, _, _] := c
    refine En.vb rfl ?_
    refine En.vb rfl ?_
    refine En.vb (fa_add _ _ _) ?_
    refine c.vq 0 rfl (vs := [_, _]) (ds := [_, _, _, _, _, _, _]) (by exact rfl) (by exact rfl) (by exact rfl) (by exact rfl) (by exact rfl) fun _ c => ?_
    replace c : Cx _ _ _ [_, _, _, _, _, _] := c
    refine .here ?_
    refine En.vb (fa_add _ _ _) ?_
    refine En.vb (c.vc (i := 4) rfl rfl) ?_
    refine brt ?_
    refine En.vb (fa_add _ _ _) ?_
    refine En.vb (c.vp (i := 0) (ds := [_, _, _]) rfl rfl rfl) ?_
    refine En.vb (fa_add _ _ _) ?_
    refine En.vb (c.vc (i := 1) rfl rfl) ?_
    refine En.vb (fa_add _ _ _) ?_
    refine En.vb (c.vp (i := 1) (ds := [_, _, _]) rfl rfl rfl) ?_
    refine cs.lStore (y := v.y) (w := w) (B.up b0 c.gr) H.li k.li hb hi fun y' N _ d ok2 => ?_
    have c := c.frame0 d
    replace c : Cx _ _ _ [_, _, _, _, _, _, _] := c
    refine En.vb rfl ?_
    refine En.vb rfl ?_
    refine En.vb (fa_add _ _ _) ?_
    refine c.vq 0 rfl (vs := [_, _, _]) (ds := [_, _, _, _, _, _, _]) (by exact rfl) (by exact rfl) (by exact rfl) (by exact rfl) (by exact rfl) fun _ c => ?_
    replace c : Cx _ _ _ [_, _, _, _, _, _, _] := c
    refine En.vb (c.vl (i := 0) rfl rfl) ?_
    refine En.vb (c.vl (i := 4) rfl rfl) ?_
    refine c.vw 2 rfl (vs := [_, _, _, _, _, _, _]) (by exact rfl) (by exact rfl) (by exact rfl) (by exact rfl) fun _ c => ?_
    replace c : Cx _ _ _ [_, _, _, _, _, _, _] := c
    refine And.intro (c.vl (i := 4) rfl rfl) ?_
    refine c.vw 3 rfl (vs := [_, _, _, _]) (by exact rfl) (by exact rfl) (by exact rfl) (by exact rfl) fun _ c => ?_
    replace c : Cx _ _ _ [_, _, _, _, _, _, _] := c
    refine En.vb (c.vl (i := 2) rfl rfl) ?_
    refine En.vb (c.vl (i := 3) rfl rfl) ?_
    exact hR { v with x := x', y := y' } [rStar M, rStar N] _ (Cx.pack (L := []) (c.pick [5, 6])) (let H' := H.le (Bs.le_and B [rStar M, rStar N]); ⟨ok.le fun h b => ⟨b.1, Bs.star b (i := 0) rfl⟩, ok2.le fun h b => ⟨b.1, Bs.star b (i := 1) rfl⟩, H'.st⟩)
structure CnC (S : Sys) (I : Ids) : Prop extends CnB S I where
  kWord : ∀ {B : Bs} {T n b i : Nat} {v : MV} {m : Mc} {h R}, B.p h → KO B T v m → Kk T n b m → b ≤ 1000000 → i < n → (∀ h', Gr h h' → R (.tuple #[mW (m.me.top i).w, .bool true]) h') → S.C I.f_machine_Machine_Word [vMc v, .int .i64 i] h R
  kcheck : ∀ {B : Bs} {T n b t : Nat} {v : MV} {m : Mc} {a : Ac} {h R}, B.p h → KO B T v m → Kk T n b m → (1 ≤ t ∧ t ≤ T) → (0 ≤ a.op ∧ a.op ≤ 8) → (a.op ≠ 0 → a.op ≠ 8 → 0 ≤ a.at' ∧ a.at' < n) → (∀ h', Gr h h' → R (.int .i64 0) h') → S.C I.f_machine_Machine_check [vMc v, .int .i64 t, vAc a] h R
  kchg : ∀ {a : Ac} {r : Bool} {h} {R : Value → Hp → Prop}, r = decide (a.op = 3 ∨ a.op = 4 ∨ a.op = 6) → (∀ h', Gr h h' → R (.bool r) h') → S.C I.f_machine_Changes [vAc a] h R
  kread : ∀ {B : Bs} {T n b t i : Nat} {v : MV} {m : Mc} {o1 o2 : W3} {ch : Value} {h R}, B.p h → KO B T v m → Kk T n b m → b ≤ 1000000 → (1 ≤ t ∧ t ≤ T) → i < n → (∀ v', Rt B h (fun B => KO B T v' (m.look t i)) fun h' => R (.tuple #[vMc v', vGo ⟨(m.me.top i).w, true⟩]) h') → S.C I.f_machine_Machine_read [vMc v, .int .i64 t, vAc ⟨5, i, o1, o2⟩, ch] h R
  kswap : ∀ {B : Bs} {T n b t i : Nat} {v : MV} {m : Mc} {old new : W3} {h R}, B.p h → KO B T v m → Kk T n b m → b ≤ 900000 → (1 ≤ t ∧ t ≤ T) → i < n → (∀ v', Rt B h (fun B => KO B T v' (m.swap t i old new)) fun h' => R (.tuple #[vMc v', vGo ⟨(m.me.top i).w, decide ((m.me.top i).w = old)⟩]) h') → S.C I.f_machine_Machine_write [vMc v, .int .i64 t, vAc ⟨6, i, old, new⟩] h R
  kput : ∀ {B : Bs} {T n b t i : Nat} {v : MV} {m : Mc} {w o1 : W3} {wl : Bool} {h R}, B.p h → KO B T v m → Kk T n b m → b ≤ 900000 → (1 ≤ t ∧ t ≤ T) → i < n → (∀ v', Rt B h (fun B => KO B T v' (m.put t i w wl)) fun h' => R (.tuple #[vMc v', vGo ⟨W0, true⟩]) h') → S.C I.f_machine_Machine_write [vMc v, .int .i64 t, vAc ⟨if wl then 4 else 3, i, o1, w⟩] h R
/-- an act -/
inductive Ak where
  | rest
  | look (i : Nat)
  | swap (i : Nat) (old new : W3)
  | put (i : Nat) (w : W3) (wl : Bool)
def Ak.ac : Ak → Ac
  | .rest => Ac0
  | .look i => ⟨5, i, W0, W0⟩
  | .swap i old new => ⟨6, i, old, new⟩
  | .put i w wl => ⟨if wl then 4 else 3, i, W0, w⟩
def Ak.ok (n : Nat) : Ak → Prop
  | .rest => True
  | .look i => i < n
  | .swap i _ _ => i < n
  | .put i _ _ => i < n
def Mc.act (m : Mc) (t : Nat) : Ak → Mc × Go4
  | .rest => (m, ⟨W0, true⟩)
  | .look i => (m.look t i, ⟨(m.me.top i).w, true⟩)
  | .swap i old new => (m.swap t i old new, ⟨(m.me.top i).w, decide ((m.me.top i).w = old)⟩)
  | .put i w wl => (m.put t i w wl, ⟨W0, true⟩)
theorem Kk.act {k : Ak} (K : Kk T n b m) (hk : k.ok n) : Kk T n (b + 1) (m.act t k).1 := by
  cases k with
  | rest => exact K.up (Nat.le_succ _)
  | look i => exact K.look.up (Nat.le_succ _)
  | swap i old new => exact K.swap hk
  | put i w wl => exact K.put hk
theorem K_kDo (cs : CnC S I) (b0 : B.p h) (H : KO B T v m) (k : Kk T n b m) (hb : b ≤ 900000) (ht : 1 ≤ t ∧ t ≤ T) {a : Ak} (ha : a.ok n) {ch : Value} (hR : ∀ v', Rt B h (fun B => KO B T v' (m.act t a).1) fun h' => R (.tuple #[vMc v', vGo (m.act t a).2, .int .i64 0]) h') : F_machine_Machine_Do S I (vMc v) (.int .i64 t) (vAc a.ac) ch h R := by
  obtain ⟨ss, hs, hl⟩ := H.st
  have hle := k.me.le
  have hx := List.getElem?_eq_getElem (l := ss) (i := t - 1) (by omega)
  generalize ss[t - 1]'(by omega) = z at hx
  have et : ((t : Nat) : Int) - 1 = ((t - 1 : Nat) : Int) := by omega
  cases a with
  | rest =>
    unfold F_machine_Machine_Do
    have c := Cx.start0 h
    refine c.nv (cs := [_, _, _, _, _, _, _]) rfl rfl fun m4_ _ c => ?_
    replace c : Cx _ _ _ [_] := c
    refine c.nv (cs := [_, _, _, _, _, _, _, _]) rfl rfl fun a6_ _ c => ?_
    replace c : Cx _ _ _ [_, _] := c
    refine c.nv (cs := [_, _, _, _, _, _, _]) rfl rfl fun v8_ _ c => ?_
    replace c : Cx _ _ _ [_, _, _] := c
    refine c.nv (cs := [_, _, _, _]) rfl rfl fun v9_ _ c => ?_
    replace c : Cx _ _ _ [_, _, _, _] := c
    refine En.vb (c.vl (i := 0) rfl rfl) ?_
    refine En.vb (c.vl (i := 1) rfl rfl) ?_
    refine cs.kcheck (v := v) (a := Ac0) (B.up b0 c.gr) H k ht ⟨by decide, by decide⟩ (fun e => absurd rfl e) fun _ g => ?_
    have c := c.more g
    replace c : Cx _ _ _ [_, _, _, _] := c
    refine En.vb (v := .bool false) rfl ?_
    refine brf ?_
    refine En.vb (bldS_ok (ds := [_, _, _, _]) rfl) ?_
    refine c.nv (cs := [_, _, _, _]) rfl rfl fun g12_ _ c => ?_
    replace c : Cx _ _ _ [_, _, _, _, _] := c
    refine c.vw 4 rfl (vs := [_, _, _, _]) (by exact rfl) (by exact rfl) (by exact rfl) (by exact rfl) fun _ c => ?_
    replace c : Cx _ _ _ [_, _, _, _, _] := c
    refine .here ?_
    refine En.vb (c.vl (i := 1) rfl rfl) ?_
    refine cs.kchg (a := Ac0) (r := false) rfl fun _ g => ?_
    have c := c.more g
    replace c : Cx _ _ _ [_, _, _, _, _] := c
    refine brf ?_
    refine En.vb (fa_add _ _ _) ?_
    refine En.vb (c.vc (i := 1) rfl rfl) ?_
    refine En.vb (v := .bool false) rfl ?_
    refine brf ?_
    refine En.vb (fa_add _ _ _) ?_
    refine En.vb (c.vc (i := 1) rfl rfl) ?_
    refine En.vb (v := .bool false) rfl ?_
    refine brf ?_
    refine En.vb (fa_add _ _ _) ?_
    refine En.vb (c.vc (i := 1) rfl rfl) ?_
    refine En.vb (v := .bool false) rfl ?_
    refine brf ?_
    refine En.vb (fa_add _ _ _) ?_
    refine En.vb (c.vc (i := 0) rfl rfl) ?_
    refine cs.cloneI (hs _ (B.up b0 c.gr)) (by omega) fun s' _ d => ?_
    have c := c.frame0 d
    replace c : Cx _ _ _ [_, _, _, _, _, _] := c
    refine En.vb (fa_add _ _ _) ?_
    refine c.vq 0 rfl (vs := [_]) (ds := [_, _, _, _, _, _, _]) (by exact rfl) (by exact rfl) (by exact rfl) (by exact rfl) (by exact rfl) fun _ c => ?_
    replace c : Cx _ _ _ [_, _, _, _, _, _] := c
    refine En.vb (fa_add _ _ _) ?_
    refine En.vb (c.vc (i := 0) rfl rfl) ?_
    refine En.vb (subI ⟨by omega, by omega⟩) ?_
    rw [et]
    obtain ⟨r, o, cap, el, ei, row⟩ := (c.sl (i := 5) rfl).ix hx (n := 1) rfl (k := .i64) (z := ((t - 1 : Nat) : Int)) rfl
    refine En.vb ei ?_
    refine En.vb (row.ldc0 rfl) ?_
    refine En.vb (bin_addw _ _) ?_
    refine c.seti 5 rfl (j := t - 1) (by omega) (w64 (z + 1)) rfl rfl rfl fun _ c => ?_
    replace c : Cx _ _ _ [_, _, _, _, _, _] := c
    refine En.vb (c.vl (i := 0) rfl rfl) ?_
    refine En.vb (c.vl (i := 4) rfl rfl) ?_
    refine c.vw 2 rfl (vs := [_, _, _, _, _, _, _]) (by exact rfl) (by exact rfl) (by exact rfl) (by exact rfl) fun _ c => ?_
    replace c : Cx _ _ _ [_, _, _, _, _, _] := c
    refine And.intro (c.vl (i := 4) rfl rfl) ?_
    refine c.vw 3 rfl (vs := [_, _, _, _]) (by exact rfl) (by exact rfl) (by exact rfl) (by exact rfl) fun _ c => ?_
    replace c : Cx _ _ _ [_, _, _, _, _, _] := c
    refine En.vb (c.vl (i := 2) rfl rfl) ?_
    refine En.vb (c.vl (i := 3) rfl rfl) ?_
    exact hR { v with s := s' } [rSl EI1 (shV s') (ss.set (t - 1) (w64 (z + 1)))] _ (Cx.pack (L := []) (c.pick [5])) (let H' := H.le (Bs.le_and B _); ⟨H'.me, H'.li, _, On.sl (i := 0) rfl, by rw [List.length_set]; exact hl⟩)
  | look i =>
    unfold F_machine_Machine_Do
    have c := Cx.start0 h
    refine c.nv (cs := [_, _, _, _, _, _, _]) rfl rfl fun m4_ _ c => ?_
    replace c : Cx _ _ _ [_] := c
    refine c.nv (cs := [_, _, _, _, _, _, _, _]) rfl rfl fun a6_ _ c => ?_
    replace c : Cx _ _ _ [_, _] := c
    refine c.nv (cs := [_, _, _, _, _, _, _]) rfl rfl fun v8_ _ c => ?_
    replace c : Cx _ _ _ [_, _, _] := c
    refine c.nv (cs := [_, _, _, _]) rfl rfl fun v9_ _ c => ?_
    replace c : Cx _ _ _ [_, _, _, _] := c
    refine En.vb (c.vl (i := 0) rfl rfl) ?_
    refine En.vb (c.vl (i := 1) rfl rfl) ?_
    refine cs.kcheck (v := v) (a := ⟨5, i, W0, W0⟩) (B.up b0 c.gr) H k ht ⟨by dsimp only; decide, by dsimp only; decide⟩ (fun _ _ => ⟨Int.natCast_nonneg i, Int.ofNat_lt.2 ha⟩) fun _ g => ?_
    have c := c.more g
    replace c : Cx _ _ _ [_, _, _, _] := c
    refine En.vb (v := .bool false) rfl ?_
    refine brf ?_
    refine En.vb (bldS_ok (ds := [_, _, _, _]) rfl) ?_
    refine c.nv (cs := [_, _, _, _]) rfl rfl fun g12_ _ c => ?_
    replace c : Cx _ _ _ [_, _, _, _, _] := c
    refine c.vw 4 rfl (vs := [_, _, _, _]) (by exact rfl) (by exact rfl) (by exact rfl) (by exact rfl) fun _ c => ?_
    replace c : Cx _ _ _ [_, _, _, _, _] := c
    refine .here ?_
    refine En.vb (c.vl (i := 1) rfl rfl) ?_
    refine cs.kchg (a := ⟨5, i, W0, W0⟩) (r := false) rfl fun _ g => ?_
    have c := c.more g
    replace c : Cx _ _ _ [_, _, _, _, _] := c
    refine brf ?_
    refine En.vb (fa_add _ _ _) ?_
    refine En.vb (c.vc (i := 1) rfl rfl) ?_
    refine En.vb (v := .bool false) rfl ?_
    refine brf ?_
    refine En.vb (fa_add _ _ _) ?_
    refine En.vb (c.vc (i := 1) rfl rfl) ?_
    refine En.vb (v := .bool false) rfl ?_
    refine brf ?_
    refine En.vb (fa_add _ _ _) ?_
    refine En.vb (c.vc (i := 1) rfl rfl) ?_
    refine En.vb (v := .bool true) rfl ?_
    refine brt ?_
    refine En.vb (c.vl (i := 0) rfl rfl) ?_
    refine En.vb (c.vl (i := 1) rfl rfl) ?_
    refine cs.kread (v := v) (B.up b0 c.gr) H k (by omega) ht ha fun v' M _ d ok => ?_
    have c := c.frame0 d
    obtain ⟨ss, hs, hl⟩ := ok.st
    have hx := List.getElem?_eq_getElem (l := ss) (i := t - 1) (by omega)
    generalize ss[t - 1]'(by omega) = z at hx
    replace c : Cx _ _ _ [_, _, _, _, _, _] := c
    refine En.vb rfl ?_
    refine En.vb rfl ?_
    refine c.vw 0 rfl (vs := [_, _, _, _, _, _, _]) (by exact rfl) (by exact rfl) (by exact rfl) (by exact rfl) fun _ c => ?_
    replace c : Cx _ _ _ [_, _, _, _, _, _] := c
    refine c.vw 4 rfl (vs := [_, _, _, _]) (by exact rfl) (by exact rfl) (by exact rfl) (by exact rfl) fun _ c => ?_
    replace c : Cx _ _ _ [_, _, _, _, _, _] := c
    refine En.vb (fa_add _ _ _) ?_
    refine En.vb (c.vc (i := 0) rfl rfl) ?_
    refine cs.cloneI (hs _ ⟨B.up b0 c.gr, c.get (i := 5) rfl⟩) (by omega) fun s' _ d => ?_
    have c := c.frame0 d
    replace c : Cx _ _ _ [_, _, _, _, _, _, _] := c
    refine En.vb (fa_add _ _ _) ?_
    refine c.vq 0 rfl (vs := [_]) (ds := [_, _, _, _, _, _, _]) (by exact rfl) (by exact rfl) (by exact rfl) (by exact rfl) (by exact rfl) fun _ c => ?_
    replace c : Cx _ _ _ [_, _, _, _, _, _, _] := c
    refine En.vb (fa_add _ _ _) ?_
    refine En.vb (c.vc (i := 0) rfl rfl) ?_
    refine En.vb (subI ⟨by omega, by omega⟩) ?_
    rw [et]
    obtain ⟨r, o, cap, el, ei, row⟩ := (c.sl (i := 6) rfl).ix hx (n := 1) rfl (k := .i64) (z := ((t - 1 : Nat) : Int)) rfl
    refine En.vb ei ?_
    refine En.vb (row.ldc0 rfl) ?_
    refine En.vb (bin_addw _ _) ?_
    refine c.seti 6 rfl (j := t - 1) (by omega) (w64 (z + 1)) rfl rfl rfl fun _ c => ?_
    replace c : Cx _ _ _ [_, _, _, _, _, _, _] := c
    refine En.vb (c.vl (i := 0) rfl rfl) ?_
    refine En.vb (c.vl (i := 4) rfl rfl) ?_
    refine c.vw 2 rfl (vs := [_, _, _, _, _, _, _]) (by exact rfl) (by exact rfl) (by exact rfl) (by exact rfl) fun _ c => ?_
    replace c : Cx _ _ _ [_, _, _, _, _, _, _] := c
    refine And.intro (c.vl (i := 4) rfl rfl) ?_
    refine c.vw 3 rfl (vs := [_, _, _, _]) (by exact rfl) (by exact rfl) (by exact rfl) (by exact rfl) fun _ c => ?_
    replace c : Cx _ _ _ [_, _, _, _, _, _, _] := c
    refine En.vb (c.vl (i := 2) rfl rfl) ?_
    refine En.vb (c.vl (i := 3) rfl rfl) ?_
    exact hR { v' with s := s' } [rStar M, rSl EI1 (shV s') (ss.set (t - 1) (w64 (z + 1)))] _ (Cx.pack (L := []) (c.pick [5, 6])) (let H' := ok.le (B' := B.and [rStar M, rSl EI1 (shV s') (ss.set (t - 1) (w64 (z + 1)))]) fun h b => ⟨b.1, Bs.star b (i := 0) rfl⟩; ⟨H'.me, H'.li, _, On.sl (i := 1) rfl, by rw [List.length_set]; exact hl⟩)
  | swap i old new =>
    unfold F_machine_Machine_Do
    have c := Cx.start0 h
    refine c.nv (cs := [_, _, _, _, _, _, _]) rfl rfl fun m4_ _ c => ?_
    replace c : Cx _ _ _ [_] := c
    refine c.nv (cs := [_, _, _, _, _, _, _, _]) rfl rfl fun a6_ _ c => ?_
    replace c : Cx _ _ _ [_, _] := c
    refine c.nv (cs := [_, _, _, _, _, _, _]) rfl rfl fun v8_ _ c => ?_
    replace c : Cx _ _ _ [_, _, _] := c
    refine c.nv (cs := [_, _, _, _]) rfl rfl fun v9_ _ c => ?_
    replace c : Cx _ _ _ [_, _, _, _] := c
    refine En.vb (c.vl (i := 0) rfl rfl) ?_
    refine En.vb (c.vl (i := 1) rfl rfl) ?_
    refine cs.kcheck (v := v) (a := ⟨6, i, old, new⟩) (B.up b0 c.gr) H k ht ⟨by dsimp only; decide, by dsimp only; decide⟩ (fun _ _ => ⟨Int.natCast_nonneg i, Int.ofNat_lt.2 ha⟩) fun _ g => ?_
    have c := c.more g
    replace c : Cx _ _ _ [_, _, _, _] := c
    refine En.vb (v := .bool false) rfl ?_
    refine brf ?_
    refine En.vb (bldS_ok (ds := [_, _, _, _]) rfl) ?_
    refine c.nv (cs := [_, _, _, _]) rfl rfl fun g12_ _ c => ?_
    replace c : Cx _ _ _ [_, _, _, _, _] := c
    refine c.vw 4 rfl (vs := [_, _, _, _]) (by exact rfl) (by exact rfl) (by exact rfl) (by exact rfl) fun _ c => ?_
    replace c : Cx _ _ _ [_, _, _, _, _] := c
    refine .here ?_
    refine En.vb (c.vl (i := 1) rfl rfl) ?_
    refine cs.kchg (a := ⟨6, i, old, new⟩) (r := true) rfl fun _ g => ?_
    have c := c.more g
    replace c : Cx _ _ _ [_, _, _, _, _] := c
    refine brt ?_
    refine En.vb (c.vl (i := 0) rfl rfl) ?_
    refine En.vb (c.vl (i := 1) rfl rfl) ?_
    refine cs.kswap (v := v) (B.up b0 c.gr) H k hb ht ha fun v' M _ d ok => ?_
    have c := c.frame0 d
    obtain ⟨ss, hs, hl⟩ := ok.st
    have hx := List.getElem?_eq_getElem (l := ss) (i := t - 1) (by omega)
    generalize ss[t - 1]'(by omega) = z at hx
    replace c : Cx _ _ _ [_, _, _, _, _, _] := c
    refine En.vb rfl ?_
    refine En.vb rfl ?_
    refine c.vw 0 rfl (vs := [_, _, _, _, _, _, _]) (by exact rfl) (by exact rfl) (by exact rfl) (by exact rfl) fun _ c => ?_
    replace c : Cx _ _ _ [_, _, _, _, _, _] := c
    refine c.vw 4 rfl (vs := [_, _, _, _]) (by exact rfl) (by exact rfl) (by exact rfl) (by exact rfl) fun _ c => ?_
    replace c : Cx _ _ _ [_, _, _, _, _, _] := c
    refine En.vb (fa_add _ _ _) ?_
    refine En.vb (c.vc (i := 0) rfl rfl) ?_
    refine cs.cloneI (hs _ ⟨B.up b0 c.gr, c.get (i := 5) rfl⟩) (by omega) fun s' _ d => ?_
    have c := c.frame0 d
    replace c : Cx _ _ _ [_, _, _, _, _, _, _] := c
    refine En.vb (fa_add _ _ _) ?_
    refine c.vq 0 rfl (vs := [_]) (ds := [_, _, _, _, _, _, _]) (by exact rfl) (by exact rfl) (by exact rfl) (by exact rfl) (by exact rfl) fun _ c => ?_
    replace c : Cx _ _ _ [_, _, _, _, _, _, _] := c
    refine En.vb (fa_add _ _ _) ?_
    refine En.vb (c.vc (i := 0) rfl rfl) ?_
    refine En.vb (subI ⟨by omega, by omega⟩) ?_
    rw [et]
    obtain ⟨r, o, cap, el, ei, row⟩ := (c.sl (i := 6) rfl).ix hx (n := 1) rfl (k := .i64) (z := ((t - 1 : Nat) : Int)) rfl
    refine En.vb ei ?_
    refine En.vb (row.ldc0 rfl) ?_
    refine En.vb (bin_addw _ _) ?_
    refine c.seti 6 rfl (j := t - 1) (by omega) (w64 (z + 1)) rfl rfl rfl fun _ c => ?_
    replace c : Cx _ _ _ [_, _, _, _, _, _, _] := c
    refine En.vb (c.vl (i := 0) rfl rfl) ?_
    refine En.vb (c.vl (i := 4) rfl rfl) ?_
    refine c.vw 2 rfl (vs := [_, _, _, _, _, _, _]) (by exact rfl) (by exact rfl) (by exact rfl) (by exact rfl) fun _ c => ?_
    replace c : Cx _ _ _ [_, _, _, _, _, _, _] := c
    refine And.intro (c.vl (i := 4) rfl rfl) ?_
    refine c.vw 3 rfl (vs := [_, _, _, _]) (by exact rfl) (by exact rfl) (by exact rfl) (by exact rfl) fun _ c => ?_
    replace c : Cx _ _ _ [_, _, _, _, _, _, _] := c
    refine En.vb (c.vl (i := 2) rfl rfl) ?_
    refine En.vb (c.vl (i := 3) rfl rfl) ?_
    exact hR { v' with s := s' } [rStar M, rSl EI1 (shV s') (ss.set (t - 1) (w64 (z + 1)))] _ (Cx.pack (L := []) (c.pick [5, 6])) (let H' := ok.le (B' := B.and [rStar M, rSl EI1 (shV s') (ss.set (t - 1) (w64 (z + 1)))]) fun h b => ⟨b.1, Bs.star b (i := 0) rfl⟩; ⟨H'.me, H'.li, _, On.sl (i := 1) rfl, by rw [List.length_set]; exact hl⟩)
  | put i w wl =>
    have ho : (0 : Int) ≤ (Ak.put i w wl).ac.op ∧ (Ak.put i w wl).ac.op ≤ 8 := by cases wl <;> (dsimp only [Ak.ac]; decide)
    have hc : true = decide ((Ak.put i w wl).ac.op = 3 ∨ (Ak.put i w wl).ac.op = 4 ∨ (Ak.put i w wl).ac.op = 6) := by cases wl <;> rfl
    unfold F_machine_Machine_Do
    have c := Cx.start0 h
    refine c.nv (cs := [_, _, _, _, _, _, _]) rfl rfl fun m4_ _ c => ?_
    replace c : Cx _ _ _ [_] := c
    refine c.nv (cs := [_, _, _, _, _, _, _, _]) rfl rfl fun a6_ _ c => ?_
    replace c : Cx _ _ _ [_, _] := c
    refine c.nv (cs := [_, _, _, _, _, _, _]) rfl rfl fun v8_ _ c => ?_
    replace c : Cx _ _ _ [_, _, _] := c
    refine c.nv (cs := [_, _, _, _]) rfl rfl fun v9_ _ c => ?_
    replace c : Cx _ _ _ [_, _, _, _] := c
    refine En.vb (c.vl (i := 0) rfl rfl) ?_
    refine En.vb (c.vl (i := 1) rfl rfl) ?_
    refine cs.kcheck (v := v) (a := (Ak.put i w wl).ac) (B.up b0 c.gr) H k ht ho (fun _ _ => ⟨Int.natCast_nonneg i, Int.ofNat_lt.2 ha⟩) fun _ g => ?_
    have c := c.more g
    replace c : Cx _ _ _ [_, _, _, _] := c
    refine En.vb (v := .bool false) rfl ?_
    refine brf ?_
    refine En.vb (bldS_ok (ds := [_, _, _, _]) rfl) ?_
    refine c.nv (cs := [_, _, _, _]) rfl rfl fun g12_ _ c => ?_
    replace c : Cx _ _ _ [_, _, _, _, _] := c
    refine c.vw 4 rfl (vs := [_, _, _, _]) (by exact rfl) (by exact rfl) (by exact rfl) (by exact rfl) fun _ c => ?_
    replace c : Cx _ _ _ [_, _, _, _, _] := c
    refine .here ?_
    refine En.vb (c.vl (i := 1) rfl rfl) ?_
    refine cs.kchg (a := (Ak.put i w wl).ac) (r := true) hc fun _ g => ?_
    have c := c.more g
    replace c : Cx _ _ _ [_, _, _, _, _] := c
    refine brt ?_
    refine En.vb (c.vl (i := 0) rfl rfl) ?_
    refine En.vb (c.vl (i := 1) rfl rfl) ?_
    refine cs.kput (v := v) (w := w) (wl := wl) (B.up b0 c.gr) H k hb ht ha fun v' M _ d ok => ?_
    have c := c.frame0 d
    obtain ⟨ss, hs, hl⟩ := ok.st
    have hx := List.getElem?_eq_getElem (l := ss) (i := t - 1) (by omega)
    generalize ss[t - 1]'(by omega) = z at hx
    replace c : Cx _ _ _ [_, _, _, _, _, _] := c
    refine En.vb rfl ?_
    refine En.vb rfl ?_
    refine c.vw 0 rfl (vs := [_, _, _, _, _, _, _]) (by exact rfl) (by exact rfl) (by exact rfl) (by exact rfl) fun _ c => ?_
    replace c : Cx _ _ _ [_, _, _, _, _, _] := c
    refine c.vw 4 rfl (vs := [_, _, _, _]) (by exact rfl) (by exact rfl) (by exact rfl) (by exact rfl) fun _ c => ?_
    replace c : Cx _ _ _ [_, _, _, _, _, _] := c
    refine En.vb (fa_add _ _ _) ?_
    refine En.vb (c.vc (i := 0) rfl rfl) ?_
    refine cs.cloneI (hs _ ⟨B.up b0 c.gr, c.get (i := 5) rfl⟩) (by omega) fun s' _ d => ?_
    have c := c.frame0 d
    replace c : Cx _ _ _ [_, _, _, _, _, _, _] := c
    refine En.vb (fa_add _ _ _) ?_
    refine c.vq 0 rfl (vs := [_]) (ds := [_, _, _, _, _, _, _]) (by exact rfl) (by exact rfl) (by exact rfl) (by exact rfl) (by exact rfl) fun _ c => ?_
    replace c : Cx _ _ _ [_, _, _, _, _, _, _] := c
    refine En.vb (fa_add _ _ _) ?_
    refine En.vb (c.vc (i := 0) rfl rfl) ?_
    refine En.vb (subI ⟨by omega, by omega⟩) ?_
    rw [et]
    obtain ⟨r, o, cap, el, ei, row⟩ := (c.sl (i := 6) rfl).ix hx (n := 1) rfl (k := .i64) (z := ((t - 1 : Nat) : Int)) rfl
    refine En.vb ei ?_
    refine En.vb (row.ldc0 rfl) ?_
    refine En.vb (bin_addw _ _) ?_
    refine c.seti 6 rfl (j := t - 1) (by omega) (w64 (z + 1)) rfl rfl rfl fun _ c => ?_
    replace c : Cx _ _ _ [_, _, _, _, _, _, _] := c
    refine En.vb (c.vl (i := 0) rfl rfl) ?_
    refine En.vb (c.vl (i := 4) rfl rfl) ?_
    refine c.vw 2 rfl (vs := [_, _, _, _, _, _, _]) (by exact rfl) (by exact rfl) (by exact rfl) (by exact rfl) fun _ c => ?_
    replace c : Cx _ _ _ [_, _, _, _, _, _, _] := c
    refine And.intro (c.vl (i := 4) rfl rfl) ?_
    refine c.vw 3 rfl (vs := [_, _, _, _]) (by exact rfl) (by exact rfl) (by exact rfl) (by exact rfl) fun _ c => ?_
    replace c : Cx _ _ _ [_, _, _, _, _, _, _] := c
    refine En.vb (c.vl (i := 2) rfl rfl) ?_
    refine En.vb (c.vl (i := 3) rfl rfl) ?_
    exact hR { v' with s := s' } [rStar M, rSl EI1 (shV s') (ss.set (t - 1) (w64 (z + 1)))] _ (Cx.pack (L := []) (c.pick [5, 6])) (let H' := ok.le (B' := B.and [rStar M, rSl EI1 (shV s') (ss.set (t - 1) (w64 (z + 1)))]) fun h b => ⟨b.1, Bs.star b (i := 0) rfl⟩; ⟨H'.me, H'.li, _, On.sl (i := 1) rfl, by rw [List.length_set]; exact hl⟩)
end
end Go.En
namespace Go.En

variable {S : Sys} {I : Ids} {h h0 h' : Hp} {F F0 : Fp} {R : Value → Hp → Prop} {L : List Res} {B B' : Bs}
section
variable {T : Nat} {w : W3} {ws : List W3} {v : SH}
theorem K_hNewO (hR : ∀ u h', Cx (fun _ => False) h h' [rSl EMs (shV u) [⟨w, 0, none⟩]] → R (vH u) h') : F_history_New S I (mW w) h R := by
  unfold F_history_New
  have c := Cx.start0 h
  refine c.nv (cs := [_, _, _]) rfl rfl fun w1_ _ c => ?_
  replace c : Cx _ _ _ [_] := c
  refine c.nv (cs := [_]) rfl rfl fun v2_ _ c => ?_
  replace c : Cx _ _ _ [_, _] := c
  refine En.vb (c.vl (i := 0) rfl rfl) ?_
  refine En.vb (bldS_ok (ds := [_, _, _, _, _]) rfl) ?_
  refine c.bsl1 EMs ⟨w, 0, none⟩ rfl rfl fun v _ c => ?_
  obtain ⟨u, rfl⟩ := (c.sl (i := 2) rfl).isH
  replace c : Cx _ _ _ [_, _, _] := c
  refine En.vb (bldS_ok (ds := [_]) rfl) ?_
  refine c.vw 1 rfl (vs := [_]) (by exact rfl) (by exact rfl) (by exact rfl) (by exact rfl) fun _ c => ?_
  replace c : Cx _ _ _ [_, _, _] := c
  refine En.vb (c.vl (i := 1) rfl rfl) ?_
  exact hR u _ (c.pick [2])
structure CoA (S : Sys) (I : Ids) : Prop extends CnC S I where
  hNewO : ∀ {w : W3} {h R}, (∀ u h', Cx (fun _ => False) h h' [rSl EMs (shV u) [⟨w, 0, none⟩]] → R (vH u) h') → S.C I.f_history_New [mW w] h R
/-- the memory in its beginning -/
def Me.new (T : Nat) (ws : List W3) : Me := ⟨ws.map fun w => [⟨w, fun _ => 0⟩], List.replicate T fun _ => 0⟩
theorem K_mNew (cs : CoA S I) (hs : Sl EW h (shV v) ws) (hT : 1 ≤ T ∧ T ≤ 8) (hw : 1 ≤ ws.length ∧ ws.length ≤ 4096) (hR : ∀ x M h', Cx (fun _ => False) h h' [rStar M] → (∀ B : Bs, MO (B.and M) x (Me.new T ws)) → R (.tuple #[vMm x, .int .i64 0]) h') : F_memory_New S I (.int .i64 T) (shV v) h R := by
  unfold F_memory_New
  have c := Cx.start0 h
  refine c.nv (cs := [_, _]) rfl rfl fun v4_ _ c => ?_
  replace c : Cx _ _ _ [_] := c
  refine .here ?_
  refine En.vb (k_ltF (by omega)) ?_
  refine brf ?_
  refine En.vb (k_gtF (by omega)) ?_
  refine brf ?_
  refine En.vb (hs.gr c.gr).ln ?_
  refine En.vb (k_eqF (by omega)) ?_
  refine brf ?_
  refine En.vb (hs.gr c.gr).ln ?_
  refine En.vb (k_gtF (by omega)) ?_
  refine brf ?_
  refine c.mksl EM none rfl rfl rfl (by omega) (by decide) fun ad _ c => ?_
  obtain ⟨uv, hu⟩ : ∃ uv : SH, shV uv = .slice (some ad) T T := ⟨(some ad, T, T), rfl⟩
  rw [← hu] at c ⊢
  replace c : Cx _ _ _ [_, _] := c
  refine En.vb (bldS_ok (ds := [_, _]) rfl) ?_
  refine c.nv (cs := [_, _]) rfl rfl fun m6_ _ c => ?_
  replace c : Cx _ _ _ [_, _, _] := c
  refine c.vw 2 rfl (vs := [_, _]) (by exact rfl) (by exact rfl) (by exact rfl) (by exact rfl) fun _ c => ?_
  replace c : Cx _ _ _ [_, _, _] := c
  refine En.vb (hs.gr c.gr).ln ?_
  refine Lp1.by (fun (i : Nat) z h' => z = .int .i64 i ∧ i ≤ ws.length ∧ ∃ u us M, us.length = i ∧ Cx (fun _ => False) h h' [rV v4_ cM0, rSl EM (shV uv) (List.replicate T none), rV m6_ [shV u, shV uv], rSl EH1 (shV u) us, rStar M] ∧ ∀ h'' F, (rStar M).P h'' F → ∀ j u w, us[j]? = some u → ws[j]? = some w → Sl EMs h'' (shV u) [⟨w, 0, none⟩]) (fun i => ws.length - i) 0 ⟨rfl, Nat.zero_le _, (none, 0, 0), ([] : List SH), ([] : List Res), rfl, Cx.pack (L := [_, _, _, _]) (M := []) ((c.nil EH1).pick [0, 1, 2, 3]), fun _ _ _ j u w hu => nil_get hu⟩ ?_
  rintro i _ h8 ⟨rfl, hi, u, us, M, hl, c, hM⟩ again hagain
  replace c : Cx _ _ _ [_, _, _, _, _] := c
  refine En.vb bin_lss ?_
  refine brd (fun e33 => ?_) fun e33 => ?_
  · obtain ⟨w, hw⟩ : ∃ w, ws[i]? = some w := ⟨_, List.getElem?_eq_getElem (by omega)⟩
    refine (hs.gr c.gr).whole rfl hw rfl ?_
    refine c.nv (cs := [_, _, _]) rfl rfl fun x8_ _ c => ?_
    replace c : Cx _ _ _ [_, _, _, _, _, _] := c
    refine c.vw 5 rfl (vs := [_, _, _]) (by exact rfl) (by exact rfl) (by exact rfl) (by exact rfl) fun _ c => ?_
    replace c : Cx _ _ _ [_, _, _, _, _, _] := c
    refine En.vb (fa_add _ _ _) ?_
    refine En.vb (c.vc (i := 2) rfl rfl) ?_
    refine En.vb (c.vl (i := 5) rfl rfl) ?_
    refine cs.hNewO fun u1 _ d => ?_
    have c := c.frame0 d
    replace c : Cx _ _ _ [_, _, _, _, _, _, _] := c
    refine And.intro (c.vc (i := 2) rfl rfl) ?_
    refine c.bsl1 EH1 u1 rfl rfl fun v40 _ c => ?_
    replace c : Cx _ _ _ [_, _, _, _, _, _, _, _] := c
    refine And.intro (c.vc (i := 2) rfl rfl) ?_
    refine c.ap 3 rfl (c.sl (i := 7) rfl).sl rfl rfl (by simp only [List.length_singleton]; omega) (by simp only [List.length_singleton]; omega) fun v41 _ c => ?_
    obtain ⟨u2, rfl⟩ := (c.sl (i := 3) rfl).isH
    replace c : Cx _ _ _ [_, _, _, _, _, _, _, _] := c
    refine En.vb (fa_add _ _ _) ?_
    refine c.vq 2 rfl (vs := [_]) (ds := [_, _]) (by exact rfl) (by exact rfl) (by exact rfl) (by exact rfl) (by exact rfl) fun _ c => ?_
    replace c : Cx _ _ _ [_, _, _, _, _, _, _, _] := c
    refine En.vb (inc (by omega)) ?_
    refine hagain (i + 1) _ _ ⟨rfl, by omega, u2, us ++ [u1], [rStar M, rSl EMs (shV u1) [⟨w, 0, none⟩]], by rw [List.length_append, List.length_singleton, hl], Cx.pack (L := [_, _, _, _]) (c.pick [0, 1, 2, 3, 4, 6]), fun h'' F p j u' w' hu' hw' => ?_⟩ (by omega)
    obtain ⟨F1, p1⟩ := (Cx.star p).get (i := 0) rfl
    obtain ⟨F2, p2⟩ := (Cx.star p).get (i := 1) rfl
    by_cases hj : j < us.length
    · rw [List.getElem?_append_left hj] at hu'
      exact hM h'' F1 p1 j u' w' hu' hw'
    · rw [List.getElem?_append_right (by omega)] at hu'
      have e : j - us.length = 0 := by
        have := (List.getElem?_eq_some_iff.1 hu').1
        rw [List.length_singleton] at this
        omega
      rw [e] at hu'
      simp only [List.getElem?_cons_zero, Option.some.injEq] at hu'
      subst hu'
      rw [show j = i by omega, hw] at hw'
      injection hw' with hw'
      subst hw'
      exact p2.1.sl
  · refine En.vb (c.vl (i := 2) rfl rfl) ?_
    refine c.vw 0 rfl (vs := [_, _]) (by exact rfl) (by exact rfl) (by exact rfl) (by exact rfl) fun _ c => ?_
    replace c : Cx _ _ _ [_, _, _, _, _] := c
    refine En.vb (c.vl (i := 0) rfl rfl) ?_
    have hi : i = ws.length := by omega
    refine hR (u, uv) [rSl EM (shV uv) (List.replicate T none), rSl EH1 (shV u) us, rStar M] _ (Cx.pack (L := []) (c.pick [1, 3, 4])) fun B => ⟨⟨_, On.sl (i := 0) rfl, by rw [List.length_replicate, Me.new, List.length_replicate], fun j a f ha hf => ?_⟩, ⟨_, On.sl (i := 1) rfl, by rw [hl, hi, Me.new, List.length_map], fun j u' as hu' has => ?_⟩⟩
    · have hf : (List.replicate T fun _ => (0 : Int))[j]? = some f := hf
      rw [List.getElem?_replicate] at ha hf
      split at ha
      · rename_i hj
        rw [if_pos hj] at hf
        injection ha with ha; injection hf with hf
        subst ha hf
        exact VO.zero _
      · cases ha
    · have has : (ws.map fun w => [(⟨w, fun _ => 0⟩ : AM)])[j]? = some as := has
      rw [List.getElem?_map] at has
      cases hw' : ws[j]? with
      | none => rw [hw'] at has; cases has
      | some w' =>
        rw [hw'] at has
        simp only [Option.map_some, Option.some.injEq] at has
        subst has
        refine ⟨_, fun h'' b => let ⟨_, F, p⟩ := b; let ⟨F', p'⟩ := (Cx.star p).get (i := 2) rfl; hM h'' F' p' j u' w' hu' hw', rfl, fun q m am hm ham => ?_⟩
        match q, hm, ham with
        | 0, hm, ham =>
          simp only [List.getElem?_cons_zero, Option.some.injEq] at hm ham
          subst hm ham
          exact ⟨rfl, VO.zero _⟩
        | q + 1, hm, ham => simp at hm
def Li.new (ws : List W3) : Li := ⟨ws, List.replicate ((ws.length + 7) / 8) ([], 0), none⟩
theorem K_lNew (cs : CnC S I) (hs : Sl EW h (shV v) ws) (hw : 1 ≤ ws.length ∧ ws.length ≤ 4096) (hR : ∀ y M h', Cx (fun _ => False) h h' [rStar M] → (∀ B : Bs, LO (B.and M) y (Li.new ws)) → R (.tuple #[vLn y, .int .i64 0]) h') : F_line_New S I (shV v) h R := by
  have e8 : ((ws.length : Int) + 8 - 1) / 8 = (((ws.length + 7) / 8 : Nat) : Int) := by omega
  have fin : ∀ (f l : SH) h', Cx (fun _ => False) h h' [rSl EW (shV f) ws, rSl ELg (shV l) (List.replicate ((ws.length + 7) / 8) ((none, 0, 0), 0))] → R (.tuple #[vLn ⟨f, l, none⟩, .int .i64 0]) h' := fun f l h' c => by
    refine hR ⟨f, l, none⟩ _ _ (Cx.pack (L := []) c) fun B => ⟨On.sl (i := 0) rfl, ⟨_, On.sl (i := 1) rfl, by rw [List.length_replicate, Li.new, List.length_replicate], fun j u g hu hg => ?_⟩, rfl⟩
    have hg : (List.replicate ((ws.length + 7) / 8) (([] : List Sto), (0 : Int)))[j]? = some g := hg
    rw [List.getElem?_replicate] at hu hg
    split at hu
    · rename_i hj
      rw [if_pos hj] at hg
      injection hu with hu; injection hg with hg
      subst hu hg
      exact ⟨rfl, fun h b => ⟨none, 0, rfl, Nat.le_refl _, (fun _ => rfl), fun i x hx => by simp at hx⟩⟩
    · cases hu
  unfold F_line_New
  have c := Cx.start0 h
  refine c.nv (cs := [_, _, _]) rfl rfl fun v2_ _ c => ?_
  replace c : Cx _ _ _ [_] := c
  refine En.vb (hs.gr c.gr).ln ?_
  refine En.vb (k_gtF (by omega)) ?_
  refine brf ?_
  refine .here ?_
  refine En.vb (hs.gr c.gr).ln ?_
  refine En.vb (addI ⟨by omega, by omega⟩) ?_
  refine En.vb (subI ⟨by omega, by omega⟩) ?_
  refine En.vb (quoI ⟨by omega, by omega⟩ (by decide)) ?_
  rw [e8]
  refine And.intro ?_ ?_
  · refine cs.cloneW (hs.gr c.gr) (by omega) fun f _ d => ?_
    have c := c.frame0 d
    replace c : Cx _ _ _ [_, _] := c
    refine c.mksl ELg ((none, 0, 0), 0) rfl rfl rfl (by omega) (by decide) fun ad _ c => ?_
    obtain ⟨l, hl⟩ : ∃ l : SH, shV l = .slice (some ad) ((ws.length + 7) / 8) ((ws.length + 7) / 8) := ⟨(some ad, (ws.length + 7) / 8, (ws.length + 7) / 8), rfl⟩
    rw [← hl] at c ⊢
    replace c : Cx _ _ _ [_, _, _] := c
    refine En.vb (bldS_ok (ds := [_, _, _]) rfl) ?_
    refine c.vw 0 rfl (vs := [_, _, _]) (by exact rfl) (by exact rfl) (by exact rfl) (by exact rfl) fun _ c => ?_
    replace c : Cx _ _ _ [_, _, _] := c
    refine En.vb (c.vl (i := 0) rfl rfl) ?_
    exact fin f l _ (c.pick [1, 2])
  · refine c.mksl ELg ((none, 0, 0), 0) rfl rfl rfl (by omega) (by decide) fun ad _ c => ?_
    obtain ⟨l, hl⟩ : ∃ l : SH, shV l = .slice (some ad) ((ws.length + 7) / 8) ((ws.length + 7) / 8) := ⟨(some ad, (ws.length + 7) / 8, (ws.length + 7) / 8), rfl⟩
    rw [← hl] at c ⊢
    replace c : Cx _ _ _ [_, _] := c
    refine cs.cloneW (hs.gr c.gr) (by omega) fun f _ d => ?_
    have c := c.frame0 d
    replace c : Cx _ _ _ [_, _, _] := c
    refine En.vb (bldS_ok (ds := [_, _, _]) rfl) ?_
    refine c.vw 0 rfl (vs := [_, _, _]) (by exact rfl) (by exact rfl) (by exact rfl) (by exact rfl) fun _ c => ?_
    replace c : Cx _ _ _ [_, _, _] := c
    refine En.vb (c.vl (i := 0) rfl rfl) ?_
    exact fin f l _ (c.pick [2, 1])
structure CoB (S : Sys) (I : Ids) : Prop extends CoA S I where
  mNew : ∀ {T : Nat} {v : SH} {ws : List W3} {h R}, Sl EW h (shV v) ws → (1 ≤ T ∧ T ≤ 8) → (1 ≤ ws.length ∧ ws.length ≤ 4096) → (∀ x M h', Cx (fun _ => False) h h' [rStar M] → (∀ B : Bs, MO (B.and M) x (Me.new T ws)) → R (.tuple #[vMm x, .int .i64 0]) h') → S.C I.f_memory_New [.int .i64 T, shV v] h R
  lNew : ∀ {v : SH} {ws : List W3} {h R}, Sl EW h (shV v) ws → (1 ≤ ws.length ∧ ws.length ≤ 4096) → (∀ y M h', Cx (fun _ => False) h h' [rStar M] → (∀ B : Bs, LO (B.and M) y (Li.new ws)) → R (.tuple #[vLn y, .int .i64 0]) h') → S.C I.f_line_New [shV v] h R
theorem K_kNew (cs : CoB S I) (hs : Sl EW h (shV v) ws) (hT : 1 ≤ T ∧ T ≤ 8) (hw : 1 ≤ ws.length ∧ ws.length ≤ 4096) (hR : ∀ v M h', Cx (fun _ => False) h h' [rStar M] → (∀ B : Bs, KO (B.and M) T v ⟨Me.new T ws, Li.new ws⟩) → R (.tuple #[vMc v, .int .i64 0]) h') : F_machine_New S I (.int .i64 T) (shV v) h R := by
  unfold F_machine_New
  have c := Cx.start0 h
  refine c.nv (cs := [_, _, _, _, _, _, _]) rfl rfl fun v4_ _ c => ?_
  replace c : Cx _ _ _ [_] := c
  refine cs.mNew (hs.gr c.gr) hT hw fun x M _ d ok => ?_
  have c := c.frame0 d
  replace c : Cx _ _ _ [_, _] := c
  refine En.vb rfl ?_
  refine En.vb rfl ?_
  refine c.nv (cs := [_, _]) rfl rfl fun m6_ _ c => ?_
  replace c : Cx _ _ _ [_, _, _] := c
  refine c.vw 2 rfl (vs := [_, _]) (by exact rfl) (by exact rfl) (by exact rfl) (by exact rfl) fun _ c => ?_
  replace c : Cx _ _ _ [_, _, _] := c
  refine En.vb (v := .bool false) rfl ?_
  refine brf ?_
  refine cs.lNew (hs.gr c.gr) hw fun y N _ d ok2 => ?_
  have c := c.frame0 d
  replace c : Cx _ _ _ [_, _, _, _] := c
  refine En.vb rfl ?_
  refine En.vb rfl ?_
  refine c.nv (cs := [_, _, _]) rfl rfl fun l8_ _ c => ?_
  replace c : Cx _ _ _ [_, _, _, _, _] := c
  refine c.vw 4 rfl (vs := [_, _, _]) (by exact rfl) (by exact rfl) (by exact rfl) (by exact rfl) fun _ c => ?_
  replace c : Cx _ _ _ [_, _, _, _, _] := c
  refine En.vb (v := .bool false) rfl ?_
  refine brf ?_
  refine En.vb (c.vl (i := 2) rfl rfl) ?_
  refine En.vb (c.vl (i := 4) rfl rfl) ?_
  refine c.mksl EI1 0 rfl rfl rfl (by omega) (by decide) fun ad _ c => ?_
  obtain ⟨s, hl⟩ : ∃ l : SH, shV l = .slice (some ad) T T := ⟨(some ad, T, T), rfl⟩
  rw [← hl] at c ⊢
  replace c : Cx _ _ _ [_, _, _, _, _, _] := c
  refine And.intro (c.vl (i := 4) rfl rfl) ?_
  refine And.intro (c.vl (i := 2) rfl rfl) ?_
  refine En.vb (bldS_ok (ds := [_, _, _, _, _, _, _]) rfl) ?_
  refine c.vw 0 rfl (vs := [_, _, _, _, _, _, _]) (by exact rfl) (by exact rfl) (by exact rfl) (by exact rfl) fun _ c => ?_
  replace c : Cx _ _ _ [_, _, _, _, _, _] := c
  refine En.vb (c.vl (i := 0) rfl rfl) ?_
  exact hR ⟨x, y, s, 0⟩ [rStar M, rStar N, rSl EI1 (shV s) (List.replicate T 0)] _ (Cx.pack (L := []) (c.pick [1, 3, 5])) fun B => ⟨(ok B).le fun h b => ⟨b.1, Bs.star b (i := 0) rfl⟩, (ok2 B).le fun h b => ⟨b.1, Bs.star b (i := 1) rfl⟩, _, On.sl (i := 2) rfl, List.length_replicate⟩
theorem Kk.new (hT : T ≤ 8) (hw : ws.length ≤ 4096) : Kk T ws.length 1 ⟨Me.new T ws, Li.new ws⟩ := by
  refine ⟨⟨List.length_replicate, List.length_map _, ⟨hT, hw⟩, fun as has => ?_⟩, ⟨rfl, List.length_replicate, hw, fun g hg => ?_⟩⟩
  · obtain ⟨w, _, rfl⟩ := List.mem_map.1 has
    exact ⟨Nat.le_refl _, Nat.le_refl _⟩
  · rw [List.eq_of_mem_replicate hg]
    exact Nat.zero_le _
end
end Go.En
