/-
  The contracts, joined over the program.
  The law Epochs: what the row opens.
-/
import Derived.Test.YtcepckpfhbcobaaGreatDoorXM
import Derived.Test.YtcepckpfhbcobaaGreatDoorXU
import Derived.Test.YtcepckpfhbcobaaGreatDoorXC
namespace Go.En
open Go.Ep

theorem jE0 : CeA (Sys.of Go.Proofs.Tryz.prog) ids := ⟨fun hp h R Z k => C_layout_Layout_many (K_many hp k)⟩
theorem jE1 : CeB (Sys.of Go.Proofs.Tryz.prog) ids := { jE0 with long := fun hp h R Z k => C_layout_Layout_long (K_long jE0 Z hp k) }
theorem jE2 : CeC (Sys.of Go.Proofs.Tryz.prog) ids := { jE1 with
  frm := fun hp h R Z k => C_layout_Layout_from (K_from jE1 Z hp k)
  between := fun h R Z k => C_layout_between (K_between k) }
theorem jE3 : CeD (Sys.of Go.Proofs.Tryz.prog) ids := { jE2 with check := fun h R Z k => C_layout_Layout_Check (K_Check jE2 Z k) }
theorem jE4 : CeE (Sys.of Go.Proofs.Tryz.prog) ids := { jE3 with right := fun h R Z k => C_layout_Layout_right (K_right jE3 Z k) }
theorem jE5 : CeF (Sys.of Go.Proofs.Tryz.prog) ids := { jE4 with
  at' := fun a b c h R Z k => C_layout_Layout_at (K_at jE4 Z a b c k)
  size := fun h R Z k => C_layout_Layout_Size (K_Size jE4 Z k) }
theorem jE6 : CeG (Sys.of Go.Proofs.Tryz.prog) ids := { jE5 with
  era := fun h R Z k => C_layout_Layout_Era (K_Era jE5 Z k)
  cell := fun a h R Z k => C_layout_Layout_Cell (K_Cell jE5 Z a k)
  announce := fun a h R Z k => C_layout_Layout_Announce (K_Announce jE5 Z a k)
  slot := fun a h R Z k => C_layout_Layout_Slot (K_Slot jE5 Z a k) }
theorem jE7 : CeH (Sys.of Go.Proofs.Tryz.prog) ids := { jE6 with
  echeck := fun a h R Z k => C_era_check (K_echeck jE6 Z a k)
  emade := fun a h R Z k => C_era_made (K_emade jE6 Z a k) }
theorem jK0 : CkA (Sys.of Go.Proofs.Tryz.prog) ids := ⟨fun h R k => C_era_code_look (K_elook k), fun h R k => C_era_code_done (K_edone k)⟩
theorem jK1 : CkB (Sys.of Go.Proofs.Tryz.prog) ids := { jK0 with eann := fun h R k => C_era_code_announce (K_announce k) }
theorem jK2 : CkC (Sys.of Go.Proofs.Tryz.prog) ids := { jK1 with
  ecNext := fun a b h R k => C_era_code_Next (K_ecNext a b k)
  compare := fun h R k => C_era_code_compare (K_compare jK1 k)
  ann1 := fun h R k => C_era_code_announce_1 (K_announce1 jK0 k)
  raise := fun a b h R k => C_era_code_raise (K_raise jK1 a b k)
  raiseT := fun h R k => C_era_code_raise (K_raiseT jK1 k)
  ent1 := fun h R k => C_era_Enter_1 (K_Enter1 jK0 k)
  lv1 := fun h R k => C_era_Leave_1 (K_Leave1 k)
  lv11 := fun h R k => C_era_Leave_1_1 (K_Leave11 jK0 k)
  ad1 := fun h R k => C_era_Advance_1 (K_Advance1 jK0 k) }
theorem jF0 : CfA (Sys.of Go.Proofs.Tryz.prog) ids := { jE6 with
  mclone := fun a k => C_maps_Clone_map_api_Loc_int_api_Loc_int (K_mclone a k)
  mclone0 := fun k => C_maps_Clone_map_api_Loc_int_api_Loc_int (K_mclone0 k) }
theorem jF1 : CfB (Sys.of Go.Proofs.Tryz.prog) ids := { jF0 with
  vAt := fun a b k => C_view_View_At (K_vAt a b k)
  vWith := fun a b c d k => C_view_View_With (K_With jF0 a b c d k)
  vJoin := fun a b c k => C_view_Join (K_Join jF0 a b c k) }
theorem jF2 : CfC (Sys.of Go.Proofs.Tryz.prog) ids := { jF1 with
  hNew := fun k => C_history_New (K_hNew k)
  hLen := fun a k => C_history_History_Len (K_hLen a k)
  hAt := fun a b k => C_history_History_At (K_hAt a b k)
  hClip := fun k => C_slices_Clip_history_Message_history_Message k }
theorem jM0 : CmA (Sys.of Go.Proofs.Tryz.prog) ids := { jF2 with
  hLast := fun a b k => C_history_History_Last (K_hLast jF2 a b k)
  hAdd := fun a b k => C_history_History_Add (K_hAdd jF2 a b k)
  thread := fun a b c d k => C_memory_Memory_thread (K_thread a b c d k)
  place := fun a b c d k => C_memory_Memory_place (K_place a b c d k) }
theorem jM1 : CmB (Sys.of Go.Proofs.Tryz.prog) ids := { jM0 with
  wrong := fun a b c d e k => C_memory_Memory_wrong (K_wrong jM0 a b c d e k)
  seen := fun a b c d k => C_memory_Memory_Seen (K_Seen jM0 a b c d k)
  wth := fun a b c k => C_memory_Memory_with (K_with a b c k)
  last := fun a b k => C_memory_picker_last (K_last jM0 a b k) }
theorem jM2 : CmC (Sys.of Go.Proofs.Tryz.prog) ids := { jM1 with
  finds := fun a b c d e f k => C_memory_Memory_finds (K_finds jM1 a b c d e f k)
  mSize := fun a b c k => C_memory_Memory_Size (K_mSize a b c k) }
theorem jM3 : CmD (Sys.of Go.Proofs.Tryz.prog) ids := { jM2 with
  look := fun a b c d e f k => C_memory_Memory_look (K_look jM2 a b c d e f k)
  hist := fun a b c d e f k => C_memory_Memory_History (K_History jM2 a b c d e f k) }
theorem jM4 : CmE (Sys.of Go.Proofs.Tryz.prog) ids := { jM3 with
  adds := fun a b c d e f k => C_memory_Memory_adds (K_adds jM3 a b c d e f k)
  Look := fun a b c d e f k => C_memory_Memory_Look (K_Look jM3 a b c d e f k) }
theorem jN0 : CnA (Sys.of Go.Proofs.Tryz.prog) ids := { jM4 with
  cloneW := fun a b k => C_slices_Clone_api_Word_api_Word (K_cloneW a b k)
  cloneL := fun a b k => C_slices_Clone_line_log_line_log (K_cloneL a b k)
  cloneI := fun a b k => C_slices_Clone_int_int (K_cloneI a b k)
  clipS := fun a b k => C_slices_Clip_line_store_line_store (K_clipS a b k)
  has := fun a b c d k => C_line_Lines_has (K_has a b c d k)
  Store := fun a b c d e f k => C_memory_Memory_Store (K_Store jM4 a b c d e f k)
  Swap := fun a b c d e f k => C_memory_Memory_Swap (K_Swap jM4 a b c d e f k)
  Last := fun a b c d e k => C_memory_Memory_Last (K_mLast jM3 a b c d e k) }
theorem jN1 : CnB (Sys.of Go.Proofs.Tryz.prog) ids := { jN0 with
  kSize := fun a b c k => C_machine_Machine_Size (K_kSize jN0 a b c k)
  lStore := fun a b c d e k => C_line_Lines_Store (K_lStore jN0 a b c d e k) }
theorem jN2 : CnC (Sys.of Go.Proofs.Tryz.prog) ids := { jN1 with
  kWord := fun a b c d e k => C_machine_Machine_Word (K_kWord jN0 a b c d e k)
  kcheck := fun a b c d e f k => C_machine_Machine_check (K_kcheck jN1 a b c d e f k)
  kchg := fun a k => C_machine_Changes (K_kchg a k)
  kread := fun a b c d e f k => C_machine_Machine_read (K_kread jN1 a b c d e f k)
  kswap := fun a b c d e f k => C_machine_Machine_write (K_kswap jN1 a b c d e f k)
  kput := fun a b c d e f k => C_machine_Machine_write (K_kput jN1 a b c d e f k) }
theorem jO0 : CoA (Sys.of Go.Proofs.Tryz.prog) ids := { jN2 with hNewO := fun k => C_history_New (K_hNewO k) }
theorem jO1 : CoB (Sys.of Go.Proofs.Tryz.prog) ids := { jO0 with
  mNew := fun a b c k => C_memory_New (K_mNew jO0 a b c k)
  lNew := fun a b k => C_line_New (K_lNew jN2 a b k) }
theorem jP0 : CpA (Sys.of Go.Proofs.Tryz.prog) ids := { jO1 with
  told0 := fun k => C_task_Task_told (K_told0 k)
  told := fun k => C_task_Task_told (K_told k)
  tDone := fun k => C_task_Task_Done (K_tDone k)
  tCode := fun k => C_task_Task_Code (K_tCode k)
  tSteps := fun a b k => C_task_Task_Steps (K_tSteps a b k)
  clipG := fun a b k => C_slices_Clip_api_Got_api_Got (K_clipG a b k)
  cloneT := fun a b k => C_slices_Clone_task_Task_task_Task (K_cloneT a b k) }
theorem jQ0 : CqA (Sys.of Go.Proofs.Tryz.prog) ids := { jP0 with
  tAct := fun k => C_task_Task_Act (K_tAct jP0 k)
  tStart := fun a b c k => C_task_Start (K_tStart jP0 a b c k)
  tGive := fun a b c d e f k => C_task_Task_Give (K_tGive jP0 a b c d e f k)
  kDo := fun a b c d e f k => C_machine_Machine_Do (K_kDo jN2 a b c d e f k) }
theorem jQ1 : CqB (Sys.of Go.Proofs.Tryz.prog) ids := { jQ0 with
  dead := fun a b c d k => C_task_World_dead (K_dead jQ0 a b c d k)
  stopped := fun a b c k => C_task_World_stopped (K_stopped a b c k) }
theorem jQ2 : CqC (Sys.of Go.Proofs.Tryz.prog) ids := { jQ1 with
  takes := fun a b c d e k => C_task_World_takes (K_takes jQ1 a b c d e k)
  takesNo := fun a b c k => C_task_World_takes (K_takesNo a b c k)
  wstep := fun b0 H k hb hl ht hx hg hgl hd _ ha hok _ hf _ hQ hN _ hR => C_task_World_step (K_wstep jQ1 b0 H k hb hl ht hx hg hgl hd ha hok hf hQ hN hR) }
theorem jR0 : CrA (Sys.of Go.Proofs.Tryz.prog) ids := { jQ2, jK2, jE7 with
  enter := fun a h R Z k => C_era_Enter (K_Enter jE7 Z a k)
  leave := fun a h R Z k => C_era_Leave (K_Leave jE7 Z a k)
  advance := fun h R Z k => C_era_Advance (K_Advance jE7 Z k)
  eraOf := fun a h R k => C_era_Era (K_EraOf a k)
  mtE := by kernel_rfl }
theorem jR1 : CrB (Sys.of Go.Proofs.Tryz.prog) ids := { jR0 with rrun := fun a b k => C_simulcasttop_epochReader_run (K_rrun jR0 a b k) }
theorem jT0 : CtA (Sys.of Go.Proofs.Tryz.prog) ids := { jR1 with nan := fun k => C_cmp_isNaN_int (K_isNaN k) }
theorem jT1 : CtB (Sys.of Go.Proofs.Tryz.prog) ids := { jT0 with
  less := fun k => C_cmp_Less_int (K_Less jT0 k)
  len64 := fun a k => C_math_bits_Len64 (K_Len64 a k) }
theorem jT2 : CtC (Sys.of Go.Proofs.Tryz.prog) ids := { jT1 with
  len := fun a k => C_math_bits_Len (K_Len jT1 a k)
  ins := fun a b c d k => C_slices_insertionSortOrdered_int (K_insertion jT1 a b c d k) }
theorem jT3 : CtD (Sys.of Go.Proofs.Tryz.prog) ids := { jT2 with pdq := fun a b k => C_slices_pdqsortOrdered_int (K_pdq jT2 a b k) }
theorem jT4 : CtE (Sys.of Go.Proofs.Tryz.prog) ids := { jT3 with
  sort := fun a b k => C_slices_Sort_int_int (K_Sort jT3 a b k)
  lives := fun k => C_reclaim_Item_lives (K_lives k)
  ret1 := fun a k => C_reclaim_Bag_Retire_1 (K_ret1 a k)
  idxI := fun a b c k => C_slices_IndexFunc_int64_int64 (K_idxI a b c k)
  idxT := fun a b c k => C_slices_IndexFunc_reclaim_Item_reclaim_Item (K_idxT a b c k) }
theorem jT5 : CtF (Sys.of Go.Proofs.Tryz.prog) ids := { jT4 with
  conI := fun a b c k => C_slices_ContainsFunc_int64_int64 (K_conI jT4 a b c k)
  conT := fun a b c k => C_slices_ContainsFunc_reclaim_Item_reclaim_Item (K_conT jT4 a b c k)
  cloneIt := fun a b k => C_slices_Clone_reclaim_Item_reclaim_Item (K_cloneIt a b k) }
theorem jT6 : CtG (Sys.of Go.Proofs.Tryz.prog) ids := { jT5 with way := fun a b k => C_reclaim_Item_way (K_way jT5 a b k) }
theorem jU0 : CuA (Sys.of Go.Proofs.Tryz.prog) ids := { jT6 with
  wlook := fun k => C_simulcasttop_epochWriter_look (K_wlook k)
  eval := fun a b k => C_simulcasttop_epochValue (K_eval a b k) }
theorem jU1 : CuB (Sys.of Go.Proofs.Tryz.prog) ids := { jU0 with
  wbegin := fun a b c d k => C_simulcasttop_epochWriter_begin (K_wbegin jU0 a b c d k)
  clipI := fun a b k => C_slices_Clip_int_int (K_clipI a b k)
  clipI64 := fun a b k => C_slices_Clip_int64_int64 (K_clipI64 a b k)
  retire := fun a b c d e k => C_reclaim_Bag_Retire (K_Retire jT5 a b c d e k)
  sweep := fun a b c d k => C_reclaim_Bag_Sweep (K_Sweep jT6 a b c d k) }
theorem jV0 : CvA (Sys.of Go.Proofs.Tryz.prog) ids := { jU1 with
  wNext := fun a b c d e f g k => C_simulcasttop_epochWriter_Next (K_wNext jU1 a b c d e f g k)
  rNext := fun a b c d e k => C_simulcasttop_epochReader_Next (K_rNext jR1 a b c d e k)
  mtW := by kernel_rfl
  mtR := by kernel_rfl
  Step := fun b0 H k hb hl ht hx hg hgl hd _ ha hok _ hf _ hQ hN _ hR => C_task_World_Step (K_Step jQ2 b0 H k hb hl ht hx hg hgl hd ha hok hf hQ hN hR)
  StepNo := fun a b c d e f k => C_task_World_Step (K_StepNo jQ2 a b c d e f k) }
theorem jV1 : CvB (Sys.of Go.Proofs.Tryz.prog) ids := { jV0 with
  first := fun a k => C_layout_Layout_First (K_First jV0 a k)
  wStart := fun a b c d e k => C_simulcasttop_epochWriter_Next (K_wStart jV0 a b c d e k)
  rStart := fun a b c k => C_simulcasttop_epochReader_Next (K_rStart jR1 a b c k)
  kNew := fun a b c k => C_machine_New (K_kNew jO1 a b c k)
  make := fun a b c d e Q hQ hN hR => C_task_Make (K_Make (Q := Q) jQ0 a b c d e hQ hN hR) }
theorem jW0 : CwA (Sys.of Go.Proofs.Tryz.prog) ids := { jV1 with index := fun a b k => C_slices_Index_int_int (K_Index a b k) }
theorem jW1 : CwB (Sys.of Go.Proofs.Tryz.prog) ids := { jW0 with contains := fun a b k => C_slices_Contains_int_int (K_Contains jW0 a b k) }
theorem jX0 : CxA (Sys.of Go.Proofs.Tryz.prog) ids := { jW1 with
  eSafe := fun a b k => C_simulcasttop_epochSafe (K_eSafe jW1 a b k)
  eWorld := fun a b c d e f g k => C_simulcasttop_epochWorld (K_eWorld jV1 a b c d e f g k)
  alone := fun hW _ hk ht hwo hyes hno _ b0 H hR => C_task_World_Alone (K_Alone jQ2 hW hk ht hwo hyes hno b0 H hR)
  bLen := fun a k => C_reclaim_Bag_Len (K_bLen a k) }
theorem jY0 : CyA (Sys.of Go.Proofs.Tryz.prog) ids := { jX0 with eAwake := fun a k => C_simulcasttop_epochAwake (K_eAwake jX0 a k) }
end Go.En
namespace Go.En
theorem wf_u8 {z : Int} (h : (Lit.int .u8 z).wf = true) : 0 ≤ z ∧ z ≤ 255 := by
  have h1 : IntKind.u8.min = 0 := rfl
  have h2 : IntKind.u8.max = 255 := rfl
  simp only [Lit.wf, Bool.and_eq_true, decide_eq_true_eq] at h
  exact ⟨by omega, by omega⟩
theorem el_u8 {H : Type} {enc : TypeId × Value → H} {P : Program} {W : World} {e : TypeId} (he : P.underlying e = some (.int .u8)) : ∀ n cs y, DataW.trod enc P W 0 (fun _ => true) true n e cs = some y → ∃ x : Int, cs = EU8.c x ∧ (0 ≤ x ∧ x ≤ 255) := by
  intro n cs y h
  obtain ⟨z, rfl, _, hw⟩ := DataW.trod_int he h
  exact ⟨z, rfl, wf_u8 hw⟩
theorem el_pk {H : Type} {enc : TypeId × Value → H} {P : Program} {W : World} {e : TypeId} (hs : shp P e [some .i64, some .i64, some .i64] = true) :
    ∀ n cs y, DataW.trod enc P W 0 (fun _ => true) true n e cs = some y → ∃ x : Pk, cs = EPk.c x ∧ True := by
  intro n cs y h
  obtain ⟨hlen, hf⟩ := el_shape hs n cs y h
  match cs, hlen with
  | [c0, c1, c2], _ =>
    obtain ⟨z0, e0, w0⟩ := hf 0 _ rfl
    obtain ⟨z1, e1, w1⟩ := hf 1 _ rfl
    obtain ⟨z2, e2, w2⟩ := hf 2 _ rfl
    simp only [List.getElem?_cons_zero, List.getElem?_cons_succ, Option.some.injEq] at e0 e1 e2
    refine ⟨(z0, z1, z2), ?_, trivial⟩
    rw [e0, e1, e2]
    rfl
theorem M_TopEpochs {S : Sys} {I : Ids} {h : Hp} {R : Value → Hp → Prop} (cs : CyA S I) {v0 v2 : Value} {ops : List Int} {pks : List Pk} {f : Nat → Int} (ho : Sl EU8 h v0 ops) (wo : ∀ x ∈ ops, 0 ≤ x ∧ x ≤ 255) (wf : ∀ i, i < 2 → (Lit.int .u8 (f i)).wf = true) (hp : Sl EPk h v2 pks) (Z : Zs h) (hR : ∀ h', Gr h h' → R (.bool true) h') :
    F_simulcasttop_TopEpochs S I v0 (.agg ((EAr .u8 2).c f).toArray) v2 h R := by
  obtain ⟨a, cap, rfl, h1, h2, h3⟩ := id ho
  have w0 := wf_u8 (wf 0 (by decide))
  have w1 := wf_u8 (wf 1 (by decide))
  exact L_TopEpochs cs (uo := (a, ops.length, cap)) (a := f 0) (b := f 1) Z ho hp (fun o ho => (wo o ho).1) (by omega) (by omega) hR
end Go.En
