/-
  Layer 38: the contracts, joined over the program.
-/
import Derived.Test.YtjnpmadojjfkpaaGreatZE
import Derived.Test.YtjnpmadojjfkpaaGreatXJ
namespace Go.En
open Go.ChangeShapes Go.WideShapes Prog Go.Sort

theorem csY0 : CsY0 (Sys.of Go.Proofs.Tryz.prog) ids := { csT with
  wnode := fun k => C_heap_work_node k
  wget := fun k => C_heap_work_get k
  wput := fun k => C_heap_work_put k
  wroot := fun k => C_heap_work_root k
  wadd := fun k => C_heap_work_add k
  wrow := fun k => C_heap_work_row k
  witem := fun k => C_heap_work_item k
  wkey := fun k => C_heap_work_key k
  ahead := fun k => C_heap_ahead k
  wlay := fun k => C_heap_work_lay k
  wrise := fun k => C_heap_work_rise k
  wsink := fun k => C_heap_work_sink k
  wtake := fun k => C_heap_work_take k
  wgive := fun k => C_heap_work_give k
  wmany := fun k => C_heap_work_many k
  wrem := fun k => C_heap_work_remove k
  wfind := fun k => C_heap_work_find k
  wend := fun k => D_heap_work_end k
  wnone := fun k => D_heap_work_none k }
theorem csZ0 : CsZ0 (Sys.of Go.Proofs.Tryz.prog) ids := ⟨fun a b c d e f k => C_slices_swapRangeCmpFunc_api_Loc (K_swapRange a b c d e f k)⟩
theorem csZ1 : CsZ1 (Sys.of Go.Proofs.Tryz.prog) ids := { csZ0 with
  rot := fun a b c d e f g k => C_slices_rotateCmpFunc_api_Loc (K_rotate csZ0 a b c d e f g k)
  symm := fun k => C_slices_symMergeCmpFunc_api_Loc k }
theorem csZ2 : CsZ2 (Sys.of Go.Proofs.Tryz.prog) ids := { csZ1 with
  insc := fun k => C_slices_insertionSortCmpFunc_api_Loc k
  stab := fun k => C_slices_stableCmpFunc_api_Loc k }
theorem csY1 : CsY1 (Sys.of Go.Proofs.Tryz.prog) ids := { csY0 with
  uwk1 := fun k => C_heap_Heap_Walk_1 k
  sortC := fun a b c d k => C_slices_SortStableFunc_api_Loc_api_Loc (K_sortC csZ2 a b c d k) }
theorem csV2 : CsV2 (Sys.of Go.Proofs.Tryz.prog) ids := { csY1 with hh := csH }
theorem csV3 : CsV3 (Sys.of Go.Proofs.Tryz.prog) ids := { csV2 with rahead := fun k => C_simulcastref38_ahead k }
theorem csV4 : CsV4 (Sys.of Go.Proofs.Tryz.prog) ids := { csV3 with
  hpush := fun a => Does.of fun h0 F σ R Q c hp k => C_heap_Heap_Push (K_hPush csY0 a h0 F σ R Q c hp k)
  hpop := fun a => Does.of fun h0 F σ R Q c hp k => C_heap_Heap_Pop (K_hPop csY0 a h0 F σ R Q c hp k)
  hmin := fun a => Does.of fun h0 F σ R Q c hp k => C_heap_Heap_Min (K_hMin csY0 a h0 F σ R Q c hp k)
  hlow := fun a b => Does.of fun h0 F σ R Q c hp k => C_heap_Heap_Lower (K_hLow csY0 a b h0 F σ R Q c hp k)
  hdrop := fun a b => Does.of fun h0 F σ R Q c hp k => C_heap_Heap_Drop (K_hDrop csY0 a b h0 F σ R Q c hp k)
  hlen := fun a => Does.of fun h0 F σ R Q c hp k => C_heap_Heap_Len (K_hLen csY0 a h0 F σ R Q c hp k)
  hwalk := fun a b c d k => C_heap_Heap_Walk (K_hWalk csY1 a b c d k)
  rfind := fun a b k => C_simulcastref38_Find (K_rFind a b k)
  rwithout := fun a b c k => C_simulcastref38_Without (K_rWithout a b c k)
  rput := fun a b k => C_simulcastref38_Put (K_rPut csV3 a b k)
  rnodes := fun a k => C_simulcastref38_Nodes (K_rNodes a k)
  clone := fun a b k => C_slices_Clone_int64_int64 (K_CloneI a b k)
  done := fun a b c d e f k => C_simulcastlaw33_World_Done (K_Done csV2 a b c d e f k)
  ustep1 := fun k => C_simulcastlaw38_step_1 k }
theorem csV5 : CsV5 (Sys.of Go.Proofs.Tryz.prog) ids := { csV4 with
  alike := fun a b c k => C_simulcastlaw33_Alike (K_Alike a b c k)
  uis1 := fun k => C_simulcastlaw38_is_1 k }
theorem csV6 : CsV6 (Sys.of Go.Proofs.Tryz.prog) ids := { csV5 with
  step := fun a b c d e k => C_simulcastlaw38_step (K_step csV4 a b c d e k)
  is := fun a b c k => C_simulcastlaw38_is (K_is csV5 a b c k)
  fresh := fun k => C_simulcastlaw33_Fresh (K_Fresh (N := 384) (by decide) k)
  made := fun a k => C_simulcastlaw38_made (K_made a k)
  equal := fun a b c k => C_slices_Equal_int64_int64 (K_Equal a b c k) }
theorem csV7 : CsV7 (Sys.of Go.Proofs.Tryz.prog) ids := { csV6 with
  played := fun a b c d k => C_simulcastlaw38_played (K_played csV6 a b c d k)
  uawk1 := fun k => C_simulcastlaw38_awake_1 k }
theorem csV8 : CsV8 (Sys.of Go.Proofs.Tryz.prog) ids := { csV7 with
  awake := fun k => C_simulcastlaw38_awake (K_awake csV7 k)
  great := fun a k => C_simulcastlaw38_great (K_great a k) }
/-- a call among the arguments -/
theorem el_c38 {H : Type} {enc : TypeId × Value → H} {P : Program} {W : World} {e : TypeId} (hs : shp P e [some .u8, some .u8, some .i64, some .i64] = true) :
    ∀ n cs y, DataW.trod enc P W 0 (fun _ => true) true n e cs = some y → ∃ x : C38, cs = EC8.c x ∧ x.ok := by
  intro n cs y h
  obtain ⟨hlen, hf⟩ := el_shape hs n cs y h
  match cs, hlen with
  | [c0, c1, c2, c3], _ =>
    obtain ⟨z0, e0, w0⟩ := hf 0 _ rfl
    obtain ⟨z1, e1, w1⟩ := hf 1 _ rfl
    obtain ⟨z2, e2, w2⟩ := hf 2 _ rfl
    obtain ⟨z3, e3, w3⟩ := hf 3 _ rfl
    simp only [List.getElem?_cons_zero, List.getElem?_cons_succ, Option.some.injEq] at e0 e1 e2 e3
    exact ⟨⟨z0, z1, z2, z3⟩, by rw [e0, e1, e2, e3]; rfl, wf_u8 w0, wf_u8 w1, wf_i64 w2, wf_i64 w3⟩
end Go.En
