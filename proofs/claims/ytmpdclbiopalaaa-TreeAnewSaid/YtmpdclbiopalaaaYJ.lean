/-
  Layer 37: the contracts, joined over the program.
-/
import Derived.Test.YtmpdclbiopalaaaYN
import Derived.Test.YtmpdclbiopalaaaXJ
namespace Go.En
open Go.ChangeShapes Go.WideShapes Prog Go.Sort

theorem csW0 : CsW0 (Sys.of Go.Proofs.Try.prog) ids := { csT with
  rank := fun _ => Pur.of fun h _ c k => C_tree_rank (K_rank (k h [] c))
  tkid := fun k => C_tree_kid k
  twork := fun k => C_tree_Tree_work k
  tis := fun k => C_tree_work_is k
  tget := fun k => C_tree_work_get k
  tput := fun k => C_tree_work_put k
  tof := fun k => C_tree_work_of k
  tref := fun k => C_tree_work_refresh k
  tspl := fun k => C_tree_work_split k
  tmrg := fun k => C_tree_work_merge k
  tadd := fun k => C_tree_work_add k
  thang := fun k => C_tree_work_hang k
  tway := fun k => C_tree_work_way k
  tway1 := fun k => C_tree_work_way_1 k
  tpath := fun k => C_tree_work_path k }
theorem csW1 : CsW1 (Sys.of Go.Proofs.Try.prog) ids := { csW0 with
  tundo := fun a b c => D_tree_undo (K_tundo csT a b c) }
theorem csW2 : CsW2 (Sys.of Go.Proofs.Try.prog) ids := { csW1 with
  sum1 := fun k => C_tree_Tree_Sum_1 k
  cnt1 := fun k => C_tree_Tree_Count_1 k }
theorem csW3 : CsW3 (Sys.of Go.Proofs.Try.prog) ids := { csW2 with
  tunt := fun a b => Does.of fun h0 F σ R Q c hp k => C_tree_Tree_until (K_tUnt csW2 a b h0 F σ R Q c hp k)
  tlen := fun a => Does.of fun h0 F σ R Q c hp k => C_tree_Tree_Len (K_tLen csT a h0 F σ R Q c hp k) }
theorem csW4 : CsW4 (Sys.of Go.Proofs.Try.prog) ids := { csW3 with
  tbel := fun k => C_tree_walker_below k }
theorem csR37 : CsR37 (Sys.of Go.Proofs.Try.prog) ids := {
  rfind := fun a b k => C_simulcastref37_find (K_rFind a b k)
  rrank := fun k => C_simulcastref37_Rank (K_rRank k) }
theorem csX1 : CsX1 (Sys.of Go.Proofs.Try.prog) ids := { csW4, csR37 with
  tput' := fun a b d => Does.of fun h0 F σ R Q c hp k => C_tree_Tree_Put (K_tPut csW1 a b d h0 F σ R Q c hp k)
  tdrop' := fun a b => Does.of fun h0 F σ R Q c hp k => C_tree_Tree_Drop (K_tDrop csW1 a b h0 F σ R Q c hp k)
  tget' := fun a b => Does.of fun h0 F σ R Q c hp k => C_tree_Tree_Get (K_tGet csW0 a b h0 F σ R Q c hp k)
  tnext' := fun a b => Does.of fun h0 F σ R Q c hp k => C_tree_Tree_Next (K_tNext csW0 a b h0 F σ R Q c hp k)
  tbtw := fun a b => Does.of fun h0 F σ R Q c hp k => C_tree_Tree_between (K_tBtw csW3 a b h0 F σ R Q c hp k)
  tnth' := fun a b => Does.of fun h0 F σ R Q c hp k => C_tree_Tree_Nth (K_tNth csW3 a b h0 F σ R Q c hp k)
  twlk := fun a b c hp k => C_tree_Tree_Walk (K_tWlk csW4 a b _ _ _ _ _ c hp k) }
theorem csX2 : CsX2 (Sys.of Go.Proofs.Try.prog) ids := { csX1 with
  tsum := fun a b => Does.of fun h0 F σ R Q c hp k => C_tree_Tree_Sum (K_tSum csX1 a b h0 F σ R Q c hp k)
  tcnt := fun a b => Does.of fun h0 F σ R Q c hp k => C_tree_Tree_Count (K_tCnt csX1 a b h0 F σ R Q c hp k)
  rget := fun a b c k => C_simulcastref37_Get (K_rGet csR37 a b c k)
  rnext := fun a b k => C_simulcastref37_Next (K_rNext csR37 a b k)
  rnth := fun a k => C_simulcastref37_Nth (K_rNth a k)
  rdrp := fun a b k => C_simulcastref37_Drop (K_rDrp a b k)
  rput := fun a b c k => C_simulcastref37_Put (K_rPut csR37 a b c k)
  rrng := fun a b k => C_simulcastref37_Range (K_rRange a b k)
  rtop := fun a b k => C_simulcastref37_Top (K_rTop csR37 a b k)
  made37 := fun a k => C_simulcastlaw37_made (K_made37 a k)
  empty37 := fun a k => C_simulcastlaw37_empty (K_empty37 csD a k) }
theorem csX3 : CsX3 (Sys.of Go.Proofs.Try.prog) ids := { csX2 with
  awake37 := fun k => C_simulcastlaw37_awake (K_awake37 csX2 k)
  do37 := fun a b c d k => C_simulcastlaw37_do (K_do37 csX2 a b c d k)
  same37 := fun a b k => C_simulcastlaw37_same (K_same37 csX2 a b k) }
/-- a call among the arguments -/
theorem el_c37 {H : Type} {enc : TypeId × Value → H} {P : Program} {W : World} {e : TypeId} (hs : shp P e [some .u8, some .i64, some .i64] = true) :
    ∀ n cs y, DataW.trod enc P W 0 (fun _ => true) true n e cs = some y → ∃ x : C37, cs = ECl.c x ∧ x.ok := by
  intro n cs y h
  obtain ⟨hlen, hf⟩ := el_shape hs n cs y h
  match cs, hlen with
  | [c0, c1, c2], _ =>
    obtain ⟨z0, e0, w0⟩ := hf 0 _ rfl
    obtain ⟨z1, e1, w1⟩ := hf 1 _ rfl
    obtain ⟨z2, e2, w2⟩ := hf 2 _ rfl
    simp only [List.getElem?_cons_zero, List.getElem?_cons_succ, Option.some.injEq] at e0 e1 e2
    exact ⟨⟨z0, z1, z2⟩, by rw [e0, e1, e2]; rfl, wf_u8 w0, wf_i64 w1, wf_i64 w2⟩
end Go.En
