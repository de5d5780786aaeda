/-
  Layer 40: the contracts, joined over the program.
-/
import Derived.Test.YtmpdclbiopalaaaXK
import Derived.Test.YtmpdclbiopalaaaXJ
namespace Go.En
open Go.ChangeShapes Go.WideShapes Prog Go.Sort

theorem csK0 : CsK0 (Sys.of Go.Proofs.Try.prog) ids := { csT with
  gat := Pur.of fun h R c k => C_graph_at (K_gat h R c k)
  gnode := fun a => Pur.of fun h R c k => C_graph_Graph_node (K_gnode a csQ h R c k)
  vmark := fun a => Pur.of fun h R c k => C_graph_Graph_vertexMark (K_vmark a h R c k)
  emark := fun a => Pur.of fun h R c k => C_graph_Graph_edgeMark (K_emark a h R c k)
  all := fun a => Pur.of fun h R c k => C_graph_Graph_all (K_all a h R c k)
  out := Pur.of fun h R c k => C_graph_Graph_out (K_out h R c k)
  in' := Pur.of fun h R c k => C_graph_Graph_in (K_in h R c k)
  gmore := Does.of fun h0 F σ R Q c hp k => C_graph_more (K_gmore csT h0 F σ R Q c hp k)
  gundo := fun a b c => D_graph_undo (K_gundo csT a b c) }
theorem csK1 : CsK1 (Sys.of Go.Proofs.Try.prog) ids := { csK0 with
  vertex := fun a b => Does.of fun h0 F σ R Q c hp k => C_graph_Graph_vertex (K_vertex csK0 a b h0 F σ R Q c hp k)
  edge := fun a b => Does.of fun h0 F σ R Q c hp k => C_graph_Graph_edge (K_edge csK0 a b h0 F σ R Q c hp k)
  link := fun a b d => Does.of fun h0 F σ R Q c hp k => C_graph_Graph_link (K_link csK0 a b d h0 F σ R Q c hp k)
  unlink := fun a b d => Does.of fun h0 F σ R Q c hp k => C_graph_Graph_unlink (K_unlink csK0 a b d h0 F σ R Q c hp k)
  through := fun k => C_graph_Graph_through (K_through k)
  thr1 := fun k => C_graph_Graph_through_1 k }
theorem csK2 : CsK2 (Sys.of Go.Proofs.Try.prog) ids := { csK1 with
  find := fun a b => Does.of fun h0 F σ R Q c hp k => C_graph_Graph_find (K_find csK1 a b h0 F σ R Q c hp k)
  edges := fun a b d e f c hp k => C_graph_Graph_edges (K_edges csK1 a b d e f _ _ _ _ _ c hp k)
  verts := fun a b c hp k => C_graph_Graph_Vertices (K_Verts csK1 a b _ _ _ _ _ c hp k) }
theorem csK3 : CsK3 (Sys.of Go.Proofs.Try.prog) ids := { csK2 with
  gadd := fun a b => Does.of fun h0 F σ R Q c hp k => C_graph_Graph_Add (K_gAdd csK2 a b h0 F σ R Q c hp k)
  glink := fun a b d e f => Does.of fun h0 F σ R Q c hp k => C_graph_Graph_Link (K_gLink csK2 a b d e f h0 F σ R Q c hp k)
  gcut := fun a b => Does.of fun h0 F σ R Q c hp k => C_graph_Graph_cut (K_gcut csK2 a b h0 F σ R Q c hp k) }
theorem csK4 : CsK4 (Sys.of Go.Proofs.Try.prog) ids := { csK3 with
  gCut := fun a b => Does.of fun h0 F σ R Q c hp k => C_graph_Graph_Cut (K_gCut csK3 a b h0 F σ R Q c hp k)
  gempty := fun a b => Does.of fun h0 F σ R Q c hp k => C_graph_Graph_empty (K_gempty csK3 a b h0 F σ R Q c hp k) }
theorem csK5 : CsK5 (Sys.of Go.Proofs.Try.prog) ids := { csK4 with
  gdrop := fun a b d => Does.of fun h0 F σ R Q c hp k => C_graph_Graph_Drop (K_gDrop csK4 a b d h0 F σ R Q c hp k)
  gwei := fun a b d e => Does.of fun h0 F σ R Q c hp k => C_graph_Graph_Weight (K_gWei csK2 a b d e h0 F σ R Q c hp k)
  glab := fun a b => Does.of fun h0 F σ R Q c hp k => C_graph_Graph_Label (K_gLab csK2 a b h0 F σ R Q c hp k)
  gedges := fun a => Does.of fun h0 F σ R Q c hp k => C_graph_Graph_Edges (K_gEdges csK2 a h0 F σ R Q c hp k)
  gout := fun a b d c hp k => C_graph_Graph_Out (K_gOut csK2 a b d _ _ _ _ _ c hp k)
  gin := fun a b d c hp k => C_graph_Graph_In (K_gIn csK2 a b d _ _ _ _ _ c hp k)
  rhas := fun a k => C_simulcastref40_Has (K_rHas a k)
  ris := fun a k => C_simulcastref40_Is (K_rIs a k)
  rlab := fun a k => C_simulcastref40_Label (K_rLabel a k)
  rwei := fun a k => C_simulcastref40_Weight (K_rWeight a k)
  radd := fun a k => C_simulcastref40_Add (K_rAdd a k)
  rlink := fun a k => C_simulcastref40_Link (K_rLink a k)
  rcut := fun a k => C_simulcastref40_Cut (K_rCut a k)
  rdrop := fun a k => C_simulcastref40_Drop (K_rDrop a k)
  rout := fun a k => C_simulcastref40_Out (K_rOut a k)
  rin := fun a k => C_simulcastref40_In (K_rIn a k)
  rsame := fun a b c k => C_simulcastref40_Same (K_rSame a b c k)
  hdl40 := fun a b c k => C_simulcastlaw40_handle (K_handle a b c k)
  made40 := fun a k => C_simulcastlaw40_made (K_made a k)
  empty40 := fun a k => C_simulcastlaw40_empty (K_empty40 csD a k) }
theorem csK6 : CsK6 (Sys.of Go.Proofs.Try.prog) ids := { csK5 with
  gdo := fun a b c d e f k => C_simulcastlaw40_do (K_gDo csK5 a b c d e f k) }
theorem csK7 : CsK7 (Sys.of Go.Proofs.Try.prog) ids := { csK6 with
  gsame := fun a b k => C_simulcastlaw40_same (K_gSame csK6 a b k)
  gplayed := fun a b c k => C_simulcastlaw40_played (K_gPlayed csK6 a b c k)
  gawake := fun k => C_simulcastlaw40_awake (K_gAwake csK6 k) }
theorem wf_i16 {z : Int} (h : (Lit.int .i16 z).wf = true) : R16 z := by
  have h1 : IntKind.i16.min = -32768 := rfl
  have h2 : IntKind.i16.max = 32767 := rfl
  simp only [Lit.wf, Bool.and_eq_true, decide_eq_true_eq] at h
  exact ⟨by omega, by omega⟩
/-- a call among the arguments -/
theorem el_c40 {H : Type} {enc : TypeId × Value → H} {P : Program} {W : World} {e : TypeId} (hs : shp P e [some .u8, some .i16, some .i16, some .i64] = true) :
    ∀ n cs y, DataW.trod enc P W 0 (fun _ => true) true n e cs = some y → ∃ x : C40, cs = ECl.c x ∧ x.ok := by
  intro n cs y h
  obtain ⟨hlen, hf⟩ := el_shape hs n cs y h
  match cs, hlen with
  | [c0, c1, c2, c3], _ =>
    obtain ⟨z0, e0, w0⟩ := hf 0 _ rfl
    obtain ⟨z1, e1, w1⟩ := hf 1 _ rfl
    obtain ⟨z2, e2, w2⟩ := hf 2 _ rfl
    obtain ⟨z3, e3, w3⟩ := hf 3 _ rfl
    simp only [List.getElem?_cons_zero, List.getElem?_cons_succ, Option.some.injEq] at e0 e1 e2 e3
    exact ⟨⟨z0, z1, z2, z3⟩, by rw [e0, e1, e2, e3]; rfl, wf_u8 w0, wf_i16 w1, wf_i16 w2, wf_i64 w3⟩
end Go.En
