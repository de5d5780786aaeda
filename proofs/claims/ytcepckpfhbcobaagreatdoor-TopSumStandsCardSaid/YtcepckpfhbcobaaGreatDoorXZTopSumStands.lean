/-
  The law simulcast/simulcasttop.TopSumStands, for every input: it returns true and leaves its arguments as they were.
  Condition: the package variable that the row lists reads as the text of the program lays it (the card ties it).
-/
import Derived.Test.YtcepckpfhbcobaaGreatDoorXK
import Derived.Test.YtcepckpfhbcobaaGreatDoorCards
import Derived.Test.YtcepckpfhbcobaaGreatDoorTie
import Derived.LaidMore
import Derived.Lay
import Derived.OpenShut
import Derived.ProofKit
import Derived.SevenTiedAt
import Derived.Stop.Joined
namespace Go.Proofs.YtcepckpfhbcobaaGreatDoor
open Go.ChangeShapes Go.WideShapes Go.ChangeAt Go.RowKit Go.En

theorem topSumStandsOwn : ownKnob Tryz.prog.godebug = none:=by kernel_rfl
theorem topSumStandsLaidOut : laidOutB Tryz.prog = true:=by kernel_rfl
theorem topSumStandsRoots {W : World} (h : laidMetH Tryz.prog Rows.topSumStandsRow.laid W) : Zs W.heap:=by
  rw [MakeChecks.laidMetH_plain _ _ _ (by kernel_rfl)] at h
  obtain ⟨ps,⟨g,t,cs,fuel,p,q,hg,ht,hv,hd,_,_⟩,_,_⟩:=h
  obtain rfl:=Option.some.inj ((show Tryz.prog.globalNamed "simulcast/layout.sizes" = some 0 by kernel_rfl).symm.trans hg)
  obtain rfl:=Option.some.inj ((show (Tryz.prog.globals[0]?).map (·.type) = some 182 by kernel_rfl).symm.trans ht)
  obtain ⟨xs,m,_,ex,_,hl,hel⟩:=DataW.trod_array (show Tryz.prog.underlying 182 = some (.array 7 3) by kernel_rfl) hd
  have cE : Tryz.prog.cellsOf 3 = 1:=by kernel_rfl
  have e3 : (xs.map (·.1)) = ([8,8,8,1,104,0,32] : List Int).map fun n=>.lit (.int .i64 n):=(DataW.agg.inj (Prod.mk.inj ex).1).symm
  have key : ∀ r u,([8,8,8,1,104,0,32] : List Int)[r]? = some u → W.cell? ⟨0,r,Option.none⟩ = some (.int .i64 u):=fun r u hu=>by
    have hr : r < 7:=(List.getElem?_eq_some_iff.1 hu).1
    have hE:=hel r hr
    rw [cE,Nat.mul_one,List.getElem?_eq_getElem (by omega)] at hE
    obtain ⟨z,e1,e2,_⟩:=DataW.trod_int (show Tryz.prog.underlying 3 = some (.int .i64) by kernel_rfl) hE
    have e4 : (xs.map (·.1))[r]? = (([8,8,8,1,104,0,32] : List Int).map fun n=>(DataW.lit (.int .i64 n) : DataW Unit))[r]?:=by rw [e3]
    rw [List.getElem?_map,List.getElem?_map,List.getElem?_eq_getElem (by omega : r < xs.length),hu,e2] at e4
    have hz : z = u:=by
      simpa only [Option.map_some,Option.some.injEq,DataW.lit.injEq,Lit.int.injEq,true_and] using e4
    rw [World.var?_cell hg hv r,← hz]
    have : cs.toList[r]? = some (.int .i64 z):=by
      have h0 : ((cs.toList.drop r).take 1)[0]? = some (.int .i64 z):=by rw [e1]; rfl
      simpa using h0
    simpa using this
  refine ⟨fun j u hu=>?_⟩
  have hc : ∃ y,([8,8,8,1,104,0,32] : List Int)[j]? = some y ∧ u = .int .i64 y:=by
    match j,hu with
    | 0,hu=>exact ⟨_,rfl,(Option.some.inj hu).symm⟩
    | 1,hu=>exact ⟨_,rfl,(Option.some.inj hu).symm⟩
    | 2,hu=>exact ⟨_,rfl,(Option.some.inj hu).symm⟩
    | 3,hu=>exact ⟨_,rfl,(Option.some.inj hu).symm⟩
    | 4,hu=>exact ⟨_,rfl,(Option.some.inj hu).symm⟩
    | 5,hu=>exact ⟨_,rfl,(Option.some.inj hu).symm⟩
    | 6,hu=>exact ⟨_,rfl,(Option.some.inj hu).symm⟩
    | j + 7,hu=>simp [EAr] at hu
  obtain ⟨y,hy,rfl⟩:=hc
  have:=key j y hy
  unfold cl
  unfold World.cell? at this
  dsimp only at this
  rw [Nat.zero_add]
  split at this
  · rename_i c e f hh
    rw [hh]
    simpa using this
  · cases this
set_option maxRecDepth 100000 in
theorem topSumStandsLifted (os : Os) (started : os.Started) (H : Type) (enc : TypeId × Value → H) :
    ReturnsInHanded {} Tryz.checked os 5 .any (fun w args=>(Rows.topSumStandsSpec.pre enc Tryz.prog Tryz.f5 Rows.topSumStandsRow.domain false w args ∧ laidMetH Tryz.prog Rows.topSumStandsRow.laid w) ∧ sizedMet enc Tryz.prog Tryz.f5 (OpenSpec.ofChange Rows.topSumStandsSpec) false w args) (Rows.topSumStandsSpec.post enc Tryz.prog Tryz.f5 false true false false):=by
  refine returnsInHanded_of_change_and (C:=Tryz.checked) (X:=fun w _=>laidMetH Tryz.prog Rows.topSumStandsRow.laid w) (fun _ _ _ hh h=>h.of_heap hh) topSumStandsOwn started (by kernel_rfl) Tryz.func5
    (ChangeSpec.witness_shaped (enc:=enc) (C:=Tryz.checked) (os:=os) (X:=fun w _=>laidMetH Tryz.prog Rows.topSumStandsRow.laid w) false (World.laidAll Tryz.prog os Rows.topSumStandsRow.laid) #[.slice none 0 0,.slice none 0 0,.int IntKind.i64 0] 8 (World.laidAll_os _ _ _)
      (World.shaped_of_ZipB (by kernel_rfl) (by kernel_rfl)) (by kernel_rfl) (by kernel_rfl) (by kernel_rfl)
      (by rw [MakeChecks.laidMetH_plain _ _ _ (by kernel_rfl)]; exact laidMet_laidAll _ (by kernel_rfl) (by kernel_rfl))) ?_
  intro W base args ds gs before hval0 hW _ _ hL _
  have hRt:=topSumStandsRoots hL
  have hval : ∀ (j : Nat) t v,Tryz.f5.params[j]? = some t → args[j]? = some v → Value.okWide Tryz.prog W .any base t v:=hval0
  clear hval0
  have hW':=hW
  obtain ⟨p,q,hA0,hV,rfl,hfz,hnd⟩:=hW
  have hA : DataW.TrodAll enc Tryz.prog W 0 (fun _=>true) true [76,24,3] args.toList ds p:=hA0
  obtain ⟨v0,v1,v2,d0,d1,d2,p0,p1,p2,rfl,rfl,rfl,h0,h1,h2⟩:=trodAll_three hA
  obtain ⟨x0,s0,w0⟩:=sl_open (E:=EH1) (t:=76) (e:=86) (by kernel_rfl) (by kernel_rfl) (by decide) (el_mm (e:=95) (e':=124) (by kernel_rfl) (by kernel_rfl)) (hval 0 76 v0 rfl rfl) h0
  obtain ⟨x1,s1,w1⟩:=sl_open (E:=EPi) (t:=24) (e:=45) (by kernel_rfl) (by kernel_rfl) (by decide) (el_pi (by kernel_rfl)) (hval 1 24 v1 rfl rfl) h1
  obtain ⟨x2,rfl,rfl,rfl,w2⟩:=open_int (t:=3) (k:=.i64) (by kernel_rfl) (hval 2 3 v2 rfl rfl) h2
  refine true_calls (tb:=4) topSumStandsLaidOut (by kernel_rfl) rfl rfl (by kernel_rfl) (fun ds hd=>?_) hW' ?_
  · match ds,hd with
    | [d0,d1,d2],_=>rfl
  · exact (X_simulcasttop_TopSumStands.2 (M_TopSumStands s0 w0 s1 hRt fun h' g=>⟨rfl,g⟩)).2

theorem topSumStands_holds : Rows.TopSumStandsSaid :=
  OpenClaim.holds_of_wide 5 Tryz.f5 rfl rfl rfl rfl rfl rfl rfl ⟨rfl,rfl,rfl,rfl,rfl⟩ rfl rfl rfl rfl rfl (by kernel_rfl) Tryz.func5 (by kernel_rfl)
    (of_decide_eq_true (by kernel_rfl)) (by unfold Func.isWrapper; first | (rw [if_pos (by decide +kernel)]; kernel_rfl) | (rw [if_neg (by decide +kernel)]; exact ⟨rfl,rfl⟩))
    (fun os started H enc _=>topSumStandsLifted os started H enc)
theorem topSumStands_card : Rows.TopSumStandsCardSaid :=
  Claim7.holds_tied_plain_at .later [] [.data] true (true,"939c6f765fe61d43686abe25b9cf55a0a732e8f86028a908e600bbd7815e5e5a") true
    topSumStands_holds (fun _ h=>by cases h) (by kernel_rfl) (fun _ h=>by cases h) topSumStands_row_tie rfl ⟨rfl,rfl⟩ (by kernel_rfl) rfl
    (fun f fn hf hfn=>by
      obtain rfl : f = 5:=Option.some.inj ((show Tryz.prog.funcNamed "simulcast/simulcasttop.TopSumStands" = some 5 by kernel_rfl).symm.trans hf) |>.symm
      obtain rfl : fn = Tryz.f5:=(Option.some.inj (Tryz.func5.symm.trans hfn)).symm
      exact ⟨by kernel_rfl,fun j t ht=>by
        rw [show Tryz.f5.params = #[76,24,3] from rfl] at ht
        have hm : t ∈ [76,24,3]:=by simpa using Array.mem_of_getElem? ht
        have hall : ([76,24,3].all fun u=>!Tryz.prog.wantsStandIn u) = true:=by kernel_rfl
        exact (show Tryz.prog.wantsStandIn t = false by simpa using List.all_eq_true.1 hall t hm)⟩)
    (by kernel_rfl)
#print axioms topSumStands_card

end Go.Proofs.YtcepckpfhbcobaaGreatDoor
