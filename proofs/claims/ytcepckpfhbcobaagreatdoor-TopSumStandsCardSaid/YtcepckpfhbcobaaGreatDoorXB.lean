/- Library, part B. -/
import Derived.Test.YtcepckpfhbcobaaGreatDoorXA
set_option maxRecDepth 100000
set_option linter.defProp false
namespace Go.En
open Go.Proofs.Tryz
set_option maxRecDepth 100000
attribute [local irreducible] Vb Eb Sb Br Cl Ci Cw Ap Nx HJ sV JU KW sO z5 Ri Rg Jp Xb A2 nw kc mH fa sL I4 bin Qb ext kq ED xO Uj Ej Re NY nF ML zL uk pos? FV inl WL mx mn Pa B9 Ib MB SA Lb uX Tg VJ VG VR W7 Xd NU fin LL RB Yp okB We VF S8 Wl V4
abbrev B2:Array Value:=#[.slice none 0 0,.slice none 0 0,.slice none 0 0,.slice none 0 0,.map none,.slice none 0 0,.int .i64 0,.slice none 0 0,.slice none 0 0]
abbrev LM:Array Value:=#[.int .i64 0,.int .i64 0,.int .i64 0,.int .i64 0,.int .i64 0,.bool false,.slice none 0 0,.slice none 0 0,.nilIface,.slice none 0 0,.slice none 0 0,.slice none 0 0,.bool false]
abbrev pJ:Array Value:=#[.int .i64 0,.int .i64 0,.int .i64 0,.int .u32 0,.int .u32 0,.int .i64 0,.int .u32 0,.int .u32 0]
abbrev tJ:Array Value:=#[.int .i64 0,.int .i64 0,.int .u32 0,.int .u32 0,.int .i64 0,.bool false]
abbrev WG:Array Value:=#[.int .i64 0,.int .i64 0,.int .i64 0,.int .i64 0,.int .i64 0,.bool false,.slice none 0 0,.nilFunc,.bool false,.bool false]
abbrev X1:Array Value:=#[.int .i64 0,.int .i64 0,.int .i64 0,.bool false,.slice none 0 0,.int .i64 0,.int .i64 0,.int .i64 0,.int .i64 0,.nilIface,.bool false,.int .i64 0,.bool false,.nilFunc,.nilFunc]
abbrev Ec:Array Value:=#[.int .i64 0,.int .i64 0,.int .i64 0,.bool false,.bool false,.slice none 0 0,.int .i64 0,.int .i64 0,.slice none 0 0,.slice none 0 0,.int .i64 0,.int .u32 0,.int .u32 0,.nilIface,.bool false,.nilFunc]
abbrev DK:Array Value:=#[.int .i64 0,.int .i64 0,.int .i64 0,.int .u32 0,.int .i64 0,.int .i64 0,.int .i64 0,.int .i64 0,.bool false,.slice none 0 0,.int .i64 0,.slice none 0 0,.int .i64 0,.int .i64 0,.int .i64 0,.int .u32 0,.int .u32 0,.nilIface,.bool false,.nilFunc,.nilFunc]
structure Ids where
 mt:TypeId->String->Option FuncId
def Lf (n:Nat) (x:Value) (h:Hp) (k:Value->Prop):Prop:=Vb (fa n x) λq=>Vb (mH q h) k
def X3 (v:Value) (k:Value->Value->Value->Prop):Prop:=Vb (ext 0 v) λa=>Vb (ext 1 v) λb=>Vb (ext 2 v) (k a b)
def X2 (v:Value) (k:Value->Value->Prop):Prop:=Vb (ext 0 v) λa=>Vb (ext 1 v) (k a)
noncomputable def ids:Ids:={mt:=Yc Go.Proofs.Tryz.prog}
def mixed:Go.Proofs.Tryz.prog.follows .mixedOrders=true:=by kernel_rfl
noncomputable abbrev pj:Program:=Go.Proofs.Tryz.prog
noncomputable abbrev Mr:Sys:=Sys.of pj
abbrev jV (t:HT):HT:=.s .z t
abbrev jW:HT:=.s .z .z
abbrev lp (t:HT):HT:=.s (.s .z (.c (.s .z .z) .z)) t
noncomputable abbrev S:Sys:=Mr
noncomputable abbrev I:Ids:=ids
def Tz0 (f:Nat) (Q:Hp->(Value->Hp->Prop)->Prop):Prop:=∀{h R},Q  h R->Mr.C f [] h R
def tx0 {f:Nat} {fn:Func} (u:pj.funcs[f]?=some fn) (B:HT) {Q:Hp->(Value->Hp->Prop)->Prop} (ok:∀ h R,vW pj fn B [] h R=Q  h R:=by intro  h R; show ?A=?B; refine(?f:(?A=?B)->(?A=?B)) (rd _); intro _; kernel_rfl) (q:okF pj f=true:=by kernel_rfl):{Q:Hp->(Value->Hp->Prop)->Prop // Tz0 f Q}:=⟨Q,λ{h R} H=>nX u q mixed (ok  h R).symm H⟩
def tp0 {f:Nat} {fn:Func} (u:pj.funcs[f]?=some fn) (B:HT) (Q:Hp->(Value->Hp->Prop)->Prop) (ok:∀ h R,vW pj fn B [] h R=Q  h R:=by intro  h R; kernel_rfl) (q:okF pj f=true:=by kernel_rfl):{Q:Hp->(Value->Hp->Prop)->Prop // Tz0 f Q}:=⟨Q,λ{h R} H=>nX u q mixed (ok  h R).symm H⟩
def Tz1 (f:Nat) (Q:Value->Hp->(Value->Hp->Prop)->Prop):Prop:=∀{a h R},Q a h R->Mr.C f [a] h R
def oH {f:Nat} {fn:Func} (u:pj.funcs[f]?=some fn) (B:HT) {Q:Value->Hp->(Value->Hp->Prop)->Prop} (ok:∀a h R,vW pj fn B [a] h R=Q a h R:=by intro a h R; show ?A=?B; refine(?f:(?A=?B)->(?A=?B)) (rd _); intro _; kernel_rfl) (q:okF pj f=true:=by kernel_rfl):{Q:Value->Hp->(Value->Hp->Prop)->Prop // Tz1 f Q}:=⟨Q,λ{a h R} H=>nX u q mixed (ok a h R).symm H⟩
def tp1 {f:Nat} {fn:Func} (u:pj.funcs[f]?=some fn) (B:HT) (Q:Value->Hp->(Value->Hp->Prop)->Prop) (ok:∀a h R,vW pj fn B [a] h R=Q a h R:=by intro a h R; kernel_rfl) (q:okF pj f=true:=by kernel_rfl):{Q:Value->Hp->(Value->Hp->Prop)->Prop // Tz1 f Q}:=⟨Q,λ{a h R} H=>nX u q mixed (ok a h R).symm H⟩
def Tz2 (f:Nat) (Q:Value->Value->Hp->(Value->Hp->Prop)->Prop):Prop:=∀{a b h R},Q a b h R->Mr.C f [a,b] h R
def lZ {f:Nat} {fn:Func} (u:pj.funcs[f]?=some fn) (B:HT) {Q:Value->Value->Hp->(Value->Hp->Prop)->Prop} (ok:∀a b h R,vW pj fn B [a,b] h R=Q a b h R:=by intro a b h R; show ?A=?B; refine(?f:(?A=?B)->(?A=?B)) (rd _); intro _; kernel_rfl) (q:okF pj f=true:=by kernel_rfl):{Q:Value->Value->Hp->(Value->Hp->Prop)->Prop // Tz2 f Q}:=⟨Q,λ{a b h R} H=>nX u q mixed (ok a b h R).symm H⟩
def QZ {f:Nat} {fn:Func} (u:pj.funcs[f]?=some fn) (B:HT) (Q:Value->Value->Hp->(Value->Hp->Prop)->Prop) (ok:∀a b h R,vW pj fn B [a,b] h R=Q a b h R:=by intro a b h R; kernel_rfl) (q:okF pj f=true:=by kernel_rfl):{Q:Value->Value->Hp->(Value->Hp->Prop)->Prop // Tz2 f Q}:=⟨Q,λ{a b h R} H=>nX u q mixed (ok a b h R).symm H⟩
def Tz3 (f:Nat) (Q:Value->Value->Value->Hp->(Value->Hp->Prop)->Prop):Prop:=∀{a b c h R},Q a b c h R->Mr.C f [a,b,c] h R
def vz {f:Nat} {fn:Func} (u:pj.funcs[f]?=some fn) (B:HT) {Q:Value->Value->Value->Hp->(Value->Hp->Prop)->Prop} (ok:∀a b c h R,vW pj fn B [a,b,c] h R=Q a b c h R:=by intro a b c h R; show ?A=?B; refine(?f:(?A=?B)->(?A=?B)) (rd _); intro _; kernel_rfl) (q:okF pj f=true:=by kernel_rfl):{Q:Value->Value->Value->Hp->(Value->Hp->Prop)->Prop // Tz3 f Q}:=⟨Q,λ{a b c h R} H=>nX u q mixed (ok a b c h R).symm H⟩
def tp3 {f:Nat} {fn:Func} (u:pj.funcs[f]?=some fn) (B:HT) (Q:Value->Value->Value->Hp->(Value->Hp->Prop)->Prop) (ok:∀a b c h R,vW pj fn B [a,b,c] h R=Q a b c h R:=by intro a b c h R; kernel_rfl) (q:okF pj f=true:=by kernel_rfl):{Q:Value->Value->Value->Hp->(Value->Hp->Prop)->Prop // Tz3 f Q}:=⟨Q,λ{a b c h R} H=>nX u q mixed (ok a b c h R).symm H⟩
def Tz4 (f:Nat) (Q:Value->Value->Value->Value->Hp->(Value->Hp->Prop)->Prop):Prop:=∀{a b c d h R},Q a b c d h R->Mr.C f [a,b,c,d] h R
def UQ {f:Nat} {fn:Func} (u:pj.funcs[f]?=some fn) (B:HT) {Q:Value->Value->Value->Value->Hp->(Value->Hp->Prop)->Prop} (ok:∀a b c d h R,vW pj fn B [a,b,c,d] h R=Q a b c d h R:=by intro a b c d h R; show ?A=?B; refine(?f:(?A=?B)->(?A=?B)) (rd _); intro _; kernel_rfl) (q:okF pj f=true:=by kernel_rfl):{Q:Value->Value->Value->Value->Hp->(Value->Hp->Prop)->Prop // Tz4 f Q}:=⟨Q,λ{a b c d h R} H=>nX u q mixed (ok a b c d h R).symm H⟩
def Tz5 (f:Nat) (Q:Value->Value->Value->Value->Value->Hp->(Value->Hp->Prop)->Prop):Prop:=∀{a b c d e h R},Q a b c d e h R->Mr.C f [a,b,c,d,e] h R
def Zy {f:Nat} {fn:Func} (u:pj.funcs[f]?=some fn) (B:HT) {Q:Value->Value->Value->Value->Value->Hp->(Value->Hp->Prop)->Prop} (ok:∀a b c d e h R,vW pj fn B [a,b,c,d,e] h R=Q a b c d e h R:=by intro a b c d e h R; show ?A=?B; refine(?f:(?A=?B)->(?A=?B)) (rd _); intro _; kernel_rfl) (q:okF pj f=true:=by kernel_rfl):{Q:Value->Value->Value->Value->Value->Hp->(Value->Hp->Prop)->Prop // Tz5 f Q}:=⟨Q,λ{a b c d e h R} H=>nX u q mixed (ok a b c d e h R).symm H⟩
def tp5 {f:Nat} {fn:Func} (u:pj.funcs[f]?=some fn) (B:HT) (Q:Value->Value->Value->Value->Value->Hp->(Value->Hp->Prop)->Prop) (ok:∀a b c d e h R,vW pj fn B [a,b,c,d,e] h R=Q a b c d e h R:=by intro a b c d e h R; kernel_rfl) (q:okF pj f=true:=by kernel_rfl):{Q:Value->Value->Value->Value->Value->Hp->(Value->Hp->Prop)->Prop // Tz5 f Q}:=⟨Q,λ{a b c d e h R} H=>nX u q mixed (ok a b c d e h R).symm H⟩
end Go.En
