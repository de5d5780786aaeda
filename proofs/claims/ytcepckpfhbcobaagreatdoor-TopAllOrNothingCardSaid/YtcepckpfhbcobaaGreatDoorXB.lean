/-
  Own library for the claim, packed by program: the engine, the clean texts, contracts, the plain law. (Part B.)
-/
import Derived.Test.YtcepckpfhbcobaaGreatDoorXA
set_option maxRecDepth 100000
set_option linter.defProp false
namespace Go.En
open Go.Proofs.Tryz
set_option maxRecDepth 100000
set_option linter.unusedVariables false
attribute [local irreducible] Vb Eb Sb Br Cl Ci Cw Ap Nx Cm m3 Du Fm oP wA Km Rg Jp Xb A2 nw aP eH fa nh Dl bin MH ext bF zO sB OK B5 Mr J2 fV FG tg nX pos? Az inl PO mx mn JM wB CC Gb K9 Fg oV MJ PG Pu O2 Q8 Qw Hy fin GZ Lw Rk okB O9 Ps Mz O7 O4
abbrev uU:Array Value:=#[.slice none 0 0,.slice none 0 0,.slice none 0 0,.slice none 0 0,.map none,.slice none 0 0,.int .i64 0,.slice none 0 0,.slice none 0 0]
abbrev GJ:Array Value:=#[.int .i64 0,.int .i64 0,.int .i64 0,.int .i64 0,.int .i64 0,.bool false,.slice none 0 0,.slice none 0 0,.nilIface,.slice none 0 0,.slice none 0 0,.slice none 0 0,.bool false]
abbrev jQ:Array Value:=#[.int .i64 0,.int .i64 0,.int .i64 0,.int .u32 0,.int .u32 0,.int .i64 0,.int .u32 0,.int .u32 0]
abbrev nS:Array Value:=#[.int .i64 0,.int .i64 0,.int .u32 0,.int .u32 0,.int .i64 0,.bool false]
abbrev PM:Array Value:=#[.int .i64 0,.int .i64 0,.int .i64 0,.int .i64 0,.int .i64 0,.bool false,.slice none 0 0,.nilFunc,.bool false,.bool false]
abbrev Qx:Array Value:=#[.int .i64 0,.int .i64 0,.int .i64 0,.bool false,.slice none 0 0,.int .i64 0,.int .i64 0,.int .i64 0,.int .i64 0,.nilIface,.bool false,.int .i64 0,.bool false,.nilFunc,.nilFunc]
abbrev yN:Array Value:=#[.int .i64 0,.int .i64 0,.int .i64 0,.bool false,.bool false,.slice none 0 0,.int .i64 0,.int .i64 0,.slice none 0 0,.slice none 0 0,.int .i64 0,.int .u32 0,.int .u32 0,.nilIface,.bool false,.nilFunc]
abbrev yx:Array Value:=#[.int .i64 0,.int .i64 0,.int .i64 0,.int .u32 0,.int .i64 0,.int .i64 0,.int .i64 0,.int .i64 0,.bool false,.slice none 0 0,.int .i64 0,.slice none 0 0,.int .i64 0,.int .i64 0,.int .i64 0,.int .u32 0,.int .u32 0,.nilIface,.bool false,.nilFunc,.nilFunc]
structure UF where
 mt:TypeId->String->Option FuncId
def Lf (n:Nat) (x:Value) (h:Hp) (k:Value->Prop):Prop:=Vb (fa n x) λq=>Vb (eH q h) k
def X3 (v:Value) (k:Value->Value->Value->Prop):Prop:=Vb (ext 0 v) λa=>Vb (ext 1 v) λb=>Vb (ext 2 v) (k a b)
def X2 (v:Value) (k:Value->Value->Prop):Prop:=Vb (ext 0 v) λa=>Vb (ext 1 v) (k a)
noncomputable def ids:UF:={mt:=Rn Go.Proofs.Tryz.prog}
def mixed:Go.Proofs.Tryz.prog.follows .mixedOrders=true:=by kernel_rfl
noncomputable abbrev jA:Program:=Go.Proofs.Tryz.prog
noncomputable abbrev Fu:Sys:=Sys.of jA
abbrev aH (t:HT):HT:=.s .z t
abbrev aI:HT:=.s .z .z
abbrev cC (t:HT):HT:=.s (.s .z (.c (.s .z .z) .z)) t
noncomputable abbrev S:Sys:=Fu
noncomputable abbrev I:UF:=ids
def UD (f:Nat) (Q:Hp->(Value->Hp->Prop)->Prop):Prop:=∀{h R},Q  h R->Fu.C f [] h R
def Vp {f:Nat} {fn:Func} (u:jA.funcs[f]?=some fn) (A:HT) {Q:Hp->(Value->Hp->Prop)->Prop} (ok:∀ h R,pJ jA fn A [] h R=Q  h R:=by intro  h R; show ?A=?B; refine(?f:(?A=?B)->(?A=?B)) (rd _); intro _; kernel_rfl) (q:okF jA f=true:=by kernel_rfl):{Q:Hp->(Value->Hp->Prop)->Prop // UD f Q}:=⟨Q,λ{h R} H=>gI u q mixed (ok  h R).symm H⟩
def Vh {f:Nat} {fn:Func} (u:jA.funcs[f]?=some fn) (A:HT) (Q:Hp->(Value->Hp->Prop)->Prop) (ok:∀ h R,pJ jA fn A [] h R=Q  h R:=by intro  h R; kernel_rfl) (q:okF jA f=true:=by kernel_rfl):{Q:Hp->(Value->Hp->Prop)->Prop // UD f Q}:=⟨Q,λ{h R} H=>gI u q mixed (ok  h R).symm H⟩
def UI (f:Nat) (Q:Value->Hp->(Value->Hp->Prop)->Prop):Prop:=∀{a h R},Q a h R->Fu.C f [a] h R
def iJ {f:Nat} {fn:Func} (u:jA.funcs[f]?=some fn) (A:HT) {Q:Value->Hp->(Value->Hp->Prop)->Prop} (ok:∀a h R,pJ jA fn A [a] h R=Q a h R:=by intro a h R; show ?A=?B; refine(?f:(?A=?B)->(?A=?B)) (rd _); intro _; kernel_rfl) (q:okF jA f=true:=by kernel_rfl):{Q:Value->Hp->(Value->Hp->Prop)->Prop // UI f Q}:=⟨Q,λ{a h R} H=>gI u q mixed (ok a h R).symm H⟩
def UW {f:Nat} {fn:Func} (u:jA.funcs[f]?=some fn) (A:HT) (Q:Value->Hp->(Value->Hp->Prop)->Prop) (ok:∀a h R,pJ jA fn A [a] h R=Q a h R:=by intro a h R; kernel_rfl) (q:okF jA f=true:=by kernel_rfl):{Q:Value->Hp->(Value->Hp->Prop)->Prop // UI f Q}:=⟨Q,λ{a h R} H=>gI u q mixed (ok a h R).symm H⟩
def UL (f:Nat) (Q:Value->Value->Hp->(Value->Hp->Prop)->Prop):Prop:=∀{a b h R},Q a b h R->Fu.C f [a,b] h R
def dL {f:Nat} {fn:Func} (u:jA.funcs[f]?=some fn) (A:HT) {Q:Value->Value->Hp->(Value->Hp->Prop)->Prop} (ok:∀a b h R,pJ jA fn A [a,b] h R=Q a b h R:=by intro a b h R; show ?A=?B; refine(?f:(?A=?B)->(?A=?B)) (rd _); intro _; kernel_rfl) (q:okF jA f=true:=by kernel_rfl):{Q:Value->Value->Hp->(Value->Hp->Prop)->Prop // UL f Q}:=⟨Q,λ{a b h R} H=>gI u q mixed (ok a b h R).symm H⟩
def MG {f:Nat} {fn:Func} (u:jA.funcs[f]?=some fn) (A:HT) (Q:Value->Value->Hp->(Value->Hp->Prop)->Prop) (ok:∀a b h R,pJ jA fn A [a,b] h R=Q a b h R:=by intro a b h R; kernel_rfl) (q:okF jA f=true:=by kernel_rfl):{Q:Value->Value->Hp->(Value->Hp->Prop)->Prop // UL f Q}:=⟨Q,λ{a b h R} H=>gI u q mixed (ok a b h R).symm H⟩
def UY (f:Nat) (Q:Value->Value->Value->Hp->(Value->Hp->Prop)->Prop):Prop:=∀{a b c h R},Q a b c h R->Fu.C f [a,b,c] h R
def qf {f:Nat} {fn:Func} (u:jA.funcs[f]?=some fn) (A:HT) {Q:Value->Value->Value->Hp->(Value->Hp->Prop)->Prop} (ok:∀a b c h R,pJ jA fn A [a,b,c] h R=Q a b c h R:=by intro a b c h R; show ?A=?B; refine(?f:(?A=?B)->(?A=?B)) (rd _); intro _; kernel_rfl) (q:okF jA f=true:=by kernel_rfl):{Q:Value->Value->Value->Hp->(Value->Hp->Prop)->Prop // UY f Q}:=⟨Q,λ{a b c h R} H=>gI u q mixed (ok a b c h R).symm H⟩
def Vv {f:Nat} {fn:Func} (u:jA.funcs[f]?=some fn) (A:HT) (Q:Value->Value->Value->Hp->(Value->Hp->Prop)->Prop) (ok:∀a b c h R,pJ jA fn A [a,b,c] h R=Q a b c h R:=by intro a b c h R; kernel_rfl) (q:okF jA f=true:=by kernel_rfl):{Q:Value->Value->Value->Hp->(Value->Hp->Prop)->Prop // UY f Q}:=⟨Q,λ{a b c h R} H=>gI u q mixed (ok a b c h R).symm H⟩
def Vy (f:Nat) (Q:Value->Value->Value->Value->Hp->(Value->Hp->Prop)->Prop):Prop:=∀{a b c d h R},Q a b c d h R->Fu.C f [a,b,c,d] h R
def OD {f:Nat} {fn:Func} (u:jA.funcs[f]?=some fn) (A:HT) {Q:Value->Value->Value->Value->Hp->(Value->Hp->Prop)->Prop} (ok:∀a b c d h R,pJ jA fn A [a,b,c,d] h R=Q a b c d h R:=by intro a b c d h R; show ?A=?B; refine(?f:(?A=?B)->(?A=?B)) (rd _); intro _; kernel_rfl) (q:okF jA f=true:=by kernel_rfl):{Q:Value->Value->Value->Value->Hp->(Value->Hp->Prop)->Prop // Vy f Q}:=⟨Q,λ{a b c d h R} H=>gI u q mixed (ok a b c d h R).symm H⟩
def UX (f:Nat) (Q:Value->Value->Value->Value->Value->Hp->(Value->Hp->Prop)->Prop):Prop:=∀{a b c d e h R},Q a b c d e h R->Fu.C f [a,b,c,d,e] h R
def SQ {f:Nat} {fn:Func} (u:jA.funcs[f]?=some fn) (A:HT) {Q:Value->Value->Value->Value->Value->Hp->(Value->Hp->Prop)->Prop} (ok:∀a b c d e h R,pJ jA fn A [a,b,c,d,e] h R=Q a b c d e h R:=by intro a b c d e h R; show ?A=?B; refine(?f:(?A=?B)->(?A=?B)) (rd _); intro _; kernel_rfl) (q:okF jA f=true:=by kernel_rfl):{Q:Value->Value->Value->Value->Value->Hp->(Value->Hp->Prop)->Prop // UX f Q}:=⟨Q,λ{a b c d e h R} H=>gI u q mixed (ok a b c d e h R).symm H⟩
def TB {f:Nat} {fn:Func} (u:jA.funcs[f]?=some fn) (A:HT) (Q:Value->Value->Value->Value->Value->Hp->(Value->Hp->Prop)->Prop) (ok:∀a b c d e h R,pJ jA fn A [a,b,c,d,e] h R=Q a b c d e h R:=by intro a b c d e h R; kernel_rfl) (q:okF jA f=true:=by kernel_rfl):{Q:Value->Value->Value->Value->Value->Hp->(Value->Hp->Prop)->Prop // UX f Q}:=⟨Q,λ{a b c d e h R} H=>gI u q mixed (ok a b c d e h R).symm H⟩
end Go.En
namespace Go.En
open Go.Proofs.Tryz
noncomputable section
set_option maxRecDepth 100000
set_option linter.unusedVariables false
set_option maxHeartbeats 400000
attribute [local irreducible] Vb Eb Sb Br Cl Ci Cw Ap Nx Cm m3 Du Fm oP wA Km Rg Jp Xb A2 nw aP eH fa nh Dl bin MH ext bF zO sB OK B5 Mr J2 fV FG tg nX pos? Az inl PO mx mn JM wB CC Gb K9 Fg oV MJ PG Pu O2 Q8 Qw Hy fin GZ Lw Rk okB O9 Ps Mz O7 O4
def X_simulcasttop_TopAllOrNothing:=qf func4 (aH (cC (cC (aH (cC (aH aI))))))
def wD:=iJ func11 (aH aI)
def gT:=qf func17 (aH (aH (aH (.s (aH (.b (.l [10] [0,1,2,6,8,9,87] (.s (.j [35] [0,1,2,6,8,9,10,87] .z (.c .z .z)) (.s (.b (.o (oc [0,1,2,4,5,6,7,8,3,9,10,11] .nil))) .z))))) (aH (aH (.s (aH (.b (.l [13,58] [1,6,8,11,12,56,57,87] (aH (.s (.c .z .z) (.s (.b aI) .z)))))) (aH (.j [7] [6,87] .z .z)))))))))
def kz:=qf func21 (aH (.s (.j [24] [1,2,3,6,49] .z (.c aI .z)) (.j [] [1,3,6,49] (aH (.b (.l [28] [1,3,6,27,49] (aH (.s (.c .z .z) (.s (.b (aH (.s (aH (.c .z .z)) .z))) .z)))))) (.s (.o (oc [0,1,2,3,4,5,6,7,8,9] .nil)) .z))))
def eK:=iJ func25 (aH (aH (aH (.s (aH (.b (.l [5,15] [1,14,30] (aH (.s (.c .z .z) (.s (.b (aH aI)) .z)))))) aI))))
def qQ:=iJ func29 (aH (cC (aH (aH (.s (aH (.b (.l [4] [1,3,42] (.s (aH (.c .z .z)) (.s (.b .z) .z))))) (.s (aH (.b (.l [31] [1,3,30,42] (aH (.s (.c .z .z) (.s (.b aI) .z)))))) aI))))))
def fY:=qf func41 (aH (aH (aH (aH (aH (.s (.o (oc [0,1,2,4,5,6,3,7,8,9,10,11,12] .nil)) (.s (.j [58] [6,10,13,84] .z (.c aI .z)) (.s (aH (.b (.l [64] [6,10,13,62,63,84] (aH (.s (.c .z .z) (.s (.b (aH (aH (.j [78] [6,10,13,62,63,64,84] .z (.c aI .z))))) .z)))))) aI))))))))
def rP:=qf func45 (aH (.s (.b (.j [16] [1,2,3,6,96] .z (.c aI (aH (.c aI .z))))) (aH (aH (aH (cC (aH (.s (.j [71] [2,6,8,11,12,96] .z (.c aI .z)) (.s (aH (.b (.l [76] [2,6,8,11,74,75,96] (aH (.s (.c .z .z) (.s (.b (aH (.j [87] [2,6,8,11,15,74,75,76,96] .z (.c aI .z)))) .z)))))) aI)))))))))
def lF:=iJ func49 (aH aI)
def lG:=dL func53 (aH aI)
def fF:=iJ func61 (aH (cC aI))
def lE:=dL func71 (aH (aH (.s (aH (.b (.l [6] [1,5,42] (.s (aH (.c .z .z)) (.j [] [1,5,6,42] (.b (aH (.c (.o (oc [0,1,2,3,4,5,6,7,8,9,10,11,12,13,14,15,16,17,18,19,20] .nil)) .z))) .z))))) aI)))
def Gi:=iJ func75 (aH (aH (.s (aH (aH (.c aI .z))) aI)))
def qj:=iJ func79 (aH (aH aI))
def pO:=OD func83 (aH (.s (.o (oc [0,1,2,3,4,5,6,7] .nil)) (.s (.j [18] [1,4,8,27] .z (.c (aH aI) .z)) (aH aI))))
def pz:=qf func87 (aH (aH (.s (.b (.j [14] [5,8,51] .z (.c aI (.j [22] [5,8,51] .z (.c aI (.j [31] [51] .z (.c aI .z))))))) aI)))
def vt:=dL func91 (aH (cC (aH (.s (aH (.b (.l [] [1,2,4,20,47] (aH (.s (.c .z .z) (.b (aH (.o (oc [0,1,2,3,4,5,6,7,8,9,10,11,12,13] .nil))))))))) (aH (aH aI))))))
def mL:=dL func107 (aH (.s (.o (oc [0,1,3,4,5,2,6,7] .nil)) (.j [5] [28] (.j [22] [5,28] .z (.c .z .z)) aI)))
def oI:=dL func111 (aH (cC (aH (.s (.b (aH (.c aI (.j [23] [2,3,6,69] .z (.c aI (.j [32] [2,3,6,69] .z (.c aI .z))))))) (.s (aH (aH (.c aI .z))) (cC (.s (aH (.b (.l [54] [2,3,6,52,53,69] (aH (.s (.c .z .z) (.s (.b (aH (aH (.c aI .z)))) .z)))))) (cC aI))))))))
def qN:=SQ func115 (aH (.s (aH (aH (.c aI .z))) aI))
def gB:=iJ func119 (aH (cC aI))
def rT:=SQ func123 (aH aI)
def m4:=dL func133 (aH aI)
def my:=TB func138 (aH (.s (aH (aH (.c aI .z))) (.j [14,15] [10,11,47] (.o (oc [0,1,2,3,4,5,6,7,8,9,10,12,15] (.kK (oc [11] (.kK (oc [13] (.kK (oc [14] (.kK (oc [16,17,18,19] (.kK (oc [20,21,22,23] .nil) (oc [21,20,22,23] .nil))) (.kK (oc [20] (.kK (oc [16,17,18,19,21,22,23] .nil) (oc [21,16,17,18,19,22,23] .nil))) (oc [21] (.kK (oc [16,17,18,19,20,22,23] .nil) (oc [20,16,17,18,19,22,23] .nil)))))) (.kK (oc [20] (.kK (oc [14] (.kK (oc [16,17,18,19,21,22,23] .nil) (oc [21,16,17,18,19,22,23] .nil))) (oc [21,14,16,17,18,19,22,23] .nil))) (oc [21] (.kK (oc [14] (.kK (oc [16,17,18,19,20,22,23] .nil) (oc [20,16,17,18,19,22,23] .nil))) (oc [20,14,16,17,18,19,22,23] .nil)))))) (.kK (oc [20] (.kK (oc [13] (.kK (oc [14] (.kK (oc [16,17,18,19,21,22,23] .nil) (oc [21,16,17,18,19,22,23] .nil))) (oc [21,14,16,17,18,19,22,23] .nil))) (oc [21,13,14,16,17,18,19,22,23] .nil))) (oc [21] (.kK (oc [13] (.kK (oc [14] (.kK (oc [16,17,18,19,20,22,23] .nil) (oc [20,16,17,18,19,22,23] .nil))) (oc [20,14,16,17,18,19,22,23] .nil))) (oc [20,13,14,16,17,18,19,22,23] .nil)))))) (.kK (oc [20] (.kK (oc [11] (.kK (oc [13] (.kK (oc [14] (.kK (oc [16,17,18,19,21,22,23] .nil) (oc [21,16,17,18,19,22,23] .nil))) (oc [21,14,16,17,18,19,22,23] .nil))) (oc [21,13,14,16,17,18,19,22,23] .nil))) (oc [21,11,13,14,16,17,18,19,22,23] .nil))) (oc [21] (.kK (oc [11] (.kK (oc [13] (.kK (oc [14] (.kK (oc [16,17,18,19,20,22,23] .nil) (oc [20,16,17,18,19,22,23] .nil))) (oc [20,14,16,17,18,19,22,23] .nil))) (oc [20,13,14,16,17,18,19,22,23] .nil))) (oc [20,11,13,14,16,17,18,19,22,23] .nil))))))) (.s (.o (oc [0,1,2,3,4] .nil)) .z)))) λj5 m f p q h R=>
 Eb (nw (Value.cells j5) 29 h) λd d1=>Eb (nw #[.slice none 0 0,.slice none 0 0] 29 d1) λX ff=>Eb (nw #[.int .i64 0,.int .u32 0,.int .u32 0] 54 ff) λbk cc=>
 Vb (aP 2 d cc) λgz=>S.C 135 [gz,m,f] cc λc3 v=>Vb (bin .neq c3 (.int .i64 0)) λg0=>Br g0 (Vb (aP 2 d v) λg1=>Vb (fV [(0,1),(1,1),(2,1)] #[.int .i64 0,.int .u32 0,.int .u32 0] []) λg2=>
 Sb (bF 2 X g1 v) λf3=>Sb (bF 3 bk g2 f3) λbs=>Vb (aP 2 X bs) λbx=>Vb (aP 3 bk bs) λbz=>R (.tuple #[bx,bz,c3]) bs) (Du (λgy dj bt=>
 Vb (aP 2 gy bt) λj4=>Vb (aP 3 dj bt) λdi=>Sb (bF 2 X j4 bt) λcj=>aP 3 dj cj=some di/\Sb (bF 3 bk di cj) λbv=>Vb (aP 2 X bv) λbx=>
 Vb (aP 3 bk bv) λbz=>R (.tuple #[bx,bz,(.int .i64 0)]) bv) λn=>Vb (aP 2 d v) λa=>Vb (fa 0 d) λg=>Vb (eH g v) λi=>Vb (nh 1 i f) λk=>
 Vb (aP 1 k v) λe=>Vb (aP 2 d v) λw=>And (S.C 145 [w,m] v λaw B=>aP 1 k B=some e/\eH g B=some i/\aP 2 d B=some a/\And (S.C 152 [aw,f] B λax E=>
 aP 1 k E=some e/\eH g E=some i/\aP 2 d E=some a/\And (Cw S.C S.Y I.mt q [e,ax] E λJ Z=>aP 2 d Z=some a/\And (S.C 151 [a,m,f,J,p] Z λhn b4=>
 X2 hn λdg dh=>And (Eb (nw #[.slice none 0 0,.slice none 0 0] 29 b4) λcn eo=>Eb (nw #[.int .i64 0,.int .u32 0,.int .u32 0] 54 eo) λdk ev=>
 Sb (bF 2 cn dg ev) λe3=>Sb (bF 3 dk dh e3) λe8=>n cn dk e8) (Eb (nw #[.int .i64 0,.int .u32 0,.int .u32 0] 54 b4) λdv fd=>Eb (nw #[.slice none 0 0,.slice none 0 0] 29 fd) λcw fe=>
 Sb (bF 2 cw dg fe) λfg=>Sb (bF 3 dv dh fg) λfh=>n cw dv fh)) (And (Eb (nw #[.slice none 0 0,.slice none 0 0] 29 Z) λbi bo=>aP 2 d bo=some a/\And (S.C 151 [a,m,f,J,p] bo λho fi=>
 X2 ho λii jc=>Eb (nw #[.int .i64 0,.int .u32 0,.int .u32 0] 54 fi) λdw fj=>Sb (bF 2 bi ii fj) λfk=>Sb (bF 3 dw jc fk) λfl=>n bi dw fl) (Eb (nw #[.int .i64 0,.int .u32 0,.int .u32 0] 54 bo) λdx cb=>
 aP 2 d cb=some a/\S.C 151 [a,m,f,J,p] cb λhz fm=>X2 hz λiv jn=>Sb (bF 2 bi iv fm) λfn=>Sb (bF 3 dx jn fn) λfo=>n bi dx fo)) (Eb (nw #[.int .i64 0,.int .u32 0,.int .u32 0] 54 Z) λbl bp=>
 aP 2 d bp=some a/\And (S.C 151 [a,m,f,J,p] bp λh9 fp=>X2 h9 λi5 jx=>Eb (nw #[.slice none 0 0,.slice none 0 0] 29 fp) λcy fq=>
 Sb (bF 2 cy i5 fq) λfr=>Sb (bF 3 bl jx fr) λfs=>n cy bl fs) (Eb (nw #[.slice none 0 0,.slice none 0 0] 29 bp) λcz cd=>aP 2 d cd=some a/\S.C 151 [a,m,f,J,p] cd λia ft=>
 X2 ia λi6 jy=>Sb (bF 2 cz i6 ft) λfu=>Sb (bF 3 bl jy fu) λfv=>n cz bl fv)))) (And (Eb (nw #[.slice none 0 0,.slice none 0 0] 29 E) λag K=>
 aP 1 k K=some e/\eH g K=some i/\aP 2 d K=some a/\And (Cw S.C S.Y I.mt q [e,ax] K λda bq=>aP 2 d bq=some a/\And (S.C 151 [a,m,f,da,p] bq λib fw=>
 X2 ib λi7 jz=>Eb (nw #[.int .i64 0,.int .u32 0,.int .u32 0] 54 fw) λdy fx=>Sb (bF 2 ag i7 fx) λfy=>Sb (bF 3 dy jz fy) λfz=>n ag dy fz) (Eb (nw #[.int .i64 0,.int .u32 0,.int .u32 0] 54 bq) λdz ce=>
 aP 2 d ce=some a/\S.C 151 [a,m,f,da,p] ce λic f0=>X2 ic λi8 j0=>Sb (bF 2 ag i8 f0) λf1=>Sb (bF 3 dz j0 f1) λf2=>n ag dz f2)) (Eb (nw #[.int .i64 0,.int .u32 0,.int .u32 0] 54 K) λd0 bd=>
 aP 1 k bd=some e/\eH g bd=some i/\aP 2 d bd=some a/\Cw S.C S.Y I.mt q [e,ax] bd λhi cf=>aP 2 d cf=some a/\S.C 151 [a,m,f,hi,p] cf λie f4=>
 X2 ie λi9 j1=>Sb (bF 2 ag i9 f4) λf5=>Sb (bF 3 d0 j1 f5) λf6=>n ag d0 f6)) (Eb (nw #[.int .i64 0,.int .u32 0,.int .u32 0] 54 E) λF ap=>
 aP 1 k ap=some e/\eH g ap=some i/\aP 2 d ap=some a/\And (Cw S.C S.Y I.mt q [e,ax] ap λdd br=>aP 2 d br=some a/\And (S.C 151 [a,m,f,dd,p] br λig f7=>
 X2 ig λja j2=>Eb (nw #[.slice none 0 0,.slice none 0 0] 29 f7) λc0 f8=>Sb (bF 2 c0 ja f8) λf9=>Sb (bF 3 F j2 f9) λga=>n c0 F ga) (Eb (nw #[.slice none 0 0,.slice none 0 0] 29 br) λc1 cg=>
 aP 2 d cg=some a/\S.C 151 [a,m,f,dd,p] cg λih gb=>X2 ih λjb j3=>Sb (bF 2 c1 jb gb) λgc=>Sb (bF 3 F j3 gc) λgd=>n c1 F gd)) (Eb (nw #[.slice none 0 0,.slice none 0 0] 29 ap) λc2 be=>
 aP 1 k be=some e/\eH g be=some i/\aP 2 d be=some a/\Cw S.C S.Y I.mt q [e,ax] be λhj ch=>aP 2 d ch=some a/\S.C 151 [a,m,f,hj,p] ch λhp ge=>
 X2 hp λij jd=>Sb (bF 2 c2 ij ge) λgf=>Sb (bF 3 F jd gf) λgg=>n c2 F gg)))) (And (Eb (nw #[.slice none 0 0,.slice none 0 0] 29 B) λx L=>
 aP 1 k L=some e/\eH g L=some i/\aP 2 d L=some a/\And (S.C 152 [aw,f] L λc6 M=>aP 1 k M=some e/\eH g M=some i/\aP 2 d M=some a/\And (Cw S.C S.Y I.mt q [e,c6] M λde bu=>
 aP 2 d bu=some a/\And (S.C 151 [a,m,f,de,p] bu λhq gh=>X2 hq λik je=>Eb (nw #[.int .i64 0,.int .u32 0,.int .u32 0] 54 gh) λdl gi=>
 Sb (bF 2 x ik gi) λgj=>Sb (bF 3 dl je gj) λgk=>n x dl gk) (Eb (nw #[.int .i64 0,.int .u32 0,.int .u32 0] 54 bu) λdm ci=>aP 2 d ci=some a/\S.C 151 [a,m,f,de,p] ci λhr gl=>
 X2 hr λil jf=>Sb (bF 2 x il gl) λgm=>Sb (bF 3 dm jf gm) λgn=>n x dm gn)) (Eb (nw #[.int .i64 0,.int .u32 0,.int .u32 0] 54 M) λdn bf=>
 aP 1 k bf=some e/\eH g bf=some i/\aP 2 d bf=some a/\Cw S.C S.Y I.mt q [e,c6] bf λhk ck=>aP 2 d ck=some a/\S.C 151 [a,m,f,hk,p] ck λhs go=>
 X2 hs λim jg=>Sb (bF 2 x im go) λgp=>Sb (bF 3 dn jg gp) λgq=>n x dn gq)) (Eb (nw #[.int .i64 0,.int .u32 0,.int .u32 0] 54 L) λdp bg=>
 aP 1 k bg=some e/\eH g bg=some i/\aP 2 d bg=some a/\S.C 152 [aw,f] bg λg6 bh=>aP 1 k bh=some e/\eH g bh=some i/\aP 2 d bh=some a/\Cw S.C S.Y I.mt q [e,g6] bh λhl cl=>
 aP 2 d cl=some a/\S.C 151 [a,m,f,hl,p] cl λht gr=>X2 ht λio jh=>Sb (bF 2 x io gr) λgs=>Sb (bF 3 dp jh gs) λgt=>n x dp gt)) (Eb (nw #[.int .i64 0,.int .u32 0,.int .u32 0] 54 B) λA N=>
 aP 1 k N=some e/\eH g N=some i/\aP 2 d N=some a/\And (S.C 152 [aw,f] N λc7 O=>aP 1 k O=some e/\eH g O=some i/\aP 2 d O=some a/\And (Cw S.C S.Y I.mt q [e,c7] O λdf bw=>
 aP 2 d bw=some a/\And (S.C 151 [a,m,f,df,p] bw λhu gu=>X2 hu λip ji=>Eb (nw #[.slice none 0 0,.slice none 0 0] 29 gu) λco gv=>
 Sb (bF 2 co ip gv) λgw=>Sb (bF 3 A ji gw) λgx=>n co A gx) (Eb (nw #[.slice none 0 0,.slice none 0 0] 29 bw) λcp cm=>aP 2 d cm=some a/\S.C 151 [a,m,f,df,p] cm λhv d2=>
 X2 hv λiq jj=>Sb (bF 2 cp iq d2) λd3=>Sb (bF 3 A jj d3) λd4=>n cp A d4)) (Eb (nw #[.slice none 0 0,.slice none 0 0] 29 O) λcq az=>
 aP 1 k az=some e/\eH g az=some i/\aP 2 d az=some a/\Cw S.C S.Y I.mt q [e,c7] az λhm b0=>aP 2 d b0=some a/\S.C 151 [a,m,f,hm,p] b0 λhw d5=>
 X2 hw λir jk=>Sb (bF 2 cq ir d5) λd6=>Sb (bF 3 A jk d6) λd7=>n cq A d7)) (Eb (nw #[.slice none 0 0,.slice none 0 0] 29 N) λcr a0=>
 aP 1 k a0=some e/\eH g a0=some i/\aP 2 d a0=some a/\S.C 152 [aw,f] a0 λg7 a1=>aP 1 k a1=some e/\eH g a1=some i/\aP 2 d a1=some a/\Cw S.C S.Y I.mt q [e,g7] a1 λhb b1=>
 aP 2 d b1=some a/\S.C 151 [a,m,f,hb,p] b1 λhx d8=>X2 hx λit jl=>Sb (bF 2 cr it d8) λd9=>Sb (bF 3 A jl d9) λea=>n cr A ea)))) (And (Eb (nw #[.slice none 0 0,.slice none 0 0] 29 v) λt G=>
 aP 2 d G=some w/\aP 1 k G=some e/\eH g G=some i/\aP 2 d G=some a/\And (S.C 145 [w,m] G λc4 Q=>aP 1 k Q=some e/\eH g Q=some i/\aP 2 d Q=some a/\And (S.C 152 [c4,f] Q λc8 T=>
 aP 1 k T=some e/\eH g T=some i/\aP 2 d T=some a/\And (Cw S.C S.Y I.mt q [e,c8] T λdb bm=>aP 2 d bm=some a/\And (S.C 151 [a,m,f,db,p] bm λhy eb=>
 X2 hy λiu jm=>Eb (nw #[.int .i64 0,.int .u32 0,.int .u32 0] 54 eb) λdq ec=>Sb (bF 2 t iu ec) λed=>Sb (bF 3 dq jm ed) λee=>n t dq ee) (Eb (nw #[.int .i64 0,.int .u32 0,.int .u32 0] 54 bm) λdr b2=>
 aP 2 d b2=some a/\S.C 151 [a,m,f,db,p] b2 λh0 ef=>X2 h0 λiw jo=>Sb (bF 2 t iw ef) λeg=>Sb (bF 3 dr jo eg) λeh=>n t dr eh)) (Eb (nw #[.int .i64 0,.int .u32 0,.int .u32 0] 54 T) λds a3=>
 aP 1 k a3=some e/\eH g a3=some i/\aP 2 d a3=some a/\Cw S.C S.Y I.mt q [e,c8] a3 λhc b3=>aP 2 d b3=some a/\S.C 151 [a,m,f,hc,p] b3 λh1 ei=>
 X2 h1 λix jp=>Sb (bF 2 t ix ei) λej=>Sb (bF 3 ds jp ej) λek=>n t ds ek)) (Eb (nw #[.int .i64 0,.int .u32 0,.int .u32 0] 54 Q) λdt a4=>
 aP 1 k a4=some e/\eH g a4=some i/\aP 2 d a4=some a/\S.C 152 [c4,f] a4 λg8 a5=>aP 1 k a5=some e/\eH g a5=some i/\aP 2 d a5=some a/\Cw S.C S.Y I.mt q [e,g8] a5 λhd b5=>
 aP 2 d b5=some a/\S.C 151 [a,m,f,hd,p] b5 λh2 el=>X2 h2 λiy jq=>Sb (bF 2 t iy el) λem=>Sb (bF 3 dt jq em) λen=>n t dt en)) (Eb (nw #[.int .i64 0,.int .u32 0,.int .u32 0] 54 G) λdu U=>
 aP 2 d U=some w/\aP 1 k U=some e/\eH g U=some i/\aP 2 d U=some a/\S.C 145 [w,m] U λg3 a6=>aP 1 k a6=some e/\eH g a6=some i/\aP 2 d a6=some a/\S.C 152 [g3,f] a6 λg9 a7=>
 aP 1 k a7=some e/\eH g a7=some i/\aP 2 d a7=some a/\Cw S.C S.Y I.mt q [e,g9] a7 λhe b6=>aP 2 d b6=some a/\S.C 151 [a,m,f,he,p] b6 λh3 ep=>
 X2 h3 λiz jr=>Sb (bF 2 t iz ep) λer=>Sb (bF 3 du jr er) λes=>n t du es)) (Eb (nw #[.int .i64 0,.int .u32 0,.int .u32 0] 54 v) λu H=>
 aP 2 d H=some w/\aP 1 k H=some e/\eH g H=some i/\aP 2 d H=some a/\And (S.C 145 [w,m] H λc5 al=>aP 1 k al=some e/\eH g al=some i/\aP 2 d al=some a/\And (S.C 152 [c5,f] al λc9 am=>
 aP 1 k am=some e/\eH g am=some i/\aP 2 d am=some a/\And (Cw S.C S.Y I.mt q [e,c9] am λdc bn=>aP 2 d bn=some a/\And (S.C 151 [a,m,f,dc,p] bn λh4 et=>
 X2 h4 λi0 js=>Eb (nw #[.slice none 0 0,.slice none 0 0] 29 et) λcs eu=>Sb (bF 2 cs i0 eu) λew=>Sb (bF 3 u js ew) λex=>n cs u ex) (Eb (nw #[.slice none 0 0,.slice none 0 0] 29 bn) λct b7=>
 aP 2 d b7=some a/\S.C 151 [a,m,f,dc,p] b7 λh5 ey=>X2 h5 λi1 jt=>Sb (bF 2 ct i1 ey) λez=>Sb (bF 3 u jt ez) λe0=>n ct u e0)) (Eb (nw #[.slice none 0 0,.slice none 0 0] 29 am) λcu a8=>
 aP 1 k a8=some e/\eH g a8=some i/\aP 2 d a8=some a/\Cw S.C S.Y I.mt q [e,c9] a8 λhf b8=>aP 2 d b8=some a/\S.C 151 [a,m,f,hf,p] b8 λh6 e1=>
 X2 h6 λi2 ju=>Sb (bF 2 cu i2 e1) λe2=>Sb (bF 3 u ju e2) λe4=>n cu u e4)) (Eb (nw #[.slice none 0 0,.slice none 0 0] 29 al) λcv a9=>
 aP 1 k a9=some e/\eH g a9=some i/\aP 2 d a9=some a/\S.C 152 [c5,f] a9 λha ba=>aP 1 k ba=some e/\eH g ba=some i/\aP 2 d ba=some a/\Cw S.C S.Y I.mt q [e,ha] ba λhg b9=>
 aP 2 d b9=some a/\S.C 151 [a,m,f,hg,p] b9 λh7 e5=>X2 h7 λi3 jv=>Sb (bF 2 cv i3 e5) λe6=>Sb (bF 3 u jv e6) λe7=>n cv u e7)) (Eb (nw #[.slice none 0 0,.slice none 0 0] 29 H) λcx V=>
 aP 2 d V=some w/\aP 1 k V=some e/\eH g V=some i/\aP 2 d V=some a/\S.C 145 [w,m] V λg4 bb=>aP 1 k bb=some e/\eH g bb=some i/\aP 2 d bb=some a/\S.C 152 [g4,f] bb λg5 bc=>
 aP 1 k bc=some e/\eH g bc=some i/\aP 2 d bc=some a/\Cw S.C S.Y I.mt q [e,g5] bc λhh ca=>aP 2 d ca=some a/\S.C 151 [a,m,f,hh,p] ca λh8 e9=>
 X2 h8 λi4 jw=>Sb (bF 2 cx i4 e9) λfb=>Sb (bF 3 u jw fb) λfc=>n cx u fc))))
def iH:=dL func143 (aH aI)
def qT:=iJ func147 (aH aI)
def qP:=SQ func151 (aH (aH (aH (.j [] [1,5,10,11,12,14,42] (aH (.c .z .z)) (.s (.o (oc [0,1,2,4,5,3,6,7] .nil)) .z)))))
def jD:=dL func155 (aH (.s (aH (.b (.l [8] [0,1,7,19] (aH (.s (.c .z .z) (.s (.b (aH (aH (.c aI .z)))) .z)))))) aI))
def EV:=iJ func159 (aH (aH (.s (.b (aH (.c aI (aH (.c aI .z))))) aI)))
def ym:=qf func199 (aH aI)
def iX:=iJ func203 (aH (aH (.s (.j [18] [5,23] .z (.c aI .z)) (.s (.o (oc [0,1,2,3,4,5,6] .nil)) .z))))
def AO:=qf func207 (aH (cC (.s (aH (aH (.c aI .z))) (.s (.b (aH (.c aI (aH (.c aI .z))))) (aH (aH (aH aI)))))))
def fE:=iJ func211 (aH (aH (.s (.o (oc [0,1,2,3,4,5,6,7,8,9] .nil)) .z)))
def qH:=dL func215 (aH aI)
def oJ:=dL func219 (aH (aH (cC (aH (.s (.j [44] [2,5,8,73] .z (.c aI .z)) (aH (cC aI)))))))
def oM:=dL func223 (aH (aH (.j [] [2,4,5,6,68] (aH (aH (.c (aH (aH (.c (aH aI) .z))) .z))) (.j [] [2,4,5,68] (.o (oc [0,1,3] (.kK (oc [2,4,5,6,7] .nil) (oc [4,2,5,6,7] .nil)))) (.s (aH (aH (.c aI .z))) aI)))))
def Ai:=qf func227 (aH (aH (aH (.s (.o (oc [0,1,2,3,4,5] .nil)) .z))))
def jN:=iJ func231 (aH (aH (.j [6] [1,3,5,100] (.o (oc [0,1,2,6,7] (.kK (oc [3,4] (.kK (oc [5,8,9,10,11] .nil) (oc [8] (.kK (oc [5,9,10,11] .nil) (oc [9,5,10,11] .nil))))) (oc [8,3,4] (.kK (oc [5,9,10,11] .nil) (oc [9,5,10,11] .nil)))))) (aH (.s (aH (.b (.l [7,36] [1,3,5,6,34,35,100] (aH (.s (.c .z .z) (.s (.b (aH aI)) .z)))))) (aH (.s (aH (.b (.l [6,11,48] [1,3,5,46,47,100] (aH (.s (.c .z .z) (.j [6,11] [1,3,5,46,47,48,100] (.b (aH (aH (aH (.j [69] [1,3,5,6,11,14,46,47,48,100] .z (.c .z .z)))))) .z)))))) (aH (aH (aH aI))))))))))
def gK:=dL func235 (aH (.s (aH (.b (.l [8] [0,1,7,19] (aH (.s (.c .z .z) (.s (.b (aH (aH (.c aI .z)))) .z)))))) aI))
def tf:=dL func239 (aH (aH (.s (aH (.b (.l [5,6] [0,1,44] (.s (aH (.c .z .z)) (.b (aH aI)))))) (.s (aH (.b (.l [5,8] [1,44] (.s (aH (.c .z .z)) (.b (aH aI)))))) aI))))
def l9:=iJ func243 (aH (.j [] [32] (aH (.b (aH (.c (aH (.b (aH (.c .z (aH (.c (.s (.o (oc [0,1,2,3,4] .nil)) .z) aI)))))) (aH (.c (aH (aH (.c (.s (.o (oc [0,1,2,3,4,5,6] .nil)) .z) .z))) .z)))))) aI))
def xl:=qf func247 (aH aI)
def wW:=dL func251 (aH (cC (aH (.s (aH (.b (.l [5,13] [11,12,27] (aH (.s (.c .z .z) (.s (.b aI) .z)))))) aI))))
def AP:=dL func255 (aH aI)
def sj:=OD func259 (aH aI)
def mB:=dL func263 (aH (aH (cC (.s (.o (oc [0,1,2,3,4,5] .nil)) .z))))
def qg:=qf func267 (aH (aH (.s (.o (oc [0,1,2,3,4,5,6,7,8,9,10,11,12,13,14] .nil)) .z)))
def oK:=dL func271 (aH aI)
def mX:=dL func275 (aH (aH aI))
def kc:=dL func279 (aH (cC aI))
def qX:=dL func283 (aH (aH (aH (.s (.s (.o (oc [0,1,2,3,4,5,6] .nil)) (.c aI .z)) (aH aI)))))
def nC:=MG func287 (aH (aH (.s (.j [25] [2,4,5,7,38] .z (.c aI .z)) (aH aI)))) λA B h R=>
 Eb (nw (Value.cells A) 376 h) λe p=>Eb (nw (Value.cells B) 146 p) λi t=>Eb (nw yx 376 t) λm u=>Eb (nw jQ 56 u) λn a=>
 Vb (fa 0 i) λam=>Lf 0 am a λd=>m3 (λag g=>Br ag (Vb (aP 21 e g) λE=>S.C 286 [E,(.int .i64 4)] g λF v=>T3 21 m 8 n F v R) (Vb (fa 10 e) λG=>
 Sb (bF 1 G d g) λk=>Vb (aP 21 e k) λH=>S.C 294 [H] k λal q=>T3 21 m 8 n al q R)) λf=>Vb (bin .lss d (.int .i64 1)) λw=>
 Br w (f (.bool true) a) (Lf 7 e a λx=>Vb (bin .gtr d x) λJ=>Br J (f (.bool true) a) (Vb (fa 0 i) λK=>Vb (aP 3 K a) λL=>Vb (fV [(0,1),(1,1),(2,1)] #[.int .i64 0,.int .u32 0,.int .u32 0] [(0,d)]) λM=>
 Vb (nX (tg [true,true,true] L M)) λN=>f N a))
def tD:=MG func291 (aH (aH (.s (aH (.c (aH aI) .z)) (aH (.s (.o (oc [0,1,2,3,4,5,6,7,8,9,10,11,12,13,14,15,16] .nil)) .z))))) λA B h R=>
 Eb (nw (Value.cells A) 383 h) λa t=>Eb (nw (Value.cells B) 54 t) λe u=>Eb (nw jQ 56 u) λf g=>Vb (fa 0 a) λw=>
 Vb (aP 3 w g) λx=>Lf 3 a g λE=>S.C 263 [x,E] g λF i=>X2 F λG q=>Lf 0 e i λH=>Vb (bin .and H q) λJ=>Vb (bin .eql J (.int .i64 0)) λag=>
 Br ag (Vb (fa 5 a) λK=>Sb (bF 1 K (.bool true) i) λv=>Vb (fa 4 a) λL=>Sb (bF 1 L (.int .i64 13) v) λm=>Vb (aP 7 a m) λM=>Vb (some (.iface 383 M)) λN=>
 Vb (fV [(0,1),(1,1),(2,3),(5,3)] jQ []) λal=>Sb (bF 8 f al m) λn=>Vb (aP 8 f n) λk=>R (.tuple #[N,k,(.bool true)]) n) (Vb (some (.func (.func 295) #[] #[a])) λam=>
 Vb (fa 6 a) λO=>Sb (bF 1 O am i) λd=>Vb (aP 7 a d) λQ=>Vb (some (.iface 383 Q)) λap=>Vb (aP 3 e d) λT=>Lf 0 e d λU=>
 Vb (bin .andNot U q) λV=>Lf 1 e d λX=>Lf 2 e d λaw=>Vb (fV [(0,1),(1,1),(2,1)] #[.int .i64 0,.int .u32 0,.int .u32 0] [(0,V),(1,X),(2,aw)]) λax=>
 Vb (fV [(0,1),(1,1),(2,3),(5,3)] jQ [(0,(.int .i64 6)),(1,G),(2,T),(3,ax)]) λZ=>Sb (bF 8 f Z d) λp=>Vb (aP 8 f p) λk=>R (.tuple #[ap,k,(.bool false)]) p)
def mm:=dL func295 (aH (.s (aH (.c (aH aI) .z)) aI))
def o7:=dL func299 (aH (.s (.o (oc [0,1,2,3,4,5,6,7,8,9,10,11,12,13,14] .nil)) aI))
def jC:=dL func303 (aH aI)
def s8:=iJ func307 (aH aI)
def tL:=iJ func311 (aH (.s (.b (aH (.c (.s (.o (oc [0,1,2,3,4,5,6,7,8,9,10] .nil)) .z) (aH (.c aI .z))))) aI))
def p7:=MG func315 (aH (.s (.s (.o (oc [0,1,2,3,4,5] .nil)) (.c aI .z)) (aH (aH aI)))) λA B h R=>
 Eb (nw (Value.cells A) 376 h) λd p=>Eb (nw (Value.cells B) 146 p) λn t=>Eb (nw yx 376 t) λi u=>Eb (nw jQ 56 u) λk e=>
 Vb (fa 0 n) λm=>Vb (aP 3 m e) λg=>Lf 6 d e λx=>S.C 255 [(.int .i64 0),x] e λE a=>aP 3 m a=some g/\Vb (nX (tg [true,true,true] g E)) λF=>
 Br F (Vb (aP 21 d a) λG=>S.C 301 [G] a λH v=>T3 21 i 8 k H v R) (Vb (fa 0 d) λJ=>Vb (aP 3 J a) λag=>Vb (fa 14 d) λK=>
 Lf 2 K a λL=>Lf 8 d a λM=>S.C 232 [ag,L,M] a λN w=>X2 N λal T=>Vb (fa 17 d) λam=>Sb (bF 1 am al w) λf=>Vb (aP 21 d f) λO=>
 Vb (fV [(0,3),(3,1)] #[.int .i64 0,.int .u32 0,.int .u32 0,.bool false] []) λQ=>S.C 320 [O,Q] f λap q=>T3 21 i 8 k ap q R)
def nQ:=dL func319 (aH aI)
def pg:=dL func323 (aH aI)
def iP:=dL func342 (aH (cC aI))
end
end Go.En
namespace Go.En
open Go.Proofs.Tryz
noncomputable section
set_option maxRecDepth 100000
set_option linter.unusedVariables false
set_option maxHeartbeats 400000
attribute [local irreducible] Vb Eb Sb Br Cl Ci Cw Ap Nx Cm m3 Du Fm oP wA Km Rg Jp Xb A2 nw aP eH fa nh Dl bin MH ext bF zO sB OK B5 Mr J2 fV FG tg nX pos? Az inl PO mx mn JM wB CC Gb K9 Fg oV MJ PG Pu O2 Q8 Qw Hy fin GZ Lw Rk okB O9 Ps Mz O7 O4
def xd:=iJ func12 (aH aI)
def lP:=qf func18 (aH (.s (.o (oc [1,2,0,3,4,5] .nil)) (aH (.s (aH (.b (.l [8,21] [2,3,6,19,20,97] (aH (.s (.c .z .z) (.j [8] [2,3,6,19,20,21,97] (.b (aH (.s (aH (.c .z .z)) (aH (.j [44] [2,3,6,8,19,20,21,97] .z (.c aI .z)))))) .z)))))) (.s (aH (.b (.l [8,12] [2,3,6,97] (.s (aH (.c .z .z)) (.s (.b (aH (.b (.l [8,13] [2,3,6,12,97] (.s (.j [70] [2,3,6,8,12,13,97] .z (.c .z .z)) (.s (.b (aH (.j [94] [2,3,6,8,12,13,97] .z (.c aI .z)))) .z)))))) .z))))) aI)))))
def qu:=Vp func22 (aH aI)
def AK:=dL func31 (aH (aH (cC (aH (cC (.s (.o (oc [0,1,2,3,4,5,6] .nil)) .z))))))
def dB:=dL func35 (aH (.j [4] [31] .z .z))
def eR:=qf func42 (aH (aH (cC (aH (.s (.j [45] [2,49] (.o (oc [0,1,2,3,4,5,6,7,8,9,10,11,12,13,14,15,16,17,18,19,20,21,22,23,24] .nil)) (.c aI .z)) aI)))))
def qq:=iJ func46 (aH aI)
def iW:=iJ func50 (aH (cC aI))
def Df:=dL func54 (aH (.s (.b (.j [9] [0,1,4,45] .z (.c aI (aH (.c aI (aH (.c aI .z))))))) (aH (.s (aH (.b (.l [32] [4,6,30,31,45] (aH (.s (.c .z .z) (.s (.b (aH (.o (oc [0,1,2,3,4,5,6,7] .nil)))) .z)))))) aI))))
def kU:=iJ func58 (aH (cC aI))
def pC:=dL func62 (aH (cC (aH (.j [] [2,3,4,5,26] (.o (oc [0,1,3] (.kK (oc [2,4,5,6,7] .nil) (oc [4,2,5,6,7] .nil)))) (.s (.o (oc [0,1,2,3,4,5,6,7,8] .nil)) .z)))))
def oT:=Vv func76 (aH (.s (.j [26] [1,2,3,6,122] .z (.c aI .z)) (aH (cC (.j [10,11] [1,2,3,6,8,9,122] (.o (oc [0,1,2,3,4,5,6,7,8] (.kK (oc [9,10,11,12] .nil) (oc [10,9,11,12] .nil)))) (.s (.j [76] [1,2,3,6,8,10,11,122] .z (.c aI .z)) (aH (.s (aH (.b (.l [87] [1,3,6,8,12,86,122] (aH (.s (.c .z .z) (.s (.b (aH (aH (aH (cC .z))))) .z)))))) (cC aI))))))))) λc6 A M h R=>
 Eb (nw (Value.cells c6) 61 h) λx a7=>Eb (nw #[.int .i64 0,.int .i64 0,.int .i64 0,.slice none 0 0] 166 a7) λd N=>m3 (λb9 ag=>
 Br b9 (Vb (fV [(0,1),(1,1),(2,1),(3,1)] #[.int .i64 0,.int .i64 0,.int .i64 0,.slice none 0 0] []) λca=>Sb (bF 4 d ca ag) λO=>Vb (aP 4 d O) λe=>
 R (.tuple #[e,(.int .i64 1)]) O) (Vb (aP 3 x ag) λcb=>S.C 106 [cb,M] ag λcc q=>X2 cc λB Q=>Vb (bin .eql Q (.int .i64 0)) λcd=>
 Br cd (Vb (fV [(0,1),(1,1),(2,1),(3,1)] #[.int .i64 0,.int .i64 0,.int .i64 0,.slice none 0 0] []) λce=>Sb (bF 4 d ce q) λT=>Vb (aP 4 d T) λe=>
 R (.tuple #[e,(.int .i64 3)]) T) (Du (λt m a=>m3 (λcu w=>Br cu (Vb (fV [(0,1),(1,1),(2,1),(3,1)] #[.int .i64 0,.int .i64 0,.int .i64 0,.slice none 0 0] []) λcv=>
 Sb (bF 4 d cv w) λU=>Vb (aP 4 d U) λe=>R (.tuple #[e,(.int .i64 5)]) U) (Lf 1 t w λcw=>Vb (J2 .i64 cw) λcx=>Lf 0 t w λcy=>Vb (fV [(0,1),(1,1),(2,1),(3,1)] #[.int .i64 0,.int .i64 0,.int .i64 0,.slice none 0 0] [(0,M),(1,cx),(2,cy)]) λcz=>
 Eb (nw #[.int .i64 0,.int .i64 0,.int .i64 0,.slice none 0 0] 166 w) λn a8=>Sb (bF 4 n cz a8) λap=>Lf 0 m ap λc0=>oP (.int .i64 0) ap λE p a6=>
 Vb (bin .lss E c0) λc1=>Br c1 (Vb (bin .add B (.int .i64 2)) λc2=>Vb (bin .mul (.int .i64 3) E) λc3=>Vb (bin .add c2 c3) λV=>Vb (bin .add V (.int .i64 3)) λc4=>
 Vb (sB 3 A (some V) (some c4) none) λbh=>Vb (OK 3 bh) λbi=>Vb (aP 9 bi p) λbj=>S.C 110 [bj] p λbk a9=>X2 bk λbl bm=>Eb (nw nS 170 a9) λX ba=>
 Sb (bF 6 X bl ba) λv=>Vb (MH .not bm) λbn=>Br bn (Vb (fV [(0,1),(1,1),(2,1),(3,1)] #[.int .i64 0,.int .i64 0,.int .i64 0,.slice none 0 0] []) λbo=>
 Sb (bF 4 d bo v) λZ=>Vb (aP 4 d Z) λe=>R (.tuple #[e,(.int .i64 5)]) Z) (Lf 3 n v λbp=>Vb (aP 6 X v) λbq=>Eb (zO nS 6 1 170 [(0,bq)] v) λbr bb=>
 Ap 170 nS 6 40 bp br bb λbs bc=>Vb (fa 3 n) λbt=>Sb (bF 1 bt bs bc) λbd=>Vb (bin .add E (.int .i64 1)) λbu=>a6 bu bd)) (Vb (aP 4 n p) λbv=>
 Vb (aP 3 x p) λbw=>S.C 111 [bv,bw] p λbx F=>Vb (bin .neq bx (.int .i64 0)) λbz=>Br bz (Vb (fV [(0,1),(1,1),(2,1),(3,1)] #[.int .i64 0,.int .i64 0,.int .i64 0,.slice none 0 0] []) λb0=>
 Sb (bF 4 d b0 F) λau=>Vb (aP 4 d au) λe=>R (.tuple #[e,(.int .i64 5)]) au) (Vb (aP 4 n F) λb1=>Sb (bF 4 d b1 F) λav=>Vb (aP 4 d av) λe=>
 R (.tuple #[e,(.int .i64 0)]) av)))) λi=>Lf 0 t a λcg=>Vb (bin .lss cg (.int .i64 0)) λch=>Br ch (i (.bool true) a) (Lf 0 t a λci=>Vb (bin .gtr ci (.int .i64 3)) λcj=>
 Br cj (i (.bool true) a) (Lf 2 t a λck=>Vb (bin .neq ck (.int .u32 0)) λcl=>Br cl (i (.bool true) a) (Lf 0 m a λcm=>Vb (bin .lss cm (.int .i64 1)) λcn=>
 Br cn (i (.bool true) a) (Lf 0 m a λco=>Vb (bin .gtr co Q) λcp=>Br cp (i (.bool true) a) (Vb (aP 3 m a) λcq=>Lf 0 m a λcr=>Vb (fV [(0,1),(1,1),(2,1)] #[.int .i64 0,.int .u32 0,.int .u32 0] [(0,cr)]) λcs=>
 Vb (nX (tg [true,true,true] cq cs)) λct=>i ct a)))))) λam=>Vb (nh 3 A B) λu=>Vb (aP 3 u q) λk=>Vb (bin .add B (.int .i64 1)) λcf=>
 Vb (nh 3 A cf) λg=>Vb (aP 3 g q) λf=>And (Eb (nw #[.int .i64 0,.int .u32 0,.int .u32 0] 54 q) λa1 G=>aP 3 g G=some f/\aP 3 u G=some k/\Eb (nw #[.int .i64 0,.int .u32 0,.int .u32 0] 54 G) λan H=>
 aP 3 g H=some f/\aP 3 u H=some k/\Sb (bF 3 a1 k H) λaw=>aP 3 g aw=some f/\Sb (bF 3 an f aw) λbe=>am a1 an be) (Eb (nw #[.int .i64 0,.int .u32 0,.int .u32 0] 54 q) λao J=>
 aP 3 g J=some f/\aP 3 u J=some k/\Eb (nw #[.int .i64 0,.int .u32 0,.int .u32 0] 54 J) λa2 K=>aP 3 g K=some f/\aP 3 u K=some k/\Sb (bF 3 a2 k K) λax=>
 aP 3 g ax=some f/\Sb (bF 3 ao f ax) λbf=>am a2 ao bf)))) λal=>Vb (aP 3 x N) λb2=>S.C 74 [b2] N λb3 L=>Vb (bin .neq b3 (.int .i64 0)) λb4=>
 Br b4 (al (.bool true) L) (Vb (B5 A) λb5=>Vb (aP 3 x L) λb6=>S.C 50 [b6] L λb7 bg=>Vb (bin .lss b5 b7) λb8=>al b8 bg)
def mH:=dL func80 (aH aI)
def uK:=iJ func88 (aH (.j [2] [16] .z .z))
def gW:=OD func92 (aH (aH (.j [] [4,8,9,10,43] (aH (.c .z .z)) (.s (.o (oc [0,1,2,3,4] .nil)) .z))))
def lY:=qf func108 (aH (.j [6] [15] .z .z))
def qJ:=dL func112 (aH (.j [4] [14] .z .z))
def um:=qf func116 (aH (cC (aH (aH (.j [] [3,6,37] (.o (oc [0,1,2,3,4,6,7,8] (.kK (oc [5,9,10,11,12,13] .nil) (oc [9,5,10,11,12,13] .nil)))) aI)))))
def cX:=iJ func120 (aH (cC aI))
def Eu:=iJ func130 (aH (aH (.j [] [1,2,3,22] (aH (.c .z .z)) aI)))
def sv:=SQ func134 (aH (aH (.j [12] [1,2,4,5,8,10,11,62] (.o (oc [0,1,3,4] (.kK (oc [2] (.kK (oc [5] (.kK (oc [6,7,8] .nil) (oc [7,6,8] .nil))) (oc [7,5,6,8] .nil))) (oc [7,2,5,6,8] .nil)))) (aH (.j [] [1,2,5,8,10,11,12,13,62] (aH (.c .z .z)) (aH (.s (.o (oc [0,1,2,3,4,5,6,7,8,9,10,11,12,13] .nil)) (aH aI))))))))
def rL:=qf func139 (aH aI)
def ye:=dL func144 (aH aI)
def qM:=dL func148 (aH (.j [] [4,12] (.o (oc [0,1,3] (.kK (oc [2,4,5,6,7] .nil) (oc [4,2,5,6,7] .nil)))) .z))
def z7:=dL func152 (aH aI)
def dS:=iJ func156 (aH (cC aI))
def bC:=dL func196 (aH (cC (.s (.b (.l [] [2,3,5,133] (.s (.j [31] [2,3,5,133] .z (.c .z .z)) (.b .z)))) (.s (.j [43] [2,3,5,133] .z (.c aI .z)) (aH (aH (.j [8] [2,5,133] (aH (.c (.o (oc [0,1,2,3,4,5,6,7,8,9,10,11,12,13] .nil)) (.j [] [2,5,7,133] (aH (.c (.o (oc [1,2,3,4,5,6,7,9,10] (.kK (oc [0] (.kK (oc [8,11,12,13,14] .nil) (oc [11,8,12,13,14] .nil))) (oc [11,0,8,12,13,14] .nil)))) .z)) (.s (aH (aH (.c (aH (.s (.o (oc [0,1,2,3,5,4,6,7,8,9,10,11] .nil)) .z)) .z))) .z)))) (.s (.j [122] [2,5,133] .z (.c (aH aI) .z)) aI))))))))
def l5:=dL func200 (aH (aH (.s (aH (.b (.l [5,10] [2,8,9,29] (aH (.s (.c .z .z) (.s (.b (aH (.o (oc [0,1,2,3,4,5,6,7,8,9,10,11,12,13] .nil)))) .z)))))) aI)))
def kV:=iJ func204 (aH (aH (.s (.j [18] [4,28] .z (.c aI .z)) (aH (aH aI)))))
def FM:=SQ func208 (aH (.s (.b (aH (.c aI (.j [19] [1,2,3,4,5,60] .z (.c aI .z))))) (.s (aH (aH (.c aI .z))) (cC (cC (.j [13] [60] (.o (oc [0,1,2,3,4] (.kK (oc [5,6,7,8] .nil) (oc [7,5,6,8] .nil)))) (aH (aH aI))))))))
def ti:=dL func212 (aH (cC (.s (aH (aH (.c aI .z))) (cC (.s (aH (.b (.l [6] [1,2,53] (.s (aH (.c .z .z)) (.s (.b (.s (.o (oc [0,1,2,3,4,5,6,7,8,9,10,11] .nil)) (.c aI .z))) .z))))) (.s (aH (.b (.l [40] [2,38,39,53] (aH (.s (.c .z .z) (.s (.b (aH (aH (.c aI .z)))) .z)))))) (cC aI)))))))
def vC:=dL func216 (aH aI)
def uM:=qf func220 (aH (aH (.s (.o (oc [0,1,2,3,4,5,6,7] .nil)) .z)))
def Dh:=dL func224 (aH (.s (aH (aH (.c aI .z))) (.j [7] [24] (.o (oc [0,1,2,3] (.kK (oc [4,5,6,7] .nil) (oc [6,4,5,7] .nil)))) (aH aI))))
def nB:=dL func228 (aH aI)
def F9:=qf func232 (aH (cC (aH (aH (.s (.j [31] [1,2,3,8,9,10,11,41] .z (.c aI .z)) aI)))))
def kW:=MG func236 (aH (aH (.s (aH (aH (.c (.s (.o (oc [0,1,2,3] .nil)) .z) .z))) (aH (.s (aH (aH (.c aI .z))) (aH (.s (.o (oc [0,1,2,3,4,5,6,7,8,9,10,11,12,13,14,15,16,17,18] .nil)) .z))))))) λN O h R=>
 Eb (nw (Value.cells N) 336 h) λa ap=>Eb (nw (Value.cells O) 146 ap) λQ T=>Eb (nw yN 336 T) λf aw=>Eb (nw jQ 56 aw) λg v=>
 Lf 13 a v λU=>Vb (aP 4 Q v) λV=>Ci S.C I.mt "Next" U [V] v λX ax=>X3 X λx Z a4=>Eb (nw jQ 56 ax) λn ay=>Sb (bF 8 n Z ay) λaz=>
 Vb (fa 13 a) λa5=>Sb (bF 1 a5 x az) λm=>Vb (MH .not a4) λa6=>Br a6 (Vb (aP 16 a m) λa7=>Vb (aP 8 n m) λA=>Sb (bF 16 f a7 m) λw=>
 aP 8 n w=some A/\Sb (bF 8 g A w) λp=>Vb (aP 16 f p) λi=>Vb (aP 8 g p) λk=>R (.tuple #[i,k]) p) (S.C 258 [x] m λa8 aq=>X2 a8 λa9 bo=>
 Vb (fa 13 a) λba=>Sb (bF 1 ba (.nilIface) aq) λq=>Vb (bin .neq a9 (.int .i64 4)) λbb=>Br bb (Vb (aP 16 a q) λbc=>S.C 211 [bc] q λbd ar=>
 X2 bd λbe bf=>Sb (bF 16 f be ar) λau=>Sb (bF 8 g bf au) λt=>Vb (aP 16 f t) λi=>Vb (aP 8 g t) λk=>R (.tuple #[i,k]) t) (Vb (fa 15 a) λbg=>
 Sb (bF 1 bg (.func (.func 260) #[] #[]) q) λd=>Vb (aP 16 a d) λbh=>Vb (fa 5 a) λB=>Vb (eH B d) λE=>Vb (fa 6 a) λF=>
 Vb (eH F d) λG=>Vb (nh 1 E G) λag=>Vb (eH ag d) λH=>Vb (fa 10 a) λJ=>Vb (aP 3 J d) λK=>Vb (fa 10 a) λbi=>Vb (fa 0 bi) λL=>
 Vb (eH L d) λal=>Vb (fa 10 a) λbj=>Vb (fa 1 bj) λam=>Vb (eH am d) λM=>Vb (fV [(0,1),(1,1),(2,1)] #[.int .i64 0,.int .u32 0,.int .u32 0] [(0,al),(1,M)]) λbk=>
 Vb (fV [(0,1),(1,1),(2,3),(5,3)] jQ [(0,(.int .i64 6)),(1,H),(2,K),(3,bk)]) λbl=>Sb (bF 16 f bh d) λe=>eH am e=some M/\eH L e=some al/\aP 3 J e=some K/\eH ag e=some H/\eH F e=some G/\eH B e=some E/\Sb (bF 8 g bl e) λu=>
 Vb (aP 16 f u) λi=>Vb (aP 8 g u) λk=>R (.tuple #[i,k]) u))
def zg:=dL func240 (aH aI)
def s5:=iJ func244 (aH (aH aI))
def oC:=qf func248 (aH aI)
def kY:=iJ func252 (aH aI)
def qD:=iJ func256 (aH (aH (aH (cC aI))))
def mS:=dL func260 (aH aI)
def mU:=dL func264 (aH aI)
def iT:=dL func268 (aH (.s (.s (.o (oc [0,1,2,3,4] .nil)) (.c (.s (.o (oc [0,1,2,3,4,5,6,7,8,9] .nil)) (aH (aH aI))) .z)) (cC (aH aI))))
def tZ:=dL func272 (aH aI)
def mA:=dL func276 (aH (.s (aH (.c (aH aI) .z)) aI))
def qh:=iJ func280 (aH aI)
def vA:=qf func284 (aH (aH (.s (.o (oc [0,1,2,3,4] .nil)) .z)))
def AI:=qf func288 (aH (.b (.l [10] [0,1,2,9,25] (aH (.s (.c .z .z) (.s (.b (aH (.s (.o (oc [0,1,2,3,4,5,6,7,8,9,10] .nil)) (.c .z .z)))) .z))))))
def kJ:=dL func292 (aH aI)
def lj:=dL func296 (aH (aH (aH aI)))
def qi:=iJ func300 (aH (aH (.s (aH (.b (.l [4,5] [1,62] (.s (aH (.c .z .z)) (.s (.b (aH (.s (.j [53] [1,4,5,6,62] (.o (oc [0,1,2,3,4,5,6,7,8,9,10,11,12,13,14,15,16,17,18,19,20,21,22,23,24,25,26] .nil)) (.c aI .z)) .z))) .z))))) aI)))
def qa:=MG func304 (aH (aH (.j [] [2,4,5,29] (aH (.b (.j [11] [2,3,4,5,29] (aH (.c .z .z)) (.c .z .z)))) aI))) λaw A h R=>
 Eb (nw (Value.cells aw) 376 h) λa q=>Eb (nw (Value.cells A) 146 q) λk v=>Eb (nw yx 376 v) λB w=>Eb (nw jQ 56 w) λap x=>
 Vb (fa 13 a) λE=>Sb (bF 1 E (.int .i64 4) x) λF=>Vb (fa 12 a) λG=>Sb (bF 1 G (.int .i64 0) F) λf=>Cm (λm=>Vb (aP 21 a m) λam=>
 S.C 311 [am] m λH J=>T3 21 B 8 ap H J R) λg=>Vb (fa 0 k) λK=>Vb (aP 3 K f) λn=>m3 (λL d=>Br L (Vb (fa 0 k) λM=>
 Lf 0 M d λN=>Vb (fa 13 a) λal=>Sb (bF 1 al N d) λt=>g t) (g d)) λi=>Lf 6 a f λO=>S.C 255 [(.int .i64 1),O] f λQ e=>
 Vb (pos? (tg [true,true,true] n Q)) λp=>Br p (i p e) (Lf 6 a e λag=>S.C 255 [(.int .i64 2),ag] e λT u=>Vb (pos? (tg [true,true,true] n T)) λU=>
 i U u)
def uy:=iJ func308 (aH (aH (aH aI)))
def sX:=dL func312 (aH (aH aI))
def qz:=dL func316 (aH (aH (.j [] [2,4,5,56] (aH (.c (.j [8,9] [2,3,4,5,7,56] .z (aH (.c aI .z))) .z)) aI)))
def pi:=dL func320 (aH (aH (aH (cC (aH (.s (aH (aH (.c aI .z))) (.s (.o (oc [0,1,3,4,5,6,7,8,9,10,11,2,12,13,14,15,16,17,18,19] .nil)) .z)))))))
def cM:=dL func339 (aH (cC aI))
def gR:=dL func343 (aH (cC (aH (.s (.o (oc [0,1,2,3,4,5,6] .nil)) .z))))
end
end Go.En
namespace Go.En
open Go.Proofs.Tryz
noncomputable section
set_option maxRecDepth 100000
set_option linter.unusedVariables false
set_option maxHeartbeats 400000
attribute [local irreducible] Vb Eb Sb Br Cl Ci Cw Ap Nx Cm m3 Du Fm oP wA Km Rg Jp Xb A2 nw aP eH fa nh Dl bin MH ext bF zO sB OK B5 Mr J2 fV FG tg nX pos? Az inl PO mx mn JM wB CC Gb K9 Fg oV MJ PG Pu O2 Q8 Qw Hy fin GZ Lw Rk okB O9 Ps Mz O7 O4
def kE:=Vh func15 (aH (aH (aH (.j [5] [2,3,4,55] (.o (oc [0,1] (.kK (oc [2] (.kK (oc [3] (.kK (oc [4,5,6,7,8,9,10] .nil) (oc [8,4,5,6,7,9,10] .nil))) (oc [8,3,4,5,6,7,9,10] .nil))) (oc [8,2,3,4,5,6,7,9,10] .nil)))) (.j [7] [2,4,5,55] (.o (oc [0,1] (.kK (oc [2] (.kK (oc [3] (.kK (oc [4,5,6,7,8,9,10] .nil) (oc [8,4,5,6,7,9,10] .nil))) (oc [8,3,4,5,6,7,9,10] .nil))) (oc [8,2,3,4,5,6,7,9,10] .nil)))) (.j [0] [55] .z .z)))))) λh R=>
 Eb (zO #[.int .i8 0] 1 2 85 [(0,(.int .i8 5)),(1,(.int .i8 0))] h) λbw a4=>Vb (fV [(0,1),(1,1),(2,1)] #[.int .u8 0,.int .i8 0,.bool false] [(0,(.int .u8 0)),(1,(.int .i8 (-1))),(2,(.bool true))]) λbx=>
 Vb (fV [(0,1),(1,1),(2,1)] #[.int .u8 0,.int .i8 0,.bool false] [(0,(.int .u8 1)),(1,(.int .i8 1)),(2,(.bool true))]) λbz=>Eb (zO #[.int .u8 0,.int .i8 0,.bool false] 3 2 124 [(0,bx),(1,bz)] a4) λb0 a9=>
 Vb (fV [(0,1),(1,1)] #[.int .u8 0,.slice none 0 0] [(0,(.int .u8 1)),(1,b0)]) λb1=>Eb (zO #[.int .u8 0,.slice none 0 0] 2 1 95 [(0,b1)] a9) λb2 bf=>
 Eb (zO #[.slice none 0 0] 1 1 86 [(0,b2)] bf) λb3 bm=>S.C 17 [bw,(.bool false),b3] bm λb4 br=>X2 b4 λb5 b6=>
 Eb (nw uU 41 br) λA bs=>Sb (bF 9 A b5 bs) λaw=>Vb (aP 9 A aw) λb7=>S.C 21 [b7,(.int .i64 1),(.int .i64 500)] aw λb8 bt=>
 X2 b8 λb9 ca=>Eb (nw uU 41 bt) λw bu=>Sb (bF 9 w b9 bu) λn=>m3 (λa2 p=>m3 (λa3 g=>m3 (λbv a5=>R bv a5) λm=>Br b6 (Br ca (Vb (aP 3 a2 g) λcx=>
 Vb (fV [(0,1),(1,1),(2,1)] #[.int .i64 0,.int .u32 0,.int .u32 0] [(0,(.int .i64 4)),(1,(.int .u32 1))]) λcy=>Vb (pos? (tg [true,true,true] cx cy)) λcz=>
 Br cz (Vb (aP 3 a3 g) λc0=>Vb (fV [(0,1),(1,1),(2,1)] #[.int .i64 0,.int .u32 0,.int .u32 0] [(0,(.int .i64 1)),(1,(.int .u32 1))]) λc1=>Vb (pos? (tg [true,true,true] c0 c1)) λc2=>
 m c2 g) (m (.bool false) g)) (m (.bool false) g)) (m (.bool false) g)) λk=>Vb (fa 0 w) λf=>Vb (aP 7 f p) λd=>And (S.C 22 [] p λB q=>
 aP 7 f q=some d/\And (S.C 28 [B,(.int .i64 1)] q λE t=>aP 7 f t=some d/\And (S.C 27 [d,E] t λcp a6=>
 X2 cp λct c7=>Eb (nw #[.int .i64 0,.int .u32 0,.int .u32 0] 54 a6) λF a7=>Sb (bF 3 F ct a7) λa8=>k F a8) (Eb (nw #[.int .i64 0,.int .u32 0,.int .u32 0] 54 t) λG H=>
 aP 7 f H=some d/\S.C 27 [d,E] H λcq ba=>X2 cq λcu c8=>Sb (bF 3 G cu ba) λbb=>k G bb)) (Eb (nw #[.int .i64 0,.int .u32 0,.int .u32 0] 54 q) λag J=>
 aP 7 f J=some d/\S.C 28 [B,(.int .i64 1)] J λcn K=>aP 7 f K=some d/\S.C 27 [d,cn] K λcr bc=>X2 cr λcv c9=>
 Sb (bF 3 ag cv bc) λbd=>k ag bd)) (Eb (nw #[.int .i64 0,.int .u32 0,.int .u32 0] 54 p) λL al=>aP 7 f al=some d/\S.C 22 [] al λcm am=>
 aP 7 f am=some d/\S.C 28 [cm,(.int .i64 1)] am λco M=>aP 7 f M=some d/\S.C 27 [d,co] M λcs be=>X2 cs λcw da=>
 Sb (bF 3 L cw be) λbg=>k L bg)) λi=>Vb (fa 0 w) λe=>Vb (aP 7 e n) λa=>And (S.C 22 [] n λax u=>aP 7 e u=some a/\And (S.C 28 [ax,(.int .i64 0)] u λN v=>
 aP 7 e v=some a/\And (S.C 27 [a,N] v λce bh=>X2 ce λci c3=>Eb (nw #[.int .i64 0,.int .u32 0,.int .u32 0] 54 bh) λx bi=>
 Sb (bF 3 x ci bi) λbj=>i x bj) (Eb (nw #[.int .i64 0,.int .u32 0,.int .u32 0] 54 v) λO Q=>aP 7 e Q=some a/\S.C 27 [a,N] Q λcf bk=>
 X2 cf λcj c4=>Sb (bF 3 O cj bk) λbl=>i O bl)) (Eb (nw #[.int .i64 0,.int .u32 0,.int .u32 0] 54 u) λT ap=>aP 7 e ap=some a/\S.C 28 [ax,(.int .i64 0)] ap λcc U=>
 aP 7 e U=some a/\S.C 27 [a,cc] U λcg bn=>X2 cg λck c5=>Sb (bF 3 T ck bn) λbo=>i T bo)) (Eb (nw #[.int .i64 0,.int .u32 0,.int .u32 0] 54 n) λV X=>
 aP 7 e X=some a/\S.C 22 [] X λcb Z=>aP 7 e Z=some a/\S.C 28 [cb,(.int .i64 0)] Z λcd av=>aP 7 e av=some a/\S.C 27 [a,cd] av λch bp=>
 X2 ch λcl c6=>Sb (bF 3 V cl bp) λbq=>i V bq)
def lK:=MG func23 (aH (cC (.s (aH (.b (.l [5] [0,1,26] (.s (aH (.c .z .z)) (.s (.b (.s (.o (oc [0,1,2,3,4,5,6,7,8] .nil)) (.c aI .z))) .z))))) aI))) λe g h R=>
 Vb (B5 e) λw=>Vb (B5 g) λx=>Vb (bin .neq w x) λi=>Br i (R (.bool false) h) (oP (.int .i64 0) h λd a f=>Vb (B5 e) λk=>Vb (bin .lss d k) λm=>
 Br m (Vb (nh 3 e d) λp=>Vb (aP 3 p a) λq=>Vb (nh 3 g d) λt=>Vb (aP 3 t a) λu=>Vb (nX (tg [true,true,true] q u)) λv=>Br v (R (.bool false) a) (Vb (bin .add d (.int .i64 1)) λn=>
 f n a)) (R (.bool true) a))
def qp:=dL func27 (aH aI)
def xE:=dL func32 (aH (.s (aH (aH (.c aI .z))) (.j [8] [1,4,41] (.o (oc [0,1,2] (.kK (oc [3,4,5,6] .nil) (oc [5,3,4,6] .nil)))) (.s (aH (.b (.l [28] [4,8,26,27,41] (aH (.s (.c .z .z) (.s (.b (aH (.o (oc [0,1,2,3,4,5,6,7] .nil)))) .z)))))) aI))))
def oH:=qf func36 (aH (aH (aH (.j [] [1,3,6,10,55] (aH (.c .z .z)) (aH (.s (.o (oc [0,1,2,3,4,5,6,7,8,9,10,11,12,13] .nil)) aI))))))
def fS:=dL func43 (aH (.j [4] [17] .z .z))
def rH:=dL func47 (aH (aH aI))
def m6:=iJ func51 (aH aI)
def GO:=iJ func55 (aH (cC (.j [3] [2,17] (.o (oc [0,2,3,4,5,6] (.kK (oc [1,7,8,9,10] .nil) (oc [7,1,8,9,10] .nil)))) .z)))
def yd:=iJ func59 (aH (.s (.o (oc [0,1,2,3,4,5,6] .nil)) .z))
def dQ:=TB func69 (aH (.s (aH (.b (.l [12] [1,2,3,4,5,98] (.s (aH (.c .z .z)) (.s (.b (aH (.j [61] [1,2,3,4,5,12,98] (.o (oc [0,1,2,3,4,5,6,7,8,9,10,11,12,13,14,15,16,17,18,19,20,21,22,23,24,25,26,27,28,29,30] .nil)) (.c (aH aI) .z)))) .z))))) (.s (aH (.b (.l [73] [3,4,72,98] (aH (.s (.c .z .z) (.s (.b (aH (.s (.o (oc [0,1,2,3,4,5,6,7,8] .nil)) (.c (.s (.o (oc [0,1,2,3,4,5,6,7,8,9,10,11,12,13] .nil)) .z) .z)))) .z)))))) aI))) λA x p bi u h R=>
 Eb (nw (Value.cells A) 61 h) λn B=>oP (.int .i64 1) B λk i v=>Lf 2 n i λE=>Vb (bin .add (.int .i64 8) E) λag=>Vb (bin .leq k ag) λF=>
 Br F (Vb (aP 3 n i) λG=>S.C 106 [G,k] i λH a=>X2 H λf bk=>m3 (λJ m=>Br J (Vb (aP 3 n m) λK=>S.C 76 [K,p,k] m λL M=>
 X2 L λN bl=>Eb (nw #[.int .i64 0,.int .i64 0,.int .i64 0,.slice none 0 0] 166 M) λq O=>Sb (bF 4 q N O) λt=>Lf 3 q t λQ=>R (.tuple #[Q,(.bool true)]) t) (Vb (bin .add k (.int .i64 1)) λT=>
 v T m)) λg=>Vb (bin .geq f (.int .i64 0)) λal=>Br al (Vb (nh 3 x f) λam=>Lf 0 am a λU=>Vb (bin .eql U (.int .i64 0)) λV=>Br V (Vb (nh 3 p f) λap=>
 Lf 0 ap a λX=>Vb (bin .eql X (.int .i64 1)) λZ=>Br Z (Vb (nh 3 x f) λau=>Lf 1 au a λav=>Vb (nh 3 p f) λaw=>Lf 1 aw a λax=>Vb (bin .eql av ax) λay=>
 g ay a) (g (.bool false) a)) (g (.bool false) a)) (g (.bool false) a)) (Vb (B5 u) λa4=>oP (.int .i64 0) i λe d w=>Vb (bin .lss e a4) λa5=>Br a5 (Vb (nh 3 u e) λa6=>
 Vb (aP 3 a6 d) λa7=>Vb (nh 3 bi e) λa8=>Vb (aP 3 a8 d) λa9=>Vb (nX (tg [true,true,true] a7 a9)) λba=>Br ba (Vb (nh 3 bi e) λbb=>Vb (aP 3 bb d) λbc=>
 Vb (nh 3 u e) λbd=>Lf 0 bd d λbe=>Vb (fV [(0,1),(1,3),(4,1),(5,1)] nS [(0,e),(1,bc),(2,be),(3,(.bool true))]) λbf=>Eb (zO nS 6 1 170 [(0,bf)] d) λbg ae=>
 R (.tuple #[bg,(.bool true)]) ae) (Vb (bin .add e (.int .i64 1)) λbh=>w bh d)) (R (.tuple #[(.slice none 0 0),(.bool false)]) d))
def mF:=dL func73 (aH (aH (.s (aH (.b (.l [5,8] [2,7,18] (aH (.s (.c .z .z) (.s (.b aI) .z)))))) aI)))
def se:=iJ func77 (aH (.s (.o (oc [0,1,2,3,4,5,6,7] .nil)) .z))
def AB:=iJ func81 (aH aI)
def kD:=qf func89 (aH (aH (.j [] [3,5,6,7,8,61] (aH (.c .z .z)) (.j [] [3,6,7,8,61] (aH (.c .z .z)) (.s (.o (oc [0,1,2,3] .nil)) .z)))))
def gN:=iJ func93 (aH aI)
def tU:=dL func109 (aH (.s (.j [19] [0,1,26] .z (.c aI .z)) aI))
def rJ:=dL func113 (aH (.s (.j [14] [1,2,4,21] .z (.c aI .z)) aI))
def tm:=iJ func117 (aH (.j [2] [9] .z .z))
def fR:=iJ func121 (aH (cC aI))
def AG:=iJ func131 (aH (.s (.b (aH (.c aI (aH (.c aI .z))))) (.s (aH (.b (.l [16] [0,14,15,32] (aH (.s (.c .z .z) (.s (.b (aH (.s (aH (aH (.c aI .z))) (aH (.c aI .z))))) .z)))))) aI)))
def qR:=qf func135 (aH (.s (.b (aH (.c aI (aH (.c aI .z))))) aI))
def aM:=qf func140 (aH aI)
def sA:=dL func145 (aH (cC aI))
def rn:=qf func149 (aH (aH (aH (aH (aH aI)))))
def pb:=qf func153 (aH (aH (cC (aH aI))))
def bI:=iJ func157 (aH aI)
def mD:=iJ func197 (aH (aH (.s (aH (.b (.l [3,10] [1,9,53] (aH (.s (.c .z .z) (.j [3] [1,9,10,53] (.b (aH (aH (.b (.l [3,19] [1,4,9,10,17,18,53] (aH (.s (.c .z .z) (.s (.b (aH (aH (.c aI .z)))) .z)))))))) .z)))))) (.j [3] [53] (.j [49] [3,53] .z (.c .z .z)) aI))))
def eG:=MG func201 (aH (aH (aH (.s (aH (.b (.l [19] [1,2,4,6,17,18,123] (aH (.s (.c .z .z) (.s (.b (aH (aH (.s (.o (oc [0,1,2,3,4,5,6,7,8,9,10,11,12,13,14,15] .nil)) (.j [] [1,2,4,6,10,17,18,19,123] (aH (.c .z .z)) .z))))) .z)))))) (aH (aH (.j [11] [2,4,123] (aH (.b (aH (.c .z (.j [99] [2,4,123] .z (.c (.o (oc [0,1,2,3,4,5,6,7,8,9,10,11,12,13,14] .nil)) aI)))))) aI))))))) λT x h R=>
 Eb (nw (Value.cells T) 89 h) λa aw=>Eb (nw GJ 89 aw) λA U=>Vb (fa 9 a) λV=>Sb (bF 1 V (.slice none 0 0) U) λB=>
 Vb (aP 13 a B) λbr=>S.C 200 [br,x] B λX Z=>Vb (B5 x) λbt=>oP (.int .i64 0) Z λm v au=>Vb (bin .lss m bt) λbu=>
 Br bu (Vb (nh 3 x m) λbv=>Vb (aP 3 bv v) λbw=>Eb (nw #[.int .u8 0,.int .i8 0,.bool false] 124 v) λp a9=>Sb (bF 3 p bw a9) λw=>
 Lf 7 a w λbx=>Vb (nh 3 bx m) λbz=>Vb (aP 3 bz w) λb0=>Eb (nw #[.int .i64 0,.int .u32 0,.int .u32 0] 54 w) λn ba=>Sb (bF 3 n b0 ba) λi=>
 Vb (nh 1 X m) λag=>Vb (eH ag i) λE=>Vb (fa 0 n) λF=>Vb (eH F i) λG=>Vb (fa 1 n) λH=>Vb (eH H i) λal=>Vb (fV [(0,1),(1,1),(2,1)] #[.int .i64 0,.int .u32 0,.int .u32 0] [(0,G),(1,al)]) λb1=>
 Vb (fa 0 n) λam=>Vb (eH am i) λJ=>Vb (fa 2 p) λap=>Vb (eH ap i) λK=>Vb (fV [(0,1),(1,3),(4,1),(5,1)] nS [(0,E),(1,b1),(2,J),(3,K)]) λb2=>
 Eb (nw nS 170 i) λt f=>eH ap f=some K/\eH am f=some J/\eH H f=some al/\eH F f=some G/\eH ag f=some E/\Sb (bF 6 t b2 f) λk=>
 Cm (λu=>Lf 9 a u λb9=>Vb (aP 6 t u) λca=>Eb (zO nS 6 1 170 [(0,ca)] u) λcb ax=>Ap 170 nS 6 40 b9 cb ax λcc ay=>
 Vb (fa 9 a) λcd=>Sb (bF 1 cd cc ay) λaz=>Vb (bin .add m (.int .i64 1)) λce=>au ce az) λL=>Lf 2 p k λb3=>Br b3 (Lf 0 n k λb4=>Lf 1 p k λb5=>
 Vb (J2 .i64 b5) λb6=>Vb (bin .add b4 b6) λb7=>Vb (fa 4 t) λb8=>Sb (bF 1 b8 b7 k) λa0=>L a0) (L k)) (Vb (fa 7 a) λcf=>Sb (bF 1 cf (.slice none 0 0) v) λd=>
 m3 (λav M=>Vb (aP 13 a M) λbp=>Sb (bF 13 A bp M) λN=>Vb (aP 13 A N) λbb=>R (.tuple #[bb,av]) N) λq=>Lf 6 a d λcg=>Vb (nh 2 cg (.int .i64 0)) λch=>
 Lf 0 ch d λci=>Vb (bin .rem ci (.int .u8 4)) λO=>Vb (bin .eql O (.int .u8 1)) λcw=>Br cw (Vb (fa 0 a) λcx=>Vb (aP 3 cx d) λcy=>Lf 5 a d λcz=>
 Lf 9 a d λc0=>S.C 206 [cy,cz,c0] d λc1 a2=>X2 c1 λc2 c3=>Vb (fa 8 a) λc4=>Sb (bF 1 c4 c2 a2) λa3=>q c3 a3) (m3 (λc5 e=>Br c5 (Vb (fa 0 a) λbf=>
 Vb (aP 3 bf e) λbg=>Lf 5 a e λbh=>Lf 9 a e λbi=>Vb (nh 6 bi (.int .i64 0)) λbj=>Vb (aP 6 bj e) λbk=>S.C 207 [bg,bh,bk] e λbl a4=>
 X2 bl λbm bn=>Vb (fa 8 a) λbo=>Sb (bF 1 bo bm a4) λa5=>q bn a5) (Lf 4 a e λcj=>Vb (bin .add cj (.int .i64 1)) λck=>Vb (fa 4 a) λcl=>
 Sb (bF 1 cl ck e) λg=>Vb (fa 0 a) λcm=>Vb (aP 3 cm g) λcn=>Lf 3 a g λco=>Lf 4 a g λcp=>Lf 5 a g λcq=>Lf 9 a g λcr=>S.C 208 [cn,co,cp,cq,cr] g λcs a6=>
 X2 cs λct cu=>Vb (fa 8 a) λcv=>Sb (bF 1 cv ct a6) λa7=>q cu a7)) λQ=>Vb (bin .eql O (.int .u8 2)) λbc=>Br bc (Vb (nh 3 x (.int .i64 0)) λbd=>
 Lf 2 bd d λbe=>Q be d) (Q (.bool false) d)))
def xx:=OD func205 (aH (.s (aH (aH (.c aI .z))) (aH (aH aI))))
def vy:=dL func209 (aH (.s (.b (aH (.c aI (aH (.c aI (aH (.c aI .z))))))) (.s (aH (.b (.l [21] [1,2,19,20,36] (aH (.s (.c .z .z) (.s (.b (aH (cC (aH (.c aI .z))))) .z)))))) aI)))
def mu:=dL func213 (aH (aH aI))
def uL:=dL func217 (aH aI)
def wJ:=iJ func221 (aH aI)
def gE:=qf func225 (aH (aH aI))
def kr:=MG func229 (aH (aH (.j [] [2,3,5,7,74] (aH (aH (.c (aH (aH (.c aI .z))) .z))) (.s (aH (.c (.s (.o (oc [0,1,2,3,4,5,6,7,8,9,10,11,12] .nil)) .z) .z)) aI)))) λbi bk h R=>
 Eb (nw (Value.cells bi) 327 h) λd w=>Eb (nw (Value.cells bk) 54 w) λf A=>Eb (nw jQ 56 A) λp k=>Lf 6 d k λB=>
 Vb (nh 6 B (.int .i64 0)) λag=>Vb (aP 6 ag k) λE=>Eb (nw nS 170 k) λe F=>Sb (bF 6 e E F) λt=>Cm (λa=>Vb (aP 3 f a) λG=>
 Vb (fa 1 e) λH=>Vb (aP 3 H a) λJ=>Vb (nX (tg [true,true,true] G J)) λK=>Br K (Vb (aP 10 d a) λn=>Vb (aP 10 d a) λv=>Lf 0 e a λL=>
 Eb (zO #[.int .i64 0] 1 1 51 [(0,L)] a) λM m=>aP 10 d m=some v/\aP 10 d m=some n/\S.C 251 [v,M] m λN u=>aP 10 d u=some n/\S.C 250 [n,N,(.func (.func 252) #[] #[])] u λO Q=>
 T2 8 p O Q R) (Vb (aP 10 d a) λT=>Lf 0 e a λU=>Vb (aP 3 f a) λV=>Lf 4 e a λX=>Lf 1 f a λZ=>Vb (bin .add Z (.int .u32 1)) λbd=>
 Vb (fV [(0,1),(1,1),(2,1)] #[.int .i64 0,.int .u32 0,.int .u32 0] [(0,X),(1,bd)]) λbe=>Vb (fV [(0,1),(1,1),(2,3),(5,3)] jQ [(0,(.int .i64 6)),(1,U),(2,V),(3,be)]) λbf=>
 Vb (some (.func (.func 253) #[] #[e])) λbg=>S.C 227 [T,bf,bg] a λbh x=>T2 8 p bh x R)) λq=>Lf 2 f t λai=>S.C 75 [ai] t λaj g=>
 X2 aj λak bj=>Vb (bin .neq ak (.int .i64 0)) λal=>Br al (Vb (fa 0 d) λam=>Vb (aP 3 am g) λan=>Lf 2 f g λao=>Lf 5 d g λap=>S.C 232 [an,ao,ap] g λaq i=>
 X2 aq λar au=>Vb (bin .eql au (.int .i64 0)) λav=>Br av (Vb (aP 10 d i) λaw=>Vb (fV [(0,3),(3,1)] #[.int .i64 0,.int .u32 0,.int .u32 0,.bool false] []) λax=>
 Vb (some (.func (.func 248) #[] #[f])) λay=>S.C 233 [aw,ar,ax,ay] i λaz aa=>T2 8 p az aa R) (q i)) (q g)
def dT:=OD func233 (aH (aH (.s (aH (.c (aH aI) .z)) aI)))
def ou:=iJ func237 (aH (aH (.s (.j [14] [1,2,3,36] .z (.c (aH aI) .z)) (.s (aH (.c (aH aI) .z)) (aH aI)))))
def vT:=iJ func241 (aH (.s (aH (.c (aH aI) .z)) (.s (.o (oc [0,1,2,3,4,5,6,7,8,9,10,11,12] .nil)) (aH aI))))
def sY:=qf func245 (aH (aH (.s (.o (oc [0,1,2,3,4] .nil)) .z)))
def oi:=qf func249 (aH (cC (.s (.o (oc [0,1,2,3,4,5,6,7,8,9,10,11,12,13,14,15,16,17,18,19] .nil)) .z)))
def oG:=qf func253 (aH (cC (.s (.o (oc [0,1,2,3,4,5,6,7,8,9,10,11,12] .nil)) .z)))
def qk:=dL func257 (aH aI)
def oD:=UW func261 (aH (cC (.s (aH (.b (.r aI (.b (aH (.c aI .z)))))) aI))) λA h R=>
 Eb (nw (Value.cells A) 336 h) λi B=>Eb (nw #[.bool false] 4 B) λa e=>Lf 7 i e λax=>Vb (bin .lss ax (.int .i64 2)) λE=>
 Br E (Sb (bF 1 a (.bool false) e) λu=>Vb (eH a u) λd=>R d u) (Lf 9 i e λF=>Lf 8 i e λG=>S.C 274 [F,G] e λap g=>Rg S.C S.Y ap g (λm x H n=>
 A2 x λJ K=>Eb (nw #[.int .i64 0,.int .u32 0,.int .u32 0] 54 H) λv L=>Sb (bF 3 v J L) λM=>Eb (nw #[.int .i64 0,.int .u32 0,.int .u32 0] 54 M) λw N=>
 Sb (bF 3 w K N) λal=>Sb (Hy m al) λf=>Vb (aP 3 v f) λO=>Vb (aP 3 w f) λQ=>Vb (nX (tg [true,true,true] O Q)) λaw=>Br aw (Sb (bF 1 a (.bool false) f) λT=>
 Sb (fin m (some .ret) T) λU=>n (.bool false) U) (Sb (fin m none f) λV=>n (.bool true) V)) λX k=>Jp X (Sb (bF 1 a (.bool true) k) λZ=>
 Sb (Fg g.size Z) λp=>Vb (eH a p) λd=>R d p) (Sb (Fg g.size k) λq=>Vb (eH a q) λd=>R d q) λam=>Xb am 0 (Sb (bF 1 a (.bool true) k) λag=>
 Sb (Fg g.size ag) λt=>Vb (eH a t) λd=>R d t) (False))
def uq:=MG func265 (aH (.s (aH (.b (.l [7] [2,3,5,63] (.s (aH (.c .z .z)) (.s (.b (aH (.s (aH (.c .z .z)) (aH (aH (.s (.o (oc [0,1,2,3,4,5,6,7,8,9,10,11,12,13,14,15,16] .nil)) .z)))))) .z))))) (aH aI))) λA B h R=>
 Eb (nw (Value.cells A) 362 h) λa u=>Eb (nw (Value.cells B) 54 u) λf w=>Eb (nw jQ 56 w) λm i=>Lf 3 a i λE=>
 Vb (nh 2 E (.int .i64 0)) λF=>Lf 0 F i λG=>oP G i λg d t=>Lf 3 a d λH=>Vb (nh 2 H (.int .i64 0)) λag=>Lf 1 ag d λJ=>Vb (bin .lss g J) λK=>
 Br K (Vb (fa 0 a) λL=>Vb (aP 3 L d) λal=>S.C 263 [al,g] d λam k=>X2 am λM q=>Lf 0 f k λN=>Vb (bin .and N q) λap=>
 Vb (bin .neq ap (.int .i64 0)) λO=>Br O (Vb (bin .add g (.int .i64 1)) λQ=>t Q k) (Vb (fa 4 a) λT=>Sb (bF 1 T g k) λx=>Vb (some (.func (.func 276) #[] #[a])) λU=>
 Vb (fa 7 a) λV=>Sb (bF 1 V U x) λe=>Vb (aP 8 a e) λaw=>Vb (some (.iface 362 aw)) λax=>Vb (aP 3 f e) λX=>Lf 0 f e λZ=>
 Vb (bin .or Z q) λa0=>Lf 1 f e λa1=>Lf 2 f e λa2=>Vb (fV [(0,1),(1,1),(2,1)] #[.int .i64 0,.int .u32 0,.int .u32 0] [(0,a0),(1,a1),(2,a2)]) λa3=>
 Vb (fV [(0,1),(1,1),(2,3),(5,3)] jQ [(0,(.int .i64 6)),(1,M),(2,X),(3,a3)]) λa4=>Sb (bF 8 m a4 e) λn=>Vb (aP 8 m n) λaa=>R (.tuple #[ax,aa,(.bool false)]) n)) (Lf 3 a d λa5=>
 Vb (sB 2 a5 (some (.int .i64 1)) none none) λa6=>Vb (fa 3 a) λa7=>Sb (bF 1 a7 a6 d) λp=>Vb (aP 8 a p) λa8=>S.C 241 [a8] p λa9 v=>
 T2 8 m a9 v R)
def mT:=dL func269 (aH aI)
def qv:=dL func273 (aH (cC aI))
def Cg:=dL func277 (aH (.s (aH (aH (.c aI .z))) (aH (aH (aH aI)))))
def qO:=dL func281 (aH (cC aI))
def s4:=dL func285 (aH (.j [4] [26] .z .z))
def rZ:=qf func289 (aH (aH (.s (.o (oc [0,1,2,3,4,5,6] .nil)) .z)))
def mK:=dL func293 (aH (aH (aH aI)))
def nn:=dL func297 (aH (cC (aH (cC (aH (cC aI))))))
def qU:=iJ func301 (aH (cC aI))
def sy:=dL func305 (aH (aH (.s (.j [14] [2,4,5,26] .z (.c aI .z)) aI)))
def lU:=MG func309 (aH (.s (.b (.j [7] [2,3,4,5,44] (.o (oc [0,1,2,3,4,5,6,7,8,9] .nil)) (.c (aH aI) (aH (.c (aH aI) .z))))) aI)) λA B h R=>
 Eb (nw (Value.cells A) 376 h) λa v=>Eb (nw (Value.cells B) 146 v) λf E=>Eb (nw yx 376 E) λi F=>Eb (nw jQ 56 F) λk d=>
 m3 (λG e=>Br G (Lf 12 a e λH=>Vb (bin .add H (.int .i64 1)) λJ=>Vb (fa 12 a) λK=>Sb (bF 1 K J e) λq=>Vb (aP 21 a q) λL=>S.C 302 [L] q λal M=>
 T3 21 i 8 k al M R) (Vb (aP 21 a e) λam=>Vb (fa 0 f) λN=>Vb (aP 3 N e) λO=>S.C 314 [am,O] e λap g=>Br ap (Vb (fa 0 f) λQ=>
 Vb (aP 3 Q g) λT=>Vb (fa 14 a) λU=>Sb (bF 3 U T g) λn=>Vb (aP 21 a n) λV=>S.C 272 [V,(.func (.func 315) #[] #[])] n λaw w=>
 T3 21 i 8 k aw w R) (Vb (aP 21 a g) λax=>S.C 305 [ax,(.int .i64 2)] g λX x=>T3 21 i 8 k X x R))) λm=>Lf 3 f d λZ=>Br Z (m (.bool true) d) (Vb (fa 0 f) λt=>
 Vb (aP 3 t d) λu=>Vb (aP 21 a d) λae=>S.C 308 [ae] d λaf p=>aP 3 t p=some u/\Vb (pos? (tg [true,true,true] u af)) λag=>
 m ag p)
def l6:=dL func313 (aH (.s (.o (oc [0,1,2,3,4,6,7,8,9,5,10,11,12,13,14,15,16,17,18] .nil)) .z))
def nL:=dL func317 (aH aI)
def zF:=qf func321 (aH (.s (.b (aH (.c aI (.j [13] [1,2,3,6,33] .z (.c aI (aH (.c aI .z))))))) aI))
def eE:=dL func340 (aH (cC (aH (.s (.o (oc [0,1,2,3,4,5,6] .nil)) .z))))
def iL:=dL func344 (aH (cC aI))
end
end Go.En
namespace Go.En
open Go.Proofs.Tryz
noncomputable section
set_option maxRecDepth 100000
set_option linter.unusedVariables false
set_option maxHeartbeats 400000
attribute [local irreducible] Vb Eb Sb Br Cl Ci Cw Ap Nx Cm m3 Du Fm oP wA Km Rg Jp Xb A2 nw aP eH fa nh Dl bin MH ext bF zO sB OK B5 Mr J2 fV FG tg nX pos? Az inl PO mx mn JM wB CC Gb K9 Fg oV MJ PG Pu O2 Q8 Qw Hy fin GZ Lw Rk okB O9 Ps Mz O7 O4
def cT:=dL func9 (aH (.j [] [2,4,44] (.b (aH (.c .z (aH (.c aI (aH (.c .z (aH (.c aI (aH (.c aI .z))))))))))) aI))
def gG:=dL func16 (aH (aH (.s (aH (.b (.l [5,6] [0,1,53] (.s (.j [16] [0,1,5,6,53] .z (.c .z .z)) (.s (.b (cC (aH (.b (.l [5,30] [0,1,6,28,29,53] (aH (.s (.c .z .z) (.s (.b aI) .z)))))))) .z))))) (.j [4] [53] .z .z))))
def mJ:=iJ func20 (aH (aH aI))
def gA:=dL func24 (aH (aH (.s (aH (.b (.l [6] [1,2,5,34] (.s (aH (.c .z .z)) (.j [] [1,2,5,6,34] (.b (aH (.c .z .z))) .z))))) aI)))
def mz:=dL func28 (aH aI)
def fU:=iJ func33 (aH (aH aI))
def oL:=dL func37 (aH (aH (aH (aH (aH aI)))))
def mY:=dL func44 (aH (cC (aH (.s (aH (.j [22] [2,5,38] .z (.c aI .z))) (.j [4] [38] .z .z)))))
def nK:=OD func48 (aH (.s (.j [22] [1,2,3,4,34] .z (.c aI .z)) (.s (.o (oc [0,1,3,4,5,6,7,9,2,8,10,11] .nil)) .z)))
def mg:=dL func52 (aH aI)
def vZ:=iJ func56 (aH (cC aI))
def cI:=OD func60 (aH (.s (aH (aH (.c aI .z))) (aH (.j [] [1,4,8,9,12,85] (.b (aH (.c .z (aH (.c .z (aH (.c .z (aH (.c .z .z))))))))) (aH (aH (.s (.o (oc [0,1,2,3,4] .nil)) .z)))))))
def gS:=dL func70 (aH (.s (aH (.b (.l [5] [0,1,51] (.s (aH (.c .z .z)) (.s (.b (aH (.j [50] [0,1,5,51] (.o (oc [0,1,2,3,4,5,6,7,8,9,10,11,12,13,14,15,16,17,18,19,20,21,22,23,24,25,26,27,28,29,30,31,32,33] .nil)) (.c aI .z)))) .z))))) aI))
def lH:=iJ func74 (aH (.s (.b (.j [3] [1,20] (aH (.c .z (aH (.c .z .z)))) (.c aI (aH (.c aI .z))))) aI))
def pF:=dL func78 (aH (cC aI))
def fW:=iJ func82 (aH (cC aI))
def uu:=qf func90 (aH (.s (.b (aH (.c aI (aH (.c aI .z))))) (aH (.j [8] [1,2,3,6,54] (aH (.c .z .z)) (aH (aH (aH (.j [] [1,3,6,8,54] (aH (.c .z .z)) (aH aI)))))))))
def iI:=dL func106 (aH (aH (.j [6,7] [21] (aH (.c .z .z)) (cC aI))))
def AL:=UW func110 (aH (.s (.j [14] [1,2,35] .z (.c aI .z)) (aH (.s (.s (.o (oc [0,2,1,3] .nil)) (.c aI .z)) aI)))) λA h R=>
 Eb (nw (Value.cells A) 218 h) λa v=>Eb (nw nS 170 v) λe g=>m3 (λB d=>Br B (Vb (fV [(0,1),(1,3),(4,1),(5,1)] nS []) λE=>
 Sb (bF 6 e E d) λp=>Vb (aP 6 e p) λf=>R (.tuple #[f,(.bool false)]) p) (Vb (Dl 3 3 a (.int .i64 0)) λF=>Lf 0 F d λag=>Vb (Dl 3 3 a (.int .i64 1)) λG=>
 Vb (aP 3 G d) λH=>Vb (Dl 3 3 a (.int .i64 2)) λJ=>Lf 0 J d λK=>Vb (Dl 3 3 a (.int .i64 0)) λal=>Lf 1 al d λam=>Vb (bin .eql am (.int .u32 1)) λL=>
 Vb (fV [(0,1),(1,3),(4,1),(5,1)] nS [(0,ag),(1,H),(2,K),(3,L)]) λM=>Eb (nw nS 170 d) λk w=>Sb (bF 6 k M w) λm=>Vb (aP 6 k m) λap=>
 Vb (aP 9 a m) λu=>S.C 130 [ap] m λN i=>aP 9 a i=some u/\Vb (nX (tg [true,true,true,true,true,true,true,true,true] N u)) λO=>
 Br O (Vb (fV [(0,1),(1,3),(4,1),(5,1)] nS []) λQ=>Sb (bF 6 e Q i) λq=>Vb (aP 6 e q) λf=>R (.tuple #[f,(.bool false)]) q) (Vb (aP 6 k i) λT=>
 Sb (bF 6 e T i) λt=>Vb (aP 6 e t) λf=>R (.tuple #[f,(.bool true)]) t))) λn=>Vb (Dl 3 3 a (.int .i64 0)) λaw=>Lf 0 aw g λax=>Vb (bin .lss ax (.int .i64 0)) λU=>
 Br U (n (.bool true) g) (Vb (Dl 3 3 a (.int .i64 0)) λx=>Lf 0 x g λV=>Vb (bin .geq V (.int .i64 4096)) λX=>n X g)
def rN:=TB func114 (aH (aH (.s (.j [31] [1,2,9,10,11,14,15,16,41] .z (.c (.s (.o (oc [0,1,2,3,4,5,6] .nil)) .z) .z)) (.s (.o (oc [0,1,2,3,5,4,6,7,8,9] .nil)) .z)))) λF ap A G H h R=>
 Eb (nw (Value.cells F) 29 h) λam J=>Eb (nw (Value.cells G) 54 J) λK L=>Eb (nw (Value.cells H) 54 L) λM ag=>
 Eb (nw #[.slice none 0 0,.slice none 0 0] 29 ag) λf N=>Eb (nw #[.int .i64 0,.int .u32 0,.int .u32 0] 54 N) λg x=>Vb (aP 2 am x) λO=>
 S.C 122 [O,ap,A] x λQ T=>X3 Q λU V B=>Eb (nw #[.slice none 0 0,.slice none 0 0] 29 T) λm X=>Eb (nw #[.int .i64 0,.int .u32 0,.int .u32 0] 54 X) λd Z=>
 Sb (bF 2 m U Z) λal=>Sb (bF 3 d V al) λe=>m3 (λa0 a=>Br a0 (Vb (aP 2 m a) λa1=>Vb (aP 3 d a) λE=>Sb (bF 2 f a1 a) λu=>aP 3 d u=some E/\Sb (bF 3 g E u) λi=>
 Vb (aP 2 f i) λn=>Vb (aP 3 g i) λp=>R (.tuple #[n,p,(.bool false),B]) i) (Vb (aP 2 m a) λa2=>Vb (aP 3 M a) λa3=>Vb (aP 3 d a) λq=>
 S.C 134 [a2,ap,A,a3,(.bool true)] a λa4 v=>aP 3 d v=some q/\Sb (bF 2 f a4 v) λw=>aP 3 d w=some q/\Sb (bF 3 g q w) λk=>
 Vb (aP 2 f k) λn=>Vb (aP 3 g k) λp=>R (.tuple #[n,p,(.bool true),(.int .i64 0)]) k)) λt=>Vb (bin .neq B (.int .i64 0)) λaw=>Br aw (t (.bool true) e) (Vb (aP 3 d e) λax=>
 Vb (aP 3 K e) λay=>Vb (nX (tg [true,true,true] ax ay)) λaz=>t az e)
def wI:=dL func118 (aH (.j [4] [14] .z .z))
def rF:=qf func122 (aH aI)
def iD:=dL func132 (aH (.s (aH (.b (.l [5] [0,1,25] (.s (aH (.c .z .z)) (.s (.b (.s (.o (oc [0,1,2,3,4,5,6,7,8,9,10,11] .nil)) (.c aI .z))) .z))))) aI))
def fD:=iJ func136 (aH aI)
def AU:=iJ func142 (aH (.s (.b (.j [3] [1,38] .z (.c aI (aH (.c aI (.j [17] [1,38] .z (.c aI (.j [26] [38] .z (.c aI .z))))))))) aI))
def xm:=qf func146 (aH (.s (.j [21] [1,2,3,6,34] .z (.c aI .z)) (aH (.j [7] [1,2,6,34] (aH (.c .z .z)) (aH aI)))))
def pY:=dL func150 (aH (.j [4] [14] .z .z))
def C2:=iJ func154 (aH aI)
def EC:=dL func158 (aH (cC (aH (.s (aH (.b (.l [] [4,5,18,33] (aH (.s (.c .z .z) (.b aI)))))) aI))))
def bL:=dL func198 (aH (aH (aH (.s (aH (.c (.s (.o (oc [0,1,2,3,4,5] .nil)) .z) .z)) (aH (.j [10,11] [2,5,7,100] (aH (aH (.c .z .z))) (.j [11] [2,5,10,100] (aH (aH (.c (aH (.s (aH (.b (.l [17,56] [2,5,10,54,55,100] (aH (.s (.c .z .z) (.s (.b aI) .z)))))) aI)) .z))) (.j [] [2,5,10,100] .z (aH (aH (aH aI)))))))))))
def j8:=iJ func202 (aH (aH (.j [2,3] [21] (.o (oc [0,1,2,3,4,5,6,7,8,9,10,11] .nil)) .z)))
def xL:=qf func206 (aH (.s (aH (aH (.c aI .z))) (aH aI)))
def tl:=dL func210 (aH aI)
def jH:=iJ func214 (aH (.s (.o (oc [0,1,2,3,4,5,6,7,8,9,10,11,12,13] .nil)) .z))
def fH:=iJ func218 (aH (cC aI))
def fO:=dL func222 (aH aI)
def lQ:=dL func226 (aH (aH (.s (aH (.c (aH aI) .z)) (aH (aH aI)))))
def yj:=dL func230 (aH (aH aI))
def m5:=dL func234 (aH aI)
def AF:=dL func238 (aH (.s (.b (aH (.c aI (.j [9] [18] .z (.c aI .z))))) aI))
def dI:=dL func242 (aH (aH (aH (cC aI))))
def kT:=dL func246 (aH (.s (aH (.c (aH aI) .z)) (aH aI)))
def gY:=qf func250 (aH (cC (.s (.o (oc [0,1,2,3,4,5,6,7,8,9,10,11] .nil)) .z)))
def jX:=iJ func254 (aH aI)
def AJ:=iJ func258 (aH (aH (.s (.j [17] [4,20] .z (.c aI .z)) aI)))
def lx:=dL func262 (aH (.s (aH (.c (aH (aH (aH aI))) .z)) (aH aI)))
def iU:=iJ func266 (aH (aH (aH aI)))
def vd:=OD func270 (aH (.s (.o (oc [0,1,2,3,4,5,6,7,8,9,10] .nil)) .z))
def EO:=dL func274 (aH aI)
def lL:=dL func278 (aH aI)
def rh:=dL func282 (aH aI)
def vF:=dL func286 (aH (aH aI))
def pU:=dL func290 (aH aI)
def uk:=iJ func294 (aH (aH (cC (aH aI))))
def Co:=OD func298 (aH (cC (aH (.s (.j [35] [2,3,10,43] .z (.c aI .z)) aI))))
def qI:=iJ func302 (aH (cC (.s (.o (oc [0,1,3,5,2,4,6,7,8,9,10,11,12,13,14] .nil)) .z)))
def s0:=iJ func306 (aH aI)
def ll:=dL func310 (aH aI)
def qV:=dL func314 (aH (aH (aH (.j [4] [35] .z .z))))
def lh:=dL func318 (aH (cC (aH (aH aI))))
def ng:=dL func322 (aH (aH aI))
def gF:=dL func341 (aH (cC (aH (.s (.o (oc [0,1,2,3,4,5,6,7] .nil)) .z))))
end
end Go.En
