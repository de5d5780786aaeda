/- Library, part F. -/
import Derived.Test.YtcepckpfhbcobaaGreatDoorXB
set_option maxRecDepth 100000
namespace Go.En
open Go.Proofs.Tryz
noncomputable section
set_option maxRecDepth 100000
set_option maxHeartbeats 400000
attribute [local irreducible] Vb Eb Sb Br Cl Ci Cw Ap Nx HJ sV JU KW sO z5 Ri Rg Jp Xb A2 nw kc mH fa sL I4 bin Qb ext kq ED xO Uj Ej Re NY nF ML zL uk pos? FV inl WL mx mn Pa B9 Ib MB SA Lb uX Tg VJ VG VR W7 Xd NU fin LL RB Yp okB We VF S8 Wl V4
def lK:=lZ func9 (jV (.j [] [2,4,44] (.b (jV (.c .z (jV (.c jW (jV (.c .z (jV (.c jW (jV (.c jW .z))))))))))) jW))
def nT:=lZ func16 (jV (jV (.s (jV (.b (.l [5,6] [0,1,53] (.s (.j [16] [0,1,5,6,53] .z (.c .z .z)) (.s (.b (lp (jV (.b (.l [5,30] [0,1,6,28,29,53] (jV (.s (.c .z .z) (.s (.b jW) .z)))))))) .z))))) (.j [4] [53] .z .z))))
def pb:=oH func20 (jV (jV jW))
def mJ:=lZ func24 (jV (jV (.s (jV (.b (.l [6] [1,2,5,34] (.s (jV (.c .z .z)) (.j [] [1,2,5,6,34] (.b (jV (.c .z .z))) .z))))) jW)))
def su:=lZ func28 (jV jW)
def nG:=oH func33 (jV (jV jW))
def uL:=lZ func37 (jV (jV (jV (jV (jV jW)))))
def sZ:=lZ func44 (jV (lp (jV (.s (jV (.j [22] [2,5,38] .z (.c jW .z))) (.j [4] [38] .z .z)))))
def tK:=UQ func48 (jV (.s (.j [22] [1,2,3,4,34] .z (.c jW .z)) (.s (.o (oc [0,1,3,4,5,6,7,9,2,8,10,11] .nil)) .z)))
def sr:=lZ func52 (jV jW)
def Bx:=oH func56 (jV (lp jW))
def lE:=UQ func60 (jV (.s (jV (jV (.c jW .z))) (jV (.j [] [1,4,8,9,12,85] (.b (jV (.c .z (jV (.c .z (jV (.c .z (jV (.c .z .z))))))))) (jV (jV (.s (.o (oc [0,1,2,3,4] .nil)) .z)))))))
def oD:=lZ func70 (jV (.s (jV (.b (.l [5] [0,1,51] (.s (jV (.c .z .z)) (.s (.b (jV (.j [50] [0,1,5,51] (.o (oc [0,1,2,3,4,5,6,7,8,9,10,11,12,13,14,15,16,17,18,19,20,21,22,23,24,25,26,27,28,29,30,31,32,33] .nil)) (.c jW .z)))) .z))))) jW))
def rC:=oH func74 (jV (.s (.b (.j [3] [1,20] (jV (.c .z (jV (.c .z .z)))) (.c jW (jV (.c jW .z))))) jW))
def wy:=lZ func78 (jV (lp jW))
def nC:=oH func82 (jV (lp jW))
def Ff:=vz func86 (jV (.s (.b (.j [7] [0,1,2,33] .z (.c jW (jV (.c jW .z))))) jW))
def zZ:=vz func90 (jV (.s (.b (jV (.c jW (jV (.c jW .z))))) (jV (.j [8] [1,2,3,6,54] (jV (.c .z .z)) (jV (jV (jV (.j [] [1,3,6,8,54] (jV (.c .z .z)) (jV jW)))))))))
def oO:=lZ func106 (jV (jV (.j [6,7] [21] (jV (.c .z .z)) (lp jW))))
def F8:=tp1 func110 (jV (.s (.j [14] [1,2,35] .z (.c jW .z)) (jV (.s (.s (.o (oc [0,2,1,3] .nil)) (.c jW .z)) jW)))) λB h R=>
 Eb (nw (Value.cells B) 218 h) λa v=>Eb (nw tJ 170 v) λe g=>sV (λE d=>Br E (Vb (nF [(0,1),(1,3),(4,1),(5,1)] tJ []) λF=>
 Sb (kq 6 e F d) λp=>Vb (kc 6 e p) λf=>R (.tuple #[f,(.bool false)]) p) (Vb (I4 3 3 a (.int .i64 0)) λG=>Lf 0 G d λag=>Vb (I4 3 3 a (.int .i64 1)) λH=>
 Vb (kc 3 H d) λJ=>Vb (I4 3 3 a (.int .i64 2)) λK=>Lf 0 K d λM=>Vb (I4 3 3 a (.int .i64 0)) λal=>Lf 1 al d λam=>Vb (bin .eql am (.int .u32 1)) λO=>
 Vb (nF [(0,1),(1,3),(4,1),(5,1)] tJ [(0,ag),(1,J),(2,M),(3,O)]) λQ=>Eb (nw tJ 170 d) λk w=>Sb (kq 6 k Q w) λm=>Vb (kc 6 k m) λap=>
 Vb (kc 9 a m) λu=>S.C 130 [ap] m λT i=>kc 9 a i=some u/\Vb (uk (zL [true,true,true,true,true,true,true,true,true] T u)) λU=>
 Br U (Vb (nF [(0,1),(1,3),(4,1),(5,1)] tJ []) λV=>Sb (kq 6 e V i) λq=>Vb (kc 6 e q) λf=>R (.tuple #[f,(.bool false)]) q) (Vb (kc 6 k i) λX=>
 Sb (kq 6 e X i) λt=>Vb (kc 6 e t) λf=>R (.tuple #[f,(.bool true)]) t))) λn=>Vb (I4 3 3 a (.int .i64 0)) λaw=>Lf 0 aw g λax=>Vb (bin .lss ax (.int .i64 0)) λZ=>
 Br Z (n (.bool true) g) (Vb (I4 3 3 a (.int .i64 0)) λx=>Lf 0 x g λaa=>Vb (bin .geq aa (.int .i64 4096)) λab=>n ab g)
def yk:=tp5 func114 (jV (jV (.s (.j [31] [1,2,9,10,11,14,15,16,41] .z (.c (.s (.o (oc [0,1,2,3,4,5,6] .nil)) .z) .z)) (.s (.o (oc [0,1,2,3,5,4,6,7,8,9] .nil)) .z)))) λG ap B H J h R=>
 Eb (nw (Value.cells G) 29 h) λam K=>Eb (nw (Value.cells H) 54 K) λM O=>Eb (nw (Value.cells J) 54 O) λQ ag=>
 Eb (nw #[.slice none 0 0,.slice none 0 0] 29 ag) λf T=>Eb (nw #[.int .i64 0,.int .u32 0,.int .u32 0] 54 T) λg x=>Vb (kc 2 am x) λU=>
 S.C 122 [U,ap,B] x λV X=>X3 V λZ av E=>Eb (nw #[.slice none 0 0,.slice none 0 0] 29 X) λm aj=>Eb (nw #[.int .i64 0,.int .u32 0,.int .u32 0] 54 aj) λd ak=>
 Sb (kq 2 m Z ak) λal=>Sb (kq 3 d av al) λe=>sV (λa0 a=>Br a0 (Vb (kc 2 m a) λa1=>Vb (kc 3 d a) λF=>Sb (kq 2 f a1 a) λu=>kc 3 d u=some F/\Sb (kq 3 g F u) λi=>
 Vb (kc 2 f i) λn=>Vb (kc 3 g i) λp=>R (.tuple #[n,p,(.bool false),E]) i) (Vb (kc 2 m a) λa2=>Vb (kc 3 Q a) λa3=>Vb (kc 3 d a) λq=>
 S.C 134 [a2,ap,B,a3,(.bool true)] a λa4 v=>kc 3 d v=some q/\Sb (kq 2 f a4 v) λw=>kc 3 d w=some q/\Sb (kq 3 g q w) λk=>
 Vb (kc 2 f k) λn=>Vb (kc 3 g k) λp=>R (.tuple #[n,p,(.bool true),(.int .i64 0)]) k)) λt=>Vb (bin .neq E (.int .i64 0)) λaw=>Br aw (t (.bool true) e) (Vb (kc 3 d e) λax=>
 Vb (kc 3 M e) λay=>Vb (uk (zL [true,true,true] ax ay)) λaz=>t az e)
def Ct:=lZ func118 (jV (.j [4] [14] .z .z))
def yU:=vz func122 (jV jW)
def oL:=lZ func132 (jV (.s (jV (.b (.l [5] [0,1,25] (.s (jV (.c .z .z)) (.s (.b (.s (.o (oc [0,1,2,3,4,5,6,7,8,9,10,11] .nil)) (.c jW .z))) .z))))) jW))
def m9:=oH func136 (jV jW)
def F9:=oH func142 (jV (.s (.b (.j [3] [1,38] .z (.c jW (jV (.c jW (.j [17] [1,38] .z (.c jW (.j [26] [38] .z (.c jW .z))))))))) jW))
def Cr:=vz func146 (jV (.s (.j [21] [1,2,3,6,34] .z (.c jW .z)) (jV (.j [7] [1,2,6,34] (jV (.c .z .z)) (jV jW)))))
def xl:=lZ func150 (jV (.j [4] [14] .z .z))
def IA:=oH func154 (jV jW)
def Jv:=lZ func158 (jV (lp (jV (.s (jV (.b (.l [] [4,5,18,33] (jV (.s (.c .z .z) (.b jW)))))) jW))))
def kK:=lZ func198 (jV (jV (jV (.s (jV (.c (.s (.o (oc [0,1,2,3,4,5] .nil)) .z) .z)) (jV (.j [10,11] [2,5,7,100] (jV (jV (.c .z .z))) (.j [11] [2,5,10,100] (jV (jV (.c (jV (.s (jV (.b (.l [17,56] [2,5,10,54,55,100] (jV (.s (.c .z .z) (.s (.b jW) .z)))))) jW)) .z))) (.j [] [2,5,10,100] .z (jV (jV (jV jW)))))))))))
def qd:=oH func202 (jV (jV (.j [2,3] [21] (.o (oc [0,1,2,3,4,5,6,7,8,9,10,11] .nil)) .z)))
def Dh:=vz func206 (jV (.s (jV (jV (.c jW .z))) (jV jW)))
def zF:=lZ func210 (jV jW)
def pG:=oH func214 (jV (.s (.o (oc [0,1,2,3,4,5,6,7,8,9,10,11,12,13] .nil)) .z))
def nh:=oH func218 (jV (lp jW))
def nn:=lZ func222 (jV jW)
def ru:=lZ func226 (jV (jV (.s (jV (.c (jV jW) .z)) (jV (jV jW)))))
def DA:=lZ func230 (jV (jV jW))
def sY:=lZ func234 (jV jW)
def Gj:=lZ func238 (jV (.s (.b (jV (.c jW (.j [9] [18] .z (.c jW .z))))) jW))
def lY:=lZ func242 (jV (jV (jV (lp jW))))
def qN:=lZ func246 (jV (.s (jV (.c (jV jW) .z)) (jV jW)))
def oM:=vz func250 (jV (lp (.s (.o (oc [0,1,2,3,4,5,6,7,8,9,10,11] .nil)) .z)))
def pU:=oH func254 (jV jW)
def F3:=oH func258 (jV (jV (.s (.j [17] [4,20] .z (.c jW .z)) jW)))
def qT:=lZ func262 (jV (.s (jV (.c (jV (jV (jV jW))) .z)) (jV jW)))
def py:=oH func266 (jV (jV (jV jW)))
def AZ:=UQ func270 (jV (.s (.o (oc [0,1,2,3,4,5,6,7,8,9,10] .nil)) .z))
def Jq:=lZ func274 (jV jW)
def rm:=lZ func278 (jV jW)
def xW:=lZ func282 (jV jW)
def Ba:=lZ func286 (jV (jV jW))
def vN:=lZ func290 (jV jW)
def zV:=oH func294 (jV (jV (lp (jV jW))))
def IC:=UQ func298 (jV (lp (jV (.s (.j [35] [2,3,10,43] .z (.c jW .z)) jW))))
def xE:=oH func302 (jV (lp (.s (.o (oc [0,1,3,5,2,4,6,7,8,9,10,11,12,13,14] .nil)) .z)))
def zA:=oH func306 (jV jW)
def qH:=lZ func310 (jV jW)
def xC:=lZ func314 (jV (jV (jV (.j [4] [35] .z .z))))
def qJ:=lZ func318 (jV (lp (jV (jV jW))))
def tj:=lZ func322 (jV (jV jW))
def nS:=lZ func341 (jV (lp (jV (.s (.o (oc [0,1,2,3,4,5,6,7] .nil)) .z))))
end
end Go.En
