/- Library, part D. -/
import Derived.Test.YtcepckpfhbcobaaGreatDoorXB
set_option maxRecDepth 100000
namespace Go.En
open Go.Proofs.Tryz
noncomputable section
set_option maxRecDepth 100000
set_option maxHeartbeats 400000
attribute [local irreducible] Vb Eb Sb Br Cl Ci Cw Ap Nx HJ sV JU KW sO z5 Ri Rg Jp Xb A2 nw kc mH fa sL I4 bin Qb ext kq ED xO Uj Ej Re NY nF ML zL uk pos? FV inl WL mx mn Pa B9 Ib MB SA Lb uX Tg VJ VG VR W7 Xd NU fin LL RB Yp okB We VF S8 Wl V4
def X_simulcasttop_TopSumStands:=vz func5 (jV (lp (lp (jV (jV (lp (jV (lp (.s (jV (.b (.l [46] [44,45,68] (jV (.s (.c .z .z) (.s (.b (jV (jV (lp (jV (.b (.l [60] [44,45,46,58,59,68] (jV (.s (.c .z .z) (.s (.b (jV (jV (.c jW .z)))) .z)))))))))) .z)))))) jW)))))))))
def CS:=oH func12 (jV jW)
def rD:=vz func18 (jV (.s (.o (oc [1,2,0,3,4,5] .nil)) (jV (.s (jV (.b (.l [8,21] [2,3,6,19,20,97] (jV (.s (.c .z .z) (.j [8] [2,3,6,19,20,21,97] (.b (jV (.s (jV (.c .z .z)) (jV (.j [44] [2,3,6,8,19,20,21,97] .z (.c jW .z)))))) .z)))))) (.s (jV (.b (.l [8,12] [2,3,6,97] (.s (jV (.c .z .z)) (.s (.b (jV (.b (.l [8,13] [2,3,6,12,97] (.s (.j [70] [2,3,6,8,12,13,97] .z (.c .z .z)) (.s (.b (jV (.j [94] [2,3,6,8,12,13,97] .z (.c jW .z)))) .z)))))) .z))))) jW)))))
def wY:=tx0 func22 (jV jW)
def FZ:=lZ func31 (jV (jV (lp (jV (lp (.s (.o (oc [0,1,2,3,4,5,6] .nil)) .z))))))
def lR:=lZ func35 (jV (.j [4] [31] .z .z))
def m5:=vz func42 (jV (jV (lp (jV (.s (.j [45] [2,49] (.o (oc [0,1,2,3,4,5,6,7,8,9,10,11,12,13,14,15,16,17,18,19,20,21,22,23,24] .nil)) (.c jW .z)) jW)))))
def wZ:=oH func46 (jV jW)
def pp:=oH func50 (jV (lp jW))
def IJ:=lZ func54 (jV (.s (.b (.j [9] [0,1,4,45] .z (.c jW (jV (.c jW (jV (.c jW .z))))))) (jV (.s (jV (.b (.l [32] [4,6,30,31,45] (jV (.s (.c .z .z) (.s (.b (jV (.o (oc [0,1,2,3,4,5,6,7] .nil)))) .z)))))) jW))))
def qL:=oH func58 (jV (lp jW))
def vX:=lZ func62 (jV (lp (jV (.j [] [2,3,4,5,26] (.o (oc [0,1,3] (.oZ (oc [2,4,5,6,7] .nil) (oc [4,2,5,6,7] .nil)))) (.s (.o (oc [0,1,2,3,4,5,6,7,8] .nil)) .z)))))
def wj:=oH func72 (jV (jV (jV (.s (jV (.b (.l [4,10] [0,3,9,33] (jV (.s (.c .z .z) (.j [4] [0,3,9,10,33] (.b (jV (jV (.j [23] [0,3,4,6,9,10,33] .z (.c .z .z))))) .z)))))) jW))))
def uJ:=tp3 func76 (jV (.s (.j [26] [1,2,3,6,122] .z (.c jW .z)) (jV (lp (.j [10,11] [1,2,3,6,8,9,122] (.o (oc [0,1,2,3,4,5,6,7,8] (.oZ (oc [9,10,11,12] .nil) (oc [10,9,11,12] .nil)))) (.s (.j [76] [1,2,3,6,8,10,11,122] .z (.c jW .z)) (jV (.s (jV (.b (.l [87] [1,3,6,8,12,86,122] (jV (.s (.c .z .z) (.s (.b (jV (jV (jV (lp .z))))) .z)))))) (lp jW))))))))) λc6 B Q h R=>
 Eb (nw (Value.cells c6) 61 h) λx a7=>Eb (nw #[.int .i64 0,.int .i64 0,.int .i64 0,.slice none 0 0] 166 a7) λd T=>sV (λb9 ag=>
 Br b9 (Vb (nF [(0,1),(1,1),(2,1),(3,1)] #[.int .i64 0,.int .i64 0,.int .i64 0,.slice none 0 0] []) λca=>Sb (kq 4 d ca ag) λU=>Vb (kc 4 d U) λe=>
 R (.tuple #[e,(.int .i64 1)]) U) (Vb (kc 3 x ag) λcb=>S.C 106 [cb,Q] ag λcc q=>X2 cc λE V=>Vb (bin .eql V (.int .i64 0)) λcd=>
 Br cd (Vb (nF [(0,1),(1,1),(2,1),(3,1)] #[.int .i64 0,.int .i64 0,.int .i64 0,.slice none 0 0] []) λce=>Sb (kq 4 d ce q) λX=>Vb (kc 4 d X) λe=>
 R (.tuple #[e,(.int .i64 3)]) X) (JU (λt m a=>sV (λcu w=>Br cu (Vb (nF [(0,1),(1,1),(2,1),(3,1)] #[.int .i64 0,.int .i64 0,.int .i64 0,.slice none 0 0] []) λcv=>
 Sb (kq 4 d cv w) λZ=>Vb (kc 4 d Z) λe=>R (.tuple #[e,(.int .i64 5)]) Z) (Lf 1 t w λcw=>Vb (NY .i64 cw) λcx=>Lf 0 t w λcy=>Vb (nF [(0,1),(1,1),(2,1),(3,1)] #[.int .i64 0,.int .i64 0,.int .i64 0,.slice none 0 0] [(0,Q),(1,cx),(2,cy)]) λcz=>
 Eb (nw #[.int .i64 0,.int .i64 0,.int .i64 0,.slice none 0 0] 166 w) λn a8=>Sb (kq 4 n cz a8) λap=>Lf 0 m ap λc0=>sO (.int .i64 0) ap λF p a6=>
 Vb (bin .lss F c0) λc1=>Br c1 (Vb (bin .add E (.int .i64 2)) λc2=>Vb (bin .mul (.int .i64 3) F) λc3=>Vb (bin .add c2 c3) λa4=>Vb (bin .add a4 (.int .i64 3)) λc4=>
 Vb (xO 3 B (some a4) (some c4) none) λbh=>Vb (Uj 3 bh) λbi=>Vb (kc 9 bi p) λbj=>S.C 110 [bj] p λbk a9=>X2 bk λbl bm=>Eb (nw tJ 170 a9) λa5 ba=>
 Sb (kq 6 a5 bl ba) λv=>Vb (Qb .not bm) λbn=>Br bn (Vb (nF [(0,1),(1,1),(2,1),(3,1)] #[.int .i64 0,.int .i64 0,.int .i64 0,.slice none 0 0] []) λbo=>
 Sb (kq 4 d bo v) λaq=>Vb (kc 4 d aq) λe=>R (.tuple #[e,(.int .i64 5)]) aq) (Lf 3 n v λbp=>Vb (kc 6 a5 v) λbq=>Eb (ED tJ 6 1 170 [(0,bq)] v) λbr bb=>
 Ap 170 tJ 6 40 bp br bb λbs bc=>Vb (fa 3 n) λbt=>Sb (kq 1 bt bs bc) λbd=>Vb (bin .add F (.int .i64 1)) λbu=>a6 bu bd)) (Vb (kc 4 n p) λbv=>
 Vb (kc 3 x p) λbw=>S.C 111 [bv,bw] p λbx G=>Vb (bin .neq bx (.int .i64 0)) λbz=>Br bz (Vb (nF [(0,1),(1,1),(2,1),(3,1)] #[.int .i64 0,.int .i64 0,.int .i64 0,.slice none 0 0] []) λb0=>
 Sb (kq 4 d b0 G) λau=>Vb (kc 4 d au) λe=>R (.tuple #[e,(.int .i64 5)]) au) (Vb (kc 4 n G) λb1=>Sb (kq 4 d b1 G) λav=>Vb (kc 4 d av) λe=>
 R (.tuple #[e,(.int .i64 0)]) av)))) λi=>Lf 0 t a λcg=>Vb (bin .lss cg (.int .i64 0)) λch=>Br ch (i (.bool true) a) (Lf 0 t a λci=>Vb (bin .gtr ci (.int .i64 3)) λcj=>
 Br cj (i (.bool true) a) (Lf 2 t a λck=>Vb (bin .neq ck (.int .u32 0)) λcl=>Br cl (i (.bool true) a) (Lf 0 m a λcm=>Vb (bin .lss cm (.int .i64 1)) λcn=>
 Br cn (i (.bool true) a) (Lf 0 m a λco=>Vb (bin .gtr co V) λcp=>Br cp (i (.bool true) a) (Vb (kc 3 m a) λcq=>Lf 0 m a λcr=>Vb (nF [(0,1),(1,1),(2,1)] #[.int .i64 0,.int .u32 0,.int .u32 0] [(0,cr)]) λcs=>
 Vb (uk (zL [true,true,true] cq cs)) λct=>i ct a)))))) λam=>Vb (sL 3 B E) λu=>Vb (kc 3 u q) λk=>Vb (bin .add E (.int .i64 1)) λcf=>
 Vb (sL 3 B cf) λg=>Vb (kc 3 g q) λf=>And (Eb (nw #[.int .i64 0,.int .u32 0,.int .u32 0] 54 q) λa1 H=>kc 3 g H=some f/\kc 3 u H=some k/\Eb (nw #[.int .i64 0,.int .u32 0,.int .u32 0] 54 H) λan J=>
 kc 3 g J=some f/\kc 3 u J=some k/\Sb (kq 3 a1 k J) λaw=>kc 3 g aw=some f/\Sb (kq 3 an f aw) λbe=>am a1 an be) (Eb (nw #[.int .i64 0,.int .u32 0,.int .u32 0] 54 q) λao K=>
 kc 3 g K=some f/\kc 3 u K=some k/\Eb (nw #[.int .i64 0,.int .u32 0,.int .u32 0] 54 K) λa2 M=>kc 3 g M=some f/\kc 3 u M=some k/\Sb (kq 3 a2 k M) λax=>
 kc 3 g ax=some f/\Sb (kq 3 ao f ax) λbf=>am a2 ao bf)))) λal=>Vb (kc 3 x T) λb2=>S.C 74 [b2] T λb3 O=>Vb (bin .neq b3 (.int .i64 0)) λb4=>
 Br b4 (al (.bool true) O) (Vb (Ej B) λb5=>Vb (kc 3 x O) λb6=>S.C 50 [b6] O λb7 bg=>Vb (bin .lss b5 b7) λb8=>al b8 bg)
def se:=lZ func80 (jV jW)
def BB:=QZ func84 (jV (jV (.s (jV (.b (.l [16] [1,5,14,15,50] (jV (.s (.c .z .z) (.s (.b (jV (.s (.o (oc [0,1,2,3,4,5,6,7,8,9,10,11,16,12,13,14,15] .nil)) (.b (.l [37] [1,5,14,15,16,35,36,50] (jV (.s (.c .z .z) (.s (.b jW) .z)))))))) .z)))))) jW))) λG H h R=>
 Eb (nw (Value.cells G) 34 h) λt p=>Lf 0 t p λJ=>S.C 82 [J] p λu q=>Lf 1 t q λv=>Vb (Ej v) λK=>
 sO (.int .i64 0) q λe f M=>Vb (bin .lss e K) λal=>Br al (Vb (sL 2 v e) λam=>Vb (kc 2 am f) λO=>Eb (nw #[.slice none 0 0,.int .i64 0] 224 f) λd Q=>
 Sb (kq 2 d O Q) λa=>Vb (fa 0 d) λw=>Vb (mH w a) λx=>Vb (fa 1 d) λB=>Vb (mH B a) λE=>Lf 0 d a λT=>Vb (Ej T) λap=>Lf 1 d a λU=>
 Vb (bin .sub ap U) λV=>Cw S.C S.Y I.mt H [e,V] a λX g=>mH B g=some E/\mH w g=some x/\Vb (bin .add E X) λZ=>Vb (xO 4 x none (some Z) none) λF=>
 Vb (Ej F) λaw=>sO (.int .i64 0) g λn i af=>Vb (bin .lss n aw) λax=>Br ax (Vb (sL 4 F n) λay=>Vb (kc 4 ay i) λaz=>Eb (nw #[.int .i64 0,.int .i64 0,.int .u32 0,.int .u32 0] 226 i) λm ai=>
 Sb (kq 4 m az ai) λk=>Lf 0 m k λa0=>Vb (fa 1 m) λa1=>Vb (kc 3 a1 k) λa2=>Vb (sL 3 u a0) λa3=>Sb (kq 3 a3 a2 k) λag=>Vb (bin .add n (.int .i64 1)) λa4=>
 af a4 ag) (Vb (bin .add e (.int .i64 1)) λa5=>M a5 i)) (R u f)
def AP:=oH func88 (jV (.j [2] [16] .z .z))
def ou:=UQ func92 (jV (jV (.j [] [4,8,9,10,43] (jV (.c .z .z)) (.s (.o (oc [0,1,2,3,4] .nil)) .z))))
def rL:=vz func108 (jV (.j [6] [15] .z .z))
def xD:=lZ func112 (jV (.j [4] [14] .z .z))
def AI:=vz func116 (jV (lp (jV (jV (.j [] [3,6,37] (.o (oc [0,1,2,3,4,6,7,8] (.oZ (oc [5,9,10,11,12,13] .nil) (oc [9,5,10,11,12,13] .nil)))) jW)))))
def lN:=oH func120 (jV (lp jW))
def J8:=oH func130 (jV (jV (.j [] [1,2,3,22] (jV (.c .z .z)) jW)))
def yz:=Zy func134 (jV (jV (.j [12] [1,2,4,5,8,10,11,62] (.o (oc [0,1,3,4] (.oZ (oc [2] (.oZ (oc [5] (.oZ (oc [6,7,8] .nil) (oc [7,6,8] .nil))) (oc [7,5,6,8] .nil))) (oc [7,2,5,6,8] .nil)))) (jV (.j [] [1,2,5,8,10,11,12,13,62] (jV (.c .z .z)) (jV (.s (.o (oc [0,1,2,3,4,5,6,7,8,9,10,11,12,13] .nil)) (jV jW))))))))
def xS:=vz func139 (jV jW)
def DD:=lZ func144 (jV jW)
def xB:=lZ func148 (jV (.j [] [4,12] (.o (oc [0,1,3] (.oZ (oc [2,4,5,6,7] .nil) (oc [4,2,5,6,7] .nil)))) .z))
def EU:=lZ func152 (jV jW)
def mz:=oH func156 (jV (lp jW))
def ky:=lZ func196 (jV (lp (.s (.b (.l [] [2,3,5,133] (.s (.j [31] [2,3,5,133] .z (.c .z .z)) (.b .z)))) (.s (.j [43] [2,3,5,133] .z (.c jW .z)) (jV (jV (.j [8] [2,5,133] (jV (.c (.o (oc [0,1,2,3,4,5,6,7,8,9,10,11,12,13] .nil)) (.j [] [2,5,7,133] (jV (.c (.o (oc [1,2,3,4,5,6,7,9,10] (.oZ (oc [0] (.oZ (oc [8,11,12,13,14] .nil) (oc [11,8,12,13,14] .nil))) (oc [11,0,8,12,13,14] .nil)))) .z)) (.s (jV (jV (.c (jV (.s (.o (oc [0,1,2,3,5,4,6,7,8,9,10,11] .nil)) .z)) .z))) .z)))) (.s (.j [122] [2,5,133] .z (.c (jV jW) .z)) jW))))))))
def rJ:=lZ func200 (jV (jV (.s (jV (.b (.l [5,10] [2,8,9,29] (jV (.s (.c .z .z) (.s (.b (jV (.o (oc [0,1,2,3,4,5,6,7,8,9,10,11,12,13] .nil)))) .z)))))) jW)))
def qB:=oH func204 (jV (jV (.s (.j [18] [4,28] .z (.c jW .z)) (jV (jV jW)))))
def Lh:=Zy func208 (jV (.s (.b (jV (.c jW (.j [19] [1,2,3,4,5,60] .z (.c jW .z))))) (.s (jV (jV (.c jW .z))) (lp (lp (.j [13] [60] (.o (oc [0,1,2,3,4] (.oZ (oc [5,6,7,8] .nil) (oc [7,5,6,8] .nil)))) (jV (jV jW))))))))
def zP:=lZ func212 (jV (lp (.s (jV (jV (.c jW .z))) (lp (.s (jV (.b (.l [6] [1,2,53] (.s (jV (.c .z .z)) (.s (.b (.s (.o (oc [0,1,2,3,4,5,6,7,8,9,10,11] .nil)) (.c jW .z))) .z))))) (.s (jV (.b (.l [40] [2,38,39,53] (jV (.s (.c .z .z) (.s (.b (jV (jV (.c jW .z)))) .z)))))) (lp jW)))))))
def BC:=lZ func216 (jV jW)
def Bh:=vz func220 (jV (jV (.s (.o (oc [0,1,2,3,4,5,6,7] .nil)) .z)))
def HN:=lZ func224 (jV (.s (jV (jV (.c jW .z))) (.j [7] [24] (.o (oc [0,1,2,3] (.oZ (oc [4,5,6,7] .nil) (oc [6,4,5,7] .nil)))) (jV jW))))
def uh:=lZ func228 (jV jW)
def MD:=vz func232 (jV (lp (jV (jV (.s (.j [31] [1,2,3,8,9,10,11,41] .z (.c jW .z)) jW)))))
def qG:=QZ func236 (jV (jV (.s (jV (jV (.c (.s (.o (oc [0,1,2,3] .nil)) .z) .z))) (jV (.s (jV (jV (.c jW .z))) (jV (.s (.o (oc [0,1,2,3,4,5,6,7,8,9,10,11,12,13,14,15,16,17,18] .nil)) .z))))))) λT U h R=>
 Eb (nw (Value.cells T) 336 h) λa ap=>Eb (nw (Value.cells U) 146 ap) λV X=>Eb (nw Ec 336 X) λf aw=>Eb (nw pJ 56 aw) λg v=>
 Lf 13 a v λZ=>Vb (kc 4 V v) λa1=>Ci S.C I.mt "Next" Z [a1] v λa2 ax=>X3 a2 λx a3 a4=>Eb (nw pJ 56 ax) λn ay=>Sb (kq 8 n a3 ay) λaz=>
 Vb (fa 13 a) λa5=>Sb (kq 1 a5 x az) λm=>Vb (Qb .not a4) λa6=>Br a6 (Vb (kc 16 a m) λa7=>Vb (kc 8 n m) λB=>Sb (kq 16 f a7 m) λw=>
 kc 8 n w=some B/\Sb (kq 8 g B w) λp=>Vb (kc 16 f p) λi=>Vb (kc 8 g p) λk=>R (.tuple #[i,k]) p) (S.C 258 [x] m λa8 aq=>X2 a8 λa9 bo=>
 Vb (fa 13 a) λba=>Sb (kq 1 ba (.nilIface) aq) λq=>Vb (bin .neq a9 (.int .i64 4)) λbb=>Br bb (Vb (kc 16 a q) λbc=>S.C 211 [bc] q λbd ar=>
 X2 bd λbe bf=>Sb (kq 16 f be ar) λau=>Sb (kq 8 g bf au) λt=>Vb (kc 16 f t) λi=>Vb (kc 8 g t) λk=>R (.tuple #[i,k]) t) (Vb (fa 15 a) λbg=>
 Sb (kq 1 bg (.func (.func 260) #[] #[]) q) λd=>Vb (kc 16 a d) λbh=>Vb (fa 5 a) λE=>Vb (mH E d) λF=>Vb (fa 6 a) λG=>
 Vb (mH G d) λH=>Vb (sL 1 F H) λag=>Vb (mH ag d) λJ=>Vb (fa 10 a) λK=>Vb (kc 3 K d) λM=>Vb (fa 10 a) λbi=>Vb (fa 0 bi) λO=>
 Vb (mH O d) λal=>Vb (fa 10 a) λbj=>Vb (fa 1 bj) λam=>Vb (mH am d) λQ=>Vb (nF [(0,1),(1,1),(2,1)] #[.int .i64 0,.int .u32 0,.int .u32 0] [(0,al),(1,Q)]) λbk=>
 Vb (nF [(0,1),(1,1),(2,3),(5,3)] pJ [(0,(.int .i64 6)),(1,J),(2,M),(3,bk)]) λbl=>Sb (kq 16 f bh d) λe=>mH am e=some Q/\mH O e=some al/\kc 3 K e=some M/\mH ag e=some J/\mH G e=some H/\mH E e=some F/\Sb (kq 8 g bl e) λu=>
 Vb (kc 16 f u) λi=>Vb (kc 8 g u) λk=>R (.tuple #[i,k]) u))
def EZ:=lZ func240 (jV jW)
def zu:=oH func244 (jV (jV jW))
def uI:=vz func248 (jV jW)
def qK:=oH func252 (jV jW)
def xy:=oH func256 (jV (jV (jV (lp jW))))
def s7:=lZ func260 (jV jW)
def sW:=lZ func264 (jV jW)
def pf:=lZ func268 (jV (.s (.s (.o (oc [0,1,2,3,4] .nil)) (.c (.s (.o (oc [0,1,2,3,4,5,6,7,8,9] .nil)) (jV (jV jW))) .z)) (lp (jV jW))))
def AE:=lZ func272 (jV jW)
def sg:=lZ func276 (jV (.s (jV (.c (jV jW) .z)) jW))
def xe:=oH func280 (jV jW)
def BZ:=vz func284 (jV (jV (.s (.o (oc [0,1,2,3,4] .nil)) .z)))
def F7:=vz func288 (jV (.b (.l [10] [0,1,2,9,25] (jV (.s (.c .z .z) (.s (.b (jV (.s (.o (oc [0,1,2,3,4,5,6,7,8,9,10] .nil)) (.c .z .z)))) .z))))))
def qm:=lZ func292 (jV jW)
def qO:=lZ func296 (jV (jV (jV jW)))
def wD:=oH func300 (jV (jV (.s (jV (.b (.l [4,5] [1,62] (.s (jV (.c .z .z)) (.s (.b (jV (.s (.j [53] [1,4,5,6,62] (.o (oc [0,1,2,3,4,5,6,7,8,9,10,11,12,13,14,15,16,17,18,19,20,21,22,23,24,25,26] .nil)) (.c jW .z)) .z))) .z))))) jW)))
def wG:=QZ func304 (jV (jV (.j [] [2,4,5,29] (jV (.b (.j [11] [2,3,4,5,29] (jV (.c .z .z)) (.c .z .z)))) jW))) λaw B h R=>
 Eb (nw (Value.cells aw) 376 h) λa q=>Eb (nw (Value.cells B) 146 q) λk v=>Eb (nw DK 376 v) λE w=>Eb (nw pJ 56 w) λap x=>
 Vb (fa 13 a) λF=>Sb (kq 1 F (.int .i64 4) x) λG=>Vb (fa 12 a) λH=>Sb (kq 1 H (.int .i64 0) G) λf=>HJ (λm=>Vb (kc 21 a m) λam=>
 S.C 311 [am] m λJ K=>T3 21 E 8 ap J K R) λg=>Vb (fa 0 k) λM=>Vb (kc 3 M f) λn=>sV (λO d=>Br O (Vb (fa 0 k) λQ=>
 Lf 0 Q d λT=>Vb (fa 13 a) λal=>Sb (kq 1 al T d) λt=>g t) (g d)) λi=>Lf 6 a f λU=>S.C 255 [(.int .i64 1),U] f λV e=>
 Vb (pos? (zL [true,true,true] n V)) λp=>Br p (i p e) (Lf 6 a e λag=>S.C 255 [(.int .i64 2),ag] e λX u=>Vb (pos? (zL [true,true,true] n X)) λZ=>
 i Z u)
def Aw:=oH func308 (jV (jV (jV jW)))
def zD:=lZ func312 (jV (jV jW))
def xg:=lZ func316 (jV (jV (.j [] [2,4,5,56] (jV (.c (.j [8,9] [2,3,4,5,7,56] .z (jV (.c jW .z))) .z)) jW)))
def vy:=lZ func320 (jV (jV (jV (lp (jV (.s (jV (jV (.c jW .z))) (.s (.o (oc [0,1,3,4,5,6,7,8,9,10,11,2,12,13,14,15,16,17,18,19] .nil)) .z)))))))
def lH:=lZ func339 (jV (lp jW))
def oz:=lZ func343 (jV (lp (jV (.s (.o (oc [0,1,2,3,4,5,6] .nil)) .z))))
end
end Go.En
