/- Library, part E. -/
import Derived.Test.YtcepckpfhbcobaaGreatDoorXB
set_option maxRecDepth 100000
namespace Go.En
open Go.Proofs.Tryz
noncomputable section
set_option maxRecDepth 100000
set_option maxHeartbeats 400000
attribute [local irreducible] Vb Eb Sb Br Cl Ci Cw Ap Nx HJ sV JU KW sO z5 Ri Rg Jp Xb A2 nw kc mH fa sL I4 bin Qb ext kq ED xO Uj Ej Re NY nF ML zL uk pos? FV inl WL mx mn Pa B9 Ib MB SA Lb uX Tg VJ VG VR W7 Xd NU fin LL RB Yp okB We VF S8 Wl V4
def qo:=tp0 func15 (jV (jV (jV (.j [5] [2,3,4,55] (.o (oc [0,1] (.oZ (oc [2] (.oZ (oc [3] (.oZ (oc [4,5,6,7,8,9,10] .nil) (oc [8,4,5,6,7,9,10] .nil))) (oc [8,3,4,5,6,7,9,10] .nil))) (oc [8,2,3,4,5,6,7,9,10] .nil)))) (.j [7] [2,4,5,55] (.o (oc [0,1] (.oZ (oc [2] (.oZ (oc [3] (.oZ (oc [4,5,6,7,8,9,10] .nil) (oc [8,4,5,6,7,9,10] .nil))) (oc [8,3,4,5,6,7,9,10] .nil))) (oc [8,2,3,4,5,6,7,9,10] .nil)))) (.j [0] [55] .z .z)))))) λh R=>
 Eb (ED #[.int .i8 0] 1 2 85 [(0,(.int .i8 5)),(1,(.int .i8 0))] h) λbw a4=>Vb (nF [(0,1),(1,1),(2,1)] #[.int .u8 0,.int .i8 0,.bool false] [(0,(.int .u8 0)),(1,(.int .i8 (-1))),(2,(.bool true))]) λbx=>
 Vb (nF [(0,1),(1,1),(2,1)] #[.int .u8 0,.int .i8 0,.bool false] [(0,(.int .u8 1)),(1,(.int .i8 1)),(2,(.bool true))]) λbz=>Eb (ED #[.int .u8 0,.int .i8 0,.bool false] 3 2 124 [(0,bx),(1,bz)] a4) λb0 a9=>
 Vb (nF [(0,1),(1,1)] #[.int .u8 0,.slice none 0 0] [(0,(.int .u8 1)),(1,b0)]) λb1=>Eb (ED #[.int .u8 0,.slice none 0 0] 2 1 95 [(0,b1)] a9) λb2 bf=>
 Eb (ED #[.slice none 0 0] 1 1 86 [(0,b2)] bf) λb3 bm=>S.C 17 [bw,(.bool false),b3] bm λb4 br=>X2 b4 λb5 b6=>
 Eb (nw B2 41 br) λB bs=>Sb (kq 9 B b5 bs) λaw=>Vb (kc 9 B aw) λb7=>S.C 21 [b7,(.int .i64 1),(.int .i64 500)] aw λb8 bt=>
 X2 b8 λb9 ca=>Eb (nw B2 41 bt) λw bu=>Sb (kq 9 w b9 bu) λn=>sV (λa2 p=>sV (λa3 g=>sV (λbv a5=>R bv a5) λm=>Br b6 (Br ca (Vb (kc 3 a2 g) λcx=>
 Vb (nF [(0,1),(1,1),(2,1)] #[.int .i64 0,.int .u32 0,.int .u32 0] [(0,(.int .i64 4)),(1,(.int .u32 1))]) λcy=>Vb (pos? (zL [true,true,true] cx cy)) λcz=>
 Br cz (Vb (kc 3 a3 g) λc0=>Vb (nF [(0,1),(1,1),(2,1)] #[.int .i64 0,.int .u32 0,.int .u32 0] [(0,(.int .i64 1)),(1,(.int .u32 1))]) λc1=>Vb (pos? (zL [true,true,true] c0 c1)) λc2=>
 m c2 g) (m (.bool false) g)) (m (.bool false) g)) (m (.bool false) g)) λk=>Vb (fa 0 w) λf=>Vb (kc 7 f p) λd=>And (S.C 22 [] p λE q=>
 kc 7 f q=some d/\And (S.C 28 [E,(.int .i64 1)] q λF t=>kc 7 f t=some d/\And (S.C 27 [d,F] t λcp a6=>
 X2 cp λct c7=>Eb (nw #[.int .i64 0,.int .u32 0,.int .u32 0] 54 a6) λG a7=>Sb (kq 3 G ct a7) λa8=>k G a8) (Eb (nw #[.int .i64 0,.int .u32 0,.int .u32 0] 54 t) λH J=>
 kc 7 f J=some d/\S.C 27 [d,F] J λcq ba=>X2 cq λcu c8=>Sb (kq 3 H cu ba) λbb=>k H bb)) (Eb (nw #[.int .i64 0,.int .u32 0,.int .u32 0] 54 q) λag K=>
 kc 7 f K=some d/\S.C 28 [E,(.int .i64 1)] K λcn M=>kc 7 f M=some d/\S.C 27 [d,cn] M λcr bc=>X2 cr λcv c9=>
 Sb (kq 3 ag cv bc) λbd=>k ag bd)) (Eb (nw #[.int .i64 0,.int .u32 0,.int .u32 0] 54 p) λO al=>kc 7 f al=some d/\S.C 22 [] al λcm am=>
 kc 7 f am=some d/\S.C 28 [cm,(.int .i64 1)] am λco Q=>kc 7 f Q=some d/\S.C 27 [d,co] Q λcs be=>X2 cs λcw da=>
 Sb (kq 3 O cw be) λbg=>k O bg)) λi=>Vb (fa 0 w) λe=>Vb (kc 7 e n) λa=>And (S.C 22 [] n λax u=>kc 7 e u=some a/\And (S.C 28 [ax,(.int .i64 0)] u λT v=>
 kc 7 e v=some a/\And (S.C 27 [a,T] v λce bh=>X2 ce λci c3=>Eb (nw #[.int .i64 0,.int .u32 0,.int .u32 0] 54 bh) λx bi=>
 Sb (kq 3 x ci bi) λbj=>i x bj) (Eb (nw #[.int .i64 0,.int .u32 0,.int .u32 0] 54 v) λU V=>kc 7 e V=some a/\S.C 27 [a,T] V λcf bk=>
 X2 cf λcj c4=>Sb (kq 3 U cj bk) λbl=>i U bl)) (Eb (nw #[.int .i64 0,.int .u32 0,.int .u32 0] 54 u) λX ap=>kc 7 e ap=some a/\S.C 28 [ax,(.int .i64 0)] ap λcc Z=>
 kc 7 e Z=some a/\S.C 27 [a,cc] Z λcg bn=>X2 cg λck c5=>Sb (kq 3 X ck bn) λbo=>i X bo)) (Eb (nw #[.int .i64 0,.int .u32 0,.int .u32 0] 54 n) λad ar=>
 kc 7 e ar=some a/\S.C 22 [] ar λcb au=>kc 7 e au=some a/\S.C 28 [cb,(.int .i64 0)] au λcd av=>kc 7 e av=some a/\S.C 27 [a,cd] av λch bp=>
 X2 ch λcl c6=>Sb (kq 3 ad cl bp) λbq=>i ad bq)
def vZ:=oH func19 (jV (jV (.s (jV (.b (.l [3,12] [10,11,116] (jV (.s (.c .z .z) (.s (.b (jV (jV (.s (jV (.b (.l [6,18] [3,10,11,12,16,17,116] (jV (.s (.c .z .z) (.j [6] [3,10,11,12,16,17,18,116] (.b (jV (jV (.c (jV (.s (jV (.b (.l [27] [3,6,8,10,11,12,16,17,18,116] (jV (.s (.c .z .z) (.s (.b jW) .z)))))) .z)) (.j [61] [3,6,8,10,11,12,16,17,18,116] (.o (oc [0,1,2,3,4,5,6,7,8,9,10,11,12,13,14,15,16,17,18] .nil)) (.c (jV (.s (.o (oc [0,1,2,3,4,5,6,7,8,9,10] .nil)) (.s (.o (oc [0,1,2,3,4,5,6,7,8,9] .nil)) (.s (.o (oc [0,1,2,3,4,5,6,7,8,9,10] .nil)) (.s (.o (oc [0,1,2,3,4,5,6,7,8,9,10] .nil)) .z))))) .z)))))) .z)))))) .z)))) .z)))))) jW)))
def rq:=QZ func23 (jV (lp (.s (jV (.b (.l [5] [0,1,26] (.s (jV (.c .z .z)) (.s (.b (.s (.o (oc [0,1,2,3,4,5,6,7,8] .nil)) (.c jW .z))) .z))))) jW))) λe g h R=>
 Vb (Ej e) λw=>Vb (Ej g) λx=>Vb (bin .neq w x) λi=>Br i (R (.bool false) h) (sO (.int .i64 0) h λd a f=>Vb (Ej e) λk=>Vb (bin .lss d k) λm=>
 Br m (Vb (sL 3 e d) λp=>Vb (kc 3 p a) λq=>Vb (sL 3 g d) λt=>Vb (kc 3 t a) λu=>Vb (uk (zL [true,true,true] q u)) λv=>Br v (R (.bool false) a) (Vb (bin .add d (.int .i64 1)) λn=>
 f n a)) (R (.bool true) a))
def wQ:=lZ func27 (jV jW)
def Df:=lZ func32 (jV (.s (jV (jV (.c jW .z))) (.j [8] [1,4,41] (.o (oc [0,1,2] (.oZ (oc [3,4,5,6] .nil) (oc [5,3,4,6] .nil)))) (.s (jV (.b (.l [28] [4,8,26,27,41] (jV (.s (.c .z .z) (.s (.b (jV (.o (oc [0,1,2,3,4,5,6,7] .nil)))) .z)))))) jW))))
def uE:=vz func36 (jV (jV (jV (.j [] [1,3,6,10,55] (jV (.c .z .z)) (jV (.s (.o (oc [0,1,2,3,4,5,6,7,8,9,10,11,12,13] .nil)) jW))))))
def nD:=lZ func43 (jV (.j [4] [17] .z .z))
def yL:=lZ func47 (jV (jV jW))
def s4:=oH func51 (jV jW)
def LS:=oH func55 (jV (lp (.j [3] [2,17] (.o (oc [0,2,3,4,5,6] (.oZ (oc [1,7,8,9,10] .nil) (oc [7,1,8,9,10] .nil)))) .z)))
def Dx:=oH func59 (jV (.s (.o (oc [0,1,2,3,4,5,6] .nil)) .z))
def mu:=tp5 func69 (jV (.s (jV (.b (.l [12] [1,2,3,4,5,98] (.s (jV (.c .z .z)) (.s (.b (jV (.j [61] [1,2,3,4,5,12,98] (.o (oc [0,1,2,3,4,5,6,7,8,9,10,11,12,13,14,15,16,17,18,19,20,21,22,23,24,25,26,27,28,29,30] .nil)) (.c (jV jW) .z)))) .z))))) (.s (jV (.b (.l [73] [3,4,72,98] (jV (.s (.c .z .z) (.s (.b (jV (.s (.o (oc [0,1,2,3,4,5,6,7,8] .nil)) (.c (.s (.o (oc [0,1,2,3,4,5,6,7,8,9,10,11,12,13] .nil)) .z) .z)))) .z)))))) jW))) λB x p bi u h R=>
 Eb (nw (Value.cells B) 61 h) λn E=>sO (.int .i64 1) E λk i v=>Lf 2 n i λF=>Vb (bin .add (.int .i64 8) F) λag=>Vb (bin .leq k ag) λG=>
 Br G (Vb (kc 3 n i) λH=>S.C 106 [H,k] i λJ a=>X2 J λf bk=>sV (λK m=>Br K (Vb (kc 3 n m) λM=>S.C 76 [M,p,k] m λO Q=>
 X2 O λT bl=>Eb (nw #[.int .i64 0,.int .i64 0,.int .i64 0,.slice none 0 0] 166 Q) λq U=>Sb (kq 4 q T U) λt=>Lf 3 q t λV=>R (.tuple #[V,(.bool true)]) t) (Vb (bin .add k (.int .i64 1)) λX=>
 v X m)) λg=>Vb (bin .geq f (.int .i64 0)) λal=>Br al (Vb (sL 3 x f) λam=>Lf 0 am a λZ=>Vb (bin .eql Z (.int .i64 0)) λao=>Br ao (Vb (sL 3 p f) λap=>
 Lf 0 ap a λaq=>Vb (bin .eql aq (.int .i64 1)) λar=>Br ar (Vb (sL 3 x f) λau=>Lf 1 au a λav=>Vb (sL 3 p f) λaw=>Lf 1 aw a λax=>Vb (bin .eql av ax) λay=>
 g ay a) (g (.bool false) a)) (g (.bool false) a)) (g (.bool false) a)) (Vb (Ej u) λa4=>sO (.int .i64 0) i λe d w=>Vb (bin .lss e a4) λa5=>Br a5 (Vb (sL 3 u e) λa6=>
 Vb (kc 3 a6 d) λa7=>Vb (sL 3 bi e) λa8=>Vb (kc 3 a8 d) λa9=>Vb (uk (zL [true,true,true] a7 a9)) λba=>Br ba (Vb (sL 3 bi e) λbb=>Vb (kc 3 bb d) λbc=>
 Vb (sL 3 u e) λbd=>Lf 0 bd d λbe=>Vb (nF [(0,1),(1,3),(4,1),(5,1)] tJ [(0,e),(1,bc),(2,be),(3,(.bool true))]) λbf=>Eb (ED tJ 6 1 170 [(0,bf)] d) λbg ae=>
 R (.tuple #[bg,(.bool true)]) ae) (Vb (bin .add e (.int .i64 1)) λbh=>w bh d)) (R (.tuple #[(.slice none 0 0),(.bool false)]) d))
def sF:=lZ func73 (jV (jV (.s (jV (.b (.l [5,8] [2,7,18] (jV (.s (.c .z .z) (.s (.b jW) .z)))))) jW)))
def ym:=oH func77 (jV (.s (.o (oc [0,1,2,3,4,5,6,7] .nil)) .z))
def Ga:=oH func81 (jV jW)
def xZ:=vz func85 (jV jW)
def qq:=vz func89 (jV (jV (.j [] [3,5,6,7,8,61] (jV (.c .z .z)) (.j [] [3,6,7,8,61] (jV (.c .z .z)) (.s (.o (oc [0,1,2,3] .nil)) .z)))))
def nZ:=oH func93 (jV jW)
def Ai:=lZ func109 (jV (.s (.j [19] [0,1,26] .z (.c jW .z)) jW))
def yN:=lZ func113 (jV (.s (.j [14] [1,2,4,21] .z (.c jW .z)) jW))
def zR:=oH func117 (jV (.j [2] [9] .z .z))
def nI:=oH func121 (jV (lp jW))
def Gc:=oH func131 (jV (.s (.b (jV (.c jW (jV (.c jW .z))))) (.s (jV (.b (.l [16] [0,14,15,32] (jV (.s (.c .z .z) (.s (.b (jV (.s (jV (jV (.c jW .z))) (jV (.c jW .z))))) .z)))))) jW)))
def xI:=vz func135 (jV (.s (.b (jV (.c jW (jV (.c jW .z))))) jW))
def j6:=vz func140 (jV jW)
def yP:=lZ func145 (jV (lp jW))
def yJ:=vz func149 (jV (jV (jV (jV (jV jW)))))
def vt:=vz func153 (jV (jV (lp (jV jW))))
def kE:=oH func157 (jV jW)
def r8:=oH func197 (jV (jV (.s (jV (.b (.l [3,10] [1,9,53] (jV (.s (.c .z .z) (.j [3] [1,9,10,53] (.b (jV (jV (.b (.l [3,19] [1,4,9,10,17,18,53] (jV (.s (.c .z .z) (.s (.b (jV (jV (.c jW .z)))) .z)))))))) .z)))))) (.j [3] [53] (.j [49] [3,53] .z (.c .z .z)) jW))))
def mN:=QZ func201 (jV (jV (jV (.s (jV (.b (.l [19] [1,2,4,6,17,18,123] (jV (.s (.c .z .z) (.s (.b (jV (jV (.s (.o (oc [0,1,2,3,4,5,6,7,8,9,10,11,12,13,14,15] .nil)) (.j [] [1,2,4,6,10,17,18,19,123] (jV (.c .z .z)) .z))))) .z)))))) (jV (jV (.j [11] [2,4,123] (jV (.b (jV (.c .z (.j [99] [2,4,123] .z (.c (.o (oc [0,1,2,3,4,5,6,7,8,9,10,11,12,13,14] .nil)) jW)))))) jW))))))) λX x h R=>
 Eb (nw (Value.cells X) 89 h) λa aw=>Eb (nw LM 89 aw) λB Z=>Vb (fa 9 a) λbq=>Sb (kq 1 bq (.slice none 0 0) Z) λE=>
 Vb (kc 13 a E) λbr=>S.C 200 [br,x] E λbs a8=>Vb (Ej x) λbt=>sO (.int .i64 0) a8 λm v au=>Vb (bin .lss m bt) λbu=>
 Br bu (Vb (sL 3 x m) λbv=>Vb (kc 3 bv v) λbw=>Eb (nw #[.int .u8 0,.int .i8 0,.bool false] 124 v) λp a9=>Sb (kq 3 p bw a9) λw=>
 Lf 7 a w λbx=>Vb (sL 3 bx m) λbz=>Vb (kc 3 bz w) λb0=>Eb (nw #[.int .i64 0,.int .u32 0,.int .u32 0] 54 w) λn ba=>Sb (kq 3 n b0 ba) λi=>
 Vb (sL 1 bs m) λag=>Vb (mH ag i) λF=>Vb (fa 0 n) λG=>Vb (mH G i) λH=>Vb (fa 1 n) λJ=>Vb (mH J i) λal=>Vb (nF [(0,1),(1,1),(2,1)] #[.int .i64 0,.int .u32 0,.int .u32 0] [(0,H),(1,al)]) λb1=>
 Vb (fa 0 n) λam=>Vb (mH am i) λK=>Vb (fa 2 p) λap=>Vb (mH ap i) λM=>Vb (nF [(0,1),(1,3),(4,1),(5,1)] tJ [(0,F),(1,b1),(2,K),(3,M)]) λb2=>
 Eb (nw tJ 170 i) λt f=>mH ap f=some M/\mH am f=some K/\mH J f=some al/\mH G f=some H/\mH ag f=some F/\Sb (kq 6 t b2 f) λk=>
 HJ (λu=>Lf 9 a u λb9=>Vb (kc 6 t u) λca=>Eb (ED tJ 6 1 170 [(0,ca)] u) λcb ax=>Ap 170 tJ 6 40 b9 cb ax λcc ay=>
 Vb (fa 9 a) λcd=>Sb (kq 1 cd cc ay) λaz=>Vb (bin .add m (.int .i64 1)) λce=>au ce az) λO=>Lf 2 p k λb3=>Br b3 (Lf 0 n k λb4=>Lf 1 p k λb5=>
 Vb (NY .i64 b5) λb6=>Vb (bin .add b4 b6) λb7=>Vb (fa 4 t) λb8=>Sb (kq 1 b8 b7 k) λa0=>O a0) (O k)) (Vb (fa 7 a) λcf=>Sb (kq 1 cf (.slice none 0 0) v) λd=>
 sV (λav Q=>Vb (kc 13 a Q) λbp=>Sb (kq 13 B bp Q) λT=>Vb (kc 13 B T) λbb=>R (.tuple #[bb,av]) T) λq=>Lf 6 a d λcg=>Vb (sL 2 cg (.int .i64 0)) λch=>
 Lf 0 ch d λci=>Vb (bin .rem ci (.int .u8 4)) λU=>Vb (bin .eql U (.int .u8 1)) λcw=>Br cw (Vb (fa 0 a) λcx=>Vb (kc 3 cx d) λcy=>Lf 5 a d λcz=>
 Lf 9 a d λc0=>S.C 206 [cy,cz,c0] d λc1 a2=>X2 c1 λc2 c3=>Vb (fa 8 a) λc4=>Sb (kq 1 c4 c2 a2) λa3=>q c3 a3) (sV (λc5 e=>Br c5 (Vb (fa 0 a) λbf=>
 Vb (kc 3 bf e) λbg=>Lf 5 a e λbh=>Lf 9 a e λbi=>Vb (sL 6 bi (.int .i64 0)) λbj=>Vb (kc 6 bj e) λbk=>S.C 207 [bg,bh,bk] e λbl a4=>
 X2 bl λbm bn=>Vb (fa 8 a) λbo=>Sb (kq 1 bo bm a4) λa5=>q bn a5) (Lf 4 a e λcj=>Vb (bin .add cj (.int .i64 1)) λck=>Vb (fa 4 a) λcl=>
 Sb (kq 1 cl ck e) λg=>Vb (fa 0 a) λcm=>Vb (kc 3 cm g) λcn=>Lf 3 a g λco=>Lf 4 a g λcp=>Lf 5 a g λcq=>Lf 9 a g λcr=>S.C 208 [cn,co,cp,cq,cr] g λcs a6=>
 X2 cs λct cu=>Vb (fa 8 a) λcv=>Sb (kq 1 cv ct a6) λa7=>q cu a7)) λV=>Vb (bin .eql U (.int .u8 2)) λbc=>Br bc (Vb (sL 3 x (.int .i64 0)) λbd=>
 Lf 2 bd d λbe=>V be d) (V (.bool false) d)))
def Dn:=UQ func205 (jV (.s (jV (jV (.c jW .z))) (jV (jV jW))))
def Bd:=lZ func209 (jV (.s (.b (jV (.c jW (jV (.c jW (jV (.c jW .z))))))) (.s (jV (.b (.l [21] [1,2,19,20,36] (jV (.s (.c .z .z) (.s (.b (jV (lp (jV (.c jW .z))))) .z)))))) jW)))
def sd:=lZ func213 (jV (jV jW))
def BW:=lZ func217 (jV jW)
def CD:=oH func221 (jV jW)
def nR:=vz func225 (jV (jV jW))
def qe:=QZ func229 (jV (jV (.j [] [2,3,5,7,74] (jV (jV (.c (jV (jV (.c jW .z))) .z))) (.s (jV (.c (.s (.o (oc [0,1,2,3,4,5,6,7,8,9,10,11,12] .nil)) .z) .z)) jW)))) λbi bk h R=>
 Eb (nw (Value.cells bi) 327 h) λd w=>Eb (nw (Value.cells bk) 54 w) λf B=>Eb (nw pJ 56 B) λp k=>Lf 6 d k λE=>
 Vb (sL 6 E (.int .i64 0)) λag=>Vb (kc 6 ag k) λF=>Eb (nw tJ 170 k) λe G=>Sb (kq 6 e F G) λt=>HJ (λa=>Vb (kc 3 f a) λH=>
 Vb (fa 1 e) λJ=>Vb (kc 3 J a) λK=>Vb (uk (zL [true,true,true] H K)) λM=>Br M (Vb (kc 10 d a) λn=>Vb (kc 10 d a) λv=>Lf 0 e a λO=>
 Eb (ED #[.int .i64 0] 1 1 51 [(0,O)] a) λQ m=>kc 10 d m=some v/\kc 10 d m=some n/\S.C 251 [v,Q] m λT u=>kc 10 d u=some n/\S.C 250 [n,T,(.func (.func 252) #[] #[])] u λU V=>
 T2 8 p U V R) (Vb (kc 10 d a) λX=>Lf 0 e a λZ=>Vb (kc 3 f a) λba=>Lf 4 e a λbb=>Lf 1 f a λbc=>Vb (bin .add bc (.int .u32 1)) λbd=>
 Vb (nF [(0,1),(1,1),(2,1)] #[.int .i64 0,.int .u32 0,.int .u32 0] [(0,bb),(1,bd)]) λbe=>Vb (nF [(0,1),(1,1),(2,3),(5,3)] pJ [(0,(.int .i64 6)),(1,Z),(2,ba),(3,be)]) λbf=>
 Vb (some (.func (.func 253) #[] #[e])) λbg=>S.C 227 [X,bf,bg] a λbh x=>T2 8 p bh x R)) λq=>Lf 2 f t λai=>S.C 75 [ai] t λaj g=>
 X2 aj λak bj=>Vb (bin .neq ak (.int .i64 0)) λal=>Br al (Vb (fa 0 d) λam=>Vb (kc 3 am g) λan=>Lf 2 f g λao=>Lf 5 d g λap=>S.C 232 [an,ao,ap] g λaq i=>
 X2 aq λar au=>Vb (bin .eql au (.int .i64 0)) λav=>Br av (Vb (kc 10 d i) λaw=>Vb (nF [(0,3),(3,1)] #[.int .i64 0,.int .u32 0,.int .u32 0,.bool false] []) λax=>
 Vb (some (.func (.func 248) #[] #[f])) λay=>S.C 233 [aw,ar,ax,ay] i λaz aa=>T2 8 p az aa R) (q i)) (q g)
def mD:=UQ func233 (jV (jV (.s (jV (.c (jV jW) .z)) jW)))
def uK:=oH func237 (jV (jV (.s (.j [14] [1,2,3,36] .z (.c (jV jW) .z)) (.s (jV (.c (jV jW) .z)) (jV jW)))))
def Bb:=oH func241 (jV (.s (jV (.c (jV jW) .z)) (.s (.o (oc [0,1,2,3,4,5,6,7,8,9,10,11,12] .nil)) (jV jW))))
def zy:=vz func245 (jV (jV (.s (.o (oc [0,1,2,3,4] .nil)) .z)))
def uV:=vz func249 (jV (lp (.s (.o (oc [0,1,2,3,4,5,6,7,8,9,10,11,12,13,14,15,16,17,18,19] .nil)) .z)))
def uW:=vz func253 (jV (lp (.s (.o (oc [0,1,2,3,4,5,6,7,8,9,10,11,12] .nil)) .z)))
def wT:=lZ func257 (jV jW)
def uU:=tp1 func261 (jV (lp (.s (jV (.b (.r jW (.b (jV (.c jW .z)))))) jW))) λB h R=>
 Eb (nw (Value.cells B) 336 h) λi E=>Eb (nw #[.bool false] 4 E) λa e=>Lf 7 i e λax=>Vb (bin .lss ax (.int .i64 2)) λF=>
 Br F (Sb (kq 1 a (.bool false) e) λu=>Vb (mH a u) λd=>R d u) (Lf 9 i e λG=>Lf 8 i e λH=>S.C 274 [G,H] e λap g=>Rg S.C S.Y ap g (λm x J n=>
 A2 x λK M=>Eb (nw #[.int .i64 0,.int .u32 0,.int .u32 0] 54 J) λv O=>Sb (kq 3 v K O) λQ=>Eb (nw #[.int .i64 0,.int .u32 0,.int .u32 0] 54 Q) λw T=>
 Sb (kq 3 w M T) λal=>Sb (NU m al) λf=>Vb (kc 3 v f) λU=>Vb (kc 3 w f) λV=>Vb (uk (zL [true,true,true] U V)) λaw=>Br aw (Sb (kq 1 a (.bool false) f) λX=>
 Sb (fin m (some .ret) X) λZ=>n (.bool false) Z) (Sb (fin m none f) λae=>n (.bool true) ae)) λan k=>Jp an (Sb (kq 1 a (.bool true) k) λaf=>
 Sb (Lb g.size af) λp=>Vb (mH a p) λd=>R d p) (Sb (Lb g.size k) λq=>Vb (mH a q) λd=>R d q) λam=>Xb am 0 (Sb (kq 1 a (.bool true) k) λag=>
 Sb (Lb g.size ag) λt=>Vb (mH a t) λd=>R d t) (False))
def Af:=QZ func265 (jV (.s (jV (.b (.l [7] [2,3,5,63] (.s (jV (.c .z .z)) (.s (.b (jV (.s (jV (.c .z .z)) (jV (jV (.s (.o (oc [0,1,2,3,4,5,6,7,8,9,10,11,12,13,14,15,16] .nil)) .z)))))) .z))))) (jV jW))) λB E h R=>
 Eb (nw (Value.cells B) 362 h) λa u=>Eb (nw (Value.cells E) 54 u) λf w=>Eb (nw pJ 56 w) λm i=>Lf 3 a i λF=>
 Vb (sL 2 F (.int .i64 0)) λG=>Lf 0 G i λH=>sO H i λg d t=>Lf 3 a d λJ=>Vb (sL 2 J (.int .i64 0)) λag=>Lf 1 ag d λK=>Vb (bin .lss g K) λM=>
 Br M (Vb (fa 0 a) λO=>Vb (kc 3 O d) λal=>S.C 263 [al,g] d λam k=>X2 am λQ q=>Lf 0 f k λT=>Vb (bin .and T q) λap=>
 Vb (bin .neq ap (.int .i64 0)) λU=>Br U (Vb (bin .add g (.int .i64 1)) λV=>t V k) (Vb (fa 4 a) λX=>Sb (kq 1 X g k) λx=>Vb (some (.func (.func 276) #[] #[a])) λZ=>
 Vb (fa 7 a) λav=>Sb (kq 1 av Z x) λe=>Vb (kc 8 a e) λaw=>Vb (some (.iface 362 aw)) λax=>Vb (kc 3 f e) λay=>Lf 0 f e λaz=>
 Vb (bin .or az q) λa0=>Lf 1 f e λa1=>Lf 2 f e λa2=>Vb (nF [(0,1),(1,1),(2,1)] #[.int .i64 0,.int .u32 0,.int .u32 0] [(0,a0),(1,a1),(2,a2)]) λa3=>
 Vb (nF [(0,1),(1,1),(2,3),(5,3)] pJ [(0,(.int .i64 6)),(1,Q),(2,ay),(3,a3)]) λa4=>Sb (kq 8 m a4 e) λn=>Vb (kc 8 m n) λaa=>R (.tuple #[ax,aa,(.bool false)]) n)) (Lf 3 a d λa5=>
 Vb (xO 2 a5 (some (.int .i64 1)) none none) λa6=>Vb (fa 3 a) λa7=>Sb (kq 1 a7 a6 d) λp=>Vb (kc 8 a p) λa8=>S.C 241 [a8] p λa9 v=>
 T2 8 m a9 v R)
def sX:=lZ func269 (jV jW)
def xj:=lZ func273 (jV (lp jW))
def HZ:=lZ func277 (jV (.s (jV (jV (.c jW .z))) (jV (jV (jV jW)))))
def xH:=lZ func281 (jV (lp jW))
def zB:=lZ func285 (jV (.j [4] [26] .z .z))
def xU:=vz func289 (jV (jV (.s (.o (oc [0,1,2,3,4,5,6] .nil)) .z)))
def sJ:=lZ func293 (jV (jV (jV jW)))
def tI:=lZ func297 (jV (lp (jV (lp (jV (lp jW))))))
def xz:=oH func301 (jV (lp jW))
def yV:=lZ func305 (jV (jV (.s (.j [14] [2,4,5,26] .z (.c jW .z)) jW)))
def rK:=QZ func309 (jV (.s (.b (.j [7] [2,3,4,5,44] (.o (oc [0,1,2,3,4,5,6,7,8,9] .nil)) (.c (jV jW) (jV (.c (jV jW) .z))))) jW)) λB E h R=>
 Eb (nw (Value.cells B) 376 h) λa v=>Eb (nw (Value.cells E) 146 v) λf F=>Eb (nw DK 376 F) λi G=>Eb (nw pJ 56 G) λk d=>
 sV (λH e=>Br H (Lf 12 a e λJ=>Vb (bin .add J (.int .i64 1)) λK=>Vb (fa 12 a) λM=>Sb (kq 1 M K e) λq=>Vb (kc 21 a q) λO=>S.C 302 [O] q λal Q=>
 T3 21 i 8 k al Q R) (Vb (kc 21 a e) λam=>Vb (fa 0 f) λT=>Vb (kc 3 T e) λU=>S.C 314 [am,U] e λap g=>Br ap (Vb (fa 0 f) λV=>
 Vb (kc 3 V g) λX=>Vb (fa 14 a) λZ=>Sb (kq 3 Z X g) λn=>Vb (kc 21 a n) λav=>S.C 272 [av,(.func (.func 315) #[] #[])] n λaw w=>
 T3 21 i 8 k aw w R) (Vb (kc 21 a g) λax=>S.C 305 [ax,(.int .i64 2)] g λay x=>T3 21 i 8 k ay x R))) λm=>Lf 3 f d λa0=>Br a0 (m (.bool true) d) (Vb (fa 0 f) λt=>
 Vb (kc 3 t d) λu=>Vb (kc 21 a d) λae=>S.C 308 [ae] d λaf p=>kc 3 t p=some u/\Vb (pos? (zL [true,true,true] u af)) λag=>
 m ag p)
def rY:=lZ func313 (jV (.s (.o (oc [0,1,2,3,4,6,7,8,9,5,10,11,12,13,14,15,16,17,18] .nil)) .z))
def tR:=lZ func317 (jV jW)
def FD:=vz func321 (jV (.s (.b (jV (.c jW (.j [13] [1,2,3,6,33] .z (.c jW (jV (.c jW .z))))))) jW))
def mL:=lZ func340 (jV (lp (jV (.s (.o (oc [0,1,2,3,4,5,6] .nil)) .z))))
def oT:=lZ func344 (jV (lp jW))
end
end Go.En
