/- Library, part C. -/
import Derived.Test.YtcepckpfhbcobaaGreatDoorXB
set_option maxRecDepth 100000
namespace Go.En
open Go.Proofs.Tryz
noncomputable section
set_option maxRecDepth 100000
set_option maxHeartbeats 400000
attribute [local irreducible] Vb Eb Sb Br Cl Ci Cw Ap Nx HJ sV JU KW sO z5 Ri Rg Jp Xb A2 nw kc mH fa sL I4 bin Qb ext kq ED xO Uj Ej Re NY nF ML zL uk pos? FV inl WL mx mn Pa B9 Ib MB SA Lb uX Tg VJ VG VR W7 Xd NU fin LL RB Yp okB We VF S8 Wl V4
def CM:=oH func11 (jV jW)
def og:=vz func17 (jV (jV (jV (.s (jV (.b (.l [10] [0,1,2,6,8,9,87] (.s (.j [35] [0,1,2,6,8,9,10,87] .z (.c .z .z)) (.s (.b (.o (oc [0,1,2,4,5,6,7,8,3,9,10,11] .nil))) .z))))) (jV (jV (.s (jV (.b (.l [13,58] [1,6,8,11,12,56,57,87] (jV (.s (.c .z .z) (.s (.b jW) .z)))))) (jV (.j [7] [6,87] .z .z)))))))))
def qh:=vz func21 (jV (.s (.j [24] [1,2,3,6,49] .z (.c jW .z)) (.j [] [1,3,6,49] (jV (.b (.l [28] [1,3,6,27,49] (jV (.s (.c .z .z) (.s (.b (jV (.s (jV (.c .z .z)) .z))) .z)))))) (.s (.o (oc [0,1,2,3,4,5,6,7,8,9] .nil)) .z))))
def lU:=oH func25 (jV (jV (jV (.s (jV (.b (.l [5,15] [1,14,30] (jV (.s (.c .z .z) (.s (.b (jV jW)) .z)))))) jW))))
def xG:=oH func29 (jV (lp (jV (jV (.s (jV (.b (.l [4] [1,3,42] (.s (jV (.c .z .z)) (.s (.b .z) .z))))) (.s (jV (.b (.l [31] [1,3,30,42] (jV (.s (.c .z .z) (.s (.b jW) .z)))))) jW))))))
def vA:=lZ func34 (jV (jV (.s (.j [19] [1,2,4,5,42] .z (.c jW .z)) (jV (lp (.s (.o (oc [0,1,3,4,5,2,6,7,8,9] .nil)) jW))))))
def nK:=vz func41 (jV (jV (jV (jV (jV (.s (.o (oc [0,1,2,4,5,6,3,7,8,9,10,11,12] .nil)) (.s (.j [58] [6,10,13,84] .z (.c jW .z)) (.s (jV (.b (.l [64] [6,10,13,62,63,84] (jV (.s (.c .z .z) (.s (.b (jV (jV (.j [78] [6,10,13,62,63,64,84] .z (.c jW .z))))) .z)))))) jW))))))))
def yB:=vz func45 (jV (.s (.b (.j [16] [1,2,3,6,96] .z (.c jW (jV (.c jW .z))))) (jV (jV (jV (lp (jV (.s (.j [71] [2,6,8,11,12,96] .z (.c jW .z)) (.s (jV (.b (.l [76] [2,6,8,11,74,75,96] (jV (.s (.c .z .z) (.s (.b (jV (.j [87] [2,6,8,11,15,74,75,76,96] .z (.c jW .z)))) .z)))))) jW)))))))))
def ry:=oH func49 (jV jW)
def rF:=lZ func53 (jV jW)
def z8:=lZ func57 (jV jW)
def nj:=oH func61 (jV (lp jW))
def rz:=lZ func71 (jV (jV (.s (jV (.b (.l [6] [1,5,42] (.s (jV (.c .z .z)) (.j [] [1,5,6,42] (.b (jV (.c (.o (oc [0,1,2,3,4,5,6,7,8,9,10,11,12,13,14,15,16,17,18,19,20] .nil)) .z))) .z))))) jW)))
def ME:=oH func75 (jV (jV (.s (jV (jV (.c jW .z))) jW)))
def wU:=oH func79 (jV (jV jW))
def wz:=UQ func83 (jV (.s (.o (oc [0,1,2,3,4,5,6,7] .nil)) (.s (.j [18] [1,4,8,27] .z (.c (jV jW) .z)) (jV jW))))
def wu:=vz func87 (jV (jV (.s (.b (.j [14] [5,8,51] .z (.c jW (.j [22] [5,8,51] .z (.c jW (.j [31] [51] .z (.c jW .z))))))) jW)))
def Bz:=lZ func91 (jV (lp (jV (.s (jV (.b (.l [] [1,2,4,20,47] (jV (.s (.c .z .z) (.b (jV (.o (oc [0,1,2,3,4,5,6,7,8,9,10,11,12,13] .nil))))))))) (jV (jV jW))))))
def sG:=lZ func107 (jV (.s (.o (oc [0,1,3,4,5,2,6,7] .nil)) (.j [5] [28] (.j [22] [5,28] .z (.c .z .z)) jW)))
def uM:=lZ func111 (jV (lp (jV (.s (.b (jV (.c jW (.j [23] [2,3,6,69] .z (.c jW (.j [32] [2,3,6,69] .z (.c jW .z))))))) (.s (jV (jV (.c jW .z))) (lp (.s (jV (.b (.l [54] [2,3,6,52,53,69] (jV (.s (.c .z .z) (.s (.b (jV (jV (.c jW .z)))) .z)))))) (lp jW))))))))
def xK:=Zy func115 (jV (.s (jV (jV (.c jW .z))) jW))
def nP:=oH func119 (jV (lp jW))
def yx:=Zy func123 (jV jW)
def sU:=lZ func133 (jV jW)
def sj:=tp5 func138 (jV (.s (jV (jV (.c jW .z))) (.j [14,15] [10,11,47] (.o (oc [0,1,2,3,4,5,6,7,8,9,10,12,15] (.oZ (oc [11] (.oZ (oc [13] (.oZ (oc [14] (.oZ (oc [16,17,18,19] (.oZ (oc [20,21,22,23] .nil) (oc [21,20,22,23] .nil))) (.oZ (oc [20] (.oZ (oc [16,17,18,19,21,22,23] .nil) (oc [21,16,17,18,19,22,23] .nil))) (oc [21] (.oZ (oc [16,17,18,19,20,22,23] .nil) (oc [20,16,17,18,19,22,23] .nil)))))) (.oZ (oc [20] (.oZ (oc [14] (.oZ (oc [16,17,18,19,21,22,23] .nil) (oc [21,16,17,18,19,22,23] .nil))) (oc [21,14,16,17,18,19,22,23] .nil))) (oc [21] (.oZ (oc [14] (.oZ (oc [16,17,18,19,20,22,23] .nil) (oc [20,16,17,18,19,22,23] .nil))) (oc [20,14,16,17,18,19,22,23] .nil)))))) (.oZ (oc [20] (.oZ (oc [13] (.oZ (oc [14] (.oZ (oc [16,17,18,19,21,22,23] .nil) (oc [21,16,17,18,19,22,23] .nil))) (oc [21,14,16,17,18,19,22,23] .nil))) (oc [21,13,14,16,17,18,19,22,23] .nil))) (oc [21] (.oZ (oc [13] (.oZ (oc [14] (.oZ (oc [16,17,18,19,20,22,23] .nil) (oc [20,16,17,18,19,22,23] .nil))) (oc [20,14,16,17,18,19,22,23] .nil))) (oc [20,13,14,16,17,18,19,22,23] .nil)))))) (.oZ (oc [20] (.oZ (oc [11] (.oZ (oc [13] (.oZ (oc [14] (.oZ (oc [16,17,18,19,21,22,23] .nil) (oc [21,16,17,18,19,22,23] .nil))) (oc [21,14,16,17,18,19,22,23] .nil))) (oc [21,13,14,16,17,18,19,22,23] .nil))) (oc [21,11,13,14,16,17,18,19,22,23] .nil))) (oc [21] (.oZ (oc [11] (.oZ (oc [13] (.oZ (oc [14] (.oZ (oc [16,17,18,19,20,22,23] .nil) (oc [20,16,17,18,19,22,23] .nil))) (oc [20,14,16,17,18,19,22,23] .nil))) (oc [20,13,14,16,17,18,19,22,23] .nil))) (oc [20,11,13,14,16,17,18,19,22,23] .nil))))))) (.s (.o (oc [0,1,2,3,4] .nil)) .z)))) λj5 m f p q h R=>
 Eb (nw (Value.cells j5) 29 h) λd d1=>Eb (nw #[.slice none 0 0,.slice none 0 0] 29 d1) λbj ff=>Eb (nw #[.int .i64 0,.int .u32 0,.int .u32 0] 54 ff) λbk cc=>
 Vb (kc 2 d cc) λgz=>S.C 135 [gz,m,f] cc λc3 v=>Vb (bin .neq c3 (.int .i64 0)) λg0=>Br g0 (Vb (kc 2 d v) λg1=>Vb (nF [(0,1),(1,1),(2,1)] #[.int .i64 0,.int .u32 0,.int .u32 0] []) λg2=>
 Sb (kq 2 bj g1 v) λf3=>Sb (kq 3 bk g2 f3) λbs=>Vb (kc 2 bj bs) λbx=>Vb (kc 3 bk bs) λbz=>R (.tuple #[bx,bz,c3]) bs) (JU (λgy dj bt=>
 Vb (kc 2 gy bt) λj4=>Vb (kc 3 dj bt) λdi=>Sb (kq 2 bj j4 bt) λcj=>kc 3 dj cj=some di/\Sb (kq 3 bk di cj) λbv=>Vb (kc 2 bj bv) λbx=>
 Vb (kc 3 bk bv) λbz=>R (.tuple #[bx,bz,(.int .i64 0)]) bv) λn=>Vb (kc 2 d v) λa=>Vb (fa 0 d) λg=>Vb (mH g v) λi=>Vb (sL 1 i f) λk=>
 Vb (kc 1 k v) λe=>Vb (kc 2 d v) λw=>And (S.C 145 [w,m] v λaw E=>kc 1 k E=some e/\mH g E=some i/\kc 2 d E=some a/\And (S.C 152 [aw,f] E λax F=>
 kc 1 k F=some e/\mH g F=some i/\kc 2 d F=some a/\And (Cw S.C S.Y I.mt q [e,ax] F λK a2=>kc 2 d a2=some a/\And (S.C 151 [a,m,f,K,p] a2 λhn b4=>
 X2 hn λdg dh=>And (Eb (nw #[.slice none 0 0,.slice none 0 0] 29 b4) λcn eo=>Eb (nw #[.int .i64 0,.int .u32 0,.int .u32 0] 54 eo) λdk ev=>
 Sb (kq 2 cn dg ev) λe3=>Sb (kq 3 dk dh e3) λe8=>n cn dk e8) (Eb (nw #[.int .i64 0,.int .u32 0,.int .u32 0] 54 b4) λdv fd=>Eb (nw #[.slice none 0 0,.slice none 0 0] 29 fd) λcw fe=>
 Sb (kq 2 cw dg fe) λfg=>Sb (kq 3 dv dh fg) λfh=>n cw dv fh)) (And (Eb (nw #[.slice none 0 0,.slice none 0 0] 29 a2) λbi bo=>kc 2 d bo=some a/\And (S.C 151 [a,m,f,K,p] bo λho fi=>
 X2 ho λii jc=>Eb (nw #[.int .i64 0,.int .u32 0,.int .u32 0] 54 fi) λdw fj=>Sb (kq 2 bi ii fj) λfk=>Sb (kq 3 dw jc fk) λfl=>n bi dw fl) (Eb (nw #[.int .i64 0,.int .u32 0,.int .u32 0] 54 bo) λdx cb=>
 kc 2 d cb=some a/\S.C 151 [a,m,f,K,p] cb λhz fm=>X2 hz λiv jn=>Sb (kq 2 bi iv fm) λfn=>Sb (kq 3 dx jn fn) λfo=>n bi dx fo)) (Eb (nw #[.int .i64 0,.int .u32 0,.int .u32 0] 54 a2) λbl bp=>
 kc 2 d bp=some a/\And (S.C 151 [a,m,f,K,p] bp λh9 fp=>X2 h9 λi5 jx=>Eb (nw #[.slice none 0 0,.slice none 0 0] 29 fp) λcy fq=>
 Sb (kq 2 cy i5 fq) λfr=>Sb (kq 3 bl jx fr) λfs=>n cy bl fs) (Eb (nw #[.slice none 0 0,.slice none 0 0] 29 bp) λcz cd=>kc 2 d cd=some a/\S.C 151 [a,m,f,K,p] cd λia ft=>
 X2 ia λi6 jy=>Sb (kq 2 cz i6 ft) λfu=>Sb (kq 3 bl jy fu) λfv=>n cz bl fv)))) (And (Eb (nw #[.slice none 0 0,.slice none 0 0] 29 F) λag M=>
 kc 1 k M=some e/\mH g M=some i/\kc 2 d M=some a/\And (Cw S.C S.Y I.mt q [e,ax] M λda bq=>kc 2 d bq=some a/\And (S.C 151 [a,m,f,da,p] bq λib fw=>
 X2 ib λi7 jz=>Eb (nw #[.int .i64 0,.int .u32 0,.int .u32 0] 54 fw) λdy fx=>Sb (kq 2 ag i7 fx) λfy=>Sb (kq 3 dy jz fy) λfz=>n ag dy fz) (Eb (nw #[.int .i64 0,.int .u32 0,.int .u32 0] 54 bq) λdz ce=>
 kc 2 d ce=some a/\S.C 151 [a,m,f,da,p] ce λic f0=>X2 ic λi8 j0=>Sb (kq 2 ag i8 f0) λf1=>Sb (kq 3 dz j0 f1) λf2=>n ag dz f2)) (Eb (nw #[.int .i64 0,.int .u32 0,.int .u32 0] 54 M) λd0 bd=>
 kc 1 k bd=some e/\mH g bd=some i/\kc 2 d bd=some a/\Cw S.C S.Y I.mt q [e,ax] bd λhi cf=>kc 2 d cf=some a/\S.C 151 [a,m,f,hi,p] cf λie f4=>
 X2 ie λi9 j1=>Sb (kq 2 ag i9 f4) λf5=>Sb (kq 3 d0 j1 f5) λf6=>n ag d0 f6)) (Eb (nw #[.int .i64 0,.int .u32 0,.int .u32 0] 54 F) λG ap=>
 kc 1 k ap=some e/\mH g ap=some i/\kc 2 d ap=some a/\And (Cw S.C S.Y I.mt q [e,ax] ap λdd br=>kc 2 d br=some a/\And (S.C 151 [a,m,f,dd,p] br λig f7=>
 X2 ig λja j2=>Eb (nw #[.slice none 0 0,.slice none 0 0] 29 f7) λc0 f8=>Sb (kq 2 c0 ja f8) λf9=>Sb (kq 3 G j2 f9) λga=>n c0 G ga) (Eb (nw #[.slice none 0 0,.slice none 0 0] 29 br) λc1 cg=>
 kc 2 d cg=some a/\S.C 151 [a,m,f,dd,p] cg λih gb=>X2 ih λjb j3=>Sb (kq 2 c1 jb gb) λgc=>Sb (kq 3 G j3 gc) λgd=>n c1 G gd)) (Eb (nw #[.slice none 0 0,.slice none 0 0] 29 ap) λc2 be=>
 kc 1 k be=some e/\mH g be=some i/\kc 2 d be=some a/\Cw S.C S.Y I.mt q [e,ax] be λhj ch=>kc 2 d ch=some a/\S.C 151 [a,m,f,hj,p] ch λhp ge=>
 X2 hp λij jd=>Sb (kq 2 c2 ij ge) λgf=>Sb (kq 3 G jd gf) λgg=>n c2 G gg)))) (And (Eb (nw #[.slice none 0 0,.slice none 0 0] 29 E) λx O=>
 kc 1 k O=some e/\mH g O=some i/\kc 2 d O=some a/\And (S.C 152 [aw,f] O λc6 Q=>kc 1 k Q=some e/\mH g Q=some i/\kc 2 d Q=some a/\And (Cw S.C S.Y I.mt q [e,c6] Q λde bu=>
 kc 2 d bu=some a/\And (S.C 151 [a,m,f,de,p] bu λhq gh=>X2 hq λik je=>Eb (nw #[.int .i64 0,.int .u32 0,.int .u32 0] 54 gh) λdl gi=>
 Sb (kq 2 x ik gi) λgj=>Sb (kq 3 dl je gj) λgk=>n x dl gk) (Eb (nw #[.int .i64 0,.int .u32 0,.int .u32 0] 54 bu) λdm ci=>kc 2 d ci=some a/\S.C 151 [a,m,f,de,p] ci λhr gl=>
 X2 hr λil jf=>Sb (kq 2 x il gl) λgm=>Sb (kq 3 dm jf gm) λgn=>n x dm gn)) (Eb (nw #[.int .i64 0,.int .u32 0,.int .u32 0] 54 Q) λdn bf=>
 kc 1 k bf=some e/\mH g bf=some i/\kc 2 d bf=some a/\Cw S.C S.Y I.mt q [e,c6] bf λhk ck=>kc 2 d ck=some a/\S.C 151 [a,m,f,hk,p] ck λhs go=>
 X2 hs λim jg=>Sb (kq 2 x im go) λgp=>Sb (kq 3 dn jg gp) λgq=>n x dn gq)) (Eb (nw #[.int .i64 0,.int .u32 0,.int .u32 0] 54 O) λdp bg=>
 kc 1 k bg=some e/\mH g bg=some i/\kc 2 d bg=some a/\S.C 152 [aw,f] bg λg6 bh=>kc 1 k bh=some e/\mH g bh=some i/\kc 2 d bh=some a/\Cw S.C S.Y I.mt q [e,g6] bh λhl cl=>
 kc 2 d cl=some a/\S.C 151 [a,m,f,hl,p] cl λht gr=>X2 ht λio jh=>Sb (kq 2 x io gr) λgs=>Sb (kq 3 dp jh gs) λgt=>n x dp gt)) (Eb (nw #[.int .i64 0,.int .u32 0,.int .u32 0] 54 E) λB T=>
 kc 1 k T=some e/\mH g T=some i/\kc 2 d T=some a/\And (S.C 152 [aw,f] T λc7 U=>kc 1 k U=some e/\mH g U=some i/\kc 2 d U=some a/\And (Cw S.C S.Y I.mt q [e,c7] U λdf bw=>
 kc 2 d bw=some a/\And (S.C 151 [a,m,f,df,p] bw λhu gu=>X2 hu λip ji=>Eb (nw #[.slice none 0 0,.slice none 0 0] 29 gu) λco gv=>
 Sb (kq 2 co ip gv) λgw=>Sb (kq 3 B ji gw) λgx=>n co B gx) (Eb (nw #[.slice none 0 0,.slice none 0 0] 29 bw) λcp cm=>kc 2 d cm=some a/\S.C 151 [a,m,f,df,p] cm λhv d2=>
 X2 hv λiq jj=>Sb (kq 2 cp iq d2) λd3=>Sb (kq 3 B jj d3) λd4=>n cp B d4)) (Eb (nw #[.slice none 0 0,.slice none 0 0] 29 U) λcq az=>
 kc 1 k az=some e/\mH g az=some i/\kc 2 d az=some a/\Cw S.C S.Y I.mt q [e,c7] az λhm b0=>kc 2 d b0=some a/\S.C 151 [a,m,f,hm,p] b0 λhw d5=>
 X2 hw λir jk=>Sb (kq 2 cq ir d5) λd6=>Sb (kq 3 B jk d6) λd7=>n cq B d7)) (Eb (nw #[.slice none 0 0,.slice none 0 0] 29 T) λcr a0=>
 kc 1 k a0=some e/\mH g a0=some i/\kc 2 d a0=some a/\S.C 152 [aw,f] a0 λg7 a1=>kc 1 k a1=some e/\mH g a1=some i/\kc 2 d a1=some a/\Cw S.C S.Y I.mt q [e,g7] a1 λhb b1=>
 kc 2 d b1=some a/\S.C 151 [a,m,f,hb,p] b1 λhx d8=>X2 hx λit jl=>Sb (kq 2 cr it d8) λd9=>Sb (kq 3 B jl d9) λea=>n cr B ea)))) (And (Eb (nw #[.slice none 0 0,.slice none 0 0] 29 v) λt H=>
 kc 2 d H=some w/\kc 1 k H=some e/\mH g H=some i/\kc 2 d H=some a/\And (S.C 145 [w,m] H λc4 V=>kc 1 k V=some e/\mH g V=some i/\kc 2 d V=some a/\And (S.C 152 [c4,f] V λc8 X=>
 kc 1 k X=some e/\mH g X=some i/\kc 2 d X=some a/\And (Cw S.C S.Y I.mt q [e,c8] X λdb bm=>kc 2 d bm=some a/\And (S.C 151 [a,m,f,db,p] bm λhy eb=>
 X2 hy λiu jm=>Eb (nw #[.int .i64 0,.int .u32 0,.int .u32 0] 54 eb) λdq ec=>Sb (kq 2 t iu ec) λed=>Sb (kq 3 dq jm ed) λee=>n t dq ee) (Eb (nw #[.int .i64 0,.int .u32 0,.int .u32 0] 54 bm) λdr b2=>
 kc 2 d b2=some a/\S.C 151 [a,m,f,db,p] b2 λh0 ef=>X2 h0 λiw jo=>Sb (kq 2 t iw ef) λeg=>Sb (kq 3 dr jo eg) λeh=>n t dr eh)) (Eb (nw #[.int .i64 0,.int .u32 0,.int .u32 0] 54 X) λds a3=>
 kc 1 k a3=some e/\mH g a3=some i/\kc 2 d a3=some a/\Cw S.C S.Y I.mt q [e,c8] a3 λhc b3=>kc 2 d b3=some a/\S.C 151 [a,m,f,hc,p] b3 λh1 ei=>
 X2 h1 λix jp=>Sb (kq 2 t ix ei) λej=>Sb (kq 3 ds jp ej) λek=>n t ds ek)) (Eb (nw #[.int .i64 0,.int .u32 0,.int .u32 0] 54 V) λdt a4=>
 kc 1 k a4=some e/\mH g a4=some i/\kc 2 d a4=some a/\S.C 152 [c4,f] a4 λg8 a5=>kc 1 k a5=some e/\mH g a5=some i/\kc 2 d a5=some a/\Cw S.C S.Y I.mt q [e,g8] a5 λhd b5=>
 kc 2 d b5=some a/\S.C 151 [a,m,f,hd,p] b5 λh2 el=>X2 h2 λiy jq=>Sb (kq 2 t iy el) λem=>Sb (kq 3 dt jq em) λen=>n t dt en)) (Eb (nw #[.int .i64 0,.int .u32 0,.int .u32 0] 54 H) λdu Z=>
 kc 2 d Z=some w/\kc 1 k Z=some e/\mH g Z=some i/\kc 2 d Z=some a/\S.C 145 [w,m] Z λg3 a6=>kc 1 k a6=some e/\mH g a6=some i/\kc 2 d a6=some a/\S.C 152 [g3,f] a6 λg9 a7=>
 kc 1 k a7=some e/\mH g a7=some i/\kc 2 d a7=some a/\Cw S.C S.Y I.mt q [e,g9] a7 λhe b6=>kc 2 d b6=some a/\S.C 151 [a,m,f,he,p] b6 λh3 ep=>
 X2 h3 λiz jr=>Sb (kq 2 t iz ep) λer=>Sb (kq 3 du jr er) λes=>n t du es)) (Eb (nw #[.int .i64 0,.int .u32 0,.int .u32 0] 54 v) λu J=>
 kc 2 d J=some w/\kc 1 k J=some e/\mH g J=some i/\kc 2 d J=some a/\And (S.C 145 [w,m] J λc5 al=>kc 1 k al=some e/\mH g al=some i/\kc 2 d al=some a/\And (S.C 152 [c5,f] al λc9 am=>
 kc 1 k am=some e/\mH g am=some i/\kc 2 d am=some a/\And (Cw S.C S.Y I.mt q [e,c9] am λdc bn=>kc 2 d bn=some a/\And (S.C 151 [a,m,f,dc,p] bn λh4 et=>
 X2 h4 λi0 js=>Eb (nw #[.slice none 0 0,.slice none 0 0] 29 et) λcs eu=>Sb (kq 2 cs i0 eu) λew=>Sb (kq 3 u js ew) λex=>n cs u ex) (Eb (nw #[.slice none 0 0,.slice none 0 0] 29 bn) λct b7=>
 kc 2 d b7=some a/\S.C 151 [a,m,f,dc,p] b7 λh5 ey=>X2 h5 λi1 jt=>Sb (kq 2 ct i1 ey) λez=>Sb (kq 3 u jt ez) λe0=>n ct u e0)) (Eb (nw #[.slice none 0 0,.slice none 0 0] 29 am) λcu a8=>
 kc 1 k a8=some e/\mH g a8=some i/\kc 2 d a8=some a/\Cw S.C S.Y I.mt q [e,c9] a8 λhf b8=>kc 2 d b8=some a/\S.C 151 [a,m,f,hf,p] b8 λh6 e1=>
 X2 h6 λi2 ju=>Sb (kq 2 cu i2 e1) λe2=>Sb (kq 3 u ju e2) λe4=>n cu u e4)) (Eb (nw #[.slice none 0 0,.slice none 0 0] 29 al) λcv a9=>
 kc 1 k a9=some e/\mH g a9=some i/\kc 2 d a9=some a/\S.C 152 [c5,f] a9 λha ba=>kc 1 k ba=some e/\mH g ba=some i/\kc 2 d ba=some a/\Cw S.C S.Y I.mt q [e,ha] ba λhg b9=>
 kc 2 d b9=some a/\S.C 151 [a,m,f,hg,p] b9 λh7 e5=>X2 h7 λi3 jv=>Sb (kq 2 cv i3 e5) λe6=>Sb (kq 3 u jv e6) λe7=>n cv u e7)) (Eb (nw #[.slice none 0 0,.slice none 0 0] 29 J) λcx an=>
 kc 2 d an=some w/\kc 1 k an=some e/\mH g an=some i/\kc 2 d an=some a/\S.C 145 [w,m] an λg4 bb=>kc 1 k bb=some e/\mH g bb=some i/\kc 2 d bb=some a/\S.C 152 [g4,f] bb λg5 bc=>
 kc 1 k bc=some e/\mH g bc=some i/\kc 2 d bc=some a/\Cw S.C S.Y I.mt q [e,g5] bc λhh ca=>kc 2 d ca=some a/\S.C 151 [a,m,f,hh,p] ca λh8 e9=>
 X2 h8 λi4 jw=>Sb (kq 2 cx i4 e9) λfb=>Sb (kq 3 u jw fb) λfc=>n cx u fc))))
def oK:=lZ func143 (jV jW)
def xJ:=oH func147 (jV jW)
def xA:=Zy func151 (jV (jV (jV (.j [] [1,5,10,11,12,14,42] (jV (.c .z .z)) (.s (.o (oc [0,1,2,4,5,3,6,7] .nil)) .z)))))
def pq:=lZ func155 (jV (.s (jV (.b (.l [8] [0,1,7,19] (jV (.s (.c .z .z) (.s (.b (jV (jV (.c jW .z)))) .z)))))) jW))
def J3:=oH func159 (jV (jV (.s (.b (jV (.c jW (jV (.c jW .z))))) jW)))
def DE:=vz func199 (jV jW)
def pa:=oH func203 (jV (jV (.s (.j [18] [5,23] .z (.c jW .z)) (.s (.o (oc [0,1,2,3,4,5,6] .nil)) .z))))
def Gb:=vz func207 (jV (lp (.s (jV (jV (.c jW .z))) (.s (.b (jV (.c jW (jV (.c jW .z))))) (jV (jV (jV jW)))))))
def nf:=oH func211 (jV (jV (.s (.o (oc [0,1,2,3,4,5,6,7,8,9] .nil)) .z)))
def xu:=lZ func215 (jV jW)
def uB:=lZ func219 (jV (jV (lp (jV (.s (.j [44] [2,5,8,73] .z (.c jW .z)) (jV (lp jW)))))))
def uD:=lZ func223 (jV (jV (.j [] [2,4,5,6,68] (jV (jV (.c (jV (jV (.c (jV jW) .z))) .z))) (.j [] [2,4,5,68] (.o (oc [0,1,3] (.oZ (oc [2,4,5,6,7] .nil) (oc [4,2,5,6,7] .nil)))) (.s (jV (jV (.c jW .z))) jW)))))
def Fw:=vz func227 (jV (jV (jV (.s (.o (oc [0,1,2,3,4,5] .nil)) .z))))
def pI:=oH func231 (jV (jV (.j [6] [1,3,5,100] (.o (oc [0,1,2,6,7] (.oZ (oc [3,4] (.oZ (oc [5,8,9,10,11] .nil) (oc [8] (.oZ (oc [5,9,10,11] .nil) (oc [9,5,10,11] .nil))))) (oc [8,3,4] (.oZ (oc [5,9,10,11] .nil) (oc [9,5,10,11] .nil)))))) (jV (.s (jV (.b (.l [7,36] [1,3,5,6,34,35,100] (jV (.s (.c .z .z) (.s (.b (jV jW)) .z)))))) (jV (.s (jV (.b (.l [6,11,48] [1,3,5,46,47,100] (jV (.s (.c .z .z) (.j [6,11] [1,3,5,46,47,48,100] (.b (jV (jV (jV (.j [69] [1,3,5,6,11,14,46,47,48,100] .z (.c .z .z)))))) .z)))))) (jV (jV (jV jW))))))))))
def nW:=lZ func235 (jV (.s (jV (.b (.l [8] [0,1,7,19] (jV (.s (.c .z .z) (.s (.b (jV (jV (.c jW .z)))) .z)))))) jW))
def zG:=lZ func239 (jV (jV (.s (jV (.b (.l [5,6] [0,1,44] (.s (jV (.c .z .z)) (.b (jV jW)))))) (.s (jV (.b (.l [5,8] [1,44] (.s (jV (.c .z .z)) (.b (jV jW)))))) jW))))
def rR:=oH func243 (jV (.j [] [32] (jV (.b (jV (.c (jV (.b (jV (.c .z (jV (.c (.s (.o (oc [0,1,2,3,4] .nil)) .z) jW)))))) (jV (.c (jV (jV (.c (.s (.o (oc [0,1,2,3,4,5,6] .nil)) .z) .z))) .z)))))) jW))
def CH:=vz func247 (jV jW)
def CI:=lZ func251 (jV (lp (jV (.s (jV (.b (.l [5,13] [11,12,27] (jV (.s (.c .z .z) (.s (.b jW) .z)))))) jW))))
def Gf:=lZ func255 (jV jW)
def xY:=UQ func259 (jV jW)
def sK:=lZ func263 (jV (jV (lp (.s (.o (oc [0,1,2,3,4,5] .nil)) .z))))
def wC:=vz func267 (jV (jV (.s (.o (oc [0,1,2,3,4,5,6,7,8,9,10,11,12,13,14] .nil)) .z)))
def uy:=lZ func271 (jV jW)
def s6:=lZ func275 (jV (jV jW))
def pV:=lZ func279 (jV (lp jW))
def yE:=lZ func283 (jV (jV (jV (.s (.s (.o (oc [0,1,2,3,4,5,6] .nil)) (.c jW .z)) (jV jW)))))
def tF:=QZ func287 (jV (jV (.s (.j [25] [2,4,5,7,38] .z (.c jW .z)) (jV jW)))) λB E h R=>
 Eb (nw (Value.cells B) 376 h) λe p=>Eb (nw (Value.cells E) 146 p) λi t=>Eb (nw DK 376 t) λm u=>Eb (nw pJ 56 u) λn a=>
 Vb (fa 0 i) λam=>Lf 0 am a λd=>sV (λag g=>Br ag (Vb (kc 21 e g) λF=>S.C 286 [F,(.int .i64 4)] g λG v=>T3 21 m 8 n G v R) (Vb (fa 10 e) λH=>
 Sb (kq 1 H d g) λk=>Vb (kc 21 e k) λJ=>S.C 294 [J] k λal q=>T3 21 m 8 n al q R)) λf=>Vb (bin .lss d (.int .i64 1)) λw=>
 Br w (f (.bool true) a) (Lf 7 e a λx=>Vb (bin .gtr d x) λK=>Br K (f (.bool true) a) (Vb (fa 0 i) λM=>Vb (kc 3 M a) λO=>Vb (nF [(0,1),(1,1),(2,1)] #[.int .i64 0,.int .u32 0,.int .u32 0] [(0,d)]) λQ=>
 Vb (uk (zL [true,true,true] O Q)) λT=>f T a))
def Av:=QZ func291 (jV (jV (.s (jV (.c (jV jW) .z)) (jV (.s (.o (oc [0,1,2,3,4,5,6,7,8,9,10,11,12,13,14,15,16] .nil)) .z))))) λB E h R=>
 Eb (nw (Value.cells B) 383 h) λa t=>Eb (nw (Value.cells E) 54 t) λe u=>Eb (nw pJ 56 u) λf g=>Vb (fa 0 a) λw=>
 Vb (kc 3 w g) λx=>Lf 3 a g λF=>S.C 263 [x,F] g λG i=>X2 G λH q=>Lf 0 e i λJ=>Vb (bin .and J q) λK=>Vb (bin .eql K (.int .i64 0)) λag=>
 Br ag (Vb (fa 5 a) λM=>Sb (kq 1 M (.bool true) i) λv=>Vb (fa 4 a) λO=>Sb (kq 1 O (.int .i64 13) v) λm=>Vb (kc 7 a m) λQ=>Vb (some (.iface 383 Q)) λT=>
 Vb (nF [(0,1),(1,1),(2,3),(5,3)] pJ []) λal=>Sb (kq 8 f al m) λn=>Vb (kc 8 f n) λk=>R (.tuple #[T,k,(.bool true)]) n) (Vb (some (.func (.func 295) #[] #[a])) λam=>
 Vb (fa 6 a) λU=>Sb (kq 1 U am i) λd=>Vb (kc 7 a d) λV=>Vb (some (.iface 383 V)) λap=>Vb (kc 3 e d) λX=>Lf 0 e d λZ=>
 Vb (bin .andNot Z q) λau=>Lf 1 e d λav=>Lf 2 e d λaw=>Vb (nF [(0,1),(1,1),(2,1)] #[.int .i64 0,.int .u32 0,.int .u32 0] [(0,au),(1,av),(2,aw)]) λax=>
 Vb (nF [(0,1),(1,1),(2,3),(5,3)] pJ [(0,(.int .i64 6)),(1,H),(2,X),(3,ax)]) λay=>Sb (kq 8 f ay d) λp=>Vb (kc 8 f p) λk=>R (.tuple #[ap,k,(.bool false)]) p)
def sH:=lZ func295 (jV (.s (jV (.c (jV jW) .z)) jW))
def uZ:=lZ func299 (jV (.s (.o (oc [0,1,2,3,4,5,6,7,8,9,10,11,12,13,14] .nil)) jW))
def px:=lZ func303 (jV jW)
def zE:=oH func307 (jV jW)
def z9:=oH func311 (jV (.s (.b (jV (.c (.s (.o (oc [0,1,2,3,4,5,6,7,8,9,10] .nil)) .z) (jV (.c jW .z))))) jW))
def wJ:=QZ func315 (jV (.s (.s (.o (oc [0,1,2,3,4,5] .nil)) (.c jW .z)) (jV (jV jW)))) λB E h R=>
 Eb (nw (Value.cells B) 376 h) λd p=>Eb (nw (Value.cells E) 146 p) λn t=>Eb (nw DK 376 t) λi u=>Eb (nw pJ 56 u) λk e=>
 Vb (fa 0 n) λm=>Vb (kc 3 m e) λg=>Lf 6 d e λx=>S.C 255 [(.int .i64 0),x] e λF a=>kc 3 m a=some g/\Vb (uk (zL [true,true,true] g F)) λG=>
 Br G (Vb (kc 21 d a) λH=>S.C 301 [H] a λJ v=>T3 21 i 8 k J v R) (Vb (fa 0 d) λK=>Vb (kc 3 K a) λag=>Vb (fa 14 d) λM=>
 Lf 2 M a λO=>Lf 8 d a λQ=>S.C 232 [ag,O,Q] a λT w=>X2 T λal X=>Vb (fa 17 d) λam=>Sb (kq 1 am al w) λf=>Vb (kc 21 d f) λU=>
 Vb (nF [(0,3),(3,1)] #[.int .i64 0,.int .u32 0,.int .u32 0,.bool false] []) λV=>S.C 320 [U,V] f λap q=>T3 21 i 8 k ap q R)
def uc:=lZ func319 (jV jW)
def u7:=lZ func323 (jV jW)
def oU:=lZ func342 (jV (lp jW))
end
end Go.En
