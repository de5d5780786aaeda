/-
  Own library for the claim, packed by program: the engine, the clean texts, contracts, the plain law. (Part E.)
-/
import Derived.Test.YtcepckpfhbcobaaGreatDoorXD
namespace Go.En
variable {S:Sys} {I:aZ} {h h0 h':Hp} {F F0:Fp} {R:Value→Hp→Prop} {L:List bQ} {B B':Bs}
def EI8:qd Int:={n:=1,c:=fun i=>[.int .i8 i],len:=fun _=>rfl,one:=fun a v h=>by simp only [List.mem_singleton] at h; subst h; rfl}
structure Hq (G:Nat→W3) (ws:List W3):Prop where
 len:ws.length=512
 at':∀i,i<512→ws[i]?=some (G i)
theorem Hq.set {G:Nat→W3} {ws:List W3} (H:Hq G ws) {p:Nat} (hp:p<512) (w:W3):Hq (fun j=>if j=p then w else G j) (ws.set p w):=by
 refine ⟨by rw [List.length_set]; exact H.len,fun i hi=>?_⟩
 have:=H.len
 rw [List.getElem?_set]
 by_cases e:p=i
 ·subst e
  rw [if_pos rfl,if_pos (by omega),if_pos rfl]
 ·rw [if_neg e,if_neg (fun x=>e x.symm)]
  exact H.at' i hi
theorem Hq.ext {G G':Nat→W3} {ws:List W3} (H:Hq G ws) (e:∀i,i<512→G i=G' i):Hq G' ws:=⟨H.len,fun i hi=>by rw [H.at' i hi,e i hi]⟩
def Ta (t:Nat) (j:Nat):W3:=if 64≤j∧j<64+104*t∧(j - 64) % 104=0 then ⟨2,0,0⟩ else if j=1 then ⟨1,0,0⟩ else W0
def Tn (i:Nat) (j:Nat):W3:=if 384≤j∧j<384+32*i∧(j - 384) % 32=0 then ⟨2,0,0⟩ else Ta 3 j
def CJ (first:List Int) (i:Nat) (j:Nat):W3:=if 56≤j∧j<56+i then ⟨first.getD (j - 56) 0,0,0⟩ else Tn 4 j
theorem Hq.start:Hq (Ta 0) ((List.replicate 512 W0).set 1 ⟨1,0,0⟩):=by
 have:Hq (fun _=>W0) (List.replicate 512 W0):=⟨List.length_replicate,fun i hi=>by rw [List.getElem?_replicate,if_pos hi]⟩
 refine (this.set (p:=1) (by decide) ⟨1,0,0⟩).ext fun i _=>?_
 exact (if_neg (by omega)).symm
section
variable {first:List Int}
theorem UQ (hR:∀h',Gr h h'→R vL h'):ns S I h R:=by
 unfold ns
 have c:=Cx.aA h
 refine c.v3 fun _ _ c=>?_
 refine vx (aL (ds:=[_,_,_]) rfl)<|c.w3 0 fun _ c=>?_
 refine c.rl 0 ?_
 exact hR _ c.gr
theorem P4 (cs:YN S I) (Z:Zs h) (hR:∀u ws h',Hq (Tn 4) ws→Cx (fun _=>False) h h' [dA EW (aX u) ws]→R (aX u) h'):oh S I vL h R:=by
 have h1:(List.replicate 512 W0)[1]?=some W0:=by rw [List.getElem?_replicate,if_pos (by decide)]
 unfold oh
 have c:=Cx.aA h
 refine c.v3 fun l1_ _ c=>?_
 refine c.rl 0 ?_
 refine cs.right _ _ (Z.gr c.gr) fun _ g=>?_
 have c:=c.more g
 refine vx (v:=.bool false) (rfl)<|bD<|c.rl 0 ?_
 refine cs.size _ _ (Z.gr c.gr) fun _ g=>?_
 have c:=c.more g
 refine c.IL EW W0 (n:=512) rfl rfl rfl (by decide) (by decide) fun ad _ c=>?_
 obtain ⟨u,hu⟩:∃u:SH,aX u=.slice (some ad) 512 512:=⟨(some ad,512,512),rfl⟩
 rw [←hu] at c⊢
 replace c:=c.n2
 refine c.rl 0 ?_
 refine cs.era _ _ (Z.gr c.gr) fun _ g=>?_
 have c:=c.more g
 refine c.II 1 rfl (p:=1) h1 ⟨1,0,0⟩ rfl rfl (j:=0) rfl (by decide) rfl fun _ c=>?_
 replace c:=c.n2
 refine xN.by (fun (i:Nat) z h'=>z=.int .i64 ((i+1:Nat):Int)∧i≤3∧∃ws,Hq (Ta i) ws∧Cx (fun _=>False) h h' [rV l1_ [.int .i64 3,.int .i64 6,.int .i64 4],dA EW (aX u) ws]) (fun i=>3 - i) 0 ⟨rfl,by decide,_,Hq.start,c⟩ ?_
 rintro i _ h7 ⟨rfl,hi,ws,hF,c⟩ again hagain
 refine aD<|c.rc 0 ?_
 refine vx DJ<|pC (fun e20=>?_) fun e20=>?_
 ·refine c.rl 0 ?_
  refine cs.DZ (t:=((i+1:Nat):Int)) (by omega) _ _ (Z.gr c.gr) fun _ g=>?_
  have c:=c.more g
  have hF2:=hF.len
  have hx:=hF.at' (64+104*i) (by omega)
  rw [show m5 ((i+1:Nat):Int)=((64+104*i:Nat):Int) by unfold m5; rw [if_pos (by omega)]; omega]
  refine c.II 1 rfl hx ⟨2,0,0⟩ rfl rfl (j:=0) rfl (by decide) (by unfold Ta; rw [if_neg (by omega),if_neg (by omega)]; rfl) fun _ c=>?_
  replace c:=c.n2
  refine vx (inc (by omega))<|hagain (i+1) _ _ ⟨rfl,by omega,_,(hF.set (p:=64+104*i) (by omega) ⟨2,0,0⟩).ext fun j hj=>?_,c⟩ (by omega)
  unfold Ta
  by_cases e:j=64+104*i
  ·rw [if_pos e,if_pos (by omega)]
  ·rw [if_neg e]
   by_cases e2:64≤j∧j<64+104*i∧(j - 64) % 104=0
   ·rw [if_pos e2,if_pos (by omega)]
   ·exact (if_neg e2).trans (if_neg (by omega)).symm
 ·refine aD<|c.rc 0 ?_
  obtain rfl:i=3:=by omega
  refine xN.by (fun (i:Nat) z h'=>z=.int .i64 i∧i≤4∧∃ws,Hq (Tn i) ws∧Cx (fun _=>False) h h' [rV l1_ [.int .i64 3,.int .i64 6,.int .i64 4],dA EW (aX u) ws]) (fun i=>4 - i) 0 ⟨rfl,by decide,ws,hF.ext fun j hj=>(if_neg (by omega)).symm,c⟩ ?_
  clear hF c
  rintro i _ h10 ⟨rfl,hi,ws,hF,c⟩ again hagain
  refine vx cH<|pC (fun e32=>?_) fun e32=>?_
  ·refine c.rl 0 ?_
   refine cs.Eu (i:=(i:Int)) _ _ (Z.gr c.gr) fun _ g=>?_
   have c:=c.more g
   have hx:=hF.at' (384+32*i) (by omega)
   rw [show lC (i:Int)=((384+32*i:Nat):Int) by unfold lC; rw [if_pos (by omega)]; omega]
   refine c.II 1 rfl hx ⟨2,0,0⟩ rfl rfl (j:=0) rfl (by decide) (by unfold Tn Ta; rw [if_neg (by omega),if_neg (by omega),if_neg (by omega)]; rfl) fun _ c=>?_
   replace c:=c.n2
   refine vx (inc (by omega))<|hagain (i+1) _ _ ⟨rfl,by omega,_,(hF.set (p:=384+32*i) (by omega) ⟨2,0,0⟩).ext fun j hj=>?_,c⟩ (by omega)
   unfold Tn
   by_cases e:j=384+32*i
   ·rw [if_pos e,if_pos (by omega)]
   ·rw [if_neg e]
    by_cases e2:384≤j∧j<384+32*i∧(j - 384) % 32=0
    ·rw [if_pos e2,if_pos (by omega)]
    ·exact (if_neg e2).trans (if_neg (by omega)).symm
  ·obtain rfl:i=4:=by omega
   exact hR u ws _ hF (c.pick [1])
end
end Go.En
namespace Go.En
variable {S:Sys} {I:aZ} {h h0 h':Hp} {F F0:Fp} {R:Value→Hp→Prop} {L:List bQ} {B B':Bs}
structure Yp (S:Sys) (I:aZ):Prop extends Pp S I where
 ca:S3 S I
 Kx:∀{h} {R:Value→Hp→Prop},(∀h',Gr h h'→R vL h')→S.C I.cM [] h R
 OB:∀{h} {R:Value→Hp→Prop},Zs h→(∀u ws h',Hq (Tn 4) ws→Cx (fun _=>False) h h' [dA EW (aX u) ws]→R (aX u) h')→S.C I.lN [vL] h R
 Wf:∀{T:Nat} {v:SH} {ws:List W3} {h} {R:Value→Hp→Prop},Sl EW h (aX v) ws→(1≤T∧T≤8)→(1≤ws.length∧ws.length≤4096)→(∀v M h',Cx (fun _=>False) h h' [aG M]→(∀B:Bs,KO (B.and M) T v ⟨Me.new T ws,Li.new ws⟩)→R (.tuple #[xF v,.int .i64 0]) h')→S.C I.sM [.int .i64 T,aX v] h R
 SU:∀{x y:Value} {h R},uX S I x y h R→S.C I.uL [x,y] h R
def Mj.new (T:Nat) (ws:List W3):Mj:=⟨Me.new T ws,⟨ws,List.replicate ((ws.length+7) / 8) ([],0),fun _ _=>none⟩⟩
theorem B8.new {T:Nat} {v:MV} {ws:List W3} (H:KO B T v ⟨Me.new T ws,Li.new ws⟩):B8 B T v (Mj.new T ws):=by
 have e:v.y.a=none:=H.li.asn
 refine ⟨H.me,⟨?_,?_⟩,H.st⟩
 ·rw [e]; exact H.li
 ·rw [e]; exact ⟨[],fun _ _=>.inl ⟨rfl,rfl⟩,List.nodup_nil,fun t=>⟨[],fun _ _=>.inl ⟨rfl,rfl⟩,List.nodup_nil,fun _=>rfl⟩⟩
theorem Ek.new {T:Nat} {ws:List W3} (hT:T≤8) (hw:ws.length≤4096):Ek T ws.length 1 (Mj.new T ws):=by
 have k:=Kk.new (ws:=ws) hT hw
 exact ⟨k.me,fun a=>⟨k.li.fst,k.li.lg,k.li.le,k.li.len⟩,fun t j q h=>by cases h⟩
def He (du:Bool) (i:Nat) (ops:List m9):Cn:=⟨i+1,0,du,ops,[],none,[],[],false⟩
def Wn (du:Bool) (i:Nat) (u:SH):Cc:=⟨((i+1:Nat):Int),0,du,u,(none,0,0),.nilIface,(none,0,0),(none,0,0),(none,0,0),false⟩
def Be (I:aZ) (du:Bool) (us:List SH):List (TypeId × Value):=us.mapIdx fun i u=>(I.aK,C8 (Wn du i u))
def qC (I:aZ) (du:Bool) (opss:List (List m9)) (j:Nat) (B:Bs) (W:bQ) (v:Value) (a:Ac) (d:Bool):Prop:=
 ∃ops,opss[j]?=some ops∧a=(kL (He du j ops) qY).2.1∧d=(kL (He du j ops) qY).2.2∧N7 I B W v (kL (He du j ops) qY).1
theorem qC.le {du:Bool} {opss:List (List m9)} {j:Nat} {W:bQ} {v:Value} {a:Ac} {d:Bool} (l:B.le B') (H:qC I du opss j B W v a d):qC I du opss j B' W v a d:=let ⟨o,h1,h2,h3,h4⟩ :=H; ⟨o,h1,h2,h3,h4.le l⟩
section
variable {first:List Int} {du:Bool} {us:List SH} {opss:List (List m9)} {vf vo:Value}
theorem Re (cs:Yp S I) (hZ:On B Zs) (ho:∀(i:Nat) u ops,us[i]?=some u→opss[i]?=some ops→um B u ops) (hl:us.length=opss.length) (hk:∀(i:Nat) ops,opss[i]?=some ops→Ht (He du i ops) qY) :
  ∀(j:Nat) (c:TypeId × Value),(Be I du us)[j]?=some c→∃f,I.mt c.1 "Next"=some f∧∀B',B.le B'→L5 S B' (aG []) f c.1 c.2 qY (qC I du opss j):=by
 intro j c hc
 unfold Be at hc
 rw [List.getElem?_mapIdx] at hc
 cases hu:us[j]? with
 | none=>rw [hu] at hc; cases hc
 | some u=>
  rw [hu] at hc
  simp only [Option.map_some,Option.some.injEq] at hc
  subst hc
  have hj:=(List.getElem?_eq_some_iff.1 hu).1
  have hops:=List.getElem?_eq_getElem (l:=opss) (i:=j) (by omega)
  generalize opss[j]'(by omega)=ops at hops
  refine ⟨_,cs.ca.Uh,fun B' l h F R c hB hR=>cs.ca.GQ (Oa (c':=He du j ops) cs.ca (hZ.le l) (W:=aG []) ⟨Wn du j u,rfl,⟨rfl,rfl,rfl,(ho j u ops hu hops).le l,fun _ _=>Sl.nil,fun _ _=>Sl.nil,fun _ _=>Sl.nil,rfl⟩,rfl,rfl⟩ (hk j ops hops) ⟨⟨by decide,by decide⟩,⟨by decide,by decide⟩,⟨by decide,by decide⟩⟩ c hB fun v W M h' c2 ok=>?_)⟩
  exact hR v _ _ W M h' c2 ⟨ops,hops,rfl,rfl,ok⟩
theorem Cz (cs:Yp S I) (b0:B.p h) (hZ:On B Zs) (hf:On B fun h=>Sl EI8 h vf first) (hfr:∀z∈first,-128≤z∧z≤127) (hfl:first.length≤9223372036854775807) (hv:On B fun h=>Sl xE h vo us) (hl3:us.length≤3) (hl:us.length=opss.length) (ho:∀(i:Nat) u ops,us[i]?=some u→opss[i]?=some ops→um B u ops) (hk:∀(i:Nat) ops,opss[i]?=some ops→Ht (He du i ops) qY)
  (hR:∀ws w tks Ws M h',Hq (CJ first (min first.length 6)) ws→tks.length=us.length→Ws.length=us.length→Cx (fun _=>False) h h' [aG M,aG Ws]→Q4 (qC I du opss) (B.and M) (Be I du us) tks Ws→HC (B.and M) 3 w (Mj.new 3 ws) tks (List.replicate us.length []) (List.replicate us.length false)→R (.tuple #[FA w,.bool true]) h'):kP S I vf (.bool du) vo h R:=by
 unfold kP
 have c:=Cx.aA h
 refine c.v9 fun v6_ _ c=>?_
 refine cs.Kx fun _ g=>?_
 have c:=c.more g
 refine c.v3 fun l8_ _ c=>?_
 refine c.w3 1 fun _ c=>?_
 refine c.rl 1 ?_
 refine cs.OB (hZ _ (B.up b0 c.gr)) fun u ws0 _ hF d=>?_
 have c:=c.aE d
 replace c:=c.n3
 refine xN.by (fun (i:Nat) z h'=>z=.int .i64 i∧i≤min first.length 6∧∃ws,Hq (CJ first i) ws∧Cx (fun _=>False) h h' [rV v6_ pV.toList,rV l8_ [.int .i64 3,.int .i64 6,.int .i64 4],dA EW (aX u) ws]) (fun i=>6 - i) 0 ⟨rfl,Nat.zero_le _,ws0,hF.ext fun j hj=>(if_neg (by omega)).symm,c⟩ ?_
 clear hF c
 rintro i _ h6 ⟨rfl,hi,ws,hF,c⟩ again hagain
 refine lq.at (fun v h'=>v=.bool (decide (i<min first.length 6))∧Cx (fun _=>False) h h' [rV v6_ pV.toList,rV l8_ [.int .i64 3,.int .i64 6,.int .i64 4],dA EW (aX u) ws]) ?_ ?_
 ·refine vx (hf _ (B.up b0 c.gr)).ln<|vx cH<|pC (fun e24=>?_) fun e24=>?_
  ·refine aD<|c.rc 1 ?_
   refine vx cH<|pC (fun e29=>?_) fun e29=>?_
   ·refine vx (c.sl (i:=2) rfl).sl.ln ?_
    have hlen:=hF.len
    refine vx (F4 (by omega)) ?_
    first | exact ⟨by rw [decide_eq_true (show i<min first.length 6 by omega)],c⟩ | exact ⟨by rw [decide_eq_false (show ¬i<min first.length 6 by omega)],c⟩
   ·first | exact ⟨by rw [decide_eq_true (show i<min first.length 6 by omega)],c⟩ | exact ⟨by rw [decide_eq_false (show ¬i<min first.length 6 by omega)],c⟩
  ·first | exact ⟨by rw [decide_eq_true (show i<min first.length 6 by omega)],c⟩ | exact ⟨by rw [decide_eq_false (show ¬i<min first.length 6 by omega)],c⟩
 ·rintro _ h7 ⟨rfl,c⟩
  replace c:=c.n3
  refine pC (fun e35=>?_) fun e35=>?_
  ·refine c.rl 1 ?_
   have hx:=List.getElem?_eq_getElem (l:=first) (i:=i) (by omega)
   have hgd:first.getD i 0=first[i]'(by omega):=by rw [List.getD_eq_getElem?_getD,hx]; rfl
   generalize first[i]'(by omega)=z at hx hgd
   have hz:=hfr z (List.mem_of_getElem? hx)
   obtain ⟨r5,o5,e5,row5,_⟩ :=(hf _ (B.up b0 c.gr)).ix hx (n:=1) rfl (k:=.i64) (z:=(i:Int)) rfl
   refine vx e5<|vx (row5.Co rfl)<|vx (S6 (a:=z) ⟨by omega,by omega⟩)<|cs.ca.cell (i:=(i:Int)) _ _ (hZ _ (B.up b0 c.gr)) fun _ g=>?_
   have c:=c.more g
   rw [show ux (i:Int)=((56+i:Nat):Int) by unfold ux; rw [if_pos (by omega)]; omega]
   have hx2:=hF.at' (56+i) (by omega)
   obtain ⟨r6,o6,e6,row6,_⟩ :=(hf _ (B.up b0 c.gr)).ix hx (n:=1) rfl (k:=.i64) (z:=(i:Int)) rfl
   rw [e5] at e6
   injection e6 with e6
   injection e6 with e6
   injection e6 with e6
   injection e6 with e7 e8
   subst e7
   rw [←e8] at row6
   refine And.intro (row6.Co rfl) ?_
   refine c.II 2 rfl hx2 ⟨z,0,0⟩ rfl rfl (j:=0) rfl (by decide) (by unfold CJ Tn Ta; rw [if_neg (by omega),if_neg (by omega),if_neg (by omega),if_neg (by omega)]; rfl) fun _ c=>?_
   replace c:=c.n3
   refine vx (inc (by omega))<|hagain (i+1) _ _ ⟨rfl,by omega,_,(hF.set (p:=56+i) (by omega) ⟨z,0,0⟩).ext fun j hj=>?_,c⟩ (by omega)
   unfold CJ
   by_cases e:j=56+i
   ·rw [if_pos e,if_pos (by omega),show j - 56=i by omega,hgd]
   ·rw [if_neg e]
    by_cases e2:56≤j∧j<56+i
    ·rw [if_pos e2,if_pos (by omega)]
    ·exact (if_neg e2).trans (if_neg (by omega)).symm
  ·refine aD<|c.rc 1 ?_
   obtain rfl:i=min first.length 6:=by omega
   have hlen:=hF.len
   refine cs.Wf (T:=3) (c.sl (i:=2) rfl).sl ⟨by decide,by decide⟩ ⟨by omega,by omega⟩ fun v M _ d hKO=>?_
   have c:=c.aE d
   replace c:=c.n4
   refine vx rfl<|vx rfl<|c.v7 fun m11_ _ c=>?_
   refine c.w7 4 fun _ c=>?_
   refine vx (hv _ (B.up b0 c.gr)).ln<|Az.by (fun (i:Nat) x z h'=>z=.int .i64 i∧i≤us.length∧Cx (fun _=>False) h h' [rV v6_ pV.toList,rV l8_ [.int .i64 3,.int .i64 6,.int .i64 4],dA EW (aX u) ws,aG M,rV m11_ (YS v),dA Ss x ((Be I du us).take i)]) (fun i=>us.length - i) 0 ⟨rfl,Nat.zero_le _,c.nil Ss⟩ ?_
   rintro j x _ h13' ⟨rfl,hj,c⟩ again1 hagain1
   have hcl:(Be I du us).length=us.length:=by unfold Be; rw [List.length_mapIdx]
   replace c:=c.n6
   refine vx cH<|pC (fun e59=>?_) fun e59=>?_
   ·have hx:=List.getElem?_eq_getElem (l:=us) (i:=j) (by omega)
    have ht1:(Be I du us).take (j+1)=(Be I du us).take j++[(I.aK,C8 (Wn du j (us[j]'(by omega))))]:=by
     rw [List.take_add_one]
     congr 1
     unfold Be
     rw [List.getElem?_mapIdx,hx]; rfl
    generalize us[j]'(by omega)=uj at hx ht1
    refine (hv _ (B.up b0 c.gr)).one rfl hx rfl (u:=aX uj) rfl ?_
    refine c.rl 1 ?_
    refine vx (qV ⟨by omega,by omega⟩)<|vx (aL (ds:=[_,_,_,_,_,_,_,_,_,_,_,_,_]) rfl)<|vx rfl<|c.jE Ss (I.aK,C8 (Wn du j uj)) rfl rfl fun v71 _ c=>?_
    replace c:=c.n7
    refine c.ap 5 rfl (c.sl (i:=6) rfl).sl rfl rfl (by simp only [List.length_take,List.length_cons,List.length_nil]; omega) (by simp only [List.length_take,List.length_cons,List.length_nil]; omega) fun v72 _ c=>?_
    rw [←ht1] at c
    replace c:=c.n7
    exact vx (inc (by omega))<|hagain1 (j+1) _ _ _ ⟨rfl,by omega,c.pick [0,1,2,3,4,5]⟩ (by omega)
   ·refine c.rl 4 ?_
    obtain rfl:j=us.length:=by omega
    rw [List.take_of_length_le (by omega)] at c
    obtain ⟨cd,rfl⟩ :=(c.sl (i:=5) rfl).vO
    have c:=Cx.pack (L:=[_,_]) (M:=[aG M,dA Ss (aX cd) (Be I du us)]) (c.pick [0,4,3,5])
    have l0:=Bs.aR B [aG M,dA Ss (aX cd) (Be I du us)]
    have hko:B8 (B.and [aG M,dA Ss (aX cd) (Be I du us)]) 3 v (Mj.new 3 ws):=(B8.new (hKO B)).le fun h b=>⟨b.1,Bs.star b (i:=0) rfl⟩
    have hkk:=Ek.new (T:=3) (ws:=ws) (by decide) (by omega)
    refine cs.SU (Ru (B:=B.and [aG M,dA Ss (aX cd) (Be I du us)]) (v:=v) cs.toPp ⟨B.up b0 c.gr,c.get (i:=2) rfl⟩ hko hkk (On.sl (i:=1) rfl) (by omega) (Q:=qC I du opss) (fun {j B B'} l {W v a d} (H:qC I du opss j B W v a d)=>qC.le l H) (fun j c hc=>?_) fun w tks Ws N _ ht hw d ok1 ok2=>?_)
    ·obtain ⟨f,hf1,hf2⟩ :=Re cs hZ ho hl hk j c hc
     exact ⟨f,hf1,fun B' l=>hf2 B' (l0.trans l)⟩
    have c:=c.aE d
    replace c:=c.n5
    refine vx rfl<|vx rfl<|c.v9 fun _ _ c=>?_
    refine c.w9 5 fun _ c=>?_
    refine .here<|c.rl 5 ?_
    refine vx (v:=.bool true) rfl<|eR<|vx (v:=.bool true) rfl<|c.w9 0 fun _ c=>?_
    refine c.rl 0 ?_
    have c:=Cx.pack (L:=[_]) (M:=[_,_]) (c.pick [4,2,3])
    rw [hcl] at ok2 ht hw
    exact hR ws w tks Ws _ _ hF ht hw (c.pick [1,0]) (fun j tk W h1 h2=>let ⟨a,cc,q1,q2,q3,q4,q5⟩ :=ok1 j tk W h1 h2; ⟨a,cc,q1,q2,q3.le Bs.MA,q4,q5⟩) (ok2.le Bs.MA)
end
end Go.En
namespace Go.En
variable {S:Sys} {I:aZ} {h h0 h':Hp} {F F0:Fp} {R:Value→Hp→Prop} {L:List bQ} {B B':Bs}
def Mj.words (m:Mj):List W3:=(List.range m.me.hs.length).map fun i=>(m.me.top i).w
theorem Mj.pR {m:Mj}:m.words.length=m.me.hs.length:=by unfold Mj.words; rw [List.length_map,List.length_range]
theorem Mj.yR {m:Mj} {i:Nat} (hi:i<m.me.hs.length):m.words[i]?=some (m.me.top i).w:=by
 unfold Mj.words
 rw [List.getElem?_map,List.getElem?_range hi]; rfl
structure Yx (S:Sys) (I:aZ):Prop extends Yp S I where
 S9:Pz S I.gO [vL] (.int .i64 512)
 z7:∀{x y:Value} {h R},kQ S I x y h R→S.C I.bI [x,y] h R
section
variable {T n b:Nat} {v:MV} {m:Mj} {ws us:List W3} {vw vu:Value} {i:Nat}
theorem Lu (cs:Yx S I) (b0:B.p h) (H:B8 B T v m) (k:Ek T n b m) (hb:b≤1000000) (hR:∀u h',Cx (fun _=>False) h h' [dA EW (aX u) m.words]→R (aX u) h'):km S I (xF v) h R:=by
 have hn:=k.me.hs
 have hle:=k.me.le
 unfold km
 have c:=Cx.aA h
 refine c.v7 fun m1_ _ c=>?_
 refine c.rl 0 ?_
 refine cs.Jh (v:=v) (B.up b0 c.gr) H.ko (k.kk H) fun _ g=>?_
 have c:=c.more g
 refine vx rfl<|vx rfl<|Az.by (fun (i:Nat) x z h'=>z=.int .i64 i∧i≤n∧Cx (fun _=>False) h h' [rV m1_ (YS v),dA EW x (m.words.take i)]) (fun i=>n - i) 0 ⟨rfl,Nat.zero_le _,c.nil EW⟩ ?_
 rintro i x _ h3' ⟨rfl,hi,c⟩ again hagain
 replace c:=c.n2
 refine vx cH<|pC (fun e16=>?_) fun e16=>?_
 ·refine c.rl 0 ?_
  refine cs.z7 (sH (v:=v) cs.toXD (B.up b0 c.gr) H.ko (k.kk H) hb (i:=i) (by omega) fun _ g=>?_)
  have c:=c.more g
  have ht1:m.words.take (i+1)=m.words.take i++[(m.me.top i).w]:=by rw [List.take_add_one,Mj.yR (by omega)]; rfl
  refine vx rfl<|vx rfl<|c.v3 fun _ _ c=>?_
  refine c.w3 2 fun _ c=>?_
  refine c.rl 2 ?_
  refine c.jE EW (m.me.top i).w rfl rfl fun v26 _ c=>?_
  replace c:=c.n4
  refine c.ap 1 rfl (c.sl (i:=3) rfl).sl rfl rfl (by simp only [List.length_take,List.length_cons,List.length_nil]; omega) (by simp only [List.length_take,List.length_cons,List.length_nil]; omega) fun v27 _ c=>?_
  rw [←ht1] at c
  replace c:=c.n4
  exact vx (inc (by omega))<|hagain (i+1) _ _ _ ⟨rfl,by omega,c.pick [0,1]⟩ (by omega)
 ·obtain ⟨u,rfl⟩ :=(c.sl (i:=1) rfl).vO
  rw [List.take_of_length_le (by rw [Mj.pR]; omega)] at c
  exact hR u _ (c.pick [1])
theorem KD (cs:Yx S I) (b0:B.p h) (hZ:On B Zs) (hw:On B fun h=>Sl EW h vw ws) (hl:ws.length=512) {x:W3} (hx:ws[i]?=some x) (hm:qD i=true) (h0:x.ref=0) (hR:∀h',Gr h h'→R (.tuple #[mW x,.int .i64 0]) h'):rI S I vL vw (.int .i64 i) h R:=by
 have hi:=(List.getElem?_eq_some_iff.1 hx).1
 obtain ⟨xv,xq,xr⟩ :=x
 dsimp only at h0
 subst h0
 unfold rI
 have c:=Cx.aA h
 refine c.v3 fun _ _ c=>?_
 refine c.v3 fun _ _ c=>?_
 refine .here<|c.rl 0 ?_
 refine cs.ca.check _ _ (hZ _ (B.up b0 c.gr)) fun _ g=>?_
 have c:=c.more g
 refine vx (v:=.bool false) rfl<|bD<|vx (hw _ (B.up b0 c.gr)).ln<|c.rl 0 ?_
 refine cs.S9 _ _ (hZ _ (B.up b0 c.gr)) fun _ g=>?_
 have c:=c.more g
 refine vx (iZ (by omega))<|bD<|c.rl 0 ?_
 refine cs.ca.LQ (a:=(i:Int)) ⟨by omega,by omega⟩ _ _ (hZ _ (B.up b0 c.gr)) fun _ g=>?_
 have c:=c.more g
 rw [hm]
 refine vx (v:=.bool false) (rfl)<|bD<|(hw _ (B.up b0 c.gr)).whole rfl hx rfl ?_
 refine c.v3 fun _ _ c=>?_
 refine c.w3 2 fun _ c=>?_
 refine aD<|c.rc 2 ?_
 refine cs.ca.who (r:=0) ⟨by decide,by decide⟩ fun _ g=>?_
 have c:=c.more g
 rw [show cZ 0=0 from by decide]
 refine vx rfl<|vx rfl<|aD<|c.rc 2 ?_
 refine aD<|c.rc 2 ?_
 refine vx (aL (ds:=[_,_,_]) rfl)<|c.v3 fun _ _ c=>?_
 refine c.w3 3 fun _ c=>?_
 refine vx (v:=.bool true) rfl<|eR<|c.rl 3 ?_
 refine c.w3 1 fun _ c=>?_
 refine c.rl 1 ?_
 exact hR _ c.gr
end
structure Wg (S:Sys) (I:aZ):Prop extends Yx S I where
 F5:∀{x y z:Value} {h R},rI S I x y z h R→S.C I.rj [x,y,z] h R
 JQ:∀{x:Tk} {h} {R:Value→Hp→Prop},(∀h',Gr h h'→R (.iface x.t x.v) h')→S.C I.mU [Aq x] h R
def uH (ws:List W3):List W3:=ws.mapIdx fun i w=>if qD i=true then w else W0
section
variable {ws us:List W3} {vw vu:Value}
theorem Td (cs:Wg S I) (b0:B.p h) (hZ:On B Zs) (hw:On B fun h=>Sl EW h vw ws) (hl:ws.length=512) (hf:∀(i:Nat) x,ws[i]?=some x→qD i=true→x.ref=0) (hR:∀u h',Cx (fun _=>False) h h' [dA EW (aX u) (uH ws)]→R (aX u) h'):jQ S I vL vw h R:=by
 unfold jQ
 have c:=Cx.aA h
 refine c.v3 fun l2_ _ c=>?_
 refine c.Jc EW fun v7 _ c=>?_
 replace c:=c.n2
 refine c.ap 1 rfl (hw _ (B.up b0 c.gr)) rfl rfl (by simp only [List.length_nil]; omega) (by simp only [List.length_nil]; omega) fun v9 _ c=>?_
 obtain ⟨u,rfl⟩ :=(c.sl (i:=1) rfl).vO
 replace c:=c.n2
 refine xN.by (fun (i:Nat) z h'=>z=.int .i64 i∧i≤512∧Cx (fun _=>False) h h' [rV l2_ [.int .i64 3,.int .i64 6,.int .i64 4],dA EW (aX u) ((uH ws).take i++ws.drop i)]) (fun i=>512 - i) 0 ⟨rfl,Nat.zero_le _,c⟩ ?_
 rintro i _ h4' ⟨rfl,hi,c⟩ again hagain
 have hll:(uH ws).length=512:=by unfold uH; rw [List.length_mapIdx,hl]
 refine vx (hw _ (B.up b0 c.gr)).ln<|vx cH<|pC (fun e13=>?_) fun e13=>?_
 ·refine .here<|c.rl 0 ?_
  refine cs.ca.LQ (a:=(i:Int)) ⟨by omega,by omega⟩ _ _ (hZ _ (B.up b0 c.gr)) fun _ g=>?_
  have c:=c.more g
  have hx:=List.getElem?_eq_getElem (l:=ws) (i:=i) (by omega)
  have hlx:(uH ws)[i]?=some (if qD i=true then ws[i]'(by omega) else W0):=by unfold uH; rw [List.getElem?_mapIdx,hx]; rfl
  have hd:ws.drop i=ws[i]'(by omega)::ws.drop (i+1):=List.drop_eq_getElem_cons (by omega)
  have ht:(uH ws).take (i+1)=(uH ws).take i++[if qD i=true then ws[i]'(by omega) else W0]:=by rw [List.take_add_one,hlx]; rfl
  have hset:∀y,((uH ws).take i++ws.drop i).set i y=((uH ws).take i++[y])++ws.drop (i+1):=fun y=>by
   rw [hd,List.set_append_right _ _ (by rw [List.length_take]; omega),List.length_take,show i - min i (uH ws).length=0 by omega,List.set_cons_zero,List.append_assoc]; rfl
  generalize ws[i]'(by omega)=x at hx hlx hd ht
  refine En.br (fun e18=>?_) fun e18=>?_
  ·refine c.rl 0 ?_
   refine cs.F5 (KD cs.toYx (B.up b0 c.gr) hZ hw hl hx e18 (hf i x hx e18) fun _ g=>?_)
   have c:=c.more g
   refine vx rfl<|vx rfl<|c.D7 1 rfl (j:=i) (by rw [List.length_append,List.length_take,List.length_drop]; omega) x rfl rfl rfl fun _ c=>?_
   rw [hset,show x=(if qD i=true then x else W0) from (if_pos e18).symm,←ht] at c
   replace c:=c.n2
   exact vx (inc (by omega))<|hagain (i+1) _ _ ⟨rfl,by omega,c.pick [0,1]⟩ (by omega)
  ·refine vx (aL (ds:=[_,_,_]) rfl)<|c.D7 1 rfl (j:=i) (by rw [List.length_append,List.length_take,List.length_drop]; omega) W0 rfl rfl rfl fun _ c=>?_
   rw [hset,show W0=(if qD i=true then x else W0) from (if_neg (by rw [e18]; decide)).symm,←ht] at c
   replace c:=c.n2
   exact vx (inc (by omega))<|hagain (i+1) _ _ ⟨rfl,by omega,c.pick [0,1]⟩ (by omega)
 ·obtain rfl:i=512:=by omega
  rw [List.take_of_length_le (by omega),List.drop_of_length_le (by omega),List.append_nil] at c
  exact hR u _ (c.pick [1])
theorem T5 (b0:B.p h) (hw:On B fun h=>Sl EW h vw ws) (hu:On B fun h=>Sl EW h vu ws) (hl:ws.length≤1000000) (hR:∀h',Gr h h'→R (.bool true) h'):lH S I vw vu h R:=by
 unfold lH
 have c:=Cx.aA h
 refine vx (hw _ (B.up b0 c.gr)).ln<|vx (hu _ (B.up b0 c.gr)).ln<|vx (v:=.bool false) (by rw [pJ,decide_eq_false (fun h=>h rfl)])<|bD<|xN.by (fun (i:Nat) z h'=>z=.int .i64 i∧i≤ws.length∧Cx (fun _=>False) h h' []) (fun i=>ws.length - i) 0 ⟨rfl,Nat.zero_le _,c⟩ ?_
 rintro i _ h4' ⟨rfl,hi,c⟩ again hagain
 refine vx (hw _ (B.up b0 c.gr)).ln<|vx cH<|pC (fun e14=>?_) fun e14=>?_
 ·have hx:=List.getElem?_eq_getElem (l:=ws) (i:=i) (by omega)
  generalize ws[i]'(by omega)=x at hx
  refine (hw _ (B.up b0 c.gr)).whole rfl hx rfl ?_
  refine (hu _ (B.up b0 c.gr)).whole rfl hx rfl ?_
  exact vx (v:=.bool false) ((Tx x x).trans (by rw [decide_eq_false (fun h=>h rfl)]))<|bD<|vx (inc (by omega))<|hagain (i+1) _ _ ⟨rfl,by omega,c⟩ (by omega)
 ·exact hR _ c.gr
theorem Ls (cs:Wg S I) {x:Cc} {d:Bool} {a:Ac} {s:SH} (hR:∀h',Gr h h'→R (.tuple #[C8 x,.bool true]) h') (hn:x.now.oneCell'=true):jT S I (Aq ⟨I.aK,C8 x,d,a,s⟩) h R:=by
 obtain ⟨t,seq,du,ops,sn,now,zA,dn,sm,br⟩ :=x
 dsimp only at hn
 cases d with
 | true=>
  unfold jT
  have c:=Cx.aA h
  refine c.v11 fun _ _ c=>?_
  refine c.KG fun _ _ c=>?_
  refine c.rl 0 ?_
  refine cs.JQ (x:=⟨I.aK,_,true,a,s⟩) fun _ g=>?_
  have c:=c.more g
  refine vx (v:=.tuple #[C8 ⟨t,seq,du,ops,sn,now,zA,dn,sm,br⟩,.bool true]) (by simp [C3])<|vx rfl<|vx rfl<|c.KG fun _ _ c=>?_
  refine c.RT 2 fun _ c=>?_
  refine c.rl 2 ?_
  refine c.RT 1 fun _ c=>?_
  refine c.rl 1 ?_
  exact hR _ c.gr
 | false=>
  unfold jT
  have c:=Cx.aA h
  refine c.v11 fun _ _ c=>?_
  refine c.KG fun _ _ c=>?_
  refine c.rl 0 ?_
  refine cs.JQ (x:=⟨I.aK,_,false,a,s⟩) fun _ g=>?_
  have c:=c.more g
  refine vx (v:=.tuple #[C8 ⟨t,seq,du,ops,sn,now,zA,dn,sm,br⟩,.bool true]) (by simp [C3])<|vx rfl<|vx rfl<|c.KG fun _ _ c=>?_
  refine c.RT 2 fun _ c=>?_
  refine c.rl 2 ?_
  refine c.RT 1 fun _ c=>?_
  refine c.rl 1 ?_
  exact hR _ c.gr
end
end Go.En
namespace Go.En
def fW (M:Nat→W3) (i:Nat) (w:W3):Nat→W3:=fun j=>if j=i then w else M j
theorem tX {M:Nat→W3} {i:Nat} {w:W3}:fW M i w i=w:=if_pos rfl
theorem nt {M:Nat→W3} {i j:Nat} {w:W3} (h:¬j=i):fW M i w j=M j:=if_neg h
def exec (M:Nat→W3) (a:Ac):(Nat→W3) × iM:=
 if a.op=5∨a.op=1 then (M,⟨M a.at'.toNat,true⟩)
 else if a.op=3∨a.op=4 then (fW M a.at'.toNat a.new,⟨W0,true⟩)
 else if a.op=6 then (if M a.at'.toNat=a.old then (fW M a.at'.toNat a.new,⟨M a.at'.toNat,true⟩) else (M,⟨M a.at'.toNat,false⟩))
 else (M,⟨W0,true⟩)
structure zU (a:Ac):Prop where
 ok:I2 512 a
 old:a.op=5∨a.op=3∨a.op=4→a.old=W0
 nw:a.op=5→a.new=W0
 w:a.op=3∨a.op=4∨a.op=6→Ww a.new
inductive Ends (post:Cn→(Nat→W3)→Prop):Nat→CR→(Nat→W3)→Prop
 | done {k:Nat} {c:Cn} {a:Ac} {M:Nat→W3}:post c M→Ends post k (c,a,true) M
 | step {k:Nat} {c:Cn} {a:Ac} {M:Nat→W3}:zU a→Ht c (exec M a).2→Ends post k (kL c (exec M a).2) (exec M a).1→Ends post (k+1) (c,a,false) M
structure SV (m:Mj) (M:Nat→W3):Prop where
 vs:1≤m.me.vs.length
 hs:m.me.hs.length=512
 ne:∀i,i<512→1≤(m.me.at i).length
 top:∀i,i<512→(m.me.top i).w=M i
 ww:∀i,Ww (M i)
 vw:∀i:Nat,i<512→m.me.view 1 i=((m.me.at i).length - 1:Nat)
 ms:∀(i:Nat) (x:AM),i<512→x∈m.me.at i→∀l:Nat,l<512→x.f l≤((m.me.at l).length - 1:Nat)
section
variable {m m':Mj} {M:Nat→W3} {a:Ac} {g:iM} {i:Nat}
theorem Me.PN {m:Me} {i n:Nat} {x:AM} {j:Bool} (h:1≤m.vs.length):(m.xB 1 i n x j).view 1=if j then Ev (rz (m.view 1) i n) x.f else rz (m.view 1) i n:=by
 show (m.vs.set 0 _).getD 0 _=_
 rw [List.getD_eq_getElem?_getD,List.getElem?_set_self (by omega)]; rfl
theorem Me.J7 {m:Me} {t i:Nat} {w:W3} {b:Bool} (k:Nat) (h:i<m.hs.length):(m.add t i w b).at k=if k=i then m.at i++[⟨w,if b then rz (m.view t) i (m.at i).length else rz (fun _=>0) i (m.at i).length⟩] else m.at k:=by
 show (m.hs.set i _).getD k []=_
 rw [List.getD_eq_getElem?_getD]
 by_cases e:k=i
 ·subst e
  rw [List.getElem?_set_self h,if_pos rfl]; rfl
 ·rw [List.getElem?_set_ne (fun x=>e x.symm),if_neg e,←List.getD_eq_getElem?_getD]; rfl
theorem Me.Om {m:Me} {i:Nat} {w:W3} {b:Bool} (h:1≤m.vs.length):(m.add 1 i w b).view 1=rz (m.view 1) i (m.at i).length:=by
 show (m.vs.set 0 _).getD 0 _=_
 rw [List.getD_eq_getElem?_getD,List.getElem?_set_self (by omega)]; rfl
theorem Me.Lz {m:Me} {i:Nat} (h:1≤(m.at i).length):m.top i∈m.at i:=by
 unfold Me.top
 have hne:m.at i≠[]:=fun e=>by rw [e] at h; simp at h
 rw [List.getLast?_eq_some_getLast hne]
 exact List.getLast_mem hne
theorem SV.xB (H:SV m M) {q:Nat} {x:AM} {j:Bool} (hi:i<512) (hx:x∈m.me.at i) (hq:q=(m.me.at i).length - 1):SV {m with me:=m.me.xB 1 i q x j} M:=by
 refine ⟨by show 1≤(m.me.vs.set _ _).length; rw [List.length_set]; exact H.vs,H.hs,H.ne,H.top,H.ww,fun l hl=>?_,H.ms⟩
 have h1:=H.vw l hl
 have h2:=H.ms i x hi hx l hl
 show (m.me.xB 1 i q x j).view 1 l=((m.me.at l).length - 1:Nat)
 rw [Me.PN H.vs]
 have h3:rz (m.me.view 1) i q l=((m.me.at l).length - 1:Nat):=by
  unfold rz
  by_cases e:(l:Int)=i
  ·rw [if_pos e]
   obtain rfl:l=i:=by omega
   omega
  ·rw [if_neg e]; exact h1
 cases j with
 | true=>simp only [if_true,Ev]; rw [h3]; omega
 | false=>simp only [Bool.false_eq_true,if_false]; exact h3
theorem SV.add (H:SV m M) {w:W3} {b:Bool} (hi:i<512) (hw:Ww w) {l:Lj}:SV ⟨m.me.add 1 i w b,l⟩ (fW M i w):=by
 have hlt:i<m.me.hs.length:=by rw [H.hs]; exact hi
 have hlen:∀k,k<512→((m.me.add 1 i w b).at k).length=(m.me.at k).length+if k=i then 1 else 0:=fun k hk=>by
  rw [Me.J7 k hlt]
  by_cases e:k=i
  ·subst e; rw [if_pos rfl,if_pos rfl,List.length_append,List.length_singleton]
  ·rw [if_neg e,if_neg e]; rfl
 refine ⟨by show 1≤(m.me.vs.set _ _).length; rw [List.length_set]; exact H.vs,by show (m.me.hs.set _ _).length=_; rw [List.length_set]; exact H.hs,fun k hk=>?_,fun k hk=>?_,fun k=>?_,fun k hk=>?_,fun k x hk hx l hl=>?_⟩
 ·show 1≤((m.me.add 1 i w b).at k).length
  have:=H.ne k hk
  rw [hlen k hk]; omega
 ·show ((m.me.add 1 i w b).top k).w=_
  unfold Me.top
  rw [Me.J7 k hlt]
  by_cases e:k=i
  ·subst e
   rw [if_pos rfl,List.getLast?_append]
   simp [fW]
  ·rw [if_neg e,nt e]
   exact H.top k hk
 ·unfold fW
  split
  ·exact hw
  ·exact H.ww k
 ·show (m.me.add 1 i w b).view 1 k=((((m.me.add 1 i w b).at k).length - 1:Nat):Int)
  rw [Me.Om H.vs,hlen k hk]
  have h1:=H.vw k hk
  have h2:=H.ne k hk
  unfold rz
  by_cases e:k=i
  ·subst e
   rw [if_pos rfl,if_pos rfl]
   omega
  ·rw [if_neg (by omega),if_neg e]
   omega
 ·show x.f l≤((((m.me.add 1 i w b).at l).length - 1:Nat):Int)
  have hx:x∈(m.me.add 1 i w b).at k:=hx
  rw [Me.J7 k hlt] at hx
  have h2:=H.ne l hl
  have h3:=H.vw l hl
  rw [hlen l hl]
  by_cases e:k=i
  ·subst e
   rw [if_pos rfl] at hx
   rcases List.mem_append.1 hx with hx | hx
   ·have:=H.ms k x hk hx l hl
    split <;> omega
   ·rw [List.mem_singleton] at hx
    subst hx
    show (if b=true then rz (m.me.view 1) k (m.me.at k).length else rz (fun _=>0) k (m.me.at k).length) l≤_
    by_cases e2:l=k
    ·subst e2
     rw [if_pos rfl]
     cases b with
     | true=>simp only [if_true,rz]; omega
     | false=>simp only [Bool.false_eq_true,if_false,rz,if_true]; omega
    ·rw [if_neg e2]
     cases b with
     | true=>simp only [if_true,rz]; rw [if_neg (by omega)]; omega
     | false=>simp only [Bool.false_eq_true,if_false,rz]; rw [if_neg (by omega)]; omega
  ·rw [if_neg e] at hx
   have:=H.ms k x hk hx l hl
   split <;> omega
theorem SV.step (H:SV m M) (hs:Nl m 1 a m' g) (ha:zU a):g=(exec M a).2∧SV m' (exec M a).1:=by
 cases hs with
 | look i o n h=>
  have hi:i<512:=by rw [←H.hs]; exact h
  have e:exec M ⟨5,i,o,n⟩=(M,⟨M i,true⟩):=by unfold exec; rw [if_pos (.inl rfl)]; rfl
  rw [e]
  exact ⟨by rw [H.top i hi],H.xB hi (Me.Lz (H.ne i hi)) rfl⟩
 | load i q x o n h hx hv=>
  have hi:i<512:=by rw [←H.hs]; exact h
  have e:exec M ⟨1,i,o,n⟩=(M,⟨M i,true⟩):=by unfold exec; rw [if_pos (.inr rfl)]; rfl
  have hq:=(List.getElem?_eq_some_iff.1 hx).1
  have h1:=H.vw i hi
  have h2:=H.ne i hi
  obtain rfl:q=(m.me.at i).length - 1:=by omega
  have ht:m.me.top i=x:=by
   unfold Me.top
   rw [List.getLast?_eq_getElem?,hx]; rfl
  rw [e]
  exact ⟨by rw [←ht,H.top i hi],H.xB hi (List.mem_of_getElem? hx) rfl⟩
 | put i o w wl h=>
  have hi:i<512:=by rw [←H.hs]; exact h
  have hw:Ww w:=ha.w (by cases wl <;> simp)
  have e:exec M ⟨if wl then 4 else 3,i,o,w⟩=(fW M i w,⟨W0,true⟩):=by
   cases wl <;> (unfold exec; dsimp only; rw [if_neg (by decide),if_pos (by decide)]; rfl)
  rw [e]
  exact ⟨rfl,H.add hi hw⟩
 | swap i old new h=>
  have hi:i<512:=by rw [←H.hs]; exact h
  have hw:Ww new:=ha.w (.inr (.inr rfl))
  have e:exec M ⟨6,i,old,new⟩=if M i=old then (fW M i new,⟨M i,true⟩) else (M,⟨M i,false⟩):=by
   unfold exec; dsimp only; rw [if_neg (by decide),if_neg (by decide),if_pos rfl]; rfl
  have hf:=H.xB (j:=true) (q:=(m.me.at i).length - 1) hi (Me.Lz (H.ne i hi)) rfl
  have ht:=H.top i hi
  rw [e]
  by_cases c:M i=old
  ·rw [if_pos c]
   refine ⟨by rw [ht,decide_eq_true c],?_⟩
   have:Me.Qd m.me 1 i old new=(m.me.xB 1 i ((m.me.at i).length - 1) (m.me.top i) true).add 1 i new true:=if_pos (ht.trans c)
   rw [this]
   exact hf.add hi hw
  ·rw [if_neg c]
   refine ⟨by rw [ht,decide_eq_false c],?_⟩
   have:Me.Qd m.me 1 i old new=m.me.xB 1 i ((m.me.at i).length - 1) (m.me.top i) true:=if_neg (fun x=>c (ht.symm.trans x))
   rw [this]
   exact ⟨hf.vs,hf.hs,hf.ne,hf.top,hf.ww,hf.vw,hf.ms⟩
 | flush i o n h=>
  have e:exec M ⟨7,i,o,n⟩=(M,⟨W0,true⟩):=by unfold exec; dsimp only; rw [if_neg (by decide),if_neg (by decide),if_neg (by decide)]
  rw [e]
  exact ⟨rfl,H.vs,H.hs,H.ne,H.top,H.ww,H.vw,H.ms⟩
 | sync p o n=>
  have e:exec M ⟨8,p,o,n⟩=(M,⟨W0,true⟩):=by unfold exec; dsimp only; rw [if_neg (by decide),if_neg (by decide),if_neg (by decide)]
  rw [e]
  exact ⟨rfl,H.vs,H.hs,H.ne,H.top,H.ww,H.vw,H.ms⟩
theorem SV.new {ws:List W3} {G:Nat→W3} (H:Hq G ws) (hw:∀i,Ww (G i)):SV (Mj.new 3 ws) G:=by
 have hlen:=H.len
 have hat:∀i,i<512→(Mj.new 3 ws).me.at i=[⟨G i,fun _=>0⟩]:=fun i hi=>by
  show (ws.map fun w=>[(⟨w,fun _=>0⟩:AM)]).getD i []=_
  rw [List.getD_eq_getElem?_getD,List.getElem?_map,H.at' i hi]; rfl
 refine ⟨Nat.le_trans (by decide:1≤3) (Nat.le_of_eq (List.length_replicate).symm),by show (ws.map _).length=_; rw [List.length_map,hlen],fun i hi=>by rw [hat i hi]; exact Nat.le_refl 1,fun i hi=>?_,hw,fun i hi=>?_,fun i x hi hx l hl=>?_⟩
 ·unfold Me.top
  rw [hat i hi]; rfl
 ·rw [hat i hi]
  rfl
 ·rw [hat i hi,List.mem_singleton] at hx
  subst hx
  rw [hat l hl]
  exact Int.le_refl _
end
end Go.En
namespace Go.En
variable {S:Sys} {I:aZ} {h h0 h':Hp} {F F0:Fp} {R:Value→Hp→Prop} {L:List bQ} {B B':Bs}
abbrev Sg:Type:=CR × (Nat→W3) × Nat
def Nd (I:aZ) (post:Cn→(Nat→W3)→Prop) (B:Bs) (W:bQ) (w:WV) (s:Sg):Prop:=
 ∃(m:Mj) (v:Value) (sp:SH) (gs:List iM) (b:Nat),HC B 3 w m [⟨I.aK,v,s.1.2.2,if s.1.2.2 then mL else s.1.2.1,sp⟩] [gs] [false]∧N7 I B W v s.1.1∧SV m s.2.1∧Ek 3 512 b m∧b+s.2.2≤800000∧gs.length+s.2.2≤800000∧Ends post s.2.2 s.1 s.2.1
theorem Nd.le {post:Cn→(Nat→W3)→Prop} {W:bQ} {w:WV} {s:Sg} (l:B.le B') (H:Nd I post B W w s):Nd I post B' W w s:=by
 obtain ⟨m,v,sp,gs,b,h1,h2,h3⟩ :=H
 exact ⟨m,v,sp,gs,b,h1.le l,h2.le l,h3⟩
theorem Ek.step {m m':Mj} {t n b T:Nat} {a:Ac} {g:iM} (k:Ek T n b m) (h:Nl m t a m' g):Ek T n (b+1) m':=by
 have hn:=k.me.hs
 cases h with
 | look i o n h=>exact ⟨(k.me.xB _ _).up (Nat.le_succ _),k.li.up (Nat.le_succ _)⟩
 | load i q x o n h hx hv=>exact ⟨(k.me.xB _ _).up (Nat.le_succ _),k.li.up (Nat.le_succ _)⟩
 | put i o w wl h=>exact ⟨k.me.add (by omega),k.li.aQ (by omega)⟩
 | swap i old new h=>
  refine ⟨?_,?_⟩
  ·show Mk T n (b+1) (Me.Qd _ _ _ _ _)
   unfold Me.Qd
   split
   ·exact (k.me.xB _ _).add (by omega)
   ·exact (k.me.xB _ _).up (Nat.le_succ _)
  ·show Hx n (b+1) (if _ then _ else _)
   split
   ·exact k.li.aQ (by omega)
   ·exact k.li.up (Nat.le_succ _)
 | flush i o n h=>exact ⟨k.me.up (Nat.le_succ _),(k.li.Hz (by omega)).up (Nat.le_succ _)⟩
 | sync p o n=>exact ⟨k.me.up (Nat.le_succ _),k.li.Hy.up (Nat.le_succ _)⟩
section
variable {post:Cn→(Nat→W3)→Prop} {W:bQ} {w:WV} {s:Sg}
theorem J3 (cs:Wg S I) (hZ:On B Zs) {k:Nat} (hk:k≤100000) (c:Cx F h h [W]) (hB:∀h',Ch F h h'→B.p h') (H:Nd I post B W w s) (hs:s.2.2≤k)
  (hR:∀w' s' W' M h',Cx F h h' [W',aG M]→Nd I post (B.and M) W' w' s'→s'.1.2.2=true→R (.tuple #[FA w',.bool true]) h'):lh S I (FA w) (.int .i64 1) (.int .i64 k) h R:=by
 refine N4 (t:=1) (P:=fun B W w s=>On B Zs∧Nd I post B W w s) (done:=fun s=>s.1.2.2) (rk:=fun s=>s.2.2) cs.toPp (fun {B B'} l {W w s} H=>⟨H.1.le l,H.2.le l⟩) (by omega) (Nat.le_refl 1) (fun H=>?_) (fun {B W w s} h F R c hB H hd hR=>?_) (fun {B W w s} h R b0 H hd hR=>?_) (fun {B W w s} H hz=>?_) c hB ⟨hZ,H⟩ hs fun w' s' W' M h' c' H' hd=>hR w' s' W' M h' c' H'.2 hd
 ·obtain ⟨_,m,v,sp,gs,b,h1,h2,h3⟩ :=H
  exact ⟨3,m,_,_,_,_,h1,by simp,rfl,rfl,rfl⟩
 ·obtain ⟨hZ,m,v,sp,gs,b,h1,h2,h3,h4,h5,h6,h7⟩ :=H
  obtain ⟨⟨cn,a,d⟩,M,n⟩ :=s
  dsimp only at hd h1 h2 h3 h5 h6 h7
  subst hd
  cases h7 with
  | step ha hc he=>
   rename_i k'
   refine cs.JS (RN (t:=1) (n:=512) (b:=b) (tk:=⟨I.aK,v,false,a,sp⟩) (gs:=gs) (Q:=fun m' g B W v' a' d'=>g=(exec M a).2∧SV m' (exec M a).1∧Ek 3 512 (b+1) m'∧a'=(kL cn (exec M a).2).2.1∧d'=(kL cn (exec M a).2).2.2∧N7 I B W v' (kL cn (exec M a).2).1) cs.toPp c hB h1 h4 (by omega) (show 1≤3 by decide) (Nat.le_refl 1) rfl rfl rfl (by omega) rfl ha.ok ha.old ha.nw (fun h5 i hi=>?_) cs.ca.Uh (fun {m' g B B'} l {W v a d} H=>⟨H.1,H.2.1,H.2.2.1,H.2.2.2.1,H.2.2.2.2.1,H.2.2.2.2.2.le l⟩) (fun m' g hst B' l=>?_) fun m' g w' v' a' d' s' W' N h' hst c' hq hwo=>?_)
   ·have h5:a.op=1:=h5
    have hi:a.at'=i:=hi
    rcases ha.ok with e | ⟨_,e1,e2⟩
    ·omega
    ·rw [h3.vw i (by omega)]; exact Int.le_refl _
   ·obtain ⟨eg,hsv⟩ :=h3.step hst ha
    subst eg
    refine fun h F R c hB hR=>cs.ca.GQ (Oa cs.ca (hZ.le l) (h2.le l) hc ?_ c hB fun v' W' N h' c' ok=>?_)
    ·unfold exec
     have w0:Ww W0:=⟨⟨by decide,by decide⟩,⟨by decide,by decide⟩,⟨by decide,by decide⟩⟩
     split
     ·exact h3.ww _
     ·split
      ·exact w0
      ·split
       ·split
        ·exact h3.ww _
        ·exact h3.ww _
       ·exact w0
    ·exact hR v' _ _ W' N h' c' ⟨rfl,hsv,h4.step hst,rfl,rfl,ok⟩
   ·obtain ⟨q1,q2,q3,q4,q5,q6⟩ :=hq
    subst q1 q4 q5
    refine hR w' (kL cn (exec M a).2,(exec M a).1,k') W' N h' c' ⟨hZ.le (Bs.aR _ _),m',v',s',gs++[(exec M a).2],b+1,hwo,q6,q2,q3,by dsimp only; omega,by rw [List.length_append,List.length_singleton]; dsimp only; omega,he⟩ (Nat.lt_succ_self _)
 ·obtain ⟨_,m,v,sp,gs,b,h1,h2,h3,h4,_⟩ :=H
  refine cs.JS (L0 (z:=1) (n:=512) (b:=b) cs.toPp b0 h1 h4 (by decide) (by simp) (by decide) (.inl fun t ht e=>?_) hR)
  obtain rfl:t=1:=by omega
  exact ⟨_,_,rfl,rfl,.inr hd⟩
 ·obtain ⟨_,m,v,sp,gs,b,h1,h2,h3,h4,h5,h6,h7⟩ :=H
  obtain ⟨⟨cn,a,d⟩,M,n⟩ :=s
  have hz:n=0:=hz
  subst hz
  have h7:Ends post 0 (cn,a,d) M:=h7
  cases h7 with
  | done=>rfl
end
end Go.En
namespace Go.En
variable {S:Sys} {I:aZ} {h h0 h':Hp} {F F0:Fp} {R:Value→Hp→Prop} {L:List bQ} {B B':Bs}
section
variable {opss:List (List m9)} {us:List SH} {vo:Value} {w:SH} {np:Nat}
theorem Kd (b0:B.p h) (hv:On B fun h=>Sl xE h vo us) (hl:us.length=opss.length) (hlm:us.length≤1000000000) (ho:∀(i:Nat) u ops,us[i]?=some u→opss[i]?=some ops→um B u ops) (hw:∀h,B.p h→lu (aX w)=some (.int .i64 np))
  (hR:∀b,(b=false→opss.length≤3∧∀ops∈opss,ops.length≤8)→∀h',Gr h h'→R (.bool b) h'):kx S I vo (aX w) h R:=by
 unfold kx
 have c:=Cx.aA h
 refine Az.by (fun (i:Nat) x z h'=>z=.int .i64 i∧i≤opss.length∧i≤4∧(∃y:Int,x=.int .i64 y)∧(∀ops∈opss.take i,ops.length≤8)∧Cx (fun _=>False) h h' []) (fun i=>4 - i) 0 ⟨rfl,Nat.zero_le _,by decide,⟨0,rfl⟩,(fun ops h=>by simp at h),c⟩ ?_
 rintro i _ _ h1' ⟨rfl,hi,hi4,⟨y,rfl⟩,hall,c⟩ again hagain
 refine lq.at (fun v h'=>v=.bool (decide (i<opss.length∧i<4))∧Cx (fun _=>False) h h' []) ?_ ?_
 ·refine vx (hv _ (B.up b0 c.gr)).ln<|vx cH<|pC (fun e12=>?_) fun e12=>?_
  ·refine vx cH ?_
   first | exact ⟨congrArg Value.bool (decide_eq_decide.2 ⟨fun e=>⟨by omega,by omega⟩,fun e=>by omega⟩),c⟩ | exact ⟨by rw [decide_eq_false (show ¬(i<opss.length∧i<4) by omega)],c⟩
  ·first | exact ⟨congrArg Value.bool (decide_eq_decide.2 ⟨fun e=>⟨by omega,by omega⟩,fun e=>by omega⟩),c⟩ | exact ⟨by rw [decide_eq_false (show ¬(i<opss.length∧i<4) by omega)],c⟩
 ·rintro _ h7 ⟨rfl,c⟩
  replace c:=c.n0
  refine pC (fun e16=>?_) fun e16=>?_
  ·have hx:=List.getElem?_eq_getElem (l:=us) (i:=i) (by omega)
   have hy:=List.getElem?_eq_getElem (l:=opss) (i:=i) (by omega)
   have ht1:opss.take (i+1)=opss.take i++[opss[i]'(by omega)]:=by rw [List.take_add_one,hy]; rfl
   generalize us[i]'(by omega)=u at hx
   generalize opss[i]'(by omega)=ops at hy ht1
   have hO:=ho i u ops hx hy
   refine (hv _ (B.up b0 c.gr)).one rfl hx rfl (u:=aX u) rfl ?_
   refine vx (hO.ln (B.up b0 c.gr))<|vx pP<|pC (fun e24=>?_) fun e24=>?_
   ·exact hR true (fun h=>by cases h) _ c.gr
   ·refine (hv _ (B.up b0 c.gr)).one rfl hx rfl (u:=aX u) rfl ?_
    refine vx (hO.ln (B.up b0 c.gr)) ?_
    obtain ⟨us2,a1,a2,a3⟩ :=hO
    refine Az.by (fun (j:Nat) x z h'=>z=.int .i64 j∧j≤ops.length∧(∃y:Int,x=.int .i64 y)∧Cx (fun _=>False) h h' []) (fun j=>ops.length - j) 0 ⟨rfl,Nat.zero_le _,⟨_,rfl⟩,c⟩ ?_
    rintro j _ _ h3' ⟨rfl,hj,⟨y2,rfl⟩,c⟩ again1 hagain1
    refine vx cH<|pC (fun e31=>?_) fun e31=>?_
    ·have hx2:=List.getElem?_eq_getElem (l:=us2) (i:=j) (by omega)
     have hy2:=List.getElem?_eq_getElem (l:=ops) (i:=j) (by omega)
     generalize us2[j]'(by omega)=e2 at hx2
     generalize ops[j]'(by omega)=o at hy2
     obtain ⟨d2,p2⟩ :=e2
     have hp2:=(a3 j _ o hx2 hy2).2
     refine (a1 _ (B.up b0 c.gr)).whole rfl hx2 rfl ?_
     refine c.v2 fun _ _ c=>?_
     refine c.w2 0 fun _ c=>?_
     refine aD<|c.rc 0 ?_
     exact vx (hp2 _ (B.up b0 c.gr)).ln<|vx (qo _ _)<|vx (qo _ _)<|vx (inc (by omega))<|hagain1 (j+1) _ _ _ ⟨rfl,by omega,⟨_,rfl⟩,c.pick []⟩ (by omega)
    ·refine vx (inc (by omega))<|hagain (i+1) _ _ _ ⟨rfl,by omega,by omega,⟨_,rfl⟩,fun ops' h=>?_,c⟩ (by omega)
     rw [ht1] at h
     rcases List.mem_append.1 h with h | h
     ·exact hall ops' h
     ·rw [List.mem_singleton] at h
      subst h
      omega
  ·refine .here<|vx (hv _ (B.up b0 c.gr)).ln<|vx pP<|pC (fun e43=>?_) fun e43=>?_
   ·first | exact hR true (fun h=>by cases h) _ c.gr | exact hR _ (fun _=>⟨by omega,fun ops h=>hall ops (by rw [List.take_of_length_le (by omega)]; exact h)⟩) _ c.gr
   ·refine vx pP<|pC (fun e46=>?_) fun e46=>?_
    ·first | exact hR true (fun h=>by cases h) _ c.gr | exact hR _ (fun _=>⟨by omega,fun ops h=>hall ops (by rw [List.take_of_length_le (by omega)]; exact h)⟩) _ c.gr
    ·refine vx (hw _ (B.up b0 c.gr))<|vx pP ?_
     first | exact hR true (fun h=>by cases h) _ c.gr | exact hR _ (fun _=>⟨by omega,fun ops h=>hall ops (by rw [List.take_of_length_le (by omega)]; exact h)⟩) _ c.gr
end
end Go.En
namespace Go.En
variable {S:Sys} {I:aZ} {h h0 h':Hp} {F F0:Fp} {R:Value→Hp→Prop} {L:List bQ} {B B':Bs}
structure CcG (S:Sys) (I:aZ):Prop extends Wg S I where
 B3:∀{x y z:Value} {h R},kP S I x y z h R→S.C I.fK [x,y,z] h R
 GA:∀{x y z:Value} {h R},lh S I x y z h R→S.C I.jC [x,y,z] h R
theorem Nd.make {post:Cn→(Nat→W3)→Prop} {du:Bool} {u:SH} {ops:List m9} {tks:List Tk} {Ws:List bQ} {w:WV} {ws:List W3} {G:Nat→W3} {k:Nat} (hbeg:Q4 (qC I du [ops]) B (Be I du [u]) tks Ws) (hwo:HC B 3 w (Mj.new 3 ws) tks [[]] [false]) (ht:tks.length=1) (hw:Ws.length=1) (hF:Hq G ws) (hG:∀i,Ww (G i)) (he:Ends post k (kL (He du 0 ops) qY) G) (hk:k≤700000) :
  ∃W,Ws=[W]∧Nd I post B W w (kL (He du 0 ops) qY,G,k):=by
 obtain ⟨tk,rfl⟩ :=List.length_eq_one_iff.1 ht
 obtain ⟨W,rfl⟩ :=List.length_eq_one_iff.1 hw
 refine ⟨W,rfl,?_⟩
 obtain ⟨a,cc,q1,q2,⟨ops',p1,p2,p3,p4⟩,q4,q5⟩ :=hbeg 0 tk W rfl rfl
 obtain ⟨tt,tv,td,ta,ts⟩ :=tk
 dsimp only at q2 p3 p4 q4 q5
 have p1:some ops=some ops':=p1
 injection p1 with p1
 subst p1 p2 p3 q5
 have q4':=q4
 clear q4
 have q1:some (I.aK,C8 (Wn du 0 u))=some cc:=q1
 injection q1 with q1
 subst q1 q2
 have kk:=Ek.new (T:=3) (ws:=ws) (by decide) (by rw [hF.len]; decide)
 rw [hF.len] at kk
 refine ⟨_,tv,(none,0,0),[],1,?_,p4,SV.new hF hG,kk,by dsimp only; omega,by dsimp only [List.length_nil]; omega,he⟩
 rw [q4'] at hwo
 exact hwo
section
variable {post:Cn→(Nat→W3)→Prop}
def VW:List Pt:=[⟨0,-1,true⟩,⟨1,1,true⟩]
def Nv:List m9:=[⟨1,VW⟩]
theorem JB (cs:CcG S I) (hZ:Zs h) (hk:Ht (He false 0 Nv) qY) (he:Ends (fun _ M=>M 56=⟨4,1,0⟩ ∧M 57=⟨1,1,0⟩) 500 (kL (He false 0 Nv) qY) (CJ [5,0] 2)) (hG:∀i,Ww (CJ [5,0] 2 i))
  (hR:∀h',Gr h h'→R (.bool true) h'):kq S I h R:=by
 unfold kq
 have c:=Cx.aA h
 refine c.X5 EI8 [5,0] [.int .i8 5,.int .i8 0] rfl rfl rfl (fun u hu=>by simp only [List.mem_cons,List.not_mem_nil,or_false] at hu; rcases hu with rfl | rfl <;> rfl) rfl fun ad _ c=>?_
 obtain ⟨uf,huf⟩:∃u:SH,aX u=.slice (some ad) 2 2:=⟨(some ad,2,2),rfl⟩
 rw [←huf] at c⊢
 replace c:=c.n1
 refine vx (aL (ds:=[_,_,_]) rfl)<|vx (aL (ds:=[_,_,_]) rfl)<|c.X5 Dj VW [.agg ⟨Dj.c ⟨0,-1,true⟩⟩,.agg ⟨Dj.c ⟨1,1,true⟩⟩] rfl rfl rfl (fun u hu=>by simp only [List.mem_cons,List.not_mem_nil,or_false] at hu; rcases hu with rfl | rfl <;> rfl) rfl fun ad2 _ c=>?_
 obtain ⟨up,hup⟩:∃u:SH,aX u=.slice (some ad2) 2 2:=⟨(some ad2,2,2),rfl⟩
 rw [←hup] at c⊢
 replace c:=c.n2
 refine vx (aL (ds:=[_,_]) rfl)<|c.jE EMx (1,up) rfl rfl fun qW _ c=>?_
 obtain ⟨uo,rfl⟩ :=(c.sl (i:=2) rfl).vO
 replace c:=c.n3
 refine c.jE xE uo rfl rfl fun TJ _ c=>?_
 obtain ⟨ul,rfl⟩ :=(c.sl (i:=3) rfl).vO
 replace c:=c.n4
 have c:=Cx.pack (L:=[]) (M:=[dA EI8 (aX uf) [5,0],dA Dj (aX up) VW,dA EMx (aX uo) [((1:Int),up)],dA xE (aX ul) [uo]]) c
 generalize hA:[dA EI8 (aX uf) [5,0],dA Dj (aX up) VW,dA EMx (aX uo) [((1:Int),up)],dA xE (aX ul) [uo]]=A at c
 have b1:((Bs.of h).and A).p _:=⟨c.gr,c.get (i:=0) rfl⟩
 have hops:um ((Bs.of h).and A) uo Nv:=⟨[((1:Int),up)],by rw [←hA]; exact On.sl (i:=2) rfl,rfl,fun i a o h1 h2=>by
  have hi:=(List.getElem?_eq_some_iff.1 h1).1
  obtain rfl:i=0:=by simp at hi; exact hi
  simp only [List.getElem?_cons_zero,Option.some.injEq,Nv] at h1 h2
  subst h1 h2
  exact ⟨rfl,by rw [←hA]; exact On.sl (i:=1) rfl⟩⟩
 refine cs.B3 (Cz (B:=(Bs.of h).and A) (first:=[5,0]) (du:=false) (us:=[uo]) (opss:=[Nv]) cs.toYp b1 (fun h' b=>hZ.gr b.1) (by rw [←hA]; exact On.sl (i:=0) rfl) (by decide) (by decide) (by rw [←hA]; exact On.sl (i:=3) rfl) (show 1≤3 by decide) rfl (fun i u ops h1 h2=>by
  have hi:=(List.getElem?_eq_some_iff.1 h1).1
  obtain rfl:i=0:=by simp at hi; exact hi
  simp only [List.getElem?_cons_zero,Option.some.injEq] at h1 h2
  subst h1 h2
  exact hops) (fun i ops h2=>by
  have hi:=(List.getElem?_eq_some_iff.1 h2).1
  obtain rfl:i=0:=by simp at hi; exact hi
  simp only [List.getElem?_cons_zero,Option.some.injEq] at h2
  subst h2
  exact hk) fun ws w tks Ws M _ hF ht hw d hbeg hwo=>?_)
 have c:=c.aE d
 obtain ⟨W,rfl,hS⟩ :=Nd.make (k:=500) hbeg hwo ht hw hF hG he (by decide)
 have c:=Cx.unpack (L:=[_,_]) c
 have c:=Cx.pack (L:=[_]) (M:=[aG A,aG M]) (c.pick [2,0,1])
 replace c:=c.n2
 refine vx rfl<|vx (v:=.bool true) (rfl)<|c.v9 fun w1_ _ c=>?_
 refine c.w9 2 fun _ c=>?_
 refine c.rl 2 ?_
 obtain ⟨F',d',hM,up2⟩ :=c.Iv (B:=Bs.of h) (i:=0) (j:=1) (fun h'' g=>g) rfl rfl (by decide)
 refine cs.GA (J3 (k:=500) (B:=(Bs.of h).and [aG A,aG M]) cs.toWg (fun h' b=>hZ.gr b.1) (by decide) d' hM (hS.le Bs.MA) (Nat.le_refl _) fun w' s' W' N _ dd hS' hd=>?_)
 have c:=up2 dd
 obtain ⟨m,v,sp,gs,b,hwo2,hcn,hsv,hkk,hb1,hb2,hen⟩ :=hS'
 have hpost:s'.2.1 56=⟨4,1,0⟩ ∧s'.2.1 57=⟨1,1,0⟩ :=by
  obtain ⟨⟨cn,a,d⟩,M',n⟩ :=s'
  have hd:d=true:=hd
  subst hd
  have hen:Ends (fun _ M=>M 56=⟨4,1,0⟩ ∧M 57=⟨1,1,0⟩) n (cn,a,true) M':=hen
  cases hen with
  | done hp=>exact hp
 have t56:=(hsv.top 56 (by decide)).trans hpost.1
 have t57:=(hsv.top 57 (by decide)).trans hpost.2
 replace c:=c.n4
 refine vx rfl<|vx (v:=.bool true) (rfl)<|c.v9 fun x3_ _ c=>?_
 refine c.w9 4 fun _ c=>?_
 refine lq.at (fun v h'=>∃ra,v=cA ra∧Cx (fun _=>False) h h' [W',aG [aG A,aG M],rV w1_ (Np w),aG N,rV x3_ (Np w'),rV ra (cW ⟨4,1,0⟩)]) ?_ ?_
 ·refine aD<|vx (c.vp (i:=4) (ds:=[_,_,_,_,_,_,_]) rfl rfl rfl)<|⟨?_,?_⟩
  ·refine cs.Kx fun _ g=>?_
   have c:=c.more g
   refine And.intro (c.vp (i:=4) (ds:=[_,_,_,_,_,_,_]) rfl rfl rfl) ?_
   refine ⟨?_,?_⟩
   ·refine cs.ca.cell (i:=0) _ _ (hZ.gr c.gr) fun _ g=>?_
    have c:=c.more g
    rw [show ux 0=((56:Nat):Int) from rfl]
    refine And.intro (c.vp (i:=4) (ds:=[_,_,_,_,_,_,_]) rfl rfl rfl) ?_
    refine ⟨?_,?_⟩
    ·refine cs.z7 (sH (B:=((Bs.of h).and [aG A,aG M]).and N) (v:=w'.m) cs.toXD ⟨⟨c.gr,c.get (i:=1) rfl⟩,c.get (i:=3) rfl⟩ hwo2.ko.ko (hkk.kk hwo2.ko) (by omega) (i:=56) (by decide) fun _ g=>?_)
     have c:=c.more g
     rw [show (hwo2.ko.mc.me.top 56).w=⟨4,1,0⟩ from t56]
     refine vx rfl<|vx rfl<|c.v3 fun _ _ c=>?_
     refine c.w3 5 fun _ c=>?_
     exact ⟨_,rfl,c.pick [0,1,2,3,4,5]⟩
    ·refine c.v3 fun _ _ c=>?_
     refine And.intro (c.vp (i:=4) (ds:=[_,_,_,_,_,_,_]) rfl rfl rfl) ?_
     refine cs.z7 (sH (B:=((Bs.of h).and [aG A,aG M]).and N) (v:=w'.m) cs.toXD ⟨⟨c.gr,c.get (i:=1) rfl⟩,c.get (i:=3) rfl⟩ hwo2.ko.ko (hkk.kk hwo2.ko) (by omega) (i:=56) (by decide) fun _ g=>?_)
     have c:=c.more g
     rw [show (hwo2.ko.mc.me.top 56).w=⟨4,1,0⟩ from t56]
     refine vx rfl<|vx rfl<|c.w3 5 fun _ c=>?_
     exact ⟨_,rfl,c.pick [0,1,2,3,4,5]⟩
   ·refine c.v3 fun _ _ c=>?_
    refine And.intro (c.vp (i:=4) (ds:=[_,_,_,_,_,_,_]) rfl rfl rfl) ?_
    refine cs.ca.cell (i:=0) _ _ (hZ.gr c.gr) fun _ g=>?_
    have c:=c.more g
    rw [show ux 0=((56:Nat):Int) from rfl]
    refine And.intro (c.vp (i:=4) (ds:=[_,_,_,_,_,_,_]) rfl rfl rfl) ?_
    refine cs.z7 (sH (B:=((Bs.of h).and [aG A,aG M]).and N) (v:=w'.m) cs.toXD ⟨⟨c.gr,c.get (i:=1) rfl⟩,c.get (i:=3) rfl⟩ hwo2.ko.ko (hkk.kk hwo2.ko) (by omega) (i:=56) (by decide) fun _ g=>?_)
    have c:=c.more g
    rw [show (hwo2.ko.mc.me.top 56).w=⟨4,1,0⟩ from t56]
    refine vx rfl<|vx rfl<|c.w3 5 fun _ c=>?_
    exact ⟨_,rfl,c.pick [0,1,2,3,4,5]⟩
  ·refine c.v3 fun _ _ c=>?_
   refine And.intro (c.vp (i:=4) (ds:=[_,_,_,_,_,_,_]) rfl rfl rfl) ?_
   refine cs.Kx fun _ g=>?_
   have c:=c.more g
   refine And.intro (c.vp (i:=4) (ds:=[_,_,_,_,_,_,_]) rfl rfl rfl) ?_
   refine cs.ca.cell (i:=0) _ _ (hZ.gr c.gr) fun _ g=>?_
   have c:=c.more g
   rw [show ux 0=((56:Nat):Int) from rfl]
   refine And.intro (c.vp (i:=4) (ds:=[_,_,_,_,_,_,_]) rfl rfl rfl) ?_
   refine cs.z7 (sH (B:=((Bs.of h).and [aG A,aG M]).and N) (v:=w'.m) cs.toXD ⟨⟨c.gr,c.get (i:=1) rfl⟩,c.get (i:=3) rfl⟩ hwo2.ko.ko (hkk.kk hwo2.ko) (by omega) (i:=56) (by decide) fun _ g=>?_)
   have c:=c.more g
   rw [show (hwo2.ko.mc.me.top 56).w=⟨4,1,0⟩ from t56]
   refine vx rfl<|vx rfl<|c.w3 5 fun _ c=>?_
   exact ⟨_,rfl,c.pick [0,1,2,3,4,5]⟩
 ·rintro _ h11 ⟨ra,rfl,c⟩
  replace c:=c.n6
  refine lq.at (fun v h'=>∃rb,v=cA rb∧Cx (fun _=>False) h h' [W',aG [aG A,aG M],rV w1_ (Np w),aG N,rV x3_ (Np w'),rV ra (cW ⟨4,1,0⟩),rV rb (cW ⟨1,1,0⟩)]) ?_ ?_
  ·refine aD<|vx (c.vp (i:=4) (ds:=[_,_,_,_,_,_,_]) rfl rfl rfl)<|⟨?_,?_⟩
   ·refine cs.Kx fun _ g=>?_
    have c:=c.more g
    refine And.intro (c.vp (i:=4) (ds:=[_,_,_,_,_,_,_]) rfl rfl rfl) ?_
    refine ⟨?_,?_⟩
    ·refine cs.ca.cell (i:=1) _ _ (hZ.gr c.gr) fun _ g=>?_
     have c:=c.more g
     rw [show ux 1=((57:Nat):Int) from rfl]
     refine And.intro (c.vp (i:=4) (ds:=[_,_,_,_,_,_,_]) rfl rfl rfl) ?_
     refine ⟨?_,?_⟩
     ·refine cs.z7 (sH (B:=((Bs.of h).and [aG A,aG M]).and N) (v:=w'.m) cs.toXD ⟨⟨c.gr,c.get (i:=1) rfl⟩,c.get (i:=3) rfl⟩ hwo2.ko.ko (hkk.kk hwo2.ko) (by omega) (i:=57) (by decide) fun _ g=>?_)
      have c:=c.more g
      rw [show (hwo2.ko.mc.me.top 57).w=⟨1,1,0⟩ from t57]
      refine vx rfl<|vx rfl<|c.v3 fun _ _ c=>?_
      refine c.w3 6 fun _ c=>?_
      exact ⟨_,rfl,c.pick [0,1,2,3,4,5,6]⟩
     ·refine c.v3 fun _ _ c=>?_
      refine And.intro (c.vp (i:=4) (ds:=[_,_,_,_,_,_,_]) rfl rfl rfl) ?_
      refine cs.z7 (sH (B:=((Bs.of h).and [aG A,aG M]).and N) (v:=w'.m) cs.toXD ⟨⟨c.gr,c.get (i:=1) rfl⟩,c.get (i:=3) rfl⟩ hwo2.ko.ko (hkk.kk hwo2.ko) (by omega) (i:=57) (by decide) fun _ g=>?_)
      have c:=c.more g
      rw [show (hwo2.ko.mc.me.top 57).w=⟨1,1,0⟩ from t57]
      refine vx rfl<|vx rfl<|c.w3 6 fun _ c=>?_
      exact ⟨_,rfl,c.pick [0,1,2,3,4,5,6]⟩
    ·refine c.v3 fun _ _ c=>?_
     refine And.intro (c.vp (i:=4) (ds:=[_,_,_,_,_,_,_]) rfl rfl rfl) ?_
     refine cs.ca.cell (i:=1) _ _ (hZ.gr c.gr) fun _ g=>?_
     have c:=c.more g
     rw [show ux 1=((57:Nat):Int) from rfl]
     refine And.intro (c.vp (i:=4) (ds:=[_,_,_,_,_,_,_]) rfl rfl rfl) ?_
     refine cs.z7 (sH (B:=((Bs.of h).and [aG A,aG M]).and N) (v:=w'.m) cs.toXD ⟨⟨c.gr,c.get (i:=1) rfl⟩,c.get (i:=3) rfl⟩ hwo2.ko.ko (hkk.kk hwo2.ko) (by omega) (i:=57) (by decide) fun _ g=>?_)
     have c:=c.more g
     rw [show (hwo2.ko.mc.me.top 57).w=⟨1,1,0⟩ from t57]
     refine vx rfl<|vx rfl<|c.w3 6 fun _ c=>?_
     exact ⟨_,rfl,c.pick [0,1,2,3,4,5,6]⟩
   ·refine c.v3 fun _ _ c=>?_
    refine And.intro (c.vp (i:=4) (ds:=[_,_,_,_,_,_,_]) rfl rfl rfl) ?_
    refine cs.Kx fun _ g=>?_
    have c:=c.more g
    refine And.intro (c.vp (i:=4) (ds:=[_,_,_,_,_,_,_]) rfl rfl rfl) ?_
    refine cs.ca.cell (i:=1) _ _ (hZ.gr c.gr) fun _ g=>?_
    have c:=c.more g
    rw [show ux 1=((57:Nat):Int) from rfl]
    refine And.intro (c.vp (i:=4) (ds:=[_,_,_,_,_,_,_]) rfl rfl rfl) ?_
    refine cs.z7 (sH (B:=((Bs.of h).and [aG A,aG M]).and N) (v:=w'.m) cs.toXD ⟨⟨c.gr,c.get (i:=1) rfl⟩,c.get (i:=3) rfl⟩ hwo2.ko.ko (hkk.kk hwo2.ko) (by omega) (i:=57) (by decide) fun _ g=>?_)
    have c:=c.more g
    rw [show (hwo2.ko.mc.me.top 57).w=⟨1,1,0⟩ from t57]
    refine vx rfl<|vx rfl<|c.w3 6 fun _ c=>?_
    exact ⟨_,rfl,c.pick [0,1,2,3,4,5,6]⟩
  ·rintro _ h12 ⟨rb,rfl,c⟩
   replace c:=c.n7
   refine .here<|eR<|eR<|c.rl 5 ?_
   refine vx (aL (ds:=[_,_,_]) rfl)<|vx (IE rfl)<|eR<|c.rl 6 ?_
   exact vx (aL (ds:=[_,_,_]) rfl)<|vx (IE rfl)<|hR _ c.gr
end
end Go.En
namespace Go.En
variable {S:Sys} {I:aZ} {h h0 h':Hp} {F F0:Fp} {R:Value→Hp→Prop} {L:List bQ} {B B':Bs}
structure Yb (S:Sys) (I:aZ):Prop extends CcG S I where
 FZ:∀{h R},kq S I h R→S.C I.kz [] h R
 Gd:∀{x y:Value} {h R},kx S I x y h R→S.C I.kC [x,y] h R
 Kh:∀{x:Value} {h R},jT S I x h R→S.C I.jX [x] h R
 JG:∀{x:Value} {h R},km S I x h R→S.C I.gM [x] h R
 U3:∀{x y:Value} {h R},jQ S I x y h R→S.C I.gE [x,y] h R
 SI:∀{x y:Value} {h R},lH S I x y h R→S.C I.lO [x,y] h R
def iP (d:Nat) (ops:List m9):List m9:=ops.map fun o=>⟨d,o.ps⟩
def K1 (n:Nat) (fin:Nat→W3) (c:Cn) (M:Nat→W3):Prop:=c.done=List.replicate n true∧c.broken=false∧∀i:Nat,i<512→qD i=true→M i=fin i
theorem QR {m1 m2:Mj} {M1 M2:Nat→W3} (h1:SV m1 M1) (h2:SV m2 M2) (h:∀i:Nat,i<512→qD i=true→M1 i=M2 i):uH m1.words=uH m2.words:=by
 unfold uH
 refine List.ext_getElem (by rw [List.length_mapIdx,List.length_mapIdx,Mj.pR,Mj.pR,h1.hs,h2.hs]) fun i a b=>?_
 rw [List.length_mapIdx,Mj.pR,h1.hs] at a
 rw [List.getElem_mapIdx,List.getElem_mapIdx]
 have e1:=Mj.yR (m:=m1) (i:=i) (by rw [h1.hs]; exact a)
 have e2:=Mj.yR (m:=m2) (i:=i) (by rw [h2.hs]; exact a)
 have e1:=(List.getElem?_eq_some_iff.1 e1).2
 have e2:=(List.getElem?_eq_some_iff.1 e2).2
 rw [e1,e2,h1.top i a,h2.top i a]
 split
 ·rename_i hm; exact h i a hm
 ·rfl
section
variable {first:List Int} {ops:List m9} {vf:Value} {u:SH} {du:Bool}
theorem FY {us:List (Int × SH)} {one:SH} {d:Nat} {A:List bQ} (hl:us.length=ops.length) (hus:∀(i:Nat) (a:Int × SH) (o:m9),us[i]?=some a→ops[i]?=some o→On (Bs.of h) fun h=>Sl Dj h (aX a.2) o.ps) (h1:On ((Bs.of h).and A) fun h=>Sl EMx h (aX one) (us.map fun x=>((d:Int),x.2))):um ((Bs.of h).and A) one (iP d ops):=by
 refine ⟨_,h1,by unfold iP; rw [List.length_map,List.length_map,hl],fun i a o e1 e2=>?_⟩
 unfold iP at e2
 rw [List.getElem?_map] at e1 e2
 cases hu:us[i]? with
 | none=>rw [hu] at e1; cases e1
 | some x=>
  cases ho:ops[i]? with
  | none=>rw [ho] at e2; cases e2
  | some y=>
   rw [hu] at e1
   rw [ho] at e2
   simp only [Option.map_some,Option.some.injEq] at e1 e2
   subst e1 e2
   exact ⟨rfl,(hus i x y hu ho).le (Bs.aR _ _)⟩
theorem Nd.ends {n:Nat} {fin:Nat→W3} {W:bQ} {w:WV} {s:Sg} (H:Nd I (K1 n fin) B W w s) (hd:s.1.2.2=true) :
  ∃(m:Mj) (x:Cc) (sp:SH) (gs:List iM) (M:Nat→W3) (b:Nat),HC B 3 w m [⟨I.aK,C8 x,true,mL,sp⟩] [gs] [false]∧x.br=false∧x.now.oneCell'=true∧(On B fun h=>Sl P7 h (aX x.dn) (List.replicate n true))∧SV m M∧Ek 3 512 b m∧b≤800000∧∀i:Nat,i<512→qD i=true→M i=fin i:=by
 obtain ⟨m,v,sp,gs,b,h1,⟨x,rfl,hx,hn⟩,h3,h4,h5,h6,h7⟩ :=H
 obtain ⟨⟨cn,a,d⟩,M,k⟩ :=s
 have hd:d=true:=hd
 subst hd
 have h7:Ends (K1 n fin) k (cn,a,true) M:=h7
 cases h7 with
 | done hp=>
  obtain ⟨p1,p2,p3⟩ :=hp
  refine ⟨m,x,sp,gs,M,b,h1,hx.br.trans p2,?_,by rw [←p1]; exact hx.dn,h3,h4,by dsimp only at h5; omega,p3⟩
  cases hq:cn.now with
  | none=>
   have hn:VZ I B W x.now cn.now:=hn
   rw [hq] at hn
   rw [hn.1]; rfl
  | some d=>
   have hn:VZ I B W x.now cn.now:=hn
   rw [hq] at hn
   exact Ff.one hn
theorem Vj (cs:Yb S I) (hZ:Zs h) (hf:Sl EI8 h vf first) (hfr:∀z∈first,-128≤z∧z≤127) (hfl:first.length≤9223372036854775807) (ho:um (Bs.of h) u ops)
  (hka:Ht (He false 0 Nv) qY) (hea:Ends (fun _ M=>M 56=⟨4,1,0⟩ ∧M 57=⟨1,1,0⟩) 500 (kL (He false 0 Nv) qY) (CJ [5,0] 2)) (hGa:∀i,Ww (CJ [5,0] 2 i))
  (hG:∀i,Ww (CJ first (min first.length 6) i)) {n:Nat} (hn8:ops.length≤8→n≤1000) {fin:Nat→W3} (hfin:∀i:Nat,i<512→qD i=true→(fin i).ref=0)
  (hP:ops.length≤8→∀d,d=0∨d=1→Ht (He du 0 (iP d ops)) qY∧Ends (K1 n fin) 20000 (kL (He du 0 (iP d ops)) qY) (CJ first (min first.length 6)))
  (hR:∀h',Gr h h'→R (.bool true) h'):fD S I vf (aX u) (.bool du) h R:=by
 obtain ⟨us,o1,o2,o3⟩ :=id ho
 have hone:∀(ops':SH) (d:Nat) (A:List bQ),(∀(i:Nat) u' ops2,[ops'][i]?=some u'→[iP d ops][i]?=some ops2→True):=fun _ _ _ _ _ _ _ _=>trivial
 unfold fD
 have c:=Cx.aA h
 refine cs.FZ (JB cs.toCcG (hZ.gr c.gr) hka hea hGa fun _ g=>?_)
 have c:=c.more g
 refine vx (v:=.bool false) (rfl)<|bD<|c.jE xE u rfl rfl fun v28 _ c=>?_
 replace c:=c.n1
 have c:=Cx.pack (L:=[]) (M:=[_]) c
 refine cs.Gd (Kd (B:=(Bs.of h).and [dA xE v28 [u]]) (us:=[u]) (opss:=[ops]) (w:=(none,0,0)) (np:=0) ⟨c.gr,c.get (i:=0) rfl⟩ (On.sl (i:=0) rfl) rfl (show 1≤1000000000 by decide) (fun i u' ops' h1 h2=>?_) (fun _ _=>rfl) fun bg hbg _ g=>?_)
 ·have hi:=(List.getElem?_eq_some_iff.1 h1).1
  obtain rfl:i=0:=by simp at hi; exact hi
  simp only [List.getElem?_cons_zero,Option.some.injEq] at h1 h2
  subst h1 h2
  exact ho.le (Bs.aR _ _)
 have c:=c.more g
 replace c:=c.n1
 refine En.br (fun e29=>?_) fun e29=>?_
 ·exact hR _ c.gr
 ·have hg8:ops.length≤8:=(hbg e29).2 ops (by simp)
  have hn8:=hn8 hg8
  obtain ⟨hP0,hE0⟩ :=hP hg8 0 (.inl rfl)
  obtain ⟨hP1,hE1⟩ :=hP hg8 1 (.inr rfl)
  refine vx (ho.ln (B:=Bs.of h) c.gr)<|UJ.by (fun (i:Nat) x y z h'=>z=.int .i64 i∧i≤us.length∧Cx (fun _=>False) h h' [aG [dA xE v28 [u]],dA EMx x ((us.take i).map fun x=>((0:Int),x.2)),dA EMx y ((us.take i).map fun x=>((1:Int),x.2))]) (fun i=>us.length - i) 0 ⟨rfl,Nat.zero_le _,(c.nil EMx).nil EMx⟩ ?_
  rintro i x y _ h4' ⟨rfl,hi,c⟩ again hagain
  replace c:=c.n3
  refine vx cH<|pC (fun e33=>?_) fun e33=>?_
  ·have hx:=List.getElem?_eq_getElem (l:=us) (i:=i) (by omega)
   have ht1:us.take (i+1)=us.take i++[us[i]'(by omega)]:=by rw [List.take_add_one,hx]; rfl
   generalize us[i]'(by omega)=e at hx ht1
   obtain ⟨ed,ep⟩ :=e
   refine (o1 _ c.gr).whole rfl hx rfl ?_
   refine c.v2 fun _ _ c=>?_
   refine c.w2 3 fun _ c=>?_
   refine aD<|c.rc 3 ?_
   refine vx (aL (ds:=[_,_]) rfl)<|c.jE EMx ((0:Int),ep) rfl rfl fun v40 _ c=>?_
   replace c:=c.n5
   refine c.ap 1 rfl (c.sl (i:=4) rfl).sl rfl rfl (by simp only [List.length_map,List.length_take,List.length_cons,List.length_nil]; omega) (by simp only [List.length_map,List.length_take,List.length_cons,List.length_nil]; omega) fun v41 _ c=>?_
   replace c:=c.n5
   refine aD<|c.rc 3 ?_
   refine vx (aL (ds:=[_,_]) rfl)<|c.jE EMx ((1:Int),ep) rfl rfl fun v46 _ c=>?_
   replace c:=c.n6
   refine c.ap 2 rfl (c.sl (i:=5) rfl).sl rfl rfl (by simp only [List.length_map,List.length_take,List.length_cons,List.length_nil]; omega) (by simp only [List.length_map,List.length_take,List.length_cons,List.length_nil]; omega) fun v47 _ c=>?_
   replace c:=c.n6
   refine vx (inc (by omega)) ?_
   rw [show (us.take i).map (fun x=>((0:Int),x.2))++[((0:Int),ep)]=(us.take (i+1)).map (fun x=>((0:Int),x.2)) from by rw [ht1,List.map_append]; rfl,show (us.take i).map (fun x=>((1:Int),x.2))++[((1:Int),ep)]=(us.take (i+1)).map (fun x=>((1:Int),x.2)) from by rw [ht1,List.map_append]; rfl] at c
   exact hagain (i+1) _ _ _ _ ⟨rfl,by omega,c.pick [0,1,2]⟩ (by omega)
  ·obtain rfl:i=us.length:=by omega
   rw [List.take_of_length_le (Nat.le_refl _)] at c
   obtain ⟨s1,rfl⟩ :=(c.sl (i:=1) rfl).vO
   obtain ⟨s2,rfl⟩ :=(c.sl (i:=2) rfl).vO
   refine c.jE xE s1 rfl rfl fun v53 _ c=>?_
   obtain ⟨t1,rfl⟩ :=(c.sl (i:=3) rfl).vO
   replace c:=c.n4
   have c:=Cx.pack (L:=[_]) (M:=[dA EMx (aX s1) (us.map fun x=>((0:Int),x.2)),dA xE (aX t1) [s1]]) (c.pick [2,1,3])
   generalize hA1:[dA EMx (aX s1) (us.map fun x=>((0:Int),x.2)),dA xE (aX t1) [s1]]=A1 at c
   refine cs.B3 (Cz (B:=(Bs.of h).and A1) (first:=first) (du:=du) (us:=[s1]) (opss:=[iP 0 ops]) cs.toYp ⟨c.gr,c.get (i:=1) rfl⟩ (fun h' b=>hZ.gr b.1) (fun h' b=>hf.gr b.1) hfr hfl (by rw [←hA1]; exact On.sl (i:=1) rfl) (show 1≤3 by decide) rfl (fun i u' ops' h1 h2=>?_) (fun i ops' h2=>?_) fun ws1 w1 tks1 Ws1 M1 _ hF1 ht1 hw1 d hbeg1 hwo1=>?_)
   ·have hi:=(List.getElem?_eq_some_iff.1 h1).1
    obtain rfl:i=0:=by simp at hi; exact hi
    simp only [List.getElem?_cons_zero,Option.some.injEq] at h1 h2
    subst h1 h2
    exact FY (by omega) (fun i a o e1 e2=>(o3 i a o e1 e2).2) (by rw [←hA1]; exact On.sl (i:=0) rfl)
   ·have hi:=(List.getElem?_eq_some_iff.1 h2).1
    obtain rfl:i=0:=by simp at hi; exact hi
    simp only [List.getElem?_cons_zero,Option.some.injEq] at h2
    subst h2
    exact hP0
   have c:=c.aE d
   obtain ⟨W1,rfl,hS1⟩ :=Nd.make (k:=20000) hbeg1 hwo1 ht1 hw1 hF1 hG hE0 (by decide)
   have c:=Cx.unpack (L:=[_,_,_]) c
   have c:=Cx.pack (L:=[_,_]) (M:=[aG A1,aG M1]) (c.pick [0,3,1,2])
   replace c:=c.n3
   refine vx rfl<|vx rfl<|c.v9 fun a11_ _ c=>?_
   refine c.w9 3 fun _ c=>?_
   refine c.jE xE s2 rfl rfl fun v61 _ c=>?_
   obtain ⟨t2,rfl⟩ :=(c.sl (i:=4) rfl).vO
   replace c:=c.n5
   have c:=Cx.pack (L:=[_,_,_]) (M:=[dA EMx (aX s2) (us.map fun x=>((1:Int),x.2)),dA xE (aX t2) [s2]]) (c.pick [1,2,3,0,4])
   generalize hA2:[dA EMx (aX s2) (us.map fun x=>((1:Int),x.2)),dA xE (aX t2) [s2]]=A2 at c
   refine cs.B3 (Cz (B:=(Bs.of h).and A2) (first:=first) (du:=du) (us:=[s2]) (opss:=[iP 1 ops]) cs.toYp ⟨c.gr,c.get (i:=3) rfl⟩ (fun h' b=>hZ.gr b.1) (fun h' b=>hf.gr b.1) hfr hfl (by rw [←hA2]; exact On.sl (i:=1) rfl) (show 1≤3 by decide) rfl (fun i u' ops' h1 h2=>?_) (fun i ops' h2=>?_) fun ws2 w2 tks2 Ws2 M2 _ hF2 ht2 hw2 d hbeg2 hwo2=>?_)
   ·have hi:=(List.getElem?_eq_some_iff.1 h1).1
    obtain rfl:i=0:=by simp at hi; exact hi
    simp only [List.getElem?_cons_zero,Option.some.injEq] at h1 h2
    subst h1 h2
    exact FY (by omega) (fun i a o e1 e2=>(o3 i a o e1 e2).2) (by rw [←hA2]; exact On.sl (i:=0) rfl)
   ·have hi:=(List.getElem?_eq_some_iff.1 h2).1
    obtain rfl:i=0:=by simp at hi; exact hi
    simp only [List.getElem?_cons_zero,Option.some.injEq] at h2
    subst h2
    exact hP1
   have c:=c.aE d
   obtain ⟨W2,rfl,hS2⟩ :=Nd.make (k:=20000) hbeg2 hwo2 ht2 hw2 hF2 hG hE1 (by decide)
   have c:=Cx.unpack (L:=[_,_,_,_,_]) c
   have c:=Cx.pack (L:=[_,_,_,_]) (M:=[aG A2,aG M2]) (c.pick [0,1,2,5,3,4])
   replace c:=c.n5
   refine vx rfl<|vx rfl<|c.v9 fun b13_ _ c=>?_
   refine c.w9 5 fun _ c=>?_
   refine c.rl 2 ?_
   obtain ⟨F1,d1,hM1,up1⟩ :=c.Iv (B:=Bs.of h) (i:=0) (j:=1) (fun h'' g=>g) rfl rfl (by decide)
   refine cs.GA (J3 (k:=20000) (B:=(Bs.of h).and [aG A1,aG M1]) cs.toWg (fun h' b=>hZ.gr b.1) (by decide) d1 hM1 (hS1.le Bs.MA) (Nat.le_refl _) fun w1' s1' W1' N1 _ dd hS1' hd1=>?_)
   have c:=up1 dd
   obtain ⟨m1,x1,sp1,gs1,Mm1,b1,e11,e12,e13,e14,e15,e16,e17,e18⟩ :=hS1'.ends hd1
   replace c:=c.n7
   refine vx rfl<|vx rfl<|c.v9 fun x15_ _ c=>?_
   refine c.w9 7 fun _ c=>?_
   refine c.rl 5 ?_
   obtain ⟨F2,d2,hM2,up2⟩ :=c.Iv (B:=Bs.of h) (i:=3) (j:=4) (fun h'' g=>g) rfl rfl (by decide)
   refine cs.GA (J3 (k:=20000) (B:=(Bs.of h).and [aG A2,aG M2]) cs.toWg (fun h' b=>hZ.gr b.1) (by decide) d2 hM2 (hS2.le Bs.MA) (Nat.le_refl _) fun w2' s2' W2' N2 _ dd hS2' hd2=>?_)
   have c:=up2 dd
   obtain ⟨m2,x2,sp2,gs2,Mm2,b2,e21,e22,e23,e24,e25,e26,e27,e28⟩ :=hS2'.ends hd2
   replace c:=c.n9
   refine vx rfl<|vx rfl<|c.v9 fun y17_ _ c=>?_
   refine c.w9 9 fun _ c=>?_
   refine .here<|vx (v:=.bool false) (rfl)<|bD<|vx (v:=.bool false) (rfl)<|bD<|vx (v:=.bool false) (rfl)<|bD<|vx rfl<|bD<|aD<|c.rc 7 ?_
   refine (e11.ts _ ⟨⟨c.gr,c.get (i:=1) rfl⟩,c.get (i:=6) rfl⟩).whole (i:=0) rfl rfl rfl ?_
   refine cs.Kh (Ls (x:=x1) cs.toWg (fun _ g=>?_) e13)
   have c:=c.more g
   obtain ⟨x1t,x1q,x1d,x1o,x1s,x1n,x1e,x1dn,x1sm,x1b⟩ :=x1
   dsimp only at e12 e13 e14
   subst e12
   refine vx rfl<|vx rfl<|c.KG fun c19_ _ c=>?_
   refine c.RT 10 fun _ c=>?_
   refine aD<|c.rc 9 ?_
   refine (e21.ts _ ⟨⟨c.gr,c.get (i:=4) rfl⟩,c.get (i:=8) rfl⟩).whole (i:=0) rfl rfl rfl ?_
   refine cs.Kh (Ls (x:=x2) cs.toWg (fun _ g=>?_) e23)
   have c:=c.more g
   obtain ⟨x2t,x2q,x2d,x2o,x2s,x2n,x2e,x2dn,x2sm,x2b⟩ :=x2
   dsimp only at e22 e23 e24
   subst e22
   refine vx rfl<|vx rfl<|c.KG fun d21_ _ c=>?_
   refine c.RT 11 fun _ c=>?_
   refine .here<|vx (v:=.bool false) (rfl)<|bD<|vx (v:=.bool false) (rfl)<|bD<|aD<|c.rc 10 ?_
   refine bD<|aD<|c.rc 11 ?_
   refine bD<|aD<|c.rc 10 ?_
   refine vx (e14 _ ⟨⟨c.gr,c.get (i:=1) rfl⟩,c.get (i:=6) rfl⟩).ln<|aD<|c.rc 11 ?_
   refine vx (e24 _ ⟨⟨c.gr,c.get (i:=4) rfl⟩,c.get (i:=8) rfl⟩).ln<|vx (v:=.bool false) (by rw [pJ,decide_eq_false (fun h=>h rfl)])<|bD<|aD<|c.rc 10 ?_
   refine vx (e14 _ ⟨⟨c.gr,c.get (i:=1) rfl⟩,c.get (i:=6) rfl⟩).ln<|xN.by (fun (i:Nat) z h'=>z=.int .i64 i∧i≤n∧Cx (fun _=>False) h h' [W1',aG [aG A1,aG M1],rV a11_ (Np w1),W2',aG [aG A2,aG M2],rV b13_ (Np w2),aG N1,rV x15_ (Np w1'),aG N2,rV y17_ (Np w2'),rV c19_ (Pb ⟨x1t,x1q,x1d,x1o,x1s,x1n,x1e,x1dn,x1sm,false⟩),rV d21_ (Pb ⟨x2t,x2q,x2d,x2o,x2s,x2n,x2e,x2dn,x2sm,false⟩)]) (fun i=>n - i) 0 ⟨rfl,Nat.zero_le _,c⟩ ?_
   clear c
   rintro j _ h33 ⟨rfl,hj,c⟩ again1 hagain1
   have hlr:(List.replicate n true).length=n:=List.length_replicate
   refine vx cH<|pC (fun e132=>?_) fun e132=>?_
   ·refine .here<|aD<|c.rc 10 ?_
    have hx:(List.replicate n true)[j]?=some true:=by rw [List.getElem?_replicate,if_pos (by omega)]
    refine (e14 _ ⟨⟨c.gr,c.get (i:=1) rfl⟩,c.get (i:=6) rfl⟩).one rfl hx rfl (u:=.bool true) rfl ?_
    refine aD<|c.rc 11 ?_
    refine (e24 _ ⟨⟨c.gr,c.get (i:=4) rfl⟩,c.get (i:=8) rfl⟩).one rfl hx rfl (u:=.bool true) rfl ?_
    refine vx (v:=.bool false) rfl<|bD<|aD<|c.rc 10 ?_
    refine (e14 _ ⟨⟨c.gr,c.get (i:=1) rfl⟩,c.get (i:=6) rfl⟩).one rfl hx rfl (u:=.bool true) rfl ?_
    exact vx rfl<|bD<|vx (inc (by omega))<|hagain1 (j+1) _ _ ⟨rfl,by omega,c⟩ (by omega)
   ·refine cs.Kx fun _ g=>?_
    have c:=c.more g
    refine c.v3 fun _ _ c=>?_
    refine c.w3 12 fun _ c=>?_
    refine c.rl 12 ?_
    refine aD<|vx (c.vp (i:=7) (ds:=[_,_,_,_,_,_,_]) rfl rfl rfl)<|c.rl 12 ?_
    refine aD<|vx (c.vp (i:=9) (ds:=[_,_,_,_,_,_,_]) rfl rfl rfl)<|cs.JG (Lu (B:=((Bs.of h).and [aG A1,aG M1]).and N1) (v:=w1'.m) cs.toYx ⟨⟨c.gr,c.get (i:=1) rfl⟩,c.get (i:=6) rfl⟩ e11.ko e16 (by omega) fun wu1 _ d=>?_)
    have c:=c.aE d
    have c:=Cx.pack (L:=[_,_,_,_,_,_,_,_,_,_,_,_,_]) (M:=[dA EW (aX wu1) m1.words]) c
    replace c:=c.n14
    refine And.intro (c.vp (i:=9) (ds:=[_,_,_,_,_,_,_]) rfl rfl rfl) ?_
    refine c.al 12 ?_
    refine c.al 12 ?_
    refine cs.U3 (Td (B:=(Bs.of h).and [dA EW (aX wu1) m1.words]) cs.toWg ⟨c.gr,c.get (i:=13) rfl⟩ (fun h' b=>hZ.gr b.1) (On.sl (i:=0) rfl) (Mj.pR.trans e15.hs) (fun i x hx hm=>?_) fun lu1 _ d=>?_)
    ·have hi:=(List.getElem?_eq_some_iff.1 hx).1
     rw [Mj.pR,e15.hs] at hi
     rw [Mj.yR (by rw [e15.hs]; exact hi)] at hx
     injection hx with hx
     rw [←hx,e15.top i hi,e18 i hi hm]
     exact hfin i hi hm
    have c:=c.aE d
    replace c:=c.n15
    refine And.intro (c.vp (i:=9) (ds:=[_,_,_,_,_,_,_]) rfl rfl rfl) ?_
    refine c.al 12 ?_
    refine cs.JG (Lu (B:=((Bs.of h).and [aG A2,aG M2]).and N2) (v:=w2'.m) cs.toYx ⟨⟨c.gr,c.get (i:=4) rfl⟩,c.get (i:=8) rfl⟩ e21.ko e26 (by omega) fun wu2 _ d=>?_)
    have c:=c.aE d
    have c:=Cx.pack (L:=[_,_,_,_,_,_,_,_,_,_,_,_,_,_,_]) (M:=[dA EW (aX wu2) m2.words]) c
    replace c:=c.n16
    refine c.al 12 ?_
    refine cs.U3 (Td (B:=(Bs.of h).and [dA EW (aX wu2) m2.words]) cs.toWg ⟨c.gr,c.get (i:=15) rfl⟩ (fun h' b=>hZ.gr b.1) (On.sl (i:=0) rfl) (Mj.pR.trans e25.hs) (fun i x hx hm=>?_) fun lu2 _ d=>?_)
    ·have hi:=(List.getElem?_eq_some_iff.1 hx).1
     rw [Mj.pR,e25.hs] at hi
     rw [Mj.yR (by rw [e25.hs]; exact hi)] at hx
     injection hx with hx
     rw [←hx,e25.top i hi,e28 i hi hm]
     exact hfin i hi hm
    have c:=c.aE d
    replace c:=c.n17
    have eL:uH m1.words=uH m2.words:=QR e15 e25 fun i hi hm=>(e18 i hi hm).trans (e28 i hi hm).symm
    have c:=Cx.pack (L:=[]) (M:=[dA EW (aX lu1) (uH m1.words),dA EW (aX lu2) (uH m2.words)]) (c.pick [14,16])
    refine cs.SI (T5 (B:=(Bs.of h).and [dA EW (aX lu1) (uH m1.words),dA EW (aX lu2) (uH m2.words)]) (ws:=uH m1.words) ⟨c.gr,c.get (i:=0) rfl⟩ (On.sl (i:=0) rfl) (by rw [eL]; exact On.sl (i:=1) rfl) (by unfold uH; rw [List.length_mapIdx,Mj.pR,e15.hs]; decide) fun _ g=>?_)
    have c:=c.more g
    replace c:=c.n1
    exact hR _ c.gr
end
end Go.En
namespace Go.En
structure Good (es:List Et):Prop where
 len:1≤es.length∧es.length≤6
 pl:∀e∈es,56≤e.at'∧e.at'<62
 Qb:∀(i j:Nat) (a b:Et),i<j→es[i]?=some a→es[j]?=some b→a.at'<b.at'
 ref:∀e∈es,e.old.ref=0
 dN:∀e∈es,0≤e.old.dN∧e.old.dN<16777216
 val:∀e∈es,Nf e.old.v∧Nf e.new
 kp:∀e∈es,e.wr=false→e.new=e.old.v
theorem vj (es:List Et):(dS es).length=1+3*es.length:=by
 have:(es.flatMap fun e=>[CV e,Cu e,Cg e]).length=3*es.length:=by
  induction es with
  | nil=>rfl
  | cons e r ih=>rw [List.flatMap_cons,List.length_append,ih]; show 3+_=3*(_+1); omega
 rw [dS,List.length_cons,this]; omega
theorem Good.up {es:List Et} (g:Good es) {e:Et} (he:e∈es):Ns (CV e) (Cu e) (Cg e)=true∧FF (CV e) (Cu e) (Cg e)=e:=by
 have hp:=g.pl e he
 have hr:=g.ref e he
 obtain ⟨a,⟨v,q,r⟩,n,b⟩ :=e
 dsimp only at hp hr
 subst hr
 have:FF (CV ⟨a,⟨v,q,0⟩,n,b⟩) (Cu ⟨a,⟨v,q,0⟩,n,b⟩) (Cg ⟨a,⟨v,q,0⟩,n,b⟩)=⟨a,⟨v,q,0⟩,n,b⟩ :=by
  cases b <;> rfl
 refine ⟨decide_eq_true ⟨by show 0≤a∧a<4096; omega,?_⟩,this⟩
 rw [this]
 exact ⟨rfl,rfl,rfl⟩
theorem Good.FW {es:List Et} (g:Good es) {e:Et} (he:e∈es):wS e=0:=by
 have h1:=g.pl e he
 have h2:=g.ref e he
 have h3:=g.dN e he
 have h4:=g.kp e he
 unfold wS uV
 rw [if_neg (by omega),if_pos h2,if_neg (by omega),if_neg (by omega),if_neg (fun x=>x.2 (h4 x.1))]
theorem Good.UW {es:List Et} (g:Good es):∀(n i:Nat),es.length - i=n→Fe (es.take i) (es.drop i)=0
 | 0,i,h=>by rw [List.drop_eq_nil_of_le (by omega)]; rfl
 | n+1,i,h=>by
  have hi:i<es.length:=by omega
  rw [List.drop_eq_getElem_cons hi,Fe,if_neg (by rw [g.FW (List.getElem_mem hi)]; simp),if_neg]
  ·have:=g.UW n (i+1) (by omega)
   rwa [List.take_add_one,List.getElem?_eq_getElem hi] at this
  ·rw [Bool.not_eq_true,List.any_eq_false]
   intro y hy
   obtain ⟨j,hj,rfl⟩ :=List.mem_iff_getElem.1 hy
   rw [List.length_take] at hj
   have:=g.Qb j i _ _ (by omega) (List.getElem?_eq_getElem (by omega:j<es.length)) (List.getElem?_eq_getElem hi)
   rw [List.getElem_take]
   simp only [decide_eq_true_eq]
   omega
theorem Good.check {es:List Et} (g:Good es):lR es=0:=by
 have:=g.len
 unfold lR
 rw [if_neg (by omega),if_neg (by omega)]
 exact g.UW _ 0 rfl
abbrev iT (es:List Et):List W3:=es.flatMap fun e=>[CV e,Cu e,Cg e]
theorem Good.may {es:List Et} (g:Good es) {e:Et} (he:e∈es):qD e.at'=true:=decide_eq_true (.inl (g.pl e he))
theorem Good.unp {es:List Et} (g:Good es):∀(n i:Nat),es.length - i=n→i≤es.length→tp (iT (es.drop i)) (es.take i)=some es
 | 0,i,h,hi=>by
  rw [List.drop_eq_nil_of_le (by omega),List.take_of_length_le (by omega)]
  show (if lR es=0 then some es else none)=_
  rw [if_pos g.check]
 | n+1,i,h,_=>by
  have hi:i<es.length:=by omega
  have hm:=List.getElem_mem hi
  rw [List.drop_eq_getElem_cons hi]
  show tp (CV es[i]::Cu es[i]::Cg es[i]::iT (es.drop (i+1))) (es.take i)=_
  have hcond:∀l,(es.take i).getLast?=some l→l.at'<es[i].at':=fun l hl=>by
   rw [List.getLast?_eq_getElem?,List.length_take,Nat.min_eq_left (by omega)] at hl
   have hj:i - 1<i:=by
    rcases Nat.eq_zero_or_pos i with e | e
    ·subst e; simp at hl
    ·omega
   rw [List.getElem?_take_of_lt hj] at hl
   exact g.Qb (i - 1) i l _ hj hl (List.getElem?_eq_getElem hi)
  rw [tp,(g.up hm).2,if_pos ⟨(g.up hm).1,g.may hm,hcond⟩]
  have:=g.unp n (i+1) (by omega) (by omega)
  rwa [List.take_add_one,List.getElem?_eq_getElem hi] at this
theorem Good.unpack {es:List Et} (g:Good es):tp (iT es) []=some es:=g.unp _ 0 rfl (Nat.zero_le _)
theorem sC (es:List Et):dS es=⟨es.length,0,0⟩::iT es:=rfl
theorem wi (es:List Et):(iT es).length=3*es.length:=by
 have:=vj es
 rw [sC,List.length_cons] at this
 omega
abbrev Mem:=Nat→W3
inductive qk {σ:Type} (nx:σ→iM→σ × Ac × Bool) (ok:σ→iM→Prop) (post:σ→Mem→Prop):Nat→σ × Ac × Bool→Mem→Prop
 | done {k:Nat} {s:σ} {a:Ac} {M:Mem}:post s M→qk nx ok post k (s,a,true) M
 | step {k:Nat} {s:σ} {a:Ac} {M:Mem}:zU a→ok s (exec M a).2→qk nx ok post k (nx s (exec M a).2) (exec M a).1→qk nx ok post (k+1) (s,a,false) M
theorem qk.up {σ:Type} {nx:σ→iM→σ × Ac × Bool} {ok:σ→iM→Prop} {post:σ→Mem→Prop} {k k':Nat} {r:σ × Ac × Bool} {M:Mem} (h:qk nx ok post k r M) (hk:k≤k'):qk nx ok post k' r M:=by
 induction h generalizing k' with
 | done hp=>exact .done hp
 | step ha hc _ ih=>
  obtain ⟨q,rfl⟩:∃q,k'=q+1:=⟨k' - 1,by omega⟩
  exact .step ha hc (ih (by omega))
theorem qk.ends {post:Cn→Mem→Prop} {k:Nat} {r:CR} {M:Mem} (h:qk kL Ht post k r M):Ends post k r M:=by
 induction h with
 | done hp=>exact .done hp
 | step ha hc _ ih=>exact .step ha hc ih
theorem qk.lift {σ τ:Type} {nx:σ→iM→σ × Ac × Bool} {ok:σ→iM→Prop} {post:σ→Mem→Prop} {nxO:τ→iM→τ × Ac × Bool} {okO:τ→iM→Prop} {postO:τ→Mem→Prop} (wrap:σ→τ) (out:σ→τ × Ac × Bool)
  (ng:∀s g,ok s g→okO (wrap s) g) (hnx:∀s g,ok s g→(nx s g).2.2=false→nxO (wrap s) g=(wrap (nx s g).1,(nx s g).2.1,false)) (hout:∀s g,ok s g→(nx s g).2.2=true→nxO (wrap s) g=out (nx s g).1) {k2:Nat}
  (hk:∀s M,post s M→qk nxO okO postO k2 (out s) M) {k:Nat} {r:σ × Ac × Bool} {M:Mem} (h:qk nx ok post k r M):qk nxO okO postO (k+k2) (if r.2.2=true then out r.1 else (wrap r.1,r.2.1,false)) M:=by
 induction h with
 | done hp=>exact (hk _ _ hp).up (by omega)
 | @step k s a M ha hc _ ih=>
  refine qk.up (k:=k+k2+1) (.step ha (ng _ _ hc) ?_) (by omega)
  cases hd:(nx s (exec M a).2).2.2 with
  | false=>rw [hnx _ _ hc hd]; rw [hd] at ih; exact ih
  | true=>rw [hout _ _ hc hd]; rw [hd] at ih; exact ih
theorem ku {M:Mem} {p:Nat} {o n:W3}:exec M ⟨5,p,o,n⟩=(M,⟨M p,true⟩):=by unfold exec; rw [if_pos (.inl rfl)]; rfl
theorem zF {M:Mem} {p:Nat} {o n:W3}:exec M ⟨1,p,o,n⟩=(M,⟨M p,true⟩):=by unfold exec; rw [if_pos (.inr rfl)]; rfl
theorem yx {M:Mem} {p:Nat} {o n:W3} {op:Int} (h:op=3∨op=4):exec M ⟨op,p,o,n⟩=(fW M p n,⟨W0,true⟩):=by unfold exec; dsimp only; rw [if_neg (by omega),if_pos h]; rfl
theorem wu {M:Mem} {p:Nat} {o n:W3} (h:M p=o):exec M ⟨6,p,o,n⟩=(fW M p n,⟨o,true⟩):=by
 unfold exec; dsimp only
 rw [if_neg (by decide),if_neg (by decide),if_pos rfl]
 show (if M p=o then _ else _)=_
 rw [if_pos h]
 show (fW M p n,(⟨M p,true⟩:iM))=_
 rw [h]
theorem nN {M:Mem} {p:Int} {o n:W3} {op:Int} (h:op=7∨op=8):exec M ⟨op,p,o,n⟩=(M,⟨W0,true⟩):=by unfold exec; dsimp only; rw [if_neg (by omega),if_neg (by omega),if_neg (by omega)]
theorem mT {p:Nat} (h:p<512):zU ⟨5,p,W0,W0⟩ :=⟨.inr ⟨.inr (.inr (.inr (.inl rfl))),Int.natCast_nonneg _,Int.ofNat_lt.2 h⟩,fun _=>rfl,fun _=>rfl,fun h=>by dsimp only at h; omega⟩
theorem BW {p:Nat} (h:p<512):zU ⟨1,p,W0,W0⟩ :=⟨.inr ⟨.inl rfl,Int.natCast_nonneg _,Int.ofNat_lt.2 h⟩,fun _=>rfl,fun _=>rfl,fun h=>by dsimp only at h; omega⟩
theorem yE {p:Nat} {o n:W3} (h:p<512) (hn:Ww n):zU ⟨6,p,o,n⟩ :=⟨.inr ⟨.inr (.inr (.inr (.inr (.inl rfl)))),Int.natCast_nonneg _,Int.ofNat_lt.2 h⟩,fun h=>by dsimp only at h; omega,fun h=>by dsimp only at h; omega,fun _=>hn⟩
theorem BH {p:Nat} {n:W3} {op:Int} (hop:op=3∨op=4) (h:p<512) (hn:Ww n):zU ⟨op,p,W0,n⟩ :=⟨.inr ⟨by dsimp only; omega,Int.natCast_nonneg _,Int.ofNat_lt.2 h⟩,fun _=>rfl,fun h=>by dsimp only at h; omega,fun _=>hn⟩
theorem zC {p:Nat} (h:p<512):zU ⟨7,p,W0,W0⟩ :=⟨.inr ⟨.inr (.inr (.inr (.inr (.inr rfl)))),Int.natCast_nonneg _,Int.ofNat_lt.2 h⟩,fun _=>rfl,fun _=>rfl,fun h=>by dsimp only at h; omega⟩
theorem zy:zU ⟨8,0,W0,W0⟩ :=⟨.inl rfl,fun _=>rfl,fun _=>rfl,fun h=>by dsimp only at h; omega⟩
def dX (f:Et→W3) (l:List Et) (M:Mem):Mem:=l.foldl (fun M e=>fW M e.at'.toNat (f e)) M
theorem Dn {f:Et→W3} {l:List Et} {e:Et} {M:Mem}:dX f (l++[e]) M=fW (dX f l M) e.at'.toNat (f e):=by unfold dX; rw [List.foldl_append]; rfl
theorem nT {f:Et→W3} {j:Nat}:∀{l:List Et} {M:Mem},(∀e∈l,¬j=e.at'.toNat)→dX f l M j=M j
 | [],_,_=>rfl
 | e::l,M,h=>by
  show dX f l (fW M e.at'.toNat (f e)) j=_
  rw [nT fun x hx=>h x (List.mem_cons_of_mem _ hx),nt (h e List.mem_cons_self)]
theorem vY {f:Et→W3} {i:Nat} {e:Et}:∀{l:List Et} {M:Mem},l[i]?=some e→(∀(j:Nat) (b:Et),i<j→l[j]?=some b→¬e.at'.toNat=b.at'.toNat)→dX f l M e.at'.toNat=f e
 | [],_,h,_=>by simp at h
 | a::l,M,h,hd=>by
  show dX f l (fW M a.at'.toNat (f a)) _=_
  cases i with
  | zero=>
   simp only [List.getElem?_cons_zero,Option.some.injEq] at h
   subst h
   rw [nT fun x hx=>by
    obtain ⟨j,hj,rfl⟩ :=List.mem_iff_getElem.1 hx
    exact hd (j+1) _ (by omega) (by rw [List.getElem?_cons_succ]; exact List.getElem?_eq_getElem hj),tX]
  | succ i=>exact vY (i:=i) (by simpa using h) fun j b hj hb=>hd (j+1) b (by omega) (by simpa using hb)
theorem Good.ne {es:List Et} (g:Good es) {i j:Nat} {a b:Et} (hij:¬i=j) (ha:es[i]?=some a) (hb:es[j]?=some b):¬a.at'.toNat=b.at'.toNat:=by
 have h1:=g.pl a (List.mem_of_getElem? ha)
 have h2:=g.pl b (List.mem_of_getElem? hb)
 rcases Nat.lt_or_gt_of_ne hij with h | h
 ·have:=g.Qb i j a b h ha hb
  omega
 ·have:=g.Qb j i b a h hb ha
  omega
end Go.En
namespace Go.En
def Xi (hs:List Hs) (_:iM):Prop:=Gv hs∧∀s∈hs,s.nx=.again→s.i<s.es.length
abbrev EH (post:List Hs→Mem→Prop) (k:Nat) (x:HR) (M:Mem):Prop:=qk fP Xi post k ([x.1],x.2) M
def tj (e:Et):W3:=if e.wr=true then ⟨e.new,e.old.dN+1,0⟩ else ⟨e.old.v,e.old.dN,0⟩
def mY (r:Int) (e:Et):W3:={e.old with ref:=r}
structure vQ (r:Int) (A:Nat) (es:List Et):Prop where
 uE:Good es
 pl:bF (cZ r)=A
 A:64≤A∧A+2+3*es.length≤512
 tg:(es.length:Int)≤m8 (cZ r)
 who:0<cZ r
 r0:0<r∧r<4294967296
 seq:0≤ki r∧ki r<4294967296
structure V3 (M:Mem) (r:Int) (A:Nat) (es:List Et):Prop where
 st:M A=⟨0,ki r,0⟩
 cnt:M (A+1)=⟨es.length,0,0⟩
 A4:∀(j:Nat) w,(iT es)[j]?=some w→M (A+2+j)=w
 Nn:∀e∈es,M e.at'.toNat=e.old
structure Hb (r:Int) (du:Bool) (es:List Et) (s:Hs):Prop where
 ref:s.ref=r
 fO:s.fO=du
 es:s.es=es
 en:s.ended=false
 ws:∀x∈s.ws,Ww x
 met:Ww s.met
section
variable {post:List Hs→Mem→Prop} {k:Nat} {s:Hs} {a:Ac} {M M2:Mem} {r:Int} {A:Nat} {du:Bool} {es:List Et} {kk:HK}
theorem qn (ha:zU a) (hk:Uv {s with nx:=kk}) (h1:¬kk=.again) (h2:¬kk=.lU) (h:EH post k (oQ {s with nx:=kk} (exec M a).2) (exec M a).1):EH post (k+1) (lT s a kk) M:=by
 refine .step ha ⟨hk,fun x hx e=>?_⟩ ?_
 ·rw [List.mem_singleton] at hx
  subst hx
  exact absurd e h1
 ·show qk fP Xi post k (fP [{s with nx:=kk}] (exec M a).2) (exec M a).1
  rw [zG hk.ended h1 [] (.inl rfl)]; exact h
theorem vQ.ng (N:vQ r A es) (H:Hb r du es s) (h:RE {s with nx:=kk} kk):Uv {s with nx:=kk}:=
 ⟨H.en,by have:=N.uE.len; show s.es.length≤1000; rw [H.es]; omega,by show 0≤bF (cZ s.ref); rw [H.ref,N.pl]; exact Int.natCast_nonneg _,H.ws,H.met,h⟩
theorem vQ.at' (N:vQ r A es) (H:Hb r du es s):s.at'=A:=by unfold Hs.at'; rw [H.ref]; exact N.pl
theorem Hb.seq (H:Hb r du es s):s.seq=ki r:=by unfold Hs.seq; rw [H.ref]
theorem Hb.hE (H:Hb r du es s) {e:Et} (he:es[s.i]?=some e):hE s=e:=by unfold Go.En.hE; rw [H.es,List.getD_eq_getElem?_getD,he]; rfl
theorem Good.at (g:Good es) {e:Et} (he:e∈es):∃p:Nat,e.at'=p∧p<62∧56≤p:=⟨e.at'.toNat,by have:=g.pl e he; omega,by have:=g.pl e he; omega,by have:=g.pl e he; omega⟩
theorem F8 (N:vQ r A es) (hk2:kk=.settle∨kk=.through) (hc:∀s',Hb r du es s'→s'.dN=s.dN→EH post k (oQ {s' with nx:=kk} ⟨W0,true⟩) M):∀(m:Nat) (s':Hs),Hb r du es s'→s'.dN=s.dN→s'.bh=some kk→s'.i≤es.length→es.length - s'.i=m→EH post (k+1+m) (eF s') M:=by
 have hne:¬kk=.again∧¬kk=.lU:=by rcases hk2 with rfl | rfl <;> exact ⟨by decide,by decide⟩
 have hh1:∀s'':Hs,RE s'' kk:=fun s''=>by rcases hk2 with rfl | rfl <;> trivial
 intro m
 induction m with
 | zero=>
  intro s' H hv hb hi hm
  unfold eF
  rw [if_pos (by rw [H.es]; omega),hb]
  refine qn zy (N.ng H (hh1 _)) hne.1 hne.2 ?_
  rw [nN (.inr rfl)]
  exact hc s' H hv
 | succ m ih=>
  intro s' H hv hb hi hm
  have he:=List.getElem?_eq_getElem (l:=es) (i:=s'.i) (by omega)
  obtain ⟨p,ep,hp,_⟩ :=N.uE.at (List.mem_of_getElem? he)
  unfold eF
  rw [if_neg (by rw [H.es]; omega),H.hE he,ep]
  have H2:Hb r du es {s' with i:=s'.i+1}:=⟨H.ref,H.fO,H.es,H.en,H.ws,H.met⟩
  refine qn (k:=k+1+m) (zC (by omega)) (N.ng H2 ⟨by show s'.i+1≤s'.es.length; rw [H.es]; omega,by show ¬s'.bh=none; rw [hb]; exact fun h=>by cases h⟩) (by decide) (by decide) ?_
  rw [nN (.inl rfl)]
  exact ih {s' with i:=s'.i+1,nx:=.tS} ⟨H.ref,H.fO,H.es,H.en,H.ws,H.met⟩ hv hb (by show s'.i+1≤_; omega) (by show es.length - (s'.i+1)=m; omega)
theorem So (N:vQ r A es) (hp:∀s',s'.dN=1→s'.ended=true→post [s'] M) (H:Hb r du es s) (hi:s.i=es.length) (hv:s.dN=1):EH post (es.length+1) (qP s) M:=by
 unfold qP
 rw [if_neg (by rw [H.es]; omega)]
 split
 ·have:=F8 (post:=post) (k:=0) (M:=M) (s:=s) (kk:=.through) (du:=du) N (.inr rfl) (fun s' H' hv'=>.done (hp _ (hv'.trans hv) rfl)) es.length {s with i:=0,bh:=some .through} ⟨H.ref,H.fO,H.es,H.en,H.ws,H.met⟩ rfl rfl (Nat.zero_le _) (Nat.sub_zero _)
  exact this.up (by omega)
 ·exact .done (hp _ hv rfl)
theorem MH (N:vQ r A es) {e:Et}:uV (mY r e)=1:=by
 unfold uV mY
 have:=N.r0
 rw [if_neg (by dsimp only; omega),if_pos N.who]
theorem PG (N:vQ r A es) {e:Et} (he:e∈es):xK (mY r e) e.new (e.wr&&decide ((1:Int)=1))=(tj e,0):=by
 have hv:=N.uE.dN e he
 unfold xK
 rw [if_neg (fun h=>h (MH N)),decide_eq_true rfl,Bool.and_true,if_neg (fun h=>by have:=h.2; unfold mY at this; dsimp only at this; omega)]
 unfold tj
 by_cases c:e.wr=true
 ·rw [if_pos c,if_pos c]; rfl
 ·rw [if_neg c,if_neg c]; rfl
theorem Ww.rel (g:Good es) {e:Et} (he:e∈es):Ww (tj e):=by
 have h1:=g.dN e he
 have h2:=g.val e he
 unfold tj
 split
 ·exact ⟨h2.2,by dsimp only; omega,⟨Int.le_refl 0,(by decide:(0:Int)<4294967296)⟩⟩
 ·exact ⟨h2.1,by dsimp only; omega,⟨Int.le_refl 0,(by decide:(0:Int)<4294967296)⟩⟩
theorem Ww.held (N:vQ r A es) {e:Et} (he:e∈es):Ww (mY r e):=by
 have h1:=N.uE.dN e he
 have h2:=N.uE.val e he
 have h3:=N.r0
 exact ⟨h2.1,by show 0≤e.old.dN∧e.old.dN<_; omega,by show 0≤r∧r<_; omega⟩
theorem zm (g:Good es) {f:Et→W3} {i:Nat} {e:Et} (he:es[i]?=some e):dX f (es.take i) M e.at'.toNat=M e.at'.toNat:=nT fun b hb=>by
 obtain ⟨j,hj,rfl⟩ :=List.mem_iff_getElem.1 hb
 rw [List.length_take] at hj
 rw [List.getElem_take]
 exact g.ne (i:=i) (j:=j) (by omega) he (List.getElem?_eq_getElem (by omega))
theorem T1 (N:vQ r A es) (hp:∀s',s'.dN=1→s'.ended=true→post [s'] (dX tj es M2)) (hh:∀e∈es,M2 e.at'.toNat=mY r e):∀(m:Nat) (s:Hs),Hb r du es s→s.i≤es.length→s.dN=1→es.length - s.i=m→EH post (es.length+1+2*m) (qP s) (dX tj (es.take s.i) M2):=by
 intro m
 induction m with
 | zero=>
  intro s H hi hv hm
  rw [List.take_of_length_le (by omega)]
  exact So N hp H (by omega) hv
 | succ m ih=>
  intro s H hi hv hm
  have he:=List.getElem?_eq_getElem (l:=es) (i:=s.i) (by omega)
  have hmem:es[s.i]'(by omega)∈es:=List.getElem_mem _
  have htk:es.take (s.i+1)=es.take s.i++[es[s.i]'(by omega)]:=by rw [List.take_add_one,he]; rfl
  generalize es[s.i]'(by omega)=e at he hmem htk
  obtain ⟨p,ep,hp2,_⟩ :=N.uE.at hmem
  have hpt:e.at'.toNat=p:=by omega
  unfold qP
  rw [if_pos (by rw [H.es]; omega),H.hE he,ep]
  refine qn (k:=es.length+1+2*m+1) (mT (by omega)) (N.ng H (by show s.i<s.es.length; rw [H.es]; omega)) (by decide) (by decide) ?_
  rw [ku]
  have hw:dX tj (es.take s.i) M2 p=mY r e:=by
   rw [←hpt,zm N.uE he,hh e hmem]
  rw [hw]
  show EH post _ (vn {s with nx:=.found} (mY r e)) _
  unfold vn
  have hEq:hE {s with nx:=.found}=e:=H.hE he
  rw [hEq]
  have hrl:xK (mY r e) e.new (e.wr&&decide ({s with nx:=HK.found}.dN=1))=(tj e,0):=by
   show xK (mY r e) e.new (e.wr&&decide (s.dN=1))=_
   rw [hv]; exact PG N hmem
  rw [hrl,if_pos ⟨H.ref.symm,rfl⟩,ep]
  have H2:Hb r du es {s with nx:=HK.found}:=⟨H.ref,H.fO,H.es,H.en,H.ws,H.met⟩
  have hl6:=N.uE.len
  refine qn (k:=es.length+1+2*m) (yE (by omega) (Ww.rel N.uE hmem)) (N.ng H2 (by show s.i≤1000; omega)) (by decide) (by decide) ?_
  rw [wu hw]
  have hm2:fW (dX tj (es.take s.i) M2) p (tj e)=dX tj (es.take (s.i+1)) M2:=by rw [htk,Dn,hpt]
  rw [hm2]
  exact ih {s with i:=s.i+1,nx:=.BQ} ⟨H.ref,H.fO,H.es,H.en,H.ws,H.met⟩ (by show s.i+1≤_; omega) hv (by show es.length - (s.i+1)=m; omega)
theorem Le (N:vQ r A es) (hp:∀s',s'.dN=1→s'.ended=true→post [s'] (dX tj es M2)) (hh:∀e∈es,M2 e.at'.toNat=mY r e) (hA:M2 A=⟨1,ki r,0⟩) (H:Hb r du es s):EH post (3*es.length+2) (nc s .known) M2:=by
 have hA2:=N.A
 unfold nc
 rw [N.at' H]
 refine qn (k:=3*es.length+1) (mT (by omega)) (N.ng H trivial) (by decide) (by decide) ?_
 rw [ku,hA]
 show EH post _ (xk {s with nx:=.known} ⟨1,ki r,0⟩) _
 unfold xk
 have e:(⟨1,ki r,0⟩:W3)=⟨1,{s with nx:=HK.known}.seq,0⟩ :=by
  show _=(⟨1,s.seq,0⟩:W3)
  rw [H.seq]
 rw [if_pos (.inl e)]
 have:=T1 (post:=post) (du:=du) N hp hh es.length {s with nx:=.known,dN:=1,i:=0} ⟨H.ref,H.fO,H.es,H.en,H.ws,H.met⟩ (Nat.zero_le _) rfl (Nat.sub_zero _)
 exact this.up (by omega)
theorem LI (N:vQ r A es) (hp:∀s',s'.dN=1→s'.ended=true→post [s'] (dX tj es M2)) (hh:∀e∈es,M2 e.at'.toNat=mY r e) (hA:M2 A=⟨1,ki r,0⟩) (H:Hb r du es s):EH post (3*es.length+4) (eB s) M2:=by
 have hA2:=N.A
 unfold eB
 split
 ·rw [N.at' H]
  refine qn (k:=3*es.length+3) (zC (by omega)) (N.ng H trivial) (by decide) (by decide) ?_
  rw [nN (.inl rfl)]
  have H2:Hb r du es {s with nx:=HK.jO}:=⟨H.ref,H.fO,H.es,H.en,H.ws,H.met⟩
  refine qn (k:=3*es.length+2) zy (N.ng H2 trivial) (by decide) (by decide) ?_
  rw [nN (.inr rfl)]
  exact Le N hp hh hA (s:={s with nx:=HK.mH}) ⟨H.ref,H.fO,H.es,H.en,H.ws,H.met⟩
 ·exact (Le N hp hh hA H).up (by omega)
end
end Go.En
namespace Go.En
def jL (r:Int) (A:Nat) (es:List Et) (M:Mem):Mem:=dX tj es (fW (dX (mY r) es M) A ⟨1,ki r,0⟩)
section
variable {post:List Hs→Mem→Prop} {k:Nat} {s:Hs} {a:Ac} {M M2:Mem} {r:Int} {A:Nat} {du:Bool} {es:List Et} {kk:HK}
theorem vQ.ne (N:vQ r A es) {e:Et} (he:e∈es):¬A=e.at'.toNat:=by
 have h1:=N.uE.pl e he
 have h2:=N.A
 omega
theorem Ww.st {v q:Int} (hv:0≤v∧v≤3) (hq:0≤q∧q<4294967296):Ww ⟨v,q,0⟩ :=⟨⟨by dsimp only; omega,by dsimp only; omega⟩,hq,⟨Int.le_refl 0,(by decide:(0:Int)<4294967296)⟩⟩
theorem IB (N:vQ r A es) (hp:∀s',s'.dN=1→s'.ended=true→post [s'] (jL r A es M)) (hA:M A=⟨0,ki r,0⟩) (H:Hb r du es s) (hv:s.dN=1):EH post (3*es.length+5) (pO s) (dX (mY r) es M):=by
 have hA2:=N.A
 have h0:dX (mY r) es M A=⟨0,ki r,0⟩ :=(nT fun e he=>N.ne he).trans hA
 unfold pO
 rw [N.at' H,hv,H.seq]
 refine qn (k:=3*es.length+4) (yE (by omega) (Ww.st ⟨by decide,by decide⟩ N.seq)) (N.ng H trivial) (by decide) (by decide) ?_
 rw [wu h0]
 refine LI (s:={s with nx:=HK.uZ}) N hp (fun e he=>?_) tX ⟨H.ref,H.fO,H.es,H.en,H.ws,H.met⟩
 show fW (dX (mY r) es M) A ⟨1,ki r,0⟩ e.at'.toNat=_
 rw [nt (fun x=>N.ne he x.symm)]
 obtain ⟨i,hi,rfl⟩ :=List.mem_iff_getElem.1 he
 exact vY (i:=i) (List.getElem?_eq_getElem hi) fun j b hj hb=>N.uE.ne (by omega) (List.getElem?_eq_getElem hi) hb
theorem Oe (N:vQ r A es) (hp:∀s',s'.dN=1→s'.ended=true→post [s'] (jL r A es M)) (hA:M A=⟨0,ki r,0⟩) (H:Hb r du es s):EH post (4*es.length+6) (mO s 1) (dX (mY r) es M):=by
 unfold mO
 split
 ·have:=F8 (post:=post) (k:=3*es.length+5) (M:=dX (mY r) es M) (s:={s with dN:=1}) (kk:=.settle) (du:=du) N (.inl rfl) (fun s' H' hv'=>IB (s:={s' with nx:=.settle}) N hp hA ⟨H'.ref,H'.fO,H'.es,H'.en,H'.ws,H'.met⟩ hv') es.length {s with dN:=1,i:=0,bh:=some .settle} ⟨H.ref,H.fO,H.es,H.en,H.ws,H.met⟩ rfl rfl (Nat.zero_le _) (Nat.sub_zero _)
  exact this.up (by omega)
 ·exact (IB (s:={s with dN:=1}) N hp hA ⟨H.ref,H.fO,H.es,H.en,H.ws,H.met⟩ rfl).up (by omega)
theorem M9 (N:vQ r A es) (hp:∀s',s'.dN=1→s'.ended=true→post [s'] (jL r A es M)) (hA:M A=⟨0,ki r,0⟩) (hc:∀e∈es,M e.at'.toNat=e.old):∀(m:Nat) (s:Hs),Hb r du es s→s.i≤es.length→es.length - s.i=m→EH post (4*es.length+6+m) (cT s) (dX (mY r) (es.take s.i) M):=by
 intro m
 induction m with
 | zero=>
  intro s H hi hm
  rw [List.take_of_length_le (by omega)]
  unfold cT
  rw [if_pos (by rw [H.es]; omega)]
  exact Oe N hp hA H
 | succ m ih=>
  intro s H hi hm
  have he:=List.getElem?_eq_getElem (l:=es) (i:=s.i) (by omega)
  have hmem:es[s.i]'(by omega)∈es:=List.getElem_mem _
  have htk:es.take (s.i+1)=es.take s.i++[es[s.i]'(by omega)]:=by rw [List.take_add_one,he]; rfl
  generalize es[s.i]'(by omega)=e at he hmem htk
  obtain ⟨p,ep,hp2,_⟩ :=N.uE.at hmem
  have hpt:e.at'.toNat=p:=by omega
  have hw:dX (mY r) (es.take s.i) M p=e.old:=by rw [←hpt,zm N.uE he,hc e hmem]
  unfold cT
  rw [if_neg (by rw [H.es]; omega)]
  have hh:FO s=mY r e:=by unfold FO mY; rw [H.hE he,H.ref]
  rw [hh,H.hE he,ep]
  refine qn (k:=4*es.length+6+m) (yE (by omega) (Ww.held N hmem)) (N.ng H (by show s.i<s.es.length; rw [H.es]; omega)) (by decide) (by decide) ?_
  rw [wu hw]
  show EH post _ (pg {s with nx:=.nQ} ⟨e.old,true⟩) _
  unfold pg
  rw [if_pos (.inl rfl)]
  have hm2:fW (dX (mY r) (es.take s.i) M) p (mY r e)=dX (mY r) (es.take (s.i+1)) M:=by rw [htk,Dn,hpt]
  rw [hm2]
  exact ih {s with i:=s.i+1,nx:=.nQ} ⟨H.ref,H.fO,H.es,H.en,H.ws,H.met⟩ (by show s.i+1≤_; omega) (by show es.length - (s.i+1)=m; omega)
structure Hr (r:Int) (du:Bool) (n:Nat) (s:Hs):Prop where
 ref:s.ref=r
 fO:s.fO=du
 en:s.ended=false
 es:s.es=[]
 i:s.i=0
 many:s.many=n
 ws:∀x∈s.ws,Ww x
 met:Ww s.met
theorem vQ.zM (N:vQ r A es) {n:Nat} (H:Hr r du n s) (h:RE {s with nx:=kk} kk):Uv {s with nx:=kk}:=
 ⟨H.en,by show s.es.length≤1000; rw [H.es]; decide,by show 0≤bF (cZ s.ref); rw [H.ref,N.pl]; exact Int.natCast_nonneg _,H.ws,H.met,h⟩
theorem BM (N:vQ r A es) (hs:s.ref=r) {v:Int} (hv:0≤v∧v≤2):wR s ⟨v,ki r,0⟩=false:=by
 unfold wR Hs.seq
 rw [hs]
 refine decide_eq_false fun h=>?_
 rcases h with h | h | h | h
 ·exact h rfl
 ·exact h rfl
 ·dsimp only at h; omega
 ·dsimp only at h; omega
theorem Mh (N:vQ r A es) (hm:V3 M r A es) (hp:∀s',s'.dN=1→s'.ended=true→post [s'] (jL r A es M)) (H:Hr r du es.length s) (hw:s.ws=iT es):EH post (5*es.length+7) (nc s .checked) M:=by
 have hA2:=N.A
 have hl6:=N.uE.len
 have hat:s.at'=A:=by unfold Hs.at'; rw [H.ref]; exact N.pl
 unfold nc
 rw [hat]
 refine qn (k:=5*es.length+6) (mT (by omega)) (N.zM H ⟨by show s.ws.length=3*s.many; rw [hw,wi,H.many],by show s.many≤32; rw [H.many]; omega,H.i⟩) (by decide) (by decide) ?_
 rw [ku,hm.st]
 show EH post _ (m3 {s with nx:=.checked} ⟨0,ki r,0⟩) _
 unfold m3
 rw [BM (s:={s with nx:=HK.checked}) N H.ref ⟨by decide,by decide⟩,if_neg (fun h=>Bool.noConfusion h)]
 have hu:tp {s with nx:=HK.checked}.ws []=some es:=by
  show tp s.ws []=_
  rw [hw]; exact N.uE.unpack
 rw [hu]
 show EH post _ (if ¬(0:Int)=0 then _ else _) _
 rw [if_neg (fun h=>h rfl)]
 have hi0:=H.i
 have:=M9 (post:=post) (du:=du) N hp hm.st hm.Nn es.length {s with nx:=.checked,es:=es} ⟨H.ref,H.fO,rfl,H.en,H.ws,H.met⟩ (by show s.i≤_; omega) (by show es.length - s.i=_; omega)
 have e0:dX (mY r) (es.take s.i) M=M:=by rw [hi0]; rfl
 have this:EH post (4*es.length+6+es.length) (cT {s with nx:=HK.checked,es:=es}) (dX (mY r) (es.take s.i) M):=this
 rw [e0] at this
 exact this.up (by omega)
theorem TU (N:vQ r A es) (hm:V3 M r A es) (hwm:∀i,Ww (M i)) (hp:∀s',s'.dN=1→s'.ended=true→post [s'] (jL r A es M)):∀(m:Nat) (s:Hs),Hr r du es.length s→(∃j,s.ws=(iT es).take j∧j≤3*es.length∧3*es.length - j=m)→EH post (5*es.length+7+m) (qf s) M:=by
 have hpl:=wi es
 have hA2:=N.A
 intro m
 induction m with
 | zero=>
  intro s H ⟨j,hj,hj2,hj3⟩
  have:s.ws=iT es:=by rw [hj,List.take_of_length_le (by omega)]
  unfold qf
  rw [if_pos (by rw [this,hpl,H.many])]
  exact Mh N hm hp H this
 | succ m ih=>
  intro s H ⟨j,hj,hj2,hj3⟩
  have hl:s.ws.length=j:=by rw [hj,List.length_take]; omega
  have hx:=List.getElem?_eq_getElem (l:=iT es) (i:=j) (by omega)
  have htk:(iT es).take (j+1)=(iT es).take j++[(iT es)[j]'(by omega)]:=by rw [List.take_add_one,hx]; rfl
  generalize (iT es)[j]'(by omega)=w at hx htk
  have hf:yX s.who ((s.ws.length / 3:Nat):Int) ((s.ws.length % 3:Nat):Int)=((A+2+j:Nat):Int):=by
   unfold yX Hs.who
   rw [H.ref,N.pl,hl]
   omega
  unfold qf
  rw [if_neg (by rw [hl,H.many]; omega),hf]
  have hmost:=N.tg
  refine qn (k:=5*es.length+7+m) (BW (by omega)) (N.zM H ⟨⟨by show 0≤bF (cZ s.ref); rw [H.ref,N.pl]; exact Int.natCast_nonneg _,by show (s.many:Int)≤m8 (cZ s.ref); rw [H.ref,H.many]; exact hmost,by show s.ws.length≤3*s.many; rw [hl,H.many]; exact hj2⟩,by show s.ws.length<3*s.many; rw [hl,H.many]; omega⟩) (by decide) (by decide) ?_
  rw [zF,hm.A4 j w hx]
  have hww:Ww w:=by rw [←hm.A4 j w hx]; exact hwm _
  refine ih {s with nx:=.vF,ws:=s.ws++[w]} ⟨H.ref,H.fO,H.en,H.es,H.i,H.many,fun x hx=>?_,H.met⟩ ⟨j+1,by show s.ws++[w]=_; rw [hj,htk],by omega,by omega⟩
  rcases List.mem_append.1 hx with h | h
  ·exact H.ws x h
  ·rw [List.mem_singleton] at h; subst h; exact hww
theorem NI (N:vQ r A es) (hm:V3 M r A es) (hwm:∀i,Ww (M i)) (hp:∀s',s'.dN=1→s'.ended=true→post [s'] (jL r A es M)):qk fP Xi post (8*es.length+9) ([{Hs.new r du with nx:=.first}],⟨5,A,W0,W0⟩,false) M:=by
 have hA2:=N.A
 have hl6:=N.uE.len
 have w0:Ww W0:=⟨⟨by decide,by decide⟩,⟨by decide,by decide⟩,⟨by decide,by decide⟩⟩
 have Hn:Hr r du 0 (Hs.new r du):=⟨rfl,rfl,rfl,rfl,rfl,rfl,(fun x hx=>by cases hx),w0⟩
 show EH post (8*es.length+9) (lT (Hs.new r du) ⟨5,A,W0,W0⟩ .first) M
 refine qn (k:=8*es.length+8) (mT (by omega)) (N.zM Hn trivial) (by decide) (by decide) ?_
 rw [ku,hm.st]
 have hone:oQ {Hs.new r du with nx:=HK.first} ⟨⟨0,ki r,0⟩,true⟩=lT {Hs.new r du with nx:=HK.first} ⟨1,((A+1:Nat):Int),W0,W0⟩ .kY:=by
  show (if wR {Hs.new r du with nx:=HK.first} ⟨0,ki r,0⟩=true then _ else lT _ ⟨1,bF (cZ r)+1,W0,W0⟩ .kY)=_
  rw [BM (s:={Hs.new r du with nx:=HK.first}) N rfl ⟨by decide,by decide⟩,if_neg (fun h=>Bool.noConfusion h),N.pl]
  rfl
 rw [hone]
 have Hn2:Hr r du 0 {Hs.new r du with nx:=HK.first}:=⟨rfl,rfl,rfl,rfl,rfl,rfl,(fun x hx=>by cases hx),w0⟩
 refine qn (k:=8*es.length+7) (BW (by omega)) (N.zM Hn2 rfl) (by decide) (by decide) ?_
 rw [zF]
 have hcnt:=hm.cnt
 show EH post _ (oQ {Hs.new r du with nx:=.kY} ⟨M (A+1),true⟩) M
 rw [hcnt]
 show EH post _ (qt {Hs.new r du with nx:=.kY} ⟨es.length,0,0⟩) _
 have hmost:=N.tg
 unfold qt
 rw [if_neg (fun h=>by
  rcases h with h | h | h
  ·dsimp only at h; omega
  ·have h:m8 (cZ r)<(es.length:Int):=h
   omega
  ·exact h rfl)]
 have:=TU (post:=post) (du:=du) N hm hwm hp (3*es.length) {Hs.new r du with nx:=.kY,many:=es.length} ⟨rfl,rfl,rfl,rfl,rfl,rfl,(fun x hx=>by cases hx),w0⟩ ⟨0,rfl,by omega,by omega⟩
 exact this.up (by omega)
end
end Go.En
namespace Go.En
section
variable {post:List Hs→Mem→Prop} {k:Nat} {s:Hs} {a:Ac} {M M2:Mem} {r:Int} {A:Nat} {du:Bool} {es:List Et} {kk:HK}
theorem Qr (N:vQ r A es) (hfld:∀(j:Nat) w,(iT es)[j]?=some w→M (A+2+j)=w) (hwm:∀i,Ww (M i)) {kc:Nat} (hC:∀s,Hr r du es.length s→s.ws=iT es→EH post kc (nc s .checked) M):∀(m:Nat) (s:Hs),Hr r du es.length s→(∃j,s.ws=(iT es).take j∧j≤3*es.length∧3*es.length - j=m)→EH post (kc+m) (qf s) M:=by
 have hpl:=wi es
 have hA2:=N.A
 intro m
 induction m with
 | zero=>
  intro s H ⟨j,hj,hj2,hj3⟩
  have:s.ws=iT es:=by rw [hj,List.take_of_length_le (by omega)]
  unfold qf
  rw [if_pos (by rw [this,hpl,H.many])]
  exact hC s H this
 | succ m ih=>
  intro s H ⟨j,hj,hj2,hj3⟩
  have hl:s.ws.length=j:=by rw [hj,List.length_take]; omega
  have hx:=List.getElem?_eq_getElem (l:=iT es) (i:=j) (by omega)
  have htk:(iT es).take (j+1)=(iT es).take j++[(iT es)[j]'(by omega)]:=by rw [List.take_add_one,hx]; rfl
  generalize (iT es)[j]'(by omega)=w at hx htk
  have hf:yX s.who ((s.ws.length / 3:Nat):Int) ((s.ws.length % 3:Nat):Int)=((A+2+j:Nat):Int):=by
   unfold yX Hs.who
   rw [H.ref,N.pl,hl]
   omega
  unfold qf
  rw [if_neg (by rw [hl,H.many]; omega),hf]
  have hmost:=N.tg
  refine qn (k:=kc+m) (BW (by omega)) (N.zM H ⟨⟨by show 0≤bF (cZ s.ref); rw [H.ref,N.pl]; exact Int.natCast_nonneg _,by show (s.many:Int)≤m8 (cZ s.ref); rw [H.ref,H.many]; exact hmost,by show s.ws.length≤3*s.many; rw [hl,H.many]; exact hj2⟩,by show s.ws.length<3*s.many; rw [hl,H.many]; omega⟩) (by decide) (by decide) ?_
  rw [zF,hfld j w hx]
  have hww:Ww w:=by rw [←hfld j w hx]; exact hwm _
  refine ih {s with nx:=.vF,ws:=s.ws++[w]} ⟨H.ref,H.fO,H.en,H.es,H.i,H.many,fun x hx=>?_,H.met⟩ ⟨j+1,by show s.ws++[w]=_; rw [hj,htk],by omega,by omega⟩
  rcases List.mem_append.1 hx with h | h
  ·exact H.ws x h
  ·rw [List.mem_singleton] at h; subst h; exact hww
theorem QO (N:vQ r A es) {v:Int} (hv:0≤v∧v≤2) (hst:M A=⟨v,ki r,0⟩) (hcnt:M (A+1)=⟨es.length,0,0⟩) (hfld:∀(j:Nat) w,(iT es)[j]?=some w→M (A+2+j)=w) (hwm:∀i,Ww (M i)) {kc:Nat} (hC:∀s,Hr r du es.length s→s.ws=iT es→EH post kc (nc s .checked) M):qk fP Xi post (kc+3*es.length+2) ([{Hs.new r du with nx:=.first}],⟨5,A,W0,W0⟩,false) M:=by
 have hA2:=N.A
 have hl6:=N.uE.len
 have w0:Ww W0:=⟨⟨by decide,by decide⟩,⟨by decide,by decide⟩,⟨by decide,by decide⟩⟩
 have Hn:Hr r du 0 (Hs.new r du):=⟨rfl,rfl,rfl,rfl,rfl,rfl,(fun x hx=>by cases hx),w0⟩
 show EH post (kc+3*es.length+2) (lT (Hs.new r du) ⟨5,A,W0,W0⟩ .first) M
 refine qn (k:=kc+3*es.length+1) (mT (by omega)) (N.zM Hn trivial) (by decide) (by decide) ?_
 rw [ku,hst]
 have hone:oQ {Hs.new r du with nx:=HK.first} ⟨⟨v,ki r,0⟩,true⟩=lT {Hs.new r du with nx:=HK.first} ⟨1,((A+1:Nat):Int),W0,W0⟩ .kY:=by
  show (if wR {Hs.new r du with nx:=HK.first} ⟨v,ki r,0⟩=true then _ else lT _ ⟨1,bF (cZ r)+1,W0,W0⟩ .kY)=_
  rw [BM (s:={Hs.new r du with nx:=HK.first}) N rfl hv,if_neg (fun h=>Bool.noConfusion h),N.pl]
  rfl
 rw [hone]
 have Hn2:Hr r du 0 {Hs.new r du with nx:=HK.first}:=⟨rfl,rfl,rfl,rfl,rfl,rfl,(fun x hx=>by cases hx),w0⟩
 refine qn (k:=kc+3*es.length) (BW (by omega)) (N.zM Hn2 rfl) (by decide) (by decide) ?_
 rw [zF]
 show EH post _ (oQ {Hs.new r du with nx:=.kY} ⟨M (A+1),true⟩) M
 rw [hcnt]
 show EH post _ (qt {Hs.new r du with nx:=.kY} ⟨es.length,0,0⟩) _
 have hmost:=N.tg
 unfold qt
 rw [if_neg (fun h=>by
  rcases h with h | h | h
  ·dsimp only at h; omega
  ·have h:m8 (cZ r)<(es.length:Int):=h
   omega
  ·exact h rfl)]
 have:=Qr (post:=post) (du:=du) N hfld hwm hC (3*es.length) {Hs.new r du with nx:=.kY,many:=es.length} ⟨rfl,rfl,rfl,rfl,rfl,rfl,(fun x hx=>by cases hx),w0⟩ ⟨0,rfl,by omega,by omega⟩
 exact this.up (by omega)
theorem Qx (N:vQ r A es) (hp:∀s',s'.dN=1→s'.ended=true→post [s'] M) (hf:∀e∈es,¬(M e.at'.toNat).ref=r):∀(m:Nat) (s:Hs),Hb r du es s→s.i≤es.length→s.dN=1→es.length - s.i=m→EH post (es.length+1+m) (qP s) M:=by
 intro m
 induction m with
 | zero=>
  intro s H hi hv hm
  exact So N hp H (by omega) hv
 | succ m ih=>
  intro s H hi hv hm
  have he:=List.getElem?_eq_getElem (l:=es) (i:=s.i) (by omega)
  have hmem:es[s.i]'(by omega)∈es:=List.getElem_mem _
  generalize es[s.i]'(by omega)=e at he hmem
  obtain ⟨p,ep,hp2,_⟩ :=N.uE.at hmem
  have hpt:e.at'.toNat=p:=by omega
  unfold qP
  rw [if_pos (by rw [H.es]; omega),H.hE he,ep]
  refine qn (k:=es.length+1+m) (mT (by omega)) (N.ng H (by show s.i<s.es.length; rw [H.es]; omega)) (by decide) (by decide) ?_
  rw [ku]
  show EH post _ (vn {s with nx:=.found} (M p)) _
  unfold vn
  rw [if_neg (fun x=>hf e hmem (by rw [hpt,x.1]; exact H.ref))]
  exact ih {s with i:=s.i+1,nx:=.found} ⟨H.ref,H.fO,H.es,H.en,H.ws,H.met⟩ (by show s.i+1≤_; omega) hv (by show es.length - (s.i+1)=m; omega)
theorem Ix (N:vQ r A es) (hp:∀s',s'.dN=1→s'.ended=true→post [s'] M) (hf:∀e∈es,¬(M e.at'.toNat).ref=r) (hA:M A=⟨1,ki r,0⟩) (H:Hb r du es s):EH post (2*es.length+2) (nc s .known) M:=by
 have hA2:=N.A
 unfold nc
 rw [N.at' H]
 refine qn (k:=2*es.length+1) (mT (by omega)) (N.ng H trivial) (by decide) (by decide) ?_
 rw [ku,hA]
 show EH post _ (xk {s with nx:=.known} ⟨1,ki r,0⟩) _
 unfold xk
 have e:(⟨1,ki r,0⟩:W3)=⟨1,{s with nx:=HK.known}.seq,0⟩ :=by
  show _=(⟨1,s.seq,0⟩:W3)
  rw [H.seq]
 rw [if_pos (.inl e)]
 have:=Qx (post:=post) (du:=du) N hp hf es.length {s with nx:=.known,dN:=1,i:=0} ⟨H.ref,H.fO,H.es,H.en,H.ws,H.met⟩ (Nat.zero_le _) rfl (Nat.sub_zero _)
 exact this.up (by omega)
theorem KF (N:vQ r A es) (hp:∀s',s'.dN=1→s'.ended=true→post [s'] M) (hf:∀e∈es,¬(M e.at'.toNat).ref=r) (hA:M A=⟨1,ki r,0⟩) (H:Hb r du es s):EH post (2*es.length+4) (eB s) M:=by
 have hA2:=N.A
 unfold eB
 split
 ·rw [N.at' H]
  refine qn (k:=2*es.length+3) (zC (by omega)) (N.ng H trivial) (by decide) (by decide) ?_
  rw [nN (.inl rfl)]
  have H2:Hb r du es {s with nx:=HK.jO}:=⟨H.ref,H.fO,H.es,H.en,H.ws,H.met⟩
  refine qn (k:=2*es.length+2) zy (N.ng H2 trivial) (by decide) (by decide) ?_
  rw [nN (.inr rfl)]
  exact Ix N hp hf hA (s:={s with nx:=HK.mH}) ⟨H.ref,H.fO,H.es,H.en,H.ws,H.met⟩
 ·exact (Ix N hp hf hA H).up (by omega)
theorem R1 (N:vQ r A es) (hst:M A=⟨1,ki r,0⟩) (hcnt:M (A+1)=⟨es.length,0,0⟩) (hfld:∀(j:Nat) w,(iT es)[j]?=some w→M (A+2+j)=w) (hwm:∀i,Ww (M i)) (hf:∀e∈es,¬(M e.at'.toNat).ref=r) (hp:∀s',s'.dN=1→s'.ended=true→post [s'] M) :
  qk fP Xi post (5*es.length+7) ([{Hs.new r du with nx:=.first}],⟨5,A,W0,W0⟩,false) M:=by
 have:=QO (post:=post) (du:=du) (kc:=2*es.length+5) N (v:=1) ⟨by decide,by decide⟩ hst hcnt hfld hwm fun s H hw=>by
  have hA2:=N.A
  have hl6:=N.uE.len
  have hat:s.at'=A:=by unfold Hs.at'; rw [H.ref]; exact N.pl
  unfold nc
  rw [hat]
  refine qn (k:=2*es.length+4) (mT (by omega)) (N.zM H ⟨by show s.ws.length=3*s.many; rw [hw,wi,H.many],by show s.many≤32; rw [H.many]; omega,H.i⟩) (by decide) (by decide) ?_
  rw [ku,hst]
  show EH post _ (m3 {s with nx:=.checked} ⟨1,ki r,0⟩) _
  unfold m3
  rw [BM (s:={s with nx:=HK.checked}) N H.ref ⟨by decide,by decide⟩,if_neg (fun h=>Bool.noConfusion h)]
  have hu:tp {s with nx:=HK.checked}.ws []=some es:=by
   show tp s.ws []=_
   rw [hw]; exact N.uE.unpack
  rw [hu]
  show EH post _ (if ¬(1:Int)=0 then _ else _) _
  rw [if_pos (by decide)]
  exact KF N hp hf hst ⟨H.ref,H.fO,rfl,H.en,H.ws,H.met⟩
 exact this.up (by omega)
end
end Go.En
namespace Go.En
def Qh (s:Sw) (_:iM):Prop:=SO s∧OP s.ph
def wA (l:List Ac) (M:Mem):Mem:=l.foldl (fun M a=>(exec M a).1) M
theorem rC {l1 l2:List Ac} {M:Mem}:wA (l1++l2) M=wA l2 (wA l1 M):=List.foldl_append
section
variable {post:Sw→Mem→Prop} {k:Nat} {M:Mem} {du:Bool} {es:List Et} {t:Nat} {q:Int} {ph ph':SP}
abbrev sd (t:Nat) (q:Int) (du:Bool) (es:List Et) (ph:SP):Sw:=⟨t,q,du,es,ph⟩
theorem PZ (ok:SO (sd t q du es .uI)):∀(l:List Ac) (ph:SP) (M:Mem),(∀a∈l,zU a)→qk j8 Qh post k (Rn (sd t q du es ph)) (wA l M)→qk j8 Qh post (k+l.length) (IZ (sd t q du es ph) l) M
 | [],_,_,_,h=>h
 | a::l,ph,M,ha,h=>by
  show qk j8 Qh post (k+l.length+1) (sd t q du es (.Dw l),a,false) M
  refine .step (ha a List.mem_cons_self) ⟨⟨ok.t,ok.seq,ok.es⟩,trivial⟩ ?_
  exact PZ ok l (.Dw l) (exec M a).1 (fun x hx=>ha x (List.mem_cons_of_mem _ hx)) h
theorem An {s:Sw} {l:List Int}:wA (pW s l) M=M:=by
 unfold pW
 split
 ·rw [rC]
  have:∀l:List Int,wA (l.map fun p=>(⟨7,p,W0,W0⟩:Ac)) M=M:=fun l=>by
   induction l with
   | nil=>rfl
   | cons p l ih=>
    show wA _ (exec M ⟨7,p,W0,W0⟩).1=_
    rw [nN (.inl rfl)]; exact ih
  rw [this]
  show (exec M ⟨8,0,W0,W0⟩).1=M
  rw [nN (.inr rfl)]
 ·rfl
theorem Je {s:Sw} {l:List Int} (h:∀p∈l,0≤p∧p<512):∀a∈pW s l,zU a:=by
 unfold pW
 split
 ·intro a ha
  rcases List.mem_append.1 ha with ha | ha
  ·obtain ⟨p,hp,rfl⟩ :=List.mem_map.1 ha
   obtain ⟨n,rfl⟩:∃n:Nat,p=n:=⟨p.toNat,by have:=h p hp; omega⟩
   exact zC (by have:=h _ hp; omega)
  ·rw [List.mem_singleton] at ha
   subst ha
   exact zy
 ·intro a ha; cases ha
def yY (f:List W3) (p:Nat) (M:Mem):Mem:=fun j=>if p≤j∧j<p+f.length then f.getD (j - p) W0 else M j
theorem BJ:∀(f:List W3) (p:Nat) (M:Mem),wA (kS f p) M=yY f p M
 | [],p,M=>by
  funext j
  show M j=_
  unfold yY
  rw [if_neg (by simp only [List.length_nil]; omega)]
 | w::f,p,M=>by
  show wA (kS f ((p:Int)+1)) (exec M ⟨3,p,W0,w⟩).1=_
  rw [yx (.inl rfl),show ((p:Int)+1)=((p+1:Nat):Int) by omega,BJ f (p+1)]
  funext j
  unfold yY
  by_cases e:p=j
  ·subst e
   rw [if_neg (by omega),if_pos (by simp only [List.length_cons]; omega),Nat.sub_self]
   exact tX
  ·by_cases c:p+1≤j∧j<p+1+f.length
   ·rw [if_pos c,if_pos (by simp only [List.length_cons]; omega),show j - p=(j - (p+1))+1 by omega]; rfl
   ·rw [if_neg c,if_neg (by simp only [List.length_cons]; omega)]
    exact nt (fun x=>e x.symm)
theorem D6:∀(f:List W3) (p:Nat),(∀w∈f,Ww w)→p+f.length≤512→∀a∈kS f p,zU a
 | [],_,_,_,a,h=>by cases h
 | w::f,p,hw,hp,a,h=>by
  have h:a∈(⟨3,p,W0,w⟩:Ac)::kS f ((p:Int)+1):=h
  rcases List.mem_cons.1 h with rfl | h
  ·exact BH (.inl rfl) (by simp only [List.length_cons] at hp; omega) (hw w List.mem_cons_self)
  ·rw [show ((p:Int)+1)=((p+1:Nat):Int) by omega] at h
   exact D6 f (p+1) (fun x hx=>hw x (List.mem_cons_of_mem _ hx)) (by simp only [List.length_cons] at hp; omega) a h
theorem Ww.iT (g:Good es):∀w∈iT es,Ww w:=fun w hw=>by
 obtain ⟨e,he,hw⟩ :=List.mem_flatMap.1 hw
 have h0:=g.pl e he
 have h1:=g.dN e he
 have h2:=g.val e he
 simp only [List.mem_cons,List.not_mem_nil,or_false] at hw
 rcases hw with rfl | rfl | rfl
 ·refine ⟨⟨by show -9223372036854775808≤e.at'; omega,by show e.at'≤9223372036854775807; omega⟩,?_,⟨Int.le_refl 0,(by decide:(0:Int)<4294967296)⟩⟩
  show 0≤(if e.wr=true then (1:Int) else 0)∧(if e.wr=true then (1:Int) else 0)<4294967296
  split <;> omega
 ·exact ⟨h2.1,by show 0≤e.old.dN∧e.old.dN<_; omega,⟨Int.le_refl 0,(by decide:(0:Int)<4294967296)⟩⟩
 ·exact ⟨h2.2,⟨Int.le_refl 0,(by decide:(0:Int)<4294967296)⟩,⟨Int.le_refl 0,(by decide:(0:Int)<4294967296)⟩⟩
def lr (A:Nat) (q:Int) (es:List Et) (M:Mem):Mem:=fW (yY (dS es) (A+1) (fW M A ⟨3,q,0⟩)) A ⟨0,q,0⟩
theorem uk {A:Nat} {j:Nat} (h:j<A∨A+2+3*es.length≤j):lr A q es M j=M j:=by
 have hl:=vj es
 unfold lr
 rw [nt (by omega)]
 unfold yY
 rw [if_neg (by omega),nt (by omega)]
theorem ID {A:Nat}:lr A q es M A=⟨0,q,0⟩ :=tX
theorem F9 {A j:Nat} {w:W3} (h:(dS es)[j]?=some w):lr A q es M (A+1+j)=w:=by
 have hl:=(List.getElem?_eq_some_iff.1 h).1
 unfold lr
 rw [nt (by omega)]
 unfold yY
 rw [if_pos (by omega),List.getD_eq_getElem?_getD,show A+1+j - (A+1)=j by omega,h]; rfl
theorem CG {A:Nat}:lr A q es M (A+1)=⟨es.length,0,0⟩ :=F9 (j:=0) rfl
theorem EB {A j:Nat} {w:W3} (h:(iT es)[j]?=some w):lr A q es M (A+2+j)=w:=by
 have:=F9 (A:=A) (q:=q) (M:=M) (j:=j+1) (w:=w) (es:=es) (by rw [sC,List.getElem?_cons_succ]; exact h)
 rw [show A+2+j=A+1+(j+1) by omega]
 exact this
theorem Bl {A:Nat} (g:Good es) (hq:0≤q∧q<4294967296) (h:∀i,Ww (M i)) (i:Nat):Ww (lr A q es M i):=by
 unfold lr fW yY
 split
 ·exact Ww.st ⟨by decide,by decide⟩ hq
 ·split
  ·rename_i c
   have hm:(dS es).getD (i - (A+1)) W0∈dS es:=by
    rw [List.getD_eq_getElem?_getD,List.getElem?_eq_getElem (by omega)]
    exact List.getElem_mem _
   rw [sC] at hm⊢
   rcases List.mem_cons.1 hm with e | e
   ·rw [e]
    have:=g.len
    exact ⟨⟨by dsimp only; omega,by dsimp only; omega⟩,⟨Int.le_refl 0,(by decide:(0:Int)<4294967296)⟩,⟨Int.le_refl 0,(by decide:(0:Int)<4294967296)⟩⟩
   ·exact Ww.iT g _ e
  ·show Ww (if i=A then _ else _)
   split
   ·exact Ww.st ⟨by decide,by decide⟩ hq
   ·exact h i
theorem Gc {f:Et→W3} (hf:∀e∈es,Ww (f e)) (h:∀i,Ww (M i)) (i:Nat):Ww (dX f es M i):=by
 unfold dX
 induction es generalizing M with
 | nil=>exact h i
 | cons e l ih=>
  refine ih (fun x hx=>hf x (List.mem_cons_of_mem _ hx)) fun j=>?_
  show Ww (if j=e.at'.toNat then f e else M j)
  split
  ·exact hf e List.mem_cons_self
  ·exact h j
theorem Iw {r:Int} {A:Nat} (N:vQ r A es) (h:∀i,Ww (M i)) (i:Nat):Ww (jL r A es M i):=by
 refine Gc (fun e he=>Ww.rel N.uE he) (fun j=>?_) i
 unfold fW
 split
 ·exact Ww.st ⟨by decide,by decide⟩ N.seq
 ·exact Gc (fun e he=>Ww.held N he) h j
theorem Ig {r:Int} {A:Nat} (N:vQ r A es) {j:Nat} (hj:j<64):jL r A es M j=dX tj es M j:=by
 have hA:=N.A
 unfold jL
 by_cases c:∃e∈es,j=e.at'.toNat
 ·obtain ⟨e,he,rfl⟩ :=c
  obtain ⟨i,hi,rfl⟩ :=List.mem_iff_getElem.1 he
  have hx:=List.getElem?_eq_getElem (l:=es) hi
  have hd:∀(j:Nat) (b:Et),i<j→es[j]?=some b→¬es[i].at'.toNat=b.at'.toNat:=fun j b h1 h2=>N.uE.ne (by omega) hx h2
  rw [vY hx hd,vY hx hd]
 ·have hn:∀e∈es,¬j=e.at'.toNat:=fun e he x=>c ⟨e,he,x⟩
  rw [nT hn,nT hn,nt (by omega),nT hn]
theorem ur {r:Int} {A:Nat} (N:vQ r A es) {j:Nat} (hj:64≤j):jL r A es M j=if j=A then ⟨1,ki r,0⟩ else M j:=by
 have hn:∀e∈es,¬j=e.at'.toNat:=fun e he x=>by have:=N.uE.pl e he; omega
 unfold jL
 rw [nT hn]
 unfold fW
 split
 ·rfl
 ·exact nT hn
end
end Go.En
namespace Go.En
def IV (M:Mem) (q:Int):Prop:=(q=0∧M 64=⟨2,0,0⟩)∨(1≤q∧∃es0,Good es0∧M 64=⟨1,q,0⟩ ∧M 65=⟨es0.length,0,0⟩ ∧∀(j:Nat) w,(iT es0)[j]?=some w→M (66+j)=w)
theorem wG {w q:Int} (hw:1≤w∧w≤72) (hq:1≤q∧q≤16777215):cZ (eU w q)=w∧ki (eU w q)=q:=by
 have e1:eU w q / 16777216=w:=by unfold eU; omega
 have e2:eU w q % 16777216=q:=by unfold eU; omega
 have e3:IQ w q=true:=decide_eq_true ⟨hw.1,hw.2,hq.1,hq.2⟩
 unfold cZ ki
 rw [e1,e2,e3]
 exact ⟨rfl,rfl⟩
section
variable {post:Sw→Mem→Prop} {k:Nat} {M:Mem} {du:Bool} {es:List Et} {t:Nat} {q:Int} {ph ph':SP}
theorem vQ.slot (g:Good es) (hq:1≤q∧q≤16777215):vQ (eU 1 q) 64 es:=by
 obtain ⟨h1,h2⟩ :=wG (w:=1) ⟨by decide,by decide⟩ hq
 have hl:=g.len
 refine ⟨g,by rw [h1]; rfl,by omega,by rw [h1]; show (es.length:Int)≤32; omega,by rw [h1]; decide,?_,by rw [h2]; omega⟩
 unfold eU
 omega
theorem XL (g:Good es) (hq:1≤q∧q≤16777215) (hm:V3 M (eU 1 q) 64 es) (hwm:∀i,Ww (M i)) (hp:∀s,s.ph=.over true→post s (jL (eU 1 q) 64 es M)):qk j8 Qh post (8*es.length+9) (Rn (sd 1 q du es ph)) M:=by
 have hl:=g.len
 have ok:SO (sd 1 q du es .uI):=⟨⟨(by decide:1≤1),(by decide:1≤3)⟩,hq,by show es.length≤300; omega⟩
 have:=qk.lift (nxO:=j8) (okO:=Qh) (postO:=post) (k2:=0) (fun hs=>sd 1 q du es (.own hs)) (fun hs=>Na (sd 1 q du es (.own hs)) (decide (M4 hs=1))) (fun hs g' h=>⟨⟨ok.t,ok.seq,ok.es⟩,h⟩)
  (fun hs g' _ hd=>by
   show (match fP hs g' with | (hs,a,false)=>_ | (hs,_,true)=>_)=_
   generalize fP hs g'=x at hd
   obtain ⟨hs',a,d⟩ :=x
   have hd:d=false:=hd
   subst hd; rfl)
  (fun hs g' _ hd=>by
   show (match fP hs g' with | (hs,a,false)=>_ | (hs,_,true)=>_)=_
   generalize fP hs g'=x at hd
   obtain ⟨hs',a,d⟩ :=x
   have hd:d=true:=hd
   subst hd; rfl)
  (fun hs M' (h:M4 hs=1∧M'=jL (eU 1 q) 64 es M)=>by
   obtain ⟨h1,rfl⟩ :=h
   rw [h1]
   exact .done (hp _ rfl))
  (NI (post:=fun hs M'=>M4 hs=1∧M'=jL (eU 1 q) 64 es M) (du:=du) (vQ.slot g hq) hm hwm fun s' hv _=>⟨hv,rfl⟩)
 exact this
theorem JR {a:Int} {n:Nat} {p:Int} (h:p∈gW a n):a+1≤p∧p<a+1+n:=by
 unfold gW at h
 have h:=(List.mem_filter.1 h).1
 obtain ⟨i,hi,rfl⟩ :=List.mem_map.1 h
 rw [List.mem_range] at hi
 omega
theorem FU {s:Sw} {l:List Int}:(pW s l).length≤l.length+1:=by
 unfold pW
 split
 ·rw [List.length_append,List.length_map,List.length_singleton]; exact Nat.le_refl _
 ·exact Nat.zero_le _
theorem UY (g:Good es) (hq:1≤q∧q≤16777215) (hwm:∀i,Ww (M i)) (hc:∀e∈es,M e.at'.toNat=e.old) (hp:∀s,s.ph=.over true→post s (jL (eU 1 q) 64 es (lr 64 q es M))):qk j8 Qh post 110 (z6 (sd 1 q du es ph)) M:=by
 have hl:=g.len
 have hsl:=vj es
 have ok:SO (sd 1 q du es .uI):=⟨⟨(by decide:1≤1),(by decide:1≤3)⟩,hq,by show es.length≤300; omega⟩
 have hs2:=(wG (w:=1) ⟨by decide,by decide⟩ hq).2
 have N:=vQ.slot g hq
 have BA:∀v:Int,0≤v∧v≤3→Ww ⟨v,q,0⟩ :=fun v hv=>Ww.st hv (by omega)
 have hex:wA (lW (sd 1 q du es ph)) M=lr 64 q es M:=by
  show wA (((((((⟨4,((64:Nat):Int),W0,⟨3,q,0⟩⟩::pW _ [64])++kS (dS es) ((65:Nat):Int))++pW _ (gW 64 (dS es).length))++[⟨4,((64:Nat):Int),W0,⟨0,q,0⟩⟩])++pW _ [64]))) M=_
  rw [rC,An,rC,rC,An,rC]
  show (exec (wA _ (wA (pW _ [64]) (exec M _).1)) ⟨4,((64:Nat):Int),W0,⟨0,q,0⟩⟩).1=_
  rw [An,BJ,yx (.inr rfl),yx (.inr rfl)]
  rfl
 have hact:∀a∈lW (sd 1 q du es ph),zU a:=by
  show ∀a∈(((((⟨4,((64:Nat):Int),W0,⟨3,q,0⟩⟩::pW (sd 1 q du es ph) [64])++kS (dS es) ((65:Nat):Int))++pW (sd 1 q du es ph) (gW 64 (dS es).length))++[(⟨4,((64:Nat):Int),W0,⟨0,q,0⟩⟩:Ac)])++pW (sd 1 q du es ph) [64]),zU a
  intro a ha
  have k64:∀a∈pW (sd 1 q du es ph) [64],zU a:=Je fun p hp=>by rw [List.mem_singleton] at hp; subst hp; decide
  rcases List.mem_append.1 ha with ha | ha
  ·rcases List.mem_append.1 ha with ha | ha
   ·rcases List.mem_append.1 ha with ha | ha
    ·rcases List.mem_append.1 ha with ha | ha
     ·rcases List.mem_cons.1 ha with rfl | ha
      ·exact BH (.inr rfl) (by decide) (BA 3 ⟨by decide,by decide⟩)
      ·exact k64 a ha
     ·refine D6 _ _ (fun w hw=>?_) (by omega) a ha
      rw [sC] at hw
      rcases List.mem_cons.1 hw with rfl | hw
      ·exact ⟨⟨by dsimp only; omega,by dsimp only; omega⟩,⟨Int.le_refl 0,(by decide:(0:Int)<4294967296)⟩,⟨Int.le_refl 0,(by decide:(0:Int)<4294967296)⟩⟩
      ·exact Ww.iT g w hw
    ·exact Je (fun p hp=>by have:=JR hp; omega) a ha
   ·rw [List.mem_singleton] at ha
    subst ha
    exact BH (.inr rfl) (by decide) (BA 0 ⟨by decide,by decide⟩)
  ·exact k64 a ha
 have hlen:(lW (sd 1 q du es ph)).length≤45:=by
  show (((((⟨4,((64:Nat):Int),W0,⟨3,q,0⟩⟩::pW (sd 1 q du es ph) [64])++kS (dS es) ((65:Nat):Int))++pW (sd 1 q du es ph) (gW 64 (dS es).length))++[(⟨4,((64:Nat):Int),W0,⟨0,q,0⟩⟩:Ac)])++pW (sd 1 q du es ph) [64]).length≤45
  have h1:=FU (s:=sd 1 q du es ph) (l:=[64])
  have h2:=FU (s:=sd 1 q du es ph) (l:=gW 64 (dS es).length)
  have h3:(gW 64 (dS es).length).length≤(dS es).length:=by
   unfold gW
   refine Nat.le_trans (List.length_filter_le _ _) ?_
   rw [List.length_map,List.length_range]; exact Nat.le_refl _
  simp only [List.length_append,List.length_cons,List.length_nil,uR] at h1⊢
  omega
 have hm:V3 (lr 64 q es M) (eU 1 q) 64 es:=⟨by rw [hs2]; exact ID,CG,fun j w h=>EB h,fun e he=>by
  have:=g.pl e he
  rw [uk (by omega)]; exact hc e he⟩
 have:=PZ (post:=post) (k:=8*es.length+9) (du:=du) (es:=es) (t:=1) (q:=q) ok (lW (sd 1 q du es ph)) ph M hact (by rw [hex]; exact XL g hq hm (Bl g (by omega) hwm) hp)
 exact this.up (by omega)
theorem XH (g:Good es) (hq:0≤q∧q<16777215) (hS:IV M q) (hwm:∀i,Ww (M i)) (hc:∀e∈es,M e.at'.toNat=e.old) (hcr:∀j,56≤j→j<62→(M j).ref=0) (hp:∀s,s.ph=.over true→post s (jL (eU 1 (q+1)) 64 es (lr 64 (q+1) es M))):qk j8 Qh post 150 (J8 1 (q+1) du es,⟨5,((64:Nat):Int),W0,W0⟩,false) M:=by
 have hl:=g.len
 have ok:SO (sd 1 (q+1) du es .uI):=⟨⟨(by decide:1≤1),(by decide:1≤3)⟩,by show 1≤q+1∧q+1≤16777215; omega,by show es.length≤300; omega⟩
 have hF:∀ph,qk j8 Qh post 110 (z6 (sd 1 (q+1) du es ph)) M:=fun ph=>UY g (by omega) hwm hc hp
 refine .step (k:=149) (mT (by decide)) ⟨⟨ok.t,ok.seq,ok.es⟩,trivial⟩ ?_
 rw [ku]
 show qk j8 Qh post 149 (xx (sd 1 (q+1) du es .uI) (M 64)) M
 unfold xx
 rcases hS with ⟨rfl,h64⟩ | ⟨hq1,es0,g0,h64,h65,hpk⟩
 ·rw [h64,if_neg (by show ¬((0:Int)+1≤0); decide),if_pos (.inl (show IQ ((1:Nat):Int) 0=false by decide))]
  exact (hF _).up (by decide)
 ·have hl0:=g0.len
  have ho:IQ ((1:Nat):Int) q=true:=decide_eq_true ⟨by decide,by decide,hq1,by omega⟩
  rw [h64,if_neg (by show ¬(q+1≤q); omega),if_neg (by
   show ¬(IQ ((1:Nat):Int) q=false∨¬((1:Int)=0∨(1:Int)=1))
   rw [ho]; decide)]
  have N0:=vQ.slot g0 (q:=q) ⟨hq1,by omega⟩
  have hs2:=(wG (w:=1) (q:=q) ⟨by decide,by decide⟩ ⟨hq1,by omega⟩).2
  have:=qk.lift (nxO:=j8) (okO:=Qh) (postO:=post) (k2:=110) (fun hs=>sd 1 (q+1) du es (.last hs)) (fun _=>z6 (sd 1 (q+1) du es .uI)) (fun hs g' h=>⟨⟨ok.t,ok.seq,ok.es⟩,h⟩)
   (fun hs g' _ hd=>by
    show (match fP hs g' with | (hs,a,false)=>_ | (_,_,true)=>_)=_
    generalize fP hs g'=x at hd
    obtain ⟨hs',a,d⟩ :=x
    have hd:d=false:=hd
    subst hd; rfl)
   (fun hs g' _ hd=>by
    show (match fP hs g' with | (hs,a,false)=>_ | (_,_,true)=>_)=_
    generalize fP hs g'=x at hd
    obtain ⟨hs',a,d⟩ :=x
    have hd:d=true:=hd
    subst hd; rfl)
   (fun hs M' (h:M'=M)=>by subst h; exact hF _)
   (R1 (post:=fun _ M'=>M'=M) (du:=du) N0 (by rw [hs2]; exact h64) h65 hpk hwm (fun e he=>by
    have h1:=g0.pl e he
    rw [hcr _ (by omega) (by omega)]
    have:=N0.r0
    omega) fun _ _ _=>rfl)
  exact qk.up this (by omega)
end
end Go.En
namespace Go.En
def okB (s:Bk) (_:iM):Prop:=xT s
theorem vQ.block {q:Int} {es:List Et} (g:Good es) (hq:1≤q∧q≤16777215):vQ (eU 9 q) 384 es:=by
 obtain ⟨h1,h2⟩ :=wG (w:=9) ⟨by decide,by decide⟩ hq
 have hl:=g.len
 refine ⟨g,by rw [h1]; rfl,by omega,by rw [h1]; show (es.length:Int)≤10; omega,by rw [h1]; decide,?_,by rw [h2]; omega⟩
 unfold eU
 omega
section
variable {post:Bk→Mem→Prop} {k:Nat} {M:Mem} {du:Bool} {es:List Et} {q:Int} {ph ph':BP}
abbrev xD (du:Bool) (es:List Et) (q:Int) (i:Nat) (dn:Bool) (ph:BP):Bk:=⟨du,es,0,q,i,dn,0,ph⟩
theorem LZ (g:Good es) {i:Nat} {dn:Bool} (hi:i<1+3*es.length):(dS es)[i]?=some (D4 (xD du es q i dn ph) i):=by
 have hl:=g.len
 rw [sC]
 cases i with
 | zero=>rfl
 | succ i=>
  rw [List.getElem?_cons_succ]
  have:∀(es:List Et) (i:Nat),i<3*es.length→(iT es)[i]?=some (if i % 3=0 then CV (es.getD (i / 3) HB) else if i % 3=1 then Cu (es.getD (i / 3) HB) else Cg (es.getD (i / 3) HB)):=fun es=>by
   induction es with
   | nil=>intro i h; simp at h
   | cons e l ih=>
    intro i h
    show (CV e::Cu e::Cg e::iT l)[i]?=_
    match i with
    | 0=>rfl
    | 1=>rfl
    | 2=>rfl
    | i+3=>
     rw [show (CV e::Cu e::Cg e::iT l)[i+3]?=(iT l)[i]? from rfl,ih i (by simp only [List.length_cons] at h; omega),show (i+3) % 3=i % 3 by omega,show (i+3) / 3=i / 3+1 by omega]
     rfl
  rw [this es i (by omega)]
  show _=some (if i+1=0 then _ else (if i % 3=0 then CV (es.getD (i / 3) HB) else if i % 3=1 then Cu (es.getD (i / 3) HB) else Cg (es.getD (i / 3) HB)))
  rw [if_neg (Nat.succ_ne_zero i)]
theorem L2 {f:List W3} {p k:Nat} {w:W3} {M:Mem} (h:f[k]?=some w):fW (yY (f.take k) p M) (p+k) w=yY (f.take (k+1)) p M:=by
 have hk:=(List.getElem?_eq_some_iff.1 h).1
 funext j
 unfold fW yY
 have e1:(f.take k).length=k:=by rw [List.length_take]; omega
 have e2:(f.take (k+1)).length=k+1:=by rw [List.length_take]; omega
 rw [e1,e2]
 by_cases c:j=p+k
 ·subst c
  rw [if_pos rfl,if_pos (by omega),List.getD_eq_getElem?_getD,show p+k - p=k by omega,List.getElem?_take_of_lt (by omega),h]; rfl
 ·rw [if_neg c]
  by_cases c2:p≤j∧j<p+k
  ·rw [if_pos c2,if_pos (by omega),List.getD_eq_getElem?_getD,List.getD_eq_getElem?_getD,List.getElem?_take_of_lt (by omega),List.getElem?_take_of_lt (by omega)]
  ·rw [if_neg c2,if_neg (by omega)]
theorem Yd:kO 0 .look ⟨⟨1,0,0⟩,true⟩=(.swap ⟨1,0,0⟩,⟨6,((376:Nat):Int),⟨1,0,0⟩,W0⟩,false):=by
 show jP 0 ⟨1,0,0⟩=_
 unfold jP
 rw [if_neg (by decide)]
 rfl
theorem tk1:kU .look ⟨W0,true⟩=(.swap 0 W0,⟨6,((376:Nat):Int),W0,⟨1,0,0⟩⟩,false):=by
 show gH W0 4 0=_
 unfold gH
 rw [if_pos (by decide)]
 rfl
theorem xT.mk' (g:Good es) {i:Nat} {dn:Bool} (hi:i≤1000) (h:Bok (xD du es q i dn ph) ph):xT (xD du es q i dn ph):=⟨h,(by decide:0<4),by have:=g.len; show es.length≤300; omega,hi⟩
theorem TX (g:Good es) {i:Nat} (hi:i≤1000) (h:M 376=⟨1,0,0⟩) (hp:∀s,s.ph=.over→s.done=true→post s (fW M 376 W0)):qk dG okB post 2 (xD du es q i true (.zf 0 .look),⟨5,((376:Nat):Int),W0,W0⟩,false) M:=by
 refine .step (k:=1) (mT (by decide)) (xT.mk' g hi ⟨(by decide:0<4),trivial⟩) ?_
 rw [ku,h]
 have e:dG (xD du es q i true (.zf 0 .look)) ⟨⟨1,0,0⟩,true⟩=(xD du es q i true (.zf 0 (.swap ⟨1,0,0⟩)),⟨6,((376:Nat):Int),⟨1,0,0⟩,W0⟩,false):=by
  show (match kO 0 .look ⟨⟨1,0,0⟩,true⟩ with | (k,a,false)=>({xD du es q i true (.zf 0 .look) with ph:=.zf 0 k},a,false) | (_,_,true)=>JM (xD du es q i true (.zf 0 .look)))=_
  rw [Yd]
 rw [e]
 refine .step (k:=0) (yE (by decide) ⟨⟨by decide,by decide⟩,⟨by decide,by decide⟩,⟨by decide,by decide⟩⟩) (xT.mk' g hi ⟨(by decide:0<4),trivial⟩) ?_
 rw [wu h]
 exact .done (hp _ rfl rfl)
theorem T0 (g:Good es) (hq:1≤q∧q≤16777215) {i:Nat} (hi:i≤1000) (hm:V3 M (eU 9 q) 384 es) (hwm:∀i,Ww (M i)) (h:M 376=⟨1,0,0⟩) (hp:∀s,s.ph=.over→s.done=true→post s (fW (jL (eU 9 q) 384 es M) 376 W0)):qk dG okB post (8*es.length+11) (K8 (xD du es q i false ph)) M:=by
 have N:=vQ.block g hq
 have:=qk.lift (nxO:=dG) (okO:=okB) (postO:=post) (k2:=2) (fun hs=>xD du es q i false (.zL hs)) (fun hs=>EG {xD du es q i false (.zL hs) with done:=match hs with | h::_=>decide (h.dN=1) | []=>false}) (fun hs g' h=>xT.mk' g hi h)
  (fun hs g' _ hd=>by
   show (match fP hs g' with | (hs,a,false)=>_ | (hs,_,true)=>_)=_
   generalize fP hs g'=x at hd
   obtain ⟨hs',a,d⟩ :=x
   have hd:d=false:=hd
   subst hd; rfl)
  (fun hs g' _ hd=>by
   show (match fP hs g' with | (hs,a,false)=>_ | (hs,_,true)=>_)=_
   generalize fP hs g'=x at hd
   obtain ⟨hs',a,d⟩ :=x
   have hd:d=true:=hd
   subst hd; rfl)
  (fun hs M' (h1:(∃s',hs=[s']∧s'.dN=1)∧M'=jL (eU 9 q) 384 es M)=>by
   obtain ⟨⟨s',rfl,hv⟩,rfl⟩ :=h1
   have e:(decide (s'.dN=1))=true:=decide_eq_true hv
   show qk dG okB post 2 (xD du es q i (decide (s'.dN=1)) (.zf 0 .look),⟨5,((376:Nat):Int),W0,W0⟩,false) _
   rw [e]
   exact TX g hi (by rw [ur N (by decide),if_neg (by decide)]; exact h) hp)
  (NI (post:=fun hs M'=>(∃s',hs=[s']∧s'.dN=1)∧M'=jL (eU 9 q) 384 es M) (du:=du) N hm hwm fun s' hv _=>⟨⟨s',rfl,hv⟩,rfl⟩)
 exact this
theorem Ik (g:Good es) (hq:1≤q∧q≤16777215) {i:Nat} (hi:i≤1000) {z:Int} (hz:0≤z∧z≤3) {op:Bool} (h:∀ph,qk dG okB post k (sS (xD du es q i false ph) op) (fW M 384 ⟨z,q,0⟩)):qk dG okB post (k+3) (DK (xD du es q i false ph) z op) M:=by
 refine qk.step (k:=k+2) (a:=⟨4,((384:Nat):Int),W0,⟨z,q,0⟩⟩) (BH (.inr rfl) (by decide) (Ww.st hz (by omega))) (xT.mk' g hi hq) ?_
 rw [yx (.inr rfl)]
 cases du with
 | false=>exact (h _).up (by omega)
 | true=>
  refine qk.step (k:=k+1) (s:=xD true es q i false (.Hz op)) (a:=⟨7,((384:Nat):Int),W0,W0⟩) (zC (by decide)) (xT.mk' g hi hq) ?_
  rw [nN (.inl rfl)]
  refine qk.step (k:=k) (s:=xD true es q i false (.Hy op)) (a:=⟨8,0,W0,W0⟩) zy (xT.mk' g hi hq) ?_
  rw [nN (.inr rfl)]
  exact h _
theorem Oj (g:Good es) (hq:1≤q∧q≤16777215) {i:Nat} (hi:i≤1000) (hwm:∀i,Ww (M i)) (hc:∀e∈es,M e.at'.toNat=e.old) (h:M 376=⟨1,0,0⟩) (hp:∀s,s.ph=.over→s.done=true→post s (fW (jL (eU 9 q) 384 es (lr 384 q es M)) 376 W0)) :
  qk dG okB post (8*es.length+14) (K9 (xD du es q i false ph)) (yY (dS es) 385 (fW M 384 ⟨3,q,0⟩)):=by
 have hs2:=(wG (w:=9) ⟨by decide,by decide⟩ hq).2
 refine Ik (k:=8*es.length+11) g hq hi ⟨by decide,by decide⟩ fun ph=>?_
 refine T0 (M:=lr 384 q es M) g hq hi ⟨by rw [hs2]; exact ID,CG,fun j w h=>EB h,fun e he=>?_⟩ (Bl g (by omega) hwm) ?_ hp
 ·have:=g.pl e he
  rw [uk (by omega)]; exact hc e he
 ·rw [uk (by omega)]; exact h
theorem HY {i:Nat} {dn:Bool}:vi (xD du es q i dn ph)=if (384:Int)+((1+3*es.length:Nat):Int)<384+(i:Int)*8 then (xD du es q i dn .RH,⟨8,0,W0,W0⟩,false) else (xD du es q (i+1) dn .uB,⟨7,max (384+(i:Int)*8) 385,W0,W0⟩,false):=by
 have at384:(xD du es q i dn ph).at'=384:=rfl
 unfold vi
 simp only [at384]
 rw [show (384:Int) / 8*8=384 by decide]
 rfl
theorem U4 (g:Good es) (hq:1≤q∧q≤16777215) (hwm:∀i,Ww (M i)) (hc:∀e∈es,M e.at'.toNat=e.old) (h:M 376=⟨1,0,0⟩) (hp:∀s,s.ph=.over→s.done=true→post s (fW (jL (eU 9 q) 384 es (lr 384 q es M)) 376 W0)):∀(m i:Nat) (ph:BP),3 - i=m→i≤4→
  qk dG okB post (8*es.length+15+m) (vi (xD du es q i false ph)) (yY (dS es) 385 (fW M 384 ⟨3,q,0⟩)):=by
 have hl:=g.len
 have tM:∀(i:Nat) (ph:BP),i≤4→(384:Int)+((1+3*es.length:Nat):Int)<384+i*8→qk dG okB post (8*es.length+15) (vi (xD du es q i false ph)) (yY (dS es) 385 (fW M 384 ⟨3,q,0⟩)):=fun i ph hi hc2=>by
  have e:vi (xD du es q i false ph)=(xD du es q i false .RH,⟨8,0,W0,W0⟩,false):=HY.trans (if_pos hc2)
  rw [e]
  refine qk.step (k:=8*es.length+14) zy (xT.mk' g (by omega) hq) ?_
  rw [nN (.inr rfl)]
  exact Oj g hq (by omega) hwm hc h hp
 intro m
 induction m with
 | zero=>
  intro i ph hm hi
  exact tM i ph hi (by omega)
 | succ m ih=>
  intro i ph hm hi
  by_cases c2:(384:Int)+((1+3*es.length:Nat):Int)<384+i*8
  ·exact (tM i ph hi c2).up (by omega)
  ·have e:vi (xD du es q i false ph)=(xD du es q (i+1) false .uB,⟨7,max (384+(i:Int)*8) 385,W0,W0⟩,false):=HY.trans (if_neg c2)
   obtain ⟨p,ep⟩:∃p:Nat,max (384+(i:Int)*8) 385=p:=⟨(max (384+(i:Int)*8) 385).toNat,by omega⟩
   rw [e,ep]
   refine qk.step (k:=8*es.length+15+m) (zC (by omega)) (xT.mk' g (by omega) hq) ?_
   rw [nN (.inl rfl)]
   exact ih (i+1) .uB (by omega) (by omega)
theorem Vp (g:Good es) (hq:1≤q∧q≤16777215) (hwm:∀i,Ww (M i)) (hc:∀e∈es,M e.at'.toNat=e.old) (h:M 376=⟨1,0,0⟩) (hp:∀s,s.ph=.over→s.done=true→post s (fW (jL (eU 9 q) 384 es (lr 384 q es M)) 376 W0)):∀(m i:Nat) (ph:BP),1+3*es.length - i=m→i≤1+3*es.length→
  qk dG okB post (8*es.length+18+m) (yk (xD du es q i false ph)) (yY ((dS es).take i) 385 (fW M 384 ⟨3,q,0⟩)):=by
 have hl:=g.len
 have hsl:=vj es
 intro m
 induction m with
 | zero=>
  intro i ph hm hi
  obtain rfl:i=1+3*es.length:=by omega
  rw [List.take_of_length_le (by omega)]
  unfold yk
  rw [if_neg (by show ¬(1+3*es.length<1+3*es.length); omega)]
  cases du with
  | true=>exact (U4 (du:=true) g hq hwm hc h hp 3 0 ph rfl (by decide)).up (by omega)
  | false=>exact (Oj (du:=false) (ph:=ph) g hq (by omega) hwm hc h hp).up (by omega)
 | succ m ih=>
  intro i ph hm hi
  have hf:=LZ (q:=q) (du:=du) (ph:=ph) (dn:=false) g (i:=i) (by omega)
  have e:yk (xD du es q i false ph)=(xD du es q (i+1) false .fill,⟨3,((385+i:Nat):Int),W0,D4 (xD du es q i false ph) i⟩,false):=by
   unfold yk
   rw [if_pos (by show i<1+3*es.length; omega)]
   show (_,(⟨3,(384:Int)+1+(i:Int),W0,_⟩:Ac),false)=_
   rw [show (384:Int)+1+(i:Int)=((385+i:Nat):Int) by omega]
  rw [e]
  have hw:Ww (D4 (xD du es q i false ph) i):=by
   have hm2:=List.mem_of_getElem? hf
   rw [sC] at hm2
   rcases List.mem_cons.1 hm2 with e | e
   ·rw [e]
    exact ⟨⟨by dsimp only; omega,by dsimp only; omega⟩,⟨Int.le_refl 0,(by decide:(0:Int)<4294967296)⟩,⟨Int.le_refl 0,(by decide:(0:Int)<4294967296)⟩⟩
   ·exact Ww.iT g _ e
  refine qk.step (k:=8*es.length+18+m) (BH (.inl rfl) (by omega) hw) (xT.mk' g (by omega) hq) ?_
  rw [yx (.inl rfl)]
  show qk dG okB post _ (yk (xD du es q (i+1) false .fill)) (fW (yY ((dS es).take i) 385 (fW M 384 ⟨3,q,0⟩)) (385+i) (D4 (xD du es q i false ph) i))
  rw [L2 hf]
  exact ih (i+1) .fill (by omega) (by omega)
theorem Xt (g:Good es) {v:Int} (hq:0≤q∧q<16777215) (h376:M 376=W0) (h384:M 384=⟨v,q,0⟩) (hwm:∀i,Ww (M i)) (hc:∀e∈es,M e.at'.toNat=e.old) (hp:∀s,s.ph=.over→s.done=true→post s (fW (jL (eU 9 (q+1)) 384 es (lr 384 (q+1) es (fW M 376 ⟨1,0,0⟩))) 376 W0)) :
  qk dG okB post 110 (Ba du es,⟨5,((376:Nat):Int),W0,W0⟩,false) M:=by
 have hl:=g.len
 have w1:Ww ⟨1,0,0⟩ :=⟨⟨by decide,by decide⟩,⟨by decide,by decide⟩,⟨by decide,by decide⟩⟩
 refine qk.step (k:=109) (mT (by decide)) (xT.mk' (q:=0) g (Nat.zero_le _) trivial) ?_
 rw [ku,h376]
 have e1:dG (Ba du es) ⟨W0,true⟩=(xD du es 0 0 false (.take (.swap 0 W0)),⟨6,((376:Nat):Int),W0,⟨1,0,0⟩⟩,false):=by
  show (match kU .look ⟨W0,true⟩ with
   | (.done i,_,true)=>({Ba du es with s8:=i,ph:=.looked},(⟨5,lC (i:Int),W0,W0⟩:Ac),false)
   | (_,_,true)=>JM {Ba du es with bad:=9}
   | (k,a,false)=>({Ba du es with ph:=.take k},a,false))=_
  rw [tk1]
  rfl
 rw [e1]
 refine qk.step (k:=108) (yE (by decide) w1) (xT.mk' (q:=0) g (Nat.zero_le _) trivial) ?_
 rw [wu h376]
 show qk dG okB post 108 (xD du es 0 0 false .looked,⟨5,((384:Nat):Int),W0,W0⟩,false) (fW M 376 ⟨1,0,0⟩)
 refine qk.step (k:=107) (mT (by decide)) (xT.mk' (q:=0) g (Nat.zero_le _) trivial) ?_
 have hM:fW M 376 ⟨1,0,0⟩ 384=⟨v,q,0⟩ :=(nt (by decide)).trans h384
 rw [ku,hM]
 show qk dG okB post 107 (xw (xD du es 0 0 false .looked) ⟨v,q,0⟩) _
 unfold xw
 rw [if_neg (by show ¬((16777215:Int)≤q); omega)]
 show qk dG okB post 107 (DK (xD du es (q+1) 0 false .looked) 3 false) _
 have hwm2:∀i,Ww (fW M 376 ⟨1,0,0⟩ i):=fun i=>by
  unfold fW
  split
  ·exact w1
  ·exact hwm i
 refine (Ik (k:=104) g (q:=q+1) (by omega) (Nat.zero_le _) ⟨by decide,by decide⟩ fun ph=>?_).up (by decide)
 have:=Vp (post:=post) (du:=du) (M:=fW M 376 ⟨1,0,0⟩) (q:=q+1) g (by omega) hwm2 (fun e he=>by
  have:=g.pl e he
  rw [nt (by omega)]; exact hc e he) tX hp (1+3*es.length) 0 ph rfl (Nat.zero_le _)
 have e0:yY ((dS es).take 0) 385 (fW (fW M 376 ⟨1,0,0⟩) 384 ⟨3,q+1,0⟩)=fW (fW M 376 ⟨1,0,0⟩) 384 ⟨3,q+1,0⟩ :=by
  funext j
  unfold yY
  rw [if_neg (by rw [List.take_zero,List.length_nil]; omega)]
 rw [e0] at this
 exact qk.up this (by omega)
end
end Go.En
namespace Go.En
theorem O2 {ps:List Pt}:∀{n:Nat},∀p∈BV ps n,p.cell % 6<n
 | 0,p,h=>by unfold BV at h; simp at h
 | n+1,p,h=>by
  rw [yn] at h
  rcases List.mem_append.1 h with h | h
  ·have:=O2 p h; omega
  ·rw [Option.mem_toList] at h
   have:=List.find?_some h
   simp only [beq_iff_eq] at this
   omega
theorem Lo {ps:List Pt}:∀{n:Nat} (i j:Nat) (a b:Pt),i<j→(BV ps n)[i]?=some a→(BV ps n)[j]?=some b→a.cell % 6<b.cell % 6
 | 0,i,j,a,b,_,h,_=>by unfold BV at h; simp at h
 | n+1,i,j,a,b,hij,h1,h2=>by
  rw [yn] at h1 h2
  by_cases c:j<(BV ps n).length
  ·rw [List.getElem?_append_left (by omega)] at h1
   rw [List.getElem?_append_left c] at h2
   exact Lo i j a b hij h1 h2
  ·rw [List.getElem?_append_right (by omega)] at h2
   cases hf:ps.find? fun p=>p.cell % 6 == n with
   | none=>rw [hf] at h2; simp at h2
   | some y=>
    rw [hf] at h1 h2
    have hy:=List.find?_some hf
    simp only [beq_iff_eq] at hy
    have e:j - (BV ps n).length=0:=by
     have:=(List.getElem?_eq_some_iff.1 h2).1
     simp only [Option.toList_some,List.length_singleton] at this
     omega
    rw [e] at h2
    simp only [Option.toList_some,List.getElem?_cons_zero,Option.some.injEq] at h2
    subst h2
    by_cases c2:i<(BV ps n).length
    ·rw [List.getElem?_append_left c2] at h1
     have:=O2 a (List.mem_of_getElem? h1)
     omega
    ·omega
theorem J2 {ps:List Pt} (h:¬ps=[]):1≤(BV ps 6).length:=by
 cases ps with
 | nil=>exact absurd rfl h
 | cons p l=>
  have hm:((p::l).find? fun y=>y.cell % 6 == p.cell % 6)=some p:=by rw [List.find?_cons_of_pos (by simp)]
  have:p∈BV (p::l) 6:=by
   unfold BV
   exact List.mem_filterMap.2 ⟨p.cell % 6,List.mem_range.2 (by omega),hm⟩
  exact List.length_pos_of_mem this
def uN (M:Mem) (o:m9):List W3:=(dY o).map fun p=>M (eJ p).toNat
def EO (M:Mem) (o:m9):List Et:=fQ (dY o) (uN M o)
theorem Cq {M:Mem} {o:m9}:EO M o=(dY o).map fun p=>AB p (M (eJ p).toNat):=by
 unfold EO fQ uN
 rw [List.zip_map_right,List.map_map]
 have:∀l:List Pt,List.map ((fun x=>AB x.1 x.2) ∘ Prod.map id fun p=>M (eJ p).toNat) (l.zip l)=l.map fun p=>AB p (M (eJ p).toNat):=fun l=>by
  induction l with
  | nil=>rfl
  | cons a l ih=>rw [List.zip_cons_cons,List.map_cons,List.map_cons,ih]; rfl
 exact this _
theorem Xq (z:Int):Nf (BA z):=T9 z
theorem ub (p:Pt):56≤eJ p∧eJ p<62:=by unfold eJ; omega
structure Cj (M:Mem) (n:Nat):Prop where
 ref:∀j,56≤j→j<62→(M j).ref=0
 dN:∀j,56≤j→j<62→(M j).dN≤n
 ww:∀i,Ww (M i)
theorem Good.op {M:Mem} {n:Nat} {o:m9} (H:Cj M n) (hn:n≤1000) (hd:¬o.d % 4=2) (hps:¬o.ps=[]):Good (EO M o):=by
 rw [Cq,rF hd]
 have hl1:=J2 hps
 have hl2:=B5 o.ps 6
 refine ⟨by rw [List.length_map]; exact ⟨hl1,hl2⟩,fun e he=>?_,fun i j a b hij ha hb=>?_,fun e he=>?_,fun e he=>?_,fun e he=>?_,fun e he=>?_⟩
 ·obtain ⟨p,_,rfl⟩ :=List.mem_map.1 he
  exact ub p
 ·rw [List.getElem?_map] at ha hb
  cases h1:(BV o.ps 6)[i]? with
  | none=>rw [h1] at ha; cases ha
  | some x=>
   cases h2:(BV o.ps 6)[j]? with
   | none=>rw [h2] at hb; cases hb
   | some y=>
    rw [h1] at ha
    rw [h2] at hb
    simp only [Option.map_some,Option.some.injEq] at ha hb
    subst ha hb
    have:=Lo i j x y hij h1 h2
    show eJ x<eJ y
    unfold eJ
    omega
 ·obtain ⟨p,_,rfl⟩ :=List.mem_map.1 he
  rfl
 ·obtain ⟨p,_,rfl⟩ :=List.mem_map.1 he
  have h1:=ub p
  have h2:=H.dN (eJ p).toNat (by omega) (by omega)
  have h3:=(H.ww (eJ p).toNat).dN
  show 0≤(M _).dN∧(M _).dN<_
  omega
 ·obtain ⟨p,_,rfl⟩ :=List.mem_map.1 he
  refine ⟨(H.ww _).v,?_⟩
  show Nf (if p.wr=true then BA _ else (M _).v)
  split
  ·exact Xq _
  ·exact (H.ww _).v
 ·obtain ⟨p,_,rfl⟩ :=List.mem_map.1 he
  intro h
  have h:p.wr=false:=h
  show (if p.wr=true then BA _ else (M _).v)=(M _).v
  rw [h,if_neg (fun x=>Bool.noConfusion x)]
theorem Good.Zi {es:List Et} (g:Good es):Kq es:=
 ⟨g.check,by have:=g.len; omega,fun i a b h1 h2=>g.Qb i (i+1) a b (by omega) h1 h2,fun e he=>g.may he,fun e he=>⟨(g.val e he).1,by have:=g.dN e he; omega,by rw [g.ref e he]; decide⟩⟩
theorem R4 {M:Mem} {n:Nat} {o:m9} (H:Cj M n):∀e∈EO M o,M e.at'.toNat=e.old:=by
 rw [Cq]
 intro e he
 obtain ⟨p,_,rfl⟩ :=List.mem_map.1 he
 have h1:=ub p
 have h2:=H.ref (eJ p).toNat (by omega) (by omega)
 show M (eJ p).toNat=⟨(M (eJ p).toNat).v,(M (eJ p).toNat).dN,0⟩
 generalize M (eJ p).toNat=w at h2
 obtain ⟨a,b,c⟩ :=w
 dsimp only at h2
 subst h2
 rfl
def UG (o:m9) (M:Mem):Mem:=dX tj (EO M o) M
def vG:List m9→Mem→Mem
 | [],M=>M
 | o::r,M=>if o.ps=[] then vG r M else vG r (UG o M)
theorem wW {f:Et→W3} {A B:Mem} (h:∀j,j<64→A j=B j):∀(l:List Et) (j:Nat),j<64→dX f l A j=dX f l B j:=fun l=>by
 induction l generalizing A B with
 | nil=>exact h
 | cons e l ih=>
  refine ih fun j hj=>?_
  show (if j=e.at'.toNat then f e else A j)=(if j=e.at'.toNat then f e else B j)
  split
  ·rfl
  ·exact h j hj
theorem Mn {A B:Mem} {o:m9} (h:∀j,j<64→A j=B j):EO A o=EO B o:=by
 rw [Cq,Cq]
 refine List.map_congr_left fun p _=>?_
 have:=ub p
 rw [h _ (by omega)]
theorem AL:∀(l:List m9) {A B:Mem},(∀j,j<64→A j=B j)→∀j,j<64→vG l A j=vG l B j
 | [],_,_,h=>h
 | o::r,A,B,h=>by
  unfold vG
  split
  ·exact AL r h
  ·refine AL r fun j hj=>?_
   unfold UG
   rw [Mn h]
   exact wW h _ j hj
theorem Wx {M:Mem} {d d':Nat} {ps:List Pt} (h:¬d % 4=2) (h':¬d' % 4=2):EO M ⟨d,ps⟩=EO M ⟨d',ps⟩ :=by
 rw [Cq,Cq,rF h,rF h']
theorem Ka {d d':Nat} (h:¬d % 4=2) (h':¬d' % 4=2):∀(l:List m9) (M:Mem),vG (iP d l) M=vG (iP d' l) M
 | [],_=>rfl
 | o::r,M=>by
  show (if o.ps=[] then vG (iP d r) M else vG (iP d r) (UG ⟨d,o.ps⟩ M))=(if o.ps=[] then vG (iP d' r) M else vG (iP d' r) (UG ⟨d',o.ps⟩ M))
  rw [Ka h h' r,Ka h h' r]
  unfold UG
  rw [Wx h h']
theorem J0 {M:Mem} (h:∀j,(M j).ref=0):∀(l:List Et) (j:Nat),(dX tj l M j).ref=0:=fun l=>by
 induction l generalizing M with
 | nil=>exact h
 | cons e l ih=>
  refine ih fun j=>?_
  show (if j=e.at'.toNat then tj e else M j).ref=0
  split
  ·unfold tj; split <;> rfl
  ·exact h j
theorem D8:∀(l:List m9) {M:Mem},(∀j,(M j).ref=0)→∀j,(vG l M j).ref=0
 | [],_,h=>h
 | o::r,M,h=>by
  unfold vG
  split
  ·exact D8 r h
  ·exact D8 r (J0 h _)
end Go.En
namespace Go.En
structure MI (M:Mem) (q qb:Int) (n:Nat):Prop where
 slot:IV M q
 bits:M 376=W0
 s8:∃v,M 384=⟨v,qb,0⟩
 Nn:Cj M n
 qr:0≤q∧q≤n
 qb:0≤qb∧qb≤n
theorem IV.congr {M M':Mem} {q:Int} (h:IV M q) (e:∀j,64≤j→j<100→M' j=M j):IV M' q:=by
 rcases h with ⟨h1,h2⟩ | ⟨h1,es,g,h2,h3,h4⟩
 ·exact .inl ⟨h1,by rw [e 64 (by decide) (by decide)]; exact h2⟩
 ·refine .inr ⟨h1,es,g,by rw [e 64 (by decide) (by decide)]; exact h2,by rw [e 65 (by decide) (by decide)]; exact h3,fun j w hw=>?_⟩
  have:=(List.getElem?_eq_some_iff.1 hw).1
  rw [wi] at this
  have:=g.len
  rw [e (66+j) (by omega) (by omega)]
  exact h4 j w hw
section
variable {M:Mem} {q qb:Int} {n:Nat} {o:m9} {es:List Et}
theorem Cj.op (H:Cj M n) (g:Good es) (ho:∀e∈es,M e.at'.toNat=e.old) {M':Mem} (h:∀j,j<64→M' j=dX tj es M j) (hw:∀i,Ww (M' i)):Cj M' (n+1):=by
 have key:∀j,56≤j→j<62→(M' j).ref=0∧(M' j).dN≤(n+1:Nat):=fun j h1 h2=>by
  rw [h j (by omega)]
  by_cases c:∃e∈es,j=e.at'.toNat
  ·obtain ⟨e,he,rfl⟩ :=c
   obtain ⟨i,hi,rfl⟩ :=List.mem_iff_getElem.1 he
   have hx:=List.getElem?_eq_getElem (l:=es) hi
   rw [vY hx fun j b a1 a2=>g.ne (by omega) hx a2]
   have h3:=ho _ he
   have h4:=H.dN _ h1 h2
   rw [h3] at h4
   unfold tj
   split
   ·exact ⟨rfl,by show es[i].old.dN+1≤_; omega⟩
   ·exact ⟨rfl,by show es[i].old.dN≤_; omega⟩
  ·rw [nT fun e he x=>c ⟨e,he,x⟩]
   have h4:=H.dN j h1 h2
   exact ⟨H.ref j h1 h2,by omega⟩
 exact ⟨fun j a b=>(key j a b).1,fun j a b=>(key j a b).2,hw⟩
theorem MI.Sh (H:MI M q qb n) (hn:n≤1000) (g:Good es) (ho:∀e∈es,M e.at'.toNat=e.old):MI (jL (eU 1 (q+1)) 64 es (lr 64 (q+1) es M)) (q+1) qb (n+1)∧∀j,j<64→jL (eU 1 (q+1)) 64 es (lr 64 (q+1) es M) j=dX tj es M j:=by
 have hq:=H.qr
 have N:=vQ.slot g (q:=q+1) (by omega)
 have hs2:=(wG (w:=1) (q:=q+1) ⟨by decide,by decide⟩ (by omega)).2
 have hl:=g.len
 have hlo:∀j,j<64→jL (eU 1 (q+1)) 64 es (lr 64 (q+1) es M) j=dX tj es M j:=fun j hj=>by
  rw [Ig N hj]
  exact wW (fun j hj=>uk (.inl hj)) es j hj
 have hhi:∀j,100≤j→jL (eU 1 (q+1)) 64 es (lr 64 (q+1) es M) j=M j:=fun j hj=>by
  rw [ur N (by omega),if_neg (by omega),uk (by omega)]
 obtain ⟨v,hv⟩ :=H.s8
 refine ⟨⟨.inr ⟨by omega,es,g,by rw [ur N (by decide),if_pos rfl,hs2],by rw [ur N (by decide),if_neg (by decide)]; exact CG,fun j w hw=>?_⟩,by rw [hhi _ (by decide)]; exact H.bits,⟨v,by rw [hhi _ (by decide)]; exact hv⟩,H.Nn.op g ho hlo (Iw N (Bl g (by omega) H.Nn.ww)),by omega,by have:=H.qb; omega⟩,hlo⟩
 rw [ur N (by omega),if_neg (by omega)]
 exact EB (A:=64) hw
theorem MI.blocked (H:MI M q qb n) (hn:n≤1000) (g:Good es) (ho:∀e∈es,M e.at'.toNat=e.old):MI (fW (jL (eU 9 (qb+1)) 384 es (lr 384 (qb+1) es (fW M 376 ⟨1,0,0⟩))) 376 W0) q (qb+1) (n+1)∧∀j,j<64→fW (jL (eU 9 (qb+1)) 384 es (lr 384 (qb+1) es (fW M 376 ⟨1,0,0⟩))) 376 W0 j=dX tj es M j:=by
 have hq:=H.qb
 have N:=vQ.block g (q:=qb+1) (by omega)
 have hs2:=(wG (w:=9) (q:=qb+1) ⟨by decide,by decide⟩ (by omega)).2
 have hl:=g.len
 have w1:Ww ⟨1,0,0⟩ :=⟨⟨by decide,by decide⟩,⟨by decide,by decide⟩,⟨by decide,by decide⟩⟩
 have w0:Ww W0:=⟨⟨by decide,by decide⟩,⟨by decide,by decide⟩,⟨by decide,by decide⟩⟩
 have hlo:∀j,j<64→fW (jL (eU 9 (qb+1)) 384 es (lr 384 (qb+1) es (fW M 376 ⟨1,0,0⟩))) 376 W0 j=dX tj es M j:=fun j hj=>by
  rw [nt (by omega),Ig N hj]
  exact wW (fun j hj=>by rw [uk (.inl (by omega)),nt (by omega)]) es j hj
 have hmid:∀j,64≤j→j<100→fW (jL (eU 9 (qb+1)) 384 es (lr 384 (qb+1) es (fW M 376 ⟨1,0,0⟩))) 376 W0 j=M j:=fun j h1 h2=>by
  rw [nt (by omega),ur N h1,if_neg (by omega),uk (.inl (by omega)),nt (by omega)]
 have hwm2:∀i,Ww (fW M 376 ⟨1,0,0⟩ i):=fun i=>by
  unfold fW
  split
  ·exact w1
  ·exact H.Nn.ww i
 have hwf:∀i,Ww (fW (jL (eU 9 (qb+1)) 384 es (lr 384 (qb+1) es (fW M 376 ⟨1,0,0⟩))) 376 W0 i):=fun i=>by
  show Ww (if i=376 then W0 else _)
  split
  ·exact w0
  ·exact Iw N (Bl g (by omega) hwm2) i
 refine ⟨⟨H.slot.congr hmid,tX,⟨1,?_⟩,H.Nn.op g ho hlo hwf,by have:=H.qr; omega,by omega⟩,hlo⟩
 rw [nt (by decide),ur N (by decide),if_pos rfl,hs2]
end
structure SC (c:Cn) (du:Bool) (q:Int):Prop where
 t:c.t=1
 seq:c.seq=q
 fO:c.fO=du
 br:c.broken=false
 dn:c.done.length≤900
 ops:∀o∈c.ops,KX o∧(o.d % 4=0∨o.d % 4=1)
theorem Ty {c:Cn} {d:Cd} (ht:c.t=1) (hq:0≤c.seq∧c.seq<16777215) (ho:∀o∈c.ops,KX o∧(o.d % 4=0∨o.d % 4=1)) (hs:c.seen=[]):YT (Dy c d) qY:=by
 have hsn:bU (Dy c d) qY=[]:=if_pos hs
 refine ⟨by show 1≤c.t∧c.t≤3; omega,hq,fun o h=>ho o (List.mem_of_mem_tail h),by show c.seen.length≤6; rw [hs]; decide,fun o r e h=>?_⟩
 exfalso
 apply h
 rw [hsn]
 have hd:=(ho o (List.mem_of_mem_tail (vT e))).2
 rw [rF (by omega)]
 have hne:¬o.ps=[]:=by
  have:∀l:List m9,oG l=o::r→¬o.ps=[]:=fun l=>by
   induction l with
   | nil=>intro h; cases h
   | cons x l ih=>
    intro h
    by_cases c:x.ps=[]
    ·rw [si c] at h; exact ih h
    ·rw [qM c] at h
     injection h with h1 h2
     subst h1; exact c
  exact this _ e
 exact J2 hne
theorem I7 {o:m9} {r:List m9}:∀{l:List m9},oG l=o::r→¬o.ps=[]
 | [],h=>by cases h
 | x::l,h=>by
  by_cases c:x.ps=[]
  ·rw [si c] at h; exact I7 h
  ·rw [qM c] at h
   injection h with h1 h2
   subst h1; exact c
theorem JT {c:Cn} {g:iM} {o:m9} {r:List m9} (hd:oG c.ops=o::r) (hb:c.broken=false) (h3:¬o.d % 4=3) (h:(bU c g).length<(dY o).length):mC c g=({c with ops:=o::r,seen:=bU c g++[W0]},⟨5,((dY o).map eJ).getD (bU c g).length 0,W0,W0⟩,false):=by
 unfold mC
 rw [hd]
 dsimp only
 rw [if_neg (by rw [hb]; decide),if_neg h3]
 exact if_pos (show (bU c g).length<_ from h)
theorem Ip {c c2:Cn} {a:Ac} {g:iM} {o:m9} {r:List m9} (hd:oG c.ops=o::r) (hb:c.broken=false) (h3:¬o.d % 4=3) (h:¬(bU c g).length<(dY o).length) (hbeg:tf {c with ops:=o::r} o (dY o) (bU c g)=(some c2,a)):mC c g=(c2,a,false):=by
 unfold mC
 rw [hd]
 dsimp only
 rw [if_neg (by rw [hb]; decide),if_neg h3]
 refine (if_neg (show ¬(bU c g).length<_ from h)).trans ?_
 unfold bU at hbeg
 rw [hbeg]
theorem Mx {c:Cn} {g:iM} (hd:oG c.ops=[]):mC c g=({c with ops:=[]},mL,true):=by
 unfold mC
 rw [hd]
end Go.En
namespace Go.En
def nz (l:List m9):Nat:=(l.filter fun o=>!o.ps.isEmpty).length
theorem LW {c:Cn} {g:iM} {l:List m9} (h:oG c.ops=oG l):mC c g=mC {c with ops:=l} g:=by
 unfold mC
 rw [h]
theorem HG {c:Cn} {g:iM} {l:List W3} (h:c.seen=l++[W0]):bU c g=l++[g.w]:=by
 unfold bU
 rw [h,if_neg (by simp),List.dropLast_concat]
section
variable {post:Cn→Mem→Prop} {du:Bool} {q qb:Int} {n K:Nat} {M:Mem} {o:m9} {r:List m9}
theorem Ul (H:MI M q qb n) (hn:n≤900) (hmk:KX o) (hd:o.d % 4=0∨o.d % 4=1) (hps:¬o.ps=[]) (cb:Cn) (hc:SC cb du q) (hco:cb.ops=o::r) (hcs:cb.seen=[]) (hdl:cb.done.length+1≤900)
  (hnext:∀(c':Cn) (M':Mem) (q' qb':Int),c'.ops=r→SC c' du q'→c'.now=none→c'.seen=[]→c'.done=cb.done++[true]→MI M' q' qb' (n+1)→(∀j,j<64→M' j=UG o M j)→qk kL Ht post K (mC c' qY) M') :
  ∃c2 a,tf cb o (dY o) (uN M o)=(some c2,a)∧qk kL Ht post (150+K) (c2,a,false) M:=by
 have hd2:¬o.d % 4=2:=by omega
 have g:=Good.op H.Nn (by omega) hd2 hps
 have hold:=R4 (o:=o) H.Nn
 have hqr:=H.qr
 have hqb:=H.qb
 obtain ⟨vb,hvb⟩ :=H.s8
 have hcok:∀(sq:Int) (d:Cd) (gg:iM),0≤sq∧sq<16777215→RX d→Ht {cb with seq:=sq,now:=some d} gg:=fun sq d gg hs hk=>by
  refine ⟨hc.br,Nat.le_trans hc.dn (by decide),(fun h=>by cases h),fun d' h=>?_⟩
  have h:some d=some d':=h
  injection h with h
  subst h
  exact ⟨hk,(by show ¬cb.ops=[]; rw [hco]; exact fun h=>by cases h),fun _=>Ty (c:={cb with seq:=sq,now:=some d}) hc.t hs hc.ops hcs⟩
 have hends:∀(sq:Int) (d:Cd),vz d=true→KU d=[]→SC (Dy {cb with seq:=sq} d) du sq∧(Dy {cb with seq:=sq} d).done=cb.done++[true]∧(Dy {cb with seq:=sq} d).ops=r:=fun sq d h1 h2=>⟨⟨hc.t,rfl,hc.fO,hc.br,by show (cb.done++[vz d]).length≤900; rw [List.length_append,List.length_singleton]; exact hdl,fun o' ho'=>hc.ops o' (List.mem_of_mem_tail ho')⟩,by show cb.done++[vz d]=_; rw [h1],by show cb.ops.tail=r; rw [hco]; rfl⟩
 rcases hd with hd | hd
 ·
  have hbeg:tf cb o (dY o) (uN M o)=(some {cb with seen:=[],seq:=cb.seq+1,now:=some (.sw (J8 cb.t (cb.seq+1) cb.fO (EO M o)))},⟨5,m5 cb.t,W0,W0⟩):=by
   unfold tf
   dsimp only
   have hS:GI cb.t (cb.seq+1) (fQ (dY o) (uN M o))=0:=g.Zi.sw (t:=cb.t) (seq:=cb.seq+1) (by rw [hc.t]; exact ⟨by decide,by decide⟩) (by rw [hc.seq]; omega)
   rw [if_neg (by omega),if_neg (by omega),if_pos hS]
   rfl
  refine ⟨_,_,hbeg,?_⟩
  have e1:({cb with seen:=[],seq:=cb.seq+1,now:=some (.sw (J8 cb.t (cb.seq+1) cb.fO (EO M o)))}:Cn)={cb with seq:=q+1,now:=some (.sw (J8 1 (q+1) du (EO M o)))}:=by rw [hc.t,hc.seq,hc.fO,←hcs]
  have e2:m5 cb.t=((64:Nat):Int):=by rw [hc.t]; rfl
  rw [e1,e2]
  obtain ⟨hMI,hlo⟩ :=H.Sh (by omega) g hold
  have:=qk.lift (nxO:=kL) (okO:=Ht) (postO:=post) (k2:=K) (fun s=>({cb with seq:=q+1,now:=some (.sw s)}:Cn)) (fun s=>mC (Dy {cb with seq:=q+1} (.sw s)) qY)
   (fun s g' h=>hcok (q+1) (.sw s) g' (by omega) h)
   (fun s g' h hdd=>by
    show uT _ (.sw s) g'=_
    unfold uT
    show (match (Cd.sw (j8 s g').1,(j8 s g').2) with | (d,a,false)=>_ | (d,_,true)=>_)=_
    generalize j8 s g'=x at hdd
    obtain ⟨x1,x2,x3⟩ :=x
    have hdd:x3=false:=hdd
    subst hdd; rfl)
   (fun s g' h hdd=>by
    show uT _ (.sw s) g'=_
    unfold uT
    show (match (Cd.sw (j8 s g').1,(j8 s g').2) with | (d,a,false)=>_ | (d,_,true)=>_)=_
    generalize j8 s g'=x at hdd
    obtain ⟨x1,x2,x3⟩ :=x
    have hdd:x3=true:=hdd
    subst hdd; rfl)
   (fun s M' (h:s.ph=.over true∧M'=jL (eU 1 (q+1)) 64 (EO M o) (lr 64 (q+1) (EO M o) M))=>by
    obtain ⟨h1,rfl⟩ :=h
    have hdn:vz (.sw s)=true:=by
     show (match s.ph with | .over ok=>ok | _=>false)=true
     rw [h1]
    obtain ⟨k1,k2,k3⟩ :=hends (q+1) (.sw s) hdn rfl
    exact hnext _ _ _ _ k3 k1 rfl hcs k2 hMI hlo)
   (XH (post:=fun s M'=>s.ph=.over true∧M'=jL (eU 1 (q+1)) 64 (EO M o) (lr 64 (q+1) (EO M o) M)) (du:=du) g (by omega) H.slot H.Nn.ww hold H.Nn.ref fun s h=>⟨h,rfl⟩)
  exact this
 ·
  have hbeg:tf cb o (dY o) (uN M o)=(some {cb with seen:=[],now:=some (.bl (Ba cb.fO (EO M o)))},⟨5,lP,W0,W0⟩):=by
   unfold tf
   dsimp only
   have hB:Gu (fQ (dY o) (uN M o))=0:=g.Zi.bw
   rw [if_pos hd,if_pos hB]
   rfl
  refine ⟨_,_,hbeg,?_⟩
  have e1:({cb with seen:=[],now:=some (.bl (Ba cb.fO (EO M o)))}:Cn)={cb with seq:=q,now:=some (.bl (Ba du (EO M o)))}:=by rw [hc.fO,←hcs,←hc.seq]
  rw [e1]
  obtain ⟨hMI,hlo⟩ :=H.blocked (by omega) g hold
  have:=qk.lift (nxO:=kL) (okO:=Ht) (postO:=post) (k2:=K) (fun s=>({cb with seq:=q,now:=some (.bl s)}:Cn)) (fun s=>mC (Dy {cb with seq:=q} (.bl s)) qY)
   (fun s g' h=>hcok q (.bl s) g' (by omega) h)
   (fun s g' h hdd=>by
    show uT _ (.bl s) g'=_
    unfold uT
    show (match (Cd.bl (dG s g').1,(dG s g').2) with | (d,a,false)=>_ | (d,_,true)=>_)=_
    generalize dG s g'=x at hdd
    obtain ⟨x1,x2,x3⟩ :=x
    have hdd:x3=false:=hdd
    subst hdd; rfl)
   (fun s g' h hdd=>by
    show uT _ (.bl s) g'=_
    unfold uT
    show (match (Cd.bl (dG s g').1,(dG s g').2) with | (d,a,false)=>_ | (d,_,true)=>_)=_
    generalize dG s g'=x at hdd
    obtain ⟨x1,x2,x3⟩ :=x
    have hdd:x3=true:=hdd
    subst hdd; rfl)
   (fun s M' (h:s.done=true∧M'=fW (jL (eU 9 (qb+1)) 384 (EO M o) (lr 384 (qb+1) (EO M o) (fW M 376 ⟨1,0,0⟩))) 376 W0)=>by
    obtain ⟨h1,rfl⟩ :=h
    obtain ⟨k1,k2,k3⟩ :=hends q (.bl s) h1 rfl
    exact hnext _ _ _ _ k3 k1 rfl hcs k2 hMI hlo)
   (Xt (post:=fun s M'=>s.done=true∧M'=fW (jL (eU 9 (qb+1)) 384 (EO M o) (lr 384 (qb+1) (EO M o) (fW M 376 ⟨1,0,0⟩))) 376 W0) (du:=du) g (by omega) H.bits hvb H.Nn.ww hold fun s _ h=>⟨h,rfl⟩)
  exact qk.up this (by omega)
end
end Go.En
namespace Go.En
section
variable {post:Cn→Mem→Prop} {du:Bool} {q qb:Int} {n K:Nat} {M:Mem} {o:m9} {r:List m9}
theorem EP {l:List Pt} {j:Nat} {p:Pt} (h:l[j]?=some p):(l.map eJ).getD j 0=eJ p:=by
 rw [List.getD_eq_getElem?_getD,List.getElem?_map,h]; rfl
theorem Ur (H:MI M q qb n) (hn:n≤900) (hmk:KX o) (hd:o.d % 4=0∨o.d % 4=1) (hps:¬o.ps=[]) (dn:List Bool) (hdl:dn.length+1≤900)
  (hnext:∀(c':Cn) (M':Mem) (q' qb':Int),c'.ops=r→SC c' du q'→c'.now=none→c'.seen=[]→c'.done=dn++[true]→MI M' q' qb' (n+1)→(∀j,j<64→M' j=UG o M j)→qk kL Ht post K (mC c' qY) M') :
  ∀(m j:Nat) (c:Cn) (g:iM),(dY o).length - j=m→j≤(dY o).length→SC c du q→c.now=none→oG c.ops=o::r→c.done=dn→bU c g=(uN M o).take j→qk kL Ht post (150+K+m) (mC c g) M:=by
 have hd2:¬o.d % 4=2:=by omega
 have hd3:¬o.d % 4=3:=by omega
 have hvl:(uN M o).length=(dY o).length:=by unfold uN; rw [List.length_map]
 have hp6:(dY o).length≤6:=by rw [rF hd2]; exact B5 _ _
 have hqr:=H.qr
 intro m
 induction m with
 | zero=>
  intro j c g hm hj hc hnow hdr hdn hsn
  have hs:bU c g=uN M o:=by rw [hsn,List.take_of_length_le (by omega)]
  have hmem:o∈c.ops:=vT hdr
  have hops:∀o'∈o::r,KX o'∧(o'.d % 4=0∨o'.d % 4=1):=fun o' ho'=>hc.ops o' (by
   have:∀(l:List m9),oG l=o::r→o'∈l:=fun l=>by
    induction l with
    | nil=>intro h; cases h
    | cons x l ih=>
     intro h
     by_cases cx:x.ps=[]
     ·rw [si cx] at h; exact List.mem_cons_of_mem _ (ih h)
     ·rw [qM cx] at h; rw [h]; exact ho'
   exact this _ hdr)
  obtain ⟨c2,a,hbeg,hrun⟩ :=Ul (post:=post) (K:=K) (r:=r) H hn hmk hd hps {c with ops:=o::r,seen:=[]} ⟨hc.t,hc.seq,hc.fO,hc.br,hc.dn,hops⟩ rfl rfl (by show c.done.length+1≤900; rw [hdn]; exact hdl) (fun c' M' q' qb' h1 h2 h3 h4 h5 h6 h7=>hnext c' M' q' qb' h1 h2 h3 h4 (by rw [h5]; show c.done++[true]=_; rw [hdn]) h6 h7)
  have hbeg2:tf {c with ops:=o::r} o (dY o) (bU c g)=(some c2,a):=by rw [hs]; exact hbeg
  rw [Ip hdr hc.br hd3 (by rw [hs,hvl]; omega) hbeg2]
  exact hrun
 | succ m ih=>
  intro j c g hm hj hc hnow hdr hdn hsn
  have hx:=List.getElem?_eq_getElem (l:=dY o) (i:=j) (by omega)
  generalize (dY o)[j]'(by omega)=p at hx
  have hv:(uN M o)[j]?=some (M (eJ p).toNat):=by unfold uN; rw [List.getElem?_map,hx]; rfl
  have hpr:=ub p
  obtain ⟨pp,epp⟩:∃pp:Nat,eJ p=pp:=⟨(eJ p).toNat,by omega⟩
  have hsl:(bU c g).length=j:=by rw [hsn,List.length_take]; omega
  have hops:∀o'∈o::r,KX o'∧(o'.d % 4=0∨o'.d % 4=1):=fun o' ho'=>hc.ops o' (by
   have:∀(l:List m9),oG l=o::r→o'∈l:=fun l=>by
    induction l with
    | nil=>intro h; cases h
    | cons x l ih=>
     intro h
     by_cases cx:x.ps=[]
     ·rw [si cx] at h; exact List.mem_cons_of_mem _ (ih h)
     ·rw [qM cx] at h; rw [h]; exact ho'
   exact this _ hdr)
  rw [JT hdr hc.br hd3 (by rw [hsl]; omega),hsl,EP hx,epp]
  have hnew:bU {c with ops:=o::r,seen:=bU c g++[W0]} ⟨M pp,true⟩=(uN M o).take (j+1):=by
   rw [HG (l:=bU c g) rfl,hsn,List.take_add_one,hv,epp]; rfl
  have hdr2:oG (o::r)=o::r:=qM hps
  have hc2:SC {c with ops:=o::r,seen:=bU c g++[W0]} du q:=⟨hc.t,hc.seq,hc.fO,hc.br,hc.dn,hops⟩
  refine qk.step (k:=150+K+m) (mT (by omega)) ?_ ?_
  ·rw [ku]
   refine ⟨hc.br,Nat.le_trans hc.dn (by decide),fun _=>⟨by show 1≤c.t∧c.t≤3; rw [hc.t]; exact ⟨by decide,by decide⟩,by show 0≤c.seq∧c.seq<_; rw [hc.seq]; omega,hops,by show (bU c g++[W0]).length≤6; rw [List.length_append,hsl,List.length_singleton]; omega,fun o' r' h hlt=>?_⟩,fun d h=>?_⟩
   ·have h:oG (o::r)=o'::r':=h
    rw [hdr2] at h
    injection h with h1 h2
    subst h1 h2
    rw [hnew,List.length_take] at hlt
    have hj1:j+1=(dY o).length:=by omega
    rw [hnew,List.take_of_length_le (by omega)]
    exact ⟨hvl,(Good.op H.Nn (by omega) hd2 hps).Zi⟩
   ·have h:c.now=some d:=h
    rw [hnow] at h
    cases h
  ·rw [ku]
   have e:kL {c with ops:=o::r,seen:=bU c g++[W0]} ⟨M pp,true⟩=mC {c with ops:=o::r,seen:=bU c g++[W0]} ⟨M pp,true⟩ :=by
    unfold kL
    rw [show ({c with ops:=o::r,seen:=bU c g++[W0]}:Cn).now=none from hnow]
   show qk kL Ht post _ (kL {c with ops:=o::r,seen:=bU c g++[W0]} ⟨M pp,true⟩) M
   rw [e]
   exact ih (j+1) _ _ (by omega) (by omega) hc2 hnow hdr2 hdn hnew
end
theorem GW {o:m9} {r:List m9} (h:¬o.ps=[]):nz (o::r)=nz r+1:=by
 unfold nz
 rw [List.filter_cons_of_pos (by simp [List.isEmpty_iff,h]),List.length_cons]
theorem GC {o:m9} {r:List m9} (h:o.ps=[]):nz (o::r)=nz r:=by
 unfold nz
 rw [List.filter_cons_of_neg (by simp [h])]
theorem Pw {post:Cn→Mem→Prop} {du:Bool}:∀(l:List m9) (c:Cn) (M:Mem) (q qb:Int) (n:Nat),c.ops=l→SC c du q→c.now=none→c.seen=[]→MI M q qb n→n+l.length≤800→c.done.length+l.length≤800→
  (∀c' M',c'.done=c.done++List.replicate (nz l) true→c'.broken=false→(∀j,j<64→M' j=vG l M j)→post c' M')→qk kL Ht post (160*l.length) (mC c qY) M
 | [],c,M,q,qb,n,ho,hc,hnow,hs,H,hn,hdl,hp=>by
  rw [Mx (by rw [ho]; rfl)]
  exact .done (hp _ _ (by show c.done=_; simp [nz]) hc.br fun _ _=>rfl)
 | o::r,c,M,q,qb,n,ho,hc,hnow,hs,H,hn,hdl,hp=>by
  simp only [List.length_cons] at hn hdl
  by_cases hps:o.ps=[]
  ·rw [LW (l:=r) (by rw [ho,si hps])]
   have:=Pw (post:=post) (du:=du) r {c with ops:=r} M q qb n rfl ⟨hc.t,hc.seq,hc.fO,hc.br,hc.dn,fun o' h=>hc.ops o' (by rw [ho]; exact List.mem_cons_of_mem _ h)⟩ hnow hs H (by omega) (by show c.done.length+r.length≤800; omega) fun c' M' h1 h2 h3=>hp c' M' (by rw [GC hps]; exact h1) h2 fun j hj=>by
    rw [h3 j hj,vG,if_pos hps]
   exact this.up (by rw [List.length_cons]; omega)
  ·obtain ⟨hmk,hd⟩ :=hc.ops o (by rw [ho]; exact List.mem_cons_self)
   have hd2:¬o.d % 4=2:=by omega
   have hp6:(dY o).length≤6:=by rw [rF hd2]; exact B5 _ _
   have:=Ur (post:=post) (K:=160*r.length) (r:=r) (du:=du) H (by omega) hmk hd hps c.done (by omega) (fun c' M' q' qb' h1 h2 h3 h4 h5 h6 h7=>Pw r c' M' q' qb' (n+1) h1 h2 h3 h4 h6 (by omega) (by rw [h5,List.length_append,List.length_singleton]; omega) fun c2 M2 k1 k2 k3=>hp c2 M2 (by rw [k1,h5,GW hps,List.append_assoc,List.replicate_succ]; rfl) k2 fun j hj=>by
    rw [k3 j hj,vG,if_neg hps]
    exact AL r h7 j hj) (dY o).length 0 c qY rfl (Nat.zero_le _) hc hnow (by rw [ho,qM hps]) rfl (by rw [List.take_zero]; exact if_pos hs)
   exact this.up (by rw [List.length_cons]; omega)
theorem MI.start {first:List Int} {i:Nat} (hi:i≤6) (hf:∀z∈first,-128≤z∧z≤127):MI (CJ first i) 0 0 0∧(∀j,Ww (CJ first i j))∧∀j,(CJ first i j).ref=0:=by
 have hz:∀k,Nf (first.getD k 0):=fun k=>by
  rw [List.getD_eq_getElem?_getD]
  cases h:first[k]? with
  | none=>exact ⟨by decide,by decide⟩
  | some z=>
   have:=hf z (List.mem_of_getElem? h)
   exact ⟨by show -9223372036854775808≤z; omega,by show z≤9223372036854775807; omega⟩
 have z0:(0:Int)≤0∧(0:Int)<4294967296:=⟨by decide,by decide⟩
 have key:∀j,Ww (CJ first i j)∧(CJ first i j).ref=0∧(CJ first i j).dN=0:=fun j=>by
  unfold CJ
  split
  ·exact ⟨⟨hz _,z0,z0⟩,rfl,rfl⟩
  ·unfold Tn
   split
   ·exact ⟨⟨⟨by decide,by decide⟩,z0,z0⟩,rfl,rfl⟩
   ·unfold Ta
    split
    ·exact ⟨⟨⟨by decide,by decide⟩,z0,z0⟩,rfl,rfl⟩
    ·split
     ·exact ⟨⟨⟨by decide,by decide⟩,z0,z0⟩,rfl,rfl⟩
     ·exact ⟨⟨⟨by decide,by decide⟩,z0,z0⟩,rfl,rfl⟩
 refine ⟨⟨.inl ⟨rfl,?_⟩,?_,⟨2,?_⟩,⟨fun j _ _=>(key j).2.1,fun j _ _=>by rw [(key j).2.2]; exact Int.le_refl 0,fun j=>(key j).1⟩,⟨by decide,by decide⟩,⟨by decide,by decide⟩⟩,fun j=>(key j).1,fun j=>(key j).2.1⟩
 ·unfold CJ; rw [if_neg (by omega)]; rfl
 ·unfold CJ; rw [if_neg (by omega)]; rfl
 ·unfold CJ; rw [if_neg (by omega)]; rfl
theorem Wl {du:Bool} {d:Nat} (hd:d=0∨d=1) {first:List Int} {i:Nat} (hi:i≤6) (hf:∀z∈first,-128≤z∧z≤127) {ops:List m9} (hl:ops.length≤100) (hk:∀o∈ops,KX ⟨d,o.ps⟩) {post:Cn→Mem→Prop}
  (hp:∀c' M',c'.done=List.replicate (nz (iP d ops)) true→c'.broken=false→(∀j,j<64→M' j=vG (iP d ops) (CJ first i) j)→post c' M') :
  Ht (He du 0 (iP d ops)) qY∧Ends post (160*ops.length) (kL (He du 0 (iP d ops)) qY) (CJ first i):=by
 obtain ⟨H,_,_⟩ :=MI.start hi hf
 have hll:(iP d ops).length=ops.length:=by unfold iP; rw [List.length_map]
 have hops:∀o∈iP d ops,KX o∧(o.d % 4=0∨o.d % 4=1):=fun o ho=>by
  unfold iP at ho
  obtain ⟨o',ho',rfl⟩ :=List.mem_map.1 ho
  exact ⟨hk o' ho',by show d % 4=0∨d % 4=1; omega⟩
 have hc:SC (He du 0 (iP d ops)) du 0:=⟨rfl,rfl,rfl,rfl,(by decide:0≤900),hops⟩
 refine ⟨⟨rfl,(by decide:0≤1000),fun _=>⟨⟨(by decide:1≤1),(by decide:1≤3)⟩,⟨(by decide:(0:Int)≤0),(by decide:(0:Int)<16777215)⟩,hops,(by decide:0≤6),fun o r e h=>?_⟩,fun d h=>by cases h⟩,?_⟩
 ·exfalso
  apply h
  have hs:bU (He du 0 (iP d ops)) qY=[]:=rfl
  rw [hs,rF (by have:=(hops o (vT e)).2; omega)]
  exact J2 (I7 e)
 ·have:=Pw (post:=post) (du:=du) (iP d ops) (He du 0 (iP d ops)) (CJ first i) 0 0 0 rfl hc rfl rfl H (by omega) (by show 0+_≤800; omega) fun c' M' h1 h2 h3=>hp c' M' (by rw [h1]; rfl) h2 h3
  rw [hll] at this
  exact qk.ends this
end Go.En
namespace Go.En
theorem Ends.up {post:Cn→(Nat→W3)→Prop} {k k':Nat} {r:CR} {M:Nat→W3} (h:Ends post k r M) (hk:k≤k'):Ends post k' r M:=by
 induction h generalizing k' with
 | done hp=>exact .done hp
 | step ha hc _ ih=>
  obtain ⟨q,rfl⟩:∃q,k'=q+1:=⟨k' - 1,by omega⟩
  exact .step ha hc (ih (by omega))
theorem Vc {d d':Nat}:∀l:List m9,nz (iP d l)=nz (iP d' l)
 | []=>rfl
 | o::r=>by
  show nz (⟨d,o.ps⟩::iP d r)=nz (⟨d',o.ps⟩::iP d' r)
  by_cases h:o.ps=[]
  ·rw [GC (o:=⟨d,o.ps⟩) h,GC (o:=⟨d',o.ps⟩) h,Vc r]
  ·rw [GW (o:=⟨d,o.ps⟩) h,GW (o:=⟨d',o.ps⟩) h,Vc r]
theorem Wz {d:Nat}:∀l:List m9,nz (iP d l)≤l.length:=fun l=>by
 unfold nz
 refine Nat.le_trans (List.length_filter_le _ _) ?_
 unfold iP
 rw [List.length_map]; exact Nat.le_refl _
theorem aac:vG (iP 1 Nv) (CJ [5,0] 2) 56=⟨4,1,0⟩ :=by decide
theorem Y4:vG (iP 1 Nv) (CJ [5,0] 2) 57=⟨1,1,0⟩ :=by decide
section
variable {S:Sys} {I:aZ} {h h':Hp} {R:Value→Hp→Prop} {first:List Int} {ops:List m9} {vf:Value} {u:SH} {du:Bool}
theorem Uu (cs:Yb S I) (hZ:Zs h) (hf:Sl EI8 h vf first) (hfr:∀z∈first,-128≤z∧z≤127) (hfl:first.length≤9223372036854775807) (ho:um (Bs.of h) u ops) (hop:∀o∈ops,o.ps.length≤9223372036854775807) (hpt:∀o∈ops,∀p∈o.ps,p.cell<256∧-128≤p.more∧p.more≤127)
  (hR:∀h',Gr h h'→R (.bool true) h'):fD S I vf (aX u) (.bool du) h R:=by
 obtain ⟨_,w1,_⟩ :=MI.start (first:=[5,0]) (i:=2) (by decide) (by decide)
 obtain ⟨_,w2,r2⟩ :=MI.start (first:=first) (i:=min first.length 6) (by omega) hfr
 have hawk:∀o∈Nv,KX ⟨1,o.ps⟩ :=fun o ho=>by
  unfold Nv at ho
  rw [List.mem_singleton] at ho
  subst ho
  exact ⟨(by decide:1<256),(by decide:2≤9223372036854775807),fun p hp=>by
   have hp:p∈VW:=hp
   unfold VW at hp
   simp only [List.mem_cons,List.not_mem_nil,or_false] at hp
   rcases hp with rfl | rfl <;> exact ⟨by decide,by decide,by decide⟩⟩
 obtain ⟨a1,a2⟩ :=Wl (du:=false) (d:=1) (.inr rfl) (first:=[5,0]) (i:=2) (by decide) (by decide) (ops:=Nv) (by decide) hawk (post:=fun _ M=>M 56=⟨4,1,0⟩ ∧M 57=⟨1,1,0⟩) fun c M _ _ h3=>⟨(h3 56 (by decide)).trans aac,(h3 57 (by decide)).trans Y4⟩
 refine Vj cs hZ hf hfr hfl ho a1 (a2.up (by decide)) w1 w2 (n:=nz (iP 0 ops)) ?_ (fin:=vG (iP 0 ops) (CJ first (min first.length 6))) (fun i _ _=>D8 _ r2 i) (fun h8 d hd=>?_) hR
 ·intro h8; have:=Wz (d:=0) ops; omega
 ·obtain ⟨b1,b2⟩ :=Wl (du:=du) (d:=d) hd (first:=first) (i:=min first.length 6) (by omega) hfr (ops:=ops) (by omega) (fun o ho=>⟨by show d<256; omega,hop o ho,hpt o ho⟩) (post:=K1 (nz (iP 0 ops)) (vG (iP 0 ops) (CJ first (min first.length 6)))) fun c M h1 h2 h3=>⟨by rw [h1,Vc (d:=d) (d':=0)],h2,fun i _ hm=>by
   have hm2:=of_decide_eq_true hm
   rw [h3 i (by omega),Ka (d:=d) (d':=0) (by omega) (by decide)]⟩
  exact ⟨b1,b2.up (by omega)⟩
end
end Go.En
namespace Go.En
set_option maxRecDepth 100000
noncomputable def ids:aZ:={mt:=V4 Go.Proofs.Tryz.prog,sv:=4,tH:=5,pf:=6,kE:=9,gL:=11,mU:=12,kz:=15,kC:=16,fK:=17,ye:=18,wC:=19,jX:=20,jC:=21,cM:=22,lO:=23,gE:=24,gM:=25,rP:=26,bI:=27,cF:=28,lN:=29,sM:=31,uL:=32,oL:=33,qS:=34,lj:=35,oH:=36,uK:=37,vJ:=41,s9:=42,jY:=43,eV:=44,rj:=45,eH:=46,ma:=47,fC:=48,eX:=49,gO:=50,mQ:=51,gK:=52,fY:=53,tD:=54,xy:=55,r7:=56,Ae:=57,kN:=58,qw:=59,fB:=60,eI:=61,m7:=62,uG:=69,wI:=70,yd:=71,wh:=72,dH:=73,cI:=74,qL:=75,Dg:=76,lY:=77,kw:=78,kR:=79,gN:=80,qv:=81,dE:=82,jJ:=83,AY:=84,yN:=85,Js:=86,kB:=87,oz:=88,gQ:=89,nA:=90,oC:=91,iI:=92,eE:=93,fX:=106,l8:=107,k7:=108,qN:=109,sP:=110,Bn:=111,iU:=112,ka:=113,ml:=114,lK:=115,nm:=116,qp:=117,ni:=118,dQ:=119,bE:=120,dJ:=121,jS:=122,mu:=123,qT:=130,nP:=131,cX:=132,zQ:=133,jV:=134,iX:=135,cS:=136,gP:=138,gV:=139,aU:=140,sK:=142,bS:=143,qz:=144,cD:=145,fN:=146,dR:=147,lF:=148,ke:=149,hH:=150,aN:=151,dM:=152,jN:=153,tC:=154,dD:=155,bK:=156,bN:=157,u7:=158,sX:=159,dC:=196,fU:=197,eO:=198,xC:=199,cV:=200,fT:=201,qg:=202,po:=203,rJ:=204,IM:=205,vd:=206,zZ:=207,xd:=208,Ha:=209,Fw:=210,CH:=211,sJ:=212,jZ:=213,CB:=214,Dx:=215,rO:=216,rY:=217,dB:=218,bZ:=219,dT:=220,nf:=221,qU:=222,BN:=223,tw:=224,iO:=225,gB:=226,pr:=227,uu:=228,Dr:=229,lX:=230,k0:=231,qH:=232,jG:=233,iL:=234,su:=235,BG:=236,Bx:=237,qe:=238,qh:=239,dK:=240,l7:=241,cC:=242,sN:=243,kG:=244,cK:=245,iJ:=246,dV:=247,uM:=248,Bi:=249,nO:=250,eT:=251,vg:=252,ve:=253,tq:=254,fJ:=255,lV:=256,tN:=257,nV:=258,dZ:=259,zO:=260,Bv:=261,B0:=262,fI:=263,cL:=264,lx:=265,j9:=266,iD:=267,eC:=268,tu:=269,fV:=270,kA:=271,fH:=272,tG:=273,I1:=274,zW:=275,cQ:=276,tT:=277,iY:=278,bL:=279,hU:=280,iW:=281,cP:=282,cO:=283,bO:=284,kK:=285,eZ:=286,rU:=287,Fq:=288,dF:=289,cU:=290,lA:=291,gT:=292,dL:=293,la:=294,cR:=295,fL:=296,rm:=297,tI:=298,sI:=299,kX:=300,fZ:=301,eY:=302,mw:=303,ru:=304,jW:=305,fS:=306,kM:=307,lp:=308,pQ:=309,oA:=310,lB:=311,kH:=312,nS:=313,lM:=314,tA:=315,tP:=316,rR:=317,mV:=318,rN:=319,qi:=320,oY:=321,pK:=322,sD:=323,pH:=339,l5:=340,CI:=341,mB:=342,jB:=343,mz:=344,BF:=2,Lv:=3,AA:=4,aM:=29,GN:=30,l6:=32,jR:=34,bR:=37,bV:=41,E4:=45,uP:=49,kj:=50,nR:=51,aJ:=54,aI:=56,fG:=59,bB:=61,xW:=82,NQ:=85,hY:=86,aK:=89,eA:=95,eW:=124,aW:=146,Dl:=166,bX:=170,bH:=173,oE:=176,eG:=178,cY:=180,tF:=218,ue:=224,rG:=226,tK:=232,sT:=290,aY:=327,aH:=332,qO:=336,iB:=351,iG:=355,bA:=362,C4:=369,jM:=371,aB:=376,nB:=379,bJ:=383}
theorem mixed:Go.Proofs.Tryz.prog.follows .mixedOrders=true:=by kernel_rfl
noncomputable abbrev Ra:Program:=Go.Proofs.Tryz.prog
noncomputable abbrev aC:Sys:=Sys.of Ra
abbrev aO (t:HT):HT:=.s .z t
abbrev aP:HT:=.s .z .z
abbrev gX (t:HT):HT:=.s (.s .z (.c (.s .z .z) .z)) t
theorem tie {f:FuncId} {fn:Func} (ht:HT) {args:List Value} {h:Hp} {R:Value→Hp→Prop} {A:Prop} (hf:Ra.funcs[f]?=some fn) (ng:okF Ra f=true) (H:A) (he:A=PV Ra fn ht args h R):aC.C f args h R:=L8 hf ng mixed he H
theorem C_simulcasttop_TopBothWays {a b c:Value}{h:Hp}{R:Po}(H:fD aC ids a b c h R):aC.C ids.pf [a,b,c] h R:=tie (aO (gX (gX (aO (.s (aO (.b (.l [7,8,32] [0,2,30,31,166] (aO (.s (.c .z .z) (.s (.b (aO aP)) .z)))))) (aO (aO (aO (aO (.s (.j [88] [15,17,166] .z (.c aP .z)) (aO (aO (.s (.j [127] [15,17,19,21,166] .z (.c aP .z)) (.s (aO (.b (.l [131] [15,17,19,21,130,166] (aO (.s (.c .z .z) (.s (.b (aO (.j [152] [15,17,19,21,130,131,166] (.o (oc [0,1,2,3,4,5,6,7,8,9,10,11,12,13,14,15,16,17,18] .nil)) (.c aP .z)))) .z)))))) (aO (.s (.o (oc [0,1,2,5,6,7,3,4,8,9,10,11] .nil)) .z)))))))))))))))) Go.Proofs.Tryz.func6 (by kernel_rfl) H (by kernel_rfl)
theorem BU {a b:Value}{h:Hp}{R:Po}(H:kr aC ids a b h R):aC.C ids.kE [a,b] h R:=tie (aO (.j [] [2,4,44] (.b (aO (.c .z (aO (.c aP (aO (.c .z (aO (.c aP (aO (.c aP .z))))))))))) aP)) Go.Proofs.Tryz.func9 (by kernel_rfl) H (by kernel_rfl)
theorem CU {a:Value}{h:Hp}{R:Po}(H:pE aC ids a h R):aC.C ids.gL [a] h R:=tie (aO aP) Go.Proofs.Tryz.func11 (by kernel_rfl) H (by kernel_rfl)
theorem vU {a:Value}{h:Hp}{R:Po}(H:pS aC ids a h R):aC.C ids.mU [a] h R:=tie (aO aP) Go.Proofs.Tryz.func12 (by kernel_rfl) H (by kernel_rfl)
theorem wm {h:Hp}{R:Po}(H:kq aC ids h R):aC.C ids.kz [] h R:=tie (aO (aO (aO (.j [5] [2,3,4,55] (.o (oc [0,1] (.qX (oc [2] (.qX (oc [3] (.qX (oc [4,5,6,7,8,9,10] .nil) (oc [8,4,5,6,7,9,10] .nil))) (oc [8,3,4,5,6,7,9,10] .nil))) (oc [8,2,3,4,5,6,7,9,10] .nil)))) (.j [7] [2,4,5,55] (.o (oc [0,1] (.qX (oc [2] (.qX (oc [3] (.qX (oc [4,5,6,7,8,9,10] .nil) (oc [8,4,5,6,7,9,10] .nil))) (oc [8,3,4,5,6,7,9,10] .nil))) (oc [8,2,3,4,5,6,7,9,10] .nil)))) (.j [0] [55] .z .z)))))) Go.Proofs.Tryz.func15 (by kernel_rfl) H (by kernel_rfl)
theorem wz {a b:Value}{h:Hp}{R:Po}(H:kx aC ids a b h R):aC.C ids.kC [a,b] h R:=tie (aO (aO (.s (aO (.b (.l [5,6] [0,1,53] (.s (.j [16] [0,1,5,6,53] .z (.c .z .z)) (.s (.b (gX (aO (.b (.l [5,30] [0,1,6,28,29,53] (aO (.s (.c .z .z) (.s (.b aP) .z)))))))) .z))))) (.j [4] [53] .z .z)))) Go.Proofs.Tryz.func16 (by kernel_rfl) H (by kernel_rfl)
theorem wQ {a b c:Value}{h:Hp}{R:Po}(H:kP aC ids a b c h R):aC.C ids.fK [a,b,c] h R:=tie (aO (aO (aO (.s (aO (.b (.l [10] [0,1,2,6,8,9,87] (.s (.j [35] [0,1,2,6,8,9,10,87] .z (.c .z .z)) (.s (.b (.o (oc [0,1,2,4,5,6,7,8,3,9,10,11] .nil))) .z))))) (aO (aO (.s (aO (.b (.l [13,58] [1,6,8,11,12,56,57,87] (aO (.s (.c .z .z) (.s (.b aP) .z)))))) (aO (.j [7] [6,87] .z .z))))))))) Go.Proofs.Tryz.func17 (by kernel_rfl) H (by kernel_rfl)
theorem yM {a:Value}{h:Hp}{R:Po}(H:jT aC ids a h R):aC.C ids.jX [a] h R:=tie (aO (aO aP)) Go.Proofs.Tryz.func20 (by kernel_rfl) H (by kernel_rfl)
theorem AH {a b c:Value}{h:Hp}{R:Po}(H:lh aC ids a b c h R):aC.C ids.jC [a,b,c] h R:=tie (aO (.s (.j [24] [1,2,3,6,49] .z (.c aP .z)) (.j [] [1,3,6,49] (aO (.b (.l [28] [1,3,6,27,49] (aO (.s (.c .z .z) (.s (.b (aO (.s (aO (.c .z .z)) .z))) .z)))))) (.s (.o (oc [0,1,2,3,4,5,6,7,8,9] .nil)) .z)))) Go.Proofs.Tryz.func21 (by kernel_rfl) H (by kernel_rfl)
theorem xo {h:Hp}{R:Po}(H:ns aC ids h R):aC.C ids.cM [] h R:=tie (aO aP) Go.Proofs.Tryz.func22 (by kernel_rfl) H (by kernel_rfl)
theorem xY {a b:Value}{h:Hp}{R:Po}(H:lH aC ids a b h R):aC.C ids.lO [a,b] h R:=tie (aO (gX (.s (aO (.b (.l [5] [0,1,26] (.s (aO (.c .z .z)) (.s (.b (.s (.o (oc [0,1,2,3,4,5,6,7,8] .nil)) (.c aP .z))) .z))))) aP))) Go.Proofs.Tryz.func23 (by kernel_rfl) H (by kernel_rfl)
theorem vD {a b:Value}{h:Hp}{R:Po}(H:jQ aC ids a b h R):aC.C ids.gE [a,b] h R:=tie (aO (aO (.s (aO (.b (.l [6] [1,2,5,34] (.s (aO (.c .z .z)) (.j [] [1,2,5,6,34] (.b (aO (.c .z .z))) .z))))) aP))) Go.Proofs.Tryz.func24 (by kernel_rfl) H (by kernel_rfl)
theorem wE {a:Value}{h:Hp}{R:Po}(H:km aC ids a h R):aC.C ids.gM [a] h R:=tie (aO (aO (aO (.s (aO (.b (.l [5,15] [1,14,30] (aO (.s (.c .z .z) (.s (.b (aO aP)) .z)))))) aP)))) Go.Proofs.Tryz.func25 (by kernel_rfl) H (by kernel_rfl)
theorem Bq {a:Value}{h:Hp}{R:Po}(H:ou aC ids a h R):aC.C ids.rP [a] h R:=tie (aO aP) Go.Proofs.Tryz.func26 (by kernel_rfl) H (by kernel_rfl)
theorem rD {a b:Value}{h:Hp}{R:Po}(H:kQ aC ids a b h R):aC.C ids.bI [a,b] h R:=tie (aO aP) Go.Proofs.Tryz.func27 (by kernel_rfl) H (by kernel_rfl)
theorem yy {a b:Value}{h:Hp}{R:Po}(H:pa aC ids a b h R):aC.C ids.cF [a,b] h R:=tie (aO aP) Go.Proofs.Tryz.func28 (by kernel_rfl) H (by kernel_rfl)
theorem yb {a:Value}{h:Hp}{R:Po}(H:oh aC ids a h R):aC.C ids.lN [a] h R:=tie (aO (gX (aO (aO (.s (aO (.b (.l [4] [1,3,42] (.s (aO (.c .z .z)) (.s (.b .z) .z))))) (.s (aO (.b (.l [31] [1,3,30,42] (aO (.s (.c .z .z) (.s (.b aP) .z)))))) aP)))))) Go.Proofs.Tryz.func29 (by kernel_rfl) H (by kernel_rfl)
theorem E6 {a b:Value}{h:Hp}{R:Po}(H:vt aC ids a b h R):aC.C ids.sM [a,b] h R:=tie (aO (aO (gX (aO (gX (.s (.o (oc [0,1,2,3,4,5,6] .nil)) .z)))))) Go.Proofs.Tryz.func31 (by kernel_rfl) H (by kernel_rfl)
theorem I8 {a b:Value}{h:Hp}{R:Po}(H:uX aC ids a b h R):aC.C ids.uL [a,b] h R:=tie (aO (.s (aO (aO (.c aP .z))) (.j [8] [1,4,41] (.o (oc [0,1,2] (.qX (oc [3,4,5,6] .nil) (oc [5,3,4,6] .nil)))) (.s (aO (.b (.l [28] [4,8,26,27,41] (aO (.s (.c .z .z) (.s (.b (aO (.o (oc [0,1,2,3,4,5,6,7] .nil)))) .z)))))) aP)))) Go.Proofs.Tryz.func32 (by kernel_rfl) H (by kernel_rfl)
theorem B7 {a:Value}{h:Hp}{R:Po}(H:oK aC ids a h R):aC.C ids.oL [a] h R:=tie (aO (aO aP)) Go.Proofs.Tryz.func33 (by kernel_rfl) H (by kernel_rfl)
theorem AJ {a b:Value}{h:Hp}{R:Po}(H:fA aC ids a b h R):aC.C ids.lj [a,b] h R:=tie (aO (.j [4] [31] .z .z)) Go.Proofs.Tryz.func35 (by kernel_rfl) H (by kernel_rfl)
theorem BB {a b c:Value}{h:Hp}{R:Po}(H:oB aC ids a b c h R):aC.C ids.oH [a,b,c] h R:=tie (aO (aO (aO (.j [] [1,3,6,10,55] (aO (.c .z .z)) (aO (.s (.o (oc [0,1,2,3,4,5,6,7,8,9,10,11,12,13] .nil)) aP)))))) Go.Proofs.Tryz.func36 (by kernel_rfl) H (by kernel_rfl)
theorem zc {a b:Value}{h:Hp}{R:Po}(H:mA aC ids a b h R):aC.C ids.jY [a,b] h R:=tie (aO (.j [4] [17] .z .z)) Go.Proofs.Tryz.func43 (by kernel_rfl) H (by kernel_rfl)
theorem zK {a b:Value}{h:Hp}{R:Po}(H:kJ aC ids a b h R):aC.C ids.eV [a,b] h R:=tie (aO (gX (aO (.s (aO (.j [22] [2,5,38] .z (.c aP .z))) (.j [4] [38] .z .z))))) Go.Proofs.Tryz.func44 (by kernel_rfl) H (by kernel_rfl)
theorem DV {a b c:Value}{h:Hp}{R:Po}(H:rI aC ids a b c h R):aC.C ids.rj [a,b,c] h R:=tie (aO (.s (.b (.j [16] [1,2,3,6,96] .z (.c aP (aO (.c aP .z))))) (aO (aO (aO (gX (aO (.s (.j [71] [2,6,8,11,12,96] .z (.c aP .z)) (.s (aO (.b (.l [76] [2,6,8,11,74,75,96] (aO (.s (.c .z .z) (.s (.b (aO (.j [87] [2,6,8,11,15,74,75,76,96] .z (.c aP .z)))) .z)))))) aP))))))))) Go.Proofs.Tryz.func45 (by kernel_rfl) H (by kernel_rfl)
theorem wX {a:Value}{h:Hp}{R:Po}(H:nF aC ids a h R):aC.C ids.eH [a] h R:=tie (aO aP) Go.Proofs.Tryz.func46 (by kernel_rfl) H (by kernel_rfl)
theorem yz {a b:Value}{h:Hp}{R:Po}(H:pz aC ids a b h R):aC.C ids.ma [a,b] h R:=tie (aO (aO aP)) Go.Proofs.Tryz.func47 (by kernel_rfl) H (by kernel_rfl)
theorem AN {a b c d:Value}{h:Hp}{R:Po}(H:qA aC ids a b c d h R):aC.C ids.fC [a,b,c,d] h R:=tie (aO (.s (.j [22] [1,2,3,4,34] .z (.c aP .z)) (.s (.o (oc [0,1,3,4,5,6,7,9,2,8,10,11] .nil)) .z))) Go.Proofs.Tryz.func48 (by kernel_rfl) H (by kernel_rfl)
theorem xL {a:Value}{h:Hp}{R:Po}(H:om aC ids a h R):aC.C ids.eX [a] h R:=tie (aO aP) Go.Proofs.Tryz.func49 (by kernel_rfl) H (by kernel_rfl)
theorem sV {a:Value}{h:Hp}{R:Po}(H:py aC ids a h R):aC.C ids.gO [a] h R:=tie (aO (gX aP)) Go.Proofs.Tryz.func50 (by kernel_rfl) H (by kernel_rfl)
theorem zP {a:Value}{h:Hp}{R:Po}(H:p7 aC ids a h R):aC.C ids.mQ [a] h R:=tie (aO aP) Go.Proofs.Tryz.func51 (by kernel_rfl) H (by kernel_rfl)
theorem yo {a b:Value}{h:Hp}{R:Po}(H:oU aC ids a b h R):aC.C ids.gK [a,b] h R:=tie (aO aP) Go.Proofs.Tryz.func52 (by kernel_rfl) H (by kernel_rfl)
theorem xV {a b:Value}{h:Hp}{R:Po}(H:ol aC ids a b h R):aC.C ids.fY [a,b] h R:=tie (aO aP) Go.Proofs.Tryz.func53 (by kernel_rfl) H (by kernel_rfl)
theorem GU {a b:Value}{h:Hp}{R:Po}(H:xf aC ids a b h R):aC.C ids.tD [a,b] h R:=tie (aO (.s (.b (.j [9] [0,1,4,45] .z (.c aP (aO (.c aP (aO (.c aP .z))))))) (aO (.s (aO (.b (.l [32] [4,6,30,31,45] (aO (.s (.c .z .z) (.s (.b (aO (.o (oc [0,1,2,3,4,5,6,7] .nil)))) .z)))))) aP)))) Go.Proofs.Tryz.func54 (by kernel_rfl) H (by kernel_rfl)
theorem JF {a:Value}{h:Hp}{R:Po}(H:AF aC ids a h R):aC.C ids.xy [a] h R:=tie (aO (gX (.j [3] [2,17] (.o (oc [0,2,3,4,5,6] (.qX (oc [1,7,8,9,10] .nil) (oc [7,1,8,9,10] .nil)))) .z))) Go.Proofs.Tryz.func55 (by kernel_rfl) H (by kernel_rfl)
theorem AW {a:Value}{h:Hp}{R:Po}(H:pN aC ids a h R):aC.C ids.r7 [a] h R:=tie (aO (gX aP)) Go.Proofs.Tryz.func56 (by kernel_rfl) H (by kernel_rfl)
theorem wZ {a:Value}{h:Hp}{R:Po}(H:nE aC ids a h R):aC.C ids.kN [a] h R:=tie (aO (gX aP)) Go.Proofs.Tryz.func58 (by kernel_rfl) H (by kernel_rfl)
theorem Dq {a:Value}{h:Hp}{R:Po}(H:qy aC ids a h R):aC.C ids.qw [a] h R:=tie (aO (.s (.o (oc [0,1,2,3,4,5,6] .nil)) .z)) Go.Proofs.Tryz.func59 (by kernel_rfl) H (by kernel_rfl)
theorem pA {a b c d:Value}{h:Hp}{R:Po}(H:bP aC ids a b c d h R):aC.C ids.fB [a,b,c,d] h R:=tie (aO (.s (aO (aO (.c aP .z))) (aO (.j [] [1,4,8,9,12,85] (.b (aO (.c .z (aO (.c .z (aO (.c .z (aO (.c .z .z))))))))) (aO (aO (.s (.o (oc [0,1,2,3,4] .nil)) .z))))))) Go.Proofs.Tryz.func60 (by kernel_rfl) H (by kernel_rfl)
theorem qG {a:Value}{h:Hp}{R:Po}(H:gJ aC ids a h R):aC.C ids.eI [a] h R:=tie (aO (gX aP)) Go.Proofs.Tryz.func61 (by kernel_rfl) H (by kernel_rfl)
theorem wj {a b:Value}{h:Hp}{R:Po}(H:k8 aC ids a b h R):aC.C ids.m7 [a,b] h R:=tie (aO (gX (aO (.j [] [2,3,4,5,26] (.o (oc [0,1,3] (.qX (oc [2,4,5,6,7] .nil) (oc [4,2,5,6,7] .nil)))) (.s (.o (oc [0,1,2,3,4,5,6,7,8] .nil)) .z))))) Go.Proofs.Tryz.func62 (by kernel_rfl) H (by kernel_rfl)
theorem zl {a b:Value}{h:Hp}{R:Po}(H:pq aC ids a b h R):aC.C ids.dH [a,b] h R:=tie (aO (aO (.s (aO (.b (.l [5,8] [2,7,18] (aO (.s (.c .z .z) (.s (.b aP) .z)))))) aP))) Go.Proofs.Tryz.func73 (by kernel_rfl) H (by kernel_rfl)
theorem xP {a:Value}{h:Hp}{R:Po}(H:ot aC ids a h R):aC.C ids.cI [a] h R:=tie (aO (.s (.b (.j [3] [1,20] (aO (.c .z (aO (.c .z .z)))) (.c aP (aO (.c aP .z))))) aP)) Go.Proofs.Tryz.func74 (by kernel_rfl) H (by kernel_rfl)
theorem KH {a:Value}{h:Hp}{R:Po}(H:wO aC ids a h R):aC.C ids.qL [a] h R:=tie (aO (aO (.s (aO (aO (.c aP .z))) aP))) Go.Proofs.Tryz.func75 (by kernel_rfl) H (by kernel_rfl)
theorem yF {a:Value}{h:Hp}{R:Po}(H:oM aC ids a h R):aC.C ids.lY [a] h R:=tie (aO (.s (.o (oc [0,1,2,3,4,5,6,7] .nil)) .z)) Go.Proofs.Tryz.func77 (by kernel_rfl) H (by kernel_rfl)
theorem wk {a b:Value}{h:Hp}{R:Po}(H:m0 aC ids a b h R):aC.C ids.kw [a,b] h R:=tie (aO (gX aP)) Go.Proofs.Tryz.func78 (by kernel_rfl) H (by kernel_rfl)
theorem xp {a:Value}{h:Hp}{R:Po}(H:nl aC ids a h R):aC.C ids.kR [a] h R:=tie (aO (aO aP)) Go.Proofs.Tryz.func79 (by kernel_rfl) H (by kernel_rfl)
theorem yp {a b:Value}{h:Hp}{R:Po}(H:oX aC ids a b h R):aC.C ids.gN [a,b] h R:=tie (aO aP) Go.Proofs.Tryz.func80 (by kernel_rfl) H (by kernel_rfl)
theorem z4 {a:Value}{h:Hp}{R:Po}(H:qq aC ids a h R):aC.C ids.qv [a] h R:=tie (aO aP) Go.Proofs.Tryz.func81 (by kernel_rfl) H (by kernel_rfl)
theorem rT {a:Value}{h:Hp}{R:Po}(H:gY aC ids a h R):aC.C ids.dE [a] h R:=tie (aO (gX aP)) Go.Proofs.Tryz.func82 (by kernel_rfl) H (by kernel_rfl)
theorem sB {a b c d:Value}{h:Hp}{R:Po}(H:gR aC ids a b c d h R):aC.C ids.jJ [a,b,c,d] h R:=tie (aO (.s (.o (oc [0,1,2,3,4,5,6,7] .nil)) (.s (.j [18] [1,4,8,27] .z (.c (aO aP) .z)) (aO aP)))) Go.Proofs.Tryz.func83 (by kernel_rfl) H (by kernel_rfl)
theorem wo {a b c:Value}{h:Hp}{R:Po}(H:mZ aC ids a b c h R):aC.C ids.kB [a,b,c] h R:=tie (aO (aO (.s (.b (.j [14] [5,8,51] .z (.c aP (.j [22] [5,8,51] .z (.c aP (.j [31] [51] .z (.c aP .z))))))) aP))) Go.Proofs.Tryz.func87 (by kernel_rfl) H (by kernel_rfl)
theorem BT {a:Value}{h:Hp}{R:Po}(H:rq aC ids a h R):aC.C ids.oz [a] h R:=tie (aO (.j [2] [16] .z .z)) Go.Proofs.Tryz.func88 (by kernel_rfl) H (by kernel_rfl)
theorem qQ {a b c:Value}{h:Hp}{R:Po}(H:dW aC ids a b c h R):aC.C ids.gQ [a,b,c] h R:=tie (aO (aO (.j [] [3,5,6,7,8,61] (aO (.c .z .z)) (.j [] [3,6,7,8,61] (aO (.c .z .z)) (.s (.o (oc [0,1,2,3] .nil)) .z))))) Go.Proofs.Tryz.func89 (by kernel_rfl) H (by kernel_rfl)
theorem Av {a b c:Value}{h:Hp}{R:Po}(H:jF aC ids a b c h R):aC.C ids.nA [a,b,c] h R:=tie (aO (.s (.b (aO (.c aP (aO (.c aP .z))))) (aO (.j [8] [1,2,3,6,54] (aO (.c .z .z)) (aO (aO (aO (.j [] [1,3,6,8,54] (aO (.c .z .z)) (aO aP))))))))) Go.Proofs.Tryz.func90 (by kernel_rfl) H (by kernel_rfl)
theorem Bp {a b:Value}{h:Hp}{R:Po}(H:my aC ids a b h R):aC.C ids.oC [a,b] h R:=tie (aO (gX (aO (.s (aO (.b (.l [] [1,2,4,20,47] (aO (.s (.c .z .z) (.b (aO (.o (oc [0,1,2,3,4,5,6,7,8,9,10,11,12,13] .nil))))))))) (aO (aO aP)))))) Go.Proofs.Tryz.func91 (by kernel_rfl) H (by kernel_rfl)
theorem rr {a b c d:Value}{h:Hp}{R:Po}(H:fM aC ids a b c d h R):aC.C ids.iI [a,b,c,d] h R:=tie (aO (aO (.j [] [4,8,9,10,43] (aO (.c .z .z)) (.s (.o (oc [0,1,2,3,4] .nil)) .z)))) Go.Proofs.Tryz.func92 (by kernel_rfl) H (by kernel_rfl)
theorem sZ {a:Value}{h:Hp}{R:Po}(H:j7 aC ids a h R):aC.C ids.eE [a] h R:=tie (aO aP) Go.Proofs.Tryz.func93 (by kernel_rfl) H (by kernel_rfl)
theorem yg {a b:Value}{h:Hp}{R:Po}(H:gA aC ids a b h R):aC.C ids.fX [a,b] h R:=tie (aO (aO (.j [6,7] [21] (aO (.c .z .z)) (gX aP)))) Go.Proofs.Tryz.func106 (by kernel_rfl) H (by kernel_rfl)
theorem yA {a b:Value}{h:Hp}{R:Po}(H:oN aC ids a b h R):aC.C ids.l8 [a,b] h R:=tie (aO (.s (.o (oc [0,1,3,4,5,2,6,7] .nil)) (.j [5] [28] (.j [22] [5,28] .z (.c .z .z)) aP))) Go.Proofs.Tryz.func107 (by kernel_rfl) H (by kernel_rfl)
theorem Cp {a b c:Value}{h:Hp}{R:Po}(H:sh aC ids a b c h R):aC.C ids.k7 [a,b,c] h R:=tie (aO (.j [6] [15] .z .z)) Go.Proofs.Tryz.func108 (by kernel_rfl) H (by kernel_rfl)
theorem J5 {a b:Value}{h:Hp}{R:Po}(H:wV aC ids a b h R):aC.C ids.qN [a,b] h R:=tie (aO (.s (.j [19] [0,1,26] .z (.c aP .z)) aP)) Go.Proofs.Tryz.func109 (by kernel_rfl) H (by kernel_rfl)
theorem Fm {a:Value}{h:Hp}{R:Po}(H:qc aC ids a h R):aC.C ids.sP [a] h R:=tie (aO (.s (.j [14] [1,2,35] .z (.c aP .z)) (aO (.s (.s (.o (oc [0,2,1,3] .nil)) (.c aP .z)) aP)))) Go.Proofs.Tryz.func110 (by kernel_rfl) H (by kernel_rfl)
theorem xO {a b:Value}{h:Hp}{R:Po}(H:nX aC ids a b h R):aC.C ids.iU [a,b] h R:=tie (aO (.j [4] [14] .z .z)) Go.Proofs.Tryz.func112 (by kernel_rfl) H (by kernel_rfl)
theorem ym {a b:Value}{h:Hp}{R:Po}(H:pn aC ids a b h R):aC.C ids.ka [a,b] h R:=tie (aO (.s (.j [14] [1,2,4,21] .z (.c aP .z)) aP)) Go.Proofs.Tryz.func113 (by kernel_rfl) H (by kernel_rfl)
theorem yD {a b c d e:Value}{h:Hp}{R:Po}(H:md aC ids a b c d e h R):aC.C ids.ml [a,b,c,d,e] h R:=tie (aO (aO (.s (.j [31] [1,2,9,10,11,14,15,16,41] .z (.c (.s (.o (oc [0,1,2,3,4,5,6] .nil)) .z) .z)) (.s (.o (oc [0,1,2,3,5,4,6,7,8,9] .nil)) .z)))) Go.Proofs.Tryz.func114 (by kernel_rfl) H (by kernel_rfl)
theorem xH {a b c d e:Value}{h:Hp}{R:Po}(H:nZ aC ids a b c d e h R):aC.C ids.lK [a,b,c,d,e] h R:=tie (aO (.s (aO (aO (.c aP .z))) aP)) Go.Proofs.Tryz.func115 (by kernel_rfl) H (by kernel_rfl)
theorem Ar {a b c:Value}{h:Hp}{R:Po}(H:qJ aC ids a b c h R):aC.C ids.nm [a,b,c] h R:=tie (aO (gX (aO (aO (.j [] [3,6,37] (.o (oc [0,1,2,3,4,6,7,8] (.qX (oc [5,9,10,11,12,13] .nil) (oc [9,5,10,11,12,13] .nil)))) aP))))) Go.Proofs.Tryz.func116 (by kernel_rfl) H (by kernel_rfl)
theorem Fz {a:Value}{h:Hp}{R:Po}(H:vM aC ids a h R):aC.C ids.qp [a] h R:=tie (aO (.j [2] [9] .z .z)) Go.Proofs.Tryz.func117 (by kernel_rfl) H (by kernel_rfl)
theorem CM {a b:Value}{h:Hp}{R:Po}(H:sr aC ids a b h R):aC.C ids.ni [a,b] h R:=tie (aO (.j [4] [14] .z .z)) Go.Proofs.Tryz.func118 (by kernel_rfl) H (by kernel_rfl)
theorem mJ {a:Value}{h:Hp}{R:Po}(H:dP aC ids a h R):aC.C ids.dQ [a] h R:=tie (aO (gX aP)) Go.Proofs.Tryz.func119 (by kernel_rfl) H (by kernel_rfl)
theorem gG {a:Value}{h:Hp}{R:Po}(H:bM aC ids a h R):aC.C ids.bE [a] h R:=tie (aO (gX aP)) Go.Proofs.Tryz.func120 (by kernel_rfl) H (by kernel_rfl)
theorem rK {a:Value}{h:Hp}{R:Po}(H:iE aC ids a h R):aC.C ids.dJ [a] h R:=tie (aO (gX aP)) Go.Proofs.Tryz.func121 (by kernel_rfl) H (by kernel_rfl)
theorem yC {a b c:Value}{h:Hp}{R:Po}(H:oW aC ids a b c h R):aC.C ids.jS [a,b,c] h R:=tie (aO aP) Go.Proofs.Tryz.func122 (by kernel_rfl) H (by kernel_rfl)
theorem yu {a b c d e:Value}{h:Hp}{R:Po}(H:pu aC ids a b c d e h R):aC.C ids.mu [a,b,c,d,e] h R:=tie (aO aP) Go.Proofs.Tryz.func123 (by kernel_rfl) H (by kernel_rfl)
theorem Jd {a:Value}{h:Hp}{R:Po}(H:uW aC ids a h R):aC.C ids.qT [a] h R:=tie (aO (aO (.j [] [1,2,3,22] (aO (.c .z .z)) aP))) Go.Proofs.Tryz.func130 (by kernel_rfl) H (by kernel_rfl)
theorem Fv {a:Value}{h:Hp}{R:Po}(H:qm aC ids a h R):aC.C ids.nP [a] h R:=tie (aO (.s (.b (aO (.c aP (aO (.c aP .z))))) (.s (aO (.b (.l [16] [0,14,15,32] (aO (.s (.c .z .z) (.s (.b (aO (.s (aO (aO (.c aP .z))) (aO (.c aP .z))))) .z)))))) aP))) Go.Proofs.Tryz.func131 (by kernel_rfl) H (by kernel_rfl)
theorem nK {a b:Value}{h:Hp}{R:Po}(H:eP aC ids a b h R):aC.C ids.cX [a,b] h R:=tie (aO (.s (aO (.b (.l [5] [0,1,25] (.s (aO (.c .z .z)) (.s (.b (.s (.o (oc [0,1,2,3,4,5,6,7,8,9,10,11] .nil)) (.c aP .z))) .z))))) aP)) Go.Proofs.Tryz.func132 (by kernel_rfl) H (by kernel_rfl)
theorem zp {a b c d e:Value}{h:Hp}{R:Po}(H:mg aC ids a b c d e h R):aC.C ids.jV [a,b,c,d,e] h R:=tie (aO (aO (.j [12] [1,2,4,5,8,10,11,62] (.o (oc [0,1,3,4] (.qX (oc [2] (.qX (oc [5] (.qX (oc [6,7,8] .nil) (oc [7,6,8] .nil))) (oc [7,5,6,8] .nil))) (oc [7,2,5,6,8] .nil)))) (aO (.j [] [1,2,5,8,10,11,12,13,62] (aO (.c .z .z)) (aO (.s (.o (oc [0,1,2,3,4,5,6,7,8,9,10,11,12,13] .nil)) (aO aP)))))))) Go.Proofs.Tryz.func134 (by kernel_rfl) H (by kernel_rfl)
theorem xZ {a b c:Value}{h:Hp}{R:Po}(H:og aC ids a b c h R):aC.C ids.iX [a,b,c] h R:=tie (aO (.s (.b (aO (.c aP (aO (.c aP .z))))) aP)) Go.Proofs.Tryz.func135 (by kernel_rfl) H (by kernel_rfl)
theorem qa {a:Value}{h:Hp}{R:Po}(H:gF aC ids a h R):aC.C ids.cS [a] h R:=tie (aO aP) Go.Proofs.Tryz.func136 (by kernel_rfl) H (by kernel_rfl)
theorem s5 {a b c d e:Value}{h:Hp}{R:Po}(H:jU aC ids a b c d e h R):aC.C ids.gP [a,b,c,d,e] h R:=tie (aO (.s (aO (aO (.c aP .z))) (.j [14,15] [10,11,47] (.o (oc [0,1,2,3,4,5,6,7,8,9,10,12,15] (.qX (oc [11] (.qX (oc [13] (.qX (oc [14] (.qX (oc [16,17,18,19] (.qX (oc [20,21,22,23] .nil) (oc [21,20,22,23] .nil))) (.qX (oc [20] (.qX (oc [16,17,18,19,21,22,23] .nil) (oc [21,16,17,18,19,22,23] .nil))) (oc [21] (.qX (oc [16,17,18,19,20,22,23] .nil) (oc [20,16,17,18,19,22,23] .nil)))))) (.qX (oc [20] (.qX (oc [14] (.qX (oc [16,17,18,19,21,22,23] .nil) (oc [21,16,17,18,19,22,23] .nil))) (oc [21,14,16,17,18,19,22,23] .nil))) (oc [21] (.qX (oc [14] (.qX (oc [16,17,18,19,20,22,23] .nil) (oc [20,16,17,18,19,22,23] .nil))) (oc [20,14,16,17,18,19,22,23] .nil)))))) (.qX (oc [20] (.qX (oc [13] (.qX (oc [14] (.qX (oc [16,17,18,19,21,22,23] .nil) (oc [21,16,17,18,19,22,23] .nil))) (oc [21,14,16,17,18,19,22,23] .nil))) (oc [21,13,14,16,17,18,19,22,23] .nil))) (oc [21] (.qX (oc [13] (.qX (oc [14] (.qX (oc [16,17,18,19,20,22,23] .nil) (oc [20,16,17,18,19,22,23] .nil))) (oc [20,14,16,17,18,19,22,23] .nil))) (oc [20,13,14,16,17,18,19,22,23] .nil)))))) (.qX (oc [20] (.qX (oc [11] (.qX (oc [13] (.qX (oc [14] (.qX (oc [16,17,18,19,21,22,23] .nil) (oc [21,16,17,18,19,22,23] .nil))) (oc [21,14,16,17,18,19,22,23] .nil))) (oc [21,13,14,16,17,18,19,22,23] .nil))) (oc [21,11,13,14,16,17,18,19,22,23] .nil))) (oc [21] (.qX (oc [11] (.qX (oc [13] (.qX (oc [14] (.qX (oc [16,17,18,19,20,22,23] .nil) (oc [20,16,17,18,19,22,23] .nil))) (oc [20,14,16,17,18,19,22,23] .nil))) (oc [20,13,14,16,17,18,19,22,23] .nil))) (oc [20,11,13,14,16,17,18,19,22,23] .nil))))))) (.s (.o (oc [0,1,2,3,4] .nil)) .z)))) Go.Proofs.Tryz.func138 (by kernel_rfl) H (by kernel_rfl)
theorem zo {a b c:Value}{h:Hp}{R:Po}(H:oT aC ids a b c h R):aC.C ids.gV [a,b,c] h R:=tie (aO aP) Go.Proofs.Tryz.func139 (by kernel_rfl) H (by kernel_rfl)
theorem yr {a b c:Value}{h:Hp}{R:Po}(H:mD aC ids a b c h R):aC.C ids.aU [a,b,c] h R:=tie (aO aP) Go.Proofs.Tryz.func140 (by kernel_rfl) H (by kernel_rfl)
theorem Fj {a:Value}{h:Hp}{R:Po}(H:kZ aC ids a h R):aC.C ids.sK [a] h R:=tie (aO (.s (.b (.j [3] [1,38] .z (.c aP (aO (.c aP (.j [17] [1,38] .z (.c aP (.j [26] [38] .z (.c aP .z))))))))) aP)) Go.Proofs.Tryz.func142 (by kernel_rfl) H (by kernel_rfl)
theorem nL {a b:Value}{h:Hp}{R:Po}(H:eN aC ids a b h R):aC.C ids.bS [a,b] h R:=tie (aO aP) Go.Proofs.Tryz.func143 (by kernel_rfl) H (by kernel_rfl)
theorem Dt {a b:Value}{h:Hp}{R:Po}(H:ti aC ids a b h R):aC.C ids.qz [a,b] h R:=tie (aO aP) Go.Proofs.Tryz.func144 (by kernel_rfl) H (by kernel_rfl)
theorem zb {a b:Value}{h:Hp}{R:Po}(H:pe aC ids a b h R):aC.C ids.cD [a,b] h R:=tie (aO (gX aP)) Go.Proofs.Tryz.func145 (by kernel_rfl) H (by kernel_rfl)
theorem CQ {a b c:Value}{h:Hp}{R:Po}(H:mX aC ids a b c h R):aC.C ids.fN [a,b,c] h R:=tie (aO (.s (.j [21] [1,2,3,6,34] .z (.c aP .z)) (aO (.j [7] [1,2,6,34] (aO (.c .z .z)) (aO aP))))) Go.Proofs.Tryz.func146 (by kernel_rfl) H (by kernel_rfl)
theorem xS {a:Value}{h:Hp}{R:Po}(H:nY aC ids a h R):aC.C ids.dR [a] h R:=tie (aO aP) Go.Proofs.Tryz.func147 (by kernel_rfl) H (by kernel_rfl)
theorem yc {a b:Value}{h:Hp}{R:Po}(H:od aC ids a b h R):aC.C ids.lF [a,b] h R:=tie (aO (.j [] [4,12] (.o (oc [0,1,3] (.qX (oc [2,4,5,6,7] .nil) (oc [4,2,5,6,7] .nil)))) .z)) Go.Proofs.Tryz.func148 (by kernel_rfl) H (by kernel_rfl)
theorem yO {a b c:Value}{h:Hp}{R:Po}(H:oP aC ids a b c h R):aC.C ids.ke [a,b,c] h R:=tie (aO (aO (aO (aO (aO aP))))) Go.Proofs.Tryz.func149 (by kernel_rfl) H (by kernel_rfl)
theorem xA {a b:Value}{h:Hp}{R:Po}(H:nn aC ids a b h R):aC.C ids.hH [a,b] h R:=tie (aO (.j [4] [14] .z .z)) Go.Proofs.Tryz.func150 (by kernel_rfl) H (by kernel_rfl)
theorem xI {a b c d e:Value}{h:Hp}{R:Po}(H:lG aC ids a b c d e h R):aC.C ids.aN [a,b,c,d,e] h R:=tie (aO (aO (aO (.j [] [1,5,10,11,12,14,42] (aO (.c .z .z)) (.s (.o (oc [0,1,2,4,5,3,6,7] .nil)) .z))))) Go.Proofs.Tryz.func151 (by kernel_rfl) H (by kernel_rfl)
theorem Eh {a b:Value}{h:Hp}{R:Po}(H:ui aC ids a b h R):aC.C ids.dM [a,b] h R:=tie (aO aP) Go.Proofs.Tryz.func152 (by kernel_rfl) H (by kernel_rfl)
theorem vv {a b c:Value}{h:Hp}{R:Po}(H:mG aC ids a b c h R):aC.C ids.jN [a,b,c] h R:=tie (aO (aO (gX (aO aP)))) Go.Proofs.Tryz.func153 (by kernel_rfl) H (by kernel_rfl)
theorem Gq {a:Value}{h:Hp}{R:Po}(H:xu aC ids a h R):aC.C ids.tC [a] h R:=tie (aO aP) Go.Proofs.Tryz.func154 (by kernel_rfl) H (by kernel_rfl)
theorem oS {a b:Value}{h:Hp}{R:Po}(H:fF aC ids a b h R):aC.C ids.dD [a,b] h R:=tie (aO (.s (aO (.b (.l [8] [0,1,7,19] (aO (.s (.c .z .z) (.s (.b (aO (aO (.c aP .z)))) .z)))))) aP)) Go.Proofs.Tryz.func155 (by kernel_rfl) H (by kernel_rfl)
theorem iR {a:Value}{h:Hp}{R:Po}(H:bW aC ids a h R):aC.C ids.bK [a] h R:=tie (aO (gX aP)) Go.Proofs.Tryz.func156 (by kernel_rfl) H (by kernel_rfl)
theorem mK {a:Value}{h:Hp}{R:Po}(H:cG aC ids a h R):aC.C ids.bN [a] h R:=tie (aO aP) Go.Proofs.Tryz.func157 (by kernel_rfl) H (by kernel_rfl)
theorem Iu {a b:Value}{h:Hp}{R:Po}(H:uO aC ids a b h R):aC.C ids.u7 [a,b] h R:=tie (aO (gX (aO (.s (aO (.b (.l [] [4,5,18,33] (aO (.s (.c .z .z) (.b aP)))))) aP)))) Go.Proofs.Tryz.func158 (by kernel_rfl) H (by kernel_rfl)
theorem HH {a:Value}{h:Hp}{R:Po}(H:s4 aC ids a h R):aC.C ids.sX [a] h R:=tie (aO (aO (.s (.b (aO (.c aP (aO (.c aP .z))))) aP))) Go.Proofs.Tryz.func159 (by kernel_rfl) H (by kernel_rfl)
theorem tc {a b:Value}{h:Hp}{R:Po}(H:cJ aC ids a b h R):aC.C ids.dC [a,b] h R:=tie (aO (gX (.s (.b (.l [] [2,3,5,133] (.s (.j [31] [2,3,5,133] .z (.c .z .z)) (.b .z)))) (.s (.j [43] [2,3,5,133] .z (.c aP .z)) (aO (aO (.j [8] [2,5,133] (aO (.c (.o (oc [0,1,2,3,4,5,6,7,8,9,10,11,12,13] .nil)) (.j [] [2,5,7,133] (aO (.c (.o (oc [1,2,3,4,5,6,7,9,10] (.qX (oc [0] (.qX (oc [8,11,12,13,14] .nil) (oc [11,8,12,13,14] .nil))) (oc [11,0,8,12,13,14] .nil)))) .z)) (.s (aO (aO (.c (aO (.s (.o (oc [0,1,2,3,5,4,6,7,8,9,10,11] .nil)) .z)) .z))) .z)))) (.s (.j [122] [2,5,133] .z (.c (aO aP) .z)) aP)))))))) Go.Proofs.Tryz.func196 (by kernel_rfl) H (by kernel_rfl)
theorem sW {a:Value}{h:Hp}{R:Po}(H:kf aC ids a h R):aC.C ids.fU [a] h R:=tie (aO (aO (.s (aO (.b (.l [3,10] [1,9,53] (aO (.s (.c .z .z) (.j [3] [1,9,10,53] (.b (aO (aO (.b (.l [3,19] [1,4,9,10,17,18,53] (aO (.s (.c .z .z) (.s (.b (aO (aO (.c aP .z)))) .z)))))))) .z)))))) (.j [3] [53] (.j [49] [3,53] .z (.c .z .z)) aP)))) Go.Proofs.Tryz.func197 (by kernel_rfl) H (by kernel_rfl)
theorem tm {a b:Value}{h:Hp}{R:Po}(H:bT aC ids a b h R):aC.C ids.eO [a,b] h R:=tie (aO (aO (aO (.s (aO (.c (.s (.o (oc [0,1,2,3,4,5] .nil)) .z) .z)) (aO (.j [10,11] [2,5,7,100] (aO (aO (.c .z .z))) (.j [11] [2,5,10,100] (aO (aO (.c (aO (.s (aO (.b (.l [17,56] [2,5,10,54,55,100] (aO (.s (.c .z .z) (.s (.b aP) .z)))))) aP)) .z))) (.j [] [2,5,10,100] .z (aO (aO (aO aP))))))))))) Go.Proofs.Tryz.func198 (by kernel_rfl) H (by kernel_rfl)
theorem sA {a b:Value}{h:Hp}{R:Po}(H:jH aC ids a b h R):aC.C ids.cV [a,b] h R:=tie (aO (aO (.s (aO (.b (.l [5,10] [2,8,9,29] (aO (.s (.c .z .z) (.s (.b (aO (.o (oc [0,1,2,3,4,5,6,7,8,9,10,11,12,13] .nil)))) .z)))))) aP))) Go.Proofs.Tryz.func200 (by kernel_rfl) H (by kernel_rfl)
theorem s6 {a b:Value}{h:Hp}{R:Po}(H:eD aC ids a b h R):aC.C ids.fT [a,b] h R:=tie (aO (aO (aO (.s (aO (.b (.l [19] [1,2,4,6,17,18,123] (aO (.s (.c .z .z) (.s (.b (aO (aO (.s (.o (oc [0,1,2,3,4,5,6,7,8,9,10,11,12,13,14,15] .nil)) (.j [] [1,2,4,6,10,17,18,19,123] (aO (.c .z .z)) .z))))) .z)))))) (aO (aO (.j [11] [2,4,123] (aO (.b (aO (.c .z (.j [99] [2,4,123] .z (.c (.o (oc [0,1,2,3,4,5,6,7,8,9,10,11,12,13,14] .nil)) aP)))))) aP))))))) Go.Proofs.Tryz.func201 (by kernel_rfl) H (by kernel_rfl)
theorem Fi {a:Value}{h:Hp}{R:Po}(H:nW aC ids a h R):aC.C ids.qg [a] h R:=tie (aO (aO (.j [2,3] [21] (.o (oc [0,1,2,3,4,5,6,7,8,9,10,11] .nil)) .z))) Go.Proofs.Tryz.func202 (by kernel_rfl) H (by kernel_rfl)
theorem D9 {a:Value}{h:Hp}{R:Po}(H:nh aC ids a h R):aC.C ids.po [a] h R:=tie (aO (aO (.s (.j [18] [5,23] .z (.c aP .z)) (.s (.o (oc [0,1,2,3,4,5,6] .nil)) .z)))) Go.Proofs.Tryz.func203 (by kernel_rfl) H (by kernel_rfl)
theorem Gh {a:Value}{h:Hp}{R:Po}(H:tV aC ids a h R):aC.C ids.rJ [a] h R:=tie (aO (aO (.s (.j [18] [4,28] .z (.c aP .z)) (aO (aO aP))))) Go.Proofs.Tryz.func204 (by kernel_rfl) H (by kernel_rfl)
theorem HN {a b c:Value}{h:Hp}{R:Po}(H:yq aC ids a b c h R):aC.C ids.vd [a,b,c] h R:=tie (aO (.s (aO (aO (.c aP .z))) (aO aP))) Go.Proofs.Tryz.func206 (by kernel_rfl) H (by kernel_rfl)
theorem JZ {a b c d e:Value}{h:Hp}{R:Po}(H:Am aC ids a b c d e h R):aC.C ids.xd [a,b,c,d,e] h R:=tie (aO (.s (.b (aO (.c aP (.j [19] [1,2,3,4,5,60] .z (.c aP .z))))) (.s (aO (aO (.c aP .z))) (gX (gX (.j [13] [60] (.o (oc [0,1,2,3,4] (.qX (oc [5,6,7,8] .nil) (oc [7,5,6,8] .nil)))) (aO (aO aP)))))))) Go.Proofs.Tryz.func208 (by kernel_rfl) H (by kernel_rfl)
theorem Fg {a b:Value}{h:Hp}{R:Po}(H:vk aC ids a b h R):aC.C ids.sJ [a,b] h R:=tie (aO (gX (.s (aO (aO (.c aP .z))) (gX (.s (aO (.b (.l [6] [1,2,53] (.s (aO (.c .z .z)) (.s (.b (.s (.o (oc [0,1,2,3,4,5,6,7,8,9,10,11] .nil)) (.c aP .z))) .z))))) (.s (aO (.b (.l [40] [2,38,39,53] (aO (.s (.c .z .z) (.s (.b (aO (aO (.c aP .z)))) .z)))))) (gX aP))))))) Go.Proofs.Tryz.func212 (by kernel_rfl) H (by kernel_rfl)
theorem zk {a b:Value}{h:Hp}{R:Po}(H:l4 aC ids a b h R):aC.C ids.jZ [a,b] h R:=tie (aO (aO aP)) Go.Proofs.Tryz.func213 (by kernel_rfl) H (by kernel_rfl)
theorem Hk {a b:Value}{h:Hp}{R:Po}(H:tR aC ids a b h R):aC.C ids.rO [a,b] h R:=tie (aO aP) Go.Proofs.Tryz.func216 (by kernel_rfl) H (by kernel_rfl)
theorem GK {a b:Value}{h:Hp}{R:Po}(H:tQ aC ids a b h R):aC.C ids.rY [a,b] h R:=tie (aO aP) Go.Proofs.Tryz.func217 (by kernel_rfl) H (by kernel_rfl)
theorem qB {a:Value}{h:Hp}{R:Po}(H:gI aC ids a h R):aC.C ids.dB [a] h R:=tie (aO (gX aP)) Go.Proofs.Tryz.func218 (by kernel_rfl) H (by kernel_rfl)
theorem BL {a b:Value}{h:Hp}{R:Po}(H:gZ aC ids a b h R):aC.C ids.bZ [a,b] h R:=tie (aO (aO (gX (aO (.s (.j [44] [2,5,8,73] .z (.c aP .z)) (aO (gX aP))))))) Go.Proofs.Tryz.func219 (by kernel_rfl) H (by kernel_rfl)
theorem Gg {a b c:Value}{h:Hp}{R:Po}(H:tL aC ids a b c h R):aC.C ids.dT [a,b,c] h R:=tie (aO (aO (.s (.o (oc [0,1,2,3,4,5,6,7] .nil)) .z))) Go.Proofs.Tryz.func220 (by kernel_rfl) H (by kernel_rfl)
theorem CW {a:Value}{h:Hp}{R:Po}(H:sy aC ids a h R):aC.C ids.nf [a] h R:=tie (aO aP) Go.Proofs.Tryz.func221 (by kernel_rfl) H (by kernel_rfl)
theorem Hd {a b:Value}{h:Hp}{R:Po}(H:xj aC ids a b h R):aC.C ids.tw [a,b] h R:=tie (aO (.s (aO (aO (.c aP .z))) (.j [7] [24] (.o (oc [0,1,2,3] (.qX (oc [4,5,6,7] .nil) (oc [6,4,5,7] .nil)))) (aO aP)))) Go.Proofs.Tryz.func224 (by kernel_rfl) H (by kernel_rfl)
theorem zI {a b c:Value}{h:Hp}{R:Po}(H:mR aC ids a b c h R):aC.C ids.iO [a,b,c] h R:=tie (aO (aO aP)) Go.Proofs.Tryz.func225 (by kernel_rfl) H (by kernel_rfl)
theorem xR {a b:Value}{h:Hp}{R:Po}(H:iV aC ids a b h R):aC.C ids.gB [a,b] h R:=tie (aO (aO (.s (aO (.c (aO aP) .z)) (aO (aO aP))))) Go.Proofs.Tryz.func226 (by kernel_rfl) H (by kernel_rfl)
theorem El {a b c:Value}{h:Hp}{R:Po}(H:ug aC ids a b c h R):aC.C ids.pr [a,b,c] h R:=tie (aO (aO (aO (.s (.o (oc [0,1,2,3,4,5] .nil)) .z)))) Go.Proofs.Tryz.func227 (by kernel_rfl) H (by kernel_rfl)
theorem DB {a b:Value}{h:Hp}{R:Po}(H:tn aC ids a b h R):aC.C ids.lX [a,b] h R:=tie (aO (aO aP)) Go.Proofs.Tryz.func230 (by kernel_rfl) H (by kernel_rfl)
theorem CL {a:Value}{h:Hp}{R:Po}(H:pL aC ids a h R):aC.C ids.k0 [a] h R:=tie (aO (aO (.j [6] [1,3,5,100] (.o (oc [0,1,2,6,7] (.qX (oc [3,4] (.qX (oc [5,8,9,10,11] .nil) (oc [8] (.qX (oc [5,9,10,11] .nil) (oc [9,5,10,11] .nil))))) (oc [8,3,4] (.qX (oc [5,9,10,11] .nil) (oc [9,5,10,11] .nil)))))) (aO (.s (aO (.b (.l [7,36] [1,3,5,6,34,35,100] (aO (.s (.c .z .z) (.s (.b (aO aP)) .z)))))) (aO (.s (aO (.b (.l [6,11,48] [1,3,5,46,47,100] (aO (.s (.c .z .z) (.j [6,11] [1,3,5,46,47,48,100] (.b (aO (aO (aO (.j [69] [1,3,5,6,11,14,46,47,48,100] .z (.c .z .z)))))) .z)))))) (aO (aO (aO aP)))))))))) Go.Proofs.Tryz.func231 (by kernel_rfl) H (by kernel_rfl)
theorem Kz {a b c:Value}{h:Hp}{R:Po}(H:uC aC ids a b c h R):aC.C ids.qH [a,b,c] h R:=tie (aO (gX (aO (aO (.s (.j [31] [1,2,3,8,9,10,11,41] .z (.c aP .z)) aP))))) Go.Proofs.Tryz.func232 (by kernel_rfl) H (by kernel_rfl)
theorem Ad {a b c d:Value}{h:Hp}{R:Po}(H:lm aC ids a b c d h R):aC.C ids.jG [a,b,c,d] h R:=tie (aO (aO (.s (aO (.c (aO aP) .z)) aP))) Go.Proofs.Tryz.func233 (by kernel_rfl) H (by kernel_rfl)
theorem zR {a b:Value}{h:Hp}{R:Po}(H:mN aC ids a b h R):aC.C ids.iL [a,b] h R:=tie (aO aP) Go.Proofs.Tryz.func234 (by kernel_rfl) H (by kernel_rfl)
theorem FB {a b:Value}{h:Hp}{R:Po}(H:vI aC ids a b h R):aC.C ids.qe [a,b] h R:=tie (aO (.s (.b (aO (.c aP (.j [9] [18] .z (.c aP .z))))) aP)) Go.Proofs.Tryz.func238 (by kernel_rfl) H (by kernel_rfl)
theorem Fo {a b:Value}{h:Hp}{R:Po}(H:vK aC ids a b h R):aC.C ids.qh [a,b] h R:=tie (aO (aO (.s (aO (.b (.l [5,6] [0,1,44] (.s (aO (.c .z .z)) (.b (aO aP)))))) (.s (aO (.b (.l [5,8] [1,44] (.s (aO (.c .z .z)) (.b (aO aP)))))) aP)))) Go.Proofs.Tryz.func239 (by kernel_rfl) H (by kernel_rfl)
theorem y9 {a b:Value}{h:Hp}{R:Po}(H:rB aC ids a b h R):aC.C ids.dK [a,b] h R:=tie (aO aP) Go.Proofs.Tryz.func240 (by kernel_rfl) H (by kernel_rfl)
theorem BO {a:Value}{h:Hp}{R:Po}(H:oI aC ids a h R):aC.C ids.l7 [a] h R:=tie (aO (.s (aO (.c (aO aP) .z)) (.s (.o (oc [0,1,2,3,4,5,6,7,8,9,10,11,12] .nil)) (aO aP)))) Go.Proofs.Tryz.func241 (by kernel_rfl) H (by kernel_rfl)
theorem xm {a b:Value}{h:Hp}{R:Po}(H:iA aC ids a b h R):aC.C ids.cC [a,b] h R:=tie (aO (aO (aO (gX aP)))) Go.Proofs.Tryz.func242 (by kernel_rfl) H (by kernel_rfl)
theorem Fl {a:Value}{h:Hp}{R:Po}(H:sL aC ids a h R):aC.C ids.sN [a] h R:=tie (aO (.j [] [32] (aO (.b (aO (.c (aO (.b (aO (.c .z (aO (.c (.s (.o (oc [0,1,2,3,4] .nil)) .z) aP)))))) (aO (.c (aO (aO (.c (.s (.o (oc [0,1,2,3,4,5,6] .nil)) .z) .z))) .z)))))) aP)) Go.Proofs.Tryz.func243 (by kernel_rfl) H (by kernel_rfl)
theorem zJ {a:Value}{h:Hp}{R:Po}(H:p6 aC ids a h R):aC.C ids.kG [a] h R:=tie (aO (aO aP)) Go.Proofs.Tryz.func244 (by kernel_rfl) H (by kernel_rfl)
theorem zT {a b c:Value}{h:Hp}{R:Po}(H:pY aC ids a b c h R):aC.C ids.cK [a,b,c] h R:=tie (aO (aO (.s (.o (oc [0,1,2,3,4] .nil)) .z))) Go.Proofs.Tryz.func245 (by kernel_rfl) H (by kernel_rfl)
theorem xg {a b:Value}{h:Hp}{R:Po}(H:iH aC ids a b h R):aC.C ids.iJ [a,b] h R:=tie (aO (.s (aO (.c (aO aP) .z)) (aO aP))) Go.Proofs.Tryz.func246 (by kernel_rfl) H (by kernel_rfl)
theorem Cb {a b c:Value}{h:Hp}{R:Po}(H:sx aC ids a b c h R):aC.C ids.dV [a,b,c] h R:=tie (aO aP) Go.Proofs.Tryz.func247 (by kernel_rfl) H (by kernel_rfl)
theorem DA {a b c:Value}{h:Hp}{R:Po}(H:nM aC ids a b c h R):aC.C ids.nO [a,b,c] h R:=tie (aO (gX (.s (.o (oc [0,1,2,3,4,5,6,7,8,9,10,11] .nil)) .z))) Go.Proofs.Tryz.func250 (by kernel_rfl) H (by kernel_rfl)
theorem CT {a b:Value}{h:Hp}{R:Po}(H:pM aC ids a b h R):aC.C ids.eT [a,b] h R:=tie (aO (gX (aO (.s (aO (.b (.l [5,13] [11,12,27] (aO (.s (.c .z .z) (.s (.b aP) .z)))))) aP)))) Go.Proofs.Tryz.func251 (by kernel_rfl) H (by kernel_rfl)
theorem E9 {a b:Value}{h:Hp}{R:Po}(H:vB aC ids a b h R):aC.C ids.fJ [a,b] h R:=tie (aO aP) Go.Proofs.Tryz.func255 (by kernel_rfl) H (by kernel_rfl)
theorem Dp {a:Value}{h:Hp}{R:Po}(H:qx aC ids a h R):aC.C ids.lV [a] h R:=tie (aO (aO (aO (gX aP)))) Go.Proofs.Tryz.func256 (by kernel_rfl) H (by kernel_rfl)
theorem Gp {a b:Value}{h:Hp}{R:Po}(H:tB aC ids a b h R):aC.C ids.tN [a,b] h R:=tie (aO aP) Go.Proofs.Tryz.func257 (by kernel_rfl) H (by kernel_rfl)
theorem Fh {a:Value}{h:Hp}{R:Po}(H:vy aC ids a h R):aC.C ids.nV [a] h R:=tie (aO (aO (.s (.j [17] [4,20] .z (.c aP .z)) aP))) Go.Proofs.Tryz.func258 (by kernel_rfl) H (by kernel_rfl)
theorem za {a b c d:Value}{h:Hp}{R:Po}(H:pj aC ids a b c d h R):aC.C ids.dZ [a,b,c,d] h R:=tie (aO aP) Go.Proofs.Tryz.func259 (by kernel_rfl) H (by kernel_rfl)
theorem yG {a b:Value}{h:Hp}{R:Po}(H:oV aC ids a b h R):aC.C ids.fI [a,b] h R:=tie (aO (aO (gX (.s (.o (oc [0,1,2,3,4,5] .nil)) .z)))) Go.Proofs.Tryz.func263 (by kernel_rfl) H (by kernel_rfl)
theorem zN {a b:Value}{h:Hp}{R:Po}(H:mP aC ids a b h R):aC.C ids.cL [a,b] h R:=tie (aO aP) Go.Proofs.Tryz.func264 (by kernel_rfl) H (by kernel_rfl)
theorem Au {a b:Value}{h:Hp}{R:Po}(H:qE aC ids a b h R):aC.C ids.lx [a,b] h R:=tie (aO (.s (aO (.b (.l [7] [2,3,5,63] (.s (aO (.c .z .z)) (.s (.b (aO (.s (aO (.c .z .z)) (aO (aO (.s (.o (oc [0,1,2,3,4,5,6,7,8,9,10,11,12,13,14,15,16] .nil)) .z)))))) .z))))) (aO aP))) Go.Proofs.Tryz.func265 (by kernel_rfl) H (by kernel_rfl)
theorem yj {a:Value}{h:Hp}{R:Po}(H:lZ aC ids a h R):aC.C ids.j9 [a] h R:=tie (aO (aO (aO aP))) Go.Proofs.Tryz.func266 (by kernel_rfl) H (by kernel_rfl)
theorem wK {a b c:Value}{h:Hp}{R:Po}(H:nH aC ids a b c h R):aC.C ids.iD [a,b,c] h R:=tie (aO (aO (.s (.o (oc [0,1,2,3,4,5,6,7,8,9,10,11,12,13,14] .nil)) .z))) Go.Proofs.Tryz.func267 (by kernel_rfl) H (by kernel_rfl)
theorem zq {a b:Value}{h:Hp}{R:Po}(H:fE aC ids a b h R):aC.C ids.eC [a,b] h R:=tie (aO (.s (.s (.o (oc [0,1,2,3,4] .nil)) (.c (.s (.o (oc [0,1,2,3,4,5,6,7,8,9] .nil)) (aO (aO aP))) .z)) (gX (aO aP)))) Go.Proofs.Tryz.func268 (by kernel_rfl) H (by kernel_rfl)
theorem A5 {a b c d:Value}{h:Hp}{R:Po}(H:rM aC ids a b c d h R):aC.C ids.fV [a,b,c,d] h R:=tie (aO (.s (.o (oc [0,1,2,3,4,5,6,7,8,9,10] .nil)) .z)) Go.Proofs.Tryz.func270 (by kernel_rfl) H (by kernel_rfl)
theorem AZ {a b:Value}{h:Hp}{R:Po}(H:ow aC ids a b h R):aC.C ids.kA [a,b] h R:=tie (aO aP) Go.Proofs.Tryz.func271 (by kernel_rfl) H (by kernel_rfl)
theorem AP {a b:Value}{h:Hp}{R:Po}(H:qI aC ids a b h R):aC.C ids.fH [a,b] h R:=tie (aO aP) Go.Proofs.Tryz.func272 (by kernel_rfl) H (by kernel_rfl)
theorem Hf {a b:Value}{h:Hp}{R:Po}(H:rn aC ids a b h R):aC.C ids.tG [a,b] h R:=tie (aO (gX aP)) Go.Proofs.Tryz.func273 (by kernel_rfl) H (by kernel_rfl)
theorem zh {a b:Value}{h:Hp}{R:Po}(H:kh aC ids a b h R):aC.C ids.cQ [a,b] h R:=tie (aO (.s (aO (.c (aO aP) .z)) aP)) Go.Proofs.Tryz.func276 (by kernel_rfl) H (by kernel_rfl)
theorem GF {a b:Value}{h:Hp}{R:Po}(H:wN aC ids a b h R):aC.C ids.tT [a,b] h R:=tie (aO (.s (aO (aO (.c aP .z))) (aO (aO (aO aP))))) Go.Proofs.Tryz.func277 (by kernel_rfl) H (by kernel_rfl)
theorem xJ {a b:Value}{h:Hp}{R:Po}(H:lE aC ids a b h R):aC.C ids.iY [a,b] h R:=tie (aO aP) Go.Proofs.Tryz.func278 (by kernel_rfl) H (by kernel_rfl)
theorem vN {a b:Value}{h:Hp}{R:Po}(H:gC aC ids a b h R):aC.C ids.bL [a,b] h R:=tie (aO (gX aP)) Go.Proofs.Tryz.func279 (by kernel_rfl) H (by kernel_rfl)
theorem xl {a:Value}{h:Hp}{R:Po}(H:nC aC ids a h R):aC.C ids.hU [a] h R:=tie (aO aP) Go.Proofs.Tryz.func280 (by kernel_rfl) H (by kernel_rfl)
theorem xQ {a b:Value}{h:Hp}{R:Po}(H:lL aC ids a b h R):aC.C ids.iW [a,b] h R:=tie (aO (gX aP)) Go.Proofs.Tryz.func281 (by kernel_rfl) H (by kernel_rfl)
theorem yK {a b:Value}{h:Hp}{R:Po}(H:oO aC ids a b h R):aC.C ids.cP [a,b] h R:=tie (aO aP) Go.Proofs.Tryz.func282 (by kernel_rfl) H (by kernel_rfl)
theorem yT {a b:Value}{h:Hp}{R:Po}(H:mf aC ids a b h R):aC.C ids.cO [a,b] h R:=tie (aO (aO (aO (.s (.s (.o (oc [0,1,2,3,4,5,6] .nil)) (.c aP .z)) (aO aP))))) Go.Proofs.Tryz.func283 (by kernel_rfl) H (by kernel_rfl)
theorem B6 {a b c:Value}{h:Hp}{R:Po}(H:rh aC ids a b c h R):aC.C ids.bO [a,b,c] h R:=tie (aO (aO (.s (.o (oc [0,1,2,3,4] .nil)) .z))) Go.Proofs.Tryz.func284 (by kernel_rfl) H (by kernel_rfl)
theorem zV {a b:Value}{h:Hp}{R:Po}(H:p8 aC ids a b h R):aC.C ids.kK [a,b] h R:=tie (aO (.j [4] [26] .z .z)) Go.Proofs.Tryz.func285 (by kernel_rfl) H (by kernel_rfl)
theorem A8 {a b:Value}{h:Hp}{R:Po}(H:rE aC ids a b h R):aC.C ids.eZ [a,b] h R:=tie (aO (aO aP)) Go.Proofs.Tryz.func286 (by kernel_rfl) H (by kernel_rfl)
theorem Ec {a b:Value}{h:Hp}{R:Po}(H:ly aC ids a b h R):aC.C ids.rU [a,b] h R:=tie (aO (aO (.s (.j [25] [2,4,5,7,38] .z (.c aP .z)) (aO aP)))) Go.Proofs.Tryz.func287 (by kernel_rfl) H (by kernel_rfl)
theorem Eo {a b c:Value}{h:Hp}{R:Po}(H:rS aC ids a b c h R):aC.C ids.dF [a,b,c] h R:=tie (aO (aO (.s (.o (oc [0,1,2,3,4,5,6] .nil)) .z))) Go.Proofs.Tryz.func289 (by kernel_rfl) H (by kernel_rfl)
theorem C0 {a b:Value}{h:Hp}{R:Po}(H:pF aC ids a b h R):aC.C ids.cU [a,b] h R:=tie (aO aP) Go.Proofs.Tryz.func290 (by kernel_rfl) H (by kernel_rfl)
theorem AE {a b:Value}{h:Hp}{R:Po}(H:nD aC ids a b h R):aC.C ids.lA [a,b] h R:=tie (aO (aO (.s (aO (.c (aO aP) .z)) (aO (.s (.o (oc [0,1,2,3,4,5,6,7,8,9,10,11,12,13,14,15,16] .nil)) .z))))) Go.Proofs.Tryz.func291 (by kernel_rfl) H (by kernel_rfl)
theorem wx {a b:Value}{h:Hp}{R:Po}(H:kD aC ids a b h R):aC.C ids.gT [a,b] h R:=tie (aO aP) Go.Proofs.Tryz.func292 (by kernel_rfl) H (by kernel_rfl)
theorem zj {a b:Value}{h:Hp}{R:Po}(H:mm aC ids a b h R):aC.C ids.dL [a,b] h R:=tie (aO (aO (aO aP))) Go.Proofs.Tryz.func293 (by kernel_rfl) H (by kernel_rfl)
theorem AG {a:Value}{h:Hp}{R:Po}(H:ny aC ids a h R):aC.C ids.la [a] h R:=tie (aO (aO (gX (aO aP)))) Go.Proofs.Tryz.func294 (by kernel_rfl) H (by kernel_rfl)
theorem yJ {a b:Value}{h:Hp}{R:Po}(H:j6 aC ids a b h R):aC.C ids.cR [a,b] h R:=tie (aO (.s (aO (.c (aO aP) .z)) aP)) Go.Proofs.Tryz.func295 (by kernel_rfl) H (by kernel_rfl)
theorem wY {a b:Value}{h:Hp}{R:Po}(H:kT aC ids a b h R):aC.C ids.fL [a,b] h R:=tie (aO (aO (aO aP))) Go.Proofs.Tryz.func296 (by kernel_rfl) H (by kernel_rfl)
theorem D1 {a b:Value}{h:Hp}{R:Po}(H:ll aC ids a b h R):aC.C ids.rm [a,b] h R:=tie (aO (gX (aO (gX (aO (gX aP)))))) Go.Proofs.Tryz.func297 (by kernel_rfl) H (by kernel_rfl)
theorem Gx {a b c d:Value}{h:Hp}{R:Po}(H:wP aC ids a b c d h R):aC.C ids.tI [a,b,c,d] h R:=tie (aO (gX (aO (.s (.j [35] [2,3,10,43] .z (.c aP .z)) aP)))) Go.Proofs.Tryz.func298 (by kernel_rfl) H (by kernel_rfl)
theorem Fy {a b:Value}{h:Hp}{R:Po}(H:sR aC ids a b h R):aC.C ids.sI [a,b] h R:=tie (aO (.s (.o (oc [0,1,2,3,4,5,6,7,8,9,10,11,12,13,14] .nil)) aP)) Go.Proofs.Tryz.func299 (by kernel_rfl) H (by kernel_rfl)
theorem xh {a:Value}{h:Hp}{R:Po}(H:nI aC ids a h R):aC.C ids.kX [a] h R:=tie (aO (aO (.s (aO (.b (.l [4,5] [1,62] (.s (aO (.c .z .z)) (.s (.b (aO (.s (.j [53] [1,4,5,6,62] (.o (oc [0,1,2,3,4,5,6,7,8,9,10,11,12,13,14,15,16,17,18,19,20,21,22,23,24,25,26] .nil)) (.c aP .z)) .z))) .z))))) aP))) Go.Proofs.Tryz.func300 (by kernel_rfl) H (by kernel_rfl)
theorem xU {a:Value}{h:Hp}{R:Po}(H:lI aC ids a h R):aC.C ids.fZ [a] h R:=tie (aO (gX aP)) Go.Proofs.Tryz.func301 (by kernel_rfl) H (by kernel_rfl)
theorem xX {a:Value}{h:Hp}{R:Po}(H:lJ aC ids a h R):aC.C ids.eY [a] h R:=tie (aO (gX (.s (.o (oc [0,1,3,5,2,4,6,7,8,9,10,11,12,13,14] .nil)) .z))) Go.Proofs.Tryz.func302 (by kernel_rfl) H (by kernel_rfl)
theorem yP {a b:Value}{h:Hp}{R:Po}(H:mh aC ids a b h R):aC.C ids.mw [a,b] h R:=tie (aO aP) Go.Proofs.Tryz.func303 (by kernel_rfl) H (by kernel_rfl)
theorem GH {a b:Value}{h:Hp}{R:Po}(H:pI aC ids a b h R):aC.C ids.ru [a,b] h R:=tie (aO (aO (.j [] [2,4,5,29] (aO (.b (.j [11] [2,3,4,5,29] (aO (.c .z .z)) (.c .z .z)))) aP))) Go.Proofs.Tryz.func304 (by kernel_rfl) H (by kernel_rfl)
theorem yB {a b:Value}{h:Hp}{R:Po}(H:kg aC ids a b h R):aC.C ids.jW [a,b] h R:=tie (aO (aO (.s (.j [14] [2,4,5,26] .z (.c aP .z)) aP))) Go.Proofs.Tryz.func305 (by kernel_rfl) H (by kernel_rfl)
theorem zS {a:Value}{h:Hp}{R:Po}(H:pX aC ids a h R):aC.C ids.fS [a] h R:=tie (aO aP) Go.Proofs.Tryz.func306 (by kernel_rfl) H (by kernel_rfl)
theorem zX {a:Value}{h:Hp}{R:Po}(H:p0 aC ids a h R):aC.C ids.kM [a] h R:=tie (aO aP) Go.Proofs.Tryz.func307 (by kernel_rfl) H (by kernel_rfl)
theorem AR {a:Value}{h:Hp}{R:Po}(H:qK aC ids a h R):aC.C ids.lp [a] h R:=tie (aO (aO (aO aP))) Go.Proofs.Tryz.func308 (by kernel_rfl) H (by kernel_rfl)
theorem CF {a b:Value}{h:Hp}{R:Po}(H:jK aC ids a b h R):aC.C ids.pQ [a,b] h R:=tie (aO (.s (.b (.j [7] [2,3,4,5,44] (.o (oc [0,1,2,3,4,5,6,7,8,9] .nil)) (.c (aO aP) (aO (.c (aO aP) .z))))) aP)) Go.Proofs.Tryz.func309 (by kernel_rfl) H (by kernel_rfl)
theorem B1 {a b:Value}{h:Hp}{R:Po}(H:oJ aC ids a b h R):aC.C ids.oA [a,b] h R:=tie (aO aP) Go.Proofs.Tryz.func310 (by kernel_rfl) H (by kernel_rfl)
theorem Ax {a:Value}{h:Hp}{R:Po}(H:lD aC ids a h R):aC.C ids.lB [a] h R:=tie (aO (.s (.b (aO (.c (.s (.o (oc [0,1,2,3,4,5,6,7,8,9,10] .nil)) .z) (aO (.c aP .z))))) aP)) Go.Proofs.Tryz.func311 (by kernel_rfl) H (by kernel_rfl)
theorem zH {a b:Value}{h:Hp}{R:Po}(H:pZ aC ids a b h R):aC.C ids.kH [a,b] h R:=tie (aO (aO aP)) Go.Proofs.Tryz.func312 (by kernel_rfl) H (by kernel_rfl)
theorem z5 {a b:Value}{h:Hp}{R:Po}(H:sQ aC ids a b h R):aC.C ids.nS [a,b] h R:=tie (aO (.s (.o (oc [0,1,2,3,4,6,7,8,9,5,10,11,12,13,14,15,16,17,18] .nil)) .z)) Go.Proofs.Tryz.func313 (by kernel_rfl) H (by kernel_rfl)
theorem xM {a b:Value}{h:Hp}{R:Po}(H:oi aC ids a b h R):aC.C ids.lM [a,b] h R:=tie (aO (aO (aO (.j [4] [35] .z .z)))) Go.Proofs.Tryz.func314 (by kernel_rfl) H (by kernel_rfl)
theorem GB {a b:Value}{h:Hp}{R:Po}(H:rQ aC ids a b h R):aC.C ids.tA [a,b] h R:=tie (aO (.s (.s (.o (oc [0,1,2,3,4,5] .nil)) (.c aP .z)) (aO (aO aP)))) Go.Proofs.Tryz.func315 (by kernel_rfl) H (by kernel_rfl)
theorem Gf {a b:Value}{h:Hp}{R:Po}(H:l9 aC ids a b h R):aC.C ids.tP [a,b] h R:=tie (aO (aO (.j [] [2,4,5,56] (aO (.c (.j [8,9] [2,3,4,5,7,56] .z (aO (.c aP .z))) .z)) aP))) Go.Proofs.Tryz.func316 (by kernel_rfl) H (by kernel_rfl)
theorem EX {a b:Value}{h:Hp}{R:Po}(H:rL aC ids a b h R):aC.C ids.rR [a,b] h R:=tie (aO aP) Go.Proofs.Tryz.func317 (by kernel_rfl) H (by kernel_rfl)
theorem zn {a b:Value}{h:Hp}{R:Po}(H:pi aC ids a b h R):aC.C ids.mV [a,b] h R:=tie (aO (gX (aO (aO aP)))) Go.Proofs.Tryz.func318 (by kernel_rfl) H (by kernel_rfl)
theorem DX {a b:Value}{h:Hp}{R:Po}(H:rH aC ids a b h R):aC.C ids.rN [a,b] h R:=tie (aO aP) Go.Proofs.Tryz.func319 (by kernel_rfl) H (by kernel_rfl)
theorem Fx {a b:Value}{h:Hp}{R:Po}(H:nU aC ids a b h R):aC.C ids.qi [a,b] h R:=tie (aO (aO (aO (gX (aO (.s (aO (aO (.c aP .z))) (.s (.o (oc [0,1,3,4,5,6,7,8,9,10,11,2,12,13,14,15,16,17,18,19] .nil)) .z))))))) Go.Proofs.Tryz.func320 (by kernel_rfl) H (by kernel_rfl)
theorem EC {a b c:Value}{h:Hp}{R:Po}(H:m4 aC ids a b c h R):aC.C ids.oY [a,b,c] h R:=tie (aO (.s (.b (aO (.c aP (.j [13] [1,2,3,6,33] .z (.c aP (aO (.c aP .z))))))) aP)) Go.Proofs.Tryz.func321 (by kernel_rfl) H (by kernel_rfl)
theorem AX {a b:Value}{h:Hp}{R:Po}(H:tU aC ids a b h R):aC.C ids.pK [a,b] h R:=tie (aO (aO aP)) Go.Proofs.Tryz.func322 (by kernel_rfl) H (by kernel_rfl)
theorem Fc {a b:Value}{h:Hp}{R:Po}(H:sO aC ids a b h R):aC.C ids.sD [a,b] h R:=tie (aO aP) Go.Proofs.Tryz.func323 (by kernel_rfl) H (by kernel_rfl)
theorem Cf {a b:Value}{h:Hp}{R:Po}(H:jI aC ids a b h R):aC.C ids.pH [a,b] h R:=tie (aO (gX aP)) Go.Proofs.Tryz.func339 (by kernel_rfl) H (by kernel_rfl)
theorem yZ {a b:Value}{h:Hp}{R:Po}(H:gU aC ids a b h R):aC.C ids.l5 [a,b] h R:=tie (aO (gX (aO (.s (.o (oc [0,1,2,3,4,5,6] .nil)) .z)))) Go.Proofs.Tryz.func340 (by kernel_rfl) H (by kernel_rfl)
theorem uQ {a b:Value}{h:Hp}{R:Po}(H:iC aC ids a b h R):aC.C ids.mB [a,b] h R:=tie (aO (gX aP)) Go.Proofs.Tryz.func342 (by kernel_rfl) H (by kernel_rfl)
theorem AI {a b:Value}{h:Hp}{R:Po}(H:nu aC ids a b h R):aC.C ids.jB [a,b] h R:=tie (aO (gX (aO (.s (.o (oc [0,1,2,3,4,5,6] .nil)) .z)))) Go.Proofs.Tryz.func343 (by kernel_rfl) H (by kernel_rfl)
theorem uY {a b:Value}{h:Hp}{R:Po}(H:kl aC ids a b h R):aC.C ids.mz [a,b] h R:=tie (aO (gX aP)) Go.Proofs.Tryz.func344 (by kernel_rfl) H (by kernel_rfl)
end Go.En
namespace Go.En
theorem WT:Y5 (Sys.of Go.Proofs.Tryz.prog) ids:={
 many:=fun hp h R Z k=>yp (TL hp k)}
theorem Wh:ZE (Sys.of Go.Proofs.Tryz.prog) ids:={WT with
 Xm:=fun hp h R Z k=>yA (Ud WT Z hp k)}
theorem W5:CeC (Sys.of Go.Proofs.Tryz.prog) ids:={Wh with
 Nh:=fun hp h R Z k=>zl (VR Wh Z hp k)
 DS:=fun h R Z k=>Cp (Mm k)}
theorem Xs:Zc (Sys.of Go.Proofs.Tryz.prog) ids:={W5 with
 check:=fun h R Z k=>xP (R0 W5 Z k)}
theorem QX:YZ (Sys.of Go.Proofs.Tryz.prog) ids:={Xs with
 right:=fun h R Z k=>xL (QG Xs Z k)}
theorem KE:SQ (Sys.of Go.Proofs.Tryz.prog) ids:={QX with
 at':=fun hp hm h R Z k=>AN (ZG QX Z hp hm k)
 size:=fun h R Z k=>sV (Ou QX Z k)}
theorem SD:Vr (Sys.of Go.Proofs.Tryz.prog) ids:={KE with
 era:=fun h R Z k=>zP (WD KE Z k)
 cell:=fun h R Z k=>yy (UB KE Z k)
 DZ:=fun ht h R Z k=>yo (U0 KE Z ht k)
 Eu:=fun h R Z k=>xV (Ql KE Z k)
 FV:=fun hi h R Z k=>yG (Vk KE Z hi k)}
theorem T8:YN (Sys.of Go.Proofs.Tryz.prog) ids:={SD with
 Cy:=fun hw h R Z k=>yg (QB SD Z hw k)
 LQ:=fun ha h R Z k=>zK (Xv KE Z ha k)}
theorem Vy:Yh (Sys.of Go.Proofs.Tryz.prog) ids:={T8 with
 Ky:=fun a0 a1=>iR (PO a0 a1)
 KM:=fun a0=>iR (LS a0)}
theorem ZR:CfB (Sys.of Go.Proofs.Tryz.prog) ids:={Vy with
 Ef:=fun a0 a1 a2=>Eh (Wu a0 a1 a2)
 xG:=fun a0 a1 a2 a3 a4=>CQ (Vo Vy a0 a1 a2 a3 a4)
 Sr:=fun a0 a1 a2 a3=>Iu (UT Vy a0 a1 a2 a3)}
theorem VG:Yg (Sys.of Go.Proofs.Tryz.prog) ids:={ZR with
 H8:=fun a0=>z4 (Vz a0)
 Gt:=fun a0 a1=>xS (Vv a0 a1)
 YB:=fun a0 a1 a2=>ym (Ya a0 a1 a2)
 OE:=fun k=>mK k}
theorem Rp:Xc (Sys.of Go.Proofs.Tryz.prog) ids:={VG with
 SL:=fun a0 a1 a2=>xp (Rs VG a0 a1 a2)
 hAdd:=fun a0 a1 a2=>yc (Vi VG a0 a1 a2)
 J1:=fun a0 a1 a2 a3 a4=>xA (OV a0 a1 a2 a3 a4)
 place:=fun a0 a1 a2 a3 a4=>xO (RD a0 a1 a2 a3 a4)}
theorem XP:Za (Sys.of Go.Proofs.Tryz.prog) ids:={Rp with
 FW:=fun a0 a1 a2 a3 a4 a5=>xZ (RK Rp a0 a1 a2 a3 a4 a5)
 seen:=fun a0 a1 a2 a3 a4=>zb (VP Rp a0 a1 a2 a3 a4)
 Sx:=fun a0 a1 a2 a3=>yO (VN a0 a1 a2 a3)
 last:=fun a0 a1 a2=>zo (UK Rp a0 a1 a2)}
theorem TQ:Y1 (Sys.of Go.Proofs.Tryz.prog) ids:={XP with
 dI:=fun a0 a1 a2 a3 a4 a5 a6=>xI (QA XP a0 a1 a2 a3 a4 a5 a6)
 Sv:=fun a0 a1 a2 a3=>yF (QZ a0 a1 a2 a3)}
theorem Sj:XX (Sys.of Go.Proofs.Tryz.prog) ids:={TQ with
 look:=fun a0 a1 a2 a3 a4 a5 a6=>s5 (TE TQ a0 a1 a2 a3 a4 a5 a6)
 X9:=fun a0 a1 a2 a3 a4 a5 a6=>wk (MG TQ a0 a1 a2 a3 a4 a5 a6)}
theorem TZ:YA (Sys.of Go.Proofs.Tryz.prog) ids:={Sj with
 Ve:=fun a0 a1 a2 a3 a4 a5 a6=>zp (Ui Sj a0 a1 a2 a3 a4 a5 a6)
 RC:=fun a0 a1 a2 a3 a4 a5 a6=>yC (VL Sj a0 a1 a2 a3 a4 a5 a6)}
theorem RG:XD (Sys.of Go.Proofs.Tryz.prog) ids:={TZ with
 Jn:=fun a0 a1 a2=>rT (Pf a0 a1 a2)
 ER:=fun a0 a1 a2=>rK (N3 a0 a1 a2)
 yi:=fun a0 a1 a2=>wZ (PH a0 a1 a2)
 ND:=fun a0 a1 a2=>qa (Rf a0 a1 a2)
 has:=fun a0 a1 a2 a3 a4=>CM (XB a0 a1 a2 a3 a4)
 NG:=fun a0 a1 a2 a3 a4 a5 a6=>xH (R7 TZ a0 a1 a2 a3 a4 a5 a6)
 UX:=fun a0 a1 a2 a3 a4 a5 a6=>yD (Uk TZ a0 a1 a2 a3 a4 a5 a6)
 WZ:=fun a0 a1 a2 a3 a4 a5=>yz (QN Sj a0 a1 a2 a3 a4 a5)}
theorem NF:VV (Sys.of Go.Proofs.Tryz.prog) ids:={RG with
 Jh:=fun a0 a1 a2 a3=>wX (Qw RG a0 a1 a2 a3)
 G9:=fun a0 a1 a2 a3 a4 a5=>Ar (OO RG a0 a1 a2 a3 a4 a5)}
theorem RJ:YJ (Sys.of Go.Proofs.Tryz.prog) ids:={NF with
 Wt:=fun a0 a1 a2 a3 a4 a5=>rD (sH RG a0 a1 a2 a3 a4 a5)
 yw:=fun a0 a1 a2 a3 a4 a5 a6=>wo (PE NF a0 a1 a2 a3 a4 a5 a6)
 I3:=fun a0 a1=>BT (Vu a0 a1)
 Ts:=fun a0 a1 a2 a3 a4 a5 a6=>rr (Q9 NF a0 a1 a2 a3 a4 a5 a6)
 Tr:=fun a0 a1 a2 a3 a4 a5 a6=>qQ (Sa NF a0 a1 a2 a3 a4 a5 a6)
 Xu:=fun a0 a1 a2 a3 a4 a5 a6=>qQ (TN NF a0 a1 a2 a3 a4 a5 a6)}
theorem Wp:Z3 (Sys.of Go.Proofs.Tryz.prog) ids:={RJ with
 Tb:=fun a0=>z4 (Qy a0)}
theorem XU:ZF (Sys.of Go.Proofs.Tryz.prog) ids:={Wp with
 Xk:=fun a0 a1 a2 a3=>GU (TS Wp a0 a1 a2 a3)
 Wr:=fun a0 a1 a2=>JF (TG RJ a0 a1 a2)}
theorem Q2:Wo (Sys.of Go.Proofs.Tryz.prog) ids:={XU with
 NK:=fun a0=>sB (QT a0)
 told:=fun a0=>sB (TB a0)
 DY:=fun a0=>CU (QD a0)
 Wv:=fun a0=>vU (K7 a0)
 TC:=fun a0 a1 a2=>Bq (Oq a0 a1 a2)
 HF:=fun a0 a1 a2=>sZ (QV a0 a1 a2)
 OC:=fun a0 a1 a2=>qG (O4 a0 a1 a2)}
theorem ZW:CqA (Sys.of Go.Proofs.Tryz.prog) ids:={Q2 with
 W4:=fun a0=>Dq (TA Q2 a0)
 T7:=fun a0 a1 a2 a3=>AW (O8 Q2 a0 a1 a2 a3)
 XY:=fun a0 a1 a2 a3 a4 a5 a6=>wj (RO Q2 a0 a1 a2 a3 a4 a5 a6)
 kDo:=fun a0 a1 a2 a3 a4 a5 a6=>pA (Sk RJ a0 a1 a2 a3 a4 a5 a6)}
theorem XQ:CwA (Sys.of Go.Proofs.Tryz.prog) ids:={T8 with
 ref:=fun a0=>J5 (WW a0)}
theorem XE:Zd (Sys.of Go.Proofs.Tryz.prog) ids:={XQ with
 who:=fun a0 a1=>KH (XS XQ a0 a1)}
theorem QC:Xf (Sys.of Go.Proofs.Tryz.prog) ids:={XE with
 kind:=fun a0 a1=>HH (VA XE a0 a1)}
theorem UZ:YW (Sys.of Go.Proofs.Tryz.prog) ids:={QC with
 plain:=fun a0 a1=>Gq (R8 QC a0 a1)
 release:=fun a0 a1=>EC (Mi QC a0 a1)
 status:=fun a0 a1=>E9 (Px a0 a1)
 pack:=fun a0=>Jd (UA a0)
 field:=fun a0 a1 a2 a3 a4=>Gx (Rv QC a0 a1 a2 a3 a4)}
theorem WX:Z4 (Sys.of Go.Proofs.Tryz.prog) ids:={UZ with
 Pa:=fun a0 a1=>Fj (Pe UZ a0 a1)
 unpack:=fun a0=>Fm (PU UZ a0)
 Tu:=fun a0 a1=>Dt (QK a0 a1)
 WN:=fun a0 a1 a2 a3=>oS (Vf a0 a1 a2 a3)}
theorem WY:Y3 (Sys.of Go.Proofs.Tryz.prog) ids:={WX with
 U1:=fun a0 a1 a2 a3=>nL (UI WX a0 a1 a2 a3)}
theorem W7:ZK (Sys.of Go.Proofs.Tryz.prog) ids:={WY with
 Ah:=fun a0 a1 a2=>B6 (UH a0 a1 a2)
 tM:=fun a0 a1=>A8 (VH a0 a1)}
theorem T4:YC (Sys.of Go.Proofs.Tryz.prog) ids:={W7 with
 Kp:=fun a0 a1 a2 a3 a4=>zX (O5 a0 a1 a2 a3 a4)}
theorem Qu:Wy (Sys.of Go.Proofs.Tryz.prog) ids:={T4 with
 Dk:=fun a0 a1 a2=>AP (QI W7 a0 a1 a2)
 AD:=fun a0 a1 a2=>zV (O9 a0 a1 a2)
 Ee:=fun a0 a1 a2 a3 a4=>zS (NL a0 a1 a2 a3 a4)
 Ic:=fun a0 a1 a2 a3 a4=>AR (Qs T4 a0 a1 a2 a3 a4)
 ET:=fun a0 a1 a2 a3=>xM (Jw T4 a0 a1 a2 a3)}
theorem XA:Zo (Sys.of Go.Proofs.Tryz.prog) ids:={Qu with
 Bt:=fun a0=>xU (Ju Qu a0)
 GY:=fun a0 a1=>z5 (FE Qu a0 a1)
 Iy:=fun a0 a1 a2 a3=>zn (Ew Qu a0 a1 a2 a3)}
theorem WU:ZL (Sys.of Go.Proofs.Tryz.prog) ids:={XA with
 JV:=fun a0 a1 a2=>zH (OU XA a0 a1 a2)}
theorem TI:Yk (Sys.of Go.Proofs.Tryz.prog) ids:={WU with
 GJ:=fun a0 a1 a2=>yB (MR WU a0 a1 a2)}
theorem WM:NC (Sys.of Go.Proofs.Tryz.prog) ids:={TI with
 vX:=fun a0 a1 a2=>xX (Jz TI a0 a1 a2)
 Ie:=fun a0 a1 a2=>Ax (RB TI a0 a1 a2)}
theorem Xw:Yl (Sys.of Go.Proofs.Tryz.prog) ids:={WM with
 GV:=fun a0 a1 a2=>AX (IW WM a0 a1 a2)}
theorem aao:Yc (Sys.of Go.Proofs.Tryz.prog) ids:={Xw with
 OK:=fun a0 a1 a2 a3=>AG (RM Xw a0 a1 a2 a3)}
theorem SZ:TM (Sys.of Go.Proofs.Tryz.prog) ids:={aao with
 Gm:=fun a0 a1 a2 a3=>Fv (PX WY a0 a1 a2 a3)}
theorem WC:YX (Sys.of Go.Proofs.Tryz.prog) ids:={SZ with
 zE:=fun a0 a1 a2 a3 a4 a5 a6=>xh (IC SZ a0 a1 a2 a3 a4 a5 a6)}
theorem aag:ChK (Sys.of Go.Proofs.Tryz.prog) ids:={WC with
 link:=fun k {x g h R} H=>match k,H with | .begin,H=>Gp H | .first,H=>Hf H | .kY,H=>Ec H | .vF,H=>Fy H | .checked,H=>D1 H | .nQ,H=>CF H | .again,H=>GB H | .lU,H=>Fx H | .te,H=>Fc H | .tS,H=>zn H | .settle,H=>z5 H | .uZ,H=>DX H | .jO,H=>yP H | .mH,H=>B1 H | .known,H=>GH H | .found,H=>Gf H | .through,H=>EX H | .BQ,H=>AX H
 KI:=fun k=>AI k
 mt:=by kernel_rfl}
theorem XN:V5 (Sys.of Go.Proofs.Tryz.prog) ids:={aag with
 H8:=fun a0 a1 a2=>Kz (Ml WC a0 a1 a2)
 Bd:=fun a0 a1 a2=>Fh (MX a0 a1 a2)}
theorem UC:XF (Sys.of Go.Proofs.Tryz.prog) ids:={XN with
 wJ:=fun a b c d e=>Oy.all XN a b c d e}
theorem Xl:Zg (Sys.of Go.Proofs.Tryz.prog) ids:={UC with
 KA:=fun a0 a1 a2 a3 a4 a5=>BO (OG UC a0 a1 a2 a3 a4 a5)}
theorem Zw:CyC (Sys.of Go.Proofs.Tryz.prog) ids:={Xl with
 Hg:=fun a0 a1 a2 a3 a4=>Au (LX Xl a0 a1 a2 a3 a4)
 tkl:=fun k=>zN k
 tkf:=fun k=>zh k
 tkT:=fun k=>y9 k}
theorem Se:Un (Sys.of Go.Proofs.Tryz.prog) ids:={Zw with
 Gz:=fun a0 a1 a2=>FB (LG UC a0 a1 a2)
 Gl:=fun a0=>Fo (LP a0)
 Ub:=by kernel_rfl}
theorem Vw:YP (Sys.of Go.Proofs.Tryz.prog) ids:={Se with
 KZ:=fun a0 a1 a2 a3 a4 a5=>y9 (Mt Se a0 a1 a2 a3 a4 a5)
 kU:=fun a b d h F R c e k=>uQ (PC Se e a b d c k)
 NU:=fun a0 a1=>Hd (Oo Se a0 a1)
 Yd:=fun k=>Eo k
 WQ:=fun k=>C0 k
 gvf:=fun k=>yJ k
 UL:=by kernel_rfl}
theorem Vl:V9 (Sys.of Go.Proofs.Tryz.prog) ids:={Vw with
 Gy:=fun a0 a1 a2 a3 a4=>AE (Mz Vw a0 a1 a2 a3 a4)}
theorem TV:Yz (Sys.of Go.Proofs.Tryz.prog) ids:={Vl with
 Gj:=fun a0 a1 a2=>zT (Ut a0 a1 a2)
 Uo:=fun a0 a1=>zJ (Vd a0 a1)
 zx:=fun a0 a1 a2 a3=>xl (L3 a0 a1 a2 a3)}
theorem Vg:YK (Sys.of Go.Proofs.Tryz.prog) ids:={TV with
 G4:=fun a0 a1 a2 a3=>wK (Mg TV a0 a1 a2 a3)
 Ob:=fun a0 a1 a2 a3 a4=>xQ (Ot TV a0 a1 a2 a3 a4)}
theorem Y6:YV (Sys.of Go.Proofs.Tryz.prog) ids:={Vg with
 Ox:=fun a0 a1 a2=>yK (QF Vg a0 a1 a2)
 OI:=fun a0 a1 a2 a3 a4 a5=>yT (RZ Vg a0 a1 a2 a3 a4 a5)}
theorem ZJ:U8 (Sys.of Go.Proofs.Tryz.prog) ids:={Y6 with
 Oc:=fun k=>xm k
 R2:=fun k=>zI k
 Pj:=fun k=>yj k
 N6:=fun k=>xR k
 NX:=fun k=>xJ k
 KW:=fun k=>wY k
 PM:=fun a0 a1 a2=>GF (P6 Vw a0 a1 a2)
 Lq:=fun c k=>uY (L9 (B:=⟨fun _=>True,fun _ _=>trivial⟩) Vl c fun r M h' c' f=>k r M h' c' fun B=>f.le fun _ b=>⟨trivial,b.2⟩)
 kO:=fun a b d e h F R c f k=>uY (N9 Vl f a b d e c k)
 GP:=@fun _ _ _ tk _ _ a b k=>Fl (M5 a b (by decide) fun h' g=>by cases tk <;> exact k h' g)}
theorem Zk:Ue (Sys.of Go.Proofs.Tryz.prog) ids:={ZJ with
 SJ:=fun k=>zj k
 S1:=fun k=>zq k}
theorem Z0:Yw (Sys.of Go.Proofs.Tryz.prog) ids:={Zk with
 Ti:=fun k=>zk k
 Lr:=fun k=>xg k
 Ga:=fun k=>vN k
 HM:=fun k=>wx k}
theorem RU:Tq (Sys.of Go.Proofs.Tryz.prog) ids:={Z0 with
 tkN:=fun k=>uQ k}
theorem Zq:CvA (Sys.of Go.Proofs.Tryz.prog) ids:={RU with
 U7:=by kernel_rfl
 Xa:=fun k=>Cb k}
theorem Z5:V8 (Sys.of Go.Proofs.Tryz.prog) ids:={Zq with
 sdo:=fun a0 a1 a2=>El (WG a0 a1 a2)
 PI:=fun a0 a1=>DB (Rd a0 a1)
 PD:=fun a0 a1 a2 a3=>CW (Q1 RU a0 a1 a2 a3)
 Dd:=fun a0 a1 a2 a3=>CT (Rc a0 a1 a2 a3)
 Ux:=fun k=>DA k
 SS:=fun k=>A5 k
 B4:=fun k=>Ad k
 IG:=fun k=>za k}
theorem ZN:Wm (Sys.of Go.Proofs.Tryz.prog) ids:={Z5 with
 KK:=fun k=>CL k
 Xe:=fun k=>Dp k
 S8:=fun k=>AZ k}
theorem ZP:XR (Sys.of Go.Proofs.Tryz.prog) ids:={ZN with
 Od:=fun k=>BL k
 Lb:=fun k=>zR k
 S2:=fun k=>Gg k}
theorem VM:Tl (Sys.of Go.Proofs.Tryz.prog) ids:={ZP with
 SA:=fun k=>Hk k
 SY:=fun k=>GK k
 isSorted:=fun a0 a1 a2 a3=>nK (Km a0 a1 a2 a3)
 J4:=fun a0 a1 a2=>qB (PJ a0 a1 a2)}
theorem Z6:ZV (Sys.of Go.Proofs.Tryz.prog) ids:={VM with
 OA:=fun a0 a1 a2 a3 a4 a5=>sW (P5 a0 a1 a2 a3 a4 a5)
 Gn:=fun a0 a1 a2 a3 a4 a5 a6=>sA (LJ VM a0 a1 a2 a3 a4 a5 a6)
 Tg:=fun a b c k=>HN (Tw RU a b c (fun h R a b k=>Fg (OH RU a b c k)) k)
 SW:=fun a0 a1 a2 a3 a4 a5=>JZ (RP VM a0 a1 a2 a3 a4 a5)}
theorem ZO:YF (Sys.of Go.Proofs.Tryz.prog) ids:={Z6 with
 NH:=fun k=>Fi k
 NO:=fun k=>D9 k
 PK:=fun k=>Gh k
 ne1:=by decide
 ne2:=by decide
 ne3:=by decide}
theorem ZQ:XJ (Sys.of Go.Proofs.Tryz.prog) ids:={ZO with
 Kn:=fun k=>yZ k
 JO:=fun k=>Cf k
 TH:=by kernel_rfl}
theorem aaj:ZC (Sys.of Go.Proofs.Tryz.prog) ids:={ZQ with
 OZ:=fun k=>s6 k
 OQ:=fun k=>tm k}
theorem Z1:S3 (Sys.of Go.Proofs.Tryz.prog) ids:={aaj with
 GQ:=fun k=>tc k
 Uh:=by kernel_rfl}
theorem Zu:Zj (Sys.of Go.Proofs.Tryz.prog) ids:={ZW with
 choose:=fun a0 a1 a2=>vv (Py a0 a1 a2)}
theorem Wi:Z8 (Sys.of Go.Proofs.Tryz.prog) ids:={Zu with
 qR:=fun k=>yr k}
theorem XZ:ZT (Sys.of Go.Proofs.Tryz.prog) ids:={Wi with
 Sm:=fun a0 a1 a2 a3 a4 a5 a6 a7=>s5 (Rr Wi a0 a1 a2 a3 a4 a5 a6 a7)}
theorem TT:YD (Sys.of Go.Proofs.Tryz.prog) ids:={XZ with
 uJ:=fun a0 a1=>Fz (LR a0 a1)
 J6:=fun a0 a1=>mJ (Oh a0 a1)
 GS:=fun a0=>mJ (My a0)
 EN:=fun a0 a1=>gG (NZ a0 a1)
 DH:=fun a0=>gG (L7 a0)}
theorem ZB:Zr (Sys.of Go.Proofs.Tryz.prog) ids:={TT with
 NN:=fun a0 a1 a2 a3 a4 a5 a6=>pA (Sk RJ a0 a1 a2 a3 a4 a5 a6)
 Xn:=fun a0 a1 a2 a3 a4 a5 a6 a7=>yu (VF XZ a0 a1 a2 a3 a4 a5 a6 a7)
 Te:=fun a0 a1 a2 a3 a4 a5=>Av (QL TT a0 a1 a2 a3 a4 a5)
 Sync:=fun a0 a1 a2 a3 a4=>Bp (Tv TT a0 a1 a2 a3 a4)}
theorem Zv:X4 (Sys.of Go.Proofs.Tryz.prog) ids:={ZB with
 S7:=fun k=>rr k}
theorem ZU:Y7 (Sys.of Go.Proofs.Tryz.prog) ids:={Zv with
 Yt:=fun k=>pA k}
theorem ZA:Pp (Sys.of Go.Proofs.Tryz.prog) ids:={ZU with
 WJ:=fun k=>sB k
 S4:=fun k=>wj k
 NS:=fun k=>AW k
 Kc:=fun k=>B7 k
 zB:=fun k=>zc k
 DI:=fun k=>AJ k
 Ol:=fun k=>BB k
 JS:=fun k=>BU k}
theorem ZH:Yp (Sys.of Go.Proofs.Tryz.prog) ids:={ZA with
 ca:=Z1
 Kx:=fun a0=>xo (UQ a0)
 OB:=fun a0 a1=>yb (P4 T8 a0 a1)
 Wf:=fun a0 a1 a2 a3=>E6 (U6 XU a0 a1 a2 a3)
 SU:=fun k=>I8 k}
theorem Y9:Yx (Sys.of Go.Proofs.Tryz.prog) ids:={ZH with
 S9:=fun h R Z k=>sV (Ou QX Z k)
 z7:=fun k=>rD k}
theorem aaq:Wg (Sys.of Go.Proofs.Tryz.prog) ids:={Y9 with
 F5:=fun k=>DV k
 JQ:=fun a0=>vU (K7 a0)}
theorem Zx:CcG (Sys.of Go.Proofs.Tryz.prog) ids:={aaq with
 B3:=fun k=>wQ k
 GA:=fun k=>AH k}
theorem jCcH:Yb (Sys.of Go.Proofs.Tryz.prog) ids:={Zx with
 FZ:=fun k=>wm k
 Gd:=fun k=>wz k
 Kh:=fun k=>yM k
 JG:=fun k=>wE k
 U3:=fun k=>vD k
 SI:=fun k=>xY k}
end Go.En
namespace Go.En
open Go.Deep Go.ChangeShapes Go.WideShapes Go.ChangeAt Go.RowKit
section
variable {H:Type} {enc:TypeId × Value→H} {P:Program} {W:World}
theorem XV {α:Type} {E:qd α} {Q:α→Prop} {t e:TypeId} {f:Nat} {cs:List Value} {y:DataW H × List MemPlace} (ht:P.underlying t=some (.slice e)) (hn:P.cellsOf e=E.n) (hpos:0<E.n)
  (hel:∀n cs y,DataW.trod enc P W 0 (fun _=>true) true n e cs=some y→∃x,cs=E.c x∧Q x)
  (h:DataW.trod enc P W 0 (fun _=>true) true f t cs=some y):∃u:SH,cs=[aX u]∧∃xs,Sl E W.heap (aX u) xs∧xs.length≤maxLen∧∀x∈xs,Q x:=by
 obtain ⟨d,p⟩ :=y
 rcases open_slice ht h with ⟨hcs,_⟩ | ⟨a,len,cap,m,n,D,Pl,hcs,_,hl,hmx,hm,_,hi⟩
 ·exact ⟨(none,0,0),hcs,[],.nil,Nat.zero_le _,fun x hx=>by simp at hx⟩
 ·refine ⟨(some a,len,cap),hcs,?_⟩
  simp only [if_true] at hm
  subst hm
  have hx:∀i,i<len→∃x,(∀j u,(E.c x)[j]?=some u→W.cell? (a.add (i*E.n+j))=some u)∧Q x:=by
   intro i hlt
   obtain ⟨cs',hc,ht'⟩ :=hi i (by omega)
   obtain ⟨x,rfl,hq⟩ :=hel _ _ _ ht'
   obtain ⟨_,hcl,hat⟩ :=World.cells?_some hc
   refine ⟨x,fun j u hu=>?_,hq⟩
   have hj:j<P.cellsOf e:=by rw [hn]; have:=(List.getElem?_eq_some_iff.mp hu).1; rwa [E.len] at this
   have:=hat j hj
   rw [hu,hn,Go.Deep.add_add] at this
   exact this
  obtain ⟨xs,hlen,hxs⟩ :=DF len hx
  refine ⟨xs,⟨some a,m,by rw [hlen],by omega,fun e=>by simp at e,fun i x hix=>?_⟩,by rw [hlen]; omega,fun x hx=>?_⟩
  ·have hc:=(hxs i x hix).1
   have hlt:=(List.getElem?_eq_some_iff.mp hix).1
   have hsp:a.spot=none:=by
    have h0:0<xs.length:=by omega
    have hc0:=(hxs 0 xs[0] (by simp)).1
    have hl0:0<(E.c xs[0]).length:=by rw [E.len]; exact hpos
    have:=World.cell?_spot (hc0 0 _ (List.getElem?_eq_getElem hl0))
    simpa [Addr.add] using this
   obtain ⟨b,off,spot⟩ :=a
   simp only at hsp
   subst hsp
   refine ⟨b,off,rfl,fun j u hu=>?_⟩
   have:=hc j u hu
   rw [Ds,zr,wD] at this
   rw [Nat.add_assoc]; exact this
  ·obtain ⟨i,hi,rfl⟩ :=List.mem_iff_getElem.mp hx
   exact (hxs i _ (List.getElem?_eq_getElem hi)).2
theorem wf_u8 {z:Int} (h:(Lit.int .u8 z).wf=true):0≤z∧z≤255:=by
 have h1:IntKind.u8.min=0:=rfl
 have h2:IntKind.u8.max=255:=rfl
 simp only [Lit.wf,Bool.and_eq_true,decide_eq_true_eq] at h
 exact ⟨by omega,by omega⟩
theorem wf_i8 {z:Int} (h:(Lit.int .i8 z).wf=true) : -128≤z∧z≤127:=by
 have h1:IntKind.i8.min = -128:=rfl
 have h2:IntKind.i8.max=127:=rfl
 simp only [Lit.wf,Bool.and_eq_true,decide_eq_true_eq] at h
 exact ⟨by omega,by omega⟩
theorem el_i8 {e:TypeId} (he:P.underlying e=some (.int .i8)):∀n cs y,DataW.trod enc P W 0 (fun _=>true) true n e cs=some y→∃x:Int,cs=EI8.c x∧(-128≤x∧x≤127):=by
 intro n cs y h
 obtain ⟨z,rfl,_,hw⟩ :=DataW.trod_int he h
 exact ⟨z,rfl,wf_i8 hw⟩
theorem WB {e:TypeId} (hs:WA P e [some .u8,some .i8,none]=true):∀n cs y,DataW.trod enc P W 0 (fun _=>true) true n e cs=some y→∃x:Pt,cs=Dj.c x∧(x.cell<256∧-128≤x.more∧x.more≤127):=by
 intro n cs y h
 obtain ⟨hlen,hf⟩ :=PT hs n cs y h
 match cs,hlen with
 | [c0,c1,c2],_=>
  obtain ⟨z0,e0,w0⟩ :=hf 0 _ rfl
  obtain ⟨z1,e1,w1⟩ :=hf 1 _ rfl
  obtain ⟨z2,e2⟩ :=hf 2 _ rfl
  simp only [List.getElem?_cons_zero,List.getElem?_cons_succ,Option.some.injEq] at e0 e1 e2
  have w0:=wf_u8 w0
  have w1:=wf_i8 w1
  refine ⟨⟨z0.toNat,z1,z2⟩,?_,by show z0.toNat<256; omega,w1⟩
  rw [e0,e1,e2]
  show _=[Value.int .u8 (z0.toNat:Int),_,_]
  rw [show (z0.toNat:Int)=z0 by omega]
theorem Wb {e e':TypeId} {f0 f1:Field} (hu:P.underlying e=some (.struct #[f0,f1])) (hC:P.cellsOf e=2) (o0:f0.offset=0) (c0:P.cellsOf f0.type=1) (u0:P.underlying f0.type=some (.int .u8)) (o1:f1.offset=1) (c1:P.cellsOf f1.type=1) (u1:P.underlying f1.type=some (.slice e')) (hn:P.cellsOf e'=3) (hs:WA P e' [some .u8,some .i8,none]=true) :
  ∀n cs y,DataW.trod enc P W 0 (fun _=>true) true n e cs=some y→∃x:Int × SH,cs=EMx.c x∧((0≤x.1∧x.1≤255)∧∃ps:List Pt,Sl Dj W.heap (aX x.2) ps∧ps.length≤maxLen∧∀p∈ps,p.cell<256∧-128≤p.more∧p.more≤127):=by
 intro n cs y h
 obtain ⟨xs,m,_,_,hlen,hxl,hat⟩ :=DataW.trod_struct hu h
 rw [hC] at hlen
 match cs,hlen with
 | [a,b],_=>
  have t0:=hat 0 f0 (by simp)
  have t1:=hat 1 f1 (by simp)
  have hx0:xs[0]?=some (xs[0]'(by rw [hxl]; simp)):=List.getElem?_eq_getElem _
  have hx1:xs[1]?=some (xs[1]'(by rw [hxl]; simp)):=List.getElem?_eq_getElem _
  rw [o0,c0,hx0] at t0
  rw [o1,c1,hx1] at t1
  obtain ⟨z,e1,_,w⟩ :=DataW.trod_int u0 t0
  obtain ⟨u,e2,ps,hps,hl,hq⟩ :=XV (E:=Dj) u1 hn (by decide) (WB hs) t1
  have q1:a=Value.int .u8 z:=(List.cons.inj (show [a]=[Value.int .u8 z] from e1)).1
  have q2:b=aX u:=(List.cons.inj (show [b]=[aX u] from e2)).1
  rw [q1,q2]
  exact ⟨(z,u),rfl,wf_u8 w,ps,hps,hl,hq⟩
def WK (P:Program) (e e':TypeId):Bool:=
 Nat.beq (P.cellsOf e) 2&&(Nat.beq (P.cellsOf e') 3&&(WA P e' [some .u8,some .i8,none]&&(match P.underlying e with
  | some (.struct ⟨[f0,f1]⟩)=>Nat.beq f0.offset 0&&(Nat.beq (P.cellsOf f0.type) 1&&(Nat.beq f1.offset 1&&(Nat.beq (P.cellsOf f1.type) 1&&((match P.underlying f0.type with
   | some (.int .u8)=>true
   | _=>false)&&(match P.underlying f1.type with
   | some (.slice x)=>Nat.beq x e'
   | _=>false)))))
  | _=>false)))
theorem el_ms {e e':TypeId} (h:WK P e e'=true) :
  ∀n cs y,DataW.trod enc P W 0 (fun _=>true) true n e cs=some y→∃x:Int × SH,cs=EMx.c x∧((0≤x.1∧x.1≤255)∧∃ps:List Pt,Sl Dj W.heap (aX x.2) ps∧ps.length≤maxLen∧∀p∈ps,p.cell<256∧-128≤p.more∧p.more≤127):=by
 unfold WK at h
 simp only [Bool.and_eq_true,Nat.beq_eq] at h
 obtain ⟨h1,h2,h3,h4⟩ :=h
 split at h4
 ·rename_i f0 f1 hu
  simp only [Bool.and_eq_true,Nat.beq_eq] at h4
  obtain ⟨o0,c0,o1,c1,u0,u1⟩ :=h4
  split at u0
  ·rename_i w0
   split at u1
   ·rename_i x w1
    simp only [Nat.beq_eq] at u1
    subst u1
    exact Wb hu h1 o0 c0 w0 o1 c1 w1 h2 h3
   ·cases u1
  ·cases u0
 ·cases h4
theorem Uq {h:Hp} {v:Value} {us:List (Int × SH)} (hs:Sl EMx h v us) (hq:∀x∈us,(0≤x.1∧x.1≤255)∧∃ps:List Pt,Sl Dj h (aX x.2) ps∧ps.length≤maxLen∧∀p∈ps,p.cell<256∧-128≤p.more∧p.more≤127) :
  ∃u ops,v=aX u∧um (Bs.of h) u ops∧ops.length=us.length∧∀o∈ops,o.ps.length≤maxLen∧∀p∈o.ps,p.cell<256∧-128≤p.more∧p.more≤127:=by
 obtain ⟨ops,hl,ho⟩ :=DF (α:=m9) (Q:=fun i o=>∃x,us[i]?=some x∧x.1=o.d∧Sl Dj h (aX x.2) o.ps∧o.ps.length≤maxLen∧∀p∈o.ps,p.cell<256∧-128≤p.more∧p.more≤127) us.length fun i hi=>by
  obtain ⟨⟨h1,h2⟩,ps,hps,hl,hp⟩ :=hq us[i] (List.getElem_mem hi)
  exact ⟨⟨us[i].1.toNat,ps⟩,us[i],List.getElem?_eq_getElem hi,by show us[i].1=(us[i].1.toNat:Int); omega,hps,hl,hp⟩
 obtain ⟨u,rfl⟩:∃u:SH,v=aX u:=by
  obtain ⟨a,cap,e,_⟩ :=hs
  exact ⟨(a,_,cap),e⟩
 refine ⟨u,ops,rfl,⟨us,fun h' g=>hs.gr g,hl.symm,fun i a o h1 h2=>?_⟩,hl,fun o hm=>?_⟩
 ·obtain ⟨x,e,e1,e2,_⟩ :=ho i o h2
  rw [h1] at e
  injection e with e
  subst e
  exact ⟨e1,fun h' g=>e2.gr g⟩
 ·obtain ⟨i,hi,rfl⟩ :=List.mem_iff_getElem.1 hm
  obtain ⟨_,_,_,_,h4⟩ :=ho i _ (List.getElem?_eq_getElem hi)
  exact h4
theorem sl_len {α:Type} {E:qd α} {t e:TypeId} {v:Value} {d:DataW H} {p:List MemPlace} {base:Nat} {xs:List α} (ht:P.underlying t=some (.slice e))
  (hv:Value.okWide P W .any base t v) (h:DataW.Trod enc P W 0 (fun _=>true) true t v d p) (hs:Sl E W.heap v xs):xs.length≤maxLen:=by
 obtain ⟨a0,len0,cap0,rfl⟩ :=okWide_slice ht hv
 obtain ⟨_,_,e,_⟩ :=hs
 injection e with _ e _
 subst e
 obtain ⟨fuel,hf⟩ :=h
 rcases open_slice ht hf with ⟨hcs,_⟩ | ⟨a,len,cap,m,n,D,Pl,hcs,_,hl,hmx,_⟩
 ·simp [Value.cells] at hcs
  rw [hcs.2.1]; exact Nat.zero_le _
 ·simp [Value.cells] at hcs
  obtain ⟨_,rfl,rfl⟩ :=hcs
  omega
end
theorem M_TopBothWays {S:Sys} {I:aZ} {h:Hp} {R:Value→Hp→Prop} (cs:Yb S I) {v0 v1:Value} {first:List Int} {us:List (Int × SH)} {du:Bool} (hf:Sl EI8 h v0 first) (hfr:∀z∈first,-128≤z∧z≤127) (hfl:first.length≤maxLen)
  (hs:Sl EMx h v1 us) (hq:∀x∈us,(0≤x.1∧x.1≤255)∧∃ps:List Pt,Sl Dj h (aX x.2) ps∧ps.length≤maxLen∧∀p∈ps,p.cell<256∧-128≤p.more∧p.more≤127) (Z:Zs h) (hR:∀h',Gr h h'→R (.bool true) h') :
  fD S I v0 v1 (.bool du) h R:=by
 obtain ⟨u,ops,rfl,ho,_,hp⟩ :=Uq hs hq
 exact Uu cs Z hf hfr hfl ho (fun o m=>(hp o m).1) (fun o m=>(hp o m).2) hR
end Go.En
