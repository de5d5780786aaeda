/- Library, part H. -/
import Derived.Test.YtcepckpfhbcobaaGreatDoorXG
set_option maxRecDepth 100000
set_option linter.defProp false
namespace Go.En
variable {h h0 h':Hp} {F F0:Fp} {R:Value->Hp->Prop} {L:List km} {B B':Bs}
def Qc:Ww W0:=⟨⟨by decide,by decide⟩,⟨by decide,by decide⟩,⟨by decide,by decide⟩⟩
section
variable {s:Hs} {w e:SH} {g:lA} {v v':Value}
def E1 {mA:Value} (dO:mA.oneCell'=true) (u:s.ended=false) {Q:Bs->Value->Hs->Prop} {out:List Hs × Ac × Bool} (b0:B.p h)
  (hC:∀h R,B.p h->(∀q,Rt B h (λB=>B6 B out.1 q) λh'=>R (.tuple #[q,qZ out.2.1,.bool out.2.2]) h')->S.C (kI s.nx) [pY (kG s w e mA),mU g] h R)
  (hR:∀v',Rt B h (λB=>B6 B out.1 v') λh'=>R (.tuple #[.iface 376 v',qZ out.2.1,.bool out.2.2]) h') :
  oz.1 (pY (kG s w e mA)) (mU g) h R:=by
 obtain⟨rf,du,ws,mn,es,i,vr,mt,en,nx,bh⟩:=s;obtain⟨⟨gv,gq,gr⟩,gk⟩:=g;have hb:=lq bh;dsimp only at u;subst u;obtain⟨row,a,d⟩:=out;have c:=Cx.jQ h;refine c.l9 λ_ _ c=>c.v4 λ_ _ c=>c.v8 λ_ _ c=>?_;refine jS<|c.rc 0 ?_;refine j7<|jS<|c.rc 0 ?_;refine c.rl 0 ?_;refine c.rl 1 ?_;refine .inl (.inl ⟨kI nx,#[],#[],rfl,hC _ _ (B.up b0 c.gr) λq M _ dd ok=>?_⟩);have c:=c.jT dd;obtain⟨k,l,E⟩:=ok.head;dsimp only at E;subst E;obtain⟨x,hx,J⟩:∃x,q=pY x/\Ho x:=by
  cases l with
  | nil=>obtain⟨w2,X,y,_⟩:=ok;exact⟨_,y,ho k w2 X⟩
  | cons k2 l2=>obtain⟨w2,X,v3,y,_⟩:=ok;exact⟨_,y,rfl,rfl,lq k.bh⟩
 subst hx;obtain⟨xr,eQ,Z,aS,K,aT,iF,O,iN,xi,bY,⟨xv,xq,iS⟩,G,H,oF,oR⟩:=x;obtain⟨T,U,V⟩:=J;dsimp only at T U V;replace c:=c.n4;refine vx rfl<|vx rfl<|vx rfl<|c.l9 λ_ _ c=>?_;refine c.v8 λ_ _ c=>?_;refine c.ZV 4 λ_ c=>?_;refine c.w8 5 λ_ c=>?_;refine c.rl 4 ?_;refine vx rfl<|c.rl 5 ?_;refine c.w8 2 λ_ c=>?_;refine c.rl 2 ?_;exact hR _ M _ (c.pick [3]) ok
def Ry (V:B.p h) (X:On B Zs) (hw:On B λh=>Sl EW h (jY w) s.ws) (he:On B λh=>Sl EE h (jY e) s.es) (hi:s.i<s.es.length/\s.es.length<=1000) (G:0<=s.met.ref/\s.met.ref<4294967296) (hm:¬kj s.met.ref=0/\0<=jP (kj s.met.ref))
  {out:List Hs × Ac × Bool} (ho:out=if ¬g.w=⟨0,s.seq,0⟩ then([(ku s).1],(ku s).2) else([{s with nx:=.kN},{Hs.new s.met.ref s.kY with nx:=.first}],⟨5,jP (kj s.met.ref),W0,W0⟩,false))
  (E:∀u,Rt B h (λB=>B6 B out.1 u) λh'=>R (.tuple #[u,qZ out.2.1,.bool out.2.2]) h') :
  wJ.1 (pY (kG s w e .nilIface)) (mU g) h R:=by
 obtain⟨rf,du,ws,mn,es,i,vr,⟨H,J,q⟩,en,nx,bh⟩:=s;obtain⟨⟨O,T,gr⟩,gk⟩:=g;have hb:=lq bh;dsimp only at hw he hi hm ho G;by_cases K:(⟨O,T,gr⟩:W3)=⟨0,oN rf,0⟩
 ·have ho:out=_:=ho.trans (if_neg λx=>x K);subst ho;have Z:∀B',B.le B'->Oe B' (pY (kG (Hs.new q du) (none,0,0) (none,0,0) .nilIface)) qa ([{Hs.new q du with nx:=.first}],⟨5,jP (kj q),W0,W0⟩,false):=λB' l h R b E=>by
   refine oz.2 (E1 (s:=Hs.new q du) rfl rfl (Q:=λ_ _ _=>True) b (λh R b E=>?_) E);refine RN (s:=Hs.new q du) b (X.le l) (λ_ _=>Sl.nil) (λ_ _=>Sl.nil) ⟨rfl,aO _,hm.2,λx U=>(bF U).elim,Qc,trivial⟩ (λx=>by cases x) Qc λw' e' M h' c ok=>E _ M h' c ⟨w',e',rfl,ok.1,ok.2⟩
  have c:=Cx.jQ h;refine c.l9 λ_ _ c=>c.v4 λ_ _ c=>c.l9 λ_ _ c=>c.v8 λ_ _ c=>?_;refine jS<|vx (c.vp (i:=1) (ds:=[_,_,_]) rfl rfl rfl)<|jS<|c.rc 0 ?_;refine nV (nQ rf) λ_ g=>have c:=c.more g;aQ (c.vp (i:=1) (ds:=[_,_,_]) rfl rfl rfl) ?_;refine vx (VV (a:=⟨O,T,gr⟩) (b:=⟨0,oN rf,0⟩) K)<|j7<|jS<|vx (c.vp (i:=0) (ds:=[_,_,_]) rfl rfl rfl)<|jS<|jS<|c.rc 0 ?_;refine jS<|c.rc 0 ?_;refine pF (X _ (B.up V c.gr)) G λ_ g=>?_;have c:=c.more g;rw[if_pos hm];refine vx rfl<|vx rfl<|jS<|c.z6 0 λ_ c=>?_;refine c.rl 0 ?_;refine vx (jU (ds:=[_,_,_,_]) rfl)<|wW .kN (GH (s:=⟨rf,du,ws,mn,es,i,vr,⟨H,J,q⟩,en,nx,bh⟩) (g:=qa) (B.up V c.gr) hw he hi (Z B (Bs.le_refl B)) (λx=>by cases x) λu M _ d ok=>?_);have c:=c.jT d;obtain⟨w2,e2,v3,U,aS⟩:=id ok;subst U;replace c:=c.n5;refine c.lj 2 3 λ_ c=>?_;exact E _ M _ (c.pick [4]) ok
 ·have ho:out=_:=ho.trans (if_pos K);subst ho;have sm:=qU ⟨rf,du,ws,mn,es,i,vr,⟨H,J,q⟩,en,nx,bh⟩;have c:=Cx.jQ h;refine c.l9 λ_ _ c=>c.v4 λ_ _ c=>c.l9 λ_ _ c=>c.v8 λ_ _ c=>?_;refine jS<|vx (c.vp (i:=1) (ds:=[_,_,_]) rfl rfl rfl)<|jS<|c.rc 0 ?_;refine nV (nQ rf) λ_ g=>have c:=c.more g;aQ (c.vp (i:=1) (ds:=[_,_,_]) rfl rfl rfl) ?_;refine vx (Wh (a:=⟨O,T,gr⟩) (b:=⟨0,oN rf,0⟩) K)<|kV<|c.rl 0 ?_;refine Am (s:=⟨rf,du,ws,mn,es,i,vr,⟨H,J,q⟩,en,nx,bh⟩) (w:=w) (e:=e) λ_ g=>have c:=c.more g;c.lj 2 3 λ_ c=>?_;exact(E (pY (kG (ku ⟨rf,du,ws,mn,es,i,vr,⟨H,J,q⟩,en,nx,bh⟩).1 w e .nilIface))).nil ⟨w,e,rfl,by rw[sm.1]; exact hw.le (Bs.jX _ _),by rw[sm.2.1]; exact he.le (Bs.jX _ _)⟩ c.gr
def Oe.all (H:On B Zs) (K:Ww g.w):∀{hs:List Hs} {v:Value},B6 B hs v->Du hs->(∀s∈hs,s.nx=.again->s.i<s.es.length)->Oe B v g (kQ hs g)
 | [],_,hv,_,_=>hv.elim
 | [s],v,hv,o,E=>by
  have o:WA s:=o;obtain⟨w,e,rfl,hw,he⟩:=hv;intro h R u q;refine oz.2 (E1 (Q:=λ_ _ _=>True) rfl o.ended u (λh R u q=>?_) q);by_cases G:s.nx=.again
  ·have op:=o.ph;rw[G] at op;have:=wW .again (Ry u H hw he ⟨E s (aM ..) G,o.es⟩ o.met.ref op (g:=g) (nE o.ended G []) q);rw[G];exact this
  ·have J:=qw (g:=g) o.ended G [] (.inl rfl);rw[J] at q;refine RN u H hw he o G K λw' e' M h' c ok=>q _ M h' c ⟨w',e',rfl,ok.1,ok.2⟩
 | s::k::r,v,hv,o,E=>by
  obtain⟨w,e,v',rfl,hw,he,hv⟩:=hv;intro h R u q;have O:=Oe.all H K hv o.2 λs hs=>E s (aL _ hs);refine oz.2 (E1 (Q:=λ_ _ _=>True) rfl o.1.ended u (λh R u q=>?_) q);rw[o.1.nx];have J:kQ (s::k::r) g=uR s (kQ (k::r) g):=ot o.1.ended o.1.nx r;rw[J] at q;exact wW .kN (GH u hw he o.1.es O (pA o.2) q)
end
def sM (a b:Int):Int:=((BitVec.ofInt 64 a&&& BitVec.ofInt 64 b).toInt)
def K8 (a b:Int):Int:=((BitVec.ofInt 64 a||| BitVec.ofInt 64 b).toInt)
def Ns (a b:Int):Int:=((BitVec.ofInt 64 a&&& ~~~ BitVec.ofInt 64 b).toInt)
abbrev mG:Int:=376
inductive LP where
 | look
 | swap (i:Nat) (w:W3)
 | done (i:Nat)
 | full
abbrev K6:Type:=LP × Ac × Bool
def kX (w:W3):Nat->Nat->K6
 | 0,_=>(.full,o8,true)
 | k+1,i=>if sM w.v (2 ^ i)=0 then(.swap i w,⟨6,mG,w,⟨K8 w.v (2 ^ i),w.j8,w.ref⟩⟩,false) else kX w k (i+1)
def mC:LP->lA->K6
 | .look,g=>kX g.w 4 0
 | .swap i _,g=>if g.ok=true then(.done i,o8,true) else kX g.w 4 0
 | .done i,_=>(.done i,o8,true)
 | .full,_=>(.full,o8,true)
inductive S4 where
 | look
 | swap (w:W3)
 | done (bad:Bool)
abbrev P8:Type:=S4 × Ac × Bool
def lO (b:Nat) (w:W3):P8:=
 if sM w.v (2 ^ b)=0 then(.done true,o8,true) else(.swap w,⟨6,mG,w,⟨Ns w.v (2 ^ b),w.j8,w.ref⟩⟩,false)
def m3 (b:Nat):S4->lA->P8
 | .look,g=>lO b g.w
 | .swap _,g=>if g.ok=true then(.done false,o8,true) else lO b g.w
 | .done x,_=>(.done x,o8,true)
inductive BP where
 | take (k:LP)
 | looked
 | rel (op:Bool)
 | zw (op:Bool)
 | sS (op:Bool)
 | fill
 | lQ
 | zq
 | mQ (hs:List Hs)
 | pR (b:Nat) (k:S4)
 | over
structure Bk where
 kY:Bool
 es:List Et
 kZ:Nat
 seq:Int
 i:Nat
 done:Bool
 bad:Int
 ph:BP
abbrev BR:Type:=Bk × Ac × Bool
def Bk.who (s:Bk):Int:=9+s.kZ
def Bk.at' (s:Bk):Int:=lC s.kZ
def Lo (s:Bk):BR:=({s with ph:=.over},o8,true)
def Be (s:Bk):BR:=({s with ph:=.pR s.kZ .look},⟨5,mG,W0,W0⟩,false)
def NO (s:Bk) (z:Int) (op:Bool):BR:=({s with ph:=.rel op},⟨4,s.at',W0,⟨z,s.seq,0⟩⟩,false)
def H8 (s:Bk) (i:Nat):W3:=
 if i=0 then⟨s.es.length,0,0⟩ else
  let e:=s.es.getD ((i - 1) / 3) K5;if (i - 1) % 3=0 then DJ e else if (i - 1) % 3=1 then DI e else Ee e
def mg (s:Bk):Nat:=1+3*s.es.length
def KN (s:Bk):BR:=NO s 0 true
def qk (s:Bk):BR:=
 let a:=s.at' / 8*8+s.i*8;if s.at'+mg s<a then({s with ph:=.zq},⟨8,0,W0,W0⟩,false)
 else({s with i:=s.i+1,ph:=.lQ},⟨7,max a (s.at'+1),W0,W0⟩,false)
def rh (s:Bk):BR:=
 if s.i<mg s then({s with i:=s.i+1,ph:=.fill},⟨3,s.at'+1+s.i,W0,H8 s s.i⟩,false)
 else if s.kY=true then qk {s with i:=0} else KN s
def Jx (s:Bk):BR:=({s with ph:=.mQ [{Hs.new (kJ s.who s.seq) s.kY with nx:=.first}]},⟨5,s.at',W0,W0⟩,false)
def my (s:Bk) (op:Bool):BR:=if op=true then Jx s else rh s
def r7 (s:Bk) (w:W3):BR:=
 if 16777215<=w.j8 then Be {s with bad:=9} else NO {s with seq:=w.j8+1} 3 false
def kr (s:Bk) (g:lA):BR:=
 match s.ph with
 | .take k=>match mC k g with
  | (.done i,_,true)=>({s with kZ:=i,ph:=.looked},⟨5,lC i,W0,W0⟩,false)
  | (_,_,true)=>Lo {s with bad:=9}
  | (k,a,false)=>({s with ph:=.take k},a,false)
 | .looked=>r7 s g.w
 | .rel op=>if s.kY=true then({s with ph:=.zw op},⟨7,s.at',W0,W0⟩,false) else my s op
 | .zw op=>({s with ph:=.sS op},⟨8,0,W0,W0⟩,false)
 | .sS op=>my s op
 | .fill=>rh s
 | .lQ=>qk s
 | .zq=>KN s
 | .mQ hs=>match kQ hs g with
  | (hs,a,false)=>({s with ph:=.mQ hs},a,false)
  | (hs,_,true)=>Be {s with done:=match hs with | h::_=>decide (h.j8=1) | []=>false}
 | .pR b k=>match m3 b k g with
  | (k,a,false)=>({s with ph:=.pR b k},a,false)
  | (_,_,true)=>Lo s
 | .over=>(s,o8,true)
def Mw (kY:Bool) (es:List Et):Bk:=⟨kY,es,0,0,0,false,0,.take .look⟩
inductive SP where
 | pO
 | last (hs:List Hs)
 | qx (l:List Ac)
 | own (hs:List Hs)
 | rE
 | pK (w:W3) (hs:List Hs)
 | qv
 | sv
 | send (l:List Ac) (ok:Bool)
 | over (ok:Bool)
structure Sw where
 t:Nat
 seq:Int
 kY:Bool
 es:List Et
 ph:SP
abbrev SR:Type:=Sw × Ac × Bool
def LD (s:Sw) (ok:Bool):SR:=({s with ph:=.over ok},o8,true)
def od (s:Sw) (l:List Int):List Ac:=if s.kY=true then l.map (λp=>⟨7,p,W0,W0⟩)++[⟨8,0,W0,W0⟩] else []
def kh (es:List Et):List W3:=⟨es.length,0,0⟩::es.flatMap λe=>[DJ e,DI e,Ee e]
def mm:List W3->Int->List Ac
 | [],_=>[]
 | w::r,p=>⟨3,p,W0,w⟩::mm r (p+1)
def mf (a:Int) (n:Nat):List Int:=((List.range n).map λ(i:Nat)=>a+1+(i:Int)).filter λp=>decide (p=a+1\/p % 8=0)
def Dk (s:Sw):Int:=mR s.t
def mX (s:Sw):List Ac:=
 let a:=Dk s;let f:=kh s.es
 ⟨4,a,W0,⟨3,s.seq,0⟩⟩::od s [a]++mm f (a+1)++od s (mf a f.length)++[⟨4,a,W0,⟨0,s.seq,0⟩⟩]++od s [a]
def XI (s:Sw):SR:=({s with ph:=.own [{Hs.new (kJ s.t s.seq) s.kY with nx:=.first}]},⟨5,jP s.t,W0,W0⟩,false)
def BJ (s:Sw):List Ac->SR
 | []=>XI s
 | a::l=>({s with ph:=.qx l},a,false)
def vT (s:Sw):SR:=BJ s (mX s)
def ug (s:Sw) (w:W3):SR:=
 if s.seq<=w.j8 then LD s false
 else if K4 s.t w.j8=false\/¬(w.v=0\/w.v=1) then vT s
 else({s with ph:=.last [{Hs.new (kJ s.t w.j8) s.kY with nx:=.first}]},⟨5,jP s.t,W0,W0⟩,false)
def sE (s:Sw):Et:=s.es.getD 0 K5
def zS (s:Sw):SR:=({s with ph:=.rE},⟨5,(sE s).at',W0,W0⟩,false)
def uO (s:Sw) (ok:Bool):List Ac->SR
 | []=>LD s ok
 | a::l=>({s with ph:=.send l ok},a,false)
def yH (s:Sw) (w:W3):SR:=
 if ¬kj w.ref=0/\0<=jP (kj w.ref) then({s with ph:=.pK w [{Hs.new w.ref s.kY with nx:=.first}]},⟨5,jP (kj w.ref),W0,W0⟩,false)
 else if ¬w=(sE s).old then uO s false (od s [(sE s).at'])
 else({s with ph:=.sv},⟨6,(sE s).at',w,⟨(sE s).new,(w.j8+1) % 4294967296,0⟩⟩,false)
def HM (hs:List Hs):Int:=match hs with | h::_=>h.j8 | []=>0
def kP (s:Sw) (g:lA):SR:=
 match s.ph with
 | .pO=>ug s g.w
 | .last hs=>match kQ hs g with
  | (hs,a,false)=>({s with ph:=.last hs},a,false)
  | (_,_,true)=>vT s
 | .qx l=>BJ s l
 | .own hs=>match kQ hs g with
  | (hs,a,false)=>({s with ph:=.own hs},a,false)
  | (hs,_,true)=>LD s (decide (HM hs=1))
 | .rE=>yH s g.w
 | .pK w hs=>match kQ hs g with
  | (hs,a,false)=>({s with ph:=.pK w hs},a,false)
  | (hs,_,true)=>if ¬HM hs=4 then zS s else({s with ph:=.qv},⟨6,(sE s).at',w,⟨w.v,w.j8,0⟩⟩,false)
 | .qv=>zS s
 | .sv=>if g.ok=true then uO s true (od s [(sE s).at']) else yH s g.w
 | .send l ok=>uO s ok l
 | .over ok=>(s,o8,true)
def Ub (t:Nat) (seq:Int) (kY:Bool) (es:List Et):Sw:=⟨t,seq,kY,es,.pO⟩
def uT (kY:Bool) (e:Et):Sw:=⟨0,0,kY,[e],.rE⟩
inductive PP where
 | found
 | mQ (hs:List Hs)
 | back
 | flush
 | last
 | over
structure Pk where
 kY:Bool
 at':List Int
 i:Nat
 rounds:Nat
 now:List W3
 pC:List W3
 held:W3
 ph:PP
abbrev PR:Type:=Pk × Ac × Bool
def vg (s:Pk):Int:=s.at'.getD s.i 0
def uF (s:Pk):PR:=({s with ph:=.found},⟨5,vg s,W0,W0⟩,false)
def oQ (s:Pk):PR:=
 if s.i<s.at'.length then({s with i:=s.i+1,ph:=.flush},⟨7,vg s,W0,W0⟩,false)
 else({s with ph:=.last},⟨8,0,W0,W0⟩,false)
def Xo (s:Pk):PR:=({s with ph:=.over},o8,true)
def oP (a b:List W3):Bool:=(a.zip b).all λx=>decide (x.1=x.2)
def qR (s:Pk):PR:=
 let s:={s with rounds:=s.rounds+1};if s.rounds<2\/oP s.pC s.now=false then uF {s with pC:=s.now,now:=[],i:=0}
 else if s.kY=true then oQ {s with i:=0} else Xo s
def uq (s:Pk) (w:W3):PR:=
 if 0<kj w.ref/\0<=jP (kj w.ref) then({s with held:=w,ph:=.mQ [{Hs.new w.ref s.kY with nx:=.first}]},⟨5,jP (kj w.ref),W0,W0⟩,false)
 else
  let s:={s with now:=s.now++[w],i:=s.i+1};if s.i<s.at'.length then uF s else qR s
def nO (s:Pk) (g:lA):PR:=
 match s.ph with
 | .found=>uq s g.w
 | .mQ hs=>match kQ hs g with
  | (hs,a,false)=>({s with ph:=.mQ hs},a,false)
  | (hs,_,true)=>if ¬HM hs=4 then uF s else({s with ph:=.back},⟨6,vg s,s.held,⟨s.held.v,s.held.j8,0⟩⟩,false)
 | .back=>uF s
 | .flush=>oQ s
 | .last=>Xo s
 | .over=>(s,o8,true)
def Gd (kY:Bool) (l:List Int):Pk:=⟨kY,l,0,0,[],[],W0,.found⟩
structure Pt where
 cell:Nat
 more:Int
 wr:Bool
structure ng where
 d:Nat
 ps:List Pt
inductive Cd where
 | sw (s:Sw)
 | bl (s:Bk)
 | pk (s:Pk)
structure Cn where
 t:Nat
 seq:Int
 kY:Bool
 ops:List ng
 seen:List W3
 now:Option Cd
 done:List Bool
 pQ:List Int
 broken:Bool
abbrev CR:Type:=Cn × Ac × Bool
def ptL (ps:List Pt):List Pt:=(List.range 6).filterMap λi=>ps.find? λp=>p.cell % 6 == i
def jZ (o:ng):List Pt:=if o.d % 4=2 then(ptL o.ps).take 1 else ptL o.ps
def kM (p:Pt):Int:=56+((p.cell % 6:Nat):Int)
def nU (p:Pt) (w:W3):Et:=⟨kM p,⟨w.v,w.j8,0⟩,if p.wr=true then tG (w.v+p.more) else w.v,p.wr⟩
def kx (l:List Pt) (seen:List W3):List Et:=(l.zip seen).map λx=>nU x.1 x.2
def lD:Cd->lA->Cd × Ac × Bool
 | .sw s,g=>let r:=kP s g;(.sw r.1,r.2)
 | .bl s,g=>let r:=kr s g;(.bl r.1,r.2)
 | .pk s,g=>let r:=nO s g;(.pk r.1,r.2)
def wK:Cd->Bool
 | .sw s=>match s.ph with | .over ok=>ok | _=>false
 | .bl s=>s.done
 | .pk _=>false
def A7:Cd->List Int
 | .pk s=>[s.now.foldl (λn w=>tG (n+w.v)) 0]
 | _=>[]
def UL:List Et->Bool
 | a::b::r=>decide (a.at'<b.at')&&UL (b::r)
 | _=>true
def Lx (es:List Et):Int:=
 if ¬m4 es=0 then m4 es else if 10<es.length then 15 else if UL es=false then 12 else if es.all (λe=>oG e.at')=false then 10 else 0
def MZ (t:Nat) (seq:Int) (es:List Et):Int:=
 if t<1\/3<t\/seq<1\/16777215<seq then 3 else if ¬m4 es=0 then m4 es else if mK es=false then 12 else if es.any (λe=>!oG e.at')=true then 10 else 0
def tl (e:Et):Int:=if ¬m4 [e]=0 then m4 [e] else if e.wr=false then 2 else if oG e.at'=false then 10 else 0
def pB (c:Cn) (o:ng) (l:List Pt) (seen:List W3):Option Cn × Ac:=
 let es:=kx l seen;let c:={c with seen:=[]};if o.d % 4=1 then(if Lx es=0 then some {c with now:=some (.bl (Mw c.kY es))} else none,⟨5,mG,W0,W0⟩)
 else if o.d % 4=2/\(l.getD 0 ⟨0,0,false⟩).wr=true then(if tl (es.getD 0 K5)=0 then some {c with now:=some (.sw (uT c.kY (es.getD 0 K5)))} else none,⟨5,(es.getD 0 K5).at',W0,W0⟩)
 else(if MZ c.t (c.seq+1) es=0 then some {c with seq:=c.seq+1,now:=some (.sw (Ub c.t (c.seq+1) c.kY es))} else none,⟨5,mR c.t,W0,W0⟩)
def nM:List ng->List ng
 | []=>[]
 | o::r=>if o.ps=[] then nM r else o::r
def lX (c:Cn) (g:lA):CR:=
 match nM c.ops with
 | []=>({c with ops:=[]},o8,true)
 | o::r=>
  let c:={c with ops:=o::r};if c.broken=true then(c,o8,true) else
  let l:=jZ o;if o.d % 4=3 then({c with now:=some (.pk (Gd c.kY (l.map kM)))},⟨5,(l.map kM).getD 0 0,W0,W0⟩,false)
  else
   let seen:=if c.seen=[] then [] else c.seen.dropLast++[g.w]
   if seen.length<l.length then({c with seen:=seen++[W0]},⟨5,(l.map kM).getD seen.length 0,W0,W0⟩,false)
   else match pB c o l seen with
    | (some c,a)=>(c,a,false)
    | (none,_)=>({c with broken:=true},o8,true)
def yG (c:Cn) (d:Cd) (g:lA):CR:=
 match lD d g with
 | (d,a,false)=>({c with now:=some d},a,false)
 | (d,_,true)=>lX {c with done:=c.done++[wK d],pQ:=c.pQ++A7 d,ops:=c.ops.tail,now:=none} qa
def ll (c:Cn) (g:lA):CR:=
 match c.now with
 | some d=>yG c d g
 | none=>lX c g
def WY (a b:Int):bin .and (.int .i64 a) (.int .i64 b)=some (.int .i64 (sM a b)):=by
 show some (Value.int .i64 (IntKind.i64.wrap (((BitVec.ofInt 64 a&&& BitVec.ofInt 64 b).toNat:Nat):Int)))=_;congr 2;unfold sM;rw[fT,IntKind.wrap_i64,jN];have:=(BitVec.ofInt 64 a&&& BitVec.ofInt 64 b).isLt;split <;> omega
def orB (a b:Int):bin .or (.int .i64 a) (.int .i64 b)=some (.int .i64 (K8 a b)):=by
 show some (Value.int .i64 (IntKind.i64.wrap (((BitVec.ofInt 64 a||| BitVec.ofInt 64 b).toNat:Nat):Int)))=_;congr 2;unfold K8;rw[fT,IntKind.wrap_i64,jN];have:=(BitVec.ofInt 64 a||| BitVec.ofInt 64 b).isLt;split <;> omega
def anB (a b:Int):bin .andNot (.int .i64 a) (.int .i64 b)=some (.int .i64 (Ns a b)):=by
 show some (Value.int .i64 (IntKind.i64.wrap (((BitVec.ofInt 64 a&&& ~~~ BitVec.ofInt 64 b).toNat:Nat):Int)))=_;congr 2;unfold Ns;rw[fT,IntKind.wrap_i64,jN];have:=(BitVec.ofInt 64 a&&& ~~~ BitVec.ofInt 64 b).isLt;split <;> omega
abbrev oI (f r:Nat):Value:=.func (.func f) #[] #[kC r]
abbrev Di (p:SH) (b e:Int) (d:Bool) (n:Value):List Value:=[.int .i64 3,.int .i64 6,.int .i64 4,jY p,.int .i64 b,.int .i64 e,.bool d,n]
def Jg (B:Bs) (W:km) (v:Value):LP->Prop
 | .look=>W=jR []/\∃p b r n q,v=.agg ⟨Di p b 0 false q⟩/\q=oI 264 r/\(On B λh=>Sl IL h (jY p) [((0:Int),(4:Int))])/\(On B λh=>∃F,(rV r (Di p b 0 false n)).P h F)
 | .swap i _=>i<4/\∃p r,v=.agg ⟨Di p i 0 false (oI 276 r)⟩/\W=rV r (Di p i 0 false (oI 276 r))/\(On B λh=>Sl IL h (jY p) [((0:Int),(4:Int))])
 | .done i=>i<4/\W=jR []/\∃p n,v=.agg ⟨Di p i 0 true n⟩/\n.oneCell'=true
 | .full=>W=jR []/\∃p b n,v=.agg ⟨Di p b 9 true n⟩/\n.oneCell'=true
def Cx.BO (c:Cx F0 h0 h L):Cx F0 h0 h (L++[jR []]):=(Cx.pack (L:=L) (M:=[]) (by rw[cX]; exact c))
section
variable {p:SH} {b:Int} {n:Value} {g:lA}
def qE:∀{i:Nat},i<4->Pz 263 [vL,.int .i64 i] (.tuple #[.int .i64 376,.int .i64 (2 ^ i)]):=λhi h R Z k=>sK.2 (X7 Z hi k)
def Jh (Z:Zs h) {ps:List (Int × Int)} (q:ps=[(0,4)]\/ps=[]) (H:n.oneCell'=true) (E:Sl IL h (jY p) ps)
  (h1:ps=[(0,4)]->∀r h',Cx (λ_=>False) h h' [rV r (Di p b 0 false (oI 264 r))]->R (.tuple #[.iface 362 (.agg ⟨Di p b 0 false (oI 264 r)⟩),qZ ⟨5,mG,W0,W0⟩,.bool false]) h')
  (h2:ps=[]->∀h',Gr h h'->R (.tuple #[.iface 362 (.agg ⟨Di p b 9 true n⟩),qZ o8,.bool true]) h'):S.C 241 [(.agg ⟨Di p b 0 false n⟩)] h R:=by
 refine Bb.2 ?_;rcases q with rfl | rfl
 ·have G:([((0:Int),(4:Int))]:List (Int × Int))[0]?=some (0,4):=rfl;have c:=Cx.jQ h;refine c.v8 λ_ _ c=>c.v8 λ_ _ c=>?_;refine jS<|c.rc 0 ?_;refine vx (E.gr c.gr).ln<|vx (m6 (by decide))<|j7<|jS<|vx (c.vp (i:=0) (ds:=[_,_,_]) rfl rfl rfl)<|jS<|c.rc 0 ?_;refine(E.gr c.gr).sN (j:=0) rfl G rfl (u:=.int .i64 0) rfl ?_;refine qE (i:=0) (by decide) _ _ (Z.gr c.gr) λ_ g=>have c:=c.more g;vx rfl<|vx rfl<|vx rfl<|jS<|c.q8 0 λ_ c=>?_;refine c.rl 0 ?_;refine vx rfl<|vx (jU (ds:=[_,_,_,_,_,_,_,_]) rfl)<|c.w8 1 λ_ c=>?_;refine c.rl 1 ?_;exact h1 rfl _ _ (c.pick [0])
 ·have c:=Cx.jQ h;refine c.v8 λ_ _ c=>c.v8 λ_ _ c=>?_;refine jS<|c.rc 0 ?_;refine vx (E.gr c.gr).ln<|vx (pN rfl)<|kV<|jS<|c.q8 0 λ_ c=>?_;refine jS<|c.q8 0 λ_ c=>?_;refine c.rl 0 ?_;refine vx rfl<|vx (jU (ds:=[_,_,_,_,_,_,_,_]) rfl)<|c.w8 1 λ_ c=>?_;refine c.rl 1 ?_;exact h2 rfl _ c.gr
end
def Dp (t:TypeId) (F:Fp) (h:Hp) (B:Bs) (V:Bs->km->Value->Prop) (a:Ac) (d:Bool) (R:Value->Hp->Prop):Prop:=
 ∀v W M h',Cx F h h' [W,jR M]->V (B.and M) W v->R (.tuple #[.iface t v,qZ a,.bool d]) h'
abbrev B1:Fp:=λ_=>False
section
variable {p:SH} {b:Int} {n:Value} {w:W3} {g:lA}
def M5 {w:W3} {i:Nat} (h:i<4):kX w (4 - i) i=if sM w.v (2 ^ i)=0 then(.swap i w,⟨6,mG,w,⟨K8 w.v (2 ^ i),w.j8,w.ref⟩⟩,false) else kX w (4 - (i+1)) (i+1):=by
 rw[show 4 - i=(4 - (i+1))+1 by omega,kX]
def Ha (O:B.p h) (hZ:On B Zs) (hn:n.oneCell'=true) (T:On B λh=>Sl IL h (jY p) [((0:Int),(4:Int))])
  (U:Dp 362 B1 h B (λB W v=>Jg B W v (kX w 4 0).1) (kX w 4 0).2.1 (kX w 4 0).2.2 R):S.C 265 [(.agg ⟨Di p b 0 false n⟩),(mW w)] h R:=by
 refine Af.2 ?_;obtain⟨G,H,wr⟩:=w;have hx:([((0:Int),(4:Int))]:List (Int × Int))[0]?=some (0,4):=rfl;have pw:∀{i:Nat},i<4->C5 (2 ^ i):=λ{i} hi=>by
  match i,hi with
  | 0,_=>exact⟨by decide,by decide⟩
  | 1,_=>exact⟨by decide,by decide⟩
  | 2,_=>exact⟨by decide,by decide⟩
  | 3,_=>exact⟨by decide,by decide⟩
  | i+4,h=>omega
 obtain⟨u,eu,Hu,_⟩:=(T h O).sub (n:=2) rfl (lo:=some (.int .i64 1)) (hi:=none) (l:=1) (u:=1) (.inr ⟨_,_,rfl,rfl⟩) (.inl ⟨rfl,rfl⟩) (aP _) (aP _);obtain⟨p2,rfl⟩:∃p2:SH,u=jY p2:=by
  obtain⟨a,cap,e,_⟩:=Hu;exact⟨(a,_,cap),e⟩
 have c:=Cx.jQ h;refine c.v8 λq _ c=>c.v3 λV _ c=>c.v8 λX _ c=>?_;refine jS<|c.rc 0 ?_;refine(T _ (B.up O c.gr)).sN (j:=0) rfl hx rfl (u:=.int .i64 0) rfl ?_;refine sO.by (λ(i:Nat) z h'=>z=.int .i64 i/\i<=4/\kX ⟨G,H,wr⟩ 4 0=kX ⟨G,H,wr⟩ (4 - i) i/\Cx (λ_=>False) h h' [rV q (Di p b 0 false n),rV V [.int .i64 G,.int .u32 H,.int .u32 wr],rV X [_,_,_,_,_,_,_,_]]) (λi=>4 - i) 0 ⟨rfl,aO _,rfl,c⟩ ?_;rintro i _ h4 ⟨rfl,hi,Q,c⟩ again E;refine jS<|c.rc 0 ?_;refine(T _ (B.up O c.gr)).sN (j:=1) rfl hx rfl (u:=.int .i64 4) rfl ?_;refine vx j9<|lV (λZ=>?_) λZ=>?_
 ·refine jS<|vx (c.vp (i:=0) (ds:=[_,_,_]) rfl rfl rfl) ?_;have K:i<4:=by omega
  refine qE (i:=i) K _ _ (hZ _ (B.up O c.gr)) λ_ g=>?_;have c:=c.more g;have J:=Q.trans (M5 K);refine vx rfl<|vx rfl<|jS<|c.rc 1 ?_;refine vx (WY _ _)<|vx mh<|lV (λM=>?_) λM=>?_
  ·refine vx (inc (by omega))<|E (i+1) _ _ ⟨rfl,by omega,?_,c⟩ (by omega);rw[J,if_neg M]
  ·refine jS<|c.q8 0 λ_ c=>?_;refine vx rfl<|jS<|c.q8 0 λ_ c=>?_;refine c.rl 0 ?_;refine vx rfl<|c.rl 1 ?_;refine jS<|c.rc 1 ?_;refine vx (orB _ _)<|jS<|c.rc 1 ?_;refine jS<|c.rc 1 ?_;refine vx (jU (ds:=[_,_,_]) rfl)<|vx (jU (ds:=[_,_,_,_,_,_,_,_]) rfl)<|c.w8 2 λ_ c=>?_;refine c.rl 2 ?_;have e:kX ⟨G,H,wr⟩ 4 0=(.swap i ⟨G,H,wr⟩,⟨6,mG,⟨G,H,wr⟩,⟨K8 G (2 ^ i),H,wr⟩⟩,false):=by rw[J,if_pos (cQ.1 M)]
   rw[e] at U;exact U _ (rV q (Di p i 0 false (oI 276 q))) [] _ ((c.pick [0]).BO) ⟨K,p,q,rfl,rfl,T.le (Bs.jX _ _)⟩
 ·refine jS<|c.rc 0 ?_;obtain rfl:i=4:=by omega
  refine vx eu<|jS<|c.q8 0 λ_ c=>?_;refine c.rl 0 ?_;refine Jh (p:=p2) (b:=b) (n:=n) (hZ _ (B.up O c.gr)) (ps:=[]) (.inr rfl) hn ?_ (λx=>by cases x) λ_ _ g=>?_
  ·exact Hu.gr c.gr
  have c:=c.more g;refine c.t8 2 λ_ c=>?_;have e:kX ⟨G,H,wr⟩ 4 0=(.full,o8,true):=Q;rw[e] at U;exact U _ (jR []) [] _ (Cx.BO (L:=[jR []]) (Cx.BO (L:=[]) (c.pick []))) ⟨rfl,p2,b,n,rfl,hn⟩
end
def YU (f:Nat) (t:TypeId) (B:Bs) (W:km) (v:Value) (g:lA) (V:Bs->km->Value->Prop) (a:Ac) (d:Bool):Prop:=
 ∀h F (R:Value->Hp->Prop),Cx F h h [W]->(∀h',Ch F h h'->B.p h')->Dp t F h B V a d R->S.C f [v,mU g] h R
def Fr (B:Bs) (r:Nat) (cs:List Value):Prop:=On B λh=>∃F,(rV r cs).P h F
def Fr.le {r:Nat} {cs:List Value} (H:Fr B r cs) (l:B.le B'):Fr B' r cs:=On.le H l
def rV.ld {r n:Nat} {cs:List Value} {F:Fp} (p:(rV r cs).P h F) (q:n=cs.length):kc n (kC r) h=some (.agg ⟨cs⟩):=let⟨⟨_,v⟩,_⟩:=p; v.whole q
def rV.lc {r o:Nat} {cs:List Value} {F:Fp} {u:Value} (p:(rV r cs).P h F) (hu:cs[o]?=some u):mH (.pointer (some ⟨r,o,none⟩)) h=some u:=by
 obtain⟨⟨_,v⟩,_⟩:=p;have:=v.row.mH (j:=o) hu;rwa [cP] at this
def Fr.ld {r n:Nat} {cs:List Value} (H:Fr B r cs) (b:B.p h) (q:n=cs.length):kc n (kC r) h=some (.agg ⟨cs⟩):=let⟨_,p⟩:=H h b; rV.ld p q
def Fr.of {M:List km} {r:Nat} {cs:List Value} {i:Nat} (hi:M[i]?=some (rV r cs)):Fr (B.and M) r cs:=On.of hi
def Jg.le (l:B.le B') {W:km} {v:Value}:∀{k:LP},Jg B W v k->Jg B' W v k
 | .look,⟨a,p,b,r,n,q,c,d,e,f⟩=>⟨a,p,b,r,n,q,c,d,On.le e l,On.le f l⟩
 | .swap _ _,⟨a,p,r,b,c,d⟩=>⟨a,p,r,b,c,On.le d l⟩
 | .done _,x=>x
 | .full,x=>x
def Dp.of0 {t:TypeId} {V:Bs->km->Value->Prop} {a:Ac} {d:Bool} {h1:Hp} {R:Value->Hp->Prop} (c:Cx F h h1 L) (H:Dp t F h B V a d R):Dp t B1 h1 B V a d R:=λv W M h' c' ok=>
 H v W M h' ((c.jT c').perm fN |>.drop) ok
def Cx.sB (c:Cx F h0 h L) {i:Nat} {A:km} (hi:L[i]?=some A):∃F',Cx F' h h [A]/\(∀h2,Ch F' h h2->Ch F h0 h2)/\∀{h':Hp} {A':km} {M:List km},Cx F' h h' (A'::M)->Cx F h0 h' (L.set i A'++M):=by
 obtain⟨F',E,G,_,up⟩:=c.Qr hi;refine⟨F',E,λh2 ch=>⟨cD c.gr.size ch.size,λr q u=>?_⟩,up⟩;rw[ch.same r (dA q c.gr.size) (λe=>(G r e).elim u (λx=>by omega)),c.gr.same r q u]
section
variable {p:SH} {b:Int} {n:Value} {w:W3} {g:lA}
def Hi (Z:Zs h) (u:0<=b/\b<4) (q:∀h',Gr h h'->R (.int .i64 0) h'):S.C 238 [vL,(.int .i64 b)] h R:=by
 refine Gj.2<|have c:=Cx.jQ h;c.v3 λ_ _ c=>?_;refine c.rl 0 ?_;refine lM _ _ (Z.gr c.gr) λ_ g=>have c:=c.more g;vx (v:=.bool false) rfl<|j7 ?_;refine .here<|vx (lL (by omega))<|j7<|jS<|c.rc 0 ?_;exact vx (oV (show ¬(4:Int)<=b by omega))<|j7<|q _ c.gr
def HB (Z:∀p h',Cx (λ_=>False) h h' [kz IL (jY p) [((0:Int),(4:Int))]]->R (jY p) h'):S.C 239 [(.int .i64 4),(.int .i64 0)] h R:=by
 refine zG.2 ?_;have J:∀(p:SH) h',Cx (λ_=>False) h h' [kz IL (jY p) [((0:Int),(4:Int))]]->z5 (jY p) (.int .i64 0) h' λq at8 K E=>
   Vb (bin .lss at8 (.int .i64 0)) λM=>Br M (
   Vb (bin .quo at8 (Value.int IntKind.i64 32)) λO=>
   Vb (bin .add O (Value.int IntKind.i64 1)) λQ=>
   Vb (bin .mul Q (Value.int IntKind.i64 32)) λT=>
   Vb (mn (.int .i64 0) T) λH=>
   Vb (nF [(0,1),(1,1)] #[Value.int IntKind.i64 0,Value.int IntKind.i64 0] [(0,at8),(1,H)]) λU=>
   Eb (ED #[Value.int IntKind.i64 0,Value.int IntKind.i64 0] 2 1 379 [(0,U)] K) λV h5=>
   Ap 379 #[Value.int IntKind.i64 0,Value.int IntKind.i64 0] 2 16 q V h5 λX h6=>
   E X H h6) (
   R q K):=λp h' c=>by
  refine z5.by (λ(_:Unit) u v h'=>u=jY p/\v=.int .i64 0/\Cx (λ_=>False) h h' [kz IL (jY p) [((0:Int),(4:Int))]]) (λ_=>0) () ⟨rfl,rfl,c⟩ ?_;rintro _ _ _ K ⟨rfl,rfl,c⟩ again _;refine En.vb (v:=.bool false) rfl ?_;refine j7 ?_;exact Z p _ c
 dsimp only[zG,lZ];have c:=Cx.jQ h;refine z5.by (λ(i:Nat) u v h'=>(i=0/\v=.int .i64 0/\Cx (λ_=>False) h h' [kz IL u []])\/(i=1/\v=.int .i64 4/\Cx (λ_=>False) h h' [kz IL u [((0:Int),(4:Int))]])) (λi=>1 - i) 0 (.inl ⟨rfl,rfl,c.nil IL⟩) ?_;rintro i u v h1 hh again G;rcases hh with ⟨rfl,rfl,c⟩| ⟨rfl,rfl,c⟩
 rotate_left
 ·refine vx (v:=.bool false) rfl<|j7 ?_;obtain⟨p,rfl⟩:=(c.sl (i:=0) rfl).tW;exact J p _ c
 refine vx (v:=.bool true) rfl ?_;replace c:=c.n1;refine kV<|vx (v:=.int .i64 0) rfl<|vx (v:=.int .i64 1) rfl<|vx (v:=.int .i64 32) rfl<|vx (v:=.int .i64 4) rfl<|vx (jU (ds:=[_,_]) rfl)<|c.lW IL ((0:Int),(4:Int)) rfl rfl λaS _ c=>have c:=c.n2;c.ap 0 rfl (c.sl (i:=1) rfl).sl rfl rfl (by decide) (by decide) λaT _ c=>have c:=c.n2;G 1 _ _ _ (.inr ⟨rfl,rfl,c.pick [0]⟩) (by decide)
def Rh (Z:Zs h) (q:∀p r h',Cx (λ_=>False) h h' [kz IL (jY p) [((0:Int),(4:Int))],rV r (Di p 0 0 false (oI 240 r))]->R (.tuple #[.iface 362 (.agg ⟨Di p 0 0 false (oI 240 r)⟩),.int .i64 0]) h'):S.C 224 [vL,(.int .i64 0)] h R:=by
 refine HN.2<|have c:=Cx.jQ h;c.v3 λ_ _ c=>?_;refine c.rl 0 ?_;refine Hi (Z.gr c.gr) ⟨by decide,by decide⟩ λ_ g=>have c:=c.more g;vx (v:=.bool false) rfl<|j7 ?_;refine .here<|c.rl 0 ?_;refine jS<|c.rc 0 ?_;refine⟨?_,?_⟩
 ·refine HB λp _ d=>have c:=c.jT d;have c:=c.n2;c.al 0<|vx (jU (ds:=[_,_,_,_,_,_,_,_]) rfl)<|c.v8 λ_ _ c=>?_;refine c.al 0<|c.w8 2 λ_ c=>?_;refine vx rfl<|jS<|c.q8 2 λ_ c=>?_;refine c.rl 2 ?_;exact vx rfl<|q p _ _ (c.pick [1,2])
 ·refine c.v8 λ_ _ c=>?_;refine c.ac 0<|c.al 0<|HB λp _ d=>have c:=c.jT d;have c:=c.n3;c.al 0<|vx (jU (ds:=[_,_,_,_,_,_,_,_]) rfl)<|c.w8 1 λ_ c=>?_;refine vx rfl<|jS<|c.q8 1 λ_ c=>?_;refine c.rl 1 ?_;exact vx rfl<|q p _ _ (c.pick [2,1])
def PU (q:B.p h) (G:On B Zs) {r:Nat} (H:n.oneCell'=true) (E:On B λh=>Sl IL h (jY p) [((0:Int),(4:Int))]) (J:Fr B r (Di p b 0 false n))
  (K:Dp 362 B1 h B (λB W v=>Jg B W v .look) ⟨5,mG,W0,W0⟩ false R):S.C 240 [(mU g),(kC r)] h R:=by
 refine EZ.2<|have c:=Cx.jQ h;c.v4 λ_ _ c=>?_;refine c.v8 λ_ _ c=>?_;refine vx (J.ld (B.up q c.gr) rfl)<|Jh (p:=p) (b:=b) (n:=n) (G _ (B.up q c.gr)) (.inl rfl) H (E _ (B.up q c.gr)) (λ_ u _ d=>?_) λx=>by cases x
 have c:=c.jT d;replace c:=c.n3;refine c.t8 1 λ_ c=>?_;exact K _ (jR []) [rV u (Di p b 0 false (oI 264 u))] _ (Cx.pack (L:=[jR []]) ((c.pick [2]).BO.perm (jF ..))) ⟨rfl,p,b,u,_,_,rfl,rfl,E.le (Bs.jX _ _),Fr.of (i:=0) rfl⟩
def O6 (q:B.p h) (u:On B Zs) {r:Nat} (E:n.oneCell'=true) (G:On B λh=>Sl IL h (jY p) [((0:Int),(4:Int))]) (H:Fr B r (Di p b 0 false n))
  (J:Dp 362 B1 h B (λB W v=>Jg B W v (kX g.w 4 0).1) (kX g.w 4 0).2.1 (kX g.w 4 0).2.2 R):sW.1 (mU g) (kC r) h R:=by
 obtain⟨⟨K,O,gr⟩,Q⟩:=g;have c:=Cx.jQ h;refine c.v4 λ_ _ c=>c.v8 λ_ _ c=>?_;refine vx (H.ld (B.up q c.gr) rfl)<|jS<|vx (c.vp (i:=0) (ds:=[_,_,_]) rfl rfl rfl)<|Ha (p:=p) (b:=b) (n:=n) (w:=⟨K,O,gr⟩) (B.up q c.gr) u E G λv W M _ d ok=>have c:=c.jT d;have c:=c.n4;c.t8 1 λ_ c=>?_;exact J v W M _ (c.pick [2,3]) ok
def LG (G:∀h',Ch F h h'->B.p h') (H:On B Zs) {r i:Nat} (hi:i<4) (J:On B λh=>Sl IL h (jY p) [((0:Int),(4:Int))]) (c:Cx F h h [rV r (Di p i 0 false (oI 276 r))])
  (q:Dp 362 F h B (λB W v=>Jg B W v (mC (.swap i w) g).1) (mC (.swap i w) g).2.1 (mC (.swap i w) g).2.2 R):sg.1 (mU g) (kC r) h R:=by
 obtain⟨⟨u,E,gr⟩,K⟩:=g;cases K with
 | true=>
  have e:mC (.swap i w) ⟨⟨u,E,gr⟩,true⟩=(.done i,o8,true):=by unfold mC;exact if_pos rfl
  rw[e] at q;replace c:Cx _ _ _ [_]:=c;refine c.v4 λ_ _ c=>c.v8 λ_ _ c=>?_;refine jS<|c.rc 1 ?_;refine kV<|jS<|c.q8 0 λ_ c=>?_;refine c.rl 0 ?_;refine vx rfl<|vx (jU (ds:=[_,_,_,_,_,_,_,_]) rfl)<|c.w8 2 λ_ c=>?_;refine c.rl 2 ?_;exact q _ (jR []) [] _ (Cx.BO (L:=[jR []]) (Cx.BO (L:=[]) (c.pick []))) ⟨hi,rfl,p,_,rfl,rfl⟩
 | false=>
  have e:mC (.swap i w) ⟨⟨u,E,gr⟩,false⟩=kX ⟨u,E,gr⟩ 4 0:=by unfold mC;exact if_neg gE
  rw[e] at q;replace c:Cx _ _ _ [_]:=c;refine c.v4 λ_ _ c=>c.v8 λ_ _ c=>?_;refine jS<|c.rc 1 ?_;refine j7<|c.rl 0 ?_;refine jS<|vx (c.vp (i:=1) (ds:=[_,_,_]) rfl rfl rfl)<|Ha (p:=p) (b:=i) (n:=oI 276 r) (w:=⟨u,E,gr⟩) (G _ c.gr) H rfl J λv W M _ d ok=>have c:=c.jT d;have c:=c.n5;c.t8 2 λ_ c=>?_;exact q v W M _ (c.pick [3,4]) ok
def K6.live:LP->Prop
 | .look=>True
 | .swap _ _=>True
 | _=>False
def G0 {F:Fp}:Cx F h h [jR []]:=(Cx.BO (L:=[]) ⟨[],.nil,.refl _ _,λG q=>by cases q⟩)
def Qp (q:∀h',Ch F h h'->B.p h') (G:On B Zs) {k:LP} {W:km} {v:Value} (hv:Jg B W v k) (H:K6.live k) (c:Cx F h h [W])
  (J:Dp 362 F h B (λB W v=>Jg B W v (mC k g).1) (mC k g).2.1 (mC k g).2.2 R):oU.1 v (mU g) h R:=by
 obtain⟨⟨K,O,gr⟩,Q⟩:=g;cases k with
 | done i=>exact H.elim
 | full=>exact H.elim
 | look=>
  obtain⟨rfl,p,b,r,n,X,rfl,rfl,u,T⟩:=hv;have U:n.oneCell'=true:=by
   obtain⟨_,⟨ho,_⟩,_⟩:=T _ (q h (.refl _ _));exact tA ho n (by simp)
  replace c:Cx _ _ _ [_]:=c;refine c.v8 λ_ _ c=>c.v4 λ_ _ c=>c.v8 λ_ _ c=>?_;refine jS<|c.rc 1 ?_;refine j7<|jS<|c.rc 1 ?_;refine c.rl 2 ?_;refine .inl (.inl ⟨264,#[],#[kC r],rfl,sW.2 (O6 (g:=⟨⟨K,O,gr⟩,Q⟩) (p:=p) (b:=b) (n:=n) (q _ c.gr) G U u T λv W M _ d ok=>?_)⟩);have c:=c.jT d;replace c:=c.n6;refine c.t8 3 λ_ c=>?_;exact J v W M _ (c.pick [4,5]) ok
 | swap i w=>
  obtain⟨hi,p,r,rfl,rfl,u⟩:=hv;replace c:Cx _ _ _ [_]:=c;refine c.v8 λ_ _ c=>c.v4 λ_ _ c=>c.v8 λ_ _ c=>?_;refine jS<|c.rc 1 ?_;refine j7<|jS<|c.rc 1 ?_;refine c.rl 2 ?_;refine .inl (.inl ⟨276,#[],#[kC r],rfl,sg.2 ?_⟩);obtain⟨F',c',V,up⟩:=c.sB (i:=0) rfl;refine LG (g:=⟨⟨K,O,gr⟩,Q⟩) (B:=B) (F:=F') (w:=w) (λE ch=>q E (V _ ch)) G hi u c' λv W M _ d ok=>have c:=up d;have c:=c.n5;c.t8 3 λ_ c=>?_;exact J v W M _ (c.pick [0,4]) ok
end
abbrev DS (b e:Int) (d:Bool) (n:Value):List Value:=[.int .i64 3,.int .i64 6,.int .i64 4,.int .i64 b,.int .i64 e,.bool d,n]
def P9 (B:Bs) (W:km) (v:Value) (b:Nat):S4->Prop
 | .look=>W=jR []/\∃r n,v=.agg ⟨DS b 0 false (oI 290 r)⟩/\Fr B r (DS b 0 false n)
 | .swap _=>∃r,v=.agg ⟨DS b 0 false (oI 295 r)⟩/\W=rV r (DS b 0 false (oI 295 r))
 | .done bad=>W=jR []/\∃n,v=.agg ⟨DS b (if bad then 13 else 0) true n⟩/\n.oneCell'=true
def P9.le (l:B.le B') {W:km} {v:Value} {b:Nat}:∀{k:S4},P9 B W v b k->P9 B' W v b k
 | .look,⟨a,r,n,c,d⟩=>⟨a,r,n,c,d.le l⟩
 | .swap _,x=>x
 | .done _,x=>x
section
variable {p:SH} {b:Nat} {n:Value} {w:W3} {g:lA}
def GM (J:B.p h) (K:On B Zs) (M:b<4) (O:n.oneCell'=true)
  (G:Dp 383 B1 h B (λB W v=>P9 B W v b (lO b w).1) (lO b w).2.1 (lO b w).2.2 R):S.C 291 [(.agg ⟨DS b 0 false n⟩),(mW w)] h R:=by
 refine Av.2 ?_;obtain⟨u,E,wr⟩:=w;by_cases e:sM u (2 ^ b)=0
 ·have H:lO b ⟨u,E,wr⟩=(.done true,o8,true):=by unfold lO;exact if_pos e
  rw[H] at G;have c:=Cx.jQ h;refine c.v7 λ_ _ c=>c.v3 λ_ _ c=>c.v8 λ_ _ c=>?_;refine jS<|vx (c.vp (i:=0) (ds:=[_,_,_]) rfl rfl rfl)<|jS<|c.rc 0 ?_;refine qE (i:=b) M _ _ (K _ (B.up J c.gr)) λ_ g=>have c:=c.more g;vx rfl<|vx rfl<|jS<|c.rc 1 ?_;refine vx (WY _ _)<|vx (pN e)<|kV<|jS<|c.q7 0 λ_ c=>?_;refine jS<|c.q7 0 λ_ c=>?_;refine c.rl 0 ?_;refine vx rfl<|vx (jU (ds:=[_,_,_,_,_,_,_,_]) rfl)<|c.w8 2 λ_ c=>?_;refine c.rl 2 ?_;exact G _ (jR []) [] _ (Cx.BO (L:=[jR []]) (Cx.BO (L:=[]) (c.pick []))) ⟨rfl,n,rfl,O⟩
 ·have H:lO b ⟨u,E,wr⟩=(.swap ⟨u,E,wr⟩,⟨6,mG,⟨u,E,wr⟩,⟨Ns u (2 ^ b),E,wr⟩⟩,false):=by unfold lO;exact if_neg e
  rw[H] at G;have c:=Cx.jQ h;refine c.v7 λq _ c=>c.v3 λ_ _ c=>c.v8 λ_ _ c=>?_;refine jS<|vx (c.vp (i:=0) (ds:=[_,_,_]) rfl rfl rfl)<|jS<|c.rc 0 ?_;refine qE (i:=b) M _ _ (K _ (B.up J c.gr)) λ_ g=>have c:=c.more g;vx rfl<|vx rfl<|jS<|c.rc 1 ?_;refine vx (WY _ _)<|vx (m6 e)<|j7<|vx rfl<|jS<|c.q7 0 λ_ c=>?_;refine c.rl 0 ?_;refine vx rfl<|c.rl 1 ?_;refine jS<|c.rc 1 ?_;refine vx (anB _ _)<|jS<|c.rc 1 ?_;refine jS<|c.rc 1 ?_;refine vx (jU (ds:=[_,_,_]) rfl)<|vx (jU (ds:=[_,_,_,_,_,_,_,_]) rfl)<|c.w8 2 λ_ c=>?_;refine c.rl 2 ?_;exact G _ (rV q (DS b 0 false (oI 295 q))) [] _ ((c.pick [0]).BO) ⟨q,rfl,rfl⟩
def QT (Z:Zs h) (u:b<4) (E:∀r q h',Cx (λ_=>False) h h' [rV r (DS b 0 false (.func (.func 289) #[] #[kC r,kC q])),rV q [.int .i64 mG]]->R (.tuple #[.iface 383 (.agg ⟨DS b 0 false (.func (.func 289) #[] #[kC r,kC q])⟩),.int .i64 0]) h'):S.C 277 [vL,(.int .i64 b)] h R:=by
 refine HZ.2<|have c:=Cx.jQ h;c.v3 λ_ _ c=>?_;refine c.rl 0 ?_;refine Hi (b:=b) (Z.gr c.gr) ⟨by omega,by omega⟩ λ_ g=>have c:=c.more g;vx (v:=.bool false) rfl<|j7<|c.rl 0 ?_;refine vx (jU (ds:=[_,_,_,_,_,_,_]) rfl)<|c.v7 λ_ _ c=>?_;refine c.w7 1 λ_ c=>?_;refine c.rl 0 ?_;refine qE (i:=b) u _ _ (Z.gr c.gr) λ_ g=>have c:=c.more g;vx rfl<|vx rfl<|c.v1 λ_ _ c=>?_;refine c.w1 2 λ_ c=>?_;refine vx rfl<|jS<|c.q7 1 λ_ c=>?_;refine c.rl 1 ?_;exact vx rfl<|E _ _ _ (c.pick [1,2])
def O0 {r q:Nat} (c:Cx F h h [jR [rV r (DS b 0 false n),rV q [.int .i64 mG]]]) (E:n.oneCell'=true)
  (u:∀r M h',Cx F h h' [jR M]->Fr (B.and M) r (DS b 0 false (oI 290 r))->R (.tuple #[.iface 383 (.agg ⟨DS b 0 false (oI 290 r)⟩),qZ ⟨5,mG,W0,W0⟩,.bool false]) h'):xU.1 (mU g) (kC r) (kC q) h R:=by
 obtain⟨⟨G,H,gr⟩,J⟩:=g;have c:=Cx.unpack (L:=[]) c;replace c:Cx _ _ _ [_,_]:=c;refine c.v4 λ_ _ c=>c.v8 λ_ _ c=>?_;refine vx rfl<|jS<|c.q7 0 λ_ c=>?_;refine c.rl 0 ?_;refine vx rfl<|c.rc 1 ?_;refine vx (jU (ds:=[_,_,_,_,_,_,_,_]) rfl)<|c.w8 3 λ_ c=>?_;refine c.rl 3 ?_;exact u r [rV r (DS b 0 false (oI 290 r))] _ (Cx.pack (L:=[]) (c.pick [0])) (Fr.of (i:=0) rfl)
def LC (q:B.p h) (u:On B Zs) (E:b<4) {r:Nat} (G:n.oneCell'=true) (H:Fr B r (DS b 0 false n))
  (J:Dp 383 B1 h B (λB W v=>P9 B W v b (lO b g.w).1) (lO b g.w).2.1 (lO b g.w).2.2 R):vN.1 (mU g) (kC r) h R:=by
 obtain⟨⟨K,O,gr⟩,Q⟩:=g;have c:=Cx.jQ h;refine c.v4 λ_ _ c=>c.v8 λ_ _ c=>?_;refine vx (H.ld (B.up q c.gr) rfl)<|jS<|vx (c.vp (i:=0) (ds:=[_,_,_]) rfl rfl rfl)<|GM (n:=n) (w:=⟨K,O,gr⟩) (B.up q c.gr) u E G λv W M _ d ok=>have c:=c.jT d;have c:=c.n4;c.t8 1 λ_ c=>?_;exact J v W M _ (c.pick [2,3]) ok
def MQ (G:∀h',Ch F h h'->B.p h') (H:On B Zs) (J:b<4) {r:Nat} (c:Cx F h h [rV r (DS b 0 false (oI 295 r))])
  (q:Dp 383 F h B (λB W v=>P9 B W v b (m3 b (.swap w) g).1) (m3 b (.swap w) g).2.1 (m3 b (.swap w) g).2.2 R):sH.1 (mU g) (kC r) h R:=by
 obtain⟨⟨u,E,gr⟩,K⟩:=g;cases K with
 | true=>
  have e:m3 b (.swap w) ⟨⟨u,E,gr⟩,true⟩=(.done false,o8,true):=by unfold m3;exact if_pos rfl
  rw[e] at q;replace c:Cx _ _ _ [_]:=c;refine c.v4 λ_ _ c=>c.v8 λ_ _ c=>?_;refine jS<|c.rc 1 ?_;refine kV<|jS<|c.q7 0 λ_ c=>?_;refine c.rl 0 ?_;refine vx rfl<|vx (jU (ds:=[_,_,_,_,_,_,_,_]) rfl)<|c.w8 2 λ_ c=>?_;refine c.rl 2 ?_;exact q _ (jR []) [] _ (Cx.BO (L:=[jR []]) (Cx.BO (L:=[]) (c.pick []))) ⟨rfl,_,rfl,rfl⟩
 | false=>
  have e:m3 b (.swap w) ⟨⟨u,E,gr⟩,false⟩=lO b ⟨u,E,gr⟩:=by unfold m3;exact if_neg gE
  rw[e] at q;replace c:Cx _ _ _ [_]:=c;refine c.v4 λ_ _ c=>c.v8 λ_ _ c=>?_;refine jS<|c.rc 1 ?_;refine j7<|c.rl 0 ?_;refine jS<|vx (c.vp (i:=1) (ds:=[_,_,_]) rfl rfl rfl)<|GM (n:=oI 295 r) (w:=⟨u,E,gr⟩) (G _ c.gr) H J rfl λv W M _ d ok=>have c:=c.jT d;have c:=c.n5;c.t8 2 λ_ c=>?_;exact q v W M _ (c.pick [3,4]) ok
def P8.live:S4->Prop
 | .done _=>False
 | _=>True
def Sj (q:∀h',Ch F h h'->B.p h') (E:On B Zs) (G:b<4) {k:S4} {W:km} {v:Value} (hv:P9 B W v b k) (T:P8.live k) (c:Cx F h h [W])
  (H:Dp 383 F h B (λB W v=>P9 B W v b (m3 b k g).1) (m3 b k g).2.1 (m3 b k g).2.2 R):oT.1 v (mU g) h R:=by
 obtain⟨⟨J,K,gr⟩,O⟩:=g;cases k with
 | done i=>exact T.elim
 | look=>
  obtain⟨rfl,r,n,rfl,Q⟩:=hv;have U:n.oneCell'=true:=by
   obtain⟨_,⟨ho,_⟩,_⟩:=Q _ (q h (.refl _ _));exact tA ho n (by simp)
  replace c:Cx _ _ _ [_]:=c;refine c.v7 λ_ _ c=>c.v4 λ_ _ c=>c.v8 λ_ _ c=>?_;refine jS<|c.rc 1 ?_;refine j7<|jS<|c.rc 1 ?_;refine c.rl 2 ?_;refine .inl (.inl ⟨290,#[],#[kC r],rfl,vN.2 (LC (g:=⟨⟨J,K,gr⟩,O⟩) (n:=n) (q _ c.gr) E G U Q λv W M _ d ok=>?_)⟩);have c:=c.jT d;replace c:=c.n6;refine c.t8 3 λ_ c=>?_;exact H v W M _ (c.pick [4,5]) ok
 | swap w=>
  obtain⟨r,rfl,rfl⟩:=hv;replace c:Cx _ _ _ [_]:=c;refine c.v7 λ_ _ c=>c.v4 λ_ _ c=>c.v8 λ_ _ c=>?_;refine jS<|c.rc 1 ?_;refine j7<|jS<|c.rc 1 ?_;refine c.rl 2 ?_;refine .inl (.inl ⟨295,#[],#[kC r],rfl,sH.2 ?_⟩);obtain⟨F',c',V,up⟩:=c.sB (i:=0) rfl;refine MQ (g:=⟨⟨J,K,gr⟩,O⟩) (B:=B) (F:=F') (w:=w) (λu ch=>q u (V _ ch)) E G c' λv W M _ d ok=>have c:=up d;have c:=c.n5;c.t8 3 λ_ c=>?_;exact H v W M _ (c.pick [0,4]) ok
def PA {r q:Nat} (c:Cx F h h [jR [rV r (DS b 0 false (.func (.func 289) #[] #[kC r,kC q])),rV q [.int .i64 mG]]])
  (u:∀r M h',Cx F h h' [jR M]->Fr (B.and M) r (DS b 0 false (oI 290 r))->R (.tuple #[.iface 383 (.agg ⟨DS b 0 false (oI 290 r)⟩),qZ ⟨5,mG,W0,W0⟩,.bool false]) h'):oT.1 (.agg ⟨DS b 0 false (.func (.func 289) #[] #[kC r,kC q])⟩) (mU g) h R:=by
 obtain⟨⟨E,G,gr⟩,H⟩:=g;replace c:Cx _ _ _ [_]:=c;refine c.v7 λ_ _ c=>c.v4 λ_ _ c=>c.v8 λ_ _ c=>?_;refine jS<|c.rc 1 ?_;refine j7<|jS<|c.rc 1 ?_;refine c.rl 2 ?_;refine .inl (.inl ⟨289,#[],#[kC r,kC q],rfl,xU.2 ?_⟩);obtain⟨F',c',J,up⟩:=c.sB (i:=0) rfl;refine O0 (B:=B) (g:=⟨⟨E,G,gr⟩,H⟩) c' rfl λr M _ d ok=>?_;have c:=up (A':=jR M) (M:=[]) d;replace c:Cx _ _ _ [_,_,_,_]:=c;replace c:=c.n4;refine c.t8 3 λ_ c=>?_;exact u r M _ (c.pick [0]) ok
def PG {W:km} {v:Value} {k:LP} (hv:Jg B W v k) (q:¬K6.live k) (E:¬383=362) (u:∀h',Gr h h'->R (match k with | .done i=>.tuple #[.int .i64 i,.int .i64 0,.bool true] | _=>.tuple #[.int .i64 0,.int .i64 9,.bool true]) h'):rR.1 (.iface 362 v) h R:=by
 cases k with
 | look=>exact absurd trivial q
 | swap i w=>exact absurd trivial q
 | done i=>
  obtain⟨hi,rfl,p,n,rfl,G⟩:=hv;dsimp only[rR,oH];have c:=Cx.jQ h;refine .here<|vx (v:=.tuple #[.agg ⟨Di p i 0 true n⟩,.bool true]) (by simp[FV])<|vx (v:=.bool true) (rfl)<|vx rfl<|kV<|c.v8 λ_ _ c=>?_;refine c.w8 0 λ_ c=>?_;refine jS<|c.rc 0 ?_;refine vx (v:=.bool false) (rfl)<|j7<|jS<|c.rc 0 ?_;refine vx (v:=.bool false) rfl<|j7<|jS<|c.rc 0 ?_;exact u _ c.gr
 | full=>
  obtain⟨rfl,p,b,n,rfl,G⟩:=hv;dsimp only[rR,oH];have c:=Cx.jQ h;refine .here<|vx (v:=.tuple #[.agg ⟨Di p b 9 true n⟩,.bool true]) (by simp[FV])<|vx (v:=.bool true) (rfl)<|vx rfl<|kV<|c.v8 λ_ _ c=>?_;refine c.w8 0 λ_ c=>?_;refine jS<|c.rc 0 ?_;refine vx (v:=.bool false) (rfl)<|j7<|jS<|c.rc 0 ?_;refine vx (v:=.bool true) rfl<|kV<|jS<|c.rc 0 ?_;exact u _ c.gr
end
structure Bc where
 du:Bool
 e:SH
 who:Int
 seq:Int
 at':Int
 i:Nat
 mA:Value
 dn:Bool
 bad:Int
 th:Bool
 nx:Value
 bh:Value
abbrev bkC (x:Bc):List Value:=[.int .i64 3,.int .i64 6,.int .i64 4,.bool x.du,jY x.e,.int .i64 x.who,.int .i64 x.seq,.int .i64 x.at',.int .i64 x.i,x.mA,.bool x.dn,.int .i64 x.bad,.bool x.th,x.nx,x.bh]
abbrev uH (x:Bc):Value:=.agg ⟨bkC x⟩
structure Bo (x:Bc):Prop where
 mA:x.mA.oneCell'=true
 nx:x.nx.oneCell'=true
 bh:x.bh.oneCell'=true
section
variable {x:Bc} {n:Value} {a:Ac} {z:Int} {g:lA} {es:List Et}
def yW (o:Bo x) (G:n.oneCell'=true) (q:∀h',Gr h h'->R (.tuple #[uH {x with nx:=n},qZ a,.bool false]) h'):S.C 245 [(uH x),(qZ a),n] h R:=by
 refine zy.2 ?_;obtain⟨du,e,who,seq,kC,i,mA,dn,bad,th,nx,bh⟩:=x;obtain⟨hi,u,E⟩:=o;dsimp only at hi u E;have c:=Cx.jQ h;refine c.qW λ_ _ c=>c.v8 λ_ _ c=>c.qW λ_ _ c=>c.v8 λ_ _ c=>?_;refine jS<|c.I6 0 λ_ c=>?_;refine c.rl 0 ?_;refine c.rl 1 ?_;refine c.Zp 2 λ_ c=>?_;refine c.al 1<|c.w8 3 λ_ c=>?_;refine c.rl 2 ?_;refine c.rl 3 ?_;exact q _ c.gr
def R0 (o:Bo x) (q:∀h',Gr h h'->R (.tuple #[uH {x with th:=true,mA:=.nilIface},qZ o8,.bool true]) h'):S.C 244 [(uH x)] h R:=by
 refine zu.2 ?_;obtain⟨du,e,who,seq,kC,i,mA,dn,bad,th,nx,bh⟩:=x;obtain⟨hi,u,E⟩:=o;dsimp only at hi u E;have c:=Cx.jQ h;refine c.qW λ_ _ c=>c.qW λ_ _ c=>c.v8 λ_ _ c=>?_;refine jS<|c.I6 0 λ_ c=>?_;refine jS<|c.I6 0 λ_ c=>?_;refine c.rl 0 ?_;refine vx (jU (ds:=[_,_,_,_,_,_,_,_]) rfl)<|c.Zp 1 λ_ c=>?_;refine c.w8 2 λ_ c=>?_;refine c.rl 1 ?_;refine c.rl 2 ?_;exact q _ c.gr
def vG (o:Bo x) (he:Sl EE h (jY x.e) es) (G:es.length<=1000) (q:∀h',Gr h h'->R (.int .i64 (1+3*es.length)) h'):S.C 280 [(uH x)] h R:=by
 refine xe.2 ?_;obtain⟨du,e,who,seq,kC,i,mA,dn,bad,th,nx,bh⟩:=x;obtain⟨hi,u,E⟩:=o;dsimp only at hi u E he;have c:=Cx.jQ h;refine c.qW λ_ _ c=>?_;refine jS<|c.rc 0 ?_;exact vx (he.gr c.gr).ln<|vx (Gi (a:=3) (b:=es.length) ⟨by omega,by omega⟩)<|vx (oC (a:=1) (b:=3*es.length) ⟨by omega,by omega⟩)<|q _ c.gr
def Ve (es:List Et) (i:Nat):W3:=if i=0 then⟨es.length,0,0⟩ else
  let e:=es.getD ((i - 1) / 3) K5;if (i - 1) % 3=0 then DJ e else if (i - 1) % 3=1 then DI e else Ee e
def Sa (o:Bo x) (he:Sl EE h (jY x.e) es) {i:Nat} (hi:i<1+3*es.length) (V:es.length<=1000) (H:∀h',Gr h h'->R (mW (Ve es i)) h'):S.C 281 [(uH x),(.int .i64 i)] h R:=by
 refine xH.2 ?_;obtain⟨du,e,who,seq,kC,i0,mA,dn,bad,th,nx,bh⟩:=x;obtain⟨M,T,U⟩:=o;dsimp only at M T U he;unfold Ve at H;by_cases O:i=0
 ·subst O;rw[if_pos rfl] at H;have c:=Cx.jQ h;refine c.qW λ_ _ c=>c.v3 λ_ _ c=>?_;refine vx (pN rfl)<|kV<|jS<|c.rc 0 ?_;refine vx (he.gr c.gr).ln<|vx (jU (ds:=[_,_,_]) rfl)<|c.w3 1 λ_ c=>?_;refine c.rl 1 ?_;exact H _ c.gr
 ·rw[if_neg O] at H;have Q:(i - 1) / 3<es.length:=by omega
  have J:es[(i - 1) / 3]?=some (es.getD ((i - 1) / 3) K5):=by rw[aI,aB Q];rfl
  generalize es.getD ((i - 1) / 3) K5=et at H J;obtain⟨q,⟨ev,eq,u⟩,E,eb⟩:=et;have K:(i - 1) % 3=0\/(i - 1) % 3=1\/(i - 1) % 3=2:=by omega
  have G:VR 3 3 (vP (DJ ⟨q,⟨ev,eq,u⟩,E,eb⟩) (DI ⟨q,⟨ev,eq,u⟩,E,eb⟩) (Ee ⟨q,⟨ev,eq,u⟩,E,eb⟩)) (.int .i64 (((i - 1) % 3:Nat):Int))=some (mW (if (i - 1) % 3=0 then DJ ⟨q,⟨ev,eq,u⟩,E,eb⟩ else if (i - 1) % 3=1 then DI ⟨q,⟨ev,eq,u⟩,E,eb⟩ else Ee ⟨q,⟨ev,eq,u⟩,E,eb⟩)):=by
   rcases K with K | K | K <;> rw[K] <;> kernel_rfl
  generalize (if (i - 1) % 3=0 then DJ ⟨q,⟨ev,eq,u⟩,E,eb⟩ else if (i - 1) % 3=1 then DI ⟨q,⟨ev,eq,u⟩,E,eb⟩ else Ee ⟨q,⟨ev,eq,u⟩,E,eb⟩)=wd at H G;obtain⟨X,Z,wr⟩:=wd;have c:=Cx.jQ h;refine c.qW λ_ _ c=>c.v3 λ_ _ c=>?_;refine vx (m6 (λh=>O (by omega)))<|j7<|jS<|c.rc 0 ?_;refine vx (nu ⟨by omega,by omega⟩)<|vx (FC ⟨by omega,by omega⟩ (by decide)) ?_;rw[show((i:Int) - 1) / 3=(((i - 1) / 3:Nat):Int) by omega];refine(he.gr c.gr).whole rfl J rfl ?_;refine Ir (e:=⟨q,⟨ev,eq,u⟩,E,eb⟩) λ_ g=>have c:=c.more g;vx (nu ⟨by omega,by omega⟩)<|vx (Ah (by omega) (by decide)) ?_;rw[show((i:Int) - 1) % 3=(((i - 1) % 3:Nat):Int) by omega];refine vx G<|c.w3 1 λ_ c=>?_;refine c.rl 1 ?_;exact H _ c.gr
def Hd (o:Bo x) (E:n.oneCell'=true) (q:0<=x.seq/\x.seq<4294967296) (G:∀h',Gr h h'->R (.tuple #[uH {x with bh:=n,nx:=qt 279},qZ ⟨4,x.at',W0,⟨z,x.seq,0⟩⟩,.bool false]) h'):S.C 267 [(uH x),(.int .i64 z),n] h R:=by
 refine wC.2 ?_;obtain⟨du,e,who,seq,kC,i,mA,dn,bad,th,nx,bh⟩:=x;obtain⟨hi,u,H⟩:=o;dsimp only at hi u H q;have c:=Cx.jQ h;refine c.qW λ_ _ c=>c.qW λ_ _ c=>c.v8 λ_ _ c=>?_;refine jS<|c.I6 0 λ_ c=>?_;refine c.rl 0 ?_;refine jS<|c.rc 0 ?_;refine jS<|c.rc 0 ?_;refine nV q λ_ g=>have c:=c.more g;c.ac 0<|c.al 0<|vx (jU (ds:=[_,_,_,_,_,_,_,_]) rfl)<|yW (x:=⟨du,e,who,seq,kC,i,mA,dn,bad,th,nx,n⟩) (a:=⟨4,kC,W0,⟨z,seq,0⟩⟩) ⟨hi,u,E⟩ rfl λ_ g=>have c:=c.more g;c.pL 1 2 λ_ c=>?_;exact G _ c.gr
def NX (o:Bo x) (q:0<=x.seq/\x.seq<4294967296) (u:∀h',Gr h h'->R (.tuple #[uH {x with bh:=qt 293,nx:=qt 279},qZ ⟨4,x.at',W0,⟨0,x.seq,0⟩⟩,.bool false]) h'):S.C 282 [(uH x),(mU g)] h R:=by
 refine xW.2 ?_;obtain⟨du,e,who,seq,kC,i,mA,dn,bad,th,nx,bh⟩:=x;have E:=o;obtain⟨hi,G,H⟩:=o;dsimp only at hi G H q;have c:=Cx.jQ h;refine c.qW λ_ _ c=>c.v4 λ_ _ c=>c.qW λ_ _ c=>c.v8 λ_ _ c=>?_;refine c.rl 0 ?_;refine Hd (x:=⟨du,e,who,seq,kC,i,mA,dn,bad,th,nx,bh⟩) E rfl q λ_ g=>have c:=c.more g;c.pL 2 3 λ_ c=>?_;exact u _ c.gr
def mxI {a b:Int}:mx (.int .i64 a) (.int .i64 b)=some (.int .i64 (max a b)):=by
 show some (Value.int .i64 (if b > a then b else a))=_;congr 2;omega
def NB (o:Bo x) (he:Sl EE h (jY x.e) es) (H:es.length<=1000) (M:0<=x.at'/\x.at'<=4096) (hi:x.i<=1000)
  (q:∀h',Gr h h'->R (if x.at'+(1+3*es.length)<x.at' / 8*8+x.i*8 then .tuple #[uH {x with nx:=qt 282},qZ ⟨8,0,W0,W0⟩,.bool false] else .tuple #[uH {x with i:=x.i+1,nx:=qt 283},qZ ⟨7,max (x.at' / 8*8+x.i*8) (x.at'+1),W0,W0⟩,.bool false]) h'):S.C 283 [(uH x),(mU g)] h R:=by
 refine yE.2 ?_;obtain⟨du,e,who,seq,kC,i,mA,dn,bad,th,nx,bh⟩:=x;have G:=o;obtain⟨u,J,K⟩:=o;dsimp only at u J K he M hi q;by_cases E:kC+(1+3*(es.length:Int))<kC / 8*8+i*8
 ·rw[if_pos E] at q;have c:=Cx.jQ h;refine c.qW λ_ _ c=>c.v4 λ_ _ c=>c.qW λ_ _ c=>c.v8 λ_ _ c=>?_;refine jS<|c.rc 0 ?_;refine vx (FC (a:=kC) ⟨by omega,by omega⟩ (by decide))<|vx (Gi (a:=kC / 8) (b:=8) ⟨by omega,by omega⟩)<|jS<|c.rc 0 ?_;refine vx (Gi (a:=i) (b:=8) ⟨by omega,by omega⟩)<|vx (oC (a:=kC / 8*8) (b:=(i:Int)*8) ⟨by omega,by omega⟩)<|jS<|c.rc 0 ?_;refine c.rl 0 ?_;refine vG (x:=⟨du,e,who,seq,kC,i,mA,dn,bad,th,nx,bh⟩) G (he.gr c.gr) H λ_ g=>have c:=c.more g;c.ac 0<|vx (oC (a:=kC) (b:=1+3*(es.length:Int)) ⟨by omega,by omega⟩)<|vx (FL E)<|kV<|c.rl 0 ?_;refine vx (jU (ds:=[_,_,_,_,_,_,_,_]) rfl)<|yW (x:=⟨du,e,who,seq,kC,i,mA,dn,bad,th,nx,bh⟩) (a:=⟨8,0,W0,W0⟩) G rfl λ_ g=>have c:=c.more g;c.pL 2 3 λ_ c=>?_;exact q _ c.gr
 ·rw[if_neg E] at q;have c:=Cx.jQ h;refine c.qW λ_ _ c=>c.v4 λ_ _ c=>c.qW λ_ _ c=>c.v8 λ_ _ c=>?_;refine jS<|c.rc 0 ?_;refine vx (FC (a:=kC) ⟨by omega,by omega⟩ (by decide))<|vx (Gi (a:=kC / 8) (b:=8) ⟨by omega,by omega⟩)<|jS<|c.rc 0 ?_;refine vx (Gi (a:=i) (b:=8) ⟨by omega,by omega⟩)<|vx (oC (a:=kC / 8*8) (b:=(i:Int)*8) ⟨by omega,by omega⟩)<|jS<|c.rc 0 ?_;refine c.rl 0 ?_;refine vG (x:=⟨du,e,who,seq,kC,i,mA,dn,bad,th,nx,bh⟩) G (he.gr c.gr) H λ_ g=>have c:=c.more g;c.ac 0<|vx (oC (a:=kC) (b:=1+3*(es.length:Int)) ⟨by omega,by omega⟩)<|vx (pW E)<|j7<|jS<|c.rc 0 ?_;refine vx (inc (n:=i) (by omega))<|jS<|c.I6 0 λ_ c=>?_;refine c.rl 0 ?_;refine jS<|c.rc 0 ?_;refine vx (oC (a:=kC) (b:=1) ⟨by omega,by omega⟩)<|vx mxI<|vx (jU (ds:=[_,_,_,_,_,_,_,_]) rfl)<|yW (x:=⟨du,e,who,seq,kC,i+1,mA,dn,bad,th,nx,bh⟩) (a:=⟨7,max (kC / 8*8+i*8) (kC+1),W0,W0⟩) ⟨u,J,K⟩ rfl λ_ g=>have c:=c.more g;c.pL 2 3 λ_ c=>?_;exact q _ c.gr
def RV (o:Bo x) (he:Sl EE h (jY x.e) es) (O:es.length<=300) (J:0<=x.at'/\x.at'<=4096) (hi:x.i<1+3*es.length)
  (u:∀h',Gr h h'->R (.tuple #[uH {x with i:=x.i+1,nx:=qt 268},qZ ⟨3,x.at'+1+x.i,W0,Ve es x.i⟩,.bool false]) h'):pf.1 (uH x) (mU g) h R:=by
 obtain⟨du,e,who,seq,kC,i,mA,dn,bad,th,nx,bh⟩:=x;have E:=o;obtain⟨q,G,H⟩:=o;dsimp only at q G H he J hi u;generalize hw:Ve es i=wd at u;obtain⟨K,M,wr⟩:=wd;have c:=Cx.jQ h;refine c.qW λ_ _ c=>c.v4 λ_ _ c=>c.qW λ_ _ c=>c.v8 λ_ _ c=>?_;refine jS<|c.rc 0 ?_;refine c.rl 0 ?_;refine vG (x:=⟨du,e,who,seq,kC,i,mA,dn,bad,th,nx,bh⟩) E (he.gr c.gr) (by omega) λ_ g=>have c:=c.more g;c.ac 0<|vx (vF (show(i:Int)<1+3*(es.length:Int) by omega))<|kV<|jS<|c.rc 0 ?_;refine vx (oC (a:=kC) (b:=1) ⟨by omega,by omega⟩)<|jS<|c.rc 0 ?_;refine vx (oC (a:=kC+1) (b:=i) ⟨by omega,by omega⟩)<|c.rl 0 ?_;refine vx rfl<|jS<|c.rc 0 ?_;refine .inl (.inl ⟨281,#[_],#[],rfl,?_⟩);refine Sa (x:=⟨du,e,who,seq,kC,i,mA,dn,bad,th,nx,bh⟩) (i:=i) E (he.gr c.gr) hi (by omega) λ_ g=>?_;have c:=c.more g;rw[hw];refine c.v3 λ_ _ c=>?_;refine c.w3 4 λ_ c=>?_;refine jS<|c.rc 0 ?_;refine vx (inc (n:=i) (by omega))<|jS<|c.I6 0 λ_ c=>?_;refine c.rl 0 ?_;refine c.rl 4 ?_;refine vx (jU (ds:=[_,_,_,_,_,_,_,_]) rfl)<|yW (x:=⟨du,e,who,seq,kC,i+1,mA,dn,bad,th,nx,bh⟩) (a:=⟨3,kC+1+i,W0,⟨K,M,wr⟩⟩) ⟨q,G,H⟩ rfl λ_ g=>have c:=c.more g;c.pL 2 3 λ_ c=>?_;exact u _ c.gr
def QP (o:Bo x) (he:Sl EE h (jY x.e) es) (O:es.length<=300) (H:0<=x.at'/\x.at'<=4096) (hi:¬x.i<1+3*es.length) (J:0<=x.seq/\x.seq<4294967296)
  (u:∀h',Gr h h'->R (if x.du=true then(if x.at'+(1+3*es.length)<x.at' / 8*8+((0:Nat):Int)*8 then .tuple #[uH {x with i:=0,nx:=qt 282},qZ ⟨8,0,W0,W0⟩,.bool false] else .tuple #[uH {x with i:=0+1,nx:=qt 283},qZ ⟨7,max (x.at' / 8*8+((0:Nat):Int)*8) (x.at'+1),W0,W0⟩,.bool false])
   else .tuple #[uH {x with bh:=qt 293,nx:=qt 279},qZ ⟨4,x.at',W0,⟨0,x.seq,0⟩⟩,.bool false]) h'):pf.1 (uH x) (mU g) h R:=by
 obtain⟨du,e,who,seq,kC,i,mA,dn,bad,th,nx,bh⟩:=x;have G:=o;obtain⟨E,K,M⟩:=o;dsimp only at E K M he H hi u J;cases du with
 | false=>
  rw[if_neg gE] at u;have c:=Cx.jQ h;refine c.qW λ_ _ c=>c.v4 λ_ _ c=>c.qW λ_ _ c=>c.v8 λ_ _ c=>?_;refine jS<|c.rc 0 ?_;refine c.rl 0 ?_;refine vG (x:=⟨false,e,who,seq,kC,i,mA,dn,bad,th,nx,bh⟩) G (he.gr c.gr) (by omega) λ_ g=>have c:=c.more g;c.ac 0<|vx (lL (show ¬(i:Int)<1+3*(es.length:Int) by omega))<|j7<|jS<|c.rc 0 ?_;refine vx (v:=.bool true) (rfl)<|kV<|c.rl 0 ?_;refine vx (jU (ds:=[_,_,_,_]) rfl)<|NX (x:=⟨false,e,who,seq,kC,i,mA,dn,bad,th,nx,bh⟩) (g:=qa) G J λ_ g=>have c:=c.more g;c.pL 2 3 λ_ c=>?_;exact u _ c.gr
 | true=>
  rw[if_pos rfl] at u;have q:¬kC+(1+3*(es.length:Int))<kC / 8*8+((0:Nat):Int)*8:=by omega
  rw[if_neg q] at u;have c:=Cx.jQ h;refine c.qW λ_ _ c=>c.v4 λ_ _ c=>c.qW λ_ _ c=>c.v8 λ_ _ c=>?_;refine jS<|c.rc 0 ?_;refine c.rl 0 ?_;refine vG (x:=⟨true,e,who,seq,kC,i,mA,dn,bad,th,nx,bh⟩) G (he.gr c.gr) (by omega) λ_ g=>have c:=c.more g;c.ac 0<|vx (lL (show ¬(i:Int)<1+3*(es.length:Int) by omega))<|j7<|jS<|c.rc 0 ?_;refine vx (v:=.bool false) (rfl)<|j7<|jS<|c.I6 0 λ_ c=>?_;refine c.rl 0 ?_;refine vx (jU (ds:=[_,_,_,_]) rfl)<|NB (x:=⟨true,e,who,seq,kC,0,mA,dn,bad,th,nx,bh⟩) (g:=qa) ⟨E,K,M⟩ (he.gr c.gr) (by omega) H (aO _) λ_ g=>?_;have c:=c.more g;dsimp only;rw[if_neg q];refine c.pL 2 3 λ_ c=>?_;exact u _ c.gr
end
def Wn (op:Bool):Value:=if op then qt 293 else qt 268
structure Wa (B:Bs) (s:Bk) (x:Bc):Prop where
 o:Bo x
 du:x.du=s.kY
 e:On B λh=>Sl EE h (jY x.e) s.es
 dn:x.dn=s.done
 bad:x.bad=s.bad
 th:x.th=false
structure Xp (B:Bs) (s:Bk) (x:Bc):Prop extends Wa B s x where
 who:x.who=s.who
 at':x.at'=s.at'
structure MT (B:Bs) (s:Bk) (x:Bc):Prop extends Xp B s x where
 seq:x.seq=s.seq
 i:x.i=s.i
def S1 (B:Bs) (W:km) (s:Bk) (x:Bc):BP->Prop
 | .take k=>Wa B s x/\x.i=s.i/\x.nx=qt 242/\x.bh=qt 226/\∃v,x.mA=.iface 362 v/\Jg B W v k
 | .looked=>Xp B s x/\x.i=s.i/\W=jR []/\x.nx=qt 246
 | .rel op=>MT B s x/\W=jR []/\x.nx=qt 279/\x.bh=Wn op
 | .zw op=>MT B s x/\W=jR []/\x.nx=qt 292/\x.bh=Wn op
 | .sS op=>MT B s x/\W=jR []/\x.nx=Wn op
 | .fill=>MT B s x/\W=jR []/\x.nx=qt 268
 | .lQ=>MT B s x/\W=jR []/\x.nx=qt 283
 | .zq=>MT B s x/\W=jR []/\x.nx=qt 282
 | .mQ hs=>MT B s x/\W=jR []/\x.nx=qt 242/\x.bh=qt 296/\∃v,x.mA=.iface 376 v/\B6 B hs v
 | .pR b k=>Wa B s x/\x.nx=qt 242/\x.bh=qt 278/\∃v,x.mA=.iface 383 v/\P9 B W v b k
 | .over=>W=jR []/\x.th=true/\x.dn=s.done/\x.bad=s.bad/\Bo x
def VW (B:Bs) (W:km) (v:Value) (s:Bk):Prop:=∃x,v=uH x/\S1 B W s x s.ph
def Wa.le {s:Bk} {x:Bc} (l:B.le B') (H:Wa B s x):Wa B' s x:=⟨H.o,H.du,H.e.le l,H.dn,H.bad,H.th⟩
def Xp.le {s:Bk} {x:Bc} (l:B.le B') (H:Xp B s x):Xp B' s x:=⟨H.toWa.le l,H.who,H.at'⟩
def MT.le {s:Bk} {x:Bc} (l:B.le B') (H:MT B s x):MT B' s x:=⟨H.toXp.le l,H.seq,H.i⟩
def S1.le {W:km} {x:Bc} {s:Bk} (l:B.le B'):∀{p:BP},S1 B W s x p->S1 B' W s x p
 | .take _,⟨a,b,c,d,v,e,f⟩=>⟨a.le l,b,c,d,v,e,f.le l⟩
 | .looked,H=>⟨H.1.le l,H.2⟩
 | .rel _,H=>⟨H.1.le l,H.2⟩
 | .zw _,H=>⟨H.1.le l,H.2⟩
 | .sS _,H=>⟨H.1.le l,H.2⟩
 | .fill,H=>⟨H.1.le l,H.2⟩
 | .lQ,H=>⟨H.1.le l,H.2⟩
 | .zq,H=>⟨H.1.le l,H.2⟩
 | .mQ _,⟨a,b,c,d,v,e,f⟩=>⟨a.le l,b,c,d,v,e,B6.le l f⟩
 | .pR _ _,⟨a,c,d,v,e,f⟩=>⟨a.le l,c,d,v,e,f.le l⟩
 | .over,H=>H
def S1.o {W:km} {x:Bc} {s:Bk}:∀{p:BP},S1 B W s x p->Bo x
 | .take _,H=>H.1.o
 | .looked,H=>H.1.o
 | .rel _,H=>H.1.o
 | .zw _,H=>H.1.o
 | .sS _,H=>H.1.o
 | .fill,H=>H.1.o
 | .lQ,H=>H.1.o
 | .zq,H=>H.1.o
 | .mQ _,H=>H.1.o
 | .pR _ _,H=>H.1.o
 | .over,H=>H.2.2.2.2
def zT (F:Fp) (h:Hp) (B:Bs) (out:BR) (R:Value->Hp->Prop):Prop:=
 ∀x W M h',Cx F h h' [W,jR M]->S1 (B.and M) W out.1 x out.1.ph->R (.tuple #[uH x,qZ out.2.1,.bool out.2.2]) h'
def zT.flat {s:Bk} {x:Bc} {a:Ac} {d:Bool} (H:zT B1 h B (s,a,d) R) (q:∀M,S1 (B.and M) (jR []) s x s.ph) {h':Hp} (g:Gr h h'):R (.tuple #[uH x,qZ a,.bool d]) h':=
 H x (jR []) [] h' (Cx.BO (L:=[jR []]) (Cx.BO (L:=[]) ((Cx.jQ h).more g))) (q [])
section
variable {x:Bc} {n:Value} {a:Ac} {z:Int} {g:lA} {s:Bk}
def zf {f:Nat} {t:TypeId} {W:km} {v:Value} {V:Bs->km->Value->Prop} {d:Bool} {out:BR} (Q:∀h',Ch F h h'->B.p h') (o:Bo x) (J:x.mA=.iface t v) (hf:I.mt t "Next"=some f) (c:Cx F h h [W])
  (hN:YU f t B W v g V a d)
  (q:d=false->∀E G M,V (B.and M) G E->S1 (B.and M) G out.1 {x with mA:=.iface t E,nx:=qt 242} out.1.ph/\out.2=(a,false))
  (u:d=true->∀E G M h1 K,(B.and M).p h1->V (B.and M) G E->zT B1 h1 (B.and M) out K->Cw S.C S.Y I.mt x.bh [uH {x with mA:=.iface t E},mU qa] h1 K)
  (hR:zT F h B out R):lY.1 (uH x) (mU g) h R:=by
 obtain⟨du,e,who,seq,kC,i,mA,dn,bad,th,nx,bh⟩:=x;have o':=o;obtain⟨hi,hx,hb⟩:=o;dsimp only at hi hx hb J q u;subst J;obtain⟨⟨gv,gq,gr⟩,gk⟩:=g;cases d with
 | false=>
  replace c:Cx _ _ _ [_]:=c;refine c.qW λ_ _ c=>c.v4 λ_ _ c=>c.qW λ_ _ c=>c.v8 λ_ _ c=>?_;refine jS<|c.rc 1 ?_;refine c.rl 2 ?_;refine⟨_,_,_,rfl,hf,?_⟩;obtain⟨F',c',T,up⟩:=c.sB (i:=0) rfl;refine hN _ F' _ c' (λH ch=>Q H (T _ ch)) λE G M _ d ok=>have c:=up d;have c:=c.n6;vx rfl<|vx rfl<|vx rfl<|c.v8 λ_ _ c=>?_;refine c.w8 6 λ_ c=>?_;refine jS<|c.I6 1 λ_ c=>?_;refine vx (v:=.bool true) (rfl)<|kV<|c.rl 1 ?_;refine c.rl 6 ?_;refine yW (x:=⟨du,e,who,seq,kC,i,.iface t E,dn,bad,th,nx,bh⟩) (a:=a) ⟨rfl,hx,hb⟩ rfl λ_ g=>have c:=c.more g;c.pL 3 4 λ_ c=>?_;obtain⟨y1,y2⟩:=q rfl E G M ok;have:=hR _ G M _ (c.pick [0,5]) y1;rw[y2] at this;exact this
 | true=>
  replace c:Cx _ _ _ [_]:=c;refine c.qW λ_ _ c=>c.v4 λ_ _ c=>c.qW λ_ _ c=>c.v8 λ_ _ c=>?_;refine jS<|c.rc 1 ?_;refine c.rl 2 ?_;refine⟨_,_,_,rfl,hf,?_⟩;obtain⟨F',c',T,up⟩:=c.sB (i:=0) rfl;refine hN _ F' _ c' (λH ch=>Q H (T _ ch)) λE G M _ d ok=>have c:=up d;have c:=c.n6;vx rfl<|vx rfl<|vx rfl<|c.v8 λ_ _ c=>?_;refine c.w8 6 λ_ c=>?_;refine jS<|c.I6 1 λ_ c=>?_;refine vx (v:=.bool false) (rfl)<|j7<|jS<|c.rc 1 ?_;refine c.rl 1 ?_;refine vx (jU (ds:=[_,_,_,_]) rfl)<|u rfl E G M _ _ ⟨Q _ c.gr,c.get (i:=5) rfl⟩ ok λx2 W2 M2 _ d2 O=>?_;have c:=c.jT d2;have oo:=O.o;obtain⟨eQ,e2,aS,aT,iF,i2,bY,iN,dO,iS,oF,oR⟩:=x2;obtain⟨U,X,Z⟩:=oo;dsimp only at U X Z;replace c:=c.n9;refine c.pL 3 4 λ_ c=>?_;have c:=Cx.pack (L:=[_]) (M:=[jR M,jR M2]) (c.pick [7,5,8]);exact hR _ W2 [jR M,jR M2] _ c (O.le Bs.FW)
def LJ {f:Nat} {t:TypeId} {W:km} {v:Value} {V:Bs->km->Value->Prop} {d:Bool} {out:BR} (Z:∀h',Ch F h h'->B.p h') (o:Bo x) (hn:n.oneCell'=true) (hf:I.mt t "Next"=some f) (c:Cx F h h [W])
  (hN:YU f t B W v qa V a d)
  (q:d=false->∀J K M,V (B.and M) K J->S1 (B.and M) K out.1 {x with mA:=.iface t J,nx:=qt 242,bh:=n} out.1.ph/\out.2=(a,false)) (hd:d=false)
  (hR:zT F h B out R):nR.1 (uH x) (.iface t v) n h R:=by
 obtain⟨du,e,who,seq,kC,i,mA,dn,bad,th,nx,bh⟩:=x;obtain⟨hi,O,hb⟩:=o;dsimp only at hi O hb q;replace c:Cx _ _ _ [_]:=c;refine c.qW λ_ _ c=>c.qW λ_ _ c=>c.v8 λ_ _ c=>?_;refine jS<|c.I6 1 λ_ c=>?_;refine jS<|c.I6 1 λ_ c=>?_;refine c.rl 1 ?_;refine vx (jU (ds:=[_,_,_,_]) rfl)<|lY.2 ?_;obtain⟨F',c',hF,up⟩:=c.sB (i:=0) rfl;refine zf (x:=⟨du,e,who,seq,kC,i,.iface t v,dn,bad,th,nx,n⟩) (g:=qa) (B:=B) (F:=F') (λu ch=>Z u (hF _ ch)) ⟨rfl,O,hn⟩ rfl hf c' hN q (λx=>by rw[hd] at x; cases x) λx2 W2 M _ d2 ok=>?_;have c:=up d2;have oo:=ok.o;obtain⟨aS,e2,Q,T,aT,i2,U,bY,X,dO,eQ,iF⟩:=x2;obtain⟨E,G,H⟩:=oo;dsimp only at E G H;replace c:=c.n5;refine c.pL 2 3 λ_ c=>?_;exact hR _ W2 M _ (c.pick [0,4]) ok
def El:I.mt 383 "Next"=some 344:=by kernel_rfl
def F5:∀{F:Fp} {b r q:Nat} {g:lA} {h} {R:Value->Hp->Prop},Cx F h h [jR [rV r (DS b 0 false (.func (.func 289) #[] #[kC r,kC q])),rV q [.int .i64 mG]]]->
  (∀r M h',Cx F h h' [jR M]->(∀B:Bs,Fr (B.and M) r (DS b 0 false (oI 290 r)))->R (.tuple #[.iface 383 (.agg ⟨DS b 0 false (oI 290 r)⟩),qZ ⟨5,mG,W0,W0⟩,.bool false]) h')->S.C 344 [.agg ⟨DS b 0 false (.func (.func 289) #[] #[kC r,kC q])⟩,mU g] h R:=λc k=>oT.2 (PA (B:=⟨λ_=>True,λ_ _=>trivial⟩) c λr M h' c' f=>k r M h' c' λB=>f.le λ_ b=>⟨trivial,b.2⟩)
def Nm (Q:B.p h) (hZ:On B Zs) (hs:Xp B s x) (u:s.kZ<4) (E:zT B1 h B (Be s) R):py.1 (uH x) h R:=by
 obtain⟨du,e,who,seq,G,i,mA,dn,bad,th,nx,bh⟩:=x;have eQ:=hs;obtain⟨⟨⟨hi,T,U⟩,h2,X,Z,h5,h6⟩,H,h8⟩:=hs;dsimp only at hi T U H h2 X Z h5 h6 h8;unfold Bk.who at H;subst H;have c:=Cx.jQ h;refine c.qW λ_ _ c=>c.qW λ_ _ c=>c.v8 λ_ _ c=>?_;refine jS<|vx (c.vp (i:=0) (ds:=[_,_,_]) rfl rfl rfl)<|jS<|c.rc 0 ?_;refine vx (v:=.int .i64 s.kZ) ((nu (a:=9+(s.kZ:Int)) (b:=9) ⟨by omega,by omega⟩).trans (congrArg (λz=>some (Value.int .i64 z)) (by omega)))<|QT (hZ _ (B.up Q c.gr)) u λr q _ d=>have c:=c.jT d;have c:=c.n5;vx rfl<|vx rfl<|jS<|c.I6 0 λ_ c=>?_;refine c.rl 0 ?_;refine nR.2 ?_;have c:=Cx.pack (L:=[_,_,_]) (M:=[_,_]) c;obtain⟨F',c',hF,up⟩:=c.sB (i:=3) rfl;refine LJ (x:=⟨du,e,0,seq,G,i,mA,dn,bad,th,nx,bh⟩) (B:=B) (F:=F') (t:=383) (W:=jR [rV r (DS s.kZ 0 false (.func (.func 289) #[] #[kC r,kC q])),rV q [.int .i64 mG]]) (V:=λB W v=>P9 B W v s.kZ .look) (a:=⟨5,mG,W0,W0⟩) (d:=false) (out:=Be s) (λiF ch=>B.up Q (hF _ ch)) ⟨hi,T,U⟩ rfl El c' (λh F R c hB E=>?_) (λ_ v' W' M ok=>?_) rfl λx2 W2 M _ d2 ok=>?_
 ·refine F5 c λr M h' c' fr=>E _ (jR []) M h' ((Cx.BO (L:=[jR M]) c').perm (jF ..)) ⟨rfl,r,_,rfl,fr B⟩
 ·refine⟨⟨⟨⟨rfl,rfl,rfl⟩,h2,X.le (Bs.jX _ _),Z,h5,h6⟩,rfl,rfl,v',rfl,ok⟩,rfl⟩
 have c:=up d2;have oo:=ok.o;obtain⟨iN,e2,aS,aT,iS,i2,bY,oF,dO,oR,rW,tO⟩:=x2;obtain⟨J,K,O⟩:=oo;dsimp only at J K O;have c:=c.pick [0,1,2,3,4];replace c:=c.n5;refine c.pL 1 2 λ_ c=>?_;exact E _ W2 M _ (c.pick [3,4]) ok
end
section
variable {x:Bc} {n:Value} {a:Ac} {g:lA} {es:List Et} {s:Bk}
def RR (o:Bo x) (h1:x.dn=s.done) (h2:x.bad=s.bad) (G:zT B1 h B (Lo s) R):rm.1 (uH x) (mU g) h R:=by
 obtain⟨du,e,who,seq,q,i,mA,dn,bad,th,nx,bh⟩:=x;have H:=o;obtain⟨hi,u,E⟩:=o;dsimp only at hi u E h1 h2;have c:=Cx.jQ h;refine c.qW λ_ _ c=>c.v4 λ_ _ c=>c.qW λ_ _ c=>c.v8 λ_ _ c=>?_;refine c.rl 0 ?_;refine R0 (x:=⟨du,e,who,seq,q,i,mA,dn,bad,th,nx,bh⟩) H λ_ g=>have c:=c.more g;c.pL 2 3 λ_ c=>?_;exact zT.flat G (λM=>⟨rfl,rfl,h1,h2,⟨rfl,u,E⟩⟩) c.gr
def OY (b0:B.p h) (hZ:On B Zs) (hs:MT B s x) (q:s.kZ<4) {v:Value} {t:Hs} (hv:x.mA=.iface 376 v) (ht:B6 B [t] v) (u:t.ended=true)
  (hR:zT B1 h B (Be {s with done:=decide (t.j8=1)}) R):qO.1 (uH x) (mU g) h R:=by
 obtain⟨du,e,who,seq,E,i,mA,dn,bad,th,nx,bh⟩:=x;obtain⟨⟨⟨⟨hi,K,O⟩,h2,Q,h4,T,U⟩,V,h8⟩,h9,bY⟩:=hs;dsimp only at hi K O h2 Q h4 T U V h8 hv;subst hv;have c:=Cx.jQ h;refine c.qW λ_ _ c=>c.v4 λ_ _ c=>c.qW λ_ _ c=>c.v8 λ_ _ c=>?_;refine jS<|c.rc 0 ?_;refine vB ht u λ_ g=>have c:=c.more g;vx rfl<|vx rfl<|vx kU<|jS<|c.I6 0 λ_ c=>?_;refine c.rl 0 ?_;refine py.2 (Nm (s:={s with done:=decide (t.j8=1)}) (x:=⟨du,e,who,seq,E,i,.iface 376 v,decide (t.j8=1),bad,th,nx,bh⟩) (B.up b0 c.gr) hZ ⟨⟨⟨rfl,K,O⟩,h2,Q,rfl,T,U⟩,V,h8⟩ q λx2 W M _ d ok=>?_);have c:=c.jT d;have oo:=ok.o;obtain⟨dO,e2,X,Z,eQ,i2,aS,iF,aT,iN,iS,oF⟩:=x2;obtain⟨G,H,J⟩:=oo;dsimp only at G H J;replace c:=c.n6;refine c.pL 2 3 λ_ c=>?_;exact hR _ W M _ (c.pick [4,5]) ok
def ye (r:Int) (d:Bool):kQ [Hs.new r d] qa=([{Hs.new r d with nx:=.first}],⟨5,jP (kj r),W0,W0⟩,false):=by
 rw[qw rfl (by simp[Hs.new]) [] (.inl rfl)];rfl
def nJ:∀{B:Bs} {g:lA} {hs:List Hs} {v:Value},On B Zs->Ww g.w->B6 B hs v->Du hs->(∀s∈hs,s.nx=.again->s.i<s.es.length)->Oe B v g (kQ hs g):=λa b c d e=>Oe.all a b c d e
def TR (u:On B Zs) {r:Int} {d:Bool} (E:0<=jP (kj r)):YU 343 376 B (jR []) (pY (kG (Hs.new r d) (none,0,0) (none,0,0) .nilIface)) qa (λB W v=>W=jR []/\B6 B [{Hs.new r d with nx:=.first}] v) ⟨5,jP (kj r),W0,W0⟩ false:=by
 intro h F R c G H;have q:=nJ (B:=B) (g:=qa) (hs:=[Hs.new r d]) (v:=pY (kG (Hs.new r d) (none,0,0) (none,0,0) .nilIface)) u Qc ⟨_,_,rfl,λ_ _=>Sl.nil,λ_ _=>Sl.nil⟩ ⟨rfl,aO _,E,λx J=>(bF J).elim,Qc,trivial⟩ λs hs K=>by
  obtain rfl:=aN.1 hs;cases K
 rw[ye] at q;refine q h R (G h (.refl _ _)) λO M h' c' ok=>H O (jR []) M h' (c.jT c') ⟨rfl,ok⟩
def Tx (U:B.p h) (X:On B Zs) (hs:MT B s x) (eQ:s.kZ<4) (hq:1<=s.seq/\s.seq<=16777215) (hR:zT B1 h B (Jx s) R):sJ.1 (uH x) (mU g) h R:=by
 obtain⟨du,e,who,seq,iF,i,mA,dn,bad,th,nx,bh⟩:=x;obtain⟨⟨⟨⟨hi,Z,hb⟩,h2,h3,h4,h5,h6⟩,h7,h8⟩,h9,H⟩:=hs;dsimp only at hi Z hb h2 h3 h4 h5 h6 h7 h8 h9 H;subst h2 h7 h8 h9;have E:K4 s.who s.seq=true:=decide_eq_true (by unfold Bk.who; omega);have J:kJ s.who s.seq / 16777216=s.who/\kJ s.who s.seq % 16777216=s.seq:=by unfold kJ Bk.who;omega
 have q:kj (kJ s.who s.seq)=s.who:=by unfold kj;rw[J.1,J.2,if_pos E]
 have G:jP s.who=s.at':=by
  unfold jP Bk.at' Bk.who;rw[if_pos (by omega)];congr 1;omega
 have u:0<=s.at':=by unfold Bk.at' lC;split <;> omega
 have K:0<=kJ s.who s.seq/\kJ s.who s.seq<4294967296:=by unfold kJ Bk.who;omega
 have c:=Cx.jQ h;refine c.qW λ_ _ c=>c.v4 λ_ _ c=>c.qW λ_ _ c=>c.v8 λ_ _ c=>?_;refine jS<|c.rc 0 ?_;refine jS<|c.rc 0 ?_;refine E5 λ_ g=>?_;have c:=c.more g;rw[if_pos E,if_pos E];refine vx rfl<|vx rfl<|jS<|vx (c.vp (i:=0) (ds:=[_,_,_]) rfl rfl rfl)<|jS<|c.rc 0 ?_;refine pF (X _ (B.up U c.gr)) K λ_ g=>?_;have c:=c.more g;rw[if_pos ⟨by rw[q]; unfold Bk.who; omega,by rw[q,G]; exact u⟩];refine vx rfl<|vx rfl<|c.rl 0 ?_;refine nR.2 ?_;have c:=Cx.BO c;obtain⟨F',c',hF,up⟩:=c.sB (i:=4) rfl;refine LJ (n:=qt 296) (x:=⟨s.kY,e,s.who,s.seq,s.at',i,mA,dn,bad,th,nx,bh⟩) (B:=B) (F:=F') (t:=376) (V:=λB W v=>W=jR []/\B6 B [{Hs.new (kJ s.who s.seq) s.kY with nx:=.first}] v) (a:=⟨5,s.at',W0,W0⟩) (d:=false) (out:=Jx s) (λiN ch=>B.up U (hF _ ch)) ⟨hi,Z,hb⟩ rfl qD c' ?_ (λ_ v' W' M ok=>?_) rfl λx2 W2 M _ d2 ok=>?_
 ·have:=TR X (r:=kJ s.who s.seq) (d:=s.kY) (by rw[q,G]; exact u);rwa [q,G] at this
 ·exact⟨⟨⟨⟨⟨⟨rfl,rfl,rfl⟩,rfl,h3.le (Bs.jX _ _),h4,h5,h6⟩,rfl,rfl⟩,rfl,H⟩,ok.1,rfl,rfl,v',rfl,ok.2⟩,rfl⟩
 have c:=up d2;have oo:=ok.o;obtain⟨iS,e2,aS,aT,oF,i2,bY,oR,dO,rW,tO,uS⟩:=x2;obtain⟨O,Q,T⟩:=oo;dsimp only at O Q T;replace c:=c.n6;refine c.pL 2 3 λ_ c=>?_;exact hR _ W2 M _ (c.pick [4,5]) ok
def Cz (U:B.p h) (hZ:On B Zs) (hs:MT B s x) (V:s.kZ<4) (hq:1<=s.seq/\s.seq<=16777215) (Z:s.es.length<=300) (op:Bool) (q:zT B1 h B (my s op) R):Cw S.C S.Y I.mt (Wn op) [uH x,mU g] h R:=by
 cases op with
 | true=>
  exact .inl (.inl ⟨_,#[],#[],rfl,sJ.2 (Tx U hZ hs V hq q)⟩)
 | false=>
  refine .inl (.inl ⟨_,#[],#[],rfl,pf.2 ?_⟩);have u:0<=s.at'/\s.at'<=4096:=by unfold Bk.at' lC;split <;> omega
  obtain⟨du,e,who,seq,aS,i,mA,dn,bad,th,nx,bh⟩:=x;have aT:=hs;obtain⟨⟨⟨⟨hi,X,G⟩,h2,E,K,O,Q⟩,h7,h8⟩,h9,H⟩:=hs;dsimp only at hi X G h2 E K O Q h7 h8 h9 H;subst h2 h7 h8 h9 H;have q:zT B1 h B (rh s) R:=q;unfold rh mg at q;by_cases T:s.i<1+3*s.es.length
  ·rw[if_pos T] at q;refine RV (x:=⟨s.kY,e,s.who,s.seq,s.at',s.i,mA,dn,bad,th,nx,bh⟩) ⟨hi,X,G⟩ (E h U) Z u T λh' g=>zT.flat q (λM=>⟨⟨⟨⟨⟨hi,rfl,G⟩,rfl,E.le (Bs.jX _ _),K,O,Q⟩,rfl,rfl⟩,rfl,rfl⟩,rfl,rfl⟩) g
  ·rw[if_neg T] at q;refine QP (x:=⟨s.kY,e,s.who,s.seq,s.at',s.i,mA,dn,bad,th,nx,bh⟩) ⟨hi,X,G⟩ (E h U) Z u T ⟨by show 0<=s.seq; omega,by show s.seq<4294967296; omega⟩ λh' g=>?_;dsimp only;by_cases e2:s.kY=true
   ·rw[if_pos e2] at q⊢;unfold qk mg at q;dsimp only at q;have e3:(Bk.at' {s with i:=0})=s.at':=rfl;rw[e3] at q;have J:¬s.at'+((1+3*s.es.length:Nat):Int)<s.at' / 8*8+((0:Nat):Int)*8:=by omega
    rw[if_neg J] at q;rw[if_neg (by omega)];exact zT.flat q (λM=>⟨⟨⟨⟨⟨hi,rfl,G⟩,rfl,E.le (Bs.jX _ _),K,O,Q⟩,rfl,rfl⟩,rfl,rfl⟩,rfl,rfl⟩) g
   ·rw[if_neg e2] at q⊢;exact zT.flat q (λM=>⟨⟨⟨⟨⟨hi,rfl,rfl⟩,rfl,E.le (Bs.jX _ _),K,O,Q⟩,rfl,rfl⟩,rfl,rfl⟩,rfl,rfl,rfl⟩) g
def Jy {op:Bool} (b0:B.p h) (hZ:On B Zs) (hs:MT B s x) (q:x.bh=Wn op) (G:s.kZ<4) (hq:1<=s.seq/\s.seq<=16777215) (hl:s.es.length<=300)
  (E:zT B1 h B (if s.kY=true then({s with ph:=.zw op},⟨7,s.at',W0,W0⟩,false) else my s op) R):pV.1 (uH x) (mU g) h R:=by
 obtain⟨du,e,who,seq,eQ,i,mA,dn,bad,th,nx,bh⟩:=x;have H:=hs;obtain⟨⟨⟨⟨hi,T,J⟩,h2,U,V,X,Z⟩,h7,h8⟩,h9,u⟩:=hs;dsimp only at hi T J h2 U V X Z h7 h8 h9 u q;subst q;obtain⟨⟨gv,gq,gr⟩,gk⟩:=g;cases du with
 | false=>
  rw[<-h2,if_neg gE] at E;have c:=Cx.jQ h;refine c.qW λ_ _ c=>c.v4 λ_ _ c=>c.qW λ_ _ c=>c.v8 λ_ _ c=>?_;refine jS<|c.rc 0 ?_;refine vx (v:=.bool true) (rfl)<|kV<|jS<|c.rc 0 ?_;refine c.rl 0 ?_;refine c.rl 1 ?_;refine Cz (g:=⟨⟨gv,gq,gr⟩,gk⟩) (B.up b0 c.gr) hZ H G hq hl op λx2 W M _ d ok=>?_;have c:=c.jT d;have oo:=ok.o;obtain⟨iF,e2,aS,aT,iN,i2,bY,iS,dO,oF,oR,rW⟩:=x2;obtain⟨K,O,Q⟩:=oo;dsimp only at K O Q;replace c:=c.n6;refine c.pL 2 3 λ_ c=>?_;exact E _ W M _ (c.pick [4,5]) ok
 | true=>
  rw[<-h2,if_pos rfl] at E;subst h8;have c:=Cx.jQ h;refine c.qW λ_ _ c=>c.v4 λ_ _ c=>c.qW λ_ _ c=>c.v8 λ_ _ c=>?_;refine jS<|c.rc 0 ?_;refine vx (v:=.bool false) (rfl)<|j7<|c.rl 0 ?_;refine jS<|c.rc 0 ?_;refine vx (jU (ds:=[_,_,_,_,_,_,_,_]) rfl)<|yW (x:=⟨true,e,who,seq,s.at',i,mA,dn,bad,th,nx,Wn op⟩) (a:=⟨7,s.at',W0,W0⟩) ⟨hi,T,J⟩ rfl λ_ g=>have c:=c.more g;c.pL 2 3 λ_ c=>?_;exact zT.flat E (λM=>⟨⟨⟨⟨⟨hi,rfl,J⟩,rfl,U.le (Bs.jX _ _),V,X,Z⟩,h7,rfl⟩,h9,u⟩,rfl,rfl,rfl⟩) c.gr
def Mh {op:Bool} (hs:MT B s x) (q:x.bh=Wn op) (V:zT B1 h B ({s with ph:=.sS op},⟨8,0,W0,W0⟩,false) R):qm.1 (uH x) (mU g) h R:=by
 obtain⟨du,e,who,seq,G,i,mA,dn,bad,th,nx,bh⟩:=x;obtain⟨⟨⟨⟨hi,H,u⟩,h2,J,K,O,Q⟩,T,h8⟩,U,E⟩:=hs;dsimp only at hi H u h2 J K O Q T h8 U E q;subst q;have c:=Cx.jQ h;refine c.qW λ_ _ c=>c.v4 λ_ _ c=>c.qW λ_ _ c=>c.v8 λ_ _ c=>?_;refine c.rl 0 ?_;refine vx (jU (ds:=[_,_,_,_,_,_,_,_]) rfl)<|jS<|c.rc 0 ?_;refine yW (x:=⟨du,e,who,seq,G,i,mA,dn,bad,th,nx,Wn op⟩) (a:=⟨8,0,W0,W0⟩) ⟨hi,H,u⟩ u λ_ g=>have c:=c.more g;c.pL 2 3 λ_ c=>?_;exact zT.flat V (λM=>⟨⟨⟨⟨⟨hi,u,u⟩,h2,J.le (Bs.jX _ _),K,O,Q⟩,T,h8⟩,U,E⟩,rfl,rfl⟩) c.gr
def Pf (b0:B.p h) (hZ:On B Zs) (hs:Xp B s x) (E:x.i=s.i) (H:s.kZ<4) (hg:Ww g.w) (u:zT B1 h B (r7 s g.w) R):qN.1 (uH x) (mU g) h R:=by
 obtain⟨du,e,who,seq,J,i,mA,dn,bad,th,nx,bh⟩:=x;have oF:=hs;obtain⟨⟨⟨hi,K,O⟩,h2,Q,T,h5,U⟩,V,h8⟩:=hs;dsimp only at hi K O h2 Q T h5 U V h8 E;obtain⟨⟨gv,q,gr⟩,gk⟩:=g;obtain⟨X,Z,aS⟩:=hg;dsimp only at X Z aS;unfold r7 at u;dsimp only at u;by_cases G:16777215<=q
 ·rw[if_pos G] at u;have c:=Cx.jQ h;refine c.qW λ_ _ c=>c.v4 λ_ _ c=>c.qW λ_ _ c=>c.v8 λ_ _ c=>?_;refine jS<|jS<|c.rc 1 ?_;refine vx (s0 G)<|kV<|jS<|c.I6 0 λ_ c=>?_;refine c.rl 0 ?_;refine py.2 (Nm (s:={s with bad:=9}) (x:=⟨du,e,who,seq,J,i,mA,dn,9,th,nx,bh⟩) (B.up b0 c.gr) hZ ⟨⟨⟨hi,K,O⟩,h2,Q,T,rfl,U⟩,V,h8⟩ H λx2 W M _ d ok=>?_);have c:=c.jT d;have oo:=ok.o;obtain⟨oR,e2,eQ,iF,rW,i2,iN,tO,iS,uS,nx2,bh2⟩:=x2;obtain⟨aT,bY,dO⟩:=oo;dsimp only at aT bY dO;replace c:=c.n6;refine c.pL 2 3 λ_ c=>?_;exact u _ W M _ (c.pick [4,5]) ok
 ·rw[if_neg G] at u;subst h8;have c:=Cx.jQ h;refine c.qW λ_ _ c=>c.v4 λ_ _ c=>c.qW λ_ _ c=>c.v8 λ_ _ c=>?_;refine jS<|jS<|c.rc 1 ?_;refine vx (oV G)<|j7<|jS<|jS<|c.rc 1 ?_;refine vx (v:=.int .i64 q) ?_ ?_
  ·show some (Value.int .i64 (IntKind.i64.wrap q))=_;rw[EN ⟨by omega,by omega⟩]
  refine vx (oC (a:=q) (b:=1) ⟨by omega,by omega⟩)<|jS<|c.I6 0 λ_ c=>?_;refine c.rl 0 ?_;refine Hd (x:=⟨du,e,who,q+1,s.at',i,mA,dn,bad,th,nx,bh⟩) ⟨hi,K,O⟩ rfl ⟨by show 0<=q+1; omega,by show q+1<_; omega⟩ λ_ g=>have c:=c.more g;c.pL 2 3 λ_ c=>?_;exact zT.flat u (λM=>⟨⟨⟨⟨⟨hi,rfl,rfl⟩,h2,Q.le (Bs.jX _ _),T,h5,U⟩,V,rfl⟩,rfl,E⟩,rfl,rfl,rfl⟩) c.gr
end
def Cx.TQ (ch:Ch F h h'):Cx F h h' [jR []]:=by
 refine⟨[λ_=>False],.cons ⟨[],.nil,λq=>⟨λe=>e.elim,λ⟨G,u,_⟩=>by cases u⟩⟩ (λ_ u=>by cases u) .nil,ch,λG u r E=>?_⟩;rcases aU.1 u with rfl | u
 ·exact E.elim
 ·cases u
section
variable {x:Bc} {n:Value} {a:Ac} {g:lA} {s:Bk}
def KQ (s:Bk):LP->BR
 | .done i=>({s with kZ:=i,ph:=.looked},⟨5,lC i,W0,W0⟩,false)
 | _=>Lo {s with bad:=9}
def zH:∀{B:Bs} {W:km} {v:Value} {k:LP} {h} {R:Value->Hp->Prop},Jg B W v k->¬K6.live k->(∀h',Gr h h'->R (match k with | .done i=>.tuple #[.int .i64 i,.int .i64 0,.bool true] | _=>.tuple #[.int .i64 0,.int .i64 9,.bool true]) h')->S.C 243 [.iface 362 v] h R:=@λ_ _ _ tk _ _ a b k=>rR.2 (PG a b (by decide) λh' g=>by cases tk <;> exact k h' g)
def Qt (X:B.p h) (Z:On B Zs) {W:km} {v:Value} {k:LP} (hs:Wa B s x) (u:x.i=s.i) (hv:x.mA=.iface 362 v) (H:Jg B W v k) (q:¬K6.live k)
  (O:zT B1 h B (KQ s k) R):ru.1 (uH x) (mU g) h R:=by
 obtain⟨du,e,who,seq,J,i,mA,dn,bad,th,nx,bh⟩:=x;obtain⟨⟨hi,G,E⟩,h2,Q,K,T,U⟩:=hs;dsimp only at hi G E h2 Q K T U hv u;subst hv;cases k with
 | look=>exact absurd trivial q
 | swap i w=>exact absurd trivial q
 | done b=>
  have aS:b<4:=H.1;have V:0<=lC b/\lC b<=4096:=by unfold lC;split <;> omega
  have c:=Cx.jQ h;refine c.qW λ_ _ c=>c.v4 λ_ _ c=>c.qW λ_ _ c=>c.v8 λ_ _ c=>?_;refine jS<|c.rc 0 ?_;refine zH H q λ_ g=>have c:=c.more g;vx rfl<|vx rfl<|vx rfl<|vx (v:=.bool false) rfl<|j7<|vx (oC (a:=9) (b:=b) ⟨by omega,by omega⟩)<|jS<|c.I6 0 λ_ c=>?_;refine jS<|vx (c.vp (i:=0) (ds:=[_,_,_]) rfl rfl rfl)<|rS (i:=b) _ _ (Z _ (B.up X c.gr)) λ_ g=>have c:=c.more g;jS<|c.I6 0 λ_ c=>?_;refine c.rl 0 ?_;refine jS<|c.rc 0 ?_;refine vx (jU (ds:=[_,_,_,_,_,_,_,_]) rfl)<|yW (x:=⟨du,e,9+b,seq,lC b,i,.iface 362 v,dn,bad,th,nx,bh⟩) (a:=⟨5,lC b,W0,W0⟩) ⟨rfl,G,E⟩ rfl λ_ g=>have c:=c.more g;c.pL 2 3 λ_ c=>?_;exact zT.flat O (λM=>⟨⟨⟨⟨rfl,rfl,E⟩,h2,Q.le (Bs.jX _ _),K,T,U⟩,rfl,rfl⟩,u,rfl,rfl⟩) c.gr
 | full=>
  have c:=Cx.jQ h;refine c.qW λ_ _ c=>c.v4 λ_ _ c=>c.qW λ_ _ c=>c.v8 λ_ _ c=>?_;refine jS<|c.rc 0 ?_;refine zH H q λ_ g=>have c:=c.more g;vx rfl<|vx rfl<|vx rfl<|vx (v:=.bool true) rfl<|kV<|jS<|c.I6 0 λ_ c=>?_;refine c.rl 0 ?_;refine R0 (x:=⟨du,e,who,seq,J,i,.iface 362 v,dn,9,th,nx,bh⟩) ⟨rfl,G,E⟩ λ_ g=>have c:=c.more g;c.pL 2 3 λ_ c=>?_;exact zT.flat O (λM=>⟨rfl,rfl,K,rfl,⟨rfl,G,E⟩⟩) c.gr
def OO (q:B.p h) (u:On B Zs) {p:SH} {b:Int} {r:Nat} {n:Value} (E:On B λh=>Sl IL h (jY p) [((0:Int),(4:Int))]) (G:Fr B r (Di p b 0 false n)) (H:n.oneCell'=true)
  (J:Dp 362 B1 h B (λB W v=>Jg B W v .look) ⟨5,mG,W0,W0⟩ false R):oU.1 (.agg ⟨Di p b 0 false (oI 240 r)⟩) (mU qa) h R:=by
 have c:=Cx.jQ h;refine c.v8 λ_ _ c=>c.v4 λ_ _ c=>c.v8 λ_ _ c=>?_;refine jS<|c.rc 0 ?_;refine j7<|jS<|c.rc 0 ?_;refine c.rl 1 ?_;refine .inl (.inl ⟨240,#[],#[kC r],rfl,PU (B.up q c.gr) u H E G λv W M _ d ok=>?_⟩);have c:=c.jT d;replace c:=c.n5;refine c.t8 2 λ_ c=>?_;exact J v W M _ (c.pick [3,4]) ok
def Es:I.mt 362 "Next"=some 342:=by kernel_rfl
def T4 (Q:B.p h) (T:On B Zs) (hs:Wa B s x) (u:x.i=s.i) (E:s.ph=.take .look) (G:zT B1 h B (s,⟨5,mG,W0,W0⟩,false) R):sd.1 (uH x) (mU g) h R:=by
 obtain⟨du,e,who,seq,H,i,mA,dn,bad,th,nx,bh⟩:=x;obtain⟨⟨hi,U,X⟩,h2,Z,h4,h5,h6⟩:=hs;dsimp only at hi U X h2 Z h4 h5 h6 u;have c:=Cx.jQ h;refine c.qW λ_ _ c=>c.v4 λ_ _ c=>c.qW λ_ _ c=>c.v8 λ_ _ c=>?_;refine jS<|vx (c.vp (i:=0) (ds:=[_,_,_]) rfl rfl rfl)<|Rh (T _ (B.up Q c.gr)) λp r _ d=>have c:=c.jT d;have c:=c.n6;vx rfl<|vx rfl<|c.rl 0 ?_;refine nR.2 ?_;have c:=Cx.pack (L:=[_,_,_,_]) (M:=[_,_]) c;have c:=Cx.BO c;obtain⟨F',c',hF,up⟩:=c.sB (i:=5) rfl;have hM:∀q,Ch F' _ q->(B.and [kz IL (jY p) [((0:Int),(4:Int))],rV r (Di p 0 0 false (oI 240 r))]).p q:=λq ch=>by
  have cc:=up (A':=jR []) (M:=[]) (h':=q) (Cx.TQ ch);exact⟨B.up Q (hF _ ch),cc.get (i:=4) rfl⟩
 refine LJ (n:=qt 226) (x:=⟨du,e,who,seq,H,i,mA,dn,bad,th,nx,bh⟩) (B:=B.and [kz IL (jY p) [((0:Int),(4:Int))],rV r (Di p 0 0 false (oI 240 r))]) (F:=F') (t:=362) (V:=λB W v=>Jg B W v .look) (a:=⟨5,mG,W0,W0⟩) (d:=false) (out:=(s,⟨5,mG,W0,W0⟩,false)) hM ⟨hi,U,X⟩ rfl Es c' (λh F R c hB G=>?_) (λ_ v' W' M ok=>?_) rfl λx2 W2 M _ d2 ok=>?_
 ·refine oU.2 (OO (hB h (.refl _ _)) (T.le (Bs.jX _ _)) (On.sl (i:=0) rfl) (Fr.of (i:=1) rfl) rfl λv W M h' c2 ok=>?_);exact G v W M h' ((c.jT c2).pick [1,2]) ok
 ·refine⟨?_,rfl⟩;dsimp only;rw[E];exact⟨⟨⟨rfl,rfl,rfl⟩,h2,Z.le ((Bs.jX _ _).trans (Bs.jX _ _)),h4,h5,h6⟩,u,rfl,rfl,v',rfl,ok⟩
 have c:=up d2;have oo:=ok.o;obtain⟨eQ,e2,aS,aT,iF,i2,bY,iN,dO,iS,oF,oR⟩:=x2;obtain⟨J,K,O⟩:=oo;dsimp only at J K O;replace c:=c.n7;refine c.pL 2 3 λ_ c=>?_;exact G _ W2 [_,jR M] _ (Cx.pack (L:=[_]) (M:=[jR [kz IL (jY p) [((0:Int),(4:Int))],rV r (Di p 0 0 false (oI 240 r))],jR M]) (c.pick [5,4,6])) (ok.le Bs.FW)
end
def Bok (s:Bk):BP->Prop
 | .take k=>K6.live k
 | .mQ hs=>Du hs/\∀s∈hs,s.nx=.again->s.i<s.es.length
 | .pR b k=>b<4/\P8.live k
 | .looked=>True
 | .over=>False
 | _=>1<=s.seq/\s.seq<=16777215
structure SF (s:Bk):Prop where
 ph:Bok s s.ph
 kZ:s.kZ<4
 es:s.es.length<=300
 i:s.i<=1000
section
variable {x:Bc} {a:Ac} {g:lA} {es:List Et} {s:Bk} {W:km} {v:Value} {out:BR}
def pe (q:x.th=false) (o:Bo x) (c:Cx F h h [W]) (V:∀h',Ch F h h'->B.p h') (X:∀h1 u K,Cx u h1 h1 [W]->(∀h',Ch u h1 h'->B.p h')->zT u h1 B out K->Cw S.C S.Y I.mt x.nx [uH x,mU g] h1 K)
  (Z:Dp 332 F h B (λB W v=>VW B W v out.1) out.2.1 out.2.2 R):mL.1 (uH x) (mU g) h R:=by
 obtain⟨du,e,who,seq,aS,i,mA,dn,bad,th,nx,bh⟩:=x;obtain⟨hi,hx,hb⟩:=o;dsimp only at hi hx hb q;subst q;obtain⟨⟨gv,gq,gr⟩,gk⟩:=g;obtain⟨so,a,d⟩:=out;replace c:Cx _ _ _ [_]:=c;refine c.qW λ_ _ c=>c.v4 λ_ _ c=>c.v8 λ_ _ c=>?_;refine jS<|c.rc 1 ?_;refine j7<|jS<|c.rc 1 ?_;refine c.rl 1 ?_;refine c.rl 2 ?_;obtain⟨F',c',hF,up⟩:=c.sB (i:=0) rfl;refine X _ F' _ c' (λE ch=>V E (hF _ ch)) λx2 W2 M _ d2 ok=>?_;have c:=up d2;have oo:=ok.o;obtain⟨aT,e2,O,Q,bY,i2,T,dO,U,eQ,iF,iN⟩:=x2;obtain⟨G,H,J⟩:=oo;dsimp only at G H J;replace c:=c.n5;refine vx rfl<|vx rfl<|vx rfl<|c.qW λ_ _ c=>?_;refine c.v8 λ_ _ c=>?_;refine c.Zp 5 λ_ c=>?_;refine c.w8 6 λ_ c=>?_;refine c.rl 5 ?_;refine vx rfl<|c.rl 6 ?_;refine c.w8 3 λ_ c=>?_;refine c.rl 3 ?_;exact Z _ W2 M _ (c.pick [0,4]) ⟨_,rfl,ok⟩
def zT.Wj {h1:Hp} (c:Cx F h1 h1 [W]) (u:W=jR []) (H:zT F h1 B out R):zT B1 h1 B out R:=λx q M h' c' ok=>H x q M h' ((c.jT c').pick [1,2]) ok
def KD {k:LP} {g:lA} (q:K6.live k):(mC k g).2.2=true↔¬K6.live (mC k g).1:=by
 have F:∀(w:W3) (k i:Nat),(kX w k i).2.2=true↔¬K6.live (kX w k i).1:=λw k=>by
  induction k with
  | zero=>intro i;exact⟨λ_=>id,λ_=>rfl⟩
  | succ k u=>
   intro i;rw[kX];split
   ·exact⟨(λh=>by cases h),λh=>absurd trivial h⟩
   ·exact u _
 cases k with
 | look=>exact F _ _ _
 | swap i w=>
  unfold mC;dsimp only;split
  ·exact⟨λ_=>id,λ_=>rfl⟩
  ·exact F _ _ _
 | done i=>exact q.elim
 | full=>exact q.elim
def KH {b:Nat} {k:S4} {g:lA} (q:P8.live k):(m3 b k g).2.2=true↔¬P8.live (m3 b k g).1:=by
 have F:∀(w:W3),(lO b w).2.2=true↔¬P8.live (lO b w).1:=λw=>by
  unfold lO;split
  ·exact⟨λ_=>id,λ_=>rfl⟩
  ·exact⟨(λh=>by cases h),λh=>absurd trivial h⟩
 cases k with
 | look=>exact F _
 | swap w=>
  unfold m3;dsimp only;split
  ·exact⟨λ_=>id,λ_=>rfl⟩
  ·exact F _
 | done i=>exact q.elim
def Ih:∀{B:Bs} {k:LP} {W:km} {v:Value} {g:lA},On B Zs->Jg B W v k->K6.live k->YU 342 362 B W v g (λB W v=>Jg B W v (mC k g).1) (mC k g).2.1 (mC k g).2.2:=λa b d h F R c e k=>oU.2 (Qp e a b d c k)
def IQ:∀{B:Bs} {b:Nat} {k:S4} {W:km} {v:Value} {g:lA},On B Zs->b<4->P9 B W v b k->P8.live k->YU 344 383 B W v g (λB W v=>P9 B W v b (m3 b k g).1) (m3 b k g).2.1 (m3 b k g).2.2:=λa b d e h F R c f k=>oT.2 (Sj f a b d e c k)
def Xz (hZ:On B Zs) (hv:VW B W v s) (ok:SF s) (hg:Ww g.w) (c:Cx F h h [W]) (hB:∀h',Ch F h h'->B.p h')
  (Z:Dp 332 F h B (λB W v=>VW B W v (kr s g).1) (kr s g).2.1 (kr s g).2.2 R):mL.1 v (mU g) h R:=by
 obtain⟨x,rfl,U⟩:=hv;obtain⟨G,o2,o3,o4⟩:=ok;have dO:0<=s.at'/\s.at'<=4096:=by unfold Bk.at' lC;split <;> omega
 cases O:s.ph with
 | over=>rw[O] at G;exact G.elim
 | looked=>
  rw[O] at U G;obtain⟨u,y2,rfl,y4⟩:=U;have J:kr s g=r7 s g.w:=by unfold kr;rw[O]
  rw[J] at Z;refine pe u.th u.o c hB (λh1 F1 K X E H=>?_) Z;rw[y4];exact .inl (.inl ⟨_,#[],#[],rfl,qN.2 (Pf (E _ (.refl _ _)) hZ u y2 o2 hg (H.Wj X rfl))⟩)
 | rel op=>
  rw[O] at U G;obtain⟨u,rfl,y3,y4⟩:=U;have J:kr s g=if s.kY=true then({s with ph:=.zw op},⟨7,s.at',W0,W0⟩,false) else my s op:=by unfold kr;rw[O]
  rw[J] at Z;refine pe u.th u.o c hB (λh1 F1 K X E H=>?_) Z;rw[y3];exact .inl (.inl ⟨_,#[],#[],rfl,pV.2 (Jy (E _ (.refl _ _)) hZ u y4 o2 G o3 (H.Wj X rfl))⟩)
 | zw op=>
  rw[O] at U G;obtain⟨u,rfl,y3,y4⟩:=U;have J:kr s g=({s with ph:=.sS op},⟨8,0,W0,W0⟩,false):=by unfold kr;rw[O]
  rw[J] at Z;refine pe u.th u.o c hB (λh1 F1 K X E H=>?_) Z;rw[y3];exact .inl (.inl ⟨_,#[],#[],rfl,qm.2 (Mh u y4 (H.Wj X rfl))⟩)
 | sS op=>
  rw[O] at U G;obtain⟨u,rfl,y3⟩:=U;have J:kr s g=my s op:=by unfold kr;rw[O]
  rw[J] at Z;refine pe u.th u.o c hB (λh1 F1 K X E H=>?_) Z;rw[y3];exact Cz (E _ (.refl _ _)) hZ u o2 G o3 op (H.Wj X rfl)
 | fill=>
  rw[O] at U G;obtain⟨u,rfl,y3⟩:=U;have J:kr s g=my s false:=by unfold kr;rw[O];rfl
  rw[J] at Z;refine pe u.th u.o c hB (λh1 F1 K X E H=>?_) Z;rw[y3];exact Cz (E _ (.refl _ _)) hZ u o2 G o3 false (H.Wj X rfl)
 | lQ=>
  rw[O] at U G;obtain⟨u,rfl,y3⟩:=U;have J:kr s g=qk s:=by unfold kr;rw[O]
  rw[J] at Z;refine pe u.th u.o c hB (λh1 F1 K X E H=>?_) Z;rw[y3];refine .inl (.inl ⟨_,#[],#[],rfl,NB (es:=s.es) u.o (u.e _ (E _ (.refl _ _))) (by omega) (by rw[u.at']; exact dO) (by rw[u.i]; exact o4) λh' gr=>?_⟩);have H:=H.Wj X rfl;rw[u.at',u.i];unfold qk mg at H;dsimp only at H;by_cases e2:s.at'+(1+3*(s.es.length:Int))<s.at' / 8*8+s.i*8
  ·rw[if_pos e2];rw[if_pos (by omega)] at H;exact zT.flat (x:={x with at':=s.at',i:=s.i,nx:=qt 282}) H (λM=>⟨⟨⟨⟨⟨u.o.mA,rfl,u.o.bh⟩,u.du,u.e.le (Bs.jX _ _),u.dn,u.bad,u.th⟩,u.who,rfl⟩,u.seq,rfl⟩,rfl,rfl⟩) gr
  ·rw[if_neg e2];rw[if_neg (by omega)] at H;exact zT.flat (x:={x with at':=s.at',i:=s.i+1,nx:=qt 283}) H (λM=>⟨⟨⟨⟨⟨u.o.mA,rfl,u.o.bh⟩,u.du,u.e.le (Bs.jX _ _),u.dn,u.bad,u.th⟩,u.who,rfl⟩,u.seq,rfl⟩,rfl,rfl⟩) gr
 | zq=>
  rw[O] at U G;obtain⟨u,rfl,y3⟩:=U;have J:kr s g=KN s:=by unfold kr;rw[O]
  rw[J] at Z;refine pe u.th u.o c hB (λh1 F1 K X E H=>?_) Z;rw[y3];have G:1<=s.seq/\s.seq<=16777215:=G;refine .inl (.inl ⟨_,#[],#[],rfl,NX u.o (by rw[u.seq]; omega) λh' gr=>?_⟩);rw[u.at',u.seq];exact zT.flat (x:={x with at':=s.at',seq:=s.seq,bh:=qt 293,nx:=qt 279}) (H.Wj X rfl) (λM=>⟨⟨⟨⟨⟨u.o.mA,rfl,rfl⟩,u.du,u.e.le (Bs.jX _ _),u.dn,u.bad,u.th⟩,u.who,rfl⟩,rfl,u.i⟩,rfl,rfl,rfl⟩) gr
 | take k=>
  rw[O] at U G;obtain⟨u,y2,y3,y4,v',y5,y6⟩:=U;have G:K6.live k:=G;have hN:=Ih (g:=g) hZ y6 G;have aS:=KD (g:=g) G;refine pe u.th u.o c hB (λh1 F1 K X E H=>?_) Z;rw[y3];cases hq:mC k g with
  | mk k' q=>
   obtain⟨a',d⟩:=q;rw[hq] at hN aS;refine .inl (.inl ⟨_,#[],#[],rfl,lY.2 (zf E u.o y5 Es X hN (λQ v2 W2 M ok=>?_) (λQ v2 W2 M h2 K2 b2 ok T=>?_) H)⟩)
   ·have Q:d=false:=Q;subst Q;have J:kr s g=({s with ph:=.take k'},a',false):=by
     unfold kr;rw[O];dsimp only;rw[hq];cases k' with
     | look=>rfl
     | swap i w=>rfl
     | done i=>have:=aS.2 id;cases this
     | full=>have:=aS.2 id;cases this
    rw[J];exact⟨⟨⟨⟨rfl,rfl,u.o.bh⟩,u.du,u.e.le (Bs.jX _ _),u.dn,u.bad,u.th⟩,y2,rfl,y4,v2,rfl,ok⟩,rfl⟩
   ·have Q:d=true:=Q;subst Q;have bY:=aS.1 rfl;have J:kr s g=KQ s k':=by
     unfold kr;rw[O];dsimp only;rw[hq];cases k' with
     | look=>exact absurd trivial bY
     | swap i w=>exact absurd trivial bY
     | done i=>rfl
     | full=>rfl
    rw[J] at T;rw[y4];exact .inl (.inl ⟨_,#[],#[],rfl,ru.2 (Qt b2 (hZ.le (Bs.jX _ _)) ⟨⟨rfl,u.o.nx,rfl⟩,u.du,u.e.le (Bs.jX _ _),u.dn,u.bad,u.th⟩ y2 rfl ok bY T)⟩)
 | pR b k=>
  rw[O] at U G;obtain⟨u,y3,y4,v',y5,y6⟩:=U;have G:b<4/\P8.live k:=G;have hN:=IQ (g:=g) hZ G.1 y6 G.2;have aS:=KH (b:=b) (g:=g) G.2;refine pe u.th u.o c hB (λh1 F1 K X E H=>?_) Z;rw[y3];cases hq:m3 b k g with
  | mk k' q=>
   obtain⟨a',d⟩:=q;rw[hq] at hN aS;refine .inl (.inl ⟨_,#[],#[],rfl,lY.2 (zf E u.o y5 El X hN (λQ v2 W2 M ok=>?_) (λQ v2 W2 M h2 K2 b2 ok T=>?_) H)⟩)
   ·have Q:d=false:=Q;subst Q;have J:kr s g=({s with ph:=.pR b k'},a',false):=by
     unfold kr;rw[O];dsimp only;rw[hq]
    rw[J];exact⟨⟨⟨⟨rfl,rfl,u.o.bh⟩,u.du,u.e.le (Bs.jX _ _),u.dn,u.bad,u.th⟩,rfl,y4,v2,rfl,ok⟩,rfl⟩
   ·have Q:d=true:=Q;subst Q;have J:kr s g=Lo s:=by
     unfold kr;rw[O];dsimp only;rw[hq]
    rw[J] at T;rw[y4];exact .inl (.inl ⟨_,#[],#[],rfl,rm.2 (RR ⟨rfl,u.o.nx,rfl⟩ u.dn u.bad T)⟩)
 | mQ hs=>
  rw[O] at U G;obtain⟨u,rfl,y3,y4,v',y5,y6⟩:=U;have G:Du hs/\∀s∈hs,s.nx=.again->s.i<s.es.length:=G;have hN:=nJ (g:=g) hZ hg y6 G.1 G.2;have aT:HD (kQ hs g):=pA G.1;refine pe u.th u.o c hB (λh1 F1 K X E H=>?_) Z;rw[y3];cases hq:kQ hs g with
  | mk eQ q=>
   obtain⟨a',d⟩:=q;rw[hq] at hN aT;refine .inl (.inl ⟨_,#[],#[],rfl,lY.2 (zf (W:=jR []) (V:=λB W v=>W=jR []/\B6 B eQ v) (a:=a') (d:=d) E u.o y5 qD X (λh2 F2 K2 c2 iF T=>?_) (λQ v2 W2 M ok=>?_) (λQ v2 W2 M h2 K2 b2 ok T=>?_) H)⟩)
   ·exact hN h2 K2 (iF _ (.refl _ _)) λv2 M h3 c3 ok=>T v2 (jR []) M h3 (c2.jT c3) ⟨rfl,ok⟩
   ·have Q:d=false:=Q;subst Q;have J:kr s g=({s with ph:=.mQ eQ},a',false):=by
     unfold kr;rw[O];dsimp only;rw[hq]
    rw[J];exact⟨⟨⟨⟨⟨⟨rfl,rfl,u.o.bh⟩,u.du,u.e.le (Bs.jX _ _),u.dn,u.bad,u.th⟩,u.who,u.at'⟩,u.seq,u.i⟩,ok.1,rfl,y4,v2,rfl,ok.2⟩,rfl⟩
   ·have Q:d=true:=Q;subst Q;obtain⟨t,ht,iN⟩:=aT rfl;dsimp only at ht;subst ht;have J:kr s g=Be {s with done:=decide (t.j8=1)}:=by
     unfold kr;rw[O];dsimp only;rw[hq]
    rw[J] at T;rw[y4];exact .inl (.inl ⟨_,#[],#[],rfl,qO.2 (OY b2 (hZ.le (Bs.jX _ _)) ⟨⟨⟨⟨rfl,u.o.nx,rfl⟩,u.du,u.e.le (Bs.jX _ _),u.dn,u.bad,u.th⟩,u.who,u.at'⟩,u.seq,u.i⟩ o2 rfl ok.2 iN T)⟩)
end
structure NE (es:List Et):Prop where
 VB:m4 es=0
 len:es.length<=10
 Gm:∀(i:Nat) (a b:Et),es[i]?=some a->es[i+1]?=some b->a.at'<b.at'
 may:∀e∈es,oG e.at'=true
 old:∀e∈es,Ww e.old
def Bv {a:Int} (h:oG a=true):0<=a/\a<=1000:=by
 have:=of_decide_eq_true h;omega
def WM (du:Bool) (e:SH):Bc:=⟨du,e,0,0,0,0,.nilIface,false,0,false,qt 213,.nilFunc⟩
section
variable {v:Value} {es:List Et} {g:lA} {du:Bool}
def Qw (K:Zs h) (hs:Sl EE h v es) (ok:NE es) (O:∀h',Gr h h'->R (.int .i64 0) h'):zP.1 vL v h R:=by
 have hlen:=ok.len;have c:=Cx.jQ h;refine c.v3 λG _ c=>?_;refine c.rl 0 ?_;refine lM _ _ (K.gr c.gr) λ_ g=>have c:=c.more g;vx (v:=.bool false) rfl<|j7<|yy (hs.gr c.gr) ok.old (by omega) λ_ g=>?_;have c:=c.more g;rw[ok.VB];refine vx (v:=.bool false) rfl<|j7<|vx (hs.gr c.gr).ln<|vx (pW (by omega))<|j7<|sO.by (λ(i:Nat) z h'=>z=.int .i64 ((i+1:Nat):Int)/\Cx (λ_=>False) h h' [rV G [.int .i64 3,.int .i64 6,.int .i64 4]]) (λi=>es.length - i) 0 ⟨rfl,c⟩ ?_;rintro i _ Q ⟨rfl,c⟩ again q;refine vx (hs.gr c.gr).ln<|vx j9<|lV (λH=>?_) λH=>?_
 ·refine vx (v:=.int .i64 i) ((nu ⟨by omega,by omega⟩).trans (congrArg (λz=>some (Value.int .i64 z)) (by omega))) ?_;have h1:=aB (l:=es) (i:=i) (by omega);have h2:=aB (l:=es) (i:=i+1) (by omega);have E:=ok.Gm i _ _ h1 h2;generalize es[i]=a at h1 E;generalize es[i+1]=b at h2 E;refine(hs.gr c.gr).sN (j:=0) rfl h1 rfl (u:=.int .i64 a.at') rfl ?_;refine(hs.gr c.gr).sN (j:=0) rfl h2 rfl (u:=.int .i64 b.at') rfl ?_;exact vx (oV (Int.not_le.2 E))<|j7<|vx (inc (by omega))<|q (i+1) _ _ ⟨rfl,c⟩ (by omega)
 ·refine vx (hs.gr c.gr).ln<|sO.by (λ(i:Nat) z h'=>z=.int .i64 i/\i<=es.length/\Cx (λ_=>False) h h' [rV G [.int .i64 3,.int .i64 6,.int .i64 4]]) (λi=>es.length - i) 0 ⟨rfl,aO _,c⟩ ?_;rintro j _ T ⟨rfl,U,c⟩ again q;refine vx j9<|lV (λJ=>?_) λJ=>?_
  ·have h1:=aB (l:=es) (i:=j) (by omega);have hm:=ok.may _ (aG h1);generalize es[j]=a at h1 hm;obtain⟨M,⟨V,X,Z⟩,an,ab⟩:=a;refine(hs.gr c.gr).whole rfl h1 rfl ?_;refine c.v6 λ_ _ c=>?_;refine c.w6 1 λ_ c=>?_;refine c.rl 0 ?_;refine jS<|c.rc 1 ?_;refine o7 (a:=M) (by have:=Bv hm; dsimp only at this; omega) _ _ (K.gr c.gr) λ_ g=>?_;have c:=c.more g;rw[show oG M=true from hm];exact vx (v:=.bool false) (rfl)<|j7<|vx (inc (by omega))<|q (j+1) _ _ ⟨rfl,by omega,c.pick [0]⟩ (by omega)
  ·refine jS<|c.rc 0 ?_;exact vx (m6 (by decide))<|j7<|O _ c.gr
def WR (q:Zs h) (hs:Sl EE h v es) (ok:NE es) (hw:∀h R,Zs h->Sl EE h v es->(∀h',Gr h h'->R (.int .i64 0) h')->S.C 212 [vL,v] h R)
  (u:∀e h',Cx (λ_=>False) h h' [kz EE (jY e) es]->R (.tuple #[.iface 332 (uH (WM du e)),.int .i64 0]) h'):Dh.1 vL (.bool du) v h R:=by
 have hlen:=ok.len;have c:=Cx.jQ h;refine c.v3 λ_ _ c=>?_;refine c.rl 0 ?_;refine hw _ _ (q.gr c.gr) (hs.gr c.gr) λ_ g=>have c:=c.more g;vx (v:=.bool false) rfl<|j7<|c.Fy EE λAg _ c=>have c:=c.n2;c.ap 1 rfl (hs.gr c.gr) rfl rfl (by simp only[aJ]; omega) (by simp only[aJ]; omega) λE _ c=>?_;obtain⟨e,rfl⟩:=(c.sl (i:=1) rfl).tW;replace c:=c.n2;refine c.rl 0 ?_;exact vx (jU (ds:=[_,_,_,_,_,_,_,_,_,_,_,_,_,_,_]) rfl)<|vx rfl<|u e _ (c.pick [1])
def Pv (u:B.p h) (E:On B Zs) {e:SH} (he:On B λh=>Sl EE h (jY e) es)
  (G:Dp 332 B1 h B (λB W v=>VW B W v (Mw du es)) ⟨5,mG,W0,W0⟩ false R):mL.1 (uH (WM du e)) (mU g) h R:=by
 have c:Cx B1 h h [jR []]:=G0;refine pe (x:=WM du e) (out:=(Mw du es,⟨5,mG,W0,W0⟩,false)) rfl ⟨rfl,rfl,rfl⟩ c (λh' g=>B.up u g) (λh1 M K H q J=>?_) G;exact .inl (.inl ⟨_,#[],#[],rfl,sd.2 (T4 (s:=Mw du es) (q _ (.refl _ _)) E ⟨⟨rfl,rfl,rfl⟩,rfl,he,rfl,rfl,rfl⟩ rfl rfl (J.Wj H rfl))⟩)
def Po {W:km} {s:Bk} (hv:VW B W v s) (H:s.ph=.over) (E:∀h',Gr h h'->R (.tuple #[.bool s.done,.int .i64 s.bad,.bool true]) h'):pa.1 (.iface 332 v) h R:=by
 obtain⟨x,rfl,q⟩:=hv;rw[H] at q;obtain⟨_,h1,h2,G,hi,q,J⟩:=q;obtain⟨du,e,who,seq,u,i,mA,dn,bad,th,nx,bh⟩:=x;dsimp only at h1 h2 G hi q J;subst h1;rw[<-h2,<-G] at E;have c:=Cx.jQ h;refine vx (v:=.tuple #[uH ⟨du,e,who,seq,u,i,mA,dn,bad,true,nx,bh⟩,.bool true]) (by simp[FV])<|vx rfl<|vx rfl<|c.qW λ_ _ c=>?_;refine c.Zp 0 λ_ c=>?_;refine .here<|vx (v:=.bool false) (rfl)<|j7<|jS<|c.rc 0 ?_;refine vx rfl<|j7<|jS<|c.rc 0 ?_;refine jS<|c.rc 0 ?_;exact E _ c.gr
def C3 {t:TypeId} (q:¬t=332) (u:∀h',Gr h h'->R (.tuple #[.bool false,.int .i64 0,.bool false]) h'):pa.1 (.iface t v) h R:=by
 have c:=Cx.jQ h;refine vx (v:=.tuple #[.agg X1,.bool false]) (by simp[FV,q])<|vx rfl<|vx rfl<|c.qW λ_ _ c=>?_;refine c.Zp 0 λ_ c=>?_;exact .here<|vx (v:=.bool true) (rfl)<|kV<|kV<|u _ c.gr
end
abbrev Y1 (x:Ac):List Value:=[.int .i64 x.op,.int .i64 x.at',.int .i64 x.old.v,.int .u32 x.old.j8,.int .u32 x.old.ref,.int .i64 x.new.v,.int .u32 x.new.j8,.int .u32 x.new.ref]
def UY (x:Ac) (v:Value) (h:v∈Y1 x):v.oneCell'=true:=by
 simp only[aU,bF,or_false] at h;rcases h with rfl | rfl | rfl | rfl | rfl | rfl | rfl | rfl <;> rfl
def Cj:pT Ac:={n:=8,c:=λx=>Y1 x,len:=λ_=>rfl,one:=UY}
structure Sc where
 t:Int
 seq:Int
 du:Bool
 e:SH
 nx:Value
 ov:Bool
 ok:Bool
abbrev FT (x:Sc):List Value:=[.int .i64 3,.int .i64 6,.int .i64 4,.int .i64 x.t,.int .i64 x.seq,.bool x.du,jY x.e,x.nx,.bool x.ov,.bool x.ok]
abbrev qA (x:Sc):Value:=.agg ⟨FT x⟩
structure CV (B:Bs) (s:Sw) (x:Sc):Prop where
 t:x.t=s.t
 seq:x.seq=s.seq
 du:x.du=s.kY
 e:On B λh=>Sl EE h (jY x.e) s.es
 nx:x.nx.oneCell'=true
 ov:x.ov=false
 ok:x.ok=false
def CV.le {s:Sw} {x:Sc} (H:CV B s x) (l:B.le B'):CV B' s x:=⟨H.t,H.seq,H.du,H.e.le l,H.nx,H.ov,H.ok⟩
abbrev vj (f r q:Nat):Value:=.func (.func f) #[] #[kC r,kC q]
def Q2 (B:Bs) (hs:List Hs) (q k:Value):Prop:=∃u rt E,q=vj 259 u rt/\Fr B u [.iface 376 E]/\B6 B hs E/\Fr B rt [k]
def S0 (B:Bs) (l:List Ac) (q k:Value):Prop:=∃rl rt u a,q=vj 270 rl rt/\Fr B rl [jY u]/\(On B λh=>Sl Cj h (jY u) (a::l))/\Fr B rt [k]
def U6 (B:Bs) (s:Sw) (q:Value):SP->Prop
 | .last hs=>Q2 B hs q (qt 234)
 | .own hs=>Q2 B hs q (qt 271)
 | .qx l=>S0 B l q (qt 256)
 | .rE=>q=qt 228
 | .pK w hs=>∃rw,Q2 B hs q (oI 248 rw)/\Fr B rw (cW w)
 | .qv=>q=qt 269
 | .sv=>∃u,q=oI 253 u/\Fr B u (cE (sE s))
 | .send l ok=>S0 B l q (qt (if ok then 254 else 252))
 | .pO=>False
 | .over _=>False
def S6 (B:Bs) (s:Sw) (v:Value):Prop:=∃x u E y q,v=qA x/\CV B s x/\x.nx=vj 247 u E/\Fr B u [q]/\Fr B E (FT y)/\CV B s y/\U6 B s q s.ph
def SwX (B:Bs) (s:Sw) (v:Value):SP->Prop
 | .pO=>∃x y,v=qA x/\CV B s x/\x.nx=.func (.func 219) #[qA y] #[]/\CV B s y
 | .over ok=>∃x,v=qA x/\x.ov=true/\x.ok=ok/\x.nx.oneCell'=true
 | _=>S6 B s v
def Ed (B:Bs) (v:Value) (s:Sw):Prop:=SwX B s v s.ph
def Q2.le {hs:List Hs} {q k:Value} (l:B.le B'):Q2 B hs q k->Q2 B' hs q k:=λ⟨u,rt,E,a,b,c,d⟩=>⟨u,rt,E,a,b.le l,c.le l,d.le l⟩
def S0.le {ls:List Ac} {q k:Value} (l:B.le B'):S0 B ls q k->S0 B' ls q k:=λ⟨rl,rt,u,a,b,c,d,e⟩=>⟨rl,rt,u,a,b,c.le l,d.le l,e.le l⟩
def U6.le {s:Sw} {q:Value} (l:B.le B'):∀{p:SP},U6 B s q p->U6 B' s q p
 | .last _,H=>Q2.le l H
 | .own _,H=>Q2.le l H
 | .qx _,H=>S0.le l H
 | .rE,H=>H
 | .pK _ _,⟨rw,a,b⟩=>⟨rw,a.le l,b.le l⟩
 | .qv,H=>H
 | .sv,⟨u,a,b⟩=>⟨u,a,b.le l⟩
 | .send _ _,H=>S0.le l H
def S6.le {s:Sw} {v:Value} (l:B.le B'):S6 B s v->S6 B' s v:=λ⟨x,u,E,y,q,a,b,c,d,e,f,g⟩=>⟨x,u,E,y,q,a,b.le l,c,d.le l,e.le l,f.le l,g.le l⟩
def Ed.le {s:Sw} {v:Value} (l:B.le B') (H:Ed B v s):Ed B' v s:=by
 unfold Ed at *;cases q:s.ph <;> rw[q] at H
 case pO=>obtain⟨x,y,a,b,c,d⟩:=H;exact⟨x,y,a,b.le l,c,d.le l⟩
 case over ok=>exact H
 all_goals exact S6.le l H
def xM (h:Hp) (B:Bs) (out:SR) (R:Value->Hp->Prop):Prop:=∀q,Rt B h (λB=>Ed B q out.1) λh'=>R (.tuple #[.iface 327 q,qZ out.2.1,.bool out.2.2]) h'
section
variable {x:Sc} {n:Value} {a:Ac} {g:lA} {b:Bool}
def Kd (H:x.nx.oneCell'=true) (u:n.oneCell'=true) (J:∀E G h',Cx (λ_=>False) h h' [rV E [n],rV G (FT x)]->R (.tuple #[.iface 327 (qA {x with nx:=vj 247 E G}),qZ a,.bool false]) h'):S.C 227 [(qA x),(qZ a),n] h R:=by
 refine Fw.2 ?_;obtain⟨t,seq,du,e,nx,ov,ok⟩:=x;dsimp only at H;have q:n.cells.toList=[n]:=ma u;have c:=Cx.jQ h;refine c.v10 λ_ _ c=>c.v8 λ_ _ c=>?_;refine c.nv (cs:=[n]) q (Ek u) λ_ _ c=>?_;replace c:=c.n3;refine c.v8 λ_ _ c=>?_;refine c.rl 0 ?_;refine c.v10 λ_ _ c=>?_;refine c.Yb 4 λ_ c=>?_;refine vx rfl<|jS<|c.VT 0 λ_ c=>?_;refine c.rl 0 ?_;refine vx rfl<|c.rl 1 ?_;refine c.w8 3 λ_ c=>?_;refine c.rl 3 ?_;exact J _ _ _ (c.pick [2,4])
def DY (q:x.nx.oneCell'=true) (u:∀h',Gr h h'->R (.tuple #[.iface 327 (qA {x with nx:=.nilFunc,ov:=true,ok:=b}),qZ o8,.bool true]) h'):S.C 230 [(qA x),(.bool b)] h R:=by
 refine DA.2 ?_;obtain⟨t,seq,du,e,nx,ov,ok⟩:=x;dsimp only at q;have c:=Cx.jQ h;refine c.v10 λ_ _ c=>c.v8 λ_ _ c=>?_;refine jS<|c.VT 0 λ_ c=>?_;refine jS<|c.VT 0 λ_ c=>?_;refine jS<|c.VT 0 λ_ c=>?_;refine c.rl 0 ?_;refine vx rfl<|vx (jU (ds:=[_,_,_,_,_,_,_,_]) rfl)<|c.w8 1 λ_ c=>?_;refine c.rl 1 ?_;exact u _ c.gr
def NR (Z:Zs h) (u:x.nx.oneCell'=true) (q : -1000<=x.t/\x.t<=1000) (E:∀h',Gr h h'->R (.int .i64 (mR x.t)) h'):S.C 221 [(qA x)] h R:=by
 refine CD.2 ?_;obtain⟨t,seq,du,e,nx,ov,ok⟩:=x;dsimp only at u q;have c:=Cx.jQ h;refine c.v10 λ_ _ c=>?_;refine jS<|vx (c.vp (i:=0) (ds:=[_,_,_]) rfl rfl rfl)<|jS<|c.rc 0 ?_;refine pE q _ _ (Z.gr c.gr) λ_ g=>have c:=c.more g;E _ c.gr
def qc (du:Bool) (l:List Int):List Ac:=if du=true then l.map (λp=>⟨7,p,W0,W0⟩)++[⟨8,0,W0,W0⟩] else []
def tn {v:Value} {ls:List Int} (K:x.nx.oneCell'=true) (hv:Sl rI h v ls) (T:ls.length<=1000) (G:∀u h',Cx (λ_=>False) h h' [kz Cj (jY u) (qc x.du ls)]->R (jY u) h'):S.C 251 [(qA x),v] h R:=by
 refine CI.2 ?_;obtain⟨t,seq,du,e,nx,ov,ok⟩:=x;dsimp only at K G;cases du with
 | false=>
  have c:=Cx.jQ h;refine c.v10 λ_ _ c=>?_;refine jS<|c.rc 0 ?_;exact vx (v:=.bool true) (rfl)<|kV<|G (none,0,0) _ ((c.nil Cj).pick [1])
 | true=>
  have c:=Cx.jQ h;refine c.v10 λH _ c=>?_;refine jS<|c.rc 0 ?_;refine vx (v:=.bool false) (rfl)<|j7<|vx (hv.gr c.gr).ln<|z5.by (λ(i:Nat) u v h'=>v=.int .i64 i/\i<=ls.length/\Cx (λ_=>False) h h' [rV H [_,_,_,_,_,_,_,_,_,_],kz Cj u ((ls.take i).map λp=>⟨7,p,W0,W0⟩)]) (λi=>ls.length - i) 0 ⟨rfl,aO _,c.nil Cj⟩ ?_;rintro i u _ h2 ⟨rfl,hi,c⟩ again q;replace c:=c.n2;refine vx j9<|lV (λJ=>?_) λJ=>?_
  ·have h1:=aB (l:=ls) (i:=i) (by omega);have E:ls.take (i+1)=ls.take i++[ls[i]'(by omega)]:=by rw[bN,h1];rfl
   generalize ls[i]'(by omega)=p at h1 E;refine(hv.gr c.gr).one rfl h1 rfl (u:=.int .i64 p) rfl ?_;refine vx (jU (ds:=[_,_,_,_,_,_,_,_]) rfl)<|c.lW Cj ⟨7,p,W0,W0⟩ rfl rfl λv20 _ c=>have c:=c.n3;c.ap 1 rfl (c.sl (i:=2) rfl).sl rfl rfl (by simp only[bE,aR,aE]; omega) (by simp only[bE,aR,aE]; omega) λl9 _ c=>have c:=c.n3;vx (inc (by omega))<|q (i+1) _ _ _ ⟨rfl,by omega,?_⟩ (by omega);rw[E,cM];exact c.pick [0,1]
  ·refine vx (jU (ds:=[_,_,_,_,_,_,_,_]) rfl) ?_;obtain rfl:i=ls.length:=by omega
   rw[dD] at c;refine c.lW Cj ⟨8,0,W0,W0⟩ rfl rfl λM _ c=>have c:=c.n3;c.ap 1 rfl (c.sl (i:=2) rfl).sl rfl rfl (by simp only[bE,aE]; omega) (by simp only[bE,aE]; omega) λO _ c=>?_;obtain⟨Q,rfl⟩:=(c.sl (i:=1) rfl).tW;replace c:=c.n3;exact G Q _ (c.pick [1])
end
def Fr.lc {r o:Nat} {cs:List Value} {u:Value} (H:Fr B r cs) (b:B.p h) (hu:cs[o]?=some u):mH (.pointer (some ⟨r,o,none⟩)) h=some u:=let⟨_,p⟩:=H h b; rV.lc p hu
section
variable {x:Sc} {n k:Value} {a:Ac} {g:lA} {s:Sw} {out:SR}
def Ig (X:B.p h) (hx:CV B s x) (Z:k.oneCell'=true) {u:SH} {l:List Ac} (T:On B λh=>Sl Cj h (jY u) l) {p:List Ac->SP}
  (hp:∀B' J r,S0 B' r J k->U6 B' {s with ph:=p r} J (p r)) (aS:∀r B' v,S6 B' {s with ph:=p r} v->Ed B' v {s with ph:=p r})
  (O:l=[]->∀h1 K,Gr h h1->xM h1 B out K->Cw S.C S.Y I.mt k [qA x] h1 K) (H:∀a r,l=a::r->out=({s with ph:=p r},a,false))
  (hR:xM h B out R):oM.1 (qA x) (jY u) k h R:=by
 obtain⟨t,seq,du,e,nx,ov,ok⟩:=x;have aT:=hx;obtain⟨h1,h2,h3,h4,hn,h6,h7⟩:=hx;dsimp only at hn h1 h2 h3 h4 h6 h7;have Q:k.cells.toList=[k]:=ma Z;cases l with
 | nil=>
  have c:=Cx.jQ h;refine c.v10 λ_ _ c=>c.v1 λ_ _ c=>?_;refine c.nv (cs:=[k]) Q (Ek Z) λ_ _ c=>?_;replace c:=c.n3;refine c.v8 λ_ _ c=>?_;refine c.rc 1 ?_;refine vx ((T _ (B.up X c.gr)).ln)<|vx (pN rfl)<|kV<|c.rc 2 ?_;refine c.rl 0 ?_;refine O rfl _ _ c.gr λv' M _ d bY=>have c:=c.jT d;have c:=c.n5;c.t8 3 λ_ c=>?_;exact hR v' M _ (c.pick [4]) bY
 | cons a r=>
  have e1:=H a r rfl;subst e1;have c:=Cx.jQ h;refine c.v10 λ_ _ c=>c.v1 λG _ c=>?_;refine c.nv (cs:=[k]) Q (Ek Z) λq _ c=>?_;replace c:=c.n3;refine c.v8 λ_ _ c=>?_;refine c.rc 1 ?_;refine vx ((T _ (B.up X c.gr)).ln)<|vx (m6 (by simp only[aH]; omega))<|j7<|c.rl 0 ?_;refine c.rc 1 ?_;refine(T _ (B.up X c.gr)).whole rfl (i:=0) (x:=a) rfl rfl ?_;refine vx rfl<|Kd (x:=⟨t,seq,du,e,nx,ov,ok⟩) (a:=a) hn rfl λU V _ d=>have c:=c.jT d;have c:=c.n6;c.t8 3 λ_ c=>?_;have c:=Cx.pack (L:=[]) (c.pick [4,5,1,2]);refine hR _ [rV U [vj 270 G q],rV V (FT ⟨t,seq,du,e,nx,ov,ok⟩),rV G [jY u],rV q [k]] _ c (aS r _ _ ?_);have E:=aT.le (Bs.jX B [rV U [vj 270 G q],rV V (FT ⟨t,seq,du,e,nx,ov,ok⟩),rV G [jY u],rV q [k]]);exact⟨⟨t,seq,du,e,vj 247 U V,ov,ok⟩,U,V,⟨t,seq,du,e,nx,ov,ok⟩,_,rfl,⟨E.t,E.seq,E.du,E.e,rfl,E.ov,E.ok⟩,rfl,Fr.of (i:=0) rfl,Fr.of (i:=1) rfl,⟨E.t,E.seq,E.du,E.e,E.nx,E.ov,E.ok⟩,hp _ _ _ ⟨G,q,u,a,rfl,Fr.of (i:=2) rfl,T.le (Bs.jX _ _),Fr.of (i:=3) rfl⟩⟩
def N6 (O:B.p h) (Z:CV B s x) (hk:k.oneCell'=true) {l:List Ac} {q:Value} (ht:S0 B l q k) {p:List Ac->SP}
  (hp:∀B' q r,S0 B' r q k->U6 B' {s with ph:=p r} q (p r)) (Q:∀r B' v,S6 B' {s with ph:=p r} v->Ed B' v {s with ph:=p r})
  (H:l=[]->∀h1 K,Gr h h1->xM h1 B out K->Cw S.C S.Y I.mt k [qA x] h1 K) (G:∀a r,l=a::r->out=({s with ph:=p r},a,false))
  (hR:xM h B out R):Cw S.C S.Y I.mt q [qA x,mU g] h R:=by
 obtain⟨rl,rt,u,a,rfl,f1,f2,f3⟩:=ht;refine .inl (.inl ⟨270,#[],#[kC rl,kC rt],rfl,AZ.2 ?_⟩);obtain⟨t,seq,du,e,nx,ov,ok⟩:=x;have T:=Z;obtain⟨h1,h2,h3,h4,hn,h6,h7⟩:=Z;dsimp only at hn;obtain⟨⟨gv,gq,gr⟩,gk⟩:=g;have sub:=λh' U=>(f2 h' U).sub (n:=8) rfl (lo:=some (.int .i64 1)) (hi:=none) (l:=1) (u:=(a::l).length) (.inr ⟨_,_,rfl,rfl⟩) (.inl ⟨rfl,rfl⟩) (by simp only[aH]; omega) (aP _);obtain⟨w,ew,Hw,_⟩:=sub h O;obtain⟨V,rfl⟩:∃V:SH,w=jY V:=by
  obtain⟨a2,cap,e2,_⟩:=Hw;exact⟨(a2,_,cap),e2⟩
 have hu:On B λh=>Sl Cj h (jY V) l:=λh' U=>by
  obtain⟨w',E,J,_⟩:=sub h' U;rw[dD] at J;rw[ew] at E;injection E with E;rw[E];exact J
 have c:=Cx.jQ h;refine c.v10 λ_ _ c=>c.v4 λ_ _ c=>c.v8 λ_ _ c=>?_;refine c.rl 0 ?_;refine vx (f1.lc (B.up O c.gr) (o:=0) rfl)<|vx ew<|vx (f3.lc (B.up O c.gr) (o:=0) rfl)<|oM.2 (Ig (x:=⟨t,seq,du,e,nx,ov,ok⟩) (B.up O c.gr) T hk hu hp Q (λe h1 K g hK=>H e h1 K (Gr.trans c.gr g) hK) G λv' M _ d X=>?_);have c:=c.jT d;replace c:=c.n4;refine c.t8 2 λ_ c=>?_;exact hR v' M _ (c.pick [3]) X
def vU (Z:B.p h) (hx:CV B s x) (hk:k.oneCell'=true) {v:Value} {ho:List Hs × Ac × Bool} (hN:Oe B v g ho) (Q:HD ho) {p:List Hs->SP}
  (hp:∀B' T hs,B.le B'->Q2 B' hs T k->U6 B' {s with ph:=p hs} T (p hs)) (aS:∀hs B' v,S6 B' {s with ph:=p hs} v->Ed B' v {s with ph:=p hs})
  (H:∀t a,ho=([t],a,true)->∀M h1 K,(B.and M).p h1->xM h1 (B.and M) out K->Cw S.C S.Y I.mt k [qA x,.int .i64 t.j8] h1 K) (J:∀hs a,ho=(hs,a,false)->out=({s with ph:=p hs},a,false))
  (hR:xM h B out R):mD.1 (qA x) (.iface 376 v) (mU g) k h R:=by
 obtain⟨t,seq,du,e,nx,ov,ok⟩:=x;have aT:=hx;obtain⟨h1,h2,h3,h4,hn,h6,h7⟩:=hx;dsimp only at hn;have U:k.cells.toList=[k]:=ma hk;obtain⟨⟨gv,gq,gr⟩,gk⟩:=g;obtain⟨hs,a,d⟩:=ho;cases d with
 | true=>
  obtain⟨tt,ht,bY⟩:=Q rfl;dsimp only at ht;subst ht;have c:=Cx.jQ h;refine c.v10 λ_ _ c=>c.v1 λ_ _ c=>c.v4 λ_ _ c=>?_;refine c.nv (cs:=[k]) U (Ek hk) λ_ _ c=>?_;replace c:=c.n4;refine c.v8 λ_ _ c=>?_;refine c.rc 1 ?_;refine c.rl 2 ?_;refine⟨_,_,_,rfl,qD,hN _ _ (B.up Z c.gr) λG M _ dd O=>?_⟩;have c:=c.jT dd;replace c:=c.n6;refine vx rfl<|vx rfl<|vx (v:=.bool true) (rfl)<|c.v8 λ_ _ c=>?_;refine c.w1 1 λ_ c=>?_;refine c.w8 6 λ_ c=>?_;refine kV<|c.rc 1 ?_;refine vB O bY λ_ g=>have c:=c.more g;vx rfl<|vx rfl<|c.rc 3 ?_;refine c.rl 0 ?_;refine H tt a rfl M _ _ ⟨B.up Z c.gr,c.get (i:=5) rfl⟩ λv3 N _ d3 dO=>have c:=c.jT d3;have c:=c.n8;c.t8 4 λ_ c=>?_;exact hR v3 [jR M,jR N] _ (Cx.pack (L:=[]) (c.pick [5,7])) (Ed.le Bs.FW dO)
 | false=>
  have e1:=J hs a rfl;subst e1;have c:=Cx.jQ h;refine c.v10 λ_ _ c=>c.v1 λq _ c=>c.v4 λ_ _ c=>?_;refine c.nv (cs:=[k]) U (Ek hk) λu _ c=>?_;replace c:=c.n4;refine c.v8 λ_ _ c=>?_;refine c.rc 1 ?_;refine c.rl 2 ?_;refine⟨_,_,_,rfl,qD,hN _ _ (B.up Z c.gr) λG M _ dd O=>?_⟩;have c:=c.jT dd;replace c:=c.n6;refine vx rfl<|vx rfl<|vx (v:=.bool false) (rfl)<|c.v8 λ_ _ c=>?_;refine c.w1 1 λ_ c=>?_;refine c.w8 6 λ_ c=>?_;refine j7<|c.rl 0 ?_;refine c.rl 6 ?_;refine vx rfl<|Kd (x:=⟨t,seq,du,e,nx,ov,ok⟩) (a:=a) hn rfl λV X _ d=>have c:=c.jT d;have c:=c.n9;c.t8 4 λ_ c=>?_;have c:=Cx.pack (L:=[]) (c.pick [7,8,1,3,5]);refine hR _ [rV V [vj 259 q u],rV X (FT ⟨t,seq,du,e,nx,ov,ok⟩),rV q [.iface 376 G],rV u [k],jR M] _ c (aS hs _ _ ?_);have E:=aT.le (Bs.jX B [rV V [vj 259 q u],rV X (FT ⟨t,seq,du,e,nx,ov,ok⟩),rV q [.iface 376 G],rV u [k],jR M]);exact⟨⟨t,seq,du,e,vj 247 V X,ov,ok⟩,V,X,⟨t,seq,du,e,nx,ov,ok⟩,_,rfl,⟨E.t,E.seq,E.du,E.e,rfl,E.ov,E.ok⟩,rfl,Fr.of (i:=0) rfl,Fr.of (i:=1) rfl,⟨E.t,E.seq,E.du,E.e,E.nx,E.ov,E.ok⟩,hp _ _ _ (Bs.jX _ _) ⟨q,u,G,rfl,Fr.of (i:=2) rfl,B6.le (Bs.mO (i:=4) rfl) O,Fr.of (i:=3) rfl⟩⟩
def AA (H:B.p h) (U:CV B s x) (V:k.oneCell'=true) {hs:List Hs} {q:Value} (X:Q2 B hs q k) {ho:List Hs × Ac × Bool} (Z:∀v,B6 B hs v->Oe B v g ho) (G:HD ho) {p:List Hs->SP}
  (hp:∀B' q hs,B.le B'->Q2 B' hs q k->U6 B' {s with ph:=p hs} q (p hs)) (J:∀hs B' v,S6 B' {s with ph:=p hs} v->Ed B' v {s with ph:=p hs})
  (u:∀t a,ho=([t],a,true)->∀M h1 K,(B.and M).p h1->xM h1 (B.and M) out K->Cw S.C S.Y I.mt k [qA x,.int .i64 t.j8] h1 K) (E:∀hs a,ho=(hs,a,false)->out=({s with ph:=p hs},a,false))
  (hR:xM h B out R):Cw S.C S.Y I.mt q [qA x,mU g] h R:=by
 obtain⟨ri,rt,O,rfl,f1,f2,f3⟩:=X;refine .inl (.inl ⟨259,#[],#[kC ri,kC rt],rfl,xY.2 ?_⟩);obtain⟨t,seq,du,e,nx,ov,ok⟩:=x;have Q:=U;obtain⟨h1,h2,h3,h4,hn,h6,h7⟩:=U;dsimp only at hn;obtain⟨⟨gv,gq,gr⟩,gk⟩:=g;have c:=Cx.jQ h;refine c.v10 λ_ _ c=>c.v4 λ_ _ c=>c.v8 λ_ _ c=>?_;refine c.rl 0 ?_;refine vx (f1.lc (B.up H c.gr) (o:=0) rfl)<|c.rl 1 ?_;refine vx (f3.lc (B.up H c.gr) (o:=0) rfl)<|mD.2 (vU (x:=⟨t,seq,du,e,nx,ov,ok⟩) (g:=⟨⟨gv,gq,gr⟩,gk⟩) (B.up H c.gr) Q V (Z O f2) G hp J u E λO M _ d T=>?_);have c:=c.jT d;replace c:=c.n4;refine c.t8 2 λ_ c=>?_;exact hR O M _ (c.pick [3]) T
end
def aak (r:Nat):VJ 3 3 (kC r) none none none=some (.slice (some ⟨r,0,none⟩) 3 3):=by rfl
def Cx.arr {r i:Nat} {a b d:W3} (c:Cx F0 h0 h L) (hi:L[i]?=some (rV r (cW a++cW b++cW d))):Sl EW h (.slice (some ⟨r,0,none⟩) 3 3) [a,b,d]:=by
 obtain⟨_,v⟩:=c.rv hi;refine⟨some ⟨r,0,none⟩,3,rfl,aP _,(λe=>by cases e),λj x E=>⟨r,0,rfl,λq u hu=>?_⟩⟩;have key:(cW a++cW b++cW d)[j*3+q]?=some u:=by
  match j,E with
  | 0,E=>
   cases E;match q,hu with
   | 0,hu=>exact hu
   | 1,hu=>exact hu
   | 2,hu=>exact hu
   | q+3,hu=>cases hu
  | 1,E=>
   cases E;match q,hu with
   | 0,hu=>exact hu
   | 1,hu=>exact hu
   | 2,hu=>exact hu
   | q+3,hu=>cases hu
  | 2,E=>
   cases E;match q,hu with
   | 0,hu=>exact hu
   | 1,hu=>exact hu
   | 2,hu=>exact hu
   | q+3,hu=>cases hu
  | j+3,E=>cases E
 have:=v.row (j*3+q) u key;show cl h r (0+j*3+q)=some u;rw[cP] at this⊢;exact this
def C1:∀(l:List W3) (w:W3) (p:Int),mm (l++[w]) p=mm l p++[⟨3,p+l.length,W0,w⟩]
 | [],w,p=>by show [_]=[_];simp
 | x::l,w,p=>by
  rw[dL,mm,C1 l w,mm,dL];congr 3;simp only[aH];congr 1;omega
def Ju (a:Int) (n:Nat):mf a (n+1)=mf a n++(if n=0\/(a+1+n) % 8=0 then [a+1+(n:Int)] else []):=by
 unfold mf;rw[List.range_succ,cM,List.filter_append];congr 1;simp only[bS,dS];by_cases h:n=0\/(a+1+n) % 8=0
 ·rw[if_pos h,eH]
  ·rfl
  ·rw[decide_eq_true_eq];omega
 ·rw[if_neg h,eG]
  ·rfl
  ·rw[decide_eq_true_eq];omega
def yT:∀(l:List W3) (p:Int),(mm l p).length=l.length
 | [],p=>rfl
 | _::l,p=>by rw[mm,aH,yT l,aH]
def Mz (a:Int) (n:Nat):(mf a n).length<=n:=by
 unfold mf;refine cD (iY _ _) ?_;rw[bE,dV];exact aP _
def GI (d:Bool) (l:List Int):(qc d l).length<=l.length+1:=by
 unfold qc;split
 ·rw[aF,bE,aE];exact aP _
 ·exact aO _
section
variable {x:Sc} {a:Ac} {g:lA} {es:List Et} {s:Sw} {b:Bool} {out:SR}
def Uh (u:CV B s x) {j8:Int} (E:xM h B (LD s (decide (j8=1))) R):uy.1 (qA x) (.int .i64 j8) h R:=by
 obtain⟨t,seq,du,e,nx,ov,ok⟩:=x;obtain⟨h1,h2,G,H,q,J,K⟩:=u;dsimp only at q;have c:=Cx.jQ h;refine c.v10 λ_ _ c=>c.v8 λ_ _ c=>?_;refine c.rl 0 ?_;refine vx kU<|DY (x:=⟨t,seq,du,e,nx,ov,ok⟩) q λ_ g=>have c:=c.more g;c.t8 1 λ_ c=>?_;exact(E _).nil ⟨⟨t,seq,du,e,.nilFunc,true,decide (j8=1)⟩,rfl,rfl,rfl,rfl⟩ c.gr
def Xv (U:B.p h) (V:On B Zs) (K:CV B s x) (ht:1<=s.t/\s.t<=3) (hq:1<=s.seq/\s.seq<=16777215) (Z:xM h B (XI s) R):xy.1 (qA x) h R:=by
 obtain⟨t,seq,du,e,nx,ov,ok⟩:=x;have O:=K;obtain⟨h1,h2,X,h4,hn,h6,h7⟩:=K;dsimp only at hn h1 h2 X;subst h1 h2 X;have u:K4 s.t s.seq=true:=decide_eq_true (by omega);have E:kJ s.t s.seq / 16777216=s.t/\kJ s.t s.seq % 16777216=s.seq:=by unfold kJ;omega
 have q:kj (kJ s.t s.seq)=s.t:=by unfold kj;rw[E.1,E.2,if_pos u]
 have G:0<=jP s.t:=by
  unfold jP mR;rw[if_neg (by omega),if_pos (by omega)];omega
 have Q:0<=kJ s.t s.seq/\kJ s.t s.seq<4294967296:=by unfold kJ;omega
 have J:∀B',B.le B'->Oe B' (pY (kG (Hs.new (kJ s.t s.seq) s.kY) (none,0,0) (none,0,0) .nilIface)) qa ([{Hs.new (kJ s.t s.seq) s.kY with nx:=.first}],⟨5,jP s.t,W0,W0⟩,false):=λB' l=>by
  have:=nJ (B:=B') (g:=qa) (hs:=[Hs.new (kJ s.t s.seq) s.kY]) (v:=pY (kG (Hs.new (kJ s.t s.seq) s.kY) (none,0,0) (none,0,0) .nilIface)) (V.le l) Qc ⟨_,_,rfl,λ_ _=>Sl.nil,λ_ _=>Sl.nil⟩ ⟨rfl,aO _,by show 0<=jP (kj (kJ s.t s.seq)); rw[q]; exact G,λx K=>(bF K).elim,Qc,trivial⟩ λs hs ha=>by
   obtain rfl:=aN.1 hs;cases ha
  rw[ye,q] at this;exact this
 have c:=Cx.jQ h;refine c.v10 λ_ _ c=>c.v8 λ_ _ c=>?_;refine jS<|c.rc 0 ?_;refine jS<|c.rc 0 ?_;refine E5 λ_ g=>?_;have c:=c.more g;rw[if_pos u,if_pos u];refine vx rfl<|vx rfl<|jS<|vx (c.vp (i:=0) (ds:=[_,_,_]) rfl rfl rfl)<|jS<|c.rc 0 ?_;refine pF (V _ (B.up U c.gr)) Q λ_ g=>?_;have c:=c.more g;rw[if_pos ⟨by rw[q]; omega,by rw[q]; exact G⟩];refine vx rfl<|vx rfl<|vx (v:=.bool false) rfl<|j7<|c.rl 0 ?_;refine vx (jU (ds:=[_,_,_,_]) rfl)<|mD.2 (vU (s:=s) (x:=⟨s.t,s.seq,s.kY,e,nx,ov,ok⟩) (g:=qa) (p:=λhs=>.own hs) (B.up U c.gr) O rfl (J B (Bs.le_refl B)) (λx=>by cases x) (λ_ _ _ _ H=>H) (λ_ _ _ H=>H) (λ_ _ e=>by cases e) (λhs a e=>by cases e; rfl) λv' M _ d T=>?_);have c:=c.jT d;replace c:=c.n3;refine c.t8 1 λ_ c=>?_;exact Z v' M _ (c.pick [2]) T
def Kt (s:Sw) (l:List Int):od s l=qc s.kY l:=rfl
def Iu (b0:B.p h) (hZ:On B Zs) (hx:CV B s x) (ht:1<=s.t/\s.t<=3) (hq:1<=s.seq/\s.seq<=16777215) (hl:s.es.length<=300) (hR:xM h B (vT s) R):pI.1 (qA x) h R:=by
 obtain⟨t,seq,du,e,nx,ov,ok⟩:=x;have iF:=hx;obtain⟨h1,h2,h3,h4,O,h6,h7⟩:=hx;dsimp only at O h1 h2 h3 h4 h6 h7;subst h1 h2 h3 h6 h7;have iN:mR s.t=104*s.t - 40:=by unfold mR;rw[if_pos (by omega)]
 have hf:(kh s.es).length=1+3*s.es.length:=by
  have:(s.es.flatMap λe=>[DJ e,DI e,Ee e]).length=3*s.es.length:=by
   induction s.es with
   | nil=>rfl
   | cons e r ih=>rw[dE,aF,ih];show 3+_=3*(_+1);omega
  rw[kh,aH,this];omega
 generalize hA:mR s.t=A at iN;have k1:=GI s.kY [A];rw[aE] at k1;have c:=Cx.jQ h;refine c.v10 λV _ c=>c.v8 λX _ c=>?_;refine c.rl 0 ?_;refine NR (x:=⟨s.t,s.seq,s.kY,e,nx,false,false⟩) (hZ _ (B.up b0 c.gr)) O ⟨by show -1000<=(s.t:Int); omega,by show(s.t:Int)<=1000; omega⟩ λ_ g=>?_;have c:=c.more g;rw[show mR (Sc.t ⟨s.t,s.seq,s.kY,e,nx,false,false⟩)=A from hA];refine sV.at (λv h'=>Cx (λ_=>False) h h' [rV V (FT ⟨s.t,s.seq,s.kY,e,nx,false,false⟩),rV X (Y1 o8),kz Cj v (⟨4,A,W0,⟨3,s.seq,0⟩⟩::qc s.kY [A])]) ?_ ?_
 ·refine jS<|c.rc 0 ?_;refine c.rl 0 ?_;refine⟨?_,?_⟩
  ·refine nV (seq:=s.seq) ⟨by omega,by omega⟩ λ_ g=>have c:=c.more g;c.al 0<|vx (jU (ds:=[_,_,_,_,_,_,_,_]) rfl)<|⟨?_,?_⟩
   ·refine c.lW Cj ⟨4,A,W0,⟨3,s.seq,0⟩⟩ rfl rfl λQ _ c=>have c:=c.n3;c.al 0<|c.lW rI A rfl rfl λaT _ c=>have c:=c.n4;c.al 0<|tn (x:=⟨s.t,s.seq,s.kY,e,nx,false,false⟩) (ls:=[A]) O (c.sl (i:=3) rfl).sl (by simp) λkp _ d=>have c:=c.jT d;have c:=c.n5;c.ap 2 rfl (c.sl (i:=4) rfl).sl rfl rfl (by simp only[aE]; omega) (by simp only[aE]; omega) λT _ c=>have c:=c.n5;c.pick [0,1,2]
   ·refine c.lW rI A rfl rfl λaT _ c=>have c:=c.n3;c.al 0<|⟨?_,?_⟩
    ·refine c.lW Cj ⟨4,A,W0,⟨3,s.seq,0⟩⟩ rfl rfl λQ _ c=>have c:=c.n4;c.al 0<|tn (x:=⟨s.t,s.seq,s.kY,e,nx,false,false⟩) (ls:=[A]) O (c.sl (i:=2) rfl).sl (by simp) λkp _ d=>have c:=c.jT d;have c:=c.n5;c.ap 3 rfl (c.sl (i:=4) rfl).sl rfl rfl (by simp only[aE]; omega) (by simp only[aE]; omega) λT _ c=>have c:=c.n5;c.pick [0,1,3]
    ·refine tn (x:=⟨s.t,s.seq,s.kY,e,nx,false,false⟩) (ls:=[A]) O (c.sl (i:=2) rfl).sl (by simp) λkp _ d=>have c:=c.jT d;have c:=c.n4;c.lW Cj ⟨4,A,W0,⟨3,s.seq,0⟩⟩ rfl rfl λQ _ c=>have c:=c.n5;c.ap 4 rfl (c.sl (i:=3) rfl).sl rfl rfl (by simp only[aE]; omega) (by simp only[aE]; omega) λT _ c=>have c:=c.n5;c.pick [0,1,4]
  ·refine c.lW rI A rfl rfl λaT _ c=>have c:=c.n3;c.al 0<|c.ac 0<|nV (seq:=s.seq) ⟨by omega,by omega⟩ λ_ g=>have c:=c.more g;c.al 0<|vx (jU (ds:=[_,_,_,_,_,_,_,_]) rfl)<|⟨?_,?_⟩
   ·refine c.lW Cj ⟨4,A,W0,⟨3,s.seq,0⟩⟩ rfl rfl λQ _ c=>have c:=c.n4;c.al 0<|tn (x:=⟨s.t,s.seq,s.kY,e,nx,false,false⟩) (ls:=[A]) O (c.sl (i:=2) rfl).sl (by simp) λkp _ d=>have c:=c.jT d;have c:=c.n5;c.ap 3 rfl (c.sl (i:=4) rfl).sl rfl rfl (by simp only[aE]; omega) (by simp only[aE]; omega) λT _ c=>have c:=c.n5;c.pick [0,1,3]
   ·refine tn (x:=⟨s.t,s.seq,s.kY,e,nx,false,false⟩) (ls:=[A]) O (c.sl (i:=2) rfl).sl (by simp) λkp _ d=>have c:=c.jT d;have c:=c.n4;c.lW Cj ⟨4,A,W0,⟨3,s.seq,0⟩⟩ rfl rfl λQ _ c=>have c:=c.n5;c.ap 4 rfl (c.sl (i:=3) rfl).sl rfl rfl (by simp only[aE]; omega) (by simp only[aE]; omega) λT _ c=>have c:=c.n5;c.pick [0,1,4]
 ·rintro Z _ c;replace c:=c.n3;refine jS<|c.rc 0 ?_;refine vx (h4 _ (B.up b0 c.gr)).ln<|vx (jU (ds:=[_,_,_]) rfl)<|c.lW EW ⟨s.es.length,0,0⟩ rfl rfl λv32 _ c=>have c:=c.n4;jS<|c.rc 0 ?_;refine vx (h4 _ (B.up b0 c.gr)).ln<|z5.by (λ(i:Nat) u v h'=>v=.int .i64 i/\i<=s.es.length/\Cx (λ_=>False) h h' [rV V (FT ⟨s.t,s.seq,s.kY,e,nx,false,false⟩),rV X (Y1 o8),kz Cj Z (⟨4,A,W0,⟨3,s.seq,0⟩⟩::qc s.kY [A]),kz EW u (kh (s.es.take i) |>.tail.cons ⟨s.es.length,0,0⟩)]) (λi=>s.es.length - i) 0 ⟨rfl,aO _,c⟩ ?_;rintro i u _ h6 ⟨rfl,hi,c⟩ again q;refine vx j9<|lV (λiS=>?_) λiS=>?_
  ·have J:=aB (l:=s.es) (i:=i) (by omega);have U:s.es.take (i+1)=s.es.take i++[s.es[i]'(by omega)]:=by rw[bN,J];rfl
   generalize s.es[i]'(by omega)=et at J U;obtain⟨ea,⟨ev,eq,er⟩,ew,eb⟩:=et;refine(h4 _ (B.up b0 c.gr)).whole rfl J rfl ?_;refine c.v6 λ_ _ c=>?_;refine c.w6 4 λ_ c=>?_;refine c.rl 4 ?_;refine Ir (e:=⟨ea,⟨ev,eq,er⟩,ew,eb⟩) λ_ g=>have c:=c.more g;c.v9 λ_ _ c=>?_;refine c.w9 5 λ_ c=>?_;refine vx (aak _) ?_;have oF:(s.es.take i).length<=300:=by rw[aR];omega
   have bY:((kh (s.es.take i)).tail.cons (⟨s.es.length,0,0⟩:W3)).length<=1000:=by
    have:∀l:List Et,(l.flatMap λe=>[DJ e,DI e,Ee e]).length=3*l.length:=λl=>by
     induction l with
     | nil=>rfl
     | cons e r ih=>rw[dE,aF,ih];show 3+_=3*(_+1);omega
    show((s.es.take i).flatMap λe=>[DJ e,DI e,Ee e]).length+1<=1000;rw[this];omega
   refine c.ap 3 rfl (c.arr (i:=5) (a:=DJ ⟨ea,⟨ev,eq,er⟩,ew,eb⟩) (b:=DI ⟨ea,⟨ev,eq,er⟩,ew,eb⟩) (d:=Ee ⟨ea,⟨ev,eq,er⟩,ew,eb⟩) rfl) rfl rfl (by simp only[aH,aJ] at bY⊢; omega) (by simp only[aH,aJ] at bY⊢; omega) λv44 _ c=>have c:=c.n6;vx (inc (by omega))<|q (i+1) _ _ _ ⟨rfl,by omega,?_⟩ (by omega);have c:=c.pick [0,1,2,3];have ee:(kh (s.es.take (i+1))).tail.cons (⟨s.es.length,0,0⟩:W3)=(kh (s.es.take i)).tail.cons ⟨s.es.length,0,0⟩++[DJ ⟨ea,⟨ev,eq,er⟩,ew,eb⟩,DI ⟨ea,⟨ev,eq,er⟩,ew,eb⟩,Ee ⟨ea,⟨ev,eq,er⟩,ew,eb⟩]:=by
    show⟨s.es.length,0,0⟩::(s.es.take (i+1)).flatMap (λe=>[DJ e,DI e,Ee e])=⟨s.es.length,0,0⟩::(s.es.take i).flatMap (λe=>[DJ e,DI e,Ee e])++_;rw[U,fB];rfl
   rw[ee];exact c
  ·obtain rfl:i=s.es.length:=by omega
   rw[dD] at c;have oR:(kh s.es).tail.cons (⟨s.es.length,0,0⟩:W3)=kh s.es:=rfl;rw[oR] at c;generalize rW:kh s.es=f at c hf;refine vx (c.sl (i:=3) rfl).sl.ln<|Ri.by (λ(i:Nat) ua l v h'=>v=.int .i64 i/\i<=f.length/\Cx (λ_=>False) h h' [rV V (FT ⟨s.t,s.seq,s.kY,e,nx,false,false⟩),rV X (Y1 o8),kz Cj ua ((⟨4,A,W0,⟨3,s.seq,0⟩⟩::qc s.kY [A])++mm (f.take i) (A+1)),kz EW u f,kz rI l (mf A i)]) (λi=>f.length - i) 0 ⟨rfl,aO _,by rw[gM]; show Cx _ _ _ [_,_,kz Cj _ ((⟨4,A,W0,⟨3,s.seq,0⟩⟩::qc s.kY [A])++[]),_,_]; rw[cX]; exact c.nil rI⟩ ?_;rintro i qx lns _ h13 ⟨rfl,hi,c⟩ again q;have hll:=Mz A i;replace c:=c.n5;refine vx j9<|lV (λtO=>?_) λtO=>?_
   ·refine .here ?_;have J:=aB (l:=f) (i:=i) (by omega);have U:f.take (i+1)=f.take i++[f[i]'(by omega)]:=by rw[bN,J];rfl
    have dO:mm (f.take (i+1)) (A+1)=mm (f.take i) (A+1)++[⟨3,A+1+i,W0,f[i]'(by omega)⟩]:=by
     rw[U,C1,aR,iV hi]
    have G:=Ju A i;generalize f[i]'(by omega)=wd at J dO;obtain⟨wv,wq,wr⟩:=wd;refine(c.sl (i:=3) rfl).sl.whole rfl J rfl ?_;refine c.v3 λ_ _ c=>?_;refine c.w3 5 λ_ c=>?_;refine vx (oC (a:=A) (b:=1) ⟨by omega,by omega⟩)<|vx (oC (a:=A+1) (b:=i) ⟨by omega,by omega⟩)<|c.rl 5 ?_;refine vx (jU (ds:=[_,_,_,_,_,_,_,_]) rfl)<|c.lW Cj ⟨3,A+1+i,W0,⟨wv,wq,wr⟩⟩ rfl rfl λv61 _ c=>?_;replace c:=c.n7;have eQ:=yT (f.take i) (A+1);rw[aR] at eQ;refine c.ap 2 rfl (c.sl (i:=6) rfl).sl rfl rfl (by simp only[aF,aH,aJ]; omega) (by simp only[aF,aH,aJ]; omega) λv62 _ c=>?_;rw[cY,<-dO] at c;replace c:=c.n7;refine .here<|vx kU<|lV (λK=>?_) λK=>?_
    ·refine En.br (λE=>?_) λE=>?_
     ·refine c.lW rI (A+1+i) rfl rfl λuS _ c=>have c:=c.n8;c.ap 4 rfl (c.sl (i:=7) rfl).sl rfl rfl (by simp only[aH,aJ]; omega) (by simp only[aH,aJ]; omega) λv73 _ c=>?_;rw[show mf A i++[A+1+(i:Int)]=mf A (i+1) from by rw[G,if_pos (by first | exact .inl (by omega) | exact .inr (of_decide_eq_true E))]] at c;replace c:=c.n8;refine vx (inc (by omega)) ?_;first | exact absurd E (by decide) | exact q (i+1) _ _ _ _ ⟨rfl,by omega,c.pick [0,1,2,3,4]⟩ (by omega) | (have c:=c.pick [0,1,2,3,4]; rw[show mf A i=mf A (i+1) from by rw[G,if_neg (λx=>x.elim (λy=>K (by omega)) (λy=>of_decide_eq_false E y)),cX]] at c; exact q (i+1) _ _ _ _ ⟨rfl,by omega,c⟩ (by omega))
     ·refine vx (inc (by omega)) ?_;first | exact absurd E (by decide) | exact q (i+1) _ _ _ _ ⟨rfl,by omega,c.pick [0,1,2,3,4]⟩ (by omega) | (have c:=c.pick [0,1,2,3,4]; rw[show mf A i=mf A (i+1) from by rw[G,if_neg (λx=>x.elim (λy=>K (by omega)) (λy=>of_decide_eq_false E y)),cX]] at c; exact q (i+1) _ _ _ _ ⟨rfl,by omega,c⟩ (by omega))
    ·refine vx (Ah (by omega) (by decide))<|vx kU<|En.br (λE=>?_) λE=>?_
     ·refine c.lW rI (A+1+i) rfl rfl λuS _ c=>have c:=c.n8;c.ap 4 rfl (c.sl (i:=7) rfl).sl rfl rfl (by simp only[aH,aJ]; omega) (by simp only[aH,aJ]; omega) λv73 _ c=>?_;rw[show mf A i++[A+1+(i:Int)]=mf A (i+1) from by rw[G,if_pos (by first | exact .inl (by omega) | exact .inr (of_decide_eq_true E))]] at c;replace c:=c.n8;refine vx (inc (by omega)) ?_;first | exact absurd E (by decide) | exact q (i+1) _ _ _ _ ⟨rfl,by omega,c.pick [0,1,2,3,4]⟩ (by omega) | (have c:=c.pick [0,1,2,3,4]; rw[show mf A i=mf A (i+1) from by rw[G,if_neg (λx=>x.elim (λy=>K (by omega)) (λy=>of_decide_eq_false E y)),cX]] at c; exact q (i+1) _ _ _ _ ⟨rfl,by omega,c⟩ (by omega))
     ·refine vx (inc (by omega)) ?_;first | exact absurd E (by decide) | exact q (i+1) _ _ _ _ ⟨rfl,by omega,c.pick [0,1,2,3,4]⟩ (by omega) | (have c:=c.pick [0,1,2,3,4]; rw[show mf A i=mf A (i+1) from by rw[G,if_neg (λx=>x.elim (λy=>K (by omega)) (λy=>of_decide_eq_false E y)),cX]] at c; exact q (i+1) _ _ _ _ ⟨rfl,by omega,c⟩ (by omega))
   ·refine c.rl 0 ?_;obtain rfl:i=f.length:=by omega
    rw[dD] at c;have eQ:=yT f (A+1);have hk2:=GI s.kY (mf A f.length);refine tn (x:=⟨s.t,s.seq,s.kY,e,nx,false,false⟩) (ls:=mf A f.length) O (c.sl (i:=4) rfl).sl (by omega) λkp2 _ d=>have c:=c.jT d;have c:=c.n6;c.ap 2 rfl (c.sl (i:=5) rfl).sl rfl rfl (by simp only[aF,aH]; omega) (by simp only[aF,aH]; omega) λv79 _ c=>have c:=c.n6;jS<|c.rc 0 ?_;refine nV (seq:=s.seq) ⟨by omega,by omega⟩ λ_ g=>have c:=c.more g;vx (jU (ds:=[_,_,_,_,_,_,_,_]) rfl)<|c.lW Cj ⟨4,A,W0,⟨0,s.seq,0⟩⟩ rfl rfl λv86 _ c=>have c:=c.n7;c.ap 2 rfl (c.sl (i:=6) rfl).sl rfl rfl (by simp only[aF,aH,aJ]; omega) (by simp only[aF,aH,aJ]; omega) λv87 _ c=>have c:=c.n7;c.rl 0 ?_;refine c.lW rI A rfl rfl λv91 _ c=>have c:=c.n8;tn (x:=⟨s.t,s.seq,s.kY,e,nx,false,false⟩) (ls:=[A]) O (c.sl (i:=7) rfl).sl (by simp) λkp3 _ d=>have c:=c.jT d;have c:=c.n9;c.ap 2 rfl (c.sl (i:=8) rfl).sl rfl rfl (by simp only[aF,aH,aJ]; omega) (by simp only[aF,aH,aJ]; omega) λv93 _ c=>?_;obtain⟨u9,rfl⟩:=(c.sl (i:=2) rfl).tW;replace c:=c.n9;refine c.rl 0 ?_;have aS:((⟨4,A,W0,⟨3,s.seq,0⟩⟩::qc s.kY [A])++mm f (A+1)++qc s.kY (mf A f.length)++[⟨4,A,W0,⟨0,s.seq,0⟩⟩]++qc s.kY [A]:List Ac)=mX s:=by
     unfold mX Dk;rw[hA,rW];rfl
    have c:=Cx.pack (L:=[_,_]) (c.pick [0,1,2]);rw[aS] at c;have hb1:=c.get (i:=2) rfl;refine oM.2 (Ig (B:=B.and [kz Cj (jY u9) (mX s)]) (x:=⟨s.t,s.seq,s.kY,e,nx,false,false⟩) (s:=s) (p:=λl=>.qx l) (out:=vT s) ⟨B.up b0 c.gr,hb1⟩ (iF.le (Bs.jX _ _)) rfl (On.sl (i:=0) rfl) (λ_ _ _ H=>H) (λ_ _ _ H=>H) (λe=>by unfold mX at e; cases e) (λa r e=>by unfold vT; rw[e]; rfl) λv' M _ d ok2=>?_);have c:=c.jT d;replace c:=c.n4;refine c.t8 1 λ_ c=>?_;exact hR v' [jR [kz Cj (jY u9) (mX s)],jR M] _ (Cx.pack (L:=[]) (c.pick [2,3])) (Ed.le Bs.FW ok2)
end
section
variable {x:Sc} {a:Ac} {g:lA} {es:List Et} {s:Sw} {out:SR}
def O7 (G:B.p h) (H:On B Zs) (E:CV B s x) (J:1<=s.t/\s.t<=3) (K:1<=s.seq/\s.seq<=16777215) (O:s.es.length<=300) {v:Value} (Q:xM h B (vT s) R):sY.1 (qA x) v h R:=by
 obtain⟨t,seq,du,e,nx,ov,ok⟩:=x;have q:=E;obtain⟨h1,h2,V,X,T,Z,h7⟩:=E;dsimp only at T;have c:=Cx.jQ h;refine c.v10 λ_ _ c=>c.v8 λ_ _ c=>?_;refine c.rl 0 ?_;refine pI.2 (Iu (x:=⟨t,seq,du,e,nx,ov,ok⟩) (B.up G c.gr) H q J K O λU M _ d u=>?_);have c:=c.jT d;replace c:=c.n3;refine c.t8 1 λ_ c=>?_;exact Q U M _ (c.pick [2]) u
def Ro (U:B.p h) (X:On B Zs) (hx:CV B s x) (ht:1<=s.t/\s.t<=3) (hq:1<=s.seq/\s.seq<=16777215) (hl:s.es.length<=300) (hg:Ww g.w) (G:xM h B (ug s g.w) R):uB.1 (qA x) (mU g) h R:=by
 obtain⟨t,seq,du,e,nx,ov,ok⟩:=x;have J:=hx;obtain⟨h1,h2,h3,h4,hn,h6,h7⟩:=hx;dsimp only at hn h1 h2 h3 h4 h6 h7;obtain⟨⟨gv,u,gr⟩,gk⟩:=g;obtain⟨dO,eQ,iF⟩:=hg;dsimp only at dO eQ iF;subst h1 h2 h3;unfold ug at G;dsimp only at G;have O:NY .i64 (.int .u32 u)=some (.int .i64 u):=by
  show some (Value.int .i64 (IntKind.i64.wrap u))=_;rw[EN ⟨by omega,by omega⟩]
 by_cases V:s.seq<=u
 ·rw[if_pos V] at G;have c:=Cx.jQ h;refine c.v10 λ_ _ c=>c.v4 λ_ _ c=>c.v8 λ_ _ c=>?_;refine jS<|vx (c.vp (i:=1) (ds:=[_,_,_]) rfl rfl rfl)<|c.v3 λ_ _ c=>?_;refine c.w3 3 λ_ c=>?_;refine jS<|c.rc 3 ?_;refine jS<|c.rc 0 ?_;refine vx (V9 (a:=s.seq) ⟨by omega,by omega⟩)<|vx (s0 V)<|kV<|c.rl 0 ?_;refine DY (x:=⟨s.t,s.seq,s.kY,e,nx,ov,ok⟩) hn λ_ g=>have c:=c.more g;c.t8 2 λ_ c=>?_;exact(G _).nil ⟨⟨s.t,s.seq,s.kY,e,.nilFunc,true,false⟩,rfl,rfl,rfl,rfl⟩ c.gr
 rw[if_neg V] at G;by_cases c2:K4 s.t u=true
 ·by_cases Z:gv=0\/gv=1
  ·rw[if_neg (λx=>x.elim (λy=>by rw[c2] at y; cases y) λy=>y Z)] at G;have iS:=of_decide_eq_true c2;have aS:kJ s.t u / 16777216=s.t/\kJ s.t u % 16777216=u:=by unfold kJ;omega
   have q:kj (kJ s.t u)=s.t:=by unfold kj;rw[aS.1,aS.2,if_pos c2]
   have Q:0<=jP s.t:=by
    unfold jP mR;rw[if_neg (by omega),if_pos (by omega)];omega
   have aT:0<=kJ s.t u/\kJ s.t u<4294967296:=by unfold kJ;omega
   have K:∀B',B.le B'->Oe B' (pY (kG (Hs.new (kJ s.t u) s.kY) (none,0,0) (none,0,0) .nilIface)) qa ([{Hs.new (kJ s.t u) s.kY with nx:=.first}],⟨5,jP s.t,W0,W0⟩,false):=λB' l=>by
    have:=nJ (B:=B') (g:=qa) (hs:=[Hs.new (kJ s.t u) s.kY]) (v:=pY (kG (Hs.new (kJ s.t u) s.kY) (none,0,0) (none,0,0) .nilIface)) (X.le l) Qc ⟨_,_,rfl,λ_ _=>Sl.nil,λ_ _=>Sl.nil⟩ ⟨rfl,aO _,by show 0<=jP (kj (kJ s.t u)); rw[q]; exact Q,λx hx=>(bF hx).elim,Qc,trivial⟩ λs hs ha=>by
     obtain rfl:=aN.1 hs;cases ha
    rw[ye,q] at this;exact this
   have c:=Cx.jQ h;refine c.v10 λ_ _ c=>c.v4 λ_ _ c=>c.v8 λ_ _ c=>?_;refine jS<|vx (c.vp (i:=1) (ds:=[_,_,_]) rfl rfl rfl)<|c.v3 λ_ _ c=>?_;refine c.w3 3 λ_ c=>?_;refine jS<|c.rc 3 ?_;refine jS<|c.rc 0 ?_;refine vx (V9 (a:=s.seq) ⟨by omega,by omega⟩)<|vx (oV V)<|j7<|jS<|c.rc 0 ?_;refine jS<|c.rc 3 ?_;refine vx O<|E5 λ_ g=>?_;have c:=c.more g;rw[if_pos c2,if_pos c2];refine vx rfl<|vx rfl ?_;refine .here<|vx (v:=.bool false) rfl<|j7<|jS<|c.rc 3 ?_;refine vx mh<|lV (λbY=>?_) λbY=>?_
   ·refine jS<|c.rc 3 ?_;refine vx (BM (show gv=1 from Z.resolve_left bY))<|j7<|jS<|vx (c.vp (i:=0) (ds:=[_,_,_]) rfl rfl rfl)<|jS<|c.rc 0 ?_;refine pF (X _ (B.up U c.gr)) aT λ_ g=>?_;have c:=c.more g;rw[if_pos ⟨by rw[q]; omega,by rw[q]; exact Q⟩];refine vx rfl<|vx rfl<|vx (v:=.bool false) rfl<|j7<|c.rl 0 ?_;refine vx (jU (ds:=[_,_,_,_]) rfl)<|mD.2 (vU (s:=s) (x:=⟨s.t,s.seq,s.kY,e,nx,ov,ok⟩) (g:=qa) (p:=λhs=>.last hs) (B.up U c.gr) J rfl (K B (Bs.le_refl B)) (λx=>by cases x) (λ_ _ _ _ H=>H) (λ_ _ _ H=>H) (λ_ _ e=>by cases e) (λhs a e=>by cases e; rfl) λT M _ d E=>?_);have c:=c.jT d;replace c:=c.n5;refine c.t8 2 λ_ c=>?_;exact G T M _ (c.pick [4]) E
   ·refine j7<|jS<|vx (c.vp (i:=0) (ds:=[_,_,_]) rfl rfl rfl)<|jS<|c.rc 0 ?_;refine pF (X _ (B.up U c.gr)) aT λ_ g=>?_;have c:=c.more g;rw[if_pos ⟨by rw[q]; omega,by rw[q]; exact Q⟩];refine vx rfl<|vx rfl<|vx (v:=.bool false) rfl<|j7<|c.rl 0 ?_;refine vx (jU (ds:=[_,_,_,_]) rfl)<|mD.2 (vU (s:=s) (x:=⟨s.t,s.seq,s.kY,e,nx,ov,ok⟩) (g:=qa) (p:=λhs=>.last hs) (B.up U c.gr) J rfl (K B (Bs.le_refl B)) (λx=>by cases x) (λ_ _ _ _ H=>H) (λ_ _ _ H=>H) (λ_ _ e=>by cases e) (λhs a e=>by cases e; rfl) λT M _ d E=>?_);have c:=c.jT d;replace c:=c.n5;refine c.t8 2 λ_ c=>?_;exact G T M _ (c.pick [4]) E
  ·rw[if_pos (.inr Z)] at G;have c:=Cx.jQ h;refine c.v10 λ_ _ c=>c.v4 λ_ _ c=>c.v8 λ_ _ c=>?_;refine jS<|vx (c.vp (i:=1) (ds:=[_,_,_]) rfl rfl rfl)<|c.v3 λ_ _ c=>?_;refine c.w3 3 λ_ c=>?_;refine jS<|c.rc 3 ?_;refine jS<|c.rc 0 ?_;refine vx (V9 (a:=s.seq) ⟨by omega,by omega⟩)<|vx (oV V)<|j7<|jS<|c.rc 0 ?_;refine jS<|c.rc 3 ?_;refine vx O<|E5 λ_ g=>?_;have c:=c.more g;rw[if_pos c2,if_pos c2];refine vx rfl<|vx rfl ?_;refine .here<|vx (v:=.bool false) rfl<|j7<|jS<|c.rc 3 ?_;refine vx (E7 (λe=>Z (.inl e)))<|kV<|jS<|c.rc 3 ?_;refine vx (E7 λe=>Z (.inr e))<|kV<|c.rl 0 ?_;refine pI.2 (Iu (x:=⟨s.t,s.seq,s.kY,e,nx,ov,ok⟩) (B.up U c.gr) X J ht hq hl λT M _ d E=>?_);have c:=c.jT d;replace c:=c.n5;refine c.t8 2 λ_ c=>?_;exact G T M _ (c.pick [4]) E
 ·have iN:K4 s.t u=false:=by simpa using c2
  rw[if_pos (.inl iN)] at G;have c:=Cx.jQ h;refine c.v10 λ_ _ c=>c.v4 λ_ _ c=>c.v8 λ_ _ c=>?_;refine jS<|vx (c.vp (i:=1) (ds:=[_,_,_]) rfl rfl rfl)<|c.v3 λ_ _ c=>?_;refine c.w3 3 λ_ c=>?_;refine jS<|c.rc 3 ?_;refine jS<|c.rc 0 ?_;refine vx (V9 (a:=s.seq) ⟨by omega,by omega⟩)<|vx (oV V)<|j7<|jS<|c.rc 0 ?_;refine jS<|c.rc 3 ?_;refine vx O<|E5 λ_ g=>?_;have c:=c.more g;rw[if_neg c2,if_neg c2];refine vx rfl<|vx rfl ?_;refine .here<|vx (v:=.bool true) rfl<|kV<|kV<|c.rl 0 ?_;refine pI.2 (Iu (x:=⟨s.t,s.seq,s.kY,e,nx,ov,ok⟩) (B.up U c.gr) X J ht hq hl λT M _ d E=>?_);have c:=c.jT d;replace c:=c.n5;refine c.t8 2 λ_ c=>?_;exact G T M _ (c.pick [4]) E
def p9 (G:CV B s x) (u:∀h1 K,Gr h h1->xM h1 B out K->Cw S.C S.Y I.mt x.nx [mU g] h1 K) (H:xM h B out R):lH.1 (qA x) (mU g) h R:=by
 obtain⟨t,seq,du,e,nx,ov,ok⟩:=x;obtain⟨h1,h2,Q,T,J,E,U⟩:=G;dsimp only at J E u;subst E;obtain⟨⟨V,X,gr⟩,Z⟩:=g;obtain⟨so,a,d⟩:=out;have c:=Cx.jQ h;refine c.v10 λ_ _ c=>c.v4 λ_ _ c=>c.v8 λ_ _ c=>?_;refine jS<|c.rc 0 ?_;refine j7<|jS<|c.rc 0 ?_;refine c.rl 1 ?_;refine u _ _ c.gr λO M _ d2 q=>have c:=c.jT d2;have c:=c.n4;c.t8 2 λ_ c=>?_;exact H O M _ (c.pick [3]) q
def yg (H:B.p h) {y:Sc} {q:Value} {u E:Nat} (f1:Fr B u [q]) (f2:Fr B E (FT y)) (J:∀h1 K,Gr h h1->xM h1 B out K->Cw S.C S.Y I.mt q [qA y,mU g] h1 K) (O:xM h B out R):Cw S.C S.Y I.mt (vj 247 u E) [mU g] h R:=by
 refine .inl (.inl ⟨247,#[],#[kC u,kC E],rfl,CH.2 ?_⟩);obtain⟨⟨T,U,gr⟩,V⟩:=g;obtain⟨so,a,d⟩:=out;have c:=Cx.jQ h;refine c.v4 λ_ _ c=>c.v8 λ_ _ c=>?_;refine vx (f1.lc (B.up H c.gr) (o:=0) rfl)<|vx (f2.ld (B.up H c.gr) rfl)<|c.rl 0 ?_;refine J _ _ c.gr λQ M _ d2 G=>have c:=c.jT d2;have c:=c.n3;c.t8 1 λ_ c=>?_;exact O Q M _ (c.pick [2]) G
def Pb {v:Value} {ok:Bool} (hv:SwX B s v (.over ok)) (u:∀h',Gr h h'->R (.tuple #[.bool ok,.bool true]) h'):qd.1 (.iface 327 v) h R:=by
 obtain⟨x,rfl,h1,h2,E⟩:=hv;obtain⟨t,seq,du,e,nx,ov,q⟩:=x;dsimp only at h1 h2 E;subst h1 h2;have c:=Cx.jQ h;refine vx (v:=.tuple #[qA ⟨t,seq,du,e,nx,true,q⟩,.bool true]) (by simp[FV])<|vx rfl<|vx (v:=.bool true) (rfl)<|c.v10 λ_ _ c=>?_;refine c.Yb 0 λ_ c=>?_;refine .here<|kV<|jS<|c.rc 0 ?_;refine kV<|jS<|c.rc 0 ?_;exact u _ c.gr
def C4 {v:Value} {t:TypeId} (q:¬t=327) (u:∀h',Gr h h'->R (.tuple #[.bool false,.bool false]) h'):qd.1 (.iface t v) h R:=by
 have c:=Cx.jQ h;refine vx (v:=.tuple #[.agg WG,.bool false]) (by simp[FV,q])<|vx rfl<|vx (v:=.bool false) (rfl)<|c.v10 λ_ _ c=>?_;refine c.Yb 0 λ_ c=>?_;exact .here<|j7<|j7<|u _ c.gr
end
structure ZA (s:Sw):Prop where
 t:1<=s.t/\s.t<=3
 seq:1<=s.seq/\s.seq<=16777215
 es:s.es.length<=300
def QE:SP->Prop
 | .last hs=>Du hs/\∀s∈hs,s.nx=.again->s.i<s.es.length
 | .own hs=>Du hs/\∀s∈hs,s.nx=.again->s.i<s.es.length
 | .pO=>True
 | .qx _=>True
 | _=>False
section
variable {x:Sc} {n k:Value} {a:Ac} {g:lA} {es:List Et} {s:Sw} {b:Bool} {v:Value}
def XM (T:B.p h) (hZ:On B Zs) (hv:Ed B v s) (ok:ZA s) (q:QE s.ph) (hg:Ww g.w) (hR:xM h B (kP s g) R):lH.1 v (mU g) h R:=by
 obtain⟨k1,k2,k3⟩:=ok;unfold Ed at hv;cases u:s.ph with
 | pO=>
  rw[u] at hv;obtain⟨x,y,rfl,V,E,Q⟩:=hv;have X:kP s g=ug s g.w:=by unfold kP;rw[u]
  rw[X] at hR;refine p9 V (λh1 K gr Z=>?_) hR;rw[E];exact .inl (.inl ⟨_,#[qA y],#[],rfl,uB.2 (Ro (B.up T gr) hZ Q k1 k2 k3 hg Z)⟩)
 | last hs=>
  rw[u] at hv q;obtain⟨x,r1,r2,y,aS,rfl,V,E,f1,f2,Q,U⟩:=hv;rw[u] at U;refine p9 V (λh1 K gr Z=>?_) hR;rw[E];refine yg (B.up T gr) f1 f2 (λh2 K2 J O=>?_) Z;refine AA (B.up T (Gr.trans gr J)) Q (k:=qt 234) rfl U (ho:=kQ hs g) (p:=λhs=>.last hs) (λv hv=>nJ hZ hg hv q.1 q.2) (pA q.1) (λ_ _ _ _ H=>H) (λ_ _ _ H=>H) (λt a e M h3 K3 b3 G=>?_) (λaT a e=>?_) O
  ·have X:kP s g=vT s:=by
    unfold kP;rw[u];dsimp only;rw[e]
   rw[X] at G;exact .inl (.inl ⟨_,#[],#[],rfl,sY.2 (O7 b3 (hZ.le (Bs.jX _ _)) (Q.le (Bs.jX _ _)) k1 k2 k3 G)⟩)
  ·unfold kP;rw[u];dsimp only;rw[e]
 | qx l=>
  rw[u] at hv q;obtain⟨x,r1,r2,y,aS,rfl,V,E,f1,f2,Q,U⟩:=hv;rw[u] at U;have X:kP s g=BJ s l:=by unfold kP;rw[u]
  rw[X] at hR;refine p9 V (λh1 K gr Z=>?_) hR;rw[E];refine yg (B.up T gr) f1 f2 (λh2 K2 J O=>?_) Z;refine N6 (B.up T (Gr.trans gr J)) Q (k:=qt 256) rfl U (p:=λl=>.qx l) (λ_ _ _ H=>H) (λ_ _ _ H=>H) (λe h3 K3 bY G=>?_) (λa r e=>by subst e; rfl) O;subst e;exact .inl (.inl ⟨_,#[],#[],rfl,xy.2 (Xv (B.up T (Gr.trans gr (Gr.trans J bY))) hZ Q k1 k2 G)⟩)
 | own hs=>
  rw[u] at hv q;obtain⟨x,r1,r2,y,aS,rfl,V,E,f1,f2,Q,U⟩:=hv;rw[u] at U;refine p9 V (λh1 K gr Z=>?_) hR;rw[E];refine yg (B.up T gr) f1 f2 (λh2 K2 J O=>?_) Z;refine AA (B.up T (Gr.trans gr J)) Q (k:=qt 271) rfl U (ho:=kQ hs g) (p:=λhs=>.own hs) (λv hv=>nJ hZ hg hv q.1 q.2) (pA q.1) (λ_ _ _ _ H=>H) (λ_ _ _ H=>H) (λt a e M h3 K3 b3 G=>?_) (λaT a e=>?_) O
  ·have X:kP s g=LD s (decide (t.j8=1)):=by
    unfold kP;rw[u];dsimp only;rw[e];rfl
   rw[X] at G;exact .inl (.inl ⟨_,#[],#[],rfl,uy.2 (Uh (Q.le (Bs.jX _ _)) G)⟩)
  ·unfold kP;rw[u];dsimp only;rw[e]
 | over ok=>rw[u] at q;exact q.elim
 | rE=>rw[u] at q;exact q.elim
 | pK w hs=>rw[u] at q;exact q.elim
 | qv=>rw[u] at q;exact q.elim
 | sv=>rw[u] at q;exact q.elim
 | send l ok=>rw[u] at q;exact q.elim
def zt (t:Int) (seq:Int) (du:Bool) (e:SH) (nx:Value):Sc:=⟨t,seq,du,e,nx,false,false⟩
def Ua {e:Et} (u:Zs h) {r:Nat} (H:kc 3 (kC r) h=some vL) (q:∀h',Gr h h'->kc 3 (kC r) h'=some vL) (hm:0<=e.at'/\e.at'<=10000) (E:∀h',Gr h h'->R (.bool (!oG e.at')) h'):BW.1 (vE e) (kC r) h R:=by
 obtain⟨G,⟨ev,eq,J⟩,K,eb⟩:=e;dsimp only at hm;have c:=Cx.jQ h;refine c.v6 λ_ _ c=>?_;refine vx (q _ c.gr)<|jS<|c.rc 0 ?_;refine o7 (a:=G) ⟨by omega,by omega⟩ _ _ (u.gr c.gr) λ_ g=>have c:=c.more g;vx rfl<|E _ c.gr
def UP {t seq:Int} {du:Bool} (O:Zs h) (hs:Sl EE h v es) (ok:NE es) (ht:1<=t/\t<=3) (hq:1<=seq/\seq<=16777215)
  (H:∀e J K h',Cx (λ_=>False) h h' [kz EE (jY e) es,rV J [.func (.func 219) #[qA (zt t seq du e .nilFunc)] #[]],rV K (FT (zt t seq du e (vj 220 J K)))]->R (.tuple #[.iface 327 (qA (zt t seq du e (vj 220 J K))),.int .i64 0]) h'):S.C 208 [vL,(.int .i64 t),(.int .i64 seq),(.bool du),v] h R:=by
 refine Lh.2 ?_;have hlen:=ok.len;have G:mK es=true:=by
  have:∀(n i:Nat),es.length - i=n->mK (es.drop i)=true:=λn=>by
   induction n with
   | zero=>intro i h;exact qI (by omega)
   | succ n U=>
    intro i h;by_cases h2:i+1<es.length
    ·have Q:=aB (l:=es) (i:=i) (by omega);have T:=aB (l:=es) (i:=i+1) h2;rw[AF Q T,U (i+1) (by omega),jH];exact decide_eq_true (iW (ok.Gm i _ _ Q T))
    ·exact qI (by omega)
  exact this _ 0 rfl
 have u:∀e∈es,0<=e.at'/\e.at'<=1000:=λe he=>Bv (ok.may e he);have c:=Cx.jQ h;refine c.v3 λM _ c=>?_;refine c.rl 0 ?_;refine lM _ _ (O.gr c.gr) λ_ g=>have c:=c.more g;vx (v:=.bool false) rfl<|j7 ?_;refine .here<|vx (lL (by omega))<|j7<|jS<|c.rc 0 ?_;refine vx (pW (show ¬(3:Int)<t by omega))<|j7<|vx (lL (by omega))<|j7<|vx (pW (show ¬(16777215:Int)<seq by omega))<|j7<|yy (hs.gr c.gr) ok.old (by omega) λ_ g=>?_;have c:=c.more g;rw[ok.VB];refine vx (v:=.bool false) rfl<|j7<|Fv (hs.gr c.gr) (λh' a b R g V X H=>.inl (.inl ⟨216,#[],#[],rfl,BC.2 (XR (by have:=u a V; have:=u b X; constructor <;> omega) H)⟩)) (by omega) λ_ g=>?_;have c:=c.more g;rw[G];refine vx (v:=.bool false) (rfl)<|j7<|vx rfl<|Rq (q:=λe=>!oG e.at') (hs.gr c.gr) (λh' e R g he H=>.inl (.inl ⟨217,#[],#[kC M],rfl,BW.2 (Ua ((O.gr c.gr).gr g) (c.more g |>.vl (i:=0) rfl rfl) (λZ g2=>(c.more g).more g2 |>.vl (i:=0) rfl rfl) (by have:=u e he; omega) H)⟩)) (by omega) λ_ g=>?_;have c:=c.more g;rw[show es.any (λe=>!oG e.at')=false from by
  rw[iG];intro e he;rw[ok.may e he];decide]
 refine j7 ?_;refine .here<|c.rl 0 ?_;refine⟨?_,?_⟩
 ·refine Ky (hs.gr c.gr) (by omega) λe _ d=>have c:=c.jT d;have c:=c.n2;c.al 0<|vx (jU (ds:=[_,_,_,_,_,_,_,_,_,_]) rfl)<|c.v10 λ_ _ c=>?_;refine c.al 0<|c.Yb 2 λ_ c=>?_;refine c.rl 2 ?_;refine vx rfl<|c.v1 λE _ c=>?_;refine c.w1 3 λ_ c=>?_;refine vx rfl<|jS<|c.VT 2 λ_ c=>?_;refine c.rl 2 ?_;exact vx rfl<|H e _ _ _ (c.pick [1,3,2])
 ·refine c.v10 λ_ _ c=>?_;refine c.al 0<|Ky (hs.gr c.gr) (by omega) λe _ d=>have c:=c.jT d;have c:=c.n3;c.al 0<|vx (jU (ds:=[_,_,_,_,_,_,_,_,_,_]) rfl)<|c.Yb 1 λ_ c=>?_;refine c.rl 1 ?_;refine vx rfl<|c.v1 λE _ c=>?_;refine c.w1 3 λ_ c=>?_;refine vx rfl<|jS<|c.VT 1 λ_ c=>?_;refine c.rl 1 ?_;exact vx rfl<|H e _ _ _ (c.pick [2,3,1])
def Uf {t seq:Int} {du:Bool} {e:SH} {q u:Nat} (H:1<=t/\t<=3) (c:Cx F h h [jR [rV q [.func (.func 219) #[qA (zt t seq du e .nilFunc)] #[]],rV u (FT (zt t seq du e (vj 220 q u)))]]) (G:∀h',Ch F h h'->Zs h')
  (E:∀h',Cx F h h' [jR []]->R (.tuple #[.iface 327 (qA (zt t seq du e (.func (.func 219) #[qA (zt t seq du e .nilFunc)] #[]))),qZ ⟨5,mR t,W0,W0⟩,.bool false]) h'):Bh.1 (mU g) (kC q) (kC u) h R:=by
 obtain⟨⟨J,K,gr⟩,M⟩:=g;unfold zt at c E;have c:=Cx.unpack (L:=[]) c;replace c:Cx _ _ _ [_,_]:=c;refine c.v4 λ_ _ c=>c.v8 λ_ _ c=>?_;refine c.rc 0 ?_;refine jS<|c.VT 1 λ_ c=>?_;refine c.rl 1 ?_;refine vx rfl<|c.rl 1 ?_;refine NR (x:=⟨t,seq,du,e,.func (.func 219) #[qA ⟨t,seq,du,e,.nilFunc,false,false⟩] #[],false,false⟩) (G _ c.gr) rfl ⟨by show -1000<=t; omega,by show t<=1000; omega⟩ λ_ g=>have c:=c.more g;c.al 1<|vx (jU (ds:=[_,_,_,_,_,_,_,_]) rfl)<|c.w8 3 λ_ c=>?_;refine c.rl 3 ?_;exact E _ (Cx.BO (L:=[]) (c.pick []))
def OE {t seq:Int} {du:Bool} {e:SH} {q u:Nat} (G:1<=t/\t<=3) (c:Cx F h h [jR [rV q [.func (.func 219) #[qA (zt t seq du e .nilFunc)] #[]],rV u (FT (zt t seq du e (vj 220 q u)))]]) (H:∀h',Ch F h h'->Zs h')
  (J:∀h',Cx F h h' []->R (.tuple #[.iface 327 (qA (zt t seq du e (.func (.func 219) #[qA (zt t seq du e .nilFunc)] #[]))),qZ ⟨5,mR t,W0,W0⟩,.bool false]) h'):lH.1 (qA (zt t seq du e (vj 220 q u))) (mU g) h R:=by
 obtain⟨⟨K,O,gr⟩,Q⟩:=g;replace c:Cx _ _ _ [_]:=c;refine c.v10 λ_ _ c=>c.v4 λ_ _ c=>c.v8 λ_ _ c=>?_;refine jS<|c.rc 1 ?_;refine j7<|jS<|c.rc 1 ?_;refine c.rl 2 ?_;obtain⟨F',c',T,up⟩:=c.sB (i:=0) rfl;refine .inl (.inl ⟨220,#[],#[kC q,kC u],rfl,Bh.2 (Uf (g:=⟨⟨K,O,gr⟩,Q⟩) G c' (λE ch=>H E (T _ ch)) λh' d=>?_)⟩);have c:=up (M:=[]) d;replace c:=c.n4;refine c.t8 3 λ_ c=>?_;exact J _ (c.pick [])
end
def Fz {a b:Int}:bin .add (.int .u32 a) (.int .u32 b)=some (.int .u32 ((a+b) % 4294967296)):=rfl
def YG {a b:W3}:uk (zL [true,true,true] (.agg ⟨cW a⟩) (.agg ⟨cW b⟩))=some (.bool (!decide (a=b))):=by rw[YR]; rfl
section
variable {x:Sc} {k:Value} {a:Ac} {g:lA} {es:List Et} {s:Sw} {b:Bool} {out:SR} {w:W3} {et:Et} {v:Value}
def xM.put {h1:Hp} {s':Sw} {u:Value} {M:List km} {E G:Nat} (T:xM h B (s',a,false) R) (U:CV B s x) (J:x.t=s'.t) (K:x.seq=s'.seq) (O:x.du=s'.kY) (Q:s'.es=s.es)
  (V:U6 (B.and ([rV E [u],rV G (FT x)]++M)) s' u s'.ph) (H:∀B' v,S6 B' s' v->Ed B' v s')
  (c:Cx B1 h h1 ([rV E [u],rV G (FT x)]++M)):R (.tuple #[.iface 327 (qA {x with nx:=vj 247 E G}),qZ a,.bool false]) h1:=by
 have q:=U.le (Bs.jX B ([rV E [u],rV G (FT x)]++M));refine T _ _ _ (Cx.pack (L:=[]) c) (H _ _ ?_);exact⟨_,E,G,x,u,rfl,⟨J,K,O,Q▸q.e,rfl,q.ov,q.ok⟩,rfl,Fr.of (i:=0) rfl,Fr.of (i:=1) rfl,⟨J,K,O,Q▸q.e,q.nx,q.ov,q.ok⟩,V⟩
def Io (O:B.p h) (E:CV B s x) (he:s.es=[et]) (q:xM h B (zS s) R):pG.1 (qA x) h R:=by
 obtain⟨t,seq,du,e,nx,ov,ok⟩:=x;have u:=E;obtain⟨h1,h2,G,J,K,Q,T⟩:=E;dsimp only at K h1 h2 G J Q T;have hE:sE s=et:=by unfold sE;rw[he];rfl
 obtain⟨U,⟨ev,eq,V⟩,X,eb⟩:=et;have c:=Cx.jQ h;refine c.v10 λ_ _ c=>c.v8 λ_ _ c=>?_;refine c.rl 0 ?_;refine jS<|c.rc 0 ?_;refine(J _ (B.up O c.gr)).sN rfl (i:=0) (by rw[he]; rfl) rfl (j:=0) rfl ?_;refine vx (jU (ds:=[_,_,_,_,_,_,_,_]) rfl)<|Kd (x:=⟨t,seq,du,e,nx,ov,ok⟩) (a:=⟨5,U,W0,W0⟩) K rfl λZ r2 _ d=>have c:=c.jT d;have c:=c.n4;c.t8 1 λ_ c=>?_;refine xM.put (s:=s) (s':={s with ph:=.rE}) (M:=[]) (by unfold zS at q; rw[hE] at q; exact q) u h1 h2 G rfl rfl (λ_ _ H=>H) (c.pick [2,3])
def Qu (O:B.p h) (u:CV B s x) (E:xM h B out R) (G:∀h1 K,Gr h h1->xM h1 B out K->qe.1 (qA x) (mW g.w) h1 K):uh.1 (qA x) (mU g) h R:=by
 obtain⟨t,seq,du,e,nx,ov,ok⟩:=x;obtain⟨h1,h2,Q,T,H,U,V⟩:=u;dsimp only at H;obtain⟨⟨X,Z,gr⟩,gk⟩:=g;obtain⟨so,a,d⟩:=out;have c:=Cx.jQ h;refine c.v10 λ_ _ c=>c.v4 λ_ _ c=>c.v8 λ_ _ c=>?_;refine c.rl 0 ?_;refine jS<|vx (c.vp (i:=1) (ds:=[_,_,_]) rfl rfl rfl)<|qe.2 (G _ _ c.gr λJ M _ d2 q=>?_);have c:=c.jT d2;replace c:=c.n4;refine c.t8 2 λ_ c=>?_;exact E J M _ (c.pick [3]) q
def NK (u:CV B s x) (E:xM h B (LD s false) R):qK.1 (qA x) h R:=by
 obtain⟨t,seq,du,e,nx,ov,ok⟩:=x;obtain⟨h1,h2,G,H,q,J,K⟩:=u;dsimp only at q;have c:=Cx.jQ h;refine c.v10 λ_ _ c=>c.v8 λ_ _ c=>?_;refine c.rl 0 ?_;refine DY (x:=⟨t,seq,du,e,nx,ov,ok⟩) q λ_ g=>have c:=c.more g;c.t8 1 λ_ c=>?_;exact(E _).nil ⟨⟨t,seq,du,e,.nilFunc,true,false⟩,rfl,rfl,rfl,rfl⟩ c.gr
def Kc (u:CV B s x) (E:xM h B (LD s true) R):pU.1 (qA x) h R:=by
 obtain⟨t,seq,du,e,nx,ov,ok⟩:=x;obtain⟨h1,h2,G,H,q,J,K⟩:=u;dsimp only at q;have c:=Cx.jQ h;refine c.v10 λ_ _ c=>c.v8 λ_ _ c=>?_;refine c.rl 0 ?_;refine DY (x:=⟨t,seq,du,e,nx,ov,ok⟩) q λ_ g=>have c:=c.more g;c.t8 1 λ_ c=>?_;exact(E _).nil ⟨⟨t,seq,du,e,.nilFunc,true,true⟩,rfl,rfl,rfl,rfl⟩ c.gr
def PL (G:B.p h) (E:CV B s x) (he:s.es=[et]) (H:xM h B (zS s) R):sX.1 (qA x) (mU g) h R:=by
 obtain⟨t,seq,du,e,nx,ov,ok⟩:=x;have q:=E;obtain⟨h1,h2,O,Q,J,T,U⟩:=E;dsimp only at J;obtain⟨⟨V,X,gr⟩,Z⟩:=g;have c:=Cx.jQ h;refine c.v10 λ_ _ c=>c.v4 λ_ _ c=>c.v8 λ_ _ c=>?_;refine c.rl 0 ?_;refine pG.2 (Io (x:=⟨t,seq,du,e,nx,ov,ok⟩) (B.up G c.gr) q he λK M _ d u=>?_);have c:=c.jT d;replace c:=c.n4;refine c.t8 2 λ_ c=>?_;exact H K M _ (c.pick [3]) u
def Ip (s:Sw) (w:W3) (st:Int):SR:=if ¬st=4 then zS s else({s with ph:=.qv},⟨6,(sE s).at',w,⟨w.v,w.j8,0⟩⟩,false)
def QA (J:B.p h) (K:CV B s x) (he:s.es=[et]) {st:Int} (u:xM h B (Ip s w st) R):uV.1 (qA x) (mW w) (.int .i64 st) h R:=by
 obtain⟨t,seq,du,e,nx,ov,ok⟩:=x;have E:=K;obtain⟨h1,h2,O,Q,T,X,Z⟩:=K;dsimp only at T h1 h2 O Q X Z;have hE:sE s=et:=by unfold sE;rw[he];rfl
 obtain⟨ea,⟨ev,eq,er⟩,ew,eb⟩:=et;obtain⟨U,V,wr⟩:=w;unfold Ip at u;rw[hE] at u;have c:=Cx.jQ h;refine c.v10 λ_ _ c=>c.v3 λ_ _ c=>c.v8 λ_ _ c=>?_;refine vx mh<|lV (λq=>?_) λq=>?_
 ·refine c.rl 0 ?_;rw[if_pos q] at u;refine pG.2 (Io (x:=⟨t,seq,du,e,nx,ov,ok⟩) (B.up J c.gr) E he λv' M _ d G=>?_);have c:=c.jT d;replace c:=c.n4;refine c.t8 2 λ_ c=>?_;exact u v' M _ (c.pick [3]) G
 ·refine c.rl 0 ?_;refine jS<|c.rc 0 ?_;refine(Q _ (B.up J c.gr)).sN rfl (i:=0) (by rw[he]; rfl) rfl (j:=0) rfl ?_;refine c.rl 1 ?_;refine jS<|c.rc 1 ?_;refine jS<|c.rc 1 ?_;refine vx (jU (ds:=[_,_,_]) rfl)<|vx (jU (ds:=[_,_,_,_,_,_,_,_]) rfl) ?_;rw[if_neg q] at u;refine Kd (x:=⟨t,seq,du,e,nx,ov,ok⟩) (a:=⟨6,ea,⟨U,V,wr⟩,⟨U,V,0⟩⟩) T rfl λr1 r2 _ d=>have c:=c.jT d;have c:=c.n5;c.t8 2 λ_ c=>?_;exact xM.put (s:=s) (s':={s with ph:=.qv}) (M:=[]) u E h1 h2 O rfl rfl (λ_ _ H=>H) (c.pick [3,4])
def Uy (E:B.p h) (G:CV B s x) (he:s.es=[et]) {st:Int} {r:Nat} (hw:Fr B r (cW w)) (H:xM h B (Ip s w st) R):uI.1 (qA x) (.int .i64 st) (kC r) h R:=by
 obtain⟨t,seq,du,e,nx,ov,ok⟩:=x;have q:=G;obtain⟨h1,h2,J,K,O,Q,T⟩:=G;dsimp only at O h1 h2 J K Q T;have c:=Cx.jQ h;refine c.v10 λ_ _ c=>c.v8 λ_ _ c=>?_;refine c.rl 0 ?_;refine vx (hw.ld (B.up E c.gr) rfl)<|uV.2 (QA (x:=⟨t,seq,du,e,nx,ov,ok⟩) (B.up E c.gr) q he λU M _ d u=>?_);have c:=c.jT d;replace c:=c.n3;refine c.t8 1 λ_ c=>?_;exact H U M _ (c.pick [2]) u
def SC (X:B.p h) (hZ:On B Zs) (hx:CV B s x) (he:s.es=[et]) (hw:Ww w) (O:xM h B (yH s w) R):qe.1 (qA x) (mW w) h R:=by
 obtain⟨t,seq,du,e,nx,ov,ok⟩:=x;have T:=hx;obtain⟨h1,h2,h3,h4,hn,h6,h7⟩:=hx;dsimp only at hn h1 h2 h3 h4 h6 h7;have hE:sE s=et:=by unfold sE;rw[he];rfl
 have aT:cE et=cE (sE s):=by rw[hE]
 obtain⟨u,⟨ev,eq,er⟩,ew,eb⟩:=et;obtain⟨Q,E,wr⟩:=w;obtain⟨bY,dO,G⟩:=hw;dsimp only at bY dO G;unfold yH at O;dsimp only at O;rw[hE] at O;by_cases Z:¬kj wr=0/\0<=jP (kj wr)
 ·rw[if_pos Z] at O;have aS:∀B',B.le B'->Oe B' (pY (kG (Hs.new wr s.kY) (none,0,0) (none,0,0) .nilIface)) qa ([{Hs.new wr s.kY with nx:=.first}],⟨5,jP (kj wr),W0,W0⟩,false):=λB' l=>by
   have:=nJ (B:=B') (g:=qa) (hs:=[Hs.new wr s.kY]) (v:=pY (kG (Hs.new wr s.kY) (none,0,0) (none,0,0) .nilIface)) (hZ.le l) Qc ⟨_,_,rfl,λ_ _=>Sl.nil,λ_ _=>Sl.nil⟩ ⟨rfl,aO _,Z.2,λx hx=>(bF hx).elim,Qc,trivial⟩ λs hs ha=>by
    obtain rfl:=aN.1 hs;cases ha
   rw[ye] at this;exact this
  have c:=Cx.jQ h;refine c.v10 λ_ _ c=>c.v3 λq _ c=>c.v8 λ_ _ c=>?_;refine jS<|c.rc 0 ?_;refine(h4 _ (B.up X c.gr)).whole rfl (i:=0) (by rw[he]; rfl) rfl ?_;refine c.v6 λ_ _ c=>?_;refine c.w6 3 λ_ c=>?_;refine .here<|jS<|c.rc 1 ?_;refine xo G λ_ g=>have c:=c.more g;vx rfl<|vx rfl<|vx (E7 Z.1)<|kV<|jS<|vx (c.vp (i:=0) (ds:=[_,_,_]) rfl rfl rfl)<|jS<|c.rc 1 ?_;refine jS<|c.rc 0 ?_;refine pF (hZ _ (B.up X c.gr)) G λ_ g=>?_;have c:=c.more g;rw[if_pos Z];refine vx rfl<|vx rfl<|vx (v:=.bool true) rfl<|kV<|c.rl 0 ?_;refine vx (jU (ds:=[_,_,_,_]) rfl)<|vx rfl ?_;have c:=Cx.pack (L:=[_,_,_]) (M:=[rV q (cW ⟨Q,E,wr⟩)]) (c.pick [0,2,3,1]);refine mD.2 (vU (B:=B.and [rV q (cW ⟨Q,E,wr⟩)]) (s:=s) (x:=⟨t,seq,du,e,nx,ov,ok⟩) (g:=qa) (p:=λhs=>.pK ⟨Q,E,wr⟩ hs) ⟨B.up X c.gr,c.get (i:=3) rfl⟩ (T.le (Bs.jX _ _)) rfl (by have:=aS (B.and [rV q (cW ⟨Q,E,wr⟩)]) (Bs.jX _ _); rw[h3]; exact this) (λx=>by cases x) (λB' iS hs l H=>⟨q,H,Fr.le (Fr.of (i:=0) rfl) l⟩) (λ_ _ _ H=>H) (λ_ _ e=>by cases e) (λhs a e=>by cases e; rfl) λv' M _ d V=>?_);have c:=c.jT d;replace c:=c.n5;refine c.t8 1 λ_ c=>?_;exact O v' [jR [rV q (cW ⟨Q,E,wr⟩)],jR M] _ (Cx.pack (L:=[]) (c.pick [3,4])) (Ed.le Bs.FW V)
 ·rw[if_neg Z] at O;have c:=Cx.jQ h;refine c.v10 λeQ _ c=>c.v3 λq _ c=>c.v8 λiF _ c=>?_;refine jS<|c.rc 0 ?_;refine(h4 _ (B.up X c.gr)).whole rfl (i:=0) (by rw[he]; rfl) rfl ?_;refine c.v6 λU _ c=>?_;refine c.w6 3 λ_ c=>?_;refine HJ.at (λh'=>Cx (λ_=>False) h h' [rV eQ (FT ⟨t,seq,du,e,nx,ov,ok⟩),rV q (cW ⟨Q,E,wr⟩),rV iF pJ.toList,rV U (cE ⟨u,⟨ev,eq,er⟩,ew,eb⟩)]) ?_ ?_
  ·refine jS<|c.rc 1 ?_;refine xo G λ_ g=>have c:=c.more g;vx rfl<|vx rfl<|vx mh<|lV (λiN=>?_) λiN=>?_
   ·refine jS<|vx (c.vp (i:=0) (ds:=[_,_,_]) rfl rfl rfl)<|jS<|c.rc 1 ?_;refine jS<|c.rc 0 ?_;refine pF (hZ _ (B.up X c.gr)) G λ_ g=>?_;have c:=c.more g;rw[if_neg Z];exact vx rfl<|vx rfl<|vx (v:=.bool false) rfl<|j7<|c.pick [0,1,2,3]
   ·exact c.pick [0,1,2,3]
  ·rintro _ c;replace c:=c.n4;refine c.rl 1 ?_;refine jS<|vx (c.vp (i:=3) (ds:=[_,_,_]) rfl rfl rfl)<|vx (YG (a:=⟨Q,E,wr⟩) (b:=⟨ev,eq,er⟩))<|En.br (λJ=>?_) λJ=>?_
   ·refine c.rl 0 ?_;refine c.rl 0 ?_;refine jS<|c.rc 3 ?_;refine c.lW rI u rfl rfl λoF _ c=>have c:=c.n5;c.al 0<|c.al 0<|tn (x:=⟨t,seq,du,e,nx,ov,ok⟩) (ls:=[u]) hn (c.sl (i:=4) rfl).sl (by simp) λkp _ d=>have c:=c.jT d;have c:=c.n6;c.al 0<|?_;rw[if_pos (show ¬(⟨Q,E,wr⟩:W3)=⟨ev,eq,er⟩ from λx=>by rw[decide_eq_true x] at J; cases J)] at O;have hk:qc du [u]=od s [u]:=by rw[Kt,<-h3]
    have c:=Cx.pack (L:=[_,_,_,_]) (M:=[kz Cj (jY kp) (qc du [u])]) (c.pick [0,1,2,3,5]);refine oM.2 (Ig (B:=B.and [kz Cj (jY kp) (qc du [u])]) (x:=⟨t,seq,du,e,nx,ov,ok⟩) (s:=s) (p:=λl=>.send l false) (l:=qc du [u]) (out:=uO s false (od s [u])) ⟨B.up X c.gr,c.get (i:=4) rfl⟩ (T.le (Bs.jX _ _)) rfl (On.sl (i:=0) rfl) (λ_ _ _ H=>H) (λ_ _ _ H=>H) (λe h1 K g hK=>?_) (λa r e=>by rw[<-hk,e]; rfl) λv' M _ d V=>?_)
    ·rw[<-hk,e] at hK;exact .inl (.inl ⟨_,#[],#[],rfl,qK.2 (NK (T.le (Bs.jX _ _)) hK)⟩)
    have c:=c.jT d;replace c:=c.n6;refine c.t8 2 λ_ c=>?_;exact O v' [jR [kz Cj (jY kp) (qc du [u])],jR M] _ (Cx.pack (L:=[]) (c.pick [4,5])) (Ed.le Bs.FW V)
   ·refine c.rl 0 ?_;refine jS<|c.rc 3 ?_;refine c.rl 1 ?_;refine jS<|c.rc 3 ?_;refine jS<|c.rc 1 ?_;refine vx (Fz (a:=E) (b:=1))<|vx (jU (ds:=[_,_,_]) rfl)<|vx (jU (ds:=[_,_,_,_,_,_,_,_]) rfl)<|vx rfl ?_;rw[if_neg (show ¬¬(⟨Q,E,wr⟩:W3)=⟨ev,eq,er⟩ from λx=>by rw[decide_eq_false x] at J; cases J)] at O;refine Kd (x:=⟨t,seq,du,e,nx,ov,ok⟩) (a:=⟨6,u,⟨Q,E,wr⟩,⟨ew,(E+1) % 4294967296,0⟩⟩) hn rfl λr1 r2 _ d=>have c:=c.jT d;have c:=c.n6;c.t8 2 λ_ c=>?_;exact xM.put (s:=s) (s':={s with ph:=.sv}) (M:=[rV U (cE ⟨u,⟨ev,eq,er⟩,ew,eb⟩)]) O T h1 h2 h3 rfl ⟨U,rfl,by show Fr _ U (cE (sE s)); rw[<-aT]; exact Fr.of (i:=2) rfl⟩ (λ_ _ H=>H) (c.pick [4,5,3])
def Uv (J:B.p h) (hZ:On B Zs) (Q:CV B s x) (he:s.es=[et]) {r:Nat} (T:Fr B r (cE (sE s))) (U:Ww g.w) (G:xM h B (if g.ok=true then uO s true (od s [(sE s).at']) else yH s g.w) R):uW.1 (qA x) (mU g) (kC r) h R:=by
 obtain⟨t,seq,du,e,nx,ov,ok⟩:=x;have u:=Q;obtain⟨h1,h2,V,h4,X,h6,h7⟩:=Q;dsimp only at X h1 h2 V h4 h6 h7;have hE:sE s=et:=by unfold sE;rw[he];rfl
 rw[hE] at T G;obtain⟨q,⟨ev,eq,er⟩,ew,eb⟩:=et;obtain⟨⟨gv,gq,gr⟩,gk⟩:=g;dsimp only at U G;cases gk with
 | false=>
  rw[if_neg (by decide)] at G;have c:=Cx.jQ h;refine c.v10 λ_ _ c=>c.v4 λ_ _ c=>c.v8 λ_ _ c=>?_;refine jS<|c.rc 1 ?_;refine vx (v:=.bool true) rfl<|kV<|c.rl 0 ?_;refine jS<|vx (c.vp (i:=1) (ds:=[_,_,_]) rfl rfl rfl)<|qe.2 (SC (x:=⟨t,seq,du,e,nx,ov,ok⟩) (B.up J c.gr) hZ u he U λO M _ d E=>?_);have c:=c.jT d;replace c:=c.n4;refine c.t8 2 λ_ c=>?_;exact G O M _ (c.pick [3]) E
 | true=>
  rw[if_pos rfl] at G;have c:=Cx.jQ h;refine c.v10 λ_ _ c=>c.v4 λ_ _ c=>c.v8 λ_ _ c=>?_;refine jS<|c.rc 1 ?_;refine vx (v:=.bool false) rfl<|j7<|c.rl 0 ?_;refine c.rl 0 ?_;refine vx (show fa 0 (kC r)=some (kC r) from rfl)<|vx (T.lc (B.up J c.gr) (o:=0) rfl)<|c.lW rI q rfl rfl λaS _ c=>have c:=c.n4;c.al 0<|c.al 0<|tn (x:=⟨t,seq,du,e,nx,ov,ok⟩) (ls:=[q]) X (c.sl (i:=3) rfl).sl (by simp) λkp _ d=>have c:=c.jT d;have c:=c.n5;c.al 0<|?_;have Z:qc du [q]=od s [q]:=by rw[Kt,<-V]
  have c:=Cx.pack (L:=[_,_,_]) (M:=[kz Cj (jY kp) (qc du [q])]) (c.pick [0,1,2,4]);refine oM.2 (Ig (B:=B.and [kz Cj (jY kp) (qc du [q])]) (x:=⟨t,seq,du,e,nx,ov,ok⟩) (s:=s) (p:=λl=>.send l true) (l:=qc du [q]) (out:=uO s true (od s [q])) ⟨B.up J c.gr,c.get (i:=3) rfl⟩ (u.le (Bs.jX _ _)) rfl (On.sl (i:=0) rfl) (λ_ _ _ H=>H) (λ_ _ _ H=>H) (λe h1 K g hK=>?_) (λa r e=>by rw[<-Z,e]; rfl) λO M _ d E=>?_)
  ·rw[<-Z,e] at hK;exact .inl (.inl ⟨_,#[],#[],rfl,pU.2 (Kc (u.le (Bs.jX _ _)) hK)⟩)
  have c:=c.jT d;replace c:=c.n5;refine c.t8 2 λ_ c=>?_;exact G O [jR [kz Cj (jY kp) (qc du [q])],jR M] _ (Cx.pack (L:=[]) (c.pick [3,4])) (Ed.le Bs.FW E)
def P5 (s:Sw):Prop:=(∃e,s.es=[e])/\match s.ph with
 | .rE=>True
 | .pK _ hs=>Du hs/\∀s∈hs,s.nx=.again->s.i<s.es.length
 | .qv=>True
 | .sv=>True
 | .send _ _=>True
 | _=>False
def Uo (V:B.p h) (hZ:On B Zs) (hv:Ed B v s) (ok:P5 s) (hg:Ww g.w) (hR:xM h B (kP s g) R):lH.1 v (mU g) h R:=by
 obtain⟨⟨et,he⟩,q⟩:=ok;unfold Ed at hv;cases E:s.ph with
 | rE=>
  rw[E] at hv;obtain⟨x,r1,r2,y,T,rfl,X,O,f1,f2,U,J⟩:=hv;rw[E] at J;refine p9 X (λh1 K gr Z=>?_) hR;rw[O];refine yg (B.up V gr) f1 f2 (λh2 K2 G u=>?_) Z;have e1:kP s g=yH s g.w:=by unfold kP;rw[E]
  rw[e1] at u;have J:T=qt 228:=J;subst J;exact .inl (.inl ⟨_,#[],#[],rfl,uh.2 (Qu (B.up V (Gr.trans gr G)) U u λh3 K3 aS Q=>SC (B.up V (Gr.trans (Gr.trans gr G) aS)) hZ U he hg Q)⟩)
 | pK w hs=>
  rw[E] at hv q;obtain⟨x,r1,r2,y,T,rfl,X,O,f1,f2,U,J⟩:=hv;rw[E] at J;obtain⟨aT,J,fw⟩:=J;refine p9 X (λh1 K gr Z=>?_) hR;rw[O];refine yg (B.up V gr) f1 f2 (λh2 K2 G u=>?_) Z;refine AA (B.up V (Gr.trans gr G)) U (k:=oI 248 aT) rfl J (ho:=kQ hs g) (p:=λhs=>.pK w hs) (λv hv=>nJ hZ hg hv q.1 q.2) (pA q.1) (λ_ _ _ l H=>⟨aT,H,fw.le l⟩) (λ_ _ _ H=>H) (λt a e M h3 K3 b3 Q=>?_) (λbY a e=>?_) u
  ·have e1:kP s g=Ip s w t.j8:=by
    unfold kP;rw[E];dsimp only;rw[e];rfl
   rw[e1] at Q;exact .inl (.inl ⟨_,#[],#[_],rfl,uI.2 (Uy b3 (U.le (Bs.jX _ _)) he (fw.le (Bs.jX _ _)) Q)⟩)
  ·unfold kP;rw[E];dsimp only;rw[e]
 | qv=>
  rw[E] at hv;obtain⟨x,r1,r2,y,T,rfl,X,O,f1,f2,U,J⟩:=hv;rw[E] at J;refine p9 X (λh1 K gr Z=>?_) hR;rw[O];refine yg (B.up V gr) f1 f2 (λh2 K2 G u=>?_) Z;have e1:kP s g=zS s:=by unfold kP;rw[E]
  rw[e1] at u;have J:T=qt 269:=J;subst J;exact .inl (.inl ⟨_,#[],#[],rfl,sX.2 (PL (B.up V (Gr.trans gr G)) U he u)⟩)
 | sv=>
  rw[E] at hv;obtain⟨x,r1,r2,y,T,rfl,X,O,f1,f2,U,J⟩:=hv;rw[E] at J;obtain⟨re,rfl,fe⟩:=J;refine p9 X (λh1 K gr Z=>?_) hR;rw[O];refine yg (B.up V gr) f1 f2 (λh2 K2 G u=>?_) Z;have e1:kP s g=(if g.ok=true then uO s true (od s [(sE s).at']) else yH s g.w):=by unfold kP;rw[E]
  rw[e1] at u;exact .inl (.inl ⟨_,#[],#[_],rfl,uW.2 (Uv (B.up V (Gr.trans gr G)) hZ U he fe hg u)⟩)
 | send l ok=>
  rw[E] at hv;obtain⟨x,r1,r2,y,T,rfl,X,O,f1,f2,U,J⟩:=hv;rw[E] at J;have e1:kP s g=uO s ok l:=by unfold kP;rw[E]
  rw[e1] at hR;refine p9 X (λh1 K gr Z=>?_) hR;rw[O];refine yg (B.up V gr) f1 f2 (λh2 K2 G u=>?_) Z;refine N6 (B.up V (Gr.trans gr G)) U (k:=qt (if ok then 254 else 252)) rfl J (p:=λl=>.send l ok) (λ_ _ _ H=>H) (λ_ _ _ H=>H) (λe h3 K3 aS Q=>?_) (λa r e=>by subst e; rfl) u;subst e;cases ok with
  | true=>exact .inl (.inl ⟨_,#[],#[],rfl,pU.2 (Kc U Q)⟩)
  | false=>exact .inl (.inl ⟨_,#[],#[],rfl,qK.2 (NK U Q)⟩)
 | pO=>rw[E] at q;exact q.elim
 | last hs=>rw[E] at q;exact q.elim
 | own hs=>rw[E] at q;exact q.elim
 | qx l=>rw[E] at q;exact q.elim
 | over ok=>rw[E] at q;exact q.elim
end
structure Pc where
 du:Bool
 at':SH
 i:Int
 rd:Int
 now:SH
 pC:SH
 held:W3
 mA:Value
 ov:Bool
 nx:Value
abbrev pkC (x:Pc):List Value:=[.int .i64 3,.int .i64 6,.int .i64 4,.bool x.du,.bool true,jY x.at',.int .i64 x.i,.int .i64 x.rd,jY x.now,jY x.pC,.int .i64 x.held.v,.int .u32 x.held.j8,.int .u32 x.held.ref,x.mA,.bool x.ov,x.nx]
abbrev Gz (x:Pc):Value:=.agg ⟨pkC x⟩
structure KC (B:Bs) (s:Pk) (x:Pc):Prop where
 du:x.du=s.kY
 at':On B λh=>Sl rI h (jY x.at') s.at'
 i:x.i=s.i
 rd:x.rd=s.rounds
 now:On B λh=>Sl EW h (jY x.now) s.now
 pC:On B λh=>Sl EW h (jY x.pC) s.pC
 held:x.held=s.held
 mA:x.mA.oneCell'=true
 nx:x.nx.oneCell'=true
def KC.le {s:Pk} {x:Pc} (H:KC B s x) (l:B.le B'):KC B' s x:=⟨H.du,H.at'.le l,H.i,H.rd,H.now.le l,H.pC.le l,H.held,H.mA,H.nx⟩
def XT (B:Bs) (x:Pc):PP->Prop
 | .found=>x.nx=qt 223/\x.ov=false
 | .mQ hs=>x.nx=qt 236/\x.ov=false/\∃q,x.mA=.iface 376 q/\B6 B hs q
 | .back=>x.nx=qt 260/\x.ov=false
 | .flush=>x.nx=qt 262/\x.ov=false
 | .last=>x.nx=qt 275/\x.ov=false
 | .over=>x.ov=true
def XT.le {x:Pc} (l:B.le B'):∀{p:PP},XT B x p->XT B' x p
 | .found,H=>H
 | .mQ _,⟨a,b,q,c,d⟩=>⟨a,b,q,c,d.le l⟩
 | .back,H=>H
 | .flush,H=>H
 | .last,H=>H
 | .over,H=>H
def K7 (B:Bs) (v:Value) (s:Pk):Prop:=∃x,v=Gz x/\KC B s x/\XT B x s.ph
def K7.le {v:Value} {s:Pk} (H:K7 B v s) (l:B.le B'):K7 B' v s:=let⟨x,a,b,c⟩:=H; ⟨x,a,b.le l,c.le l⟩
def PC (h:Hp) (B:Bs) (out:PR) (R:Value->Hp->Prop):Prop:=∀q,Rt B h (λB=>K7 B q out.1) λh'=>R (.tuple #[q,qZ out.2.1]) h'
def PC.ret {out:PR} {x:Pc} (q:PC h B out R) (g:Gr h h') (u:KC B out.1 x) (E:XT B x out.1.ph):R (.tuple #[Gz x,qZ out.2.1]) h':=(q _).nil ⟨x,rfl,u.le (Bs.jX _ _),E.le (Bs.jX _ _)⟩ g
section
variable {x:Pc} {s:Pk} {g:lA}
def Ml {s:Pk} (hi:s.i<s.at'.length):s.at'[s.i]?=some (vg s):=by
 unfold vg;rw[aI,aB hi];rfl
def B5 (H:B.p h) (X:KC B s x) (ho:x.ov=false) (hi:s.i<s.at'.length) (Z:PC h B (uF s) R):nf.1 (Gz x) h R:=by
 obtain⟨du,at',i,rd,now,pC,⟨hv,hq,hr⟩,mA,ov,nx⟩:=x;obtain⟨J,k2,G,K,M,O,Q,T,k9⟩:=X;dsimp only at J k2 G K M O Q T k9 ho;have U:=Ml hi;have c:=Cx.jQ h;refine c.Ag λ_ _ c=>c.Ag λ_ _ c=>c.v8 λ_ _ c=>?_;refine jS<|c.G3 0 λ_ c=>?_;refine c.rl 0 ?_;refine jS<|c.rc 0 ?_;refine jS<|c.rc 0 ?_;obtain⟨r5,o5,V,u,_⟩:=(k2 _ (B.up H c.gr)).ix U (n:=1) rfl (k:=.i64) (z:=i) G;refine vx V<|vx (u.yK rfl)<|vx (jU (ds:=[_,_,_,_,_,_,_,_]) rfl)<|c.I9 1 λ_ c=>?_;refine aQ (by obtain⟨r6,o6,q,E,_⟩:=(k2 _ (B.up H c.gr)).ix U (n:=1) rfl (k:=.i64) (z:=i) G; rw[V] at q; injection q with q; injection q with q; injection q with q; injection q with e7 e8; subst e7 e8; exact E.yK rfl) ?_;refine c.ac 0<|c.ac 0<|c.w8 2 λ_ c=>?_;refine c.rl 1 ?_;refine c.rl 2 ?_;exact Z.ret (x:=⟨du,at',i,rd,now,pC,⟨hv,hq,hr⟩,mA,ov,qt 223⟩) c.gr ⟨J,k2,G,K,M,O,Q,T,rfl⟩ ⟨rfl,ho⟩
def Ps (J:B.p h) (H:KC B s x) (ho:x.ov=false) (hi:s.i<s.at'.length) (K:PC h B (uF s) R):s7.1 (Gz x) (mU g) h R:=by
 obtain⟨du,at',i,rd,now,pC,⟨hv,O,Q⟩,mA,ov,nx⟩:=x;have u:=H;obtain⟨T,k2,U,V,X,Z,k7,k8,k9⟩:=H;dsimp only at T k2 U V X Z k7 k8 k9;obtain⟨⟨gv,gq,gr⟩,gk⟩:=g;have c:=Cx.jQ h;refine c.Ag λ_ _ c=>c.v4 λ_ _ c=>c.Ag λ_ _ c=>c.v8 λ_ _ c=>?_;refine c.rl 0 ?_;refine nf.2 (B5 (x:=⟨du,at',i,rd,now,pC,⟨hv,O,Q⟩,mA,ov,nx⟩) (B.up J c.gr) u ho hi λv' M _ d E=>?_);have c:=c.jT d;obtain⟨x2,rfl,q,G⟩:=E;have n1:=q.mA;have n2:=q.nx;replace c:=c.n5;refine vx rfl<|vx rfl<|c.I9 2 λ_ c=>?_;refine c.w8 3 λ_ c=>?_;refine c.rl 2 ?_;refine c.rl 3 ?_;exact K _ M _ (c.pick [4]) ⟨x2,rfl,q,G⟩
def Jo (E:B.p h) (V:KC B s x) (ho:x.ov=false) (hl:s.at'.length<=1000) (q:PC h B (oQ s) R):qT.1 (Gz x) (mU g) h R:=by
 obtain⟨du,at',i,rd,now,pC,⟨hv,Q,T⟩,mA,ov,nx⟩:=x;obtain⟨G,k2,U,H,J,K,M,O,X⟩:=V;dsimp only at G k2 U H J K M O X ho;obtain⟨⟨gv,gq,gr⟩,gk⟩:=g;subst U;unfold oQ at q;by_cases hi:s.i<s.at'.length
 ·have Z:=Ml hi;rw[if_pos hi] at q;have c:=Cx.jQ h;refine c.Ag λ_ _ c=>c.v4 λ_ _ c=>c.Ag λ_ _ c=>c.v8 λ_ _ c=>?_;refine jS<|c.rc 0 ?_;refine jS<|c.rc 0 ?_;refine vx (k2 _ (B.up E c.gr)).ln<|vx (vF (show(s.i:Int)<(s.at'.length:Int) by omega))<|kV<|jS<|c.rc 0 ?_;refine jS<|c.rc 0 ?_;refine(k2 _ (B.up E c.gr)).one rfl Z rfl (u:=.int .i64 (vg s)) rfl ?_;refine jS<|c.rc 0 ?_;refine vx (inc (by omega))<|jS<|c.G3 0 λ_ c=>?_;refine jS<|c.G3 0 λ_ c=>?_;refine c.rl 0 ?_;refine vx (jU (ds:=[_,_,_,_,_,_,_,_]) rfl)<|c.I9 2 λ_ c=>?_;refine c.w8 3 λ_ c=>?_;refine c.rl 2 ?_;refine c.rl 3 ?_;exact q.ret (x:=⟨du,at',(s.i:Int)+1,rd,now,pC,⟨hv,Q,T⟩,mA,ov,qt 262⟩) c.gr ⟨G,k2,rfl,H,J,K,M,O,rfl⟩ ⟨rfl,ho⟩
 ·rw[if_neg hi] at q;have c:=Cx.jQ h;refine c.Ag λ_ _ c=>c.v4 λ_ _ c=>c.Ag λ_ _ c=>c.v8 λ_ _ c=>?_;refine jS<|c.rc 0 ?_;refine jS<|c.rc 0 ?_;refine vx (k2 _ (B.up E c.gr)).ln<|vx (lL (show ¬(s.i:Int)<(s.at'.length:Int) by omega))<|j7<|jS<|c.G3 0 λ_ c=>?_;refine c.rl 0 ?_;refine vx (jU (ds:=[_,_,_,_,_,_,_,_]) rfl)<|c.I9 2 λ_ c=>?_;refine c.w8 3 λ_ c=>?_;refine c.rl 2 ?_;refine c.rl 3 ?_;exact q.ret (x:=⟨du,at',s.i,rd,now,pC,⟨hv,Q,T⟩,mA,ov,qt 275⟩) c.gr ⟨G,k2,rfl,H,J,K,M,O,rfl⟩ ⟨rfl,ho⟩
def O8 (O:KC B s x) (Q:PC h B (Xo s) R):s6.1 (Gz x) (mU g) h R:=by
 obtain⟨du,at',i,rd,now,pC,⟨hv,T,U⟩,mA,ov,nx⟩:=x;obtain⟨q,k2,u,E,G,H,J,K,M⟩:=O;dsimp only at q k2 u E G H J K M;obtain⟨⟨V,X,gr⟩,Z⟩:=g;have c:=Cx.jQ h;refine c.Ag λ_ _ c=>c.v4 λ_ _ c=>c.Ag λ_ _ c=>c.v8 λ_ _ c=>?_;refine jS<|c.G3 0 λ_ c=>?_;refine c.rl 0 ?_;refine vx (jU (ds:=[_,_,_,_,_,_,_,_]) rfl)<|c.I9 2 λ_ c=>?_;refine c.w8 3 λ_ c=>?_;refine c.rl 2 ?_;refine c.rl 3 ?_;exact Q.ret (x:=⟨du,at',i,rd,now,pC,⟨hv,T,U⟩,mA,true,nx⟩) c.gr ⟨q,k2,u,E,G,H,J,K,M⟩ rfl
end
end Go.En
namespace Go.En
variable {h h0 h':Hp} {F0:Fp} {L:List km}
def So (o:Loop) (st:LoopState) (pd:Option Code):Obj:=.loop {o with state:=st,pending:=pd}
def Cx.aai {i l:Nat} {o:Loop} {st:LoopState} {pd:Option Code} (c:Cx F0 h0 h L) (hi:L[i]?=some (ub l (So o st pd))):Tt o l h:=⟨st,pd,c.obj hi⟩
def Cx.NU {i l:Nat} {o:Loop} {pd:Option Code} (c:Cx F0 h0 h L) (hi:L[i]?=some (ub l (So o .ready pd))) {k:Hp->Prop} (q:∀h',Cx F0 h0 h' (L.set i (ub l (So o .busy pd)))->k h'):Sb (En.NU l h) k:=by
 refine sb ?_ (q _ (c.setObj hi _));unfold En.NU;rw[c.obj hi];rfl
def Cx.Y5 {i l:Nat} {o:Loop} {st:LoopState} {pd:Option Code} (j:Option Code) (c:Cx F0 h0 h L) (hi:L[i]?=some (ub l (So o st pd))) {k:Hp->Prop} (q:∀h',Cx F0 h0 h' (L.set i (ub l (So o (if j.isNone then .ready else .done) j)))->k h'):Sb (En.fin l j h) k:=by
 refine sb ?_ (q _ (c.setObj hi _));unfold En.fin;rw[c.obj hi];rfl
def Cx.Ij {i l:Nat} {o:Loop} {st:LoopState} {pd:Option Code} (c:Cx F0 h0 h L) (hi:L[i]?=some (ub l (So o st pd))) (hs:st≠.busy):∃h',En.Ij l h=some (pd,h')/\Cx F0 h0 h' (L.set i (ub l (So o .exhausted pd))):=by
 refine⟨_,?_,c.setObj hi _⟩;unfold En.Ij;rw[c.obj hi];cases st <;> first | rfl | exact absurd rfl hs
def Cx.Lb {i r:Nat} (c:Cx F0 h0 h L) (hi:L[i]?=some (ub r (.deferred (some [])))) {k:Hp->Prop} (q:∀h',Cx F0 h0 h' (L.set i (ub r (.deferred none)))->k h'):Sb (En.Lb r h) k:=by
 refine sb ?_ (q _ (c.setObj hi _));unfold En.Lb;rw[c.obj hi]
def Cx.rg {g:Value} {round:Nat->List Value->Hp->(Value->Hp->Prop)->Prop} {q:Option Code->Hp->Prop} (c:Cx F0 h0 h L) {f:FuncId} {first cap:List Value} (E:g=.func (.func f) ⟨first⟩ ⟨cap⟩)
  (G:∀l d o h',d=h.size->(∀args h' R,Tt o l h'->round l args h' R->Sy pj l args h' R)->Cx F0 h0 h' (L++[ub d (.deferred (some []))]++[ub l (So o .ready none)])->
   S.C f (first++[.func (.yield l) #[] #[]]++cap) h' λ_ h2=>∃j B,En.Ij l h2=some (j,B)/\q j B):Rg S.C S.Y g h round q:=by
 intro o ho H J;have u:=(c.DV (.deferred (some []))).DV (.loop o);have K:(h.push (.deferred (some []))).size=h.size+1:=by simp
 rw[K] at u;have M:Obj.loop o=So o .ready none:=by unfold So;rw[<-ho,<-H]
 refine⟨f,⟨first⟩,⟨cap⟩,E,?_⟩;rw[M] at u⊢;exact G _ _ o _ rfl J u
end Go.En
namespace Go.En
variable {h h0 h':Hp} {F F0:Fp} {R:Value->Hp->Prop} {L:List km} {B B':Bs}
def XX (a b:Nat):mn (.int .i64 a) (.int .i64 b)=some (.int .i64 ((min a b:Nat):Int)):=by
 unfold mn;dsimp only;congr 2;split <;> omega
def KK {a b:List W3} {i:Nat} {x y:W3} (q:a[i]?=some x) (u:b[i]?=some y):oP (a.take (i+1)) (b.take (i+1))=(oP (a.take i) (b.take i)&&decide (x=y)):=by
 have E:=(aC.1 q).1;have G:=(aC.1 u).1;unfold oP;rw[bN,bN,q,u,List.zip_append (by rw[aR,aR]; omega),List.all_append];simp
def Ii {a b:List W3} {i:Nat} {x y:W3} (q:a[i]?=some x) (u:b[i]?=some y) (h:¬x=y):oP a b=false:=by
 unfold oP;rw[List.all_eq_false];exact⟨(x,y),aG (i:=i) (by rw[eU]; exact⟨q,u⟩),by simpa using h⟩
def Mq (a b:List W3):oP (a.take (min a.length b.length)) (b.take (min a.length b.length))=oP a b:=by
 unfold oP;rw[<-List.zip_eq_zip_take_min]
section
variable {x:Pc} {s:Pk} {v:Value}
def SY (H:B.p h) (V:KC B s x) (hl:s.pC.length<=1000) (J:∀h',Gr h h'->R (.bool (!decide (s.rounds<2)&&oP s.pC s.now)) h'):uU.1 (Gz x) h R:=by
 obtain⟨du,at',i,rd,now,pC,⟨hv,hq,hr⟩,mA,ov,nx⟩:=x;obtain⟨X,k2,Z,U,K,M,k7,k8,k9⟩:=V;dsimp only at X k2 Z U K M k7 k8 k9;subst U;have c:=Cx.jQ h;refine c.Ag λr1 _ c=>c.v1 λr2 _ c=>?_;refine jS<|c.rc 0 ?_;refine vx j9<|lV (λ(e:(s.rounds:Int)<2)=>?_) λ(e:¬(s.rounds:Int)<2)=>?_
 ·refine c.w1 1 λ_ c=>?_;refine c.rc 1 ?_;have:=J _ c.gr;rw[decide_eq_true (show s.rounds<2 by omega)] at this;exact this
 rw[decide_eq_false (show ¬s.rounds<2 by omega),iB,fP] at J;refine jS<|c.rc 0 ?_;refine jS<|c.rc 0 ?_;refine Jq.2<|c.v1 λa2 _ c=>?_;refine c.v1 λb3 _ c=>?_;refine vx rfl ?_;refine c.rg rfl λl d o h3 hd hY c=>?_;subst hd;refine F7.2<|c.rc 2 ?_;refine vx (M _ (B.up H c.gr)).ln ?_;refine c.rc 3 ?_;refine vx (K _ (B.up H c.gr)).ln ?_;refine vx (XX _ _) ?_;refine sO.by (λ(i:Nat) v h'=>v=.int .i64 i/\i<=min s.pC.length s.now.length/\oP (s.pC.take i) (s.now.take i)=true/\Cx (λ_=>False) h h' [rV r1 _,rV r2 [.bool false],rV a2 [jY pC],rV b3 [jY now],ub _ (.deferred (some [])),ub l (So o .ready none)]) (λi=>min s.pC.length s.now.length - i) 0 ⟨rfl,aO _,rfl,c⟩ ?_;rintro i _ h4 ⟨rfl,hi,G,c⟩ again q;refine vx j9<|lV (λO=>?_) λO=>?_
 ·have h1:=aB (l:=s.pC) (i:=i) (by omega);have h2:=aB (l:=s.now) (i:=i) (by omega);have u:=KK h1 h2;have E:=Ii h1 h2;generalize s.pC[i]'(by omega)=w1 at h1 u E;generalize s.now[i]'(by omega)=w2 at h2 u E;refine c.rc 2 ?_;refine(M _ (B.up H c.gr)).whole rfl h1 rfl ?_;refine c.rc 3 ?_;refine(K _ (B.up H c.gr)).whole rfl h2 rfl ?_;refine .inl (.inr ⟨l,rfl,hY _ _ _ (c.aai (i:=5) rfl) ?_⟩);show A2 [_,_] _;unfold A2;refine c.v3 λx3 _ c=>?_;refine c.w3 6 λ_ c=>?_;refine c.v3 λy4 _ c=>?_;refine c.w3 7 λ_ c=>?_;refine c.NU (i:=5) rfl λ_ c=>c.rl 6 ?_;refine c.rl 7 ?_;refine vx (YG (a:=w1) (b:=w2)) ?_;by_cases Q:w1=w2
  ·rw[decide_eq_true Q] at u⊢;refine j7 ?_;refine c.Y5 (i:=5) none rfl λ_ c=>vx rfl<|j7 ?_;refine vx (inc (by omega)) ?_;exact q (i+1) _ _ ⟨rfl,by omega,by rw[u,G]; rfl,c.pick [0,1,2,3,4,5]⟩ (by omega)
  ·rw[decide_eq_false Q];refine kV ?_;replace c:=c.n8;refine c.w1 1 λ_ c=>?_;refine c.Y5 (i:=5) (some .ret) rfl λ_ c=>vx rfl<|kV ?_;obtain⟨T,e,c⟩:=c.Ij (i:=5) rfl (by simp);refine⟨_,_,e,?_⟩;unfold Jp;refine c.Lb (i:=4) rfl λ_ c=>c.rc 1 ?_;have:=J _ c.gr;rw[E Q] at this;exact this
 ·obtain⟨T,e,c⟩:=c.Ij (i:=5) rfl (by simp);refine⟨_,_,e,?_⟩;unfold Jp;replace c:=c.n6;refine c.w1 1 λ_ c=>?_;refine c.Lb (i:=4) rfl λ_ c=>c.rc 1 ?_;have:=J _ c.gr;obtain rfl:i=min s.pC.length s.now.length:=by omega
  rw[<-Mq,G] at this;exact this
end
structure ZZ (s:Pk):Prop where
 ZW:1<=s.at'.length/\s.at'.length<=1000
 rd:s.rounds<=1000000000
 now:s.now.length<=1000
 pC:s.pC.length<=1000
section
variable {x:Pc} {s:Pk} {g:lA} {v:Value} {w:W3}
def PC.of {out:PR} (u:PC h B out R) {q:Value} {M:List km} {h1:Hp} (c:Cx (λ_=>False) h h1 [jR M]) (ok:K7 (B.and M) q out.1):R (.tuple #[q,qZ out.2.1]) h1:=u q M h1 c ok
def RT (b0:B.p h) (hx:KC B s x) (ho:x.ov=false) (ok:ZZ s) (G:PC h B (qR s) R):uK.1 (Gz x) h R:=by
 obtain⟨du,at',i,rd,now,pC,⟨hv,X,Z⟩,mA,ov,nx⟩:=x;obtain⟨k1,k2,k3,k4,O,k6,Q,T,U⟩:=hx;obtain⟨⟨o1,o2⟩,o3,o4,o5⟩:=ok;dsimp only at k1 k2 k3 k4 O k6 Q T U ho;subst ho k4 k1;unfold qR at G;dsimp only at G;have c:=Cx.jQ h;refine c.Ag λ_ _ c=>c.Ag λ_ _ c=>c.v8 λ_ _ c=>?_;refine jS<|c.rc 0 ?_;refine vx (inc (by omega))<|jS<|c.G3 0 λ_ c=>?_;refine .here<|jS<|c.rc 0 ?_;refine kV<|c.rl 0 ?_;refine uU.2 (SY (s:={s with rounds:=s.rounds+1}) (x:=⟨s.kY,at',i,((s.rounds+1:Nat):Int),now,pC,⟨hv,X,Z⟩,mA,false,nx⟩) (B.up b0 c.gr) ⟨rfl,k2,k3,rfl,O,k6,Q,T,U⟩ o5 λ_ g=>?_);have c:=c.more g;dsimp only;generalize H:(!decide (s.rounds+1<2)&&oP s.pC s.now)=al;refine vx rfl<|En.br (λE=>?_) λE=>?_
 ·refine jS<|c.rc 0 ?_;refine jS<|c.G3 0 λ_ c=>?_;refine jS<|c.G3 0 λ_ c=>?_;refine jS<|c.G3 0 λ_ c=>?_;refine c.rl 0 ?_;rw[if_pos (by
   rw[dI] at E;rw[E] at H;rcases Bool.and_eq_false_iff.1 H with h1 | h1
   ·exact .inl (by simpa using h1)
   ·exact .inr h1)] at G
  refine nf.2 (B5 (s:={s with rounds:=s.rounds+1,pC:=s.now,now:=[],i:=0}) (x:=⟨s.kY,at',0,((s.rounds+1:Nat):Int),(none,0,0),now,⟨hv,X,Z⟩,mA,false,nx⟩) (B.up b0 c.gr) ⟨rfl,k2,rfl,rfl,(λ_ _=>Sl.nil),O,Q,T,U⟩ rfl (by dsimp only; omega) λv' M _ d J=>?_);have c:=c.jT d;obtain⟨x2,rfl,q,K⟩:=J;have n1:=q.mA;have n2:=q.nx;replace c:=c.n4;refine vx rfl<|vx rfl<|c.I9 1 λ_ c=>?_;refine c.w8 2 λ_ c=>?_;refine c.rl 1 ?_;refine c.rl 2 ?_;exact G.of (c.pick [3]) ⟨x2,rfl,q,K⟩
 ·refine jS<|c.rc 0 ?_;have V:¬(s.rounds+1<2\/oP s.pC s.now=false):=by
   rw[iA] at E;rw[E] at H;obtain⟨h1,h2⟩:=Bool.and_eq_true_iff.1 H;rintro(h3 | h3)
   ·simp at h1;omega
   ·rw[h2] at h3;cases h3
  rw[if_neg V] at G;refine vx rfl<|En.br (λu=>?_) λu=>?_
  ·refine jS<|c.G3 0 λ_ c=>?_;refine c.rl 0 ?_;refine vx (jU (ds:=[_,_,_,_,_,_,_,_]) rfl)<|c.I9 1 λ_ c=>?_;refine c.w8 2 λ_ c=>?_;refine c.rl 1 ?_;refine c.rl 2 ?_;have u:s.kY=false:=by simpa using u
   rw[if_neg (by rw[u]; decide)] at G;exact G.ret (x:=⟨s.kY,at',i,((s.rounds+1:Nat):Int),now,pC,⟨hv,X,Z⟩,mA,true,nx⟩) c.gr ⟨rfl,k2,k3,rfl,O,k6,Q,T,U⟩ rfl
  ·refine jS<|c.G3 0 λ_ c=>?_;refine c.rl 0 ?_;refine vx (jU (ds:=[_,_,_,_]) rfl) ?_;rw[iA] at u;rw[if_pos u] at G;refine qT.2 (Jo (g:=qa) (s:={s with rounds:=s.rounds+1,i:=0}) (x:=⟨s.kY,at',0,((s.rounds+1:Nat):Int),now,pC,⟨hv,X,Z⟩,mA,false,nx⟩) (B.up b0 c.gr) ⟨rfl,k2,rfl,rfl,O,k6,Q,T,U⟩ rfl o2 λv' M _ d J=>?_);have c:=c.jT d;obtain⟨x2,rfl,q,K⟩:=J;have n1:=q.mA;have n2:=q.nx;replace c:=c.n4;refine vx rfl<|vx rfl<|c.I9 1 λ_ c=>?_;refine c.w8 2 λ_ c=>?_;refine c.rl 1 ?_;refine c.rl 2 ?_;exact G.of (c.pick [3]) ⟨x2,rfl,q,K⟩
def Ji (U:B.p h) (hx:KC B s x) (ho:x.ov=false) (V:x.nx=qt 236) (hi:s.i<s.at'.length) (hl:s.at'.length<=1000) {u:Value} (X:x.mA=.iface 376 u) {q:List Hs × Ac × Bool} (hN:Oe B u g q) (Z:HD q) {out:PR}
  (G:∀hs a,q=(hs,a,false)->out=({s with ph:=.mQ hs},a,false))
  (H:∀t a,q=([t],a,true)->out=if ¬t.j8=4 then uF s else({s with ph:=.back},⟨6,vg s,s.held,⟨s.held.v,s.held.j8,0⟩⟩,false)) (hR:PC h B out R):qG.1 (Gz x) (mU g) h R:=by
 obtain⟨du,at',i,rd,now,pC,⟨hv,hq,hr⟩,mA,ov,nx⟩:=x;obtain⟨k1,k2,J,k4,k5,k6,k7,k8,k9⟩:=hx;dsimp only at k1 k2 J k4 k5 k6 k7 k8 k9 ho V X;subst ho V X;obtain⟨⟨gv,gq,gr⟩,gk⟩:=g;have hp:=Ml hi;obtain⟨hs,a,d⟩:=q;cases d with
 | false=>
  have e1:=G hs a rfl;subst e1;have c:=Cx.jQ h;refine c.Ag λ_ _ c=>c.v4 λ_ _ c=>c.Ag λ_ _ c=>c.v8 λ_ _ c=>?_;refine jS<|c.rc 0 ?_;refine c.rl 1 ?_;refine⟨_,_,_,rfl,qD,hN _ _ (B.up U c.gr) λK M _ dd O=>?_⟩;have c:=c.jT dd;replace c:=c.n5;refine vx rfl<|vx rfl<|vx rfl<|c.v8 λ_ _ c=>?_;refine c.w8 5 λ_ c=>?_;refine jS<|c.G3 0 λ_ c=>?_;refine vx (v:=.bool true) (rfl)<|kV<|c.rl 0 ?_;refine c.rl 5 ?_;refine c.I9 2 λ_ c=>?_;refine c.al 5<|c.w8 3 λ_ c=>?_;refine c.rl 2 ?_;refine c.rl 3 ?_;exact hR.of (c.pick [4]) ⟨⟨du,at',i,rd,now,pC,⟨hv,hq,hr⟩,.iface 376 K,false,_⟩,rfl,KC.le ⟨k1,k2,J,k4,k5,k6,k7,rfl,rfl⟩ (Bs.jX _ _),rfl,rfl,K,rfl,O⟩
 | true=>
  obtain⟨tt,ht,eQ⟩:=Z rfl;dsimp only at ht;subst ht;have e1:=H tt a rfl;subst e1;obtain⟨iF,sat,si,iN,aS,aT,iS,oF⟩:=s;dsimp only at k1 k2 J k4 k5 k6 k7 hi hl hp;subst k7;have c:=Cx.jQ h;refine c.Ag λ_ _ c=>c.v4 λ_ _ c=>c.Ag λ_ _ c=>c.v8 λ_ _ c=>?_;refine jS<|c.rc 0 ?_;refine c.rl 1 ?_;refine⟨_,_,_,rfl,qD,hN _ _ (B.up U c.gr) λK M _ dd O=>?_⟩;have c:=c.jT dd;replace c:=c.n5;refine vx rfl<|vx rfl<|vx rfl<|c.v8 λ_ _ c=>?_;refine c.w8 5 λ_ c=>?_;refine jS<|c.G3 0 λ_ c=>?_;refine vx (v:=.bool false) (rfl)<|j7<|vB O eQ λ_ g=>have c:=c.more g;vx rfl<|vx rfl<|jS<|c.G3 0 λ_ c=>?_;refine vx mh<|lV (λQ=>?_) λQ=>?_
  ·refine c.rl 0 ?_;rw[if_pos Q] at hR;refine nf.2 (B5 (s:=⟨iF,sat,si,iN,aS,aT,⟨hv,hq,hr⟩,oF⟩) (x:=⟨du,at',i,rd,now,pC,⟨hv,hq,hr⟩,.nilIface,false,_⟩) (B.up U c.gr) ⟨k1,k2,J,k4,k5,k6,rfl,rfl,rfl⟩ rfl hi λv' N _ d oR=>?_);have c:=c.jT d;obtain⟨x2,rfl,T,rW⟩:=oR;have n1:=T.mA;have n2:=T.nx;replace c:=c.n7;refine vx rfl<|vx rfl<|c.I9 2 λ_ c=>?_;refine c.w8 3 λ_ c=>?_;refine c.rl 2 ?_;refine c.rl 3 ?_;exact hR.of (c.pick [6]) ⟨x2,rfl,T,rW⟩
  ·refine jS<|c.G3 0 λ_ c=>?_;refine c.rl 0 ?_;refine jS<|c.rc 0 ?_;refine jS<|c.rc 0 ?_;obtain⟨r5,o5,e5,bY,_⟩:=(k2 _ (B.up U c.gr)).ix hp (n:=1) rfl (k:=.i64) (z:=i) J;refine vx e5<|vx (bY.yK rfl)<|jS<|vx (c.vp (i:=0) (ds:=[_,_,_]) rfl rfl rfl)<|jS<|jS<|c.rc 0 ?_;refine jS<|jS<|c.rc 0 ?_;refine vx (jU (ds:=[_,_,_]) rfl)<|vx (jU (ds:=[_,_,_,_,_,_,_,_]) rfl)<|c.I9 2 λ_ c=>?_;refine c.ac 0<|c.ac 0<|aQ (c.vp (i:=0) (ds:=[_,_,_]) rfl rfl rfl) ?_;refine aQ (by obtain⟨r6,o6,E,dO,_⟩:=(k2 _ (B.up U c.gr)).ix hp (n:=1) rfl (k:=.i64) (z:=i) J; rw[e5] at E; injection E with E; injection E with E; injection E with E; injection E with e7 e8; subst e7 e8; exact dO.yK rfl) ?_;refine c.ac 0<|c.ac 0<|c.w8 3 λ_ c=>?_;refine c.rl 2 ?_;refine c.rl 3 ?_;rw[if_neg Q] at hR;exact hR.ret (x:=⟨du,at',i,rd,now,pC,⟨hv,hq,hr⟩,.nilIface,false,qt 260⟩) c.gr ⟨k1,k2,J,k4,k5,k6,rfl,rfl,rfl⟩ ⟨rfl,rfl⟩
def Vo {r:Int} (h:0<=r):0<=kj r:=by
 unfold kj;split
 ·exact Int.ediv_nonneg h (by decide)
 ·exact bA _
def Q1 (Q:B.p h) (hZ:On B Zs) (hx:KC B s x) (ho:x.ov=false) (hi:s.i<s.at'.length) (ok:ZZ s) (hn:s.now.length<1000) (hw:Ww g.w) (O:PC h B (uq s g.w) R):uD.1 (Gz x) (mU g) h R:=by
 obtain⟨du,at',i,rd,now,pC,⟨hv,hq,hr⟩,mA,ov,nx⟩:=x;obtain⟨k1,k2,k3,k4,k5,k6,k7,k8,k9⟩:=hx;obtain⟨o1,o3,o4,o5⟩:=ok;dsimp only at k1 k2 k3 k4 k5 k6 k7 k8 k9 ho;subst ho k3 k1;obtain⟨⟨E,G,wr⟩,gk⟩:=g;dsimp only at hw O;obtain⟨dO,eQ,H⟩:=hw;dsimp only at dO eQ H;have oF:=Vo H.1;unfold uq at O;dsimp only at O;by_cases T:0<kj wr/\0<=jP (kj wr)
 ·rw[if_pos T] at O;have U:∀B',B.le B'->Oe B' (pY (kG (Hs.new wr s.kY) (none,0,0) (none,0,0) .nilIface)) qa ([{Hs.new wr s.kY with nx:=.first}],⟨5,jP (kj wr),W0,W0⟩,false):=λB' l=>by
   have:=nJ (B:=B') (g:=qa) (hs:=[Hs.new wr s.kY]) (v:=pY (kG (Hs.new wr s.kY) (none,0,0) (none,0,0) .nilIface)) (hZ.le l) Qc ⟨_,_,rfl,λ_ _=>Sl.nil,λ_ _=>Sl.nil⟩ ⟨rfl,aO _,T.2,λx hx=>(bF hx).elim,Qc,trivial⟩ λs hs ha=>by
    obtain rfl:=aN.1 hs;cases ha
   rw[ye] at this;exact this
  have c:=Cx.jQ h;refine c.Ag λ_ _ c=>c.v4 λ_ _ c=>c.Ag λ_ _ c=>c.v8 λ_ _ c=>?_;refine jS<|vx (c.vp (i:=1) (ds:=[_,_,_]) rfl rfl rfl)<|c.v3 λ_ _ c=>?_;refine c.w3 4 λ_ c=>?_;refine .here<|jS<|c.rc 4 ?_;refine xo H λ_ g=>have c:=c.more g;vx rfl<|vx rfl<|vx (FL T.1)<|kV<|jS<|vx (c.vp (i:=0) (ds:=[_,_,_]) rfl rfl rfl)<|jS<|c.rc 4 ?_;refine jS<|c.rc 0 ?_;refine pF (hZ _ (B.up Q c.gr)) H λ_ g=>?_;have c:=c.more g;rw[if_pos (show ¬kj wr=0/\0<=jP (kj wr) from⟨by omega,T.2⟩)];refine vx rfl<|vx rfl<|vx (v:=.bool true) rfl<|kV<|c.rl 4 ?_;refine jS<|c.vq 0 rfl (vs:=[_,_,_]) (ds:=[_,_,_,_,_,_,_,_,_,_,_,_,_,_,_,_]) (by exact rfl) (by exact rfl) (by exact rfl) (by exact rfl) (by exact rfl) λ_ c=>?_;replace c:=c.n5;refine jS<|c.G3 0 λ_ c=>?_;refine jS<|c.G3 0 λ_ c=>?_;refine c.rl 0 ?_;refine vx (jU (ds:=[_,_,_,_]) rfl)<|qG.2 (Ji (g:=qa) (s:={s with held:=⟨E,G,wr⟩}) (x:=⟨s.kY,at',s.i,rd,now,pC,⟨E,G,wr⟩,_,false,qt 236⟩) (B.up Q c.gr) ⟨rfl,k2,rfl,k4,k5,k6,rfl,rfl,rfl⟩ rfl rfl hi o1.2 rfl (U B (Bs.le_refl B)) (λx=>by cases x) (λhs a e=>by cases e; rfl) (λ_ _ e=>by cases e) λv' M _ d J=>?_);have c:=c.jT d;obtain⟨V,rfl,q,K⟩:=J;have n1:=q.mA;have n2:=q.nx;replace c:=c.n6;refine vx rfl<|vx rfl<|c.I9 2 λ_ c=>?_;refine c.w8 3 λ_ c=>?_;refine c.rl 2 ?_;refine c.rl 3 ?_;exact O.of (c.pick [5]) ⟨V,rfl,q,K⟩
 ·rw[if_neg T] at O;have c2:¬(¬kj wr=0/\0<=jP (kj wr)):=λx=>T ⟨by omega,x.2⟩;have c:=Cx.jQ h;refine c.Ag λX _ c=>c.v4 λZ _ c=>c.Ag λaS _ c=>c.v8 λaT _ c=>?_;refine jS<|vx (c.vp (i:=1) (ds:=[_,_,_]) rfl rfl rfl)<|c.v3 λbY _ c=>?_;refine c.w3 4 λ_ c=>?_;refine HJ.at (λh'=>Cx (λ_=>False) h h' [rV X (pkC ⟨s.kY,at',s.i,rd,now,pC,⟨hv,hq,hr⟩,mA,false,nx⟩),rV Z [.int .i64 E,.int .u32 G,.int .u32 wr,.bool gk],rV aS Ec.toList,rV aT pJ.toList,rV bY (cW ⟨E,G,wr⟩)]) ?_ ?_
  ·refine jS<|c.rc 4 ?_;refine xo H λ_ g=>have c:=c.more g;vx rfl<|vx rfl<|vx mV<|lV (λiF=>?_) λiF=>?_
   ·refine jS<|vx (c.vp (i:=0) (ds:=[_,_,_]) rfl rfl rfl)<|jS<|c.rc 4 ?_;refine jS<|c.rc 0 ?_;refine pF (hZ _ (B.up Q c.gr)) H λ_ g=>?_;have c:=c.more g;rw[if_neg c2];exact vx rfl<|vx rfl<|vx (v:=.bool false) rfl<|j7<|c.pick [0,1,2,3,4]
   ·exact c.pick [0,1,2,3,4]
  ·rintro oR c;replace c:=c.n5;refine HJ.at (λh'=>∃u,Cx (λ_=>False) h h' [rV X (pkC ⟨s.kY,at',s.i,rd,u,pC,⟨hv,hq,hr⟩,mA,false,nx⟩),rV Z [.int .i64 E,.int .u32 G,.int .u32 wr,.bool gk],rV aS Ec.toList,rV aT pJ.toList,rV bY (cW ⟨E,G,wr⟩),kz EW (jY u) (s.now++[⟨E,G,wr⟩])]) ?_ ?_
   ·refine jS<|c.rc 0 ?_;refine c.rl 4 ?_;refine⟨?_,?_⟩
    ·refine yF (k5 _ (B.up Q c.gr)) (by omega) λcl _ d=>have c:=c.jT d;have c:=c.n6;c.al 4<|c.lW EW ⟨E,G,wr⟩ rfl rfl λ_ _ c=>have c:=c.n7;c.ap 5 rfl (c.sl (i:=6) rfl).sl rfl rfl (by simp only[aH,aJ]; omega) (by simp only[aH,aJ]; omega) λiN _ c=>?_;obtain⟨u8,rfl⟩:=(c.sl (i:=5) rfl).tW;replace c:=c.n7;refine jS<|c.G3 0 λ_ c=>?_;exact⟨u8,c.pick [0,1,2,3,4,5]⟩
    ·refine c.lW EW ⟨E,G,wr⟩ rfl rfl λ_ _ c=>have c:=c.n6;c.ac 0<|yF (k5 _ (B.up Q c.gr)) (by omega) λcl _ d=>have c:=c.jT d;have c:=c.n7;c.ap 6 rfl (c.sl (i:=5) rfl).sl rfl rfl (by simp only[aH,aJ]; omega) (by simp only[aH,aJ]; omega) λiN _ c=>?_;obtain⟨u8,rfl⟩:=(c.sl (i:=6) rfl).tW;replace c:=c.n7;refine jS<|c.G3 0 λ_ c=>?_;exact⟨u8,c.pick [0,1,2,3,4,6]⟩
   ·rintro rW ⟨un,c⟩;replace c:=c.n6;refine jS<|c.rc 0 ?_;refine vx (inc (by omega))<|jS<|c.G3 0 λ_ c=>?_;refine jS<|c.rc 0 ?_;refine jS<|c.rc 0 ?_;refine vx (k2 _ (B.up Q c.gr)).ln<|vx j9<|lV (λiS=>?_) λiS=>?_
    ·refine c.rl 0 ?_;rw[if_pos (show s.i+1<s.at'.length by omega)] at O;have c:=Cx.pack (L:=[_,_,_,_,_]) (M:=[kz EW (jY un) (s.now++[⟨E,G,wr⟩])]) c;refine nf.2 (B5 (B:=B.and [kz EW (jY un) (s.now++[⟨E,G,wr⟩])]) (s:={s with now:=s.now++[⟨E,G,wr⟩],i:=s.i+1}) (x:=⟨s.kY,at',((s.i+1:Nat):Int),rd,un,pC,⟨hv,hq,hr⟩,mA,false,nx⟩) ⟨B.up Q c.gr,c.get (i:=5) rfl⟩ ⟨rfl,k2.le (Bs.jX _ _),rfl,k4,On.sl (i:=0) rfl,k6.le (Bs.jX _ _),k7,k8,k9⟩ rfl (by dsimp only; omega) λv' M _ d J=>?_);have c:=c.jT d;obtain⟨V,rfl,q,K⟩:=J;have n1:=q.mA;have n2:=q.nx;replace c:=c.n7;refine vx rfl<|vx rfl<|c.I9 2 λ_ c=>?_;refine c.w8 3 λ_ c=>?_;refine c.rl 2 ?_;refine c.rl 3 ?_;exact O.of (M:=[jR [kz EW (jY un) (s.now++[⟨E,G,wr⟩])],jR M]) (Cx.pack (L:=[]) (M:=[jR [kz EW (jY un) (s.now++[⟨E,G,wr⟩])],jR M]) (c.pick [5,6])) (K7.le ⟨V,rfl,q,K⟩ Bs.FW)
    ·refine c.rl 0 ?_;rw[if_neg (show ¬s.i+1<s.at'.length by omega)] at O;have c:=Cx.pack (L:=[_,_,_,_,_]) (M:=[kz EW (jY un) (s.now++[⟨E,G,wr⟩])]) c;refine uK.2 (RT (B:=B.and [kz EW (jY un) (s.now++[⟨E,G,wr⟩])]) (s:={s with now:=s.now++[⟨E,G,wr⟩],i:=s.i+1}) (x:=⟨s.kY,at',((s.i+1:Nat):Int),rd,un,pC,⟨hv,hq,hr⟩,mA,false,nx⟩) ⟨B.up Q c.gr,c.get (i:=5) rfl⟩ ⟨rfl,k2.le (Bs.jX _ _),rfl,k4,On.sl (i:=0) rfl,k6.le (Bs.jX _ _),k7,k8,k9⟩ rfl ⟨o1,o3,by simp only[aF,aH,aJ]; omega,o5⟩ λv' M _ d J=>?_);have c:=c.jT d;obtain⟨V,rfl,q,K⟩:=J;have n1:=q.mA;have n2:=q.nx;replace c:=c.n7;refine vx rfl<|vx rfl<|c.I9 2 λ_ c=>?_;refine c.w8 3 λ_ c=>?_;refine c.rl 2 ?_;refine c.rl 3 ?_;exact O.of (M:=[jR [kz EW (jY un) (s.now++[⟨E,G,wr⟩])],jR M]) (Cx.pack (L:=[]) (M:=[jR [kz EW (jY un) (s.now++[⟨E,G,wr⟩])],jR M]) (c.pick [5,6])) (K7.le ⟨V,rfl,q,K⟩ Bs.FW)
end
def C0:PP->Bool
 | .over=>true
 | _=>false
def OG (s:Pk):Prop:=ZZ s/\match s.ph with
 | .found=>s.i<s.at'.length/\s.now.length<1000
 | .mQ hs=>s.i<s.at'.length/\Du hs/\∀s∈hs,s.nx=.again->s.i<s.es.length
 | .back=>s.i<s.at'.length
 | .flush=>True
 | .last=>True
 | .over=>False
def PkN (h:Hp) (B:Bs) (out:PR) (R:Value->Hp->Prop):Prop:=∀q,Rt B h (λB=>K7 B q out.1) λh'=>R (.tuple #[.iface 336 q,qZ out.2.1,.bool out.2.2]) h'
def XT.ov {x:Pc}:∀{p:PP},XT B x p->x.ov=C0 p
 | .found,H=>H.2
 | .mQ _,H=>H.2.1
 | .back,H=>H.2
 | .flush,H=>H.2
 | .last,H=>H.2
 | .over,H=>H
def GK {s:Pk}:(oQ s).2.2=C0 (oQ s).1.ph:=by unfold oQ; split <;> rfl
def OX {s:Pk}:(qR s).2.2=C0 (qR s).1.ph:=by
 unfold qR;dsimp only;split
 ·rfl
 ·split
  ·exact GK
  ·rfl
def PW {s:Pk} {w:W3}:(uq s w).2.2=C0 (uq s w).1.ph:=by
 unfold uq;split
 ·rfl
 ·dsimp only;split
  ·rfl
  ·exact OX
def KT {s:Pk} {g:lA}:(nO s g).2.2=C0 (nO s g).1.ph:=by
 unfold nO;cases q:s.ph with
 | found=>exact PW
 | mQ hs=>
  dsimp only;split
  ·rfl
  ·split <;> rfl
 | back=>rfl
 | flush=>exact GK
 | last=>rfl
 | over=>dsimp only;rw[q];rfl
section
variable {x:Pc} {s:Pk} {g:lA} {v:Value} {w:W3}
def vJ {out:PR} (hx:KC B s x) (ho:x.ov=false) (E:out.2.2=C0 out.1.ph) (hC:∀h1 K,Gr h h1->PC h1 B out K->Cw S.C S.Y I.mt x.nx [Gz x,mU g] h1 K) (hR:PkN h B out R):nS.1 (Gz x) (mU g) h R:=by
 obtain⟨du,at',i,rd,now,pC,⟨hv,hq,hr⟩,mA,ov,nx⟩:=x;obtain⟨k1,k2,k3,k4,k5,k6,k7,k8,k9⟩:=hx;dsimp only at k8 k9 ho hC;subst ho;obtain⟨⟨gv,gq,gr⟩,gk⟩:=g;obtain⟨so,⟨ao,aa,⟨ov,oq,or⟩,⟨nv,nq,nr⟩⟩,d⟩:=out;dsimp only at E;subst E;have c:=Cx.jQ h;refine c.Ag λ_ _ c=>c.v4 λ_ _ c=>c.v8 λ_ _ c=>?_;refine jS<|c.rc 0 ?_;refine j7<|jS<|c.rc 0 ?_;refine c.rl 0 ?_;refine c.rl 1 ?_;refine hC _ _ c.gr λv' M _ d2 Q=>?_;have c:=c.jT d2;obtain⟨⟨T,U,i2,V,G,H,q,J,X,Z⟩,rfl,u,O⟩:=Q;have n1:=u.mA;have n2:=u.nx;obtain rfl:X=C0 so.ph:=O.ov;dsimp only at n1 n2;replace c:=c.n4;refine vx rfl<|vx rfl<|c.Ag λ_ _ c=>?_;refine c.v8 λ_ _ c=>?_;refine c.I9 4 λ_ c=>?_;refine c.w8 5 λ_ c=>?_;refine c.rl 4 ?_;refine vx rfl<|c.rl 5 ?_;refine jS<|c.rc 4 ?_;refine c.w8 2 λ_ c=>?_;refine c.ac 4<|c.rl 2 ?_;exact hR _ M _ (c.pick [3]) ⟨⟨T,U,i2,V,G,H,q,J,_,Z⟩,rfl,u,O⟩
def Xi (T:B.p h) (U:On B Zs) (hv:K7 B v s) (ok:OG s) (V:Ww g.w) (J:PkN h B (nO s g) R):nS.1 v (mU g) h R:=by
 obtain⟨x,rfl,M,G⟩:=hv;obtain⟨Q,q⟩:=ok;have E:=KT (s:=s) (g:=g);unfold nO at J E;cases H:s.ph with
 | found=>
  rw[H] at G q J E;refine vJ M G.2 E (λh1 K gr O=>?_) J;rw[G.1];exact .inl (.inl ⟨_,#[],#[],rfl,uD.2 (Q1 (B.up T gr) U M G.2 q.1 Q q.2 V O)⟩)
 | mQ hs=>
  rw[H] at G q J E;obtain⟨X,p2,u,Z,p4⟩:=G;refine vJ M p2 E (λh1 K gr O=>?_) J;rw[X];refine .inl (.inl ⟨_,#[],#[],rfl,qG.2 (Ji (B.up T gr) M p2 X q.1 Q.ZW.2 Z (nJ U V p4 q.2.1 q.2.2) (pA q.2.1) (λhs a e=>?_) (λt a e=>?_) O)⟩)
  ·dsimp only;rw[e]
  ·dsimp only;rw[e];rfl
 | back=>
  rw[H] at G q J E;refine vJ M G.2 E (λh1 K gr O=>?_) J;rw[G.1];exact .inl (.inl ⟨_,#[],#[],rfl,s7.2 (Ps (B.up T gr) M G.2 q O)⟩)
 | flush=>
  rw[H] at G J E;refine vJ M G.2 E (λh1 K gr O=>?_) J;rw[G.1];exact .inl (.inl ⟨_,#[],#[],rfl,qT.2 (Jo (B.up T gr) M G.2 Q.ZW.2 O)⟩)
 | last=>
  rw[H] at G J E;refine vJ M G.2 E (λh1 K gr O=>?_) J;rw[G.1];exact .inl (.inl ⟨_,#[],#[],rfl,s6.2 (O8 M O)⟩)
 | over=>rw[H] at q;exact q.elim
end
section
variable {x:Pc} {s:Pk} {g:lA} {v:Value} {w:W3} {ls:List Int} {a:Int}
def M7 (hs:Sl rI h v ls) (E:a∉ls) (J:ls.length<=1000) (G:∀h',Gr h h'->R (.int .i64 (-1)) h'):nW.1 v (.int .i64 a) h R:=by
 have K:=Cx.jQ h;have c:=Cx.jQ h;refine vx hs.ln<|sO.by (λ(i:Nat) v h'=>v=.int .i64 i/\i<=ls.length/\Cx (λ_=>False) h h' []) (λi=>ls.length - i) 0 ⟨rfl,aO _,c⟩ ?_;rintro i _ M ⟨rfl,hi,c⟩ again q;refine vx j9<|lV (λH=>?_) λH=>?_
 ·have h1:=aB (l:=ls) (i:=i) (by omega);have hm:=aG h1;generalize ls[i]'(by omega)=p at h1 hm;refine(hs.gr c.gr).one rfl h1 rfl (u:=.int .i64 p) rfl ?_;exact vx (m6 (λe=>E (e▸hm)))<|j7<|vx (inc (by omega))<|q (i+1) _ _ ⟨rfl,by omega,c⟩ (by omega)
 ·exact G _ c.gr
def Gp (hs:Sl rI h v ls) (q:a∉ls) (u:ls.length<=1000) (E:∀h',Gr h h'->R (.bool false) h'):nn.1 v (.int .i64 a) h R:=by
 have c:=Cx.jQ h;refine nW.2 (M7 (hs.gr c.gr) q u λ_ g=>?_);have c:=c.more g;exact vx (v:=.bool false) rfl<|E _ c.gr
structure YD (ls:List Int):Prop where
 len:1<=ls.length/\ls.length<=256
 may:∀a∈ls,oG a=true
 nd:ls.Nodup
def SK (M:Zs h) (hs:Sl rI h v ls) (ok:YD ls) (Q:∀h',Gr h h'->R (.int .i64 0) h'):Bd.1 vL v h R:=by
 obtain⟨⟨o1,o2⟩,T,U⟩:=ok;have c:=Cx.jQ h;refine c.v3 λJ _ c=>?_;refine c.rl 0 ?_;refine lM _ _ (M.gr c.gr) λ_ g=>have c:=c.more g;vx (v:=.bool false) rfl<|j7<|vx hs.ln<|vx (m6 (by omega))<|j7<|vx hs.ln<|vx (pW (by omega))<|j7<|vx hs.ln<|sO.by (λ(i:Nat) v h'=>v=.int .i64 i/\i<=ls.length/\Cx (λ_=>False) h h' [rV J [.int .i64 3,.int .i64 6,.int .i64 4]]) (λi=>ls.length - i) 0 ⟨rfl,aO _,c⟩ ?_;rintro i _ h4 ⟨rfl,hi,c⟩ again q;refine vx j9<|lV (λK=>?_) λK=>?_
 ·have h1:=aB (l:=ls) (i:=i) (by omega);have hm:=aG h1;have G:ls[i]'(by omega)∉ls.take i:=by
   intro V;obtain⟨j,hj,e⟩:=List.mem_take_iff_getElem.1 V;have:=(List.getElem_inj U).1 e;omega
  generalize ls[i]'(by omega)=p at h1 hm G;have E:=T p hm;have O:=Bv E;refine(hs.gr c.gr).one rfl h1 rfl (u:=.int .i64 p) rfl ?_;refine c.rl 0 ?_;refine o7 (a:=p) ⟨by omega,by omega⟩ _ _ (M.gr c.gr) λ_ g=>?_;have c:=c.more g;rw[E];refine vx (v:=.bool false) (rfl)<|j7 ?_;have H:=(hs.gr c.gr).sub (n:=1) rfl (lo:=none) (hi:=some (.int .i64 i)) (l:=0) (u:=i) (.inl ⟨rfl,rfl⟩) (.inr ⟨_,_,rfl,rfl⟩) (aO _) (by omega);obtain⟨w,X,Z,_⟩:=H;refine vx X<|nn.2 (Gp Z G (by rw[dW,aR]; omega) λ_ g=>?_);have c:=c.more g;exact j7<|vx (inc (by omega))<|q (i+1) _ _ ⟨rfl,by omega,c⟩ (by omega)
 ·exact Q _ c.gr
abbrev XY (du:Bool) (l:SH):Pc:=⟨du,l,0,0,(none,0,0),(none,0,0),W0,.nilIface,false,qt 210⟩
def TU {du:Bool} (q:Zs h) (hs:Sl rI h v ls) (ok:YD ls) (u:∀l h',Cx (λ_=>False) h h' [kz rI (jY l) ls]->R (.tuple #[.iface 336 (Gz (XY du l)),.int .i64 0]) h'):Dn.1 vL (.bool du) (.bool true) v h R:=by
 have E:=ok.len;have c:=Cx.jQ h;refine c.v3 λ_ _ c=>?_;refine c.rl 0 ?_;refine Bd.2 (SK (q.gr c.gr) (hs.gr c.gr) ok λ_ g=>?_);have c:=c.more g;refine vx (v:=.bool false) rfl<|j7<|vx hs.ln<|c.Fl rI 0 rfl rfl rfl (by omega) (by decide) λa _ c=>have c:=c.n2;c.Ib 1 rfl (hs.gr c.gr) (by rw[bR]) rfl λ_ c=>have c:=c.n2;c.rl 0 ?_;exact vx (jU (ds:=[_,_,_,_,_,_,_,_,_,_,_,_,_,_,_,_]) rfl)<|vx rfl<|u (some a,_,_) _ (c.pick [1])
def Jj {du:Bool} (q:Zs h) (hs:Sl rI h v ls) (ok:YD ls) (u:∀l h',Cx (λ_=>False) h h' [kz rI (jY l) ls]->R (.tuple #[.iface 336 (Gz (XY du l)),.int .i64 0]) h'):S.C 199 [vL,(.bool du),v] h R:=by
 refine DE.2<|have c:=Cx.jQ h;c.v3 λ_ _ c=>?_;refine c.rl 0 ?_;refine Dn.2 (TU (q.gr c.gr) (hs.gr c.gr) ok λl _ d=>?_);have c:=c.jT d;replace c:=c.n2;exact vx rfl<|vx rfl<|u l _ (c.pick [1])
def RJ (J:B.p h) (H:KC B s x) (ho:x.ov=false) (hi:s.i<s.at'.length) (K:PC h B (uF s) R):zF.1 (Gz x) (mU g) h R:=by
 obtain⟨du,at',i,rd,now,pC,⟨hv,O,Q⟩,mA,ov,nx⟩:=x;have u:=H;obtain⟨T,k2,U,V,X,Z,k7,k8,k9⟩:=H;dsimp only at T k2 U V X Z k7 k8 k9;obtain⟨⟨gv,gq,gr⟩,gk⟩:=g;have c:=Cx.jQ h;refine c.Ag λ_ _ c=>c.v4 λ_ _ c=>c.Ag λ_ _ c=>c.v8 λ_ _ c=>?_;refine c.rl 0 ?_;refine nf.2 (B5 (x:=⟨du,at',i,rd,now,pC,⟨hv,O,Q⟩,mA,ov,nx⟩) (B.up J c.gr) u ho hi λv' M _ d E=>?_);have c:=c.jT d;obtain⟨x2,rfl,q,G⟩:=E;have n1:=q.mA;have n2:=q.nx;replace c:=c.n5;refine vx rfl<|vx rfl<|c.I9 2 λ_ c=>?_;refine c.w8 3 λ_ c=>?_;refine c.rl 2 ?_;refine c.rl 3 ?_;exact K _ M _ (c.pick [4]) ⟨x2,rfl,q,G⟩
def O3 {du:Bool} {l:SH} (E:B.p h) (G:On B λh=>Sl rI h (jY l) ls) (M:1<=ls.length)
  (H:∀q,Rt B h (λB=>K7 B q (Gd du ls)) λh'=>R (.tuple #[.iface 336 q,qZ ⟨5,ls.getD 0 0,W0,W0⟩,.bool false]) h'):nS.1 (Gz (XY du l)) (mU g) h R:=by
 have u:KC B (Gd du ls) (XY du l):=⟨rfl,G,rfl,rfl,(λ_ _=>Sl.nil),(λ_ _=>Sl.nil),rfl,rfl,rfl⟩;refine vJ (out:=uF (Gd du ls)) u rfl rfl (λh1 K gr J=>?_) λq=>H q;exact .inl (.inl ⟨_,#[],#[],rfl,zF.2 (RJ (B.up E gr) u rfl (show 0<ls.length by omega) J)⟩)
def R7 {v:Value} (G:B.p h) (hv:K7 B v s) (H:s.ph=.over) (U:s.now.length<=1000) (J:∀u h',Cx (λ_=>False) h h' [kz EW (jY u) s.now]->R (.tuple #[jY u,.bool true]) h'):qB.1 (.iface 336 v) h R:=by
 obtain⟨x,rfl,K,q⟩:=hv;rw[H] at q;obtain⟨du,at',i,rd,now,pC,⟨hv,M,O⟩,mA,ov,nx⟩:=x;obtain⟨V,k2,X,Z,E,k6,k7,Q,T⟩:=K;have q:ov=true:=q;dsimp only at E Q T;subst q;have c:=Cx.jQ h;refine vx (v:=.tuple #[Gz ⟨du,at',i,rd,now,pC,⟨hv,M,O⟩,mA,true,nx⟩,.bool true]) (by simp[FV])<|vx rfl<|vx rfl<|c.Ag λ_ _ c=>?_;refine c.I9 0 λ_ c=>?_;refine .here<|vx (v:=.bool false) (rfl)<|j7<|jS<|c.rc 0 ?_;refine vx rfl<|j7<|jS<|c.rc 0 ?_;refine vx (E _ (B.up G c.gr)).ln<|c.Fl EW W0 rfl rfl rfl (by omega) (by decide) λa _ c=>have c:=c.n2;jS<|c.rc 0 ?_;refine c.Ib 1 rfl (E _ (B.up G c.gr)) (by rw[bR]) rfl λ_ c=>have c:=c.n2;J (some a,_,_) _ (c.pick [1])
end
section
variable {x:Sc} {g:lA} {s:Sw} {v:Value} {et:Et} {du:Bool}
def Pu (E:Zs h) (ok:tl et=0) (hw:Ww et.old) (H:∀e q J h',Cx (λ_=>False) h h' [kz EE (jY e) [et],rV q [.func (.func 214) #[qA (zt 0 0 du e .nilFunc)] #[]],rV J (FT (zt 0 0 du e (oI 215 q)))]->R (.tuple #[.iface 327 (qA (zt 0 0 du e (oI 215 q))),.int .i64 0]) h'):S.C 207 [vL,(.bool du),(vE et)] h R:=by
 refine Gb.2 ?_;have w1:m4 [et]=0:=by
  by_cases h:m4 [et]=0
  ·exact h
  ·unfold tl at ok;rw[if_pos h] at ok;exact ok
 unfold tl at ok;rw[if_neg (λx=>x w1)] at ok;have w2:et.wr=true:=by
  cases h:et.wr with
  | true=>rfl
  | false=>rw[h,if_pos rfl] at ok;cases ok
 rw[w2,if_neg (by decide)] at ok;have w3:oG et.at'=true:=by
  cases h:oG et.at' with
  | true=>rfl
  | false=>rw[h,if_pos rfl] at ok;cases ok
 have K:=Bv w3;obtain⟨u,⟨ev,eq,G⟩,en,eb⟩:=et;dsimp only at hw w2 w3 K;subst w2;have c:=Cx.jQ h;refine c.v3 λ_ _ c=>c.v6 λ_ _ c=>?_;refine c.rl 0 ?_;refine lM _ _ (E.gr c.gr) λ_ g=>have c:=c.more g;vx (v:=.bool false) rfl<|j7<|c.rl 1 ?_;refine c.lW EE ⟨u,⟨ev,eq,G⟩,en,true⟩ rfl rfl λ_ _ c=>have c:=c.n3;yy (c.sl (i:=2) rfl).sl (λx M=>by obtain rfl:=aN.1 M; exact hw) (by simp) λ_ g=>?_;have c:=c.more g;rw[w1];refine vx (v:=.bool false) rfl<|j7<|jS<|c.rc 1 ?_;refine vx (v:=.bool false) (rfl)<|j7<|c.rl 0 ?_;refine jS<|c.rc 1 ?_;refine o7 (a:=u) ⟨by omega,by omega⟩ _ _ (E.gr c.gr) λ_ g=>?_;have c:=c.more g;rw[w3];refine vx (v:=.bool false) (rfl)<|j7<|c.rl 0 ?_;refine c.rl 1 ?_;refine c.lW EE ⟨u,⟨ev,eq,G⟩,en,true⟩ rfl rfl λO _ c=>?_;obtain⟨e,rfl⟩:=(c.sl (i:=3) rfl).tW;replace c:=c.n4;refine vx (jU (ds:=[_,_,_,_,_,_,_,_,_,_]) rfl)<|c.v10 λ_ _ c=>?_;refine c.Yb 4 λ_ c=>?_;refine c.rl 4 ?_;refine vx rfl<|c.v1 λ_ _ c=>?_;refine c.w1 5 λ_ c=>?_;refine vx rfl<|jS<|c.VT 4 λ_ c=>?_;refine c.rl 4 ?_;exact vx rfl<|H e _ _ _ (c.pick [3,5,4])
def T7 (u:B.p h) {r:Nat} {e:SH} {nx:Value} (E:nx.oneCell'=true) (f:Fr B r [.func (.func 214) #[qA (zt 0 0 du e nx)] #[]]) (he:On B λh=>Sl EE h (jY e) [et]) (G:xM h B (zS (uT du et)) R):xu.1 (mU g) (kC r) h R:=by
 obtain⟨⟨J,K,gr⟩,O⟩:=g;have c:=Cx.jQ h;refine c.v4 λ_ _ c=>c.v8 λ_ _ c=>?_;refine vx (f.lc (B.up u c.gr) (o:=0) rfl)<|.inl (.inl ⟨_,#[_],#[],rfl,pG.2 (Io (s:=uT du et) (x:=zt 0 0 du e nx) (B.up u c.gr) ⟨rfl,rfl,rfl,he,E,rfl,rfl⟩ rfl λH M _ d q=>?_)⟩);have c:=c.jT d;replace c:=c.n3;refine c.t8 1 λ_ c=>?_;exact G H M _ (c.pick [2]) q
def TN (q:B.p h) {r:Nat} {e:SH} (f:Fr B r [.func (.func 214) #[qA (zt 0 0 du e .nilFunc)] #[]]) (he:On B λh=>Sl EE h (jY e) [et]) (u:xM h B (zS (uT du et)) R):lH.1 (qA (zt 0 0 du e (oI 215 r))) (mU g) h R:=
 p9 (s:=uT du et) (x:=zt 0 0 du e (oI 215 r)) ⟨rfl,rfl,rfl,he,rfl,rfl,rfl⟩ (λh1 K gr E=>.inl (.inl ⟨_,#[],#[kC r],rfl,xu.2 (T7 (B.up q gr) rfl f he E)⟩)) u
end
def xx:pT Pt:={n:=3,c:=λp=>[.int .u8 p.cell,.int .i8 p.more,.bool p.wr],len:=λ_=>rfl,one:=λa v h=>by simp only[aU,bF,or_false] at h; rcases h with rfl | rfl | rfl <;> rfl}
def IU:pT (Int × SH):={n:=2,c:=λx=>[.int .u8 x.1,jY x.2],len:=λ_=>rfl,one:=λa v h=>by simp only[aU,bF,or_false] at h; rcases h with rfl | rfl <;> rfl}
structure Hk (o:ng):Prop where
 d:o.d<256
 ps:o.ps.length<=9223372036854775807
 pt:∀p∈o.ps,p.cell<256/\-128<=p.more/\p.more<=127
def sT (B:Bs) (u:SH) (ops:List ng):Prop:=∃us:List (Int × SH),(On B λh=>Sl IU h (jY u) us)/\us.length=ops.length/\∀(i:Nat) (a:Int × SH) (o:ng),us[i]?=some a->ops[i]?=some o->a.1=o.d/\On B λh=>Sl xx h (jY a.2) o.ps
def sT.le {u:SH} {ops:List ng} (H:sT B u ops) (l:B.le B'):sT B' u ops:=let⟨us,a,b,c⟩:=H; ⟨us,a.le l,b,λi x o h1 h2=>⟨(c i x o h1 h2).1,(c i x o h1 h2).2.le l⟩⟩
def sT.head {u:SH} {o:ng} {r:List ng} (H:sT B u (o::r)):∃us p,(On B λh=>Sl IU h (jY u) (((o.d:Int),p)::us))/\On B λh=>Sl xx h (jY p) o.ps:=by
 obtain⟨us,a,b,c⟩:=H;cases us with
 | nil=>simp at b
 | cons x us=>
  obtain⟨h1,h2⟩:=c 0 x o rfl rfl;obtain⟨E,q⟩:=x;dsimp only at h1 h2;subst h1;exact⟨us,q,a,h2⟩
def sT.ln {u:SH} {ops:List ng} (H:sT B u ops) (b:B.p h):Ej (jY u)=some (.int .i64 ops.length):=by
 obtain⟨us,a,e,_⟩:=H;rw[<-e];exact(a h b).ln
def sT.tail {u:SH} {o:ng} {r:List ng} (H:sT B u (o::r)) (O:B.p h):∃K,xO 2 (jY u) (some (.int .i64 1)) none none=some (jY K)/\sT B K r:=by
 obtain⟨us,a,b,c⟩:=H;cases us with
 | nil=>simp at b
 | cons x us=>
  have sub:=λh' G=>(a h' G).sub (n:=2) rfl (lo:=some (.int .i64 1)) (hi:=none) (l:=1) (u:=(x::us).length) (.inr ⟨_,_,rfl,rfl⟩) (.inl ⟨rfl,rfl⟩) (by simp only[aH]; omega) (aP _);obtain⟨w,M,Q,_⟩:=sub h O;obtain⟨J,rfl⟩:∃J:SH,w=jY J:=by
   obtain⟨T,cap,U,_⟩:=Q;exact⟨(T,_,cap),U⟩
  refine⟨J,M,us,λh' G=>?_,by simpa using b,λi y o h1 h2=>c (i+1) y o (by simpa using h1) (by simpa using h2)⟩;obtain⟨w',q,E,_⟩:=sub h' G;rw[dD] at E;rw[M] at q;injection q with q;rw[q];exact E
structure Cc where
 t:Int
 seq:Int
 du:Bool
 ops:SH
 seen:SH
 now:Value
 uX:SH
 dn:SH
 sm:SH
 br:Bool
abbrev Qg (x:Cc):List Value:=[.int .i64 3,.int .i64 6,.int .i64 4,.int .i64 x.t,.int .i64 x.seq,.bool x.du,jY x.ops,jY x.seen,x.now,jY x.uX,jY x.dn,jY x.sm,.bool x.br]
abbrev AN (x:Cc):Value:=.agg ⟨Qg x⟩
def xF (ps:List Pt) (n:Nat):List Pt:=(List.range n).filterMap λi=>ps.find? λp=>p.cell % 6 == i
def yO (ps:List Pt) (n:Nat):xF ps (n+1)=xF ps n++(ps.find? λp=>p.cell % 6 == n).toList:=by
 unfold xF;rw[List.range_succ,iZ];congr 1
def Ic (ps:List Pt) (n:Nat):(xF ps n).length<=n:=by
 unfold xF;refine cD (fZ _ _) ?_;rw[dV];exact aP _
def N8 {α:Type} {p:α->Bool}:∀{xs:List α} {j:Nat} {x:α},xs[j]?=some x->(∀y∈xs.take j,p y=false)->p x=true->xs.find? p=some x
 | [],j,x,h,_,_=>by simp at h
 | a::xs,0,x,h,_,q=>by
  simp only[aX,aD] at h;subst h;rw[List.find?_cons,q]
 | a::xs,j+1,x,h,u,q=>by
  rw[List.find?_cons,u a (by simp)];exact N8 (j:=j) (by simpa using h) (λy E=>u y (by simp[E])) q
def Nl {α:Type} {p:α->Bool} {xs:List α} (h:∀y∈xs,p y=false):xs.find? p=none:=by
 rw[eC];intro y q;rw[h y q];decide
def Cx.Xq {α:Type} {E:pT α} {v:Value} {xs:List α} (c:Cx F0 h0 h L) (i:Nat) (hi:L[i]?=some (kz E v xs)) {n:Nat} {kk:IntKind} {z:Int} {u:Nat} (H:z=u) (h2:u<=xs.length) (J:n=E.n) {K:Value->Prop}
  (M:∀G,Cx F0 h0 h (L.set i (kz E G (xs.take u)))->K G):Vb (xO n v none (some (.int kk z)) none) K:=by
 obtain⟨F,⟨o,O⟩,up⟩:=c.Ob hi;obtain⟨w,e,Q,T⟩:=o.sub (n:=n) J (hi:=some (.int kk z)) (u:=u) (.inr ⟨_,_,rfl,H⟩) h2;exact En.vb e (M w (up (F':=F) ⟨Q,λq=>by rw[O,T]⟩ (.refl _ _)))
section
variable {x:Cc} {o:ng} {r:List ng}
def SL (U:B.p h) (hn:x.now.oneCell'=true) (ho:sT B x.ops (o::r)) (hk:Hk o) (J:∀u h',Cx (λ_=>False) h h' [kz xx (jY u) (jZ o)]->R (jY u) h'):S.C 197 [(AN x)] h R:=by
 refine r8.2 ?_;obtain⟨t,seq,du,ops,seen,now,uX,dn,sm,br⟩:=x;dsimp only at hn ho;obtain⟨us,p,h1,h2⟩:=ho.head;obtain⟨k1,k2,k3⟩:=hk;have M:jZ o=if o.d % 4=2 then(xF o.ps 6).take 1 else xF o.ps 6:=rfl
 have c:=Cx.jQ h;refine c.K9 λK _ c=>?_;refine jS<|jS<|c.rc 0 ?_;refine z5.by (λ(i:Nat) u v h'=>v=.int .i64 i/\i<=6/\Cx (λ_=>False) h h' [rV K (Qg ⟨t,seq,du,ops,seen,now,uX,dn,sm,br⟩),kz xx u (xF o.ps i)]) (λi=>6 - i) 0 ⟨rfl,by decide,c.nil xx⟩ ?_;rintro i u _ dO ⟨rfl,hi,c⟩ again q;have eQ:=Ic o.ps i;replace c:=c.n2;refine vx j9<|lV (λX=>?_) λX=>?_
 ·refine .here<|jS<|c.rc 0 ?_;refine(h1 _ (B.up U c.gr)).sN (i:=0) (j:=1) rfl rfl rfl (u:=jY p) rfl ?_;refine vx (h2 _ (B.up U c.gr)).ln<|z5.by (λ(j:Nat) u v h'=>v=.int .i64 j/\j<=o.ps.length/\(∀y∈o.ps.take j,(y.cell % 6 == i)=false)/\Cx (λ_=>False) h h' [rV K (Qg ⟨t,seq,du,ops,seen,now,uX,dn,sm,br⟩),kz xx u (xF o.ps i)]) (λj=>o.ps.length - j) 0 ⟨rfl,aO _,(λy O=>by simp at O),c⟩ ?_;rintro j u _ iF ⟨rfl,hj,G,c⟩ V E;refine vx j9<|lV (λZ=>?_) λZ=>?_
  ·have Q:=aB (l:=o.ps) (i:=j) (by omega);generalize o.ps[j]'(by omega)=pt at Q;have aS:=k3 pt (aG Q);obtain⟨pc,pm,pw⟩:=pt;dsimp only at aS;refine(h2 _ (B.up U c.gr)).whole rfl Q rfl ?_;refine c.v3 λ_ _ c=>?_;refine c.w3 2 λ_ c=>?_;refine jS<|c.rc 2 ?_;refine vx (Tw (a:=(pc:Int)) ⟨by omega,by omega⟩)<|jS<|jS<|c.rc 0 ?_;refine vx (Ah (a:=(pc:Int)) (b:=6) (by omega) (by decide))<|vx kU<|lV (λaT=>?_) λaT=>?_
   ·refine c.rl 2 ?_;refine c.lW xx ⟨pc,pm,pw⟩ rfl rfl λiN _ c=>have c:=c.n4;c.ap 1 rfl (c.sl (i:=3) rfl).sl rfl rfl (by simp only[aH,aJ]; omega) (by simp only[aH,aJ]; omega) λiS _ c=>?_;rw[show xF o.ps i++[(⟨pc,pm,pw⟩:Pt)]=xF o.ps (i+1) from by rw[yO,N8 Q G (by simp only[beq_iff_eq]; omega)]; rfl] at c;replace c:=c.n4;refine vx (inc (by omega)) ?_;first | exact q (i+1) _ _ _ ⟨rfl,by omega,c.pick [0,1]⟩ (by omega) | (have c:=c.pick [0,1]; rw[show xF o.ps i=xF o.ps (i+1) from by rw[yO,Nl (λy O=>G y (by rw[aW (by omega)]; exact O))]; simp] at c; exact q (i+1) _ _ _ ⟨rfl,by omega,c⟩ (by omega))
   ·refine vx (inc (by omega))<|E (j+1) _ _ _ ⟨rfl,by omega,ES Q G ?_,c.pick [0,1]⟩ (by omega);simp only[beq_eq_false_iff_ne,ne_eq];omega
  ·refine vx (inc (by omega)) ?_;first | exact q (i+1) _ _ _ ⟨rfl,by omega,c.pick [0,1]⟩ (by omega) | (have c:=c.pick [0,1]; rw[show xF o.ps i=xF o.ps (i+1) from by rw[yO,Nl (λy O=>G y (by rw[aW (by omega)]; exact O))]; simp] at c; exact q (i+1) _ _ _ ⟨rfl,by omega,c⟩ (by omega))
 ·refine .here<|sV.at (λv h'=>∃b,v=.bool b/\(b=true->jZ o=(xF o.ps 6).take 1/\1<=(xF o.ps 6).length)/\(b=false->jZ o=xF o.ps 6)/\Cx (λ_=>False) h h' [rV K (Qg ⟨t,seq,du,ops,seen,now,uX,dn,sm,br⟩),kz xx u (xF o.ps 6)]) ?_ ?_
  ·refine jS<|c.rc 0 ?_;obtain rfl:i=6:=by omega
   refine(h1 _ (B.up U c.gr)).sN (i:=0) (j:=0) rfl rfl rfl (u:=.int .u8 o.d) rfl ?_;refine vx (Ah (by omega) (by decide))<|vx kU<|lV (λbY=>?_) λbY=>?_
   ·refine vx (c.sl (i:=1) rfl).sl.ln<|vx mV ?_;first | exact⟨_,rfl,λe=>by have:=of_decide_eq_true e; rw[M,if_pos (show o.d % 4=2 by omega)]; exact⟨rfl,by omega⟩,λe=>by have:=of_decide_eq_false e; rw[M,if_pos (show o.d % 4=2 by omega),aW (by omega)],c⟩| exact⟨_,rfl,λe=>Bool.noConfusion e,λ_=>by rw[M,if_neg (show ¬o.d % 4=2 by omega)],c⟩
   ·first | exact⟨_,rfl,λe=>by have:=of_decide_eq_true e; rw[M,if_pos (show o.d % 4=2 by omega)]; exact⟨rfl,by omega⟩,λe=>by have:=of_decide_eq_false e; rw[M,if_pos (show o.d % 4=2 by omega),aW (by omega)],c⟩| exact⟨_,rfl,λe=>Bool.noConfusion e,λ_=>by rw[M,if_neg (show ¬o.d % 4=2 by omega)],c⟩
  ·rintro _ oF ⟨b,rfl,hT,hF,c⟩;replace c:=c.n2;refine En.br (λH=>?_) λH=>?_
   ·obtain⟨e5,e6⟩:=hT H;rw[e5] at J;refine c.Xq 1 rfl (u:=1) rfl e6 rfl λ_ c=>?_;replace c:=c.n2;obtain⟨T,rfl⟩:=(c.sl (i:=1) rfl).tW;first | (rw[hF H] at J; exact J T _ (c.pick [1])) | exact J T _ (c.pick [1])
   ·obtain⟨T,rfl⟩:=(c.sl (i:=1) rfl).tW;first | (rw[hF H] at J; exact J T _ (c.pick [1])) | exact J T _ (c.pick [1])
def nH:∀{i:Int},Pz 28 [vL,.int .i64 i] (.int .i64 (sy i)):=λh R Z k=>su.2 (XF Z k)
def CB (H:B.p h) (O:On B Zs) (Q:x.now.oneCell'=true) {v:Value} {l:List Pt} (hv:On B λh=>Sl xx h v l) (hl:l.length<=100) (T:∀p∈l,p.cell<256) (U:∀u h',Cx (λ_=>False) h h' [kz rI (jY u) (l.map kM)]->R (jY u) h'):S.C 200 [(AN x),v] h R:=by
 refine rJ.2 ?_;obtain⟨t,seq,du,ops,seen,now,uX,dn,sm,br⟩:=x;dsimp only at Q;have c:=Cx.jQ h;refine c.K9 λJ _ c=>?_;refine vx (hv _ (B.up H c.gr)).ln<|z5.by (λ(i:Nat) u v h'=>v=.int .i64 i/\i<=l.length/\Cx (λ_=>False) h h' [rV J (Qg ⟨t,seq,du,ops,seen,now,uX,dn,sm,br⟩),kz rI u ((l.take i).map kM)]) (λi=>l.length - i) 0 ⟨rfl,aO _,c.nil rI⟩ ?_;rintro i u _ V ⟨rfl,hi,c⟩ again q;replace c:=c.n2;refine vx j9<|lV (λK=>?_) λK=>?_
 ·have G:=aB (l:=l) (i:=i) (by omega);have E:l.take (i+1)=l.take i++[l[i]'(by omega)]:=by rw[bN,G];rfl
  generalize l[i]'(by omega)=pt at G E;have M:=T pt (aG G);obtain⟨pc,pm,X⟩:=pt;dsimp only at M;refine(hv _ (B.up H c.gr)).whole rfl G rfl ?_;refine c.v3 λ_ _ c=>?_;refine c.w3 2 λ_ c=>?_;refine jS<|vx (c.vp (i:=0) (ds:=[_,_,_]) rfl rfl rfl)<|jS<|c.rc 2 ?_;refine vx (Tw (a:=(pc:Int)) ⟨by omega,by omega⟩)<|jS<|jS<|c.rc 0 ?_;refine vx (Ah (a:=(pc:Int)) (b:=6) (by omega) (by decide))<|nH (i:=(pc:Int) % 6) _ _ (O _ (B.up H c.gr)) λ_ g=>have c:=c.more g;c.lW rI (sy ((pc:Int) % 6)) rfl rfl λZ _ c=>have c:=c.n4;c.ap 1 rfl (c.sl (i:=3) rfl).sl rfl rfl (by simp only[bE,aR,aH,aJ]; omega) (by simp only[bE,aR,aH,aJ]; omega) λaS _ c=>have c:=c.n4;vx (inc (by omega))<|q (i+1) _ _ _ ⟨rfl,by omega,?_⟩ (by omega);rw[E,cM];have e:kM ⟨pc,pm,X⟩=sy ((pc:Int) % 6):=by
   unfold kM sy;rw[if_pos (by omega)];dsimp only;omega
  rw[bS,e];exact c.pick [0,1]
 ·obtain rfl:i=l.length:=by omega
  rw[dD] at c;obtain⟨u2,rfl⟩:=(c.sl (i:=1) rfl).tW;exact U u2 _ (c.pick [1])
end
def Gn {l:List Pt} {seen:List W3} {i:Nat} {p:Pt} {w:W3} (h1:l[i]?=some p) (h2:seen[i]?=some w):kx (l.take (i+1)) (seen.take (i+1))=kx (l.take i) (seen.take i)++[nU p w]:=by
 have q:=(aC.1 h1).1;have u:=(aC.1 h2).1;unfold kx;rw[bN,bN,h1,h2,List.zip_append (by rw[aR,aR]; omega),cM];rfl
section
variable {x:Cc} {o:ng} {r:List ng} {v:Value} {l:List Pt} {seen:List W3}
def KM:∀{v:Value} {es:List Et} {du:Bool} {h} {R:Value->Hp->Prop},Zs h->Sl EE h v es->NE es->(∀e h',Cx (λ_=>False) h h' [kz EE (jY e) es]->R (.tuple #[.iface 332 (uH (WM du e)),.int .i64 0]) h')->S.C 206 [vL,.bool du,v] h R:=λa b c k=>Dh.2 (WR a b c (λh R a b k=>zP.2 (Qw a b c k)) k)
def QK (K:B.p h) (hZ:On B Zs) (hn:x.now.oneCell'=true) (ho:sT B x.ops (o::r)) (hk:Hk o) (hv:On B λh=>Sl xx h v l) (hl:l.length<=100) (aT:∀p∈l,p.cell<256/\-128<=p.more/\p.more<=127)
  (hs:On B λh=>Sl EW h (jY x.seen) seen) (bY:seen.length=l.length) (H:NE (kx l seen)) (ht:1<=x.t/\x.t<=3) (hq:0<=x.seq/\x.seq<16777215) (hd:¬o.d % 4=3) (V:o.d % 4=2->l.length=1)
  (h1:o.d % 4=1->∀en e h',Cx (λ_=>False) h h' [kz EE (jY e) (kx l seen)]->R (.tuple #[AN {x with seen:=(none,0,0),uX:=en,now:=.iface 332 (uH (WM x.du e))},.int .i64 0]) h')
  (h3:o.d % 4=2->(l.getD 0 ⟨0,0,false⟩).wr=true->∀en e et M T h',kx l seen=[et]->tl et=0->Cx (λ_=>False) h h' [kz EE (jY e) [et],rV M [.func (.func 214) #[qA (zt 0 0 x.du e .nilFunc)] #[]],rV T (FT (zt 0 0 x.du e (oI 215 M)))]->R (.tuple #[AN {x with seen:=(none,0,0),uX:=en,now:=.iface 327 (qA (zt 0 0 x.du e (oI 215 M)))},.int .i64 0]) h')
  (h2:o.d % 4=0\/(o.d % 4=2/\¬(l.getD 0 ⟨0,0,false⟩).wr=true)->∀en e M T h',Cx (λ_=>False) h h' [kz EE (jY e) (kx l seen),rV M [.func (.func 219) #[qA (zt x.t (x.seq+1) x.du e .nilFunc)] #[]],rV T (FT (zt x.t (x.seq+1) x.du e (vj 220 M T)))]->R (.tuple #[AN {x with seq:=x.seq+1,seen:=(none,0,0),uX:=en,now:=.iface 327 (qA (zt x.t (x.seq+1) x.du e (vj 220 M T)))},.int .i64 0]) h') :
  mN.1 (AN x) v h R:=by
 obtain⟨t,seq,du,ops,sn,now,uX,dn,sm,br⟩:=x;dsimp only at hn ho hs ht hq h1 h2 h3;obtain⟨us,p,g1,g2⟩:=ho.head;obtain⟨k1,k2,k3⟩:=hk;have dO:∀i,(kx (l.take i) (seen.take i)).length<=100:=λi=>by
  unfold kx;rw[bE,jA,aR,aR];omega
 have c:=Cx.jQ h;refine c.K9 λeQ _ c=>c.K9 λiF _ c=>?_;refine jS<|c.yZ 0 λ_ c=>?_;refine c.rl 0 ?_;refine CB (x:=⟨t,seq,du,ops,sn,now,(none,0,0),dn,sm,br⟩) (B.up K c.gr) hZ hn hv hl (λp hp=>(aT p hp).1) λpl _ d=>have c:=c.jT d;have c:=c.n3;vx (hv _ (B.up K c.gr)).ln<|sO.by (λ(i:Nat) z h'=>z=.int .i64 i/\i<=l.length/\∃en,Cx (λ_=>False) h h' [rV eQ (Qg ⟨t,seq,du,ops,sn,now,en,dn,sm,br⟩),rV iF LM.toList,kz rI (jY pl) (l.map kM),kz EE (jY en) (kx (l.take i) (seen.take i))]) (λi=>l.length - i) 0 ⟨rfl,aO _,(none,0,0),c.nil EE⟩ ?_;rintro i _ h5 ⟨rfl,hi,en,c⟩ again E;replace c:=c.n4;refine vx j9<|lV (λoR=>?_) λoR=>?_
 ·have hx:=aB (l:=l) (i:=i) (by omega);have hw:=aB (l:=seen) (i:=i) (by omega);have O:=Gn hx hw;have X:(l.map kM)[i]?=some (kM (l[i]'(by omega))):=by rw[bU,hx];rfl
  generalize l[i]'(by omega)=pt at hx O X;generalize seen[i]'(by omega)=w at hw O;have rW:=aT pt (aG hx);obtain⟨pc,pm,pw⟩:=pt;obtain⟨wv,wq,wr⟩:=w;dsimp only at rW;refine(hv _ (B.up K c.gr)).whole rfl hx rfl ?_;refine c.v3 λ_ _ c=>?_;refine c.w3 4 λ_ c=>?_;refine jS<|c.rc 0 ?_;refine(hs _ (B.up K c.gr)).whole rfl hw rfl ?_;refine c.v3 λ_ _ c=>?_;refine c.w3 5 λ_ c=>?_;obtain⟨r5,o5,e5,iN,_⟩:=(c.sl (i:=2) rfl).sl.ix X (n:=1) rfl (k:=.i64) (z:=(i:Int)) rfl;refine vx e5<|vx (iN.yK rfl)<|jS<|c.rc 5 ?_;refine jS<|c.rc 5 ?_;refine vx (jU (ds:=[_,_,_]) rfl)<|jS<|c.rc 5 ?_;refine jS<|c.rc 4 ?_;refine vx (jU (ds:=[_,_,_,_,_,_]) rfl)<|c.v6 λ_ _ c=>?_;refine c.ac 4<|c.ac 5<|c.ac 5<|c.ac 5<|aQ (by obtain⟨r6,o6,U,iS,_⟩:=(c.sl (i:=2) rfl).sl.ix X (n:=1) rfl (k:=.i64) (z:=(i:Int)) rfl; rw[e5] at U; injection U with U; injection U with U; injection U with U; injection U with e7 e8; subst e7 e8; exact iS.yK rfl) ?_;refine c.w6 6 λ_ c=>?_;refine .here<|jS<|c.rc 4 ?_;refine En.br (λZ=>?_) λZ=>?_
  ·refine jS<|c.rc 5 ?_;refine jS<|c.rc 4 ?_;refine vx (Tw (a:=pm) ⟨by omega,by omega⟩)<|vx (ni _ _)<|jS<|c.q6 6 λ_ c=>?_;refine jS<|c.rc 0 ?_;refine c.rl 6 ?_;refine c.lW EE (nU ⟨pc,pm,pw⟩ ⟨wv,wq,wr⟩) rfl (by subst Z; rfl) λtO _ c=>?_;replace c:=c.n8;have uS:=dO i;refine c.ap 3 rfl (c.sl (i:=7) rfl).sl rfl rfl (by simp only[aH,aJ]; omega) (by simp only[aH,aJ]; omega) λv56 _ c=>?_;rw[<-O] at c;obtain⟨aS,rfl⟩:=(c.sl (i:=3) rfl).tW;replace c:=c.n8;refine jS<|c.yZ 0 λ_ c=>?_;exact vx (inc (by omega))<|E (i+1) _ _ ⟨rfl,by omega,aS,c.pick [0,1,2,3]⟩ (by omega)
  ·refine jS<|c.rc 0 ?_;refine c.rl 6 ?_;refine c.lW EE (nU ⟨pc,pm,pw⟩ ⟨wv,wq,wr⟩) rfl (by subst Z; rfl) λtO _ c=>?_;replace c:=c.n8;have uS:=dO i;refine c.ap 3 rfl (c.sl (i:=7) rfl).sl rfl rfl (by simp only[aH,aJ]; omega) (by simp only[aH,aJ]; omega) λv56 _ c=>?_;rw[<-O] at c;obtain⟨aS,rfl⟩:=(c.sl (i:=3) rfl).tW;replace c:=c.n8;refine jS<|c.yZ 0 λ_ c=>?_;exact vx (inc (by omega))<|E (i+1) _ _ ⟨rfl,by omega,aS,c.pick [0,1,2,3]⟩ (by omega)
 ·refine jS<|c.yZ 0 λ_ c=>?_;refine .here<|jS<|c.rc 0 ?_;obtain rfl:i=l.length:=by omega
  rw[aW (aP _),aW (by omega)] at c;refine(g1 _ (B.up K c.gr)).sN (i:=0) (j:=0) rfl rfl rfl (u:=.int .u8 o.d) rfl ?_;refine vx (Ah (a:=(o.d:Int)) (b:=4) (by omega) (by decide))<|vx kU<|lV (λe87=>?_) λe87=>?_
  ·refine jS<|vx (c.vp (i:=0) (ds:=[_,_,_]) rfl rfl rfl)<|jS<|c.rc 0 ?_;refine jS<|c.rc 0 ?_;refine KM (hZ _ (B.up K c.gr)) (c.sl (i:=3) rfl).sl H λe _ d=>have c:=c.jT d;have c:=c.n5;vx rfl<|vx rfl<|jS<|c.yZ 0 λ_ c=>?_;refine c.rl 0 ?_;refine c.Tf 1 λ_ c=>?_;refine c.rl 1 ?_;first | exact h1 (by omega) en e _ (c.pick [4]) | exact h3 k2 kw en e et _ _ _ q Q (c.pick [4,5,6]) | exact h2 (hF J) en e _ _ _ (c.pick [4,5,6])
  ·refine sV.at (λv h'=>∃b,v=.bool b/\(b=true->o.d % 4=2/\(l.getD 0 ⟨0,0,false⟩).wr=true)/\(b=false->o.d % 4=0\/(o.d % 4=2/\¬(l.getD 0 ⟨0,0,false⟩).wr=true))/\Cx (λ_=>False) h h' [rV eQ (Qg ⟨t,seq,du,ops,(none,0,0),now,en,dn,sm,br⟩),rV iF LM.toList,kz rI (jY pl) (l.map kM),kz EE (jY en) (kx l seen)]) ?_ ?_
   ·refine vx kU<|lV (λoF=>?_) λoF=>?_
    ·have hl0:l[0]?=some (l.getD 0 ⟨0,0,false⟩):=by
      rw[aI,aB (show 0<l.length by have:=V (by omega); omega)];rfl
     refine(hv _ (B.up K c.gr)).sN (i:=0) (j:=2) rfl hl0 rfl (u:=.bool (l.getD 0 ⟨0,0,false⟩).wr) rfl ?_;first | exact⟨_,rfl,λe=>⟨by omega,e⟩,λe=>.inr ⟨by omega,by rw[e]; decide⟩,c.pick [0,1,2,3]⟩| exact⟨_,rfl,λe=>Bool.noConfusion e,λ_=>.inl (by omega),c.pick [0,1,2,3]⟩
    ·first | exact⟨_,rfl,λe=>⟨by omega,e⟩,λe=>.inr ⟨by omega,by rw[e]; decide⟩,c.pick [0,1,2,3]⟩| exact⟨_,rfl,λe=>Bool.noConfusion e,λ_=>.inl (by omega),c.pick [0,1,2,3]⟩
   ·rintro _ h22' ⟨b,rfl,hT,hF,c⟩;replace c:=c.n4;refine En.br (λJ=>?_) λJ=>?_
    ·refine jS<|vx (c.vp (i:=0) (ds:=[_,_,_]) rfl rfl rfl)<|jS<|c.rc 0 ?_;refine jS<|c.rc 0 ?_;obtain⟨k2,kw⟩:=hT J;have G:(kx l seen).length=1:=by
      unfold kx;rw[bE,jA,bY,V k2];rfl
     obtain⟨et,q⟩:∃et,kx l seen=[et]:=by
      cases hc:kx l seen with
      | nil=>rw[hc] at G;cases G
      | cons a r=>
       cases r with
       | nil=>exact⟨a,rfl⟩
       | cons b r=>rw[hc] at G;simp at G
     have Q:tl et=0:=by
      have q1:=H.VB;rw[q] at q1;have q2:=H.may et (by rw[q]; exact aN.2 rfl);have q3:et.wr=true:=by
       have:(kx l seen)[0]?=some et:=by rw[q];rfl
       unfold kx at this;rw[bU] at this;cases l with
       | nil=>have:=V k2;cases this
       | cons p r=>
        cases seen with
        | nil=>simp at bY
        | cons w T=>
         simp only[gF,aX,cB,aD] at this;rw[<-this];exact kw
      unfold tl;rw[if_neg (λx=>x q1),q3,if_neg (λx=>Bool.noConfusion x),q2,if_neg (λx=>Bool.noConfusion x)]
     have hwo:=H.old et (by rw[q]; exact aN.2 rfl);refine(c.sl (i:=3) rfl).sl.whole rfl (i:=0) (by rw[q]; rfl) rfl ?_;refine Pu (et:=et) (hZ _ (B.up K c.gr)) Q hwo λe M T _ d=>have c:=c.jT d;have c:=c.n7;vx rfl<|vx rfl<|jS<|c.yZ 0 λ_ c=>?_;refine c.rl 0 ?_;refine c.Tf 1 λ_ c=>?_;refine c.rl 1 ?_;first | exact h1 (by omega) en e _ (c.pick [4]) | exact h3 k2 kw en e et _ _ _ q Q (c.pick [4,5,6]) | exact h2 (hF J) en e _ _ _ (c.pick [4,5,6])
    ·refine jS<|c.rc 0 ?_;refine vx (oC (a:=seq) (b:=1) ⟨by omega,by omega⟩)<|jS<|c.yZ 0 λ_ c=>?_;refine jS<|vx (c.vp (i:=0) (ds:=[_,_,_]) rfl rfl rfl)<|jS<|c.rc 0 ?_;refine jS<|c.rc 0 ?_;refine jS<|c.rc 0 ?_;refine jS<|c.rc 0 ?_;refine UP (hZ _ (B.up K c.gr)) (c.sl (i:=3) rfl).sl H ht ⟨by omega,by omega⟩ λe M T _ d=>have c:=c.jT d;have c:=c.n7;vx rfl<|vx rfl<|jS<|c.yZ 0 λ_ c=>?_;refine c.rl 0 ?_;refine c.Tf 1 λ_ c=>?_;refine c.rl 1 ?_;first | exact h1 (by omega) en e _ (c.pick [4]) | exact h3 k2 kw en e et _ _ _ q Q (c.pick [4,5,6]) | exact h2 (hF J) en e _ _ _ (c.pick [4,5,6])
end
def PH:pT Bool:={n:=1,c:=λb=>[.bool b],len:=λ_=>rfl,one:=λa v h=>by simp only[aN] at h; subst h; rfl}
def BQ (B:Bs) (W:km) (v:Value):Cd->Prop
 | .sw s=>∃u,v=.iface 327 u/\W=jR []/\Ed B u s
 | .bl s=>∃u,v=.iface 332 u/\VW B W u s
 | .pk s=>∃u,v=.iface 336 u/\W=jR []/\K7 B u s
def Yt (B:Bs) (W:km) (v:Value):Option Cd->Prop
 | none=>v=.nilIface/\W=jR []
 | some d=>BQ B W v d
structure Te (B:Bs) (c:Cn) (x:Cc):Prop where
 t:x.t=c.t
 seq:x.seq=c.seq
 du:x.du=c.kY
 ops:sT B x.ops c.ops
 seen:On B λh=>Sl EW h (jY x.seen) c.seen
 dn:On B λh=>Sl PH h (jY x.dn) c.done
 sm:On B λh=>Sl rI h (jY x.sm) c.pQ
 br:x.br=c.broken
def Le (B:Bs) (W:km) (v:Value) (c:Cn):Prop:=∃x,v=AN x/\Te B c x/\Yt B W x.now c.now
def BQ.le {W:km} {v:Value} {d:Cd} (H:BQ B W v d) (l:B.le B'):BQ B' W v d:=by
 cases d with
 | sw s=>obtain⟨u,a,b,c⟩:=H;exact⟨u,a,b,c.le l⟩
 | bl s=>obtain⟨u,a,x,b,c⟩:=H;exact⟨u,a,x,b,c.le l⟩
 | pk s=>obtain⟨u,a,b,c⟩:=H;exact⟨u,a,b,c.le l⟩
def Yt.le {W:km} {v:Value} {d:Option Cd} (H:Yt B W v d) (l:B.le B'):Yt B' W v d:=by
 cases d with
 | none=>exact H
 | some d=>exact BQ.le H l
def Te.le {c:Cn} {x:Cc} (H:Te B c x) (l:B.le B'):Te B' c x:=⟨H.t,H.seq,H.du,H.ops.le l,H.seen.le l,H.dn.le l,H.sm.le l,H.br⟩
def Le.le {W:km} {v:Value} {c:Cn} (H:Le B W v c) (l:B.le B'):Le B' W v c:=let⟨x,a,b,d⟩:=H; ⟨x,a,b.le l,d.le l⟩
def BQ.one {W:km} {v:Value} {d:Cd} (H:BQ B W v d):v.oneCell'=true:=by
 cases d with
 | sw s=>obtain⟨u,rfl,b,c⟩:=H;rfl
 | bl s=>obtain⟨u,rfl,b⟩:=H;rfl
 | pk s=>obtain⟨u,rfl,b,c⟩:=H;rfl
def I3 (B:Bs) (W:km) (v:Value) (g:lA) (V:Bs->km->Value->Prop) (a:Ac) (d:Bool):Prop:=
 ∀h F (R:Value->Hp->Prop),Cx F h h [W]->(∀h',Ch F h h'->B.p h')->(∀v W M h',Cx F h h' [W,jR M]->V (B.and M) W v->R (.tuple #[v,qZ a,.bool d]) h')->Ci S.C I.mt "Next" v [mU g] h R
section
variable {x:Cc} {W:km} {g:lA} {a:Ac} {V:Bs->km->Value->Prop}
def Ft (H:x.now.oneCell'=true) (E:I3 B W x.now g V a false) (J:∀B W v,V B W v->v.oneCell'=true) (c:Cx F h h [W]) (K:∀h',Ch F h h'->B.p h')
  (G:Dp 89 F h B (λB W v=>∃u,v=AN {x with now:=u}/\V B W u) a false R):kK.1 (AN x) (mU g) h R:=by
 obtain⟨t,seq,du,ops,X,now,uX,dn,sm,br⟩:=x;dsimp only at H E G;obtain⟨⟨Z,gq,gr⟩,gk⟩:=g;obtain⟨ao,aa,⟨ov,oq,or⟩,⟨nv,nq,nr⟩⟩:=a;replace c:Cx _ _ _ [_]:=c;refine c.K9 λ_ _ c=>c.v4 λ_ _ c=>c.v8 λ_ _ c=>?_;refine jS<|c.rc 1 ?_;refine c.rl 2 ?_;obtain⟨F',c',O,up⟩:=c.sB (i:=0) rfl;refine E _ F' _ c' (λq ch=>K q (O _ ch)) λQ T M _ d ok=>?_;have c:=up d;have U:=J _ _ _ ok;replace c:=c.n5;refine vx rfl<|vx rfl<|vx rfl<|c.v8 λ_ _ c=>?_;refine c.w8 5 λ_ c=>?_;refine jS<|c.yZ 1 λ_ c=>?_;refine vx (v:=.bool true) (rfl)<|kV<|c.rl 1 ?_;refine vx rfl<|c.rl 5 ?_;refine c.w8 3 λ_ c=>?_;refine c.rl 3 ?_;exact G _ T M _ (c.pick [0,4]) ⟨Q,rfl,ok⟩
end
structure Q7 (B:Bs) (v:Value) (q2 ok:Bool):Prop where
 one:v.oneCell'=true
 ans:∃(p q p2:Bool) (b:Int),((q2=true/\p2=ok)\/(q2=false/\q=true/\p=ok))/\(∀h (R:Value->Hp->Prop),B.p h->(∀h',Gr h h'->R (.tuple #[.bool p,.bool q]) h')->S.C 202 [v] h R)/\
  (∀h (R:Value->Hp->Prop),B.p h->(∀h',Gr h h'->R (.tuple #[.bool p2,.int .i64 b,.bool q2]) h')->S.C 203 [v] h R)/\
  (∀h (R:Value->Hp->Prop),B.p h->(∀h',Gr h h'->R (.tuple #[jY (none,0,0),.bool false]) h')->S.C 204 [v] h R)
def E0 {v:Value} {t:TypeId} (q:¬t=336) (u:∀h',Gr h h'->R (.tuple #[jY (none,0,0),.bool false]) h'):qB.1 (.iface t v) h R:=by
 have c:=Cx.jQ h;refine vx (v:=.tuple #[.agg Ec,.bool false]) (by simp[FV,q])<|vx rfl<|vx rfl<|c.Ag λ_ _ c=>?_;refine c.I9 0 λ_ c=>?_;exact .here<|vx (v:=.bool true) (rfl)<|kV<|kV<|u _ c.gr
def GS:¬327=332:=by decide
def G5:¬327=336:=by decide
def YA {u:Value} {s:Sw} {ok:Bool} (hv:Ed B u s) (E:s.ph=.over ok):Q7 B (.iface 327 u) false ok:=by
 unfold Ed at hv;rw[E] at hv;exact⟨rfl,ok,true,false,0,.inr ⟨rfl,rfl,rfl⟩,λh R b q=>qd.2 (Pb hv q),λh R b q=>pa.2 (C3 GS q),λh R b q=>qB.2 (E0 G5 q)⟩
def HC:¬332=336:=by decide
def Zc {u:Value} {s:Bk} {W:km} (hv:VW B W u s) (E:s.ph=.over):Q7 B (.iface 332 u) true s.done:=
 ⟨rfl,false,false,s.done,s.bad,.inl ⟨rfl,rfl⟩,λh R b q=>qd.2 (C4 (λe=>GS e.symm) q),λh R b q=>pa.2 (Po hv E q),λh R b q=>qB.2 (E0 HC q)⟩
section
variable {x:Cc} {W:km} {g:lA} {a:Ac} {ok:Bool} {c':Cn} {o:ng} {r:List ng} {out:CR} {q2:Bool}
def R3 (hn:x.now.oneCell'=true) (hx:Te B c' x) (X:c'.broken=false) (ho:c'.ops=o::r) (hlen:c'.done.length<=1000) (Z:I3 B W x.now g (λB W v=>W=jR []/\Q7 B v q2 ok) a true) (c:Cx F h h [W]) (E:∀h',Ch F h h'->B.p h')
  (hI:∀(x':Cc) (B':Bs) h1 K,B.le B'->B'.p h1->Te B' {c' with done:=c'.done++[ok],ops:=r,now:=none} x'->x'.now=.nilIface->Dp 89 B1 h1 B' (λB W v=>Le B W v out.1) out.2.1 out.2.2 K->S.C 196 [AN x',mU qa] h1 K)
  (hR:Dp 89 F h B (λB W v=>Le B W v out.1) out.2.1 out.2.2 R):kK.1 (AN x) (mU g) h R:=by
 obtain⟨t,seq,du,ops,sn,now,uX,dn,sm,br⟩:=x;dsimp only at hn Z;obtain⟨⟨gv,gq,gr⟩,gk⟩:=g;obtain⟨y1,y2,y3,V,y5,y6,y7,y8⟩:=hx;dsimp only at y1 y2 y3 V y5 y6 y7 y8;rw[X] at y8;subst y8;rw[ho] at V;obtain⟨co,ca,cd⟩:=out;obtain⟨ao,aa,⟨ov,oq,or⟩,⟨nv,nq,nr⟩⟩:=a;cases q2 with
 | false=>
  replace c:Cx _ _ _ [_]:=c;refine c.K9 λ_ _ c=>c.v4 λ_ _ c=>c.v8 λ_ _ c=>?_;refine jS<|c.rc 1 ?_;refine c.rl 2 ?_;obtain⟨F',d',hF,up⟩:=c.sB (i:=0) rfl;refine Z _ F' _ d' (λH ch=>E H (hF _ ch)) λv' W' M _ d J=>?_;have c:=up d;obtain⟨rfl,U,p,q,p2,bb,O,a1,a2,a3⟩:=J;obtain⟨rfl,rfl⟩:q=true/\p=ok:=O.elim (λx=>Bool.noConfusion x.1) (λx=>⟨x.2.1,x.2.2⟩);replace c:=c.n5;refine vx rfl<|vx rfl<|vx rfl<|c.v8 λ_ _ c=>?_;refine c.w8 5 λ_ c=>?_;refine jS<|c.yZ 1 λ_ c=>?_;refine vx (v:=.bool false) (rfl)<|j7<|a1 _ _ ⟨E _ c.gr,c.get (i:=4) rfl⟩ λ_ g=>have c:=c.more g;vx rfl<|vx rfl ?_;refine .here<|a2 _ _ ⟨E _ c.gr,c.get (i:=4) rfl⟩ λ_ g=>have c:=c.more g;vx rfl<|vx rfl<|vx (v:=.bool false) (rfl)<|j7 ?_;refine .here<|a3 _ _ ⟨E _ c.gr,c.get (i:=4) rfl⟩ λ_ g=>have c:=c.more g;vx rfl<|vx (v:=.bool false) (rfl)<|j7 ?_;refine .here<|jS<|c.rc 1 ?_;refine j7<|vx rfl<|jS<|c.yZ 1 λ_ c=>?_;refine c.Fy PH λaS _ c=>have c:=c.n7;jS<|c.rc 1 ?_;refine c.ap 6 rfl (y6 _ (E _ c.gr)) rfl rfl (by simp only[aJ]; omega) (by simp only[aJ]; omega) λaT _ c=>have c:=c.n7;c.lW PH p rfl rfl λbY _ c=>have c:=c.n8;c.ap 6 rfl (c.sl (i:=7) rfl).sl rfl rfl (by simp only[aJ,aF,aH]; omega) (by simp only[aJ,aF,aH]; omega) λdO _ c=>?_;obtain⟨u,rfl⟩:=(c.sl (i:=6) rfl).tW;obtain⟨u',Q,G⟩:=V.tail (E _ c.gr);replace c:=c.n8;refine jS<|c.yZ 1 λ_ c=>?_;refine jS<|c.rc 1 ?_;refine vx Q<|jS<|c.yZ 1 λ_ c=>?_;refine jS<|c.yZ 1 λ_ c=>?_;refine jS<|c.yZ 1 λ_ c=>?_;refine c.rl 1 ?_;refine vx (jU (ds:=[_,_,_,_]) rfl) ?_;have c:=Cx.pack (L:=[_]) (M:=[jR M,kz PH (jY u) (([]++c'.done)++[p])]) (c.pick [3,4,6]);refine hI ⟨t,seq,du,u',sn,.nilIface,(none,0,0),u,sm,false⟩ (B.and [jR M,kz PH (jY u) (([]++c'.done)++[p])]) _ _ (Bs.jX _ _) ⟨E _ c.gr,c.get (i:=1) rfl⟩ ⟨y1,y2,y3,G.le (Bs.jX _ _),y5.le (Bs.jX _ _),?_,y7.le (Bs.jX _ _),X.symm⟩ rfl λv2 W2 M2 _ d T=>?_
  ·intro h b;obtain⟨_,F,p⟩:=b;exact((Cx.star p).sl (i:=1) rfl).sl
  have c:=c.jT d;replace c:=c.n4;refine c.t8 0 λ_ c=>?_;exact hR v2 W2 _ _ (Cx.pack (L:=[_]) (M:=[_,_]) (c.pick [2,1,3])) (T.le Bs.FW)
 | true=>
  replace c:Cx _ _ _ [_]:=c;refine c.K9 λ_ _ c=>c.v4 λ_ _ c=>c.v8 λ_ _ c=>?_;refine jS<|c.rc 1 ?_;refine c.rl 2 ?_;obtain⟨F',d',hF,up⟩:=c.sB (i:=0) rfl;refine Z _ F' _ d' (λH ch=>E H (hF _ ch)) λv' W' M _ d J=>?_;have c:=up d;obtain⟨rfl,U,p,q,p2,bb,O,a1,a2,a3⟩:=J;obtain rfl:p2=ok:=O.elim (λx=>x.2) (λx=>Bool.noConfusion x.1);replace c:=c.n5;refine vx rfl<|vx rfl<|vx rfl<|c.v8 λ_ _ c=>?_;refine c.w8 5 λ_ c=>?_;refine jS<|c.yZ 1 λ_ c=>?_;refine vx (v:=.bool false) (rfl)<|j7<|a1 _ _ ⟨E _ c.gr,c.get (i:=4) rfl⟩ λ_ g=>have c:=c.more g;vx rfl<|vx rfl ?_;refine .here<|a2 _ _ ⟨E _ c.gr,c.get (i:=4) rfl⟩ λ_ g=>have c:=c.more g;vx rfl<|vx rfl<|vx (v:=.bool true) (rfl)<|kV ?_;refine .here<|a3 _ _ ⟨E _ c.gr,c.get (i:=4) rfl⟩ λ_ g=>have c:=c.more g;vx rfl<|vx (v:=.bool false) (rfl)<|j7 ?_;refine .here<|jS<|c.rc 1 ?_;refine j7<|vx rfl<|jS<|c.yZ 1 λ_ c=>?_;refine c.Fy PH λaS _ c=>have c:=c.n7;jS<|c.rc 1 ?_;refine c.ap 6 rfl (y6 _ (E _ c.gr)) rfl rfl (by simp only[aJ]; omega) (by simp only[aJ]; omega) λaT _ c=>have c:=c.n7;c.lW PH p2 rfl rfl λbY _ c=>have c:=c.n8;c.ap 6 rfl (c.sl (i:=7) rfl).sl rfl rfl (by simp only[aJ,aF,aH]; omega) (by simp only[aJ,aF,aH]; omega) λdO _ c=>?_;obtain⟨u,rfl⟩:=(c.sl (i:=6) rfl).tW;obtain⟨u',Q,G⟩:=V.tail (E _ c.gr);replace c:=c.n8;refine jS<|c.yZ 1 λ_ c=>?_;refine jS<|c.rc 1 ?_;refine vx Q<|jS<|c.yZ 1 λ_ c=>?_;refine jS<|c.yZ 1 λ_ c=>?_;refine jS<|c.yZ 1 λ_ c=>?_;refine c.rl 1 ?_;refine vx (jU (ds:=[_,_,_,_]) rfl) ?_;have c:=Cx.pack (L:=[_]) (M:=[jR M,kz PH (jY u) (([]++c'.done)++[p2])]) (c.pick [3,4,6]);refine hI ⟨t,seq,du,u',sn,.nilIface,(none,0,0),u,sm,false⟩ (B.and [jR M,kz PH (jY u) (([]++c'.done)++[p2])]) _ _ (Bs.jX _ _) ⟨E _ c.gr,c.get (i:=1) rfl⟩ ⟨y1,y2,y3,G.le (Bs.jX _ _),y5.le (Bs.jX _ _),?_,y7.le (Bs.jX _ _),X.symm⟩ rfl λv2 W2 M2 _ d T=>?_
  ·intro h b;obtain⟨_,F,p⟩:=b;exact((Cx.star p).sl (i:=1) rfl).sl
  have c:=c.jT d;replace c:=c.n4;refine c.t8 0 λ_ c=>?_;exact hR v2 W2 _ _ (Cx.pack (L:=[_]) (M:=[_,_]) (c.pick [2,1,3])) (T.le Bs.FW)
def R8 {ws:List W3} (hn:x.now.oneCell'=true) (hx:Te B c' x) (hb:c'.broken=false) (ho:c'.ops=o::r) (hlen:c'.done.length<=1000) (T:c'.pQ.length<=1000) (U:ws.length<=1000) (hN:I3 B W x.now g (λB W v=>W=jR []/\∃u s,v=.iface 336 u/\K7 B u s/\s.ph=.over/\s.now=ws) a true) (c:Cx F h h [W]) (J:∀h',Ch F h h'->B.p h')
  (hI:∀(V:Cc) (B':Bs) h1 K,B.le B'->B'.p h1->Te B' {c' with done:=c'.done++[false],pQ:=c'.pQ++[ws.foldl (λn w=>tG (n+w.v)) 0],ops:=r,now:=none} V->V.now=.nilIface->Dp 89 B1 h1 B' (λB W v=>Le B W v out.1) out.2.1 out.2.2 K->S.C 196 [AN V,mU qa] h1 K)
  (hR:Dp 89 F h B (λB W v=>Le B W v out.1) out.2.1 out.2.2 R):kK.1 (AN x) (mU g) h R:=by
 obtain⟨t,seq,du,ops,sn,now,uX,dn,sm,br⟩:=x;dsimp only at hn hN;obtain⟨⟨gv,gq,gr⟩,gk⟩:=g;obtain⟨y1,y2,y3,X,y5,y6,y7,Z⟩:=hx;dsimp only at y1 y2 y3 X y5 y6 y7 Z;rw[hb] at Z;subst Z;rw[ho] at X;obtain⟨co,ca,cd⟩:=out;obtain⟨ao,aa,⟨ov,oq,or⟩,⟨nv,nq,nr⟩⟩:=a;replace c:Cx _ _ _ [_]:=c;refine c.K9 λaS _ c=>c.v4 λaT _ c=>c.v8 λbY _ c=>?_;refine jS<|c.rc 1 ?_;refine c.rl 2 ?_;obtain⟨F',d',hF,up⟩:=c.sB (i:=0) rfl;refine hN _ F' _ d' (λdO ch=>J dO (hF _ ch)) λv' W' M _ d eQ=>?_;have c:=up d;obtain⟨rfl,u,s,rfl,iF,iN,rfl⟩:=eQ;replace c:=c.n5;refine vx rfl<|vx rfl<|vx rfl<|c.v8 λiS _ c=>?_;refine c.w8 5 λ_ c=>?_;refine jS<|c.yZ 1 λ_ c=>?_;refine vx (v:=.bool false) (rfl)<|j7<|qd.2 (C4 (λe=>G5 e.symm) λ_ g=>?_);have c:=c.more g;refine vx rfl<|vx rfl ?_;refine .here<|pa.2 (C3 (λe=>HC e.symm) λ_ g=>?_);have c:=c.more g;refine vx rfl<|vx rfl<|vx (v:=.bool false) (rfl)<|j7 ?_;refine .here<|qB.2 (R7 (B:=B.and M) (s:=s) ⟨J _ c.gr,c.get (i:=4) rfl⟩ iF iN U λuw _ d=>?_);have c:=c.jT d;replace c:=c.n7;refine vx rfl<|vx (v:=.bool true) (rfl)<|kV<|vx (c.sl (i:=6) rfl).sl.ln<|z5.by (λ(i:Nat) n v h'=>v=.int .i64 i/\i<=s.now.length/\n=.int .i64 ((s.now.take i).foldl (λn w=>tG (n+w.v)) 0)/\Cx F h h' [jR [],rV aS (Qg ⟨t,seq,du,ops,sn,.iface 336 u,uX,dn,sm,false⟩),rV aT [_,_,_,_],rV bY pJ.toList,jR M,rV iS [_,_,_,_,_,_,_,_],kz EW (jY uw) s.now]) (λi=>s.now.length - i) 0 ⟨rfl,aO _,rfl,c⟩ ?_;rintro i _ _ tO ⟨rfl,hi,rfl,c⟩ again q;refine vx j9<|lV (λoF=>?_) λoF=>?_
 ·have h1:=aB (l:=s.now) (i:=i) (by omega);have O:s.now.take (i+1)=s.now.take i++[s.now[i]'(by omega)]:=by rw[bN,h1];rfl
  generalize s.now[i]'(by omega)=w at h1 O;obtain⟨wv,wq,wr⟩:=w;refine(c.sl (i:=6) rfl).sl.whole rfl h1 rfl ?_;refine c.v3 λ_ _ c=>?_;refine c.w3 7 λ_ c=>?_;refine jS<|c.rc 7 ?_;exact vx (ni _ _)<|vx (inc (by omega))<|q (i+1) _ _ _ ⟨rfl,by omega,by rw[O,fR]; rfl,c.pick [0,1,2,3,4,5,6]⟩ (by omega)
 ·obtain rfl:i=s.now.length:=by omega
  rw[dD];generalize s.now.foldl (λn w=>tG (n+w.v)) 0=E at hI⊢;refine c.Fy rI λuS _ c=>have c:=c.n8;jS<|c.rc 1 ?_;refine c.ap 7 rfl (y7 _ (J _ c.gr)) rfl rfl (by simp only[aJ]; omega) (by simp only[aJ]; omega) λv68 _ c=>have c:=c.n8;c.lW rI E rfl rfl λv70 _ c=>have c:=c.n9;c.ap 7 rfl (c.sl (i:=8) rfl).sl rfl rfl (by simp only[aJ,aF,aH]; omega) (by simp only[aJ,aF,aH]; omega) λv71 _ c=>?_;obtain⟨G,rfl⟩:=(c.sl (i:=7) rfl).tW;replace c:=c.n9;refine jS<|c.yZ 1 λ_ c=>?_;refine .here<|jS<|c.rc 1 ?_;refine j7<|vx rfl<|jS<|c.yZ 1 λ_ c=>?_;refine c.Fy PH λv80 _ c=>have c:=c.Ut;jS<|c.rc 1 ?_;refine c.ap 9 rfl (y6 _ (J _ c.gr)) rfl rfl (by simp only[aJ]; omega) (by simp only[aJ]; omega) λv83 _ c=>have c:=c.Ut;c.lW PH false rfl rfl λv85 _ c=>have c:=c.WE;c.ap 9 rfl (c.sl (i:=10) rfl).sl rfl rfl (by simp only[aJ,aF,aH]; omega) (by simp only[aJ,aF,aH]; omega) λv86 _ c=>?_;obtain⟨H,rfl⟩:=(c.sl (i:=9) rfl).tW;obtain⟨u',oR,Q⟩:=X.tail (J _ c.gr);replace c:=c.WE;refine jS<|c.yZ 1 λ_ c=>?_;refine jS<|c.rc 1 ?_;refine vx oR<|jS<|c.yZ 1 λ_ c=>?_;refine jS<|c.yZ 1 λ_ c=>?_;refine jS<|c.yZ 1 λ_ c=>?_;refine c.rl 1 ?_;refine vx (jU (ds:=[_,_,_,_]) rfl) ?_;have c:=Cx.pack (L:=[_]) (M:=[jR M,kz rI (jY G) (([]++c'.pQ)++[E]),kz PH (jY H) (([]++c'.done)++[false])]) (c.pick [3,4,7,9]);refine hI ⟨t,seq,du,u',sn,.nilIface,(none,0,0),H,G,false⟩ (B.and [jR M,kz rI (jY G) (([]++c'.pQ)++[E]),kz PH (jY H) (([]++c'.done)++[false])]) _ _ (Bs.jX _ _) ⟨J _ c.gr,c.get (i:=1) rfl⟩ ⟨y1,y2,y3,Q.le (Bs.jX _ _),y5.le (Bs.jX _ _),?_,?_,hb.symm⟩ rfl λv2 W2 M2 _ d rW=>?_
  ·intro h b;obtain⟨_,F,p⟩:=b;exact((Cx.star p).sl (i:=2) rfl).sl
  ·intro h b;obtain⟨_,F,p⟩:=b;exact((Cx.star p).sl (i:=1) rfl).sl
  have c:=c.jT d;replace c:=c.n4;refine c.t8 0 λ_ c=>?_;exact hR v2 W2 _ _ (Cx.pack (L:=[_]) (M:=[_,_]) (c.pick [2,1,3])) (rW.le Bs.FW)
end
def NS:∀{es:List Et},(∀(i:Nat) (a b:Et),es[i]?=some a->es[i+1]?=some b->a.at'<b.at')->UL es=true
 | [],_=>rfl
 | [a],_=>rfl
 | a::b::r,H=>by
  unfold UL;rw[decide_eq_true (H 0 a b rfl rfl),fP];exact NS λi a b h1 h2=>H (i+1) a b h1 h2
def NE.bw {es:List Et} (ok:NE es):Lx es=0:=by
 unfold Lx;have h1:=ok.VB;have h2:=ok.len;rw[if_neg (λx=>x h1),if_neg (by omega),NS ok.Gm,if_neg (λx=>Bool.noConfusion x),cG.2 ok.may,if_neg (λx=>Bool.noConfusion x)]
def NE.srt {es:List Et} (ok:NE es):mK es=true:=by
 have:∀(n i:Nat),es.length - i=n->mK (es.drop i)=true:=λn=>by
  induction n with
  | zero=>intro i h;exact qI (by omega)
  | succ n E=>
   intro i h;by_cases h2:i+1<es.length
   ·have q:=aB (l:=es) (i:=i) (by omega);have u:=aB (l:=es) (i:=i+1) h2;rw[AF q u,E (i+1) (by omega),jH];exact decide_eq_true (iW (ok.Gm i _ _ q u))
   ·exact qI (by omega)
 exact this _ 0 rfl
def NE.sw {es:List Et} (ok:NE es) {t:Nat} {seq:Int} (q:1<=t/\t<=3) (u:1<=seq/\seq<=16777215):MZ t seq es=0:=by
 unfold MZ;have h1:=ok.VB;rw[if_neg (by omega),if_neg (λx=>x h1),ok.srt,if_neg (λx=>Bool.noConfusion x),if_neg];intro x;obtain⟨e,he,hm⟩:=gP.1 x;rw[ok.may e he] at hm;exact Bool.noConfusion hm
section
variable {g:lA} {es:List Et} {du:Bool} {e:SH}
def E8:I.mt 332 "Next"=some 340:=by kernel_rfl
def aax (q:On B Zs) (he:On B λh=>Sl EE h (jY e) es):I3 B (jR []) (.iface 332 (uH (WM du e))) g (λB W v=>BQ B W v (.bl (Mw du es))) ⟨5,mG,W0,W0⟩ false:=by
 intro h F R c u E;refine⟨_,_,_,rfl,E8,mL.2 (Pv (u _ c.gr) q he λv W M h' c' ok=>?_)⟩;exact E _ W M h' ((c.jT c').pick [1,2]) ⟨v,rfl,ok⟩
def wF:I.mt 327 "Next"=some 339:=by kernel_rfl
def aaR (E:On B Zs) (he:On B λh=>Sl EE h (jY e) es) {t:Nat} {seq:Int} {q u:Nat} (J:1<=t/\t<=3) :
  I3 B (jR [rV q [.func (.func 219) #[qA (zt t seq du e .nilFunc)] #[]],rV u (FT (zt t seq du e (vj 220 q u)))]) (.iface 327 (qA (zt t seq du e (vj 220 q u)))) g (λB W v=>BQ B W v (.sw (Ub t seq du es))) ⟨5,mR t,W0,W0⟩ false:=by
 intro h F R c G H;refine⟨_,_,_,rfl,wF,lH.2 (OE (by omega) c (λh' ch=>E _ (G _ ch)) λh' c'=>?_)⟩;exact H _ (jR []) [] h' (Cx.BO (L:=[jR []]) (Cx.BO (L:=[]) c')) ⟨_,rfl,rfl,zt t seq du e _,zt t seq du e .nilFunc,rfl,⟨rfl,rfl,rfl,he.le (Bs.jX _ _),rfl,rfl,rfl⟩,rfl,⟨rfl,rfl,rfl,he.le (Bs.jX _ _),rfl,rfl,rfl⟩⟩
def Fq:I.mt 336 "Next"=some 341:=by kernel_rfl
def aaH {l:SH} {ls:List Int} (u:On B λh=>Sl rI h (jY l) ls) (E:1<=ls.length) :
  I3 B (jR []) (.iface 336 (Gz (XY du l))) g (λB W v=>BQ B W v (.pk (Gd du ls))) ⟨5,ls.getD 0 0,W0,W0⟩ false:=by
 intro h F R c G H;refine⟨_,_,_,rfl,Fq,nS.2 (O3 (G _ c.gr) u E λJ M h' c2 q=>?_)⟩;exact H _ (jR []) M h' (c.jT c2) ⟨J,rfl,rfl,q⟩
def YJ {et:Et} {u:Nat} (f:Fr B u [.func (.func 214) #[qA (zt 0 0 du e .nilFunc)] #[]]) (he:On B λh=>Sl EE h (jY e) [et]) :
  I3 B (jR []) (.iface 327 (qA (zt 0 0 du e (oI 215 u)))) g (λB W v=>BQ B W v (.sw (uT du et))) ⟨5,et.at',W0,W0⟩ false:=by
 intro h F R c E G;refine⟨_,_,_,rfl,wF,lH.2 (TN (E _ c.gr) f he λH M h' c2 q=>?_)⟩;exact G _ (jR []) M h' (c.jT c2) ⟨H,rfl,rfl,q⟩
end
section
variable {x:Cc} {c:Cn} {o:ng} {r:List ng} {v:Value} {l:List Pt} {seen:List W3} {g:lA}
def O2 (b0:B.p h) (O:On B Zs) (K:Te B c x) (hn:x.now.oneCell'=true) (ho:c.ops=o::r) (hk:Hk o) (hv:On B λh=>Sl xx h v l) (hl:l.length<=100) (Q:∀p∈l,p.cell<256/\-128<=p.more/\p.more<=127)
  (hs:On B λh=>Sl EW h (jY x.seen) seen) (T:seen.length=l.length) (E:NE (kx l seen)) (ht:1<=c.t/\c.t<=3) (hq:0<=c.seq/\c.seq<16777215) (hd:¬o.d % 4=3) (U:o.d % 4=2->l.length=1)
  (V:∀en u sq d a W M h',Cx B1 h h' [jR M,W]->u.oneCell'=true->inl .eql u=some (.bool false)->I3 (B.and M) W u g (λB W v=>BQ B W v d) a false->pB c o l seen=(some {c with seen:=[],seq:=sq,now:=some d},a)->R (.tuple #[AN {x with seq:=sq,seen:=(none,0,0),uX:=en,now:=u},.int .i64 0]) h') :
  mN.1 (AN x) v h R:=by
 have y4:=K.ops;rw[ho] at y4;have e1:=K.t;have H:=K.seq;have J:=K.du;have q:∀{e:SH} {L:List km},On (B.and (kz EE (jY e) (kx l seen)::L)) λh=>Sl EE h (jY e) (kx l seen):=λ{e L} h b=>by
  obtain⟨_,F,p⟩:=b;exact((Cx.star p).sl (i:=0) rfl).sl
 refine QK b0 O hn y4 hk hv hl Q hs T E (by omega) (by omega) hd U (λG en e h' c'=>?_) (λG X en e et r1 r2 h' Z aS c'=>?_) (λaT en e r1 r2 h' c'=>?_)
 ·refine V en (.iface 332 (uH (WM x.du e))) x.seq (.bl (Mw c.kY (kx l seen))) ⟨5,mG,W0,W0⟩ (jR []) [kz EE (jY e) (kx l seen)] h' (Cx.BO (L:=[_]) (c'.pack (L:=[]) (M:=[_]))) rfl rfl ?_ ?_
  ·rw[J];exact aax (O.le (Bs.jX _ _)) q
  ·unfold pB;dsimp only;rw[if_pos G,if_pos E.bw,H]
 ·rw[J] at c';refine V en _ x.seq (.sw (uT c.kY et)) ⟨5,et.at',W0,W0⟩ (jR []) [_,_,_] h' (Cx.BO (L:=[_]) (c'.pack (L:=[]) (M:=[_,_,_]))) rfl rfl (by rw[J]; exact YJ (Fr.of (i:=1) rfl) (On.sl (i:=0) rfl)) ?_;unfold pB;dsimp only;have hg:((l.zip seen).map λx=>nU x.1 x.2).getD 0 K5=et:=by
   have:(kx l seen).getD 0 K5=et:=by rw[Z];rfl
   exact this
  have bY:(kx l seen).getD 0 K5=et:=hg;rw[if_neg (by omega),if_pos ⟨G,X⟩,bY,if_pos aS,H]
 ·refine V en _ (x.seq+1) (.sw (Ub c.t (c.seq+1) c.kY (kx l seen))) ⟨5,mR c.t,W0,W0⟩ (jR _) [kz EE (jY e) (kx l seen)] h' ?_ rfl rfl (by rw[e1,H,J]; exact aaR (O.le (Bs.jX _ _)) q ht) ?_
  ·rw[e1,H,J] at c';have c2:=Cx.pack (L:=[_,_]) (M:=[_]) (c'.pick [1,2,0]);exact Cx.pack (L:=[_]) (M:=[_,_]) (c2.pick [2,0,1])
  ·unfold pB;dsimp only;rw[if_neg (by omega),if_neg (λx=>aT.elim (λy=>by omega) λy=>y.2 x.2),if_pos (E.sw ht (by omega)),H]
end
def kg (c:Cn) (g:lA):List W3:=if c.seen=[] then [] else c.seen.dropLast++[g.w]
structure VH (c:Cn) (g:lA):Prop where
 t:1<=c.t/\c.t<=3
 seq:0<=c.seq/\c.seq<16777215
 ops:∀o∈c.ops,Hk o
 seen:c.seen.length<=6
 rd:∀o r,nM c.ops=o::r->o.d % 4=3->YD ((jZ o).map kM)
 beg:∀o r,nM c.ops=o::r->¬o.d % 4=3->¬(kg c g).length<(jZ o).length->(kg c g).length=(jZ o).length/\NE (kx (jZ o) (kg c g))/\(o.d % 4=2->(jZ o).length=1)
def G1:∀{l:List ng} {o:ng} {r:List ng},nM l=o::r->o∈l
 | [],_,_,h=>by cases h
 | x::l,o,r,h=>by
  rw[nM] at h;split at h
  ·exact aL _ (G1 h)
  ·injection h with h1 h2;subst h1;exact aM
def wI {o:ng} {r:List ng} (h:o.ps=[]):nM (o::r)=nM r:=by rw[nM,if_pos h]
def qg {o:ng} {r:List ng} (h:¬o.ps=[]):nM (o::r)=o::r:=by rw[nM,if_neg h]
def Bq {o:ng} (q:¬o.d % 4=2):jZ o=xF o.ps 6:=by unfold jZ; rw[if_neg q]; rfl
def NQ {ps:List Pt} {n:Nat} {p:Pt} (h:p∈xF ps n):p∈ps:=by
 unfold xF at h;obtain⟨i,_,h⟩:=gD.1 h;exact dK h
def AJ {o:ng} {p:Pt} (h:p∈jZ o):p∈o.ps:=by
 by_cases q:o.d % 4=2
 ·unfold jZ at h;rw[if_pos q] at h;exact NQ (n:=6) (dR h)
 ·rw[Bq q] at h;exact NQ h
def M3 {o:ng}:(jZ o).length<=6:=by
 by_cases q:o.d % 4=2
 ·unfold jZ;rw[if_pos q,aR];omega
 ·rw[Bq q];exact Ic _ _
section
variable {x:Cc} {c':Cn} {g:lA}
def HX (J:B.p h) (hZ:On B Zs) (hx:Te B c' x) (hn:x.now=.nilIface) (hc:c'.now=none) (U:c'.broken=false) (ok:VH c' g)
  (hR:Dp 89 B1 h B (λB W v=>Le B W v (lX c' g).1) (lX c' g).2.1 (lX c' g).2.2 R):ky.1 (AN x) (mU g) h R:=by
 obtain⟨t,seq,du,ops,sn,now,uX,dn,sm,br⟩:=x;dsimp only at hn;subst hn;obtain⟨k1,k2,k3,k4,k6,k5⟩:=ok;obtain⟨⟨q,E,gr⟩,K⟩:=g;obtain⟨y1,y2,y3,y4,y5,y6,y7,y8⟩:=hx;dsimp only at y1 y2 y3 y4 y5 y6 y7 y8;rw[U] at y8;subst y8;have c:=Cx.jQ h;refine c.K9 λaT _ c=>c.v4 λbY _ c=>c.v8 λdO _ c=>?_;refine jS<|c.rc 0 ?_;refine vx (v:=.bool false) (rfl)<|j7<|KW.by (λ(z:SH × List ng) h'=>sT B z.1 z.2/\nM z.2=nM c'.ops/\z.2.length<=c'.ops.length/\Cx (λ_=>False) h h' [rV aT (Qg ⟨t,seq,du,z.1,sn,.nilIface,uX,dn,sm,false⟩),rV bY [.int .i64 q,.int .u32 E,.int .u32 gr,.bool K],rV dO pJ.toList]) (λz=>z.2.length) (ops,c'.ops) ⟨y4,rfl,aP _,c⟩ ?_;rintro⟨u,l⟩ h4' ⟨ho,G,hle,c⟩ again T;dsimp only at ho G hle c T;refine sV.at (λv h'=>∃b,v=.bool b/\(b=true->∃o r,l=o::r/\o.ps=[])/\(b=false->l=[]\/∃o r,l=o::r/\¬o.ps=[])/\Cx (λ_=>False) h h' [rV aT (Qg ⟨t,seq,du,u,sn,.nilIface,uX,dn,sm,false⟩),rV bY [.int .i64 q,.int .u32 E,.int .u32 gr,.bool K],rV dO pJ.toList]) ?_ ?_
 ·refine jS<|c.rc 0 ?_;refine vx (ho.ln (B.up J c.gr))<|vx mV<|lV (λe22=>?_) λe22=>?_
  ·refine jS<|c.rc 0 ?_;obtain⟨o,r,rfl⟩:∃o r,l=o::r:=by cases l with | nil=>simp at e22 | cons o r=>exact⟨o,r,rfl⟩
   obtain⟨us,p,q1,q2⟩:=ho.head;refine(q1 _ (B.up J c.gr)).sN (i:=0) (j:=1) rfl rfl rfl (u:=jY p) rfl ?_;refine vx (q2 _ (B.up J c.gr)).ln<|vx kU ?_;first | exact⟨_,rfl,λe=>⟨_,_,rfl,cF.1 (by have:=of_decide_eq_true e; omega)⟩,λe=>.inr ⟨_,_,rfl,λe2=>by rw[e2] at e; exact absurd e (by decide)⟩,c⟩| exact⟨_,rfl,λe=>Bool.noConfusion e,λ_=>.inl (cF.1 (by omega)),c⟩
  ·first | exact⟨_,rfl,λe=>⟨_,_,rfl,cF.1 (by have:=of_decide_eq_true e; omega)⟩,λe=>.inr ⟨_,_,rfl,λe2=>by rw[e2] at e; exact absurd e (by decide)⟩,c⟩| exact⟨_,rfl,λe=>Bool.noConfusion e,λ_=>.inl (cF.1 (by omega)),c⟩
 ·rintro _ h5' ⟨b,rfl,hT,hF,c⟩;replace c:=c.n3;refine En.br (λeQ=>?_) λeQ=>?_
  ·refine jS<|c.rc 0 ?_;obtain⟨o,r,rfl,ep⟩:=hT eQ;obtain⟨u',hsl,hops⟩:=ho.tail (B.up J c.gr);refine vx hsl<|jS<|c.yZ 0 λ_ c=>?_;exact T (u',r) _ ⟨hops,(wI ep).symm.trans G,by simp only[aH] at hle; dsimp only; omega,c⟩ (by simp only[aH]; omega)
  ·refine sV.at (λv h'=>∃b,v=.bool b/\(b=true->l=[])/\(b=false->∃o r,l=o::r/\¬o.ps=[])/\Cx (λ_=>False) h h' [rV aT (Qg ⟨t,seq,du,u,sn,.nilIface,uX,dn,sm,false⟩),rV bY [.int .i64 q,.int .u32 E,.int .u32 gr,.bool K],rV dO pJ.toList]) ?_ ?_
   ·refine jS<|c.rc 0 ?_;refine vx (ho.ln (B.up J c.gr))<|vx kU<|lV (λoF=>?_) λoF=>?_
    ·first | exact⟨_,rfl,λ_=>cF.1 (by omega),λe=>Bool.noConfusion e,c⟩| exact⟨_,rfl,λe=>Bool.noConfusion e,λ_=>(hF eQ).resolve_left λe=>oF (by rw[e]; rfl),c⟩
    ·refine jS<|c.rc 0 ?_;first | exact⟨_,rfl,λ_=>cF.1 (by omega),λe=>Bool.noConfusion e,c⟩| exact⟨_,rfl,λe=>Bool.noConfusion e,λ_=>(hF eQ).resolve_left λe=>oF (by rw[e]; rfl),c⟩
   ·rintro _ h6' ⟨b,rfl,hT1,hF1,c⟩;replace c:=c.n3;refine En.br (λoR=>?_) λoR=>?_
    ·refine c.rl 0 ?_;refine vx rfl<|vx (jU (ds:=[_,_,_,_,_,_,_,_]) rfl)<|c.w8 2 λ_ c=>?_;refine c.rl 2 ?_;obtain rfl:=hT1 oR;have e1:lX c' ⟨⟨q,E,gr⟩,K⟩=({c' with ops:=[]},o8,true):=by unfold lX;rw[<-G];rfl
     rw[e1] at hR;refine hR _ (jR []) [] _ (Cx.BO (L:=[_]) (Cx.BO (L:=[]) (c.pick []))) ⟨_,rfl,⟨y1,y2,y3,ho.le (Bs.jX _ _),y5.le (Bs.jX _ _),y6.le (Bs.jX _ _),y7.le (Bs.jX _ _),U.symm⟩,?_⟩;dsimp only;rw[hc];exact⟨rfl,rfl⟩
    ·refine c.rl 0 ?_;obtain⟨o,r,rfl,hps⟩:=hF1 oR;rw[qg hps] at G;have X:=k3 o (G1 G.symm);obtain⟨us,p,q1,q2⟩:=ho.head;refine SL (x:=⟨t,seq,du,u,sn,.nilIface,uX,dn,sm,false⟩) (B.up J c.gr) rfl ho X λpl _ d=>?_;have c:=c.jT d;have hpl:=M3 (o:=o);replace c:=c.n4;refine .here<|jS<|c.rc 0 ?_;refine(q1 _ (B.up J c.gr)).sN (i:=0) (j:=0) rfl rfl rfl (u:=.int .u8 o.d) rfl ?_;refine vx (Ah (by omega) (by decide))<|vx kU<|lV (λe55=>?_) λe55=>?_
     ·refine jS<|vx (c.vp (i:=0) (ds:=[_,_,_]) rfl rfl rfl)<|jS<|c.rc 0 ?_;refine c.rl 0 ?_;have c:=Cx.pack (L:=[_,_,_]) (M:=[kz xx (jY pl) (jZ o)]) (c.pick [0,1,2,3]);refine CB (x:=⟨t,seq,du,u,sn,.nilIface,uX,dn,sm,false⟩) (B:=B.and [kz xx (jY pl) (jZ o)]) ⟨B.up J c.gr,c.get (i:=3) rfl⟩ (hZ.le (Bs.jX _ _)) rfl (On.sl (i:=0) rfl) (by omega) (λp hp=>(X.pt p (AJ hp)).1) λat9 _ d=>have c:=c.jT d;have c:=c.n5;c.ac 0<|aQ (c.vp (i:=0) (ds:=[_,_,_]) rfl rfl rfl) ?_;refine Jj (hZ _ (B.up J c.gr)) (c.sl (i:=4) rfl).sl (k6 o r G.symm (by omega)) λl7 _ d=>?_;have c:=c.jT d;have hlok:=(k6 o r G.symm (by omega)).len.1;have Z:inl .eql (.iface 336 (Gz (XY du l7)))=some (.bool false):=rfl;have e1:lX c' ⟨⟨q,E,gr⟩,K⟩=({c' with ops:=o::r,now:=some (.pk (Gd c'.kY ((jZ o).map kM)))},⟨5,((jZ o).map kM).getD 0 0,W0,W0⟩,false):=by
       unfold lX;rw[<-G];dsimp only;rw[if_neg (by rw[U]; decide),if_pos (show o.d % 4=3 by omega)]
      rw[e1] at hR;replace c:=c.n6;refine vx rfl<|vx rfl<|jS<|c.yZ 0 λ_ c=>?_;refine .here<|vx (v:=.bool false) rfl<|j7<|jS<|c.rc 0 ?_;refine vx Z<|j7<|c.rl 0 ?_;refine vx (jU (ds:=[_,_,_,_]) rfl) ?_;have hb2:=U;have c:=Cx.BO (L:=[_,_,_,_,_]) (Cx.pack (L:=[_,_,_,_]) (M:=[kz rI (jY l7) ((jZ o).map kM)]) (c.pick [0,1,2,3,5]));obtain⟨F',d',hF,up⟩:=c.sB (i:=5) rfl;have hM:∀O,Ch F' _ O->(B.and [kz rI (jY l7) ((jZ o).map kM)]).p O:=λO ch=>⟨B.up J (hF _ ch),(up (A':=jR []) (M:=[]) (h':=O) (Cx.TQ ch)).get (i:=4) rfl⟩;refine kK.2 (Ft (x:=⟨t,seq,du,u,sn,.iface 336 (Gz (XY du l7)),uX,dn,sm,false⟩) (g:=qa) rfl (V:=λB W v=>BQ B W v (.pk (Gd c'.kY ((jZ o).map kM)))) (by rw[<-y3]; exact aaH (On.sl (i:=0) rfl) hlok) (λB W v H=>H.one) d' hM λv2 W2 M2 _ d2 rW=>?_);have c:=up d2;replace c:=c.n7;refine c.t8 2 λ_ c=>?_;obtain⟨u2,rfl,H⟩:=rW;have lz:B.le (B.and [jR [kz rI (jY l7) ((jZ o).map kM)],jR M2]):=Bs.jX _ _;exact hR _ W2 [jR [kz rI (jY l7) ((jZ o).map kM)],jR M2] _ (Cx.pack (L:=[_]) (M:=[_,_]) (c.pick [5,4,6])) ⟨⟨t,seq,du,u,sn,u2,uX,dn,sm,false⟩,rfl,⟨y1,y2,y3,ho.le lz,y5.le lz,y6.le lz,y7.le lz,U.symm⟩,H.le λh b=>⟨⟨b.1,Bs.star b (i:=0) rfl⟩,Bs.star b (i:=1) rfl⟩⟩
     ·refine HJ.at (λh'=>∃u4 M,Cx (λ_=>False) h h' [rV aT (Qg ⟨t,seq,du,u,u4,.nilIface,uX,dn,sm,false⟩),rV bY [.int .i64 q,.int .u32 E,.int .u32 gr,.bool K],rV dO pJ.toList,jR M]/\(On (B.and M) λh=>Sl xx h (jY pl) (jZ o))/\On (B.and M) λh=>Sl EW h (jY u4) (kg c' ⟨⟨q,E,gr⟩,K⟩)) ?_ ?_
      ·refine jS<|c.rc 0 ?_;refine vx (y5 _ (B.up J c.gr)).ln<|vx mV<|lV (λtO=>?_) λtO=>?_
       ·refine jS<|c.rc 0 ?_;refine jS<|c.rc 0 ?_;refine vx (y5 _ (B.up J c.gr)).ln<|vx (v:=.int .i64 ((c'.seen.length - 1:Nat):Int)) ((nu ⟨by omega,by omega⟩).trans (congrArg (λz=>some (Value.int .i64 z)) (by omega))) ?_;have iS:=λh' b'=>(y5 h' b').sub (n:=3) rfl (lo:=none) (hi:=some (.int .i64 ((c'.seen.length - 1:Nat):Int))) (l:=0) (u:=c'.seen.length - 1) (.inl ⟨rfl,rfl⟩) (.inr ⟨_,_,rfl,rfl⟩) (aO _) (by omega);obtain⟨w,ew,Hw,_⟩:=iS _ (B.up J c.gr);have uS:On B λh=>Sl EW h w c'.seen.dropLast:=λh' b'=>by
         obtain⟨w',iF,Hw',_⟩:=iS h' b';rw[ew] at iF;injection iF with iF;rw[iF,List.dropLast_eq_take];exact Hw'
        have hse:kg c' ⟨⟨q,E,gr⟩,K⟩=([]++c'.seen.dropLast)++[⟨q,E,gr⟩]:=by
         unfold kg;rw[if_neg (λe=>by rw[e] at tO; exact absurd tO (by decide))];rfl
        refine vx ew<|jS<|vx (c.vp (i:=1) (ds:=[_,_,_]) rfl rfl rfl)<|⟨?_,?_⟩
        ·refine c.Fy EW λv72 _ c=>have c:=c.n5;aQ (c.vp (i:=1) (ds:=[_,_,_]) rfl rfl rfl) ?_;refine c.ac 0<|c.ac 0<|⟨?_,?_⟩
         ·refine c.ap 4 rfl (uS _ (B.up J c.gr)) rfl rfl (by simp only[aJ,bT]; omega) (by simp only[aJ,bT]; omega) λv80 _ c=>have c:=c.n5;aQ (c.vp (i:=1) (ds:=[_,_,_]) rfl rfl rfl) ?_;refine c.lW EW ⟨q,E,gr⟩ rfl rfl λv83 _ c=>have c:=c.n6;c.ap 4 rfl (c.sl (i:=5) rfl).sl rfl rfl (by simp only[aJ,aF,bT,aH]; omega) (by simp only[aJ,aF,bT,aH]; omega) λv84 _ c=>?_;obtain⟨u4,rfl⟩:=(c.sl (i:=4) rfl).tW;replace c:=c.n6;refine jS<|c.yZ 0 λ_ c=>?_;exact⟨u4,[_,_],Cx.pack (L:=[_,_,_]) (M:=[_,_]) (c.pick [0,1,2,3,4]),On.sl (i:=0) rfl,by rw[hse]; exact On.sl (i:=1) rfl⟩
         ·refine c.lW EW ⟨q,E,gr⟩ rfl rfl λv83 _ c=>have c:=c.n6;c.ac 0<|c.ac 0<|c.ap 4 rfl (uS _ (B.up J c.gr)) rfl rfl (by simp only[aJ,bT]; omega) (by simp only[aJ,bT]; omega) λv80 _ c=>have c:=c.n6;c.ap 4 rfl (c.sl (i:=5) rfl).sl rfl rfl (by simp only[aJ,aF,bT,aH]; omega) (by simp only[aJ,aF,bT,aH]; omega) λv84 _ c=>?_;obtain⟨u4,rfl⟩:=(c.sl (i:=4) rfl).tW;replace c:=c.n6;refine jS<|c.yZ 0 λ_ c=>?_;exact⟨u4,[_,_],Cx.pack (L:=[_,_,_]) (M:=[_,_]) (c.pick [0,1,2,3,4]),On.sl (i:=0) rfl,by rw[hse]; exact On.sl (i:=1) rfl⟩
        ·refine c.lW EW ⟨q,E,gr⟩ rfl rfl λv83 _ c=>have c:=c.n5;c.ac 0<|c.ac 0<|c.Fy EW λv72 _ c=>have c:=c.n6;c.ac 0<|c.ac 0<|c.ap 5 rfl (uS _ (B.up J c.gr)) rfl rfl (by simp only[aJ,bT]; omega) (by simp only[aJ,bT]; omega) λv80 _ c=>have c:=c.n6;c.ap 5 rfl (c.sl (i:=4) rfl).sl rfl rfl (by simp only[aJ,aF,bT,aH]; omega) (by simp only[aJ,aF,bT,aH]; omega) λv84 _ c=>?_;obtain⟨u4,rfl⟩:=(c.sl (i:=5) rfl).tW;replace c:=c.n6;refine jS<|c.yZ 0 λ_ c=>?_;exact⟨u4,[_,_],Cx.pack (L:=[_,_,_]) (M:=[_,_]) (c.pick [0,1,2,3,5]),On.sl (i:=0) rfl,by rw[hse]; exact On.sl (i:=1) rfl⟩
       ·exact⟨sn,[_],Cx.pack (L:=[_,_,_]) (M:=[_]) c,On.sl (i:=0) rfl,by unfold kg; rw[if_pos (cF.1 (by omega))]; rw[cF.1 (show c'.seen.length=0 by omega)] at y5; exact y5.le (Bs.jX _ _)⟩
      ·rintro h7' ⟨u4,M,c,aS,iN⟩;replace c:=c.n4;refine jS<|c.rc 0 ?_;have hsn:(kg c' ⟨⟨q,E,gr⟩,K⟩).length<=7:=by
        unfold kg;split
        ·decide
        ·rw[aF,bT,aE];omega
       refine vx (iN _ ⟨B.up J c.gr,c.get (i:=3) rfl⟩).ln<|vx (aS _ ⟨B.up J c.gr,c.get (i:=3) rfl⟩).ln<|vx j9<|lV (λe92=>?_) λe92=>?_
       ·refine c.Fy EW λv93 _ c=>have c:=c.n5;jS<|c.rc 0 ?_;refine c.ap 4 rfl (iN _ ⟨B.up J c.gr,c.get (i:=3) rfl⟩) rfl rfl (by simp only[aJ]; omega) (by simp only[aJ]; omega) λv96 _ c=>have c:=c.n5;vx (jU (ds:=[_,_,_]) rfl)<|c.lW EW W0 rfl rfl λv98 _ c=>have c:=c.n6;c.ap 4 rfl (c.sl (i:=5) rfl).sl rfl rfl (by simp only[aJ,aF,aH]; omega) (by simp only[aJ,aF,aH]; omega) λv99 _ c=>?_;obtain⟨u5,rfl⟩:=(c.sl (i:=4) rfl).tW;replace c:=c.n6;refine jS<|c.yZ 0 λ_ c=>?_;refine c.rl 0 ?_;refine vx rfl<|c.rl 0 ?_;refine CB (B:=B.and M) (x:=⟨t,seq,du,u,u5,.nilIface,uX,dn,sm,false⟩) ⟨B.up J c.gr,c.get (i:=3) rfl⟩ (hZ.le (Bs.jX _ _)) rfl aS (by omega) (λp hp=>(X.pt p (AJ hp)).1) λat5 _ d=>have c:=c.jT d;have c:=c.n7;c.al 0<|?_;have hxp:((jZ o).map kM)[(kg c' ⟨⟨q,E,gr⟩,K⟩).length]?=some (((jZ o).map kM).getD (kg c' ⟨⟨q,E,gr⟩,K⟩).length 0):=by
         have:=aB (l:=(jZ o).map kM) (i:=(kg c' ⟨⟨q,E,gr⟩,K⟩).length) (by rw[bE]; omega);rw[aI,this];rfl
        obtain⟨r5,o5,e5,row5,_⟩:=(c.sl (i:=6) rfl).sl.ix hxp (n:=1) rfl (k:=.i64) (z:=((kg c' ⟨⟨q,E,gr⟩,K⟩).length:Int)) rfl;refine vx e5<|vx (row5.yK rfl)<|vx (jU (ds:=[_,_,_,_,_,_,_,_]) rfl)<|c.w8 2 λ_ c=>?_;refine c.rl 2 ?_;have e1:lX c' ⟨⟨q,E,gr⟩,K⟩=({c' with ops:=o::r,seen:=([]++kg c' ⟨⟨q,E,gr⟩,K⟩)++[W0]},⟨5,((jZ o).map kM).getD (kg c' ⟨⟨q,E,gr⟩,K⟩).length 0,W0,W0⟩,false):=by
         unfold lX;rw[<-G];dsimp only;rw[if_neg (by rw[U]; decide),if_neg (by omega)];exact if_pos (show(kg c' ⟨⟨q,E,gr⟩,K⟩).length<_ by omega)
        rw[e1] at hR;have c9:=Cx.BO (L:=[_,_]) (c.pick [3,4]);refine hR _ (jR []) [jR M,_] _ (Cx.pack (L:=[_]) (M:=[_,_]) (c9.pick [2,0,1])) ⟨⟨t,seq,du,u,u5,.nilIface,uX,dn,sm,false⟩,rfl,⟨y1,y2,y3,ho.le (Bs.jX _ _),On.sl (i:=1) rfl,y6.le (Bs.jX _ _),y7.le (Bs.jX _ _),U.symm⟩,?_⟩;dsimp only;rw[hc];exact⟨rfl,rfl⟩
       ·refine c.rl 0 ?_;obtain⟨hle2,hEok,hl1⟩:=k5 o r G.symm (by omega) (by omega);refine mN.2 (O2 (B:=B.and M) (g:=qa) (c:={c' with ops:=o::r,seen:=kg c' ⟨⟨q,E,gr⟩,K⟩}) (x:=⟨t,seq,du,u,u4,.nilIface,uX,dn,sm,false⟩) ⟨B.up J c.gr,c.get (i:=3) rfl⟩ (hZ.le (Bs.jX _ _)) ⟨y1,y2,y3,ho.le (Bs.jX _ _),iN,y6.le (Bs.jX _ _),y7.le (Bs.jX _ _),U.symm⟩ rfl rfl X aS (by omega) (λp hp=>X.pt p (AJ hp)) iN hle2 hEok k1 k2 (by omega) hl1 λen u6 sq d6 a6 W6 M6 _ c6 hone Z hN hbeg=>?_);have c:=c.jT c6;have e1:lX c' ⟨⟨q,E,gr⟩,K⟩=({c' with ops:=o::r,seen:=[],seq:=sq,now:=some d6},a6,false):=by
         unfold lX;rw[<-G];dsimp only;rw[if_neg (by rw[U]; decide),if_neg (by omega)];refine(if_neg (show ¬(kg c' ⟨⟨q,E,gr⟩,K⟩).length<_ by omega)).trans ?_;have Q:pB {c' with ops:=o::r} o (jZ o) (kg c' ⟨⟨q,E,gr⟩,K⟩)=(some {c' with ops:=o::r,seen:=[],seq:=sq,now:=some d6},a6):=hbeg;unfold kg at Q;dsimp only at Q;rw[Q]
        rw[e1] at hR;replace c:=c.n6;refine vx rfl<|vx rfl<|c.Tf 0 λ_ c=>?_;refine .here<|vx (v:=.bool false) rfl<|j7<|jS<|c.rc 0 ?_;refine vx Z<|j7<|c.rl 0 ?_;refine vx (jU (ds:=[_,_,_,_]) rfl) ?_;have hb2:=U;obtain⟨F',d',hF,up⟩:=c.sB (i:=5) rfl;have hM:∀O,Ch F' _ O->((B.and M).and M6).p O:=λO ch=>by
         have cc:=up (A':=jR []) (M:=[]) (h':=O) (Cx.TQ ch);exact⟨⟨B.up J (hF _ ch),cc.get (i:=3) rfl⟩,cc.get (i:=4) rfl⟩
        refine kK.2 (Ft (x:=⟨t,sq,du,u,(none,0,0),u6,en,dn,sm,false⟩) (g:=qa) hone hN (λB W v H=>H.one) d' hM λv2 W2 M2 _ d2 rW=>?_);have c:=up d2;replace c:=c.n7;refine c.t8 2 λ_ c=>?_;obtain⟨u2,rfl,H⟩:=rW;have lz:B.le (B.and [jR M,jR M6,jR M2]):=Bs.jX _ _;exact hR _ W2 [jR M,jR M6,jR M2] _ (Cx.pack (L:=[_]) (M:=[_,_,_]) (c.pick [5,3,4,6])) ⟨⟨t,sq,du,u,(none,0,0),u2,en,dn,sm,false⟩,rfl,⟨y1,rfl,y3,ho.le lz,(λ_ _=>Sl.nil),y6.le lz,y7.le lz,U.symm⟩,H.le λh b=>⟨⟨⟨b.1,Bs.star b (i:=0) rfl⟩,Bs.star b (i:=1) rfl⟩,Bs.star b (i:=2) rfl⟩⟩
end
def Cq {s:Sw} {l:List Ac}:(BJ s l).2.2=false:=by cases l <;> rfl
def MM {s:Sw} {w:W3} (h:(ug s w).2.2=true):∃ok,(ug s w).1.ph=.over ok:=by
 unfold ug at h⊢;split
 ·exact⟨_,rfl⟩
 ·rename_i n1;rw[if_neg n1] at h;split
  ·rename_i n2;rw[if_pos n2] at h;exact Bool.noConfusion (h.symm.trans (Cq (s:=s) (l:=mX s)))
  ·rename_i n2;rw[if_neg n2] at h;exact Bool.noConfusion h
def O9 {s:Sw} {g:lA} (u:QE s.ph) (h:(kP s g).2.2=true):∃ok,(kP s g).1.ph=.over ok:=by
 unfold kP at h⊢;cases E:s.ph with
 | pO=>rw[E] at h;dsimp only at h⊢;exact MM h
 | last hs=>
  rw[E] at h;dsimp only at h⊢;cases G:kQ hs g with
  | mk H q=>
   obtain⟨a,d⟩:=q;rw[G] at h;cases d with
   | false=>exact Bool.noConfusion h
   | true=>exact Bool.noConfusion (h.symm.trans (Cq (s:=s) (l:=mX s)))
 | qx l=>rw[E] at h;exact Bool.noConfusion (h.symm.trans (Cq (s:=s) (l:=l)))
 | own hs=>
  rw[E] at h;dsimp only at h⊢;cases G:kQ hs g with
  | mk H q=>
   obtain⟨a,d⟩:=q;rw[G] at h;cases d with
   | false=>exact Bool.noConfusion h
   | true=>exact⟨_,rfl⟩
 | over ok=>rw[E] at u;exact u.elim
 | rE=>rw[E] at u;exact u.elim
 | pK w hs=>rw[E] at u;exact u.elim
 | qv=>rw[E] at u;exact u.elim
 | sv=>rw[E] at u;exact u.elim
 | send l ok=>rw[E] at u;exact u.elim
def Ax {s:Sw} {ok:Bool} {l:List Ac} (h:(uO s ok l).2.2=true):∃q,(uO s ok l).1.ph=.over q:=by
 cases l with
 | nil=>exact⟨ok,rfl⟩
 | cons a l=>exact Bool.noConfusion h
def Jf {s:Sw} {w:W3} (h:(yH s w).2.2=true):∃ok,(yH s w).1.ph=.over ok:=by
 unfold yH at h⊢;split
 ·rename_i h1;rw[if_pos h1] at h;exact Bool.noConfusion h
 ·rename_i h1;rw[if_neg h1] at h;split
  ·rename_i h2;rw[if_pos h2] at h;exact Ax h
  ·rename_i h2;rw[if_neg h2] at h;exact Bool.noConfusion h
def L4 {s:Sw} {g:lA} (u:P5 s) (h:(kP s g).2.2=true):∃ok,(kP s g).1.ph=.over ok:=by
 obtain⟨_,u⟩:=u;unfold kP at h⊢;cases E:s.ph with
 | rE=>rw[E] at h;exact Jf h
 | pK w hs=>
  rw[E] at h;dsimp only at h⊢;cases G:kQ hs g with
  | mk H q=>
   obtain⟨a,d⟩:=q;rw[G] at h;cases d with
   | false=>exact Bool.noConfusion h
   | true=>
    dsimp only at h;split at h <;> exact Bool.noConfusion h
 | qv=>rw[E] at h;exact Bool.noConfusion h
 | sv=>
  rw[E] at h;dsimp only at h⊢;split
  ·rename_i h1;rw[if_pos h1] at h;exact Ax h
  ·rename_i h1;rw[if_neg h1] at h;exact Jf h
 | send l ok=>rw[E] at h;exact Ax h
 | pO=>rw[E] at u;exact u.elim
 | last hs=>rw[E] at u;exact u.elim
 | own hs=>rw[E] at u;exact u.elim
 | qx l=>rw[E] at u;exact u.elim
 | over ok=>rw[E] at u;exact u.elim
def GB {s:Bk}:(rh s).2.2=false:=by
 unfold rh;split
 ·rfl
 ·split
  ·unfold qk;dsimp only;split <;> rfl
  ·rfl
def OQ {s:Bk}:(qk s).2.2=false:=by unfold qk; dsimp only; split <;> rfl
def Dm {s:Bk} {op:Bool}:(my s op).2.2=false:=by
 unfold my;split
 ·rfl
 ·exact GB
def OH {s:Bk} {g:lA} (h:(kr s g).2.2=true):(kr s g).1.ph=.over:=by
 unfold kr at h⊢;cases u:s.ph with
 | take k=>
  rw[u] at h;dsimp only at h⊢;cases E:mC k g with
  | mk k' q=>
   obtain⟨a,d⟩:=q;rw[E] at h;cases d with
   | false=>cases k' <;> exact Bool.noConfusion h
   | true=>cases k' <;> first | exact Bool.noConfusion h | rfl
 | looked=>rw[u] at h;dsimp only at h;unfold r7 at h;split at h <;> exact Bool.noConfusion h
 | rel op=>
  rw[u] at h;dsimp only at h;split at h
  ·exact Bool.noConfusion h
  ·exact Bool.noConfusion (h.symm.trans Dm)
 | zw op=>rw[u] at h;exact Bool.noConfusion h
 | sS op=>rw[u] at h;exact Bool.noConfusion (h.symm.trans Dm)
 | fill=>rw[u] at h;exact Bool.noConfusion (h.symm.trans GB)
 | lQ=>rw[u] at h;exact Bool.noConfusion (h.symm.trans OQ)
 | zq=>rw[u] at h;exact Bool.noConfusion h
 | mQ hs=>
  rw[u] at h;dsimp only at h⊢;cases E:kQ hs g with
  | mk G q=>
   obtain⟨a,d⟩:=q;rw[E] at h;cases d <;> exact Bool.noConfusion h
 | pR b k=>
  rw[u] at h;dsimp only at h⊢;cases E:m3 b k g with
  | mk k' q=>
   obtain⟨a,d⟩:=q;rw[E] at h;cases d with
   | false=>exact Bool.noConfusion h
   | true=>rfl
 | over=>exact u
def Rn:Cd->Prop
 | .sw s=>ZA s/\QE s.ph\/P5 s
 | .bl s=>SF s
 | .pk s=>OG s
def Zq:Cd->Bool
 | .bl _=>true
 | _=>false
def IZ (c:Cn) (d:Cd):Cn:={c with done:=c.done++[wK d],pQ:=c.pQ++A7 d,ops:=c.ops.tail,now:=none}
structure UB (c:Cn) (g:lA):Prop where
 br:c.broken=false
 dn:c.done.length<=1000
 sm:c.pQ.length<=1000
 idle:c.now=none->VH c g
 now:∀d,c.now=some d->Rn d/\c.ops≠[]/\((lD d g).2.2=true->VH (IZ c (lD d g).1) qa)
section
variable {x:Cc} {W:km} {g:lA} {v:Value} {d:Cd} {c':Cn} {V:Bs->km->Value->Prop} {a:Ac} {dn:Bool}
def aat (G:On B Zs) {s:Sw} {u:Value} (hv:Ed B u s) (ok:ZA s) (q:QE s.ph) (H:Ww g.w):I3 B (jR []) (.iface 327 u) g (λB W v=>BQ B W v (.sw (kP s g).1)) (kP s g).2.1 (kP s g).2.2:=by
 intro h F R c J K;refine⟨_,_,_,rfl,wF,lH.2 (XM (J _ c.gr) G hv ok q H λO M h' c2 E=>?_)⟩;exact K _ (jR []) M h' (c.jT c2) ⟨O,rfl,rfl,E⟩
def Y8 (E:On B Zs) {s:Sw} {u:Value} (hv:Ed B u s) (ok:P5 s) (G:Ww g.w):I3 B (jR []) (.iface 327 u) g (λB W v=>BQ B W v (.sw (kP s g).1)) (kP s g).2.1 (kP s g).2.2:=by
 intro h F R c H J;refine⟨_,_,_,rfl,wF,lH.2 (Uo (H _ c.gr) E hv ok G λK M h' c2 q=>?_)⟩;exact J _ (jR []) M h' (c.jT c2) ⟨K,rfl,rfl,q⟩
def aah (E:On B Zs) {s:Pk} {u:Value} (hv:K7 B u s) (ok:OG s) (G:Ww g.w):I3 B (jR []) (.iface 336 u) g (λB W v=>BQ B W v (.pk (nO s g).1)) (nO s g).2.1 (nO s g).2.2:=by
 intro h F R c H J;refine⟨_,_,_,rfl,Fq,nS.2 (Xi (H _ c.gr) E hv ok G λK M h' c2 q=>?_)⟩;exact J _ (jR []) M h' (c.jT c2) ⟨K,rfl,rfl,q⟩
def Z6 (E:On B Zs) {s:Bk} {u:Value} (hv:VW B W u s) (ok:SF s) (G:Ww g.w):I3 B W (.iface 332 u) g (λB W v=>BQ B W v (.bl (kr s g).1)) (kr s g).2.1 (kr s g).2.2:=by
 intro h F R c H J;exact⟨_,_,_,rfl,E8,mL.2 (Xz E hv ok G c H λK W M h' c2 q=>J _ W M h' c2 ⟨K,rfl,q⟩)⟩
def I3.imp {q:Bs->km->Value->Prop} (H:I3 B W v g V a dn) (f:∀B W v,V B W v->q B W v):I3 B W v g q a dn:=
 λh F R c u E=>H h F R c u λv W M h' c2 ok=>E v W M h' c2 (f _ _ _ ok)
def aaj (q:On B Zs) (hv:BQ B W v d) (ok:Rn d) (E:Ww g.w):I3 B W v g (λB W v=>BQ B W v (lD d g).1) (lD d g).2.1 (lD d g).2.2:=by
 cases d with
 | sw s=>
  obtain⟨u,rfl,rfl,hv⟩:=hv;exact ok.elim (λok=>aat q hv ok.1 ok.2 E) λok=>Y8 q hv ok E
 | bl s=>
  obtain⟨u,rfl,hv⟩:=hv;exact Z6 q hv ok E
 | pk s=>
  obtain⟨u,rfl,rfl,hv⟩:=hv;exact aah q hv ok E
def YZ:Cd->Bool
 | .pk _=>true
 | _=>false
def L1 {p:PP} (h:C0 p=true):p=.over:=by cases p <;> first | rfl | cases h
def BQ.aaD {s:Pk} (hv:BQ B W v (lD (.pk s) g).1) (q:(nO s g).2.2=true):W=jR []/\∃u s',v=.iface 336 u/\K7 B u s'/\s'.ph=.over/\s'.now=(nO s g).1.now:=by
 obtain⟨u,rfl,rfl,hv⟩:=hv;rw[KT] at q;exact⟨rfl,u,_,rfl,hv,L1 q,rfl⟩
def Rv {s:Pk} (ok:OG s):(nO s g).1.now.length<=1000:=by
 obtain⟨E,q⟩:=ok;have h0:=E.now;have u:∀s:Pk,s.now.length<=1000->(oQ s).1.now.length<=1000:=λs h=>by unfold oQ;split <;> exact h
 unfold nO;cases G:s.ph with
 | found=>
  rw[G] at q;dsimp only;unfold uq;split
  ·exact h0
  ·have h1:(s.now++[g.w]).length<=1000:=by rw[aF,aE];exact q.2
   dsimp only;split
   ·exact h1
   ·unfold qR;dsimp only;split
    ·exact aO _
    ·split
     ·exact u _ h1
     ·exact h1
 | mQ hs=>
  dsimp only;split
  ·exact h0
  ·split <;> exact h0
 | back=>exact h0
 | flush=>exact u _ h0
 | last=>exact h0
 | over=>exact h0
def BQ.end (hv:BQ B W v (lD d g).1) (ok:Rn d) (E:YZ d=false) (G:(lD d g).2.2=true):W=jR []/\Q7 B v (Zq d) (wK (lD d g).1):=by
 cases d with
 | sw s=>
  obtain⟨u,rfl,rfl,hv⟩:=hv;obtain⟨k,q⟩:∃k,(kP s g).1.ph=.over k:=ok.elim (λok=>O9 ok.2 G) λok=>L4 ok G;have e:wK (lD (.sw s) g).1=k:=by
   show(match (kP s g).1.ph with | .over ok=>ok | _=>false)=k;rw[q]
  rw[e];exact⟨rfl,YA hv q⟩
 | bl s=>
  obtain⟨u,rfl,hv⟩:=hv;have q:=OH G;refine⟨?_,Zc hv q⟩;obtain⟨x,_,H⟩:=hv;rw[q] at H;exact H.1
 | pk s=>cases E
def BQ.neq (hv:BQ B W v d):inl .neq v=some (.bool true):=by
 cases d with
 | sw s=>obtain⟨u,rfl,_⟩:=hv;rfl
 | bl s=>obtain⟨u,rfl,_⟩:=hv;rfl
 | pk s=>obtain⟨u,rfl,_⟩:=hv;rfl
def RU (q:x.now.oneCell'=true) (H:inl .neq x.now=some (.bool true)) (c:Cx F h h [W]) (J:∀h',Ch F h h'->B.p h')
  (hw:∀h1 u K,Cx u h1 h1 [W]->(∀h',Ch u h1 h'->B.p h')->Dp 89 u h1 B V a dn K->kK.1 (AN x) (mU g) h1 K)
  (M:Dp 89 F h B V a dn R):ky.1 (AN x) (mU g) h R:=by
 obtain⟨t,seq,du,ops,X,now,uX,dn,sm,br⟩:=x;dsimp only at H q;obtain⟨⟨Z,gq,gr⟩,gk⟩:=g;obtain⟨ao,aa,⟨ov,oq,or⟩,⟨nv,nq,nr⟩⟩:=a;replace c:Cx _ _ _ [_]:=c;refine c.K9 λ_ _ c=>c.v4 λ_ _ c=>c.v8 λ_ _ c=>?_;refine jS<|c.rc 1 ?_;refine vx H<|kV<|c.rl 1 ?_;refine c.rl 2 ?_;obtain⟨F',O,Q,up⟩:=c.sB (i:=0) rfl;refine kK.2 (hw _ F' _ O (λE ch=>J E (Q _ ch)) λv2 T U _ d2 G=>?_);have c:=up d2;replace c:=c.n5;refine c.t8 3 λ_ c=>?_;exact M _ T U _ (c.pick [0,4]) G
def MC (hZ:On B Zs) (hv:Le B W v c') (ok:UB c' g) (hg:Ww g.w) (c:Cx F h h [W]) (hB:∀h',Ch F h h'->B.p h')
  (hR:Dp 89 F h B (λB W v=>Le B W v (ll c' g).1) (ll c' g).2.1 (ll c' g).2.2 R):ky.1 v (mU g) h R:=by
 obtain⟨x,rfl,G,E⟩:=hv;cases T:c'.now with
 | none=>
  rw[T] at E;obtain⟨hn,rfl⟩:=E;have e1:ll c' g=lX c' g:=by unfold ll;rw[T]
  rw[e1] at hR;exact HX (hB _ (.refl _ _)) hZ G hn T ok.br (ok.idle T) (hR.of0 c)
 | some d=>
  rw[T] at E;have E:BQ B W x.now d:=E;obtain⟨o1,o2,o3⟩:=ok.now d T;have hN:=aaj (g:=g) hZ E o1 hg;have e1:ll c' g=yG c' d g:=by unfold ll;rw[T]
  rw[e1] at hR;refine RU E.one E.neq c hB (λh1 F1 K c1 U X=>?_) hR;cases J:(lD d g).2.2 with
  | false=>
   have e2:yG c' d g=({c' with now:=some (lD d g).1},(lD d g).2.1,false):=by
    unfold yG;generalize lD d g=q at J;obtain⟨q1,q2,q3⟩:=q;dsimp only at J;subst J;rfl
   rw[e2] at X;rw[J] at hN;refine Ft E.one hN (λB W v H=>H.one) c1 U λv W M h' c2 eQ=>?_;obtain⟨u,rfl,H⟩:=eQ;exact X _ W M h' c2 ⟨_,rfl,⟨G.t,G.seq,G.du,G.ops.le (Bs.jX _ _),G.seen.le (Bs.jX _ _),G.dn.le (Bs.jX _ _),G.sm.le (Bs.jX _ _),G.br⟩,H⟩
  | true=>
   have e2:yG c' d g=lX (IZ c' (lD d g).1) qa:=by
    unfold yG IZ;generalize lD d g=q at J;obtain⟨q1,q2,q3⟩:=q;dsimp only at J;subst J;rfl
   rw[e2] at X;rw[J] at hN;obtain⟨o,r,ho⟩:∃o r,c'.ops=o::r:=by cases hh:c'.ops with | nil=>exact absurd hh o2 | cons o r=>exact⟨o,r,rfl⟩
   have O:=o3 J;cases Q:YZ d with
   | false=>
    have hs:A7 (lD d g).1=[]:=by cases d with | sw s=>rfl | bl s=>rfl | pk s=>cases Q
    have Z:I3 B W x.now g (λB W v=>W=jR []/\Q7 B v (Zq d) (wK (lD d g).1)) (lD d g).2.1 true:=hN.imp λB W v H=>BQ.end H o1 Q J;have aS:IZ c' (lD d g).1={c' with done:=c'.done++[wK (lD d g).1],ops:=r,now:=none}:=by
     unfold IZ;rw[hs,cX,ho];rfl
    rw[aS] at O X;refine R3 E.one G ok.br ho ok.dn Z c1 U (λx' B' h2 K2 l b2 aT bY dO=>?_) X;exact ky.2 (HX b2 (hZ.le l) aT bY rfl ok.br O dO)
   | true=>
    obtain⟨s,rfl⟩:∃s,d=.pk s:=by cases d with | sw s=>cases Q | bl s=>cases Q | pk s=>exact⟨s,rfl⟩
    have iF:(nO s g).2.2=true:=J;have Z:I3 B W x.now g (λB W v=>W=jR []/\∃u s',v=.iface 336 u/\K7 B u s'/\s'.ph=.over/\s'.now=(nO s g).1.now) (lD (.pk s) g).2.1 true:=hN.imp λB W v H=>BQ.aaD H iF;have aS:IZ c' (lD (.pk s) g).1={c' with done:=c'.done++[false],pQ:=c'.pQ++[(nO s g).1.now.foldl (λn w=>tG (n+w.v)) 0],ops:=r,now:=none}:=by
     unfold IZ;rw[ho];rfl
    rw[aS] at O X;refine R8 E.one G ok.br ho ok.dn ok.sm (Rv o1) Z c1 U (λx' B' h2 K2 l b2 aT bY dO=>?_) X;exact ky.2 (HX b2 (hZ.le l) aT bY rfl ok.br O dO)
end
section
variable {T n b t i:Nat} {x:SH × SH} {m:Me} {w:W3} {am:AM} {v:MV}
def SM {ms:List Jl} {u:SH} {f z:Int} (H:Sl Cf h (jY u) ms) (h1:1<=ms.length/\ms.length<=2000000) (K:∀(q:Nat) h',q<ms.length->(∀g:Int,g<=f->g<=(ms.length - 1:Nat)->g<=q)->Gr h h'->R (.int .i64 q) h'):S.C 153 [(vH u),(.int .i64 f),(.int .i64 z)] h R:=by
 refine vt.2<|have c:=Cx.jQ h;c.v1 λ_ _ c=>?_;refine jS<|c.rc 0 ?_;refine vx (H.gr c.gr).ln<|vx (nu ⟨by omega,by omega⟩)<|vx (lL (by omega))<|j7<|vx (v:=.int .i64 (if (ms.length:Int) - 1<f then(ms.length:Int) - 1 else f)) rfl<|vx (v:=.int .i64 (if (if (ms.length:Int) - 1<f then(ms.length:Int) - 1 else f) > 0 then(if (ms.length:Int) - 1<f then(ms.length:Int) - 1 else f) else 0)) rfl ?_;obtain⟨lo,G,X,k2,M⟩:∃lo:Int,(if (if (ms.length:Int) - 1<f then(ms.length:Int) - 1 else f) > 0 then(if (ms.length:Int) - 1<f then(ms.length:Int) - 1 else f) else 0)=lo/\0<=lo/\lo<=ms.length - 1/\(∀g:Int,g<=f->g<=(ms.length:Int) - 1->g<=lo):=⟨_,rfl,by split <;> split <;> omega,by split <;> split <;> omega,λg J O=>by split <;> split <;> omega⟩;rw[G];refine vx (v:=.int .i64 (if 0 > z then 0 else z)) rfl ?_;obtain⟨E,Q,U⟩:∃E:Int,(if 0 > z then 0 else z)=E/\0<=E:=⟨_,rfl,by split <;> omega⟩;rw[Q];refine vx (nu ⟨by omega,by omega⟩)<|vx (oC ⟨by omega,by omega⟩)<|vx (Ah U (by omega)) ?_;have Z:=Int.emod_nonneg E (show(ms.length:Int) - 1 - lo+1≠0 by omega);have r2:=Int.emod_lt_of_pos E (show 0<(ms.length:Int) - 1 - lo+1 by omega);refine vx (nu ⟨by omega,by omega⟩) ?_;obtain⟨q,V⟩:∃q:Nat,(ms.length:Int) - 1 - E % ((ms.length:Int) - 1 - lo+1)=q:=⟨((ms.length:Int) - 1 - E % ((ms.length:Int) - 1 - lo+1)).toNat,by omega⟩;rw[V];exact K q _ (by omega) (λg J O=>by have:=M g J (by omega); omega) c.gr
def m8 {ms:List Jl} {u:SH} {f z:Int} (H:Sl Cf h (jY u) ms) (h1:1<=ms.length/\ms.length<=2000000) (E:∀(q:Nat) h',q<ms.length->(∀g:Int,g<=f->g<=(ms.length - 1:Nat)->g<=q)->Gr h h'->R (.int .i64 q) h'):j6.1 (.int .i64 z) (vH u) (.int .i64 f) h R:=by
 have c:=Cx.jQ h;refine c.v1 λ_ _ c=>?_;refine c.rl 0 ?_;refine SM (H.gr c.gr) h1 λq _ G J g=>have c:=c.more g;E q _ G J c.gr
def TS (J:B.p h) (H:MO B x m) (k:Mk T n b m) (hb:b<=1000000) (Q:1<=t/\t<=T) (hi:i<n) (hv:m.view t i<=((m.at i).length - 1:Nat)) {jn:Bool} {z:Int}
  (hR:∀(q:Nat) (am:AM) O,(m.at i)[q]?=some am->m.view t i<=q->Rt B h (λB=>MO B O (m.qy t i q am jn)) λh'=>R (.tuple #[De O,mW am.w,.int .i64 0]) h'):S.C 138 [(De x),(.int .i64 t),(.int .i64 i),(.bool jn),(.func (.func 140) #[.int .i64 z] #[])] h R:=by
 refine sj.2 ?_;obtain⟨us,h1,h2,h3⟩:=H.hs;have hn:=k.hs;have hu:=aB (l:=us) (i:=i) (by omega);obtain⟨hm,iN,iS⟩:=k.at hi;obtain⟨ms,hs,ha⟩:=h3 _ _ _ hu hm;generalize us[i]=u at hu hs;have oF:ms.length=(m.at i).length:=ha.1;obtain⟨rp,op,eQ,X,_⟩:=(h1 h J).ix hu (n:=1) rfl (k:=.i64) (z:=(i:Int)) rfl;have f33:∀{Z:Hp},Gr h Z->kc 1 (.pointer (some ⟨rp,op,none⟩)) Z=some (vH u):=λg=>(X.ch g λe=>e).kc rfl;have fin:∀(q:Nat) (am:AM) (O:SH × SH) (M:List km) (r1 r2 r3 ro rw:Nat) (h':Hp),Cx (λ_=>False) h h' [rV r1 (KX x),rV r2 SO,rV r3 (cW W0),rV ro (KX O),rV rw (cW am.w),jR M]->(m.at i)[q]?=some am->m.view t i<=q->MO (B.and M) O (m.qy t i q am jn)->
  ∃(q:Nat) (am:AM) (aS aT:Nat) (O:SH × SH) (M:List km),kC ro=kC aS/\kC rw=kC aT/\(m.at i)[q]?=some am/\m.view t i<=q/\Cx (λ_=>False) h h' [rV r1 (KX x),rV r2 SO,rV r3 (cW W0),rV aS (KX O),rV aT (cW am.w),jR M]/\MO (B.and M) O (m.qy t i q am jn):=λq am O M r1 r2 r3 ro rw h' c E G ok=>⟨q,am,ro,rw,O,M,rfl,rfl,E,G,c,ok⟩
 have c:=Cx.jQ h;refine c.v2 λiF _ c=>c.v2 λbY _ c=>c.v3 λdO _ c=>?_;refine c.rl 0 ?_;refine HQ (B.up J c.gr) H k Q hi λ_ g=>have c:=c.more g;vx (v:=.bool false) rfl<|j7<|JU.at (λo q' h'=>∃(q:Nat) (am:AM) (ro rw:Nat) (O:SH × SH) (M:List km),o=kC ro/\q'=kC rw/\(m.at i)[q]?=some am/\m.view t i<=q/\Cx (λ_=>False) h h' [rV iF (KX x),rV bY SO,rV dO (cW W0),rV ro (KX O),rV rw (cW am.w),jR M]/\MO (B.and M) O (m.qy t i q am jn)) ?_ ?_
 ·refine c.rl 0 ?_;refine jS<|c.rc 0 ?_;refine vx eQ<|vx (f33 c.gr)<|c.rl 0 ?_;refine⟨?_,?_⟩
  ·refine pP (B.up J c.gr) H k Q λa Va _ g=>have c:=c.more g;aQ (f33 c.gr) ?_;refine c.ac 0<|c.al 0<|⟨?_,?_⟩
   ·refine pM (B.up J c.gr) Va λ_ p U K g=>have c:=c.more g;aQ (f33 c.gr) ?_;refine c.ac 0<|c.al 0<|⟨?_,?_⟩
    ·refine .inl (.inl ⟨140,#[.int .i64 z],#[],rfl,j6.2 (m8 (hs _ (B.up J c.gr)) (by omega) λq _ V G g=>?_)⟩);have c:=c.more g;have G:m.view t i<=q:=G _ K (by omega);have E:=aB (l:=m.at i) (i:=q) (by omega);generalize (m.at i)[q]'(by omega)=am at E;refine c.al 0<|⟨?_,?_⟩
     ·refine kl (jn:=jn) (B.up J c.gr) H k Q hi E λO M _ d ok=>have c:=c.jT d;have c:=c.n4;vx rfl<|vx rfl<|⟨?_,?_⟩
      ·refine c.v2 λ_ _ c=>c.v3 λ_ _ c=>?_;refine c.w2 4 λ_ c=>?_;refine c.w3 5 λ_ c=>?_;exact fin q am _ M _ _ _ _ _ _ (c.pick [0,1,2,4,5,3]) E G ok
      ·refine c.v3 λ_ _ c=>c.v2 λ_ _ c=>?_;refine c.w2 5 λ_ c=>?_;refine c.w3 4 λ_ c=>?_;exact fin q am _ M _ _ _ _ _ _ (c.pick [0,1,2,5,4,3]) E G ok
     ·refine⟨?_,?_⟩
      ·refine c.v2 λ_ _ c=>?_;refine c.al 0<|⟨?_,?_⟩
       ·refine kl (jn:=jn) (B.up J c.gr) H k Q hi E λO M _ d ok=>have c:=c.jT d;have c:=c.n5;vx rfl<|vx rfl<|c.v3 λ_ _ c=>?_;refine c.w2 3 λ_ c=>?_;refine c.w3 5 λ_ c=>?_;exact fin q am _ M _ _ _ _ _ _ (c.pick [0,1,2,3,5,4]) E G ok
       ·refine c.v3 λ_ _ c=>?_;refine c.al 0<|kl (jn:=jn) (B.up J c.gr) H k Q hi E λO M _ d ok=>have c:=c.jT d;have c:=c.n6;vx rfl<|vx rfl<|c.w2 3 λ_ c=>?_;refine c.w3 4 λ_ c=>?_;exact fin q am _ M _ _ _ _ _ _ (c.pick [0,1,2,3,4,5]) E G ok
      ·refine c.v3 λ_ _ c=>?_;refine c.al 0<|⟨?_,?_⟩
       ·refine kl (jn:=jn) (B.up J c.gr) H k Q hi E λO M _ d ok=>have c:=c.jT d;have c:=c.n5;vx rfl<|vx rfl<|c.v2 λ_ _ c=>?_;refine c.w2 5 λ_ c=>?_;refine c.w3 3 λ_ c=>?_;exact fin q am _ M _ _ _ _ _ _ (c.pick [0,1,2,5,3,4]) E G ok
       ·refine c.v2 λ_ _ c=>?_;refine c.al 0<|kl (jn:=jn) (B.up J c.gr) H k Q hi E λO M _ d ok=>have c:=c.jT d;have c:=c.n6;vx rfl<|vx rfl<|c.w2 4 λ_ c=>?_;refine c.w3 3 λ_ c=>?_;exact fin q am _ M _ _ _ _ _ _ (c.pick [0,1,2,4,3,5]) E G ok
    ·refine⟨?_,?_⟩
     ·refine c.v2 λ_ _ c=>?_;refine aQ (f33 c.gr) ?_;refine c.ac 0<|c.al 0<|⟨?_,?_⟩
      ·refine .inl (.inl ⟨140,#[.int .i64 z],#[],rfl,j6.2 (m8 (hs _ (B.up J c.gr)) (by omega) λq _ V G g=>?_)⟩);have c:=c.more g;have G:m.view t i<=q:=G _ K (by omega);have E:=aB (l:=m.at i) (i:=q) (by omega);generalize (m.at i)[q]'(by omega)=am at E;refine c.al 0<|⟨?_,?_⟩
       ·refine kl (jn:=jn) (B.up J c.gr) H k Q hi E λO M _ d ok=>have c:=c.jT d;have c:=c.n5;vx rfl<|vx rfl<|c.v3 λ_ _ c=>?_;refine c.w2 3 λ_ c=>?_;refine c.w3 5 λ_ c=>?_;exact fin q am _ M _ _ _ _ _ _ (c.pick [0,1,2,3,5,4]) E G ok
       ·refine c.v3 λ_ _ c=>?_;refine c.al 0<|kl (jn:=jn) (B.up J c.gr) H k Q hi E λO M _ d ok=>have c:=c.jT d;have c:=c.n6;vx rfl<|vx rfl<|c.w2 3 λ_ c=>?_;refine c.w3 4 λ_ c=>?_;exact fin q am _ M _ _ _ _ _ _ (c.pick [0,1,2,3,4,5]) E G ok
      ·refine c.v3 λ_ _ c=>?_;refine aQ (f33 c.gr) ?_;refine c.ac 0<|c.al 0<|.inl (.inl ⟨140,#[.int .i64 z],#[],rfl,j6.2 (m8 (hs _ (B.up J c.gr)) (by omega) λq _ V G g=>?_)⟩);have c:=c.more g;have G:m.view t i<=q:=G _ K (by omega);have E:=aB (l:=m.at i) (i:=q) (by omega);generalize (m.at i)[q]'(by omega)=am at E;refine c.al 0<|kl (jn:=jn) (B.up J c.gr) H k Q hi E λO M _ d ok=>have c:=c.jT d;have c:=c.n6;vx rfl<|vx rfl<|c.w2 3 λ_ c=>?_;refine c.w3 4 λ_ c=>?_;exact fin q am _ M _ _ _ _ _ _ (c.pick [0,1,2,3,4,5]) E G ok
     ·refine c.v3 λ_ _ c=>?_;refine aQ (f33 c.gr) ?_;refine c.ac 0<|c.al 0<|⟨?_,?_⟩
      ·refine .inl (.inl ⟨140,#[.int .i64 z],#[],rfl,j6.2 (m8 (hs _ (B.up J c.gr)) (by omega) λq _ V G g=>?_)⟩);have c:=c.more g;have G:m.view t i<=q:=G _ K (by omega);have E:=aB (l:=m.at i) (i:=q) (by omega);generalize (m.at i)[q]'(by omega)=am at E;refine c.al 0<|⟨?_,?_⟩
       ·refine kl (jn:=jn) (B.up J c.gr) H k Q hi E λO M _ d ok=>have c:=c.jT d;have c:=c.n5;vx rfl<|vx rfl<|c.v2 λ_ _ c=>?_;refine c.w2 5 λ_ c=>?_;refine c.w3 3 λ_ c=>?_;exact fin q am _ M _ _ _ _ _ _ (c.pick [0,1,2,5,3,4]) E G ok
       ·refine c.v2 λ_ _ c=>?_;refine c.al 0<|kl (jn:=jn) (B.up J c.gr) H k Q hi E λO M _ d ok=>have c:=c.jT d;have c:=c.n6;vx rfl<|vx rfl<|c.w2 4 λ_ c=>?_;refine c.w3 3 λ_ c=>?_;exact fin q am _ M _ _ _ _ _ _ (c.pick [0,1,2,4,3,5]) E G ok
      ·refine c.v2 λ_ _ c=>?_;refine aQ (f33 c.gr) ?_;refine c.ac 0<|c.al 0<|.inl (.inl ⟨140,#[.int .i64 z],#[],rfl,j6.2 (m8 (hs _ (B.up J c.gr)) (by omega) λq _ V G g=>?_)⟩);have c:=c.more g;have G:m.view t i<=q:=G _ K (by omega);have E:=aB (l:=m.at i) (i:=q) (by omega);generalize (m.at i)[q]'(by omega)=am at E;refine c.al 0<|kl (jn:=jn) (B.up J c.gr) H k Q hi E λO M _ d ok=>have c:=c.jT d;have c:=c.n6;vx rfl<|vx rfl<|c.w2 4 λ_ c=>?_;refine c.w3 3 λ_ c=>?_;exact fin q am _ M _ _ _ _ _ _ (c.pick [0,1,2,4,3,5]) E G ok
   ·refine⟨?_,?_⟩
    ·refine c.v2 λ_ _ c=>?_;refine aQ (f33 c.gr) ?_;refine c.ac 0<|c.al 0<|⟨?_,?_⟩
     ·refine pM (B.up J c.gr) Va λ_ p U K g=>have c:=c.more g;aQ (f33 c.gr) ?_;refine c.ac 0<|c.al 0<|⟨?_,?_⟩
      ·refine .inl (.inl ⟨140,#[.int .i64 z],#[],rfl,j6.2 (m8 (hs _ (B.up J c.gr)) (by omega) λq _ V G g=>?_)⟩);have c:=c.more g;have G:m.view t i<=q:=G _ K (by omega);have E:=aB (l:=m.at i) (i:=q) (by omega);generalize (m.at i)[q]'(by omega)=am at E;refine c.al 0<|⟨?_,?_⟩
       ·refine kl (jn:=jn) (B.up J c.gr) H k Q hi E λO M _ d ok=>have c:=c.jT d;have c:=c.n5;vx rfl<|vx rfl<|c.v3 λ_ _ c=>?_;refine c.w2 3 λ_ c=>?_;refine c.w3 5 λ_ c=>?_;exact fin q am _ M _ _ _ _ _ _ (c.pick [0,1,2,3,5,4]) E G ok
       ·refine c.v3 λ_ _ c=>?_;refine c.al 0<|kl (jn:=jn) (B.up J c.gr) H k Q hi E λO M _ d ok=>have c:=c.jT d;have c:=c.n6;vx rfl<|vx rfl<|c.w2 3 λ_ c=>?_;refine c.w3 4 λ_ c=>?_;exact fin q am _ M _ _ _ _ _ _ (c.pick [0,1,2,3,4,5]) E G ok
      ·refine c.v3 λ_ _ c=>?_;refine aQ (f33 c.gr) ?_;refine c.ac 0<|c.al 0<|.inl (.inl ⟨140,#[.int .i64 z],#[],rfl,j6.2 (m8 (hs _ (B.up J c.gr)) (by omega) λq _ V G g=>?_)⟩);have c:=c.more g;have G:m.view t i<=q:=G _ K (by omega);have E:=aB (l:=m.at i) (i:=q) (by omega);generalize (m.at i)[q]'(by omega)=am at E;refine c.al 0<|kl (jn:=jn) (B.up J c.gr) H k Q hi E λO M _ d ok=>have c:=c.jT d;have c:=c.n6;vx rfl<|vx rfl<|c.w2 3 λ_ c=>?_;refine c.w3 4 λ_ c=>?_;exact fin q am _ M _ _ _ _ _ _ (c.pick [0,1,2,3,4,5]) E G ok
     ·refine c.v3 λ_ _ c=>?_;refine aQ (f33 c.gr) ?_;refine c.ac 0<|c.al 0<|pM (B.up J c.gr) Va λ_ p U K g=>have c:=c.more g;aQ (f33 c.gr) ?_;refine c.ac 0<|c.al 0<|.inl (.inl ⟨140,#[.int .i64 z],#[],rfl,j6.2 (m8 (hs _ (B.up J c.gr)) (by omega) λq _ V G g=>?_)⟩);have c:=c.more g;have G:m.view t i<=q:=G _ K (by omega);have E:=aB (l:=m.at i) (i:=q) (by omega);generalize (m.at i)[q]'(by omega)=am at E;refine c.al 0<|kl (jn:=jn) (B.up J c.gr) H k Q hi E λO M _ d ok=>have c:=c.jT d;have c:=c.n6;vx rfl<|vx rfl<|c.w2 3 λ_ c=>?_;refine c.w3 4 λ_ c=>?_;exact fin q am _ M _ _ _ _ _ _ (c.pick [0,1,2,3,4,5]) E G ok
    ·refine c.v3 λ_ _ c=>?_;refine aQ (f33 c.gr) ?_;refine c.ac 0<|c.al 0<|⟨?_,?_⟩
     ·refine pM (B.up J c.gr) Va λ_ p U K g=>have c:=c.more g;aQ (f33 c.gr) ?_;refine c.ac 0<|c.al 0<|⟨?_,?_⟩
      ·refine .inl (.inl ⟨140,#[.int .i64 z],#[],rfl,j6.2 (m8 (hs _ (B.up J c.gr)) (by omega) λq _ V G g=>?_)⟩);have c:=c.more g;have G:m.view t i<=q:=G _ K (by omega);have E:=aB (l:=m.at i) (i:=q) (by omega);generalize (m.at i)[q]'(by omega)=am at E;refine c.al 0<|⟨?_,?_⟩
       ·refine kl (jn:=jn) (B.up J c.gr) H k Q hi E λO M _ d ok=>have c:=c.jT d;have c:=c.n5;vx rfl<|vx rfl<|c.v2 λ_ _ c=>?_;refine c.w2 5 λ_ c=>?_;refine c.w3 3 λ_ c=>?_;exact fin q am _ M _ _ _ _ _ _ (c.pick [0,1,2,5,3,4]) E G ok
       ·refine c.v2 λ_ _ c=>?_;refine c.al 0<|kl (jn:=jn) (B.up J c.gr) H k Q hi E λO M _ d ok=>have c:=c.jT d;have c:=c.n6;vx rfl<|vx rfl<|c.w2 4 λ_ c=>?_;refine c.w3 3 λ_ c=>?_;exact fin q am _ M _ _ _ _ _ _ (c.pick [0,1,2,4,3,5]) E G ok
      ·refine c.v2 λ_ _ c=>?_;refine aQ (f33 c.gr) ?_;refine c.ac 0<|c.al 0<|.inl (.inl ⟨140,#[.int .i64 z],#[],rfl,j6.2 (m8 (hs _ (B.up J c.gr)) (by omega) λq _ V G g=>?_)⟩);have c:=c.more g;have G:m.view t i<=q:=G _ K (by omega);have E:=aB (l:=m.at i) (i:=q) (by omega);generalize (m.at i)[q]'(by omega)=am at E;refine c.al 0<|kl (jn:=jn) (B.up J c.gr) H k Q hi E λO M _ d ok=>have c:=c.jT d;have c:=c.n6;vx rfl<|vx rfl<|c.w2 4 λ_ c=>?_;refine c.w3 3 λ_ c=>?_;exact fin q am _ M _ _ _ _ _ _ (c.pick [0,1,2,4,3,5]) E G ok
     ·refine c.v2 λ_ _ c=>?_;refine aQ (f33 c.gr) ?_;refine c.ac 0<|c.al 0<|pM (B.up J c.gr) Va λ_ p U K g=>have c:=c.more g;aQ (f33 c.gr) ?_;refine c.ac 0<|c.al 0<|.inl (.inl ⟨140,#[.int .i64 z],#[],rfl,j6.2 (m8 (hs _ (B.up J c.gr)) (by omega) λq _ V G g=>?_)⟩);have c:=c.more g;have G:m.view t i<=q:=G _ K (by omega);have E:=aB (l:=m.at i) (i:=q) (by omega);generalize (m.at i)[q]'(by omega)=am at E;refine c.al 0<|kl (jn:=jn) (B.up J c.gr) H k Q hi E λO M _ d ok=>have c:=c.jT d;have c:=c.n6;vx rfl<|vx rfl<|c.w2 4 λ_ c=>?_;refine c.w3 3 λ_ c=>?_;exact fin q am _ M _ _ _ _ _ _ (c.pick [0,1,2,4,3,5]) E G ok
  ·refine⟨?_,?_⟩
   ·refine c.v2 λ_ _ c=>?_;refine c.al 0<|aQ (f33 c.gr) ?_;refine c.ac 0<|c.al 0<|⟨?_,?_⟩
    ·refine pP (B.up J c.gr) H k Q λa Va _ g=>have c:=c.more g;aQ (f33 c.gr) ?_;refine c.ac 0<|c.al 0<|⟨?_,?_⟩
     ·refine pM (B.up J c.gr) Va λ_ p U K g=>have c:=c.more g;aQ (f33 c.gr) ?_;refine c.ac 0<|c.al 0<|⟨?_,?_⟩
      ·refine .inl (.inl ⟨140,#[.int .i64 z],#[],rfl,j6.2 (m8 (hs _ (B.up J c.gr)) (by omega) λq _ V G g=>?_)⟩);have c:=c.more g;have G:m.view t i<=q:=G _ K (by omega);have E:=aB (l:=m.at i) (i:=q) (by omega);generalize (m.at i)[q]'(by omega)=am at E;refine c.al 0<|⟨?_,?_⟩
       ·refine kl (jn:=jn) (B.up J c.gr) H k Q hi E λO M _ d ok=>have c:=c.jT d;have c:=c.n5;vx rfl<|vx rfl<|c.v3 λ_ _ c=>?_;refine c.w2 3 λ_ c=>?_;refine c.w3 5 λ_ c=>?_;exact fin q am _ M _ _ _ _ _ _ (c.pick [0,1,2,3,5,4]) E G ok
       ·refine c.v3 λ_ _ c=>?_;refine c.al 0<|kl (jn:=jn) (B.up J c.gr) H k Q hi E λO M _ d ok=>have c:=c.jT d;have c:=c.n6;vx rfl<|vx rfl<|c.w2 3 λ_ c=>?_;refine c.w3 4 λ_ c=>?_;exact fin q am _ M _ _ _ _ _ _ (c.pick [0,1,2,3,4,5]) E G ok
      ·refine c.v3 λ_ _ c=>?_;refine aQ (f33 c.gr) ?_;refine c.ac 0<|c.al 0<|.inl (.inl ⟨140,#[.int .i64 z],#[],rfl,j6.2 (m8 (hs _ (B.up J c.gr)) (by omega) λq _ V G g=>?_)⟩);have c:=c.more g;have G:m.view t i<=q:=G _ K (by omega);have E:=aB (l:=m.at i) (i:=q) (by omega);generalize (m.at i)[q]'(by omega)=am at E;refine c.al 0<|kl (jn:=jn) (B.up J c.gr) H k Q hi E λO M _ d ok=>have c:=c.jT d;have c:=c.n6;vx rfl<|vx rfl<|c.w2 3 λ_ c=>?_;refine c.w3 4 λ_ c=>?_;exact fin q am _ M _ _ _ _ _ _ (c.pick [0,1,2,3,4,5]) E G ok
     ·refine c.v3 λ_ _ c=>?_;refine aQ (f33 c.gr) ?_;refine c.ac 0<|c.al 0<|pM (B.up J c.gr) Va λ_ p U K g=>have c:=c.more g;aQ (f33 c.gr) ?_;refine c.ac 0<|c.al 0<|.inl (.inl ⟨140,#[.int .i64 z],#[],rfl,j6.2 (m8 (hs _ (B.up J c.gr)) (by omega) λq _ V G g=>?_)⟩);have c:=c.more g;have G:m.view t i<=q:=G _ K (by omega);have E:=aB (l:=m.at i) (i:=q) (by omega);generalize (m.at i)[q]'(by omega)=am at E;refine c.al 0<|kl (jn:=jn) (B.up J c.gr) H k Q hi E λO M _ d ok=>have c:=c.jT d;have c:=c.n6;vx rfl<|vx rfl<|c.w2 3 λ_ c=>?_;refine c.w3 4 λ_ c=>?_;exact fin q am _ M _ _ _ _ _ _ (c.pick [0,1,2,3,4,5]) E G ok
    ·refine c.v3 λ_ _ c=>?_;refine c.al 0<|aQ (f33 c.gr) ?_;refine c.ac 0<|c.al 0<|pP (B.up J c.gr) H k Q λa Va _ g=>have c:=c.more g;aQ (f33 c.gr) ?_;refine c.ac 0<|c.al 0<|pM (B.up J c.gr) Va λ_ p U K g=>have c:=c.more g;aQ (f33 c.gr) ?_;refine c.ac 0<|c.al 0<|.inl (.inl ⟨140,#[.int .i64 z],#[],rfl,j6.2 (m8 (hs _ (B.up J c.gr)) (by omega) λq _ V G g=>?_)⟩);have c:=c.more g;have G:m.view t i<=q:=G _ K (by omega);have E:=aB (l:=m.at i) (i:=q) (by omega);generalize (m.at i)[q]'(by omega)=am at E;refine c.al 0<|kl (jn:=jn) (B.up J c.gr) H k Q hi E λO M _ d ok=>have c:=c.jT d;have c:=c.n6;vx rfl<|vx rfl<|c.w2 3 λ_ c=>?_;refine c.w3 4 λ_ c=>?_;exact fin q am _ M _ _ _ _ _ _ (c.pick [0,1,2,3,4,5]) E G ok
   ·refine c.v3 λ_ _ c=>?_;refine c.al 0<|aQ (f33 c.gr) ?_;refine c.ac 0<|c.al 0<|⟨?_,?_⟩
    ·refine pP (B.up J c.gr) H k Q λa Va _ g=>have c:=c.more g;aQ (f33 c.gr) ?_;refine c.ac 0<|c.al 0<|⟨?_,?_⟩
     ·refine pM (B.up J c.gr) Va λ_ p U K g=>have c:=c.more g;aQ (f33 c.gr) ?_;refine c.ac 0<|c.al 0<|⟨?_,?_⟩
      ·refine .inl (.inl ⟨140,#[.int .i64 z],#[],rfl,j6.2 (m8 (hs _ (B.up J c.gr)) (by omega) λq _ V G g=>?_)⟩);have c:=c.more g;have G:m.view t i<=q:=G _ K (by omega);have E:=aB (l:=m.at i) (i:=q) (by omega);generalize (m.at i)[q]'(by omega)=am at E;refine c.al 0<|⟨?_,?_⟩
       ·refine kl (jn:=jn) (B.up J c.gr) H k Q hi E λO M _ d ok=>have c:=c.jT d;have c:=c.n5;vx rfl<|vx rfl<|c.v2 λ_ _ c=>?_;refine c.w2 5 λ_ c=>?_;refine c.w3 3 λ_ c=>?_;exact fin q am _ M _ _ _ _ _ _ (c.pick [0,1,2,5,3,4]) E G ok
       ·refine c.v2 λ_ _ c=>?_;refine c.al 0<|kl (jn:=jn) (B.up J c.gr) H k Q hi E λO M _ d ok=>have c:=c.jT d;have c:=c.n6;vx rfl<|vx rfl<|c.w2 4 λ_ c=>?_;refine c.w3 3 λ_ c=>?_;exact fin q am _ M _ _ _ _ _ _ (c.pick [0,1,2,4,3,5]) E G ok
      ·refine c.v2 λ_ _ c=>?_;refine aQ (f33 c.gr) ?_;refine c.ac 0<|c.al 0<|.inl (.inl ⟨140,#[.int .i64 z],#[],rfl,j6.2 (m8 (hs _ (B.up J c.gr)) (by omega) λq _ V G g=>?_)⟩);have c:=c.more g;have G:m.view t i<=q:=G _ K (by omega);have E:=aB (l:=m.at i) (i:=q) (by omega);generalize (m.at i)[q]'(by omega)=am at E;refine c.al 0<|kl (jn:=jn) (B.up J c.gr) H k Q hi E λO M _ d ok=>have c:=c.jT d;have c:=c.n6;vx rfl<|vx rfl<|c.w2 4 λ_ c=>?_;refine c.w3 3 λ_ c=>?_;exact fin q am _ M _ _ _ _ _ _ (c.pick [0,1,2,4,3,5]) E G ok
     ·refine c.v2 λ_ _ c=>?_;refine aQ (f33 c.gr) ?_;refine c.ac 0<|c.al 0<|pM (B.up J c.gr) Va λ_ p U K g=>have c:=c.more g;aQ (f33 c.gr) ?_;refine c.ac 0<|c.al 0<|.inl (.inl ⟨140,#[.int .i64 z],#[],rfl,j6.2 (m8 (hs _ (B.up J c.gr)) (by omega) λq _ V G g=>?_)⟩);have c:=c.more g;have G:m.view t i<=q:=G _ K (by omega);have E:=aB (l:=m.at i) (i:=q) (by omega);generalize (m.at i)[q]'(by omega)=am at E;refine c.al 0<|kl (jn:=jn) (B.up J c.gr) H k Q hi E λO M _ d ok=>have c:=c.jT d;have c:=c.n6;vx rfl<|vx rfl<|c.w2 4 λ_ c=>?_;refine c.w3 3 λ_ c=>?_;exact fin q am _ M _ _ _ _ _ _ (c.pick [0,1,2,4,3,5]) E G ok
    ·refine c.v2 λ_ _ c=>?_;refine c.al 0<|aQ (f33 c.gr) ?_;refine c.ac 0<|c.al 0<|pP (B.up J c.gr) H k Q λa Va _ g=>have c:=c.more g;aQ (f33 c.gr) ?_;refine c.ac 0<|c.al 0<|pM (B.up J c.gr) Va λ_ p U K g=>have c:=c.more g;aQ (f33 c.gr) ?_;refine c.ac 0<|c.al 0<|.inl (.inl ⟨140,#[.int .i64 z],#[],rfl,j6.2 (m8 (hs _ (B.up J c.gr)) (by omega) λq _ V G g=>?_)⟩);have c:=c.more g;have G:m.view t i<=q:=G _ K (by omega);have E:=aB (l:=m.at i) (i:=q) (by omega);generalize (m.at i)[q]'(by omega)=am at E;refine c.al 0<|kl (jn:=jn) (B.up J c.gr) H k Q hi E λO M _ d ok=>have c:=c.jT d;have c:=c.n6;vx rfl<|vx rfl<|c.w2 4 λ_ c=>?_;refine c.w3 3 λ_ c=>?_;exact fin q am _ M _ _ _ _ _ _ (c.pick [0,1,2,4,3,5]) E G ok
 ·rintro _ _ h7 ⟨q,am,ro,rw,O,M,rfl,rfl,E,G,c,ok⟩;replace c:=c.n6;refine c.rl 3 ?_;refine c.rl 4 ?_;refine c.w2 1 λ_ c=>?_;refine c.al 4<|c.w3 2 λ_ c=>?_;refine c.rl 1 ?_;refine c.rl 2 ?_;exact hR q am O E G M _ (c.pick [5]) ok
end
section
variable {T n b t i:Nat} {x:SH × SH} {m:Me} {w:W3} {am:AM}
def Xx (E:B.p h) (H:MO B x m) (k:Mk T n b m) (G:b<=1000000) (J:1<=t/\t<=T) (hi:i<n) (hv:m.view t i<=((m.at i).length - 1:Nat)) {jn:Bool} {z:Int}
  (K:∀(q:Nat) (am:AM) u,(m.at i)[q]?=some am->m.view t i<=q->Rt B h (λB=>MO B u (m.qy t i q am jn)) λh'=>R (.tuple #[De u,mW am.w,.int .i64 0]) h'):S.C 123 [(De x),(.int .i64 t),(.int .i64 i),(.bool jn),(.int .i64 z)] h R:=by
 refine yx.2<|have c:=Cx.jQ h;c.v2 λ_ _ c=>?_;refine c.v2 λ_ _ c=>c.v3 λ_ _ c=>?_;refine c.rl 0 ?_;refine vx rfl<|TS (B.up E c.gr) H k G J hi hv λq am u O Q M _ d ok=>have c:=c.jT d;have c:=c.n4;c.YT 1 2 λ_ c=>?_;exact K q am u O Q M _ (c.pick [3]) ok
end
structure Lj where
 fst:List W3
 lg:List (List Dv × Int)
 lx:Int->Int->Option Int
def Lj.kq (l:Lj) (i:Nat) (w:W3):Lj:={l with lg:=l.lg.set (i / 8) (((l.lg.getD (i / 8) ([],0)).1++[((i:Int),w)]),(l.lg.getD (i / 8) ([],0)).2)}
def Lj.zw (l:Lj) (t i:Nat):Lj:={l with lx:=λx n=>if x=t/\n=(i / 8:Nat) then some ((l.lg.getD (i / 8) ([],0)).1.length:Nat) else l.lx x n}
def Lj.sS (l:Lj) (t:Nat):Lj:={l with lg:=l.lg.mapIdx (λn g=>(g.1,max g.2 ((l.lx t n).getD g.2))),lx:=λx n=>if x=t then none else l.lx x n}
def mM (o:Option Nat):Value:=.map o
def ZX (B:Bs) (a:Option Nat) (f:Int->Int->Option Int):Prop:=
 ∃es:List (Int × Option Nat),(On B λh=>(a=none/\es=[])\/Mp .i64 mM h (.map a) es)/\(es.map (·.1)).Nodup/\∀t:Int,∃ps,(On B λh=>Mo h ((kD es t).getD none) ps)/\(ps.map (·.1)).Nodup/\∀n,f t n=kD ps n
def ZX.le {a:Option Nat} {f:Int->Int->Option Int} (H:ZX B a f) (l:B.le B'):ZX B' a f:=let⟨es,m,nd,g⟩:=H; ⟨es,m.le l,nd,λt=>let⟨ps,p,q⟩:=g t; ⟨ps,p.le l,q⟩⟩
structure Wk (B:Bs) (y:LV) (l:Lj):Prop where
 lo:LO B y ⟨l.fst,l.lg,y.a⟩
 lx:ZX B y.a l.lx
def Wk.le {y:LV} {l:Lj} (H:Wk B y l) (q:B.le B'):Wk B' y l:=⟨H.lo.le q,H.lx.le q⟩
structure KZ (n b:Nat) (l:Lj):Prop where
 k:∀a,Lk n b ⟨l.fst,l.lg,a⟩
 lx:∀t j q,l.lx t j=some q->0<=j/\j<l.lg.length
def KZ.up {n b q:Nat} {l:Lj} (k:KZ n b l) (h:b<=q):KZ n q l:=⟨λa=>(k.k a).up h,k.lx⟩
def KZ.kq {n b i:Nat} {l:Lj} {w:W3} (k:KZ n b l) (hi:i<n):KZ n (b+1) (l.kq i w):=⟨λa=>(k.k a).kq hi,λt j q h=>by
 have:=k.lx t j q h;show 0<=j/\j<((l.lg.set _ _).length:Nat);rw[aV];exact this⟩
def KZ.zw {n b i t:Nat} {l:Lj} (k:KZ n b l) (hi:i<n):KZ n b (l.zw t i):=⟨k.k,λu j q h=>by
 have h:(if u=t/\j=(i / 8:Nat) then some ((l.lg.getD (i / 8) ([],0)).1.length:Int) else l.lx u j)=some q:=h;have e:=(k.k none).lg;have e:l.lg.length=(n+7) / 8:=e;by_cases c:u=t/\j=(i / 8:Nat)
 ·show 0<=j/\j<(l.lg.length:Nat);omega
 ·rw[if_neg c] at h;exact k.lx u j q h⟩
def KZ.sS {n b t:Nat} {l:Lj} (k:KZ n b l):KZ n b (l.sS t):=by
 refine⟨λa=>⟨(k.k a).fst,by show(l.lg.mapIdx _).length=_; rw[dB]; exact(k.k a).lg,(k.k a).le,λg E=>?_⟩,λu j q h=>?_⟩
 ·have E:g∈l.lg.mapIdx (λn g=>(g.1,max g.2 ((l.lx t n).getD g.2))):=E;obtain⟨i,hi,rfl⟩:=List.mem_mapIdx.1 E;exact(k.k a).len (l.lg[i]) (dM _)
 ·have h:(if u=t then none else l.lx u j)=some q:=h;by_cases c:u=t
  ·rw[if_pos c] at h;cases h
  ·rw[if_neg c] at h;show 0<=j/\j<((l.lg.mapIdx _).length:Nat);rw[dB];exact k.lx u j q h
section
variable {t:Nat} {a:Option Nat} {ps:List (Int × Int)} {es:List (Int × Option Nat)}
def rG (u:1<=t/\t<=8) (q:∀h',Gr h h'->R (.bool true) h'):S.C 117 [(.int .i64 t)] h R:=by
 refine zR.2 ?_;dsimp only[zR,oH];have c:=Cx.jQ h;exact .here<|vx (s0 (by omega))<|kV<|vx (G7 (by omega))<|q _ c.gr
def Jb (m:Mp .i64 mI h (.map a) ps) (u:∀k h',Cx (λ_=>False) h h' [Gk .i64 mI (.map (some k)) ps]->R (.map (some k)) h'):S.C 119 [(.map a)] h R:=by
 refine nP.2 ?_;obtain⟨r,es,clock,e,E,he⟩:=m;injection e with e;subst e;refine En.vb (v:=.bool false) rfl ?_;rw[p8,kf];refine En.eb (v:=.iface 232 (.map (some h.size))) (h':=h.push (.map es clock)) (by simp only[SA,E]) ?_;refine En.vb (v:=.map (some h.size)) (by simp[FV]) ?_;refine u _ _ ((Cx.jQ h).add (F':=λq=>q=h.size) ⟨⟨h.size,es,clock,rfl,by simp,he⟩,λq=>by simp[A9,eq_comm]⟩ (Ch.push _ _) λr e=>by omega)
def GZ (q:R (.map none) h):S.C 119 [(.map none)] h R:=by
 refine nP.2<|En.vb (v:=.bool true) rfl ?_;rw[IM];exact q
def BX (m:Mp .i64 mM h (.map a) es) (u:∀k h',Cx (λ_=>False) h h' [Gk .i64 mM (.map (some k)) es]->R (.map (some k)) h'):S.C 120 [(.map a)] h R:=by
 refine lN.2 ?_;obtain⟨r,es,clock,e,E,he⟩:=m;injection e with e;subst e;refine En.vb (v:=.bool false) rfl ?_;rw[p8,kf];refine En.eb (v:=.iface 32 (.map (some h.size))) (h':=h.push (.map es clock)) (by simp only[SA,E]) ?_;refine En.vb (v:=.map (some h.size)) (by simp[FV]) ?_;refine u _ _ ((Cx.jQ h).add (F':=λq=>q=h.size) ⟨⟨h.size,es,clock,rfl,by simp,he⟩,λq=>by simp[A9,eq_comm]⟩ (Ch.push _ _) λr e=>by omega)
def CA (q:R (.map none) h):S.C 120 [(.map none)] h R:=by
 refine lN.2<|En.vb (v:=.bool true) rfl ?_;rw[IM];exact q
end
section
variable {α:Type} {ik:IntKind} {E:α->Value} {h h':Hp} {v:Value} {ps:List (Int × α)}
def A8 (ps:List (Int × α)) (k:Int):List (Int × α):=ps.eraseP λp=>p.1 == k
def KL {p:Int × α} {k:Int}:∀{ps1 ps2:List (Int × α)},(∀q∈ps1,q.1≠k)->p.1=k->A8 (ps1++p::ps2) k=ps1++ps2
 | [],ps2,_,h=>by unfold A8;rw[eK,iH (by simpa using h),eK]
 | q::ps1,ps2,h1,h2=>by
  have u:=KL (ps1:=ps1) (ps2:=ps2) (λq B=>h1 q (aL _ B)) h2;unfold A8 at u⊢;rw[dL,gG (by simpa using h1 q (by simp)),u,dL]
def HI {k:Int}:∀{ps:List (Int × α)},kD ps k=none->A8 ps k=ps
 | [],_=>rfl
 | p::ps,h=>by
  unfold kD at h;by_cases e:p.1=k
  ·rw[cL (by simpa using e)] at h;simp at h
  ·rw[bX (by simpa using e)] at h;have q:=HI (ps:=ps) h;unfold A8 at q⊢;rw[gG (by simpa using e),q]
def EJ {k k':Int}:∀{ps:List (Int × α)},(ps.map (·.1)).Nodup->kD (A8 ps k) k'=if k'=k then none else kD ps k'
 | [],_=>by simp[A8,kD]
 | p::ps,B=>by
  rw[bS,eJ] at B;have F:=EJ (k:=k) (k':=k') B.2;unfold A8 at F⊢;by_cases h:p.1=k
  ·rw[iH (by simpa using h)];by_cases h2:k'=k
   ·rw[if_pos h2];unfold kD;rw[eC.2 λq G=>by
     intro e;simp only[beq_iff_eq] at e;exact B.1 (dC.2 ⟨q,G,by rw[e,h2,h]⟩)]
    rfl
   ·rw[if_neg h2];unfold kD;rw[bX (by rw[h]; simpa using λe=>h2 e.symm)]
  ·rw[gG (by simpa using h)];unfold kD at F⊢;by_cases u:p.1=k'
   ·rw[cL (by simpa using u),cL (by simpa using u),if_neg (by rw[<-u]; exact h)]
   ·rw[bX (by simpa using u),bX (by simpa using u)];exact F
def MR {k:Int} (h:(ps.map (·.1)).Nodup):((A8 ps k).map (·.1)).Nodup:=h.sublist (List.eraseP_sublist.map _)
def Mp.del (H:Mp ik E h v ps) (k:Int):∃h',LL (.int ik) v (.int ik k) h=some (.tuple #[],h')/\Mp ik E h' v (A8 ps k)/\Ch (λr=>A9 v=some r) h h':=by
 obtain⟨r,es,clock,rfl,M,he⟩:=H;obtain⟨f,h1,h2,T⟩:=D3 (k:=k) 0 he.Tv;have J:=(aZ.mp M).1;have K:∀o,Ch (λQ=>A9 (.map (some r))=some Q) h (h.setIfInBounds r o):=λo=>⟨by simp,λQ _ U=>by rw[bI,if_neg (λe=>U (by rw[<-e]; rfl))]⟩;cases f with
 | some y=>
  obtain⟨j,u⟩:=y;refine⟨_,by simp only[LL,yj,M,h1]; rfl,⟨r,_,clock,rfl,by rw[bI,if_pos rfl,if_pos J],?_⟩,K _⟩;obtain⟨q,e,B,ps1,p,ps2,G,rfl,a3,a4,V,X,Z,a8⟩:=T j u rfl;have hj:j=q.length:=by omega
  have hlen:j<es.size:=by
   have:=congrArg List.length G;simp only[eL,aF,aH] at this;omega
  have hm:(es.eraseIdxIfInBounds j).toList=q++B:=by
   rw[Array.toList_eraseIdxIfInBounds,G,hj,List.eraseIdx_append_of_length_le (aP _),fA];rfl
  rw[hm];have R:=he.Tv;rw[G,cM,cM,bS,bS] at R;obtain⟨d1,d2⟩:=List.append_inj R (by simp[V]);simp only[eX] at d2;refine⟨?_,?_,?_⟩
  ·rw[KL Z X,cM,cM,d1,d2.2]
  ·intro e' O;rcases bB.mp O with m | m
   ·exact he.born e' (by rw[G]; simp[m])
   ·exact he.born e' (by rw[G]; simp[m])
  ·have hs:(q++B).Sublist es.toList:=by
    rw[G];exact(List.Sublist.refl q).append (List.sublist_cons_self e B)
   exact he.nodup.sublist (hs.map _)
 | none=>
  have F:kD ps k=none:=by simpa using h2.symm
  refine⟨_,by simp only[LL,yj,M,h1]; rfl,⟨r,_,clock,rfl,by rw[bI,if_pos rfl,if_pos J],?_⟩,K _⟩;rw[HI F];exact he
def Cx.LL {u:Fp} {B:Hp} {L:List km} {E:α->Value} {v:Value} {ps:List (Int × α)} (c:Cx u B h L) (i:Nat) (hi:L[i]?=some (Gk .i64 E v ps)) (k:Int) {K:Value->Hp->Prop}
  (H:∀h',Cx u B h' (L.set i (Gk .i64 E v (A8 ps k)))->K (.tuple #[]) h'):Eb (En.LL (.int .i64) v (.int .i64 k) h) K:=by
 obtain⟨F,⟨m,G⟩,up⟩:=c.Ob hi;obtain⟨h',e,m',ch⟩:=m.del k;exact eb e (H h' (up (F':=F) ⟨m',G⟩ (qV (ch.mono λq _ e=>(G q).2 e))))
end
end Go.En
