/-
  Own library for the claim, packed by program: the engine, the clean texts, contracts, the plain law. (Part F.)
-/
import Derived.Test.YtcepckpfhbcobaaGreatDoorXE
set_option maxRecDepth 100000
set_option linter.defProp false
namespace Go.En
def tz (l:List Ac):Prop:=∀x∈l,x.op=7\/x.op=8
abbrev Tr (p q:Int):Ac:=⟨4,p,W0,⟨3,q,0⟩⟩
abbrev Nz (p q:Int):Ac:=⟨4,p,W0,⟨0,q,0⟩⟩
section
variable (D:Dg) (V:Vg) (s:Sh) (t:Nat)
inductive po (w:Sw):List Ac->Prop where
 | xF (K0 K1 K2:List Ac):Claim D V s t w.seq->tz K0->tz K1->tz K2->po w (Tr (aC t) w.seq::(K0++(eZ (aY w.es) (aC t+1)++(K1++Nz (aC t) w.seq::K2))))
 | Kq (k:Nat) (K K1 K2:List Ac):Ca D V s t t w.seq w.es k->k<=(aY w.es).length->tz K->tz K1->tz K2->po w (K++(eZ ((aY w.es).drop k) (aC t+1+k)++(K1++Nz (aC t) w.seq::K2)))
 | xg (K2:List Ac):Ii D V s t w.seq w.es->tz K2->po w K2
structure Rq (w:Sw):Prop where
 g:Good w.es
 t:w.t=t
 sq:1<=w.seq/\w.seq<=1000
def HZ (w:Sw) (a:Ac):Prop:=
 Rq t w/\match w.ph with
 | .lI=>Claim D V s t w.seq/\a=AD (eN t)
 | .last hs=>Claim D V s t w.seq/\∃r,od D V s t r hs a
 | .mO l=>po D V s t w (a::l)/\l.length<=45
 | .own hs=>Ii D V s t w.seq w.es/\od D V s t (bT t w.seq) hs a
 | _=>False
structure HD (q1:Int):Prop where
 rd:kg D V s t
 st:∃v q,s.W (aC t)=⟨v,q,0⟩/\q<=q1
def Kl (es:List Et) (q1:Int):SR->Prop
 | (w,a,false)=>w.es=es/\w.seq=q1/\HZ D V s t w a
 | (w,_,true)=>w.es=es/\HD D V s t q1
def vI (c:Int) (x:W3):Prop:=∃es e,D x.ref=some es/\e∈es/\e.at'=c/\x=⟨e.old.v,e.old.aO,x.ref⟩
def we (w:Sw) (a:Ac):Prop:=
 ∃e,w.es=[e]/\(56<=e.at'/\e.at'<62)/\xB e.new/\e.old.ref=0/\match w.ph with
 | .lM=>a=AD e.at'
 | .jS x hs=>vI D e.at' x/\od D V s t x.ref hs a
 | .kC=>∃x,vI D e.at' x/\a=⟨6,e.at',x,⟨x.v,x.aO,0⟩⟩/\¬Live s x.ref
 | .mG=>a=⟨6,e.at',e.old,⟨e.new,(e.old.aO+1) % 4294967296,0⟩⟩
 | .send l ok=>tz (a::l)/\l.length<=2
 | _=>False
def Cb (es:List Et):SR->Prop
 | (w,a,false)=>w.es=es/\we D V s t w a
 | (w,_,true)=>w.es=es
def Ir (p:Pk) (a:Ac):Prop:=
 ((∀c∈p.at',56<=c/\c<62)/\p.at'.length<=6)/\match p.ph with
 | .found=>(p.i<p.at'.length/\p.now.length=p.i)/\a=AD (s7 p)
 | .fZ hs=>(p.i<p.at'.length/\p.now.length=p.i)/\vI D (s7 p) p.held/\od D V s t p.held.ref hs a
 | .back=>(p.i<p.at'.length/\p.now.length=p.i)/\vI D (s7 p) p.held/\a=⟨6,s7 p,p.held,⟨p.held.v,p.held.aO,0⟩⟩/\¬Live s p.held.ref
 | .flush=>a.op=7
 | .last=>a.op=8
 | .over=>False
def Hz (l:List Int):PR->Prop
 | (p,a,false)=>p.at'=l/\Ir D V s t p a
 | (p,_,true)=>p.at'=l
end
section
variable {D D':Dg} {V V':Vg} {O O':tq} {N:Int} {s s':Sh} {t:Nat} {r who q q1 c:Int} {es:List Et} {e:Et} {a:Ac} {g:cP} {hs:List Hs} {x:W3} {w:Sw}
def eS (h:1<=t/\t<=3):bA t:=by unfold bA; omega
def fI:MA O t t:=.inl rfl
def sT (h:1<=t/\t<=3):aC t=eN t:=by unfold aC; rw[if_neg (by omega)]
def po.mono (H:SI D V N s) (R:zm t D V O s D' V' O' s') (h:1<=t/\t<=3) (g:w.es.length<=6) {l:List Ac} (x:po D V s t w l):po D' V' s' t w l:=by
 cases x with
 | xF F u A h1 h2 B E=>exact .xF F u A (h1.mono H R (eS h) fI) h2 B E
 | Kq k K u A h1 h2 B E G=>exact .Kq k K u A (h1.mono H R (eS h) fI g) h2 B E G
 | xg _ h1 h2=>exact .xg _ (h1.mono H R (eS h) fI) h2
def HZ.mono (H:SI D V N s) (R:zm t D V O s D' V' O' s') (u:1<=t/\t<=3) (x:HZ D V s t w a):HZ D' V' s' t w a:=by
 obtain⟨h,x⟩:=x;refine⟨h,?_⟩;cases A:w.ph <;> rw[A] at x
 case lI=>exact⟨x.1.mono H R (eS u) fI,x.2⟩
 case last hs=>obtain⟨B,r,E⟩:=x; exact⟨B.mono H R (eS u) fI,r,E.mono H R.toGs⟩
 case mO l=>exact⟨po.mono H R u h.g.len.2 x.1,x.2⟩
 case own hs=>exact⟨x.1.mono H R (eS u) fI,x.2.mono H R.toGs⟩
 all_goals exact x
def HD.mono (H:SI D V N s) (R:zm t D V O s D' V' O' s') (u:1<=t/\t<=3) (x:HD D V s t q1):HD D' V' s' t q1:=by
 obtain⟨k,d⟩:=R.kp t (eS u) fI;obtain⟨v,q,e,h⟩:=x.st;obtain⟨A,B,_⟩:=k.st v q e;exact⟨x.rd.mono H d R.toGs,A,q,B,h⟩
def HD.kept {A:Int->Prop} (H:SI D V N s) (X:Sx A t D V O N s D' V' O' s') (u:¬A t) (B:1<=t/\t<=3) (x:HD D V s t q1):HD D' V' s' t q1:=by
 obtain⟨k,d⟩:=X.kp t (eS B) u;obtain⟨v,q,e,h⟩:=x.st;obtain⟨E,F,_⟩:=k.st v q e;exact⟨x.rd.mono H d X.gs,E,q,F,h⟩
def vI.mono (G:Gs D V s D' V' s') (h:vI D c x):vI D' c x:=let⟨es,e,h1,h2⟩:=h; ⟨es,e,G.dd _ _ h1,h2⟩
def vI.live (G:Gs D V s D' V' s') (h:vI D c x) (l:¬Live s x.ref):¬Live s' x.ref:=let⟨es,e,h1,_⟩:=h; λy=>l (G.live _ _ h1 y)
def we.mono (H:SI D V N s) (G:Gs D V s D' V' s') (x:we D V s t w a):we D' V' s' t w a:=by
 obtain⟨e,h1,h2,u,A,x⟩:=x;refine⟨e,h1,h2,u,A,?_⟩;cases B:w.ph <;> rw[B] at x
 case jS y hs=>exact⟨x.1.mono G,x.2.mono H G⟩
 case kC=>obtain⟨y,h,E,F⟩:=x; exact⟨y,h.mono G,E,h.live G F⟩
 all_goals exact x
def Ir.mono (H:SI D V N s) (G:Gs D V s D' V' s') {p:Pk} (x:Ir D V s t p a):Ir D' V' s' t p a:=by
 obtain⟨h1,x⟩:=x;refine⟨h1,?_⟩;cases h:p.ph <;> rw[h] at x
 case fZ hs=>exact⟨x.1,x.2.1.mono G,x.2.2.mono H G⟩
 case back=>exact⟨x.1,x.2.1.mono G,x.2.2.1,x.2.1.live G x.2.2.2⟩
 all_goals exact x
def SI.met (H:SI D V N s) (h1:56<=c) (h2:c<62) (h:¬(s.W c).ref=0):vI D c (s.W c)/\∃es,D (s.W c).ref=some es:=by
 obtain⟨es,e,a,b,d,f⟩:=H.cell c h1 h2 h;refine⟨⟨es,e,a,b,d,?_⟩,es,a⟩;unfold dC at f;rw[d] at f;exact f
def og {r:Int} (h:¬aZ r=0):¬r=0:=λe=>h (by rw[e]; rfl)
def vI.back (H:SI D V N s) (u:N+1<1000000) (B:BI D V O s) (m:vI D c x) (l:¬Live s x.ref) (E:pr t s s' ⟨6,c,x,⟨x.v,x.aO,0⟩⟩ g):Sx (λ_=>False) t D V O N s D V O s':=by
 obtain⟨es,e,h1,h2,rfl,A⟩:=m;rcases E.kH with ⟨F,_,h,_⟩| ⟨F,_,h⟩
 ·have K:dC s x.ref e:=F.trans A;have J:x.v=e.old.v/\x.aO=e.old.aO:=by rw[A]; exact⟨rfl,rfl⟩
  obtain⟨S,G⟩:=H.L1 u h1 h2 h K (H.gone h1 l).1 (.inl ⟨by rw[J.1,J.2],λ_ _=>l⟩);exact G.sx S H B
 ·exact(nT H u B h E.mono).1
def po.step (H:SI D V N s) (hN:N+1<1000000) (aS:1000<=N) (B:BI D V O s) (ht:1<=t/\t<=3) (h:Rq t w) {l:List Ac} (x:po D V s t w (a::l)) (E:pr t s s' a g) :
  ∃D' V' A,Sx A t D V O N s D' V' O s'/\(∀who,A who->who=t)/\po D' V' s' t w l:=by
 have hw:=eS ht;have Q:(a.op=7\/a.op=8)->Sx (λ_=>False) t D V O N s D V O s'/\zm t D V O s D V O s':=λo=>by
  obtain⟨op,p,old,new⟩:=a;exact nT H hN B (E.fN o) E.mono
 have aT:1<=w.seq/\w.seq<1000000:=by have:=h.sq; omega
 generalize u:a::l=L at x;cases x with
 | xF K0 G J h1 h2 M T=>
  obtain⟨rfl,rfl⟩:=List.cons.inj u;obtain⟨U,_,_⟩:=E.yg (.inr rfl);obtain⟨X,F⟩:=h1.fill (es:=w.es) H hN aS B hw fI U;refine⟨D,V,_,X,λ_ h=>h,?_⟩;have:=po.Kq 0 K0 G J F (Nat.zero_le _) h2 M T;rwa [List.drop_zero,Int.natCast_zero,Int.add_zero] at this
 | Kq k K G J F hk h2 M T=>
  cases K with
  | cons y K=>
   obtain⟨rfl,rfl⟩:=List.cons.inj u;obtain⟨X,R⟩:=Q (h2 a List.mem_cons_self);exact⟨D,V,_,X,λ_ h=>h.elim,.Kq k K G J (F.mono H R hw fI h.g.len.2) hk (λy Z=>h2 y (List.mem_cons_of_mem _ Z)) M T⟩
  | nil=>
   rw[List.nil_append] at u;by_cases e:k<(aY w.es).length
   ·rw[List.drop_eq_getElem_cons e] at u;obtain⟨rfl,rfl⟩:=List.cons.inj u;obtain⟨U,y2,_⟩:=E.yg (.inl rfl);obtain⟨X,F'⟩:=F.store H hN B hw fI h.g.len.2 (List.getElem?_eq_getElem e) U y2;refine⟨D,V,_,X,λ_ h=>h,?_⟩;have:=po.Kq (k+1) [] G J F' e (λ_ h=>by cases h) M T;rw[List.nil_append] at this;rwa [show aC t+1+(k:Int)+1=aC t+1+((k+1:Nat):Int) by omega]
   ·have ek:k=(aY w.es).length:=by omega
    rw[List.drop_eq_nil_of_le (by omega)] at u;have u:a::l=G++Nz (aC t) w.seq::J:=u;cases G with
    | cons y G=>
     obtain⟨rfl,rfl⟩:=List.cons.inj u;obtain⟨X,R⟩:=Q (M a List.mem_cons_self);refine⟨D,V,_,X,λ_ h=>h.elim,?_⟩;have:=po.Kq k [] G J (F.mono H R hw fI h.g.len.2) hk (λ_ h=>by cases h) (λy Z=>M y (List.mem_cons_of_mem _ Z)) T;rwa [List.drop_eq_nil_of_le (by omega)] at this
    | nil=>
     obtain⟨rfl,rfl⟩:=List.cons.inj u;obtain⟨U,_,y2⟩:=E.yg (.inr rfl);have f:Rf (t:Int) w.seq (bT t w.seq):=⟨hw,aT,rfl⟩;rw[ek,cB] at F;obtain⟨X,hD,rd⟩:=F.opened H hN B f fI ht h.g U (y2 rfl);exact⟨_,_,_,X,λ_ h=>h,.xg _ ⟨hD,rd,0,U.self⟩ T⟩
 | xg _ h1 h2=>
  subst u;obtain⟨X,R⟩:=Q (h2 a List.mem_cons_self);exact⟨D,V,_,X,λ_ h=>h.elim,.xg l (h1.mono H R hw fI) λy Z=>h2 y (List.mem_cons_of_mem _ Z)⟩
def pI (w:Sw) (l:List Int):tz (gM w l):=λy u=>by
 unfold gM at u;split at u
 ·rcases List.mem_append.1 u with h | h
  ·obtain⟨p,_,rfl⟩:=List.mem_map.1 h;exact .inl rfl
  ·rw[List.mem_singleton] at h;subst h;exact .inr rfl
 ·cases u
def po.nil (x:po D V s t w []):Ii D V s t w.seq w.es:=by
 generalize h:([]:List Ac)=L at x;cases x with
 | xF=>cases h
 | Kq k K u A=>
  have:=congrArg List.length h;simp only[List.length_append,List.length_cons,List.length_nil] at this;omega
 | xg _ h1 _=>exact h1
def Bn (F:1<=t/\t<=3) (h:Rq t w) {l:List Ac} (x:po D V s t w l) (G:l.length<=46):Kl D V s t w.es w.seq (xM w l):=by
 cases l with
 | nil=>
  have P:=x.nil;refine⟨rfl,rfl,⟨h.g,h.t,h.sq⟩,P,?_⟩;have y:=od.new (D:=D) (V:=V) (s:=s) (t:=t) P.hD w.cH;rw[yK (eS F) (by have:=h.sq; omega)] at y;rw[h.t];exact y
 | cons a l=>
  refine⟨rfl,rfl,⟨h.g,h.t,h.sq⟩,?_,by rw[List.length_cons] at G; omega⟩;generalize M:a::l=L at x;show po D V s t {w with ph:=.mO l} L;cases x with
  | xF H u A h1 h2 B E=>exact .xF H u A h1 h2 B E
  | Kq k K u A h1 h2 B E J=>exact .Kq k K u A h1 h2 B E J
  | xg _ h1 h2=>exact .xg _ h1 h2
def pQ (w:Sw) (l:List Int):(gM w l).length<=l.length+1:=by
 unfold gM;split
 ·rw[List.length_append,List.length_map]; exact Nat.le_refl _
 ·exact Nat.zero_le _
def zi:∀(l:List W3) (p:Int),(eZ l p).length=l.length
 | [],_=>rfl
 | _::r,p=>by show(eZ r (p+1)).length+1=r.length+1; rw[zi r]
def zc (g:w.es.length<=6):(eJ w).length<=45:=by
 have h1:=pQ w [xG w];have h2:=pQ w (dP (xG w) (aY w.es).length);have h:(dP (xG w) (aY w.es).length).length<=(aY w.es).length:=by
  unfold dP;refine Nat.le_trans (List.length_filter_le _ _) ?_;rw[List.length_map,List.length_range]; exact Nat.le_refl _
 have u:=cB w.es;have A:=zi (aY w.es) (xG w+1);unfold eJ;dsimp only;simp only[List.length_append,List.length_cons,List.length_nil] at h1⊢;omega
def BO (u:1<=t/\t<=3) (h:Rq t w) (x:Claim D V s t w.seq):Kl D V s t w.es w.seq (qB w):=by
 refine Bn u h ?_ (by have:=zc h.g.len.2; omega);have y:=po.xF (w:=w) (gM w [aC t]) (gM w (dP (aC t) (aY w.es).length)) (gM w [aC t]) x (pI _ _) (pI _ _) (pI _ _);unfold eJ xG;dsimp only;rw[h.t,<-sT u];simpa only[List.append_assoc,List.cons_append,List.nil_append] using y
def HZ.step (H:SI D V N s) (T:N+1<1000000) (U:1000<=N) (B:BI D V O s) (F:1<=t/\t<=3) (x:HZ D V s t w a) (E:pr t s s' a g) :
  ∃D' V' A,Sx A t D V O N s D' V' O s'/\(∀who,A who->who=t)/\Kl D' V' s' t w.es w.seq (bS w g):=by
 have hw:=eS F;obtain⟨h,x⟩:=x;have Z:1<=w.seq/\w.seq<1000000:=by have:=h.sq; omega
 have Q:s.quiet s'->Sx (λ_=>False) t D V O N s D V O s'/\zm t D V O s D V O s':=λq=>nT H T B q E.mono;cases L:w.ph <;> rw[L] at x
 case lI=>
  obtain⟨J,rfl⟩:=x;obtain⟨q1,_,rfl⟩:=E.bH;obtain⟨X,R⟩:=Q q1;refine⟨D,V,_,X,λ_ h=>h.elim,?_⟩;have u:=J.mono H R hw fI;obtain⟨v,q,e,h1,h2⟩:=J.st;rw[sT F] at e;unfold bS;rw[L];dsimp only;unfold pq;rw[e];dsimp only;rw[if_neg (by omega),h.t];split
  ·exact BO F h u
  ·rename_i z;have z1:Fw t q=true:=Classical.byContradiction λy=>z (.inl (by simpa using y));have z2:v=0\/v=1:=Classical.byContradiction λy=>z (.inr y);obtain⟨v',q',I⟩:=H.st _ hw;have M:=I.eq;rw[sT F,e] at M;simp only[W3.mk.injEq,and_true] at M;obtain⟨rfl,rfl⟩:=M;have K:1<=q/\q<1000000:=by
    unfold Fw at z1;have:=of_decide_eq_true z1;have:=I.qr;have:=H.nN;omega
   obtain⟨es,hD,_⟩:=I.op K.1 (by omega);have y:=od.new (D:=D) (V:=V) (s:=s') (t:=t) hD w.cH;rw[yK hw K] at y;exact⟨rfl,rfl,⟨h.g,rfl,h.sq⟩,u,_,y⟩
 case last hs=>
  obtain⟨J,r,x2⟩:=x;obtain⟨V',S,G,y⟩:=x2.step H T E;have X:=G.sx (t:=t) S H B;have R:zm t D V O s D V' O s':={G.toGs with kp:=λwho hw _=>⟨G.kp who hw,λ_ _=>rfl⟩,ow:=λ_ _=>Iff.rfl};refine⟨D,V',_,X,λ_ h=>h.elim,?_⟩;have u:=J.mono H R hw fI;unfold bS;rw[L];dsimp only;cases K:bV hs g with
  | mk aS q=>
   obtain⟨a',d⟩:=q;rw[K] at y;cases d with
   | false=>exact⟨rfl,rfl,⟨h.g,h.t,h.sq⟩,u,r,y⟩
   | true=>exact BO F h u
 case mO l=>
  obtain⟨D',V',A,X,hA,y⟩:=po.step H T U B F h x.1 E;refine⟨D',V',A,X,hA,?_⟩;unfold bS;rw[L];exact Bn F h y (by have:=x.2; omega)
 case own hs=>
  obtain⟨J,x2⟩:=x;obtain⟨V',S,G,y⟩:=x2.step H T E;have X:=G.sx (t:=t) S H B;refine⟨D,V',_,X,λ_ h=>h.elim,?_⟩;have u:=J.gx H G hw;unfold bS;rw[L];dsimp only;cases K:bV hs g with
  | mk aS q=>
   obtain⟨a',d⟩:=q;rw[K] at y;cases d with
   | false=>exact⟨rfl,rfl,⟨h.g,h.t,h.sq⟩,u,y⟩
   | true=>
    obtain⟨k,rfl,e,hE⟩:=y;have f:Rf (t:Int) w.seq (bT t w.seq):=⟨hw,Z,rfl⟩;obtain⟨v',M⟩:=u.st;exact⟨rfl,u.rd.ready S f u.hD e hE,v',_,M,Int.le_refl _⟩
 all_goals exact x.elim
end
section
variable {D D':Dg} {V V':Vg} {O O':tq} {N:Int} {s s':Sh} {t:Nat} {r who q q1 c:Int} {es:List Et} {e:Et} {a:Ac} {g:cP} {hs:List Hs} {x:W3} {w:Sw} {p:Pk}
def xO (h:w.es=[e]):sE w=e:=by unfold sE; rw[h]; rfl
def xj {l:List Ac} {ok:Bool} (h1:w.es=[e]) (h2:56<=e.at'/\e.at'<62) (h:xB e.new) (u:e.old.ref=0) (A:tz l) (B:l.length<=3):Cb D V s t w.es (oO w ok l):=by
 cases l with
 | nil=>exact rfl
 | cons y l=>exact⟨rfl,e,h1,h2,h,u,A,by rw[List.length_cons] at B; omega⟩
def A8 (h1:w.es=[e]) (h2:56<=e.at'/\e.at'<62) (h:xB e.new) (u:e.old.ref=0):Cb D V s t w.es (s9 w):=
 ⟨rfl,e,h1,h2,h,u,by show Ac.mk 5 (sE w).at' W0 W0=_; rw[xO h1]⟩
def DA (H:SI D V N s) (h1:w.es=[e]) (h2:56<=e.at'/\e.at'<62) (h:xB e.new) (u:e.old.ref=0):Cb D V s t w.es (r8 w (s.W e.at')):=by
 unfold r8;rw[xO h1];split
 ·rename_i z;obtain⟨m,A,hD⟩:=H.met h2.1 h2.2 (og z.1);exact⟨rfl,e,h1,h2,h,u,m,od.new hD w.cH⟩
 ·split
  ·exact xj h1 h2 h u (pI _ _) (Nat.le_trans (pQ _ _) (Nat.le_succ 2))
  ·rename_i z;have z:s.W e.at'=e.old:=Classical.not_not.1 z;refine⟨rfl,e,h1,h2,h,u,?_⟩;show Ac.mk 6 e.at' (s.W e.at') ⟨e.new,((s.W e.at').aO+1) % 4294967296,0⟩=_;rw[z]
def we.step (H:SI D V N s) (A:N+1<1000000) (B:BI D V O s) (x:we D V s t w a) (E:pr t s s' a g) :
  ∃V',Sx (λ_=>False) t D V O N s D V' O s'/\Cb D V' s' t w.es (bS w g):=by
 obtain⟨e,h1,h2,h,u,x⟩:=x;have Q:s.quiet s'->Sx (λ_=>False) t D V O N s D V O s'/\zm t D V O s D V O s':=λq=>nT H A B q E.mono;unfold bS;cases L:w.ph <;> rw[L] at x
 case lM=>
  obtain rfl:=x;obtain⟨q1,_,rfl⟩:=E.bH;obtain⟨X,R⟩:=Q q1;refine⟨V,X,?_⟩;dsimp only;rw[<-q1.1 e.at'];exact DA X.si h1 h2 h u
 case jS y hs=>
  obtain⟨F,M⟩:=x;obtain⟨V',S,G,z⟩:=M.step H A E;refine⟨V',G.sx S H B,?_⟩;dsimp only;cases T:bV hs g with
  | mk U q=>
   obtain⟨a',d⟩:=q;rw[T] at z;cases d with
   | false=>exact⟨rfl,e,h1,h2,h,u,F.mono G.toGs,z⟩
   | true=>
    obtain⟨k,rfl,Z,hE⟩:=z;dsimp only;by_cases v4:¬Dj [k]=4
    ·rw[if_pos v4]; exact A8 h1 h2 h u
    ·rw[if_neg v4];refine⟨rfl,e,h1,h2,h,u,y,F.mono G.toGs,by rw[xO h1],?_⟩;have v4:k.aO=4:=Classical.not_not.1 v4;obtain⟨_,aS,z1,z2,z3⟩:=hE;rw[<-Z];rcases z3.vr with y | y | y
     ·omega
     ·omega
     ·exact y.2
 case kC=>
  obtain⟨y,F,rfl,x3⟩:=x;exact⟨V,F.back H A B x3 E,A8 h1 h2 h u⟩
 case mG=>
  obtain rfl:=x;dsimp only;rcases E.kH with ⟨J,rfl,K,_⟩| ⟨J,rfl,K⟩
  ·have hv:=H.aO e.at' h2.1 h2.2;rw[J] at hv;obtain⟨S,G⟩:=H.Nn A h h2 (by
    rw[show((s.W e.at').aO+1)=(e.old.aO+1) % 4294967296 by rw[J]; have:=H.nN; omega]; exact K) (by rw[J]; exact u)
   refine⟨V,G.sx S H B,?_⟩;rw[if_pos rfl];exact xj h1 h2 h u (pI _ _) (Nat.le_trans (pQ _ _) (Nat.le_succ 2))
  ·obtain⟨X,R⟩:=Q K;refine⟨V,X,?_⟩;rw[if_neg (by simp)];dsimp only;rw[<-K.1 e.at'];exact DA X.si h1 h2 h u
 case send l ok=>
  obtain⟨X,R⟩:=Q (by
   obtain⟨op,p,o,n⟩:=a;exact E.fN (x.1 _ List.mem_cons_self))
  exact⟨V,X,xj h1 h2 h u (λy hy=>x.1 y (List.mem_cons_of_mem _ hy)) (by have:=x.2; omega)⟩
 all_goals exact x.elim
def sD (h1:(∀c∈p.at',56<=c/\c<62)/\p.at'.length<=6) (hi:p.i<p.at'.length/\p.now.length=p.i):Hz D V s t p.at' (pW p):=⟨rfl,h1,hi,rfl⟩
def zT (h1:(∀c∈p.at',56<=c/\c<62)/\p.at'.length<=6):Hz D V s t p.at' (jW p):=by
 unfold jW;split
 ·exact⟨rfl,h1,rfl⟩
 ·exact⟨rfl,h1,rfl⟩
def FR (h1:(∀c∈p.at',56<=c/\c<62)/\p.at'.length<=6) (hi:0<p.at'.length):Hz D V s t p.at' (mQ p):=by
 unfold mQ;dsimp only;split
 ·exact sD (p:={p with rounds:=p.rounds+1,ki:=p.now,now:=[],i:=0}) h1 ⟨hi,rfl⟩
 ·split
  ·exact zT (p:={p with rounds:=p.rounds+1,i:=0}) h1
  ·exact rfl
def yT (h1:∀c∈p.at',56<=c/\c<62) (hi:p.i<p.at'.length):56<=s7 p/\s7 p<62:=by
 unfold s7;rw[List.getD_eq_getElem?_getD,List.getElem?_eq_getElem hi];exact h1 _ (List.getElem_mem hi)
def Ir.step (H:SI D V N s) (u:N+1<1000000) (B:BI D V O s) (x:Ir D V s t p a) (E:pr t s s' a g) :
  ∃V',Sx (λ_=>False) t D V O N s D V' O s'/\Hz D V' s' t p.at' (iC p g):=by
 obtain⟨h1,x⟩:=x;have Q:s.quiet s'->Sx (λ_=>False) t D V O N s D V O s'/\zm t D V O s D V O s':=λq=>nT H u B q E.mono;unfold iC;cases F:p.ph <;> rw[F] at x
 case found=>
  obtain⟨hi,rfl⟩:=x;obtain⟨q1,_,rfl⟩:=E.bH;obtain⟨X,R⟩:=Q q1;refine⟨V,X,?_⟩;have A:=yT h1.1 hi.1;dsimp only;rw[<-q1.1 (s7 p)];unfold oY;split
  ·rename_i z;obtain⟨m,J,hD⟩:=X.si.met A.1 A.2 (og (by omega));exact⟨rfl,h1,hi,m,od.new hD p.cH⟩
  ·dsimp only;split
   ·rename_i z;exact sD (p:={p with now:=p.now++[s'.W (s7 p)],i:=p.i+1}) h1 ⟨z,by dsimp only; rw[List.length_append,List.length_singleton,hi.2]⟩
   ·exact FR (p:={p with now:=p.now++[s'.W (s7 p)],i:=p.i+1}) h1 (by have:=hi.1; dsimp only; omega)
 case fZ hs=>
  obtain⟨hi,h,K⟩:=x;obtain⟨V',S,G,z⟩:=K.step H u E;refine⟨V',G.sx S H B,?_⟩;dsimp only;cases L:bV hs g with
  | mk M q=>
   obtain⟨a',d⟩:=q;rw[L] at z;cases d with
   | false=>exact⟨rfl,h1,hi,h.mono G.toGs,z⟩
   | true=>
    obtain⟨k,rfl,T,hE⟩:=z;dsimp only;by_cases v4:¬Dj [k]=4
    ·rw[if_pos v4]; exact sD h1 hi
    ·rw[if_neg v4];refine⟨rfl,h1,hi,h.mono G.toGs,rfl,?_⟩;have v4:k.aO=4:=Classical.not_not.1 v4;obtain⟨_,U,z1,z2,Z⟩:=hE;show ¬Live s' p.held.ref;rw[<-T];rcases Z.vr with y | y | y
     ·omega
     ·omega
     ·exact y.2
 case back=>
  obtain⟨hi,h,rfl,x3⟩:=x;exact⟨V,h.back H u B x3 E,sD h1 hi⟩
 case flush=>
  obtain⟨X,R⟩:=Q (by
   obtain⟨op,p,o,n⟩:=a;exact E.fN (.inl x))
  exact⟨V,X,zT h1⟩
 case last=>
  obtain⟨X,R⟩:=Q (by
   obtain⟨op,p,o,n⟩:=a;exact E.fN (.inr x))
  exact⟨V,X,rfl⟩
 case over=>exact x.elim
end
def Rp (w:W3):Prop:=xB w.v/\0<=w.aO/\w.aO<16777216
section
variable {o:iZ} {l:List W3}
def lT (h:¬o.ps=[]):1<=(aL o).length/\(aL o).length<=6:=by
 have h1:=Fx h;have h2:=C0 o.ps 6;by_cases q:o.d % 4=2
 ·unfold aL;rw[if_pos q,List.length_take];change 1<=min 1 (qL o.ps 6).length/\min 1 (qL o.ps 6).length<=6;omega
 ·rw[vh q]; exact⟨h1,h2⟩
def B1 (i j:Nat) (a b:Pt) (q:i<j) (u:(aL o)[i]?=some a) (h:(aL o)[j]?=some b):bO a<bO b:=by
 by_cases A:o.d % 4=2
 ·exfalso;unfold aL at h;rw[if_pos A] at h;have:=(List.getElem?_eq_some_iff.1 h).1;rw[List.length_take] at this;omega
 ·rw[vh A] at u h;have:=Hd i j a b q u h;unfold bO;omega
def vM (B:¬o.ps=[]) (G:l.length=(aL o).length) (hw:∀w∈l,Rp w):Good (bB (aL o) l):=by
 have h1:=lT B;have hlen:(bB (aL o) l).length=(aL o).length:=by unfold bB; rw[List.length_map,List.length_zip]; omega
 have q:∀e∈bB (aL o) l,∃p w,e=kO p w/\Rp w:=λe he=>by
  unfold bB at he;obtain⟨x,F,rfl⟩:=List.mem_map.1 he;exact⟨x.1,x.2,rfl,hw _ (List.of_mem_zip (a:=x.1) (b:=x.2) F).2⟩
 refine⟨by rw[hlen]; exact h1,λe he=>?_,λi j a b E u A=>?_,λe he=>?_,λe he=>?_,λe he=>?_,λe he=>?_⟩
 ·obtain⟨p,w,rfl,_⟩:=q e he;exact lW p
 ·unfold bB at u A;rw[List.getElem?_map] at u A;cases h1:((aL o).zip l)[i]? with
  | none=>rw[h1] at u; cases u
  | some x=>
   cases h2:((aL o).zip l)[j]? with
   | none=>rw[h2] at A; cases A
   | some y=>
    rw[h1] at u;rw[h2] at A;simp only[Option.map_some,Option.some.injEq] at u A;subst u A;exact B1 i j _ _ E (List.getElem?_zip_eq_some.1 h1).1 (List.getElem?_zip_eq_some.1 h2).1
 ·obtain⟨p,w,rfl,_⟩:=q e he;rfl
 ·obtain⟨p,w,rfl,h⟩:=q e he;exact h.2
 ·obtain⟨p,w,rfl,h⟩:=q e he;refine⟨h.1,?_⟩;show xB (if p.wr=true then uA _ else w.v);split
  ·exact SC _
  ·exact h.1
 ·obtain⟨p,w,rfl,_⟩:=q e he;intro h;have h:p.wr=false:=h;show(if p.wr=true then uA _ else w.v)=w.v;rw[h,if_neg (λx=>Bool.noConfusion x)]
end
section
variable (D:Dg) (V:Vg) (O:tq) (s:Sh) (t:Nat)
structure PA (c:Cn) (k:Int):Prop where
 t:c.t=t
 br:c.broken=false
 ops:∀o∈c.ops,FW o
 sq:0<=c.seq/\c.seq+c.ops.length<=k
 h8:c.ops.length<=8
def qS (c:Cn) (a:Ac):Prop:=
 match c.now with
 | none=>PA t c 100/\HD D V s t c.seq/\mV O t/\∃o r k,c.ops=o::r/\¬o.ps=[]/\¬o.d % 4=3/\c.seen.length=k+1/\k<(aL o).length/\a=AD (((aL o).map bO).getD k 0)/\∀w∈c.seen,Rp w
 | some d=>PA t c 101/\c.seen=[]/\¬c.ops=[]/\(match d with
  | .sw w=>mV O t/\((HZ D V s t w a/\w.seq=c.seq)\/(we D V s t w a/\HD D V s t c.seq/\c.seq+c.ops.length<=100))
  | .bl b=>E9 D V O s t b a/\HD D V s t c.seq/\c.seq+c.ops.length<=100
  | .pk p=>Ir D V s t p a/\HD D V s t c.seq/\mV O t/\c.seq+c.ops.length<=100)
structure Rz (c:Cn):Prop where
 b:PA t c 100
 sl:HD D V s t c.seq
 no:mV O t
def Hj:CR->Prop
 | (c,a,false)=>qS D V O s t c a
 | (c,_,true)=>Rz D V O s t c
end
section
variable {D D':Dg} {V V':Vg} {O O':tq} {N:Int} {s s':Sh} {t:Nat} {a:Ac} {g:cP} {c:Cn}
def qS.mono (H:SI D V N s) (R:zm t D V O s D' V' O' s') (q:1<=t/\t<=3) (x:qS D V O s t c a):qS D' V' O' s' t c a:=by
 unfold qS at *;cases u:c.now with
 | none=>
  rw[u] at x;exact⟨x.1,x.2.1.mono H R q,x.2.2.1.mono R,x.2.2.2⟩
 | some d=>
  rw[u] at x;obtain⟨A,B,E,h⟩:=x;refine⟨A,B,E,?_⟩;cases d with
  | sw w=>
   obtain⟨y,z⟩:=h;exact⟨y.mono R,z.imp (λz=>⟨z.1.mono H R q,z.2⟩) λz=>⟨z.1.mono H R.toGs,z.2.1.mono H R q,z.2.2⟩⟩
  | bl b=>exact⟨h.1.mono H R,h.2.1.mono H R q,h.2.2⟩
  | pk p=>exact⟨h.1.mono H R.toGs,h.2.1.mono H R q,h.2.2.1.mono R,h.2.2.2⟩
def Rz.mono (H:SI D V N s) (R:zm t D V O s D' V' O' s') (h:1<=t/\t<=3) (x:Rz D V O s t c):Rz D' V' O' s' t c:=⟨x.b,x.sl.mono H R h,x.no.mono R⟩
def pH {o:iZ} {r:List iZ}:∀{l:List iZ},iA l=o::r->(o::r).length<=l.length
 | [],h=>by cases h
 | x::l,h=>by
  by_cases e:x.ps=[]
  ·rw[p0 e] at h;have:=pH h;simp only[List.length_cons] at this⊢;omega
  ·rw[ku e] at h;rw[h]; exact Nat.le_refl _
def A5 {o:iZ} {r:List iZ}:∀{l:List iZ},iA l=o::r->∀x∈o::r,x∈l
 | [],h=>by cases h
 | x::l,h=>by
  by_cases e:x.ps=[]
  ·rw[p0 e] at h;exact λy q=>List.mem_cons_of_mem _ (A5 h y q)
  ·rw[ku e] at h;rw[h]; exact λy q=>q
def Uf:Rp W0:=⟨by decide,by decide,by decide⟩
def zK (u:PA t c 100) (ht:1<=t/\t<=3) (hn:c.now=none) (J:HD D V s t c.seq) (R:mV O t) (hw:∀w∈aR c g,Rp w)
  (hl:c.seen=[]\/∃o r,c.ops=o::r/\¬o.ps=[]/\¬o.d % 4=3/\c.seen.length<=(aL o).length):Hj D V O s t (dR c g):=by
 have E:=u.sq;cases A:iA c.ops with
 | nil=>
  rw[xo A];exact⟨⟨u.t,u.br,(λo h=>by cases h),(by dsimp only[List.length_nil]; omega),Nat.zero_le _⟩,J,R⟩
 | cons o r=>
  have F:=nY A;have hlen:=pH A;have H:=A5 A;have Z:=lT F;have G:∀(q k:Int),0<=q->q+(o::r).length<=k->∀{now seen},PA t {c with ops:=o::r,now:=now,seen:=seen,seq:=q} k:=λq k h0 h1 {_ _}=>⟨u.t,u.br,λx K=>u.ops x (H x K),⟨h0,h1⟩,Nat.le_trans hlen u.h8⟩;have iF:(aR c g).length<=(aL o).length:=by
   unfold aR;rcases hl with e | ⟨o',r',e1,e2,e3,e4⟩
   ·rw[if_pos e]; exact Nat.zero_le _
   ·rw[e1,ku e2] at A;injection A with h1 h2;subst h1;split
    ·exact Nat.zero_le _
    ·rename_i z;have hc:1<=c.seen.length:=by
      cases hs:c.seen with
      | nil=>exact absurd hs z
      | cons x y=>rw[List.length_cons]; omega
     rw[List.length_append,List.length_dropLast,List.length_singleton]; omega
  by_cases L:o.d % 4=3
  ·have aS:c.seen=[]:=by
    rcases hl with e | ⟨o',r',e1,e2,e3,e4⟩
    ·exact e
    ·rw[e1,ku e2] at A;injection A with h1 h2;subst h1; exact absurd L e3
   unfold dR;rw[A];dsimp only;rw[if_neg (by rw[u.br]; simp),if_pos L];refine⟨G c.seq 101 E.1 (by omega),aS,List.cons_ne_nil _ _,⟨⟨λx K=>?_,?_⟩,⟨?_,rfl⟩,rfl⟩,J,R,?_⟩
   ·obtain⟨p,_,rfl⟩:=List.mem_map.1 K;exact lW p
   ·show((aL o).map bO).length<=6;rw[List.length_map]; exact Z.2
   ·show 0<((aL o).map bO).length;rw[List.length_map]; omega
   ·show c.seq+((o::r).length:Nat)<=100;omega
  ·by_cases T:(aR c g).length<(aL o).length
   ·rw[ui A u.br L T];show qS D V O s t _ _;unfold qS;dsimp only;rw[hn];refine⟨?_,J,R,o,r,(aR c g).length,rfl,F,L,by rw[List.length_append,List.length_singleton],T,rfl,λw K=>?_⟩
    ·exact⟨u.t,u.br,λx K=>u.ops x (H x K),⟨E.1,by show c.seq+((o::r).length:Nat)<=100; omega⟩,Nat.le_trans hlen u.h8⟩
    ·rcases List.mem_append.1 K with h | h
     ·exact hw w h
     ·rw[List.mem_singleton.1 h]; exact Uf
   ·have B:=vM (l:=aR c g) F (by omega) hw;have M:¬o::r=[]:=λe=>by cases e
    have U:c.seq+((o::r).length:Nat)<=100:=by omega
    by_cases h1:o.d % 4=1
    ·rw[mh (c2:={c with ops:=o::r,seen:=[],now:=some (.bl (GV c.cH (bB (aL o) (aR c g))))}) (a:=AD eT) A u.br L T (by
      unfold jT;dsimp only;rw[if_pos h1,if_pos B.Ta.bw])]
     exact⟨G c.seq 101 E.1 (by omega),rfl,M,⟨B,rfl,R,rfl,rfl⟩,J,U⟩
    ·by_cases h2:o.d % 4=2/\((aL o).getD 0 ⟨0,0,false⟩).wr=true
     ·have aT:(aL o).length=1:=by
       have:aL o=(qL o.ps 6).take 1:=by unfold aL; rw[if_pos h2.1]; rfl
       rw[this,List.length_take];have:=Fx F;omega
      obtain⟨p,hp⟩:∃p,aL o=[p]:=List.length_eq_one_iff.1 aT;obtain⟨w,bY⟩:∃w,aR c g=[w]:=List.length_eq_one_iff.1 (by omega);have X:bB (aL o) (aR c g)=[kO p w]:=by rw[hp,bY]; rfl
      have dO:(bB (aL o) (aR c g)).getD 0 Fj=kO p w:=by rw[X]; rfl
      rw[X] at B;have hm:kO p w∈[kO p w]:=List.mem_singleton.2 rfl;have eQ:p.wr=true:=by have:=h2.2; rw[hp] at this; exact this
      rw[mh (c2:={c with ops:=o::r,seen:=[],now:=some (.sw (oQ c.cH (kO p w)))}) (a:=AD (kO p w).at') A u.br L T (by
       unfold jT;dsimp only;rw[if_neg h1,if_pos h2,dO];have:nc (kO p w)=0:=by
        unfold nc;rw[if_neg (by rw[B.check]; simp),if_neg (by show ¬p.wr=false; rw[eQ]; simp),if_neg (by rw[B.may hm]; simp)]
       rw[if_pos this])]
      exact⟨G c.seq 101 E.1 (by omega),rfl,M,R,.inr ⟨⟨kO p w,rfl,B.pl _ hm,(B.val _ hm).2,B.ref _ hm,rfl⟩,J,U⟩⟩
     ·have Q:=u.t;rw[mh (c2:={c with ops:=o::r,seen:=[],seq:=c.seq+1,now:=some (.sw (Om c.t (c.seq+1) c.cH (bB (aL o) (aR c g))))}) (a:=AD (eN c.t)) A u.br L T (by
       unfold jT;dsimp only;rw[if_neg h1,if_neg h2,if_pos (B.Ta.sw (by rw[Q]; exact ht) (by omega))])]
      refine⟨G (c.seq+1) 101 (by omega) (by omega),rfl,M,R,.inl ⟨⟨⟨B,Q,by show 1<=c.seq+1/\c.seq+1<=1000; omega⟩,⟨?_,J.rd⟩,by rw[Q]⟩,rfl⟩⟩;obtain⟨v,q,e,hq⟩:=J.st;exact⟨v,q,e,by show q<c.seq+1; omega,.inr (by show c.seq+1<=1000; omega)⟩
def qS.step (H:SI D V N s) (U:N+1<1000000) (Z:1000<=N) (B:BI D V O s) (Q:1<=t/\t<=3) (x:qS D V O s t c a) (E:pr t s s' a g) :
  ∃D' V' O' A,Sx A t D V O N s D' V' O' s'/\Hj D' V' O' s' t (cO c g):=by
 have nA:∀{A:Int->Prop} {b:Nat},(∀who,A who->who=9+(b:Int))->¬A t:=λh h'=>by have:=h _ h'; omega
 unfold qS at x;unfold cO;cases hn:c.now with
 | none=>
  rw[hn] at x;obtain⟨u,M,K,o,r,k,e1,e2,e3,e4,e5,rfl,hw⟩:=x;obtain⟨q1,_,rfl⟩:=E.bH;obtain⟨X,R⟩:=nT (t:=t) H U B q1 E.mono;refine⟨D,V,O,_,X,?_⟩;refine zK u Q hn (M.mono H R Q) (K.mono R) (λw hx=>?_) (.inr ⟨o,r,e1,e2,e3,by omega⟩);unfold aR at hx;split at hx
  ·cases hx
  ·rcases List.mem_append.1 hx with h | h
   ·exact hw w ((List.dropLast_sublist _).subset h)
   ·rw[List.mem_singleton.1 h];have aS:k<(aL o).length:=e5;have hc:56<=((aL o).map bO).getD k 0/\((aL o).map bO).getD k 0<62:=by
     rw[List.getD_eq_getElem?_getD,List.getElem?_map,List.getElem?_eq_getElem aS];exact lW _
    have h1:=H.val _ hc.1 hc.2;have h2:=H.aO _ hc.1 hc.2;have h3:=H.nN;exact⟨h1,by dsimp only; omega,by dsimp only; omega⟩
 | some d=>
  rw[hn] at x;obtain⟨u,J,L,x⟩:=x;have aT:=u.sq;have fin:∀{D' V' O'} (d':Cd),HD D' V' s' t c.seq->mV O' t->Hj D' V' O' s' t (dR {c with done:=c.done++[rE d'],pn:=c.pn++yY d',ops:=c.ops.tail,now:=none} kq):=λ{D' V' O'} d' M K=>by
   have aS:c.ops.tail.length+1=c.ops.length:=by
    cases ho:c.ops with
    | nil=>exact absurd ho L
    | cons a b=>rfl
   refine zK ⟨u.t,u.br,λo ho=>u.ops o (List.mem_of_mem_tail ho),⟨aT.1,by show c.seq+(c.ops.tail.length:Nat)<=100; omega⟩,(by have:=u.h8; show c.ops.tail.length<=8; omega)⟩ Q rfl M K (λw hw=>?_) (.inl J);unfold aR at hw;rw[if_pos (show c.seen=[] from J)] at hw;cases hw
  dsimp only;unfold vm cR;cases d with
  | sw w=>
   obtain⟨K,x⟩:=x;dsimp only;rcases x with ⟨x,eq⟩| ⟨x,M,F⟩
   ·obtain⟨D',V',A,X,hA,y⟩:=x.step H U Z B Q E;refine⟨D',V',O,A,X,?_⟩;cases T:bS w g with
    | mk w' q=>
     obtain⟨a',dd⟩:=q;rw[T] at y;cases dd with
     | false=>exact⟨⟨u.t,u.br,u.ops,u.sq,u.h8⟩,J,L,K,.inl ⟨y.2.2,y.2.1.trans eq⟩⟩
     | true=>exact fin (.sw w') (eq▸y.2) K
   ·obtain⟨V',X,y⟩:=x.step H U B E;have G:=M.kept H X (λh=>h) Q;refine⟨D,V',O,_,X,?_⟩;cases T:bS w g with
    | mk w' q=>
     obtain⟨a',dd⟩:=q;rw[T] at y;cases dd with
     | false=>exact⟨⟨u.t,u.br,u.ops,u.sq,u.h8⟩,J,L,K,.inr ⟨y.2,G,F⟩⟩
     | true=>exact fin (.sw w') G K
  | bl b=>
   obtain⟨x,M,F⟩:=x;obtain⟨D',V',O',A,X,hA,y⟩:=x.step H U Z B Q E;have G:=M.kept H X (nA hA) Q;refine⟨D',V',O',A,X,?_⟩;dsimp only;cases T:bP b g with
   | mk b' q=>
    obtain⟨a',dd⟩:=q;rw[T] at y;cases dd with
    | false=>exact⟨⟨u.t,u.br,u.ops,u.sq,u.h8⟩,J,L,y.2,G,F⟩
    | true=>exact fin (.bl b') G y.2.2
  | pk p=>
   obtain⟨x,M,K,F⟩:=x;obtain⟨V',X,y⟩:=x.step H U B E;have G:=M.kept H X (λh=>h) Q;refine⟨D,V',O,_,X,?_⟩;dsimp only;cases T:iC p g with
   | mk p' q=>
    obtain⟨a',dd⟩:=q;rw[T] at y;cases dd with
    | false=>exact⟨⟨u.t,u.br,u.ops,u.sq,u.h8⟩,J,L,y.2,G,K,F⟩
    | true=>exact fin (.pk p') G K
end
def sh (m:Me):Sh where
 W:=λp=>if 0<=p then(m.top p.toNat).w else W0
 n:=λp=>if 0<=p then((m.at p.toNat).length:Int) else 0
 v:=λt p=>m.view t p
 tv:=λp j=>if 0<=p then(m.top p.toNat).f j else 0
structure Gg (n:Nat) (m:Me):Prop where
 vs:m.vs.length=3
 hs:m.hs.length=n
 ne:∀i,i<n->1<=(m.at i).length
 vb:∀f∈m.vs,∀i:Nat,i<n->f i<=((m.at i).length - 1:Nat)
 mb:∀k,k<n->∀x∈m.at k,∀i:Nat,i<n->x.f i<=((m.at i).length - 1:Nat)
section
variable {m:Me} {n t u i k q:Nat} {x:AM} {w:W3} {jn wl:Bool}
def pP (h:t - 1<m.vs.length):(m.lO t i q x jn).view u=if u - 1=t - 1 then(if jn then y9 (fL (m.view t) i q) x.f else fL (m.view t) i q) else m.view u:=by
 unfold Me.view Me.lO;dsimp only;rw[List.getD_eq_getElem?_getD,List.getElem?_set];by_cases e:t - 1=u - 1
 ·rw[if_pos e,if_pos h,if_pos e.symm]; rfl
 ·rw[if_neg e,if_neg (λx=>e x.symm),<-List.getD_eq_getElem?_getD]
def nF (h:i<m.hs.length):(m.add t i w wl).at k=if k=i then m.at i++[⟨w,if wl then fL (m.view t) i (m.at i).length else fL (λ_=>0) i (m.at i).length⟩] else m.at k:=by
 unfold Me.at Me.add;dsimp only;rw[List.getD_eq_getElem?_getD,List.getElem?_set];by_cases e:i=k
 ·subst e;rw[if_pos rfl,if_pos h,if_pos rfl]; rfl
 ·rw[if_neg e,if_neg (λx=>e x.symm),<-List.getD_eq_getElem?_getD]
def CO (h:i<m.hs.length):(m.add t i w wl).top k=if k=i then⟨w,if wl then fL (m.view t) i (m.at i).length else fL (λ_=>0) i (m.at i).length⟩ else m.top k:=by
 unfold Me.top;rw[nF h];by_cases e:k=i
 ·rw[if_pos e,if_pos e,List.getLast?_append]; rfl
 ·rw[if_neg e,if_neg e]
def vB (h:t - 1<m.vs.length):(m.add t i w wl).view u=if u - 1=t - 1 then fL (m.view t) i (m.at i).length else m.view u:=by
 unfold Me.view Me.add;dsimp only;rw[List.getD_eq_getElem?_getD,List.getElem?_set];by_cases e:t - 1=u - 1
 ·rw[if_pos e,if_pos h,if_pos e.symm]; rfl
 ·rw[if_neg e,if_neg (λx=>e x.symm),<-List.getD_eq_getElem?_getD]
def yM (f:Int->Int) (l n j:Int):f j<=fL f l n j:=by unfold fL; split <;> omega
def L5 (e:u - 1=t - 1):m.view u=m.view t:=by unfold Me.view; rw[e]
def Qv:(sh m).W i=(m.top i).w:=by unfold sh; dsimp only; rw[if_pos (by omega),Int.toNat_natCast]
def UP:(sh m).n i=((m.at i).length:Int):=by unfold sh; dsimp only; rw[if_pos (by omega),Int.toNat_natCast]
def Oq {j:Int}:(sh m).tv i j=(m.top i).f j:=by unfold sh; dsimp only; rw[if_pos (by omega),Int.toNat_natCast]
def GQ:(sh m).quiet (sh (m.lO t i q x jn)):=⟨λ_=>rfl,λ_=>rfl,λ_ _=>rfl⟩
def sI (h:t - 1<m.vs.length) (u:Nat) (j:Int):(sh m).v u j<=(sh (m.lO t i q x jn)).v u j:=by
 show m.view u j<=(m.lO t i q x jn).view u j;rw[pP h];by_cases e:u - 1=t - 1
 ·rw[if_pos e,L5 e];have:=yM (m.view t) i q j;cases jn with
  | true=>show m.view t j<=max (fL (m.view t) i q j) (x.f j); omega
  | false=>exact this
 ·rw[if_neg e]; exact Int.le_refl _
def D9 (h:t - 1<m.vs.length) (u:Nat) (j:Int):(sh m).v u j<=(sh (m.add t i w wl)).v u j:=by
 show m.view u j<=(m.add t i w wl).view u j;rw[vB h];by_cases e:u - 1=t - 1
 ·rw[if_pos e,L5 e]; exact yM _ _ _ _
 ·rw[if_neg e]; exact Int.le_refl _
def toNat_eq {p:Int} (h:0<=p):p.toNat=i↔p=i:=by omega
def PF (hi:i<m.hs.length) (p:Int):(sh (m.add t i w wl)).W p=if p=i then w else(sh m).W p:=by
 unfold sh;dsimp only;by_cases h:0<=p
 ·rw[if_pos h,if_pos h,CO hi];by_cases e:p=i
  ·rw[if_pos ((toNat_eq h).2 e),if_pos e]
  ·rw[if_neg (λy=>e ((toNat_eq h).1 y)),if_neg e]
 ·rw[if_neg h,if_neg h,if_neg (by omega)]
def Px (hi:i<m.hs.length) (p:Int):(sh (m.add t i w wl)).n p=if p=i then(sh m).n i+1 else(sh m).n p:=by
 unfold sh;dsimp only;by_cases h:0<=p
 ·rw[if_pos h,if_pos h,nF hi];by_cases e:p=i
  ·rw[if_pos ((toNat_eq h).2 e),if_pos e,if_pos (Int.natCast_nonneg i),Int.toNat_natCast,List.length_append,List.length_singleton]; omega
  ·rw[if_neg (λy=>e ((toNat_eq h).1 y)),if_neg e]
 ·rw[if_neg h,if_neg h,if_neg (by omega)]
def LF (hi:i<m.hs.length) (p j:Int) (e:¬p=i):(sh (m.add t i w wl)).tv p j=(sh m).tv p j:=by
 unfold sh;dsimp only;by_cases h:0<=p
 ·rw[if_pos h,if_pos h,CO hi,if_neg (λy=>e ((toNat_eq h).1 y))]
 ·rw[if_neg h,if_neg h]
def HC (hi:i<m.hs.length) (j:Int):(sh (m.add t i w true)).tv i j=fL (m.view t) i (m.at i).length j:=by
 rw[Oq,CO hi,if_pos rfl]; rfl
def xz.T0 {m F:Mj} {a:Ac} {g:cP} (K:Gg n m.me) (M:1<=t/\t<=3) (h:xz m t a F g):pr t (sh m.me) (sh F.me) a g:=by
 have hv:t - 1<m.me.vs.length:=by rw[K.vs]; omega
 cases h with
 | look i o n hi=>
  rw[<-Qv];refine .look _ o n GQ (sI hv) λj=>?_;rw[Oq];show _<=(m.me.lO t i _ _ true).view t j;rw[pP hv,if_pos rfl];show _<=max _ _;omega
 | load i q x o n hi G H=>
  refine .load _ o n x.w GQ (sI hv) λB=>?_;rw[UP] at B;rw[Qv];have h1:m.me.view t i<=q:=H;have h2:=(List.getElem?_eq_some_iff.1 G).1;have B:((m.me.at i).length:Int) - 1<=m.me.view t i:=B;have J:q=(m.me.at i).length - 1:=by omega
  unfold Me.top;rw[List.getLast?_eq_getElem?,<-J,G]; rfl
 | put i o w wl hi=>
  refine .put _ _ o w (by cases wl <;> simp) (λj=>PF hi j) (λj=>Px hi j) (λk j e=>LF hi k j e) (D9 hv) ?_ λL j=>?_
  ·rw[UP];show _<=(m.me.add t i w wl).view t i;rw[vB hv,if_pos rfl];unfold fL;rw[if_pos rfl]; omega
  ·cases wl with
   | false=>simp at L
   | true=>rw[HC hi]; exact yM _ _ _ _
 | swap i o w hi=>
  by_cases e:(m.me.top i).w=o
  ·have A:m.me.Dm t i o w=(m.me.lO t i ((m.me.at i).length - 1) (m.me.top i) true).add t i w true:=by unfold Me.Dm; rw[if_pos e]
   subst e;have E:t - 1<(m.me.lO t i ((m.me.at i).length - 1) (m.me.top i) true).vs.length:=by unfold Me.lO; dsimp only; rw[List.length_set]; exact hv
   have hs:=pr.swapT (t:=t) (s:=sh m.me) (s':=sh (m.me.Dm t i (m.me.top i).w w)) (i:Int) w (λj=>by rw[A,PF (m:=m.me.lO t i _ _ true) hi]; rfl) (λj=>by rw[A,Px (m:=m.me.lO t i _ _ true) hi]; rfl)
    (λk j ne=>by rw[A,LF (m:=m.me.lO t i _ _ true) hi k j ne]; rfl)
    (λu j=>by
     rw[A];exact Int.le_trans (sI hv u j) (D9 E u j))
    (λj=>by
     rw[A,HC (m:=m.me.lO t i _ _ true) hi,Oq];refine Int.le_trans ?_ (yM _ _ _ _);rw[pP hv,if_pos rfl];show _<=max _ _;omega)
   rw[Qv] at hs;rw[decide_eq_true rfl];exact hs
  ·have A:m.me.Dm t i o w=m.me.lO t i ((m.me.at i).length - 1) (m.me.top i) true:=by unfold Me.Dm; rw[if_neg e]
   rw[decide_eq_false e,<-Qv,A];refine .Pq _ o w (by rw[Qv]; exact e) GQ (sI hv) λj=>?_;rw[Oq];show _<=(m.me.lO t i _ _ true).view t j;rw[pP hv,if_pos rfl];show _<=max _ _;omega
 | flush i o n hi=>exact .fP _ _ o n (.inl rfl) ⟨λ_=>rfl,λ_=>rfl,λ_ _=>rfl⟩ λ_ _=>Int.le_refl _
 | sync p o n=>exact .fP _ _ o n (.inr rfl) ⟨λ_=>rfl,λ_=>rfl,λ_ _=>rfl⟩ λ_ _=>Int.le_refl _
def Gg.view (K:Gg n m) (u:Nat) (hi:i<n):m.view u i<=((m.at i).length - 1:Nat):=by
 unfold Me.view;rw[List.getD_eq_getElem?_getD];cases h:m.vs[u - 1]? with
 | none=>show(0:Int)<=_; omega
 | some f=>exact K.vb f (List.mem_of_getElem? h) i hi
def sU (h:1<=(m.at i).length):m.top i∈m.at i:=by
 unfold Me.top;rw[List.getLast?_eq_getElem?,List.getElem?_eq_getElem (by omega)];exact List.getElem_mem _
def Gg.lO (K:Gg n m) (hi:i<n) (F:q<=(m.at i).length - 1) (B:x∈m.at i):Gg n (m.lO t i q x jn):=by
 refine⟨by unfold Me.lO; dsimp only; rw[List.length_set]; exact K.vs,K.hs,K.ne,λf E j A=>?_,K.mb⟩;show f j<=((m.at j).length - 1:Nat);rcases List.mem_or_eq_of_mem_set E with h | h
 ·exact K.vb f h j A
 ·have h1:=K.view t A;have h2:fL (m.view t) i q j<=((m.at j).length - 1:Nat):=by
   unfold fL;split
   ·rename_i e;have:j=i:=by omega
    subst this;omega
   ·exact h1
  subst h;cases jn with
  | true=>
   show max _ _<=_;have:=K.mb i hi x B j A;omega
  | false=>exact h2
def Gg.add (K:Gg n m) (hi:i<n):Gg n (m.add t i w wl):=by
 have B:i<m.hs.length:=by rw[K.hs]; exact hi
 have hle:∀j,((m.at j).length - 1:Nat)<=(((m.add t i w wl).at j).length - 1:Nat):=λj=>by
  rw[nF B];split
  ·rename_i e; subst e; rw[List.length_append,List.length_singleton]; omega
  ·exact Nat.le_refl _
 have hv:∀f:Int->Int,(∀j:Nat,j<n->f j<=((m.at j).length - 1:Nat))->∀j:Nat,j<n->fL f i (m.at i).length j<=(((m.add t i w wl).at j).length - 1:Nat):=λf F j A=>by
  have h1:=F j A;have h2:=hle j;unfold fL;split
  ·rename_i e;have:j=i:=by omega
   subst this;have G:(m.add t j w wl).at j=m.at j++[⟨w,if wl then fL (m.view t) j (m.at j).length else fL (λ_=>0) j (m.at j).length⟩]:=by rw[nF B,if_pos rfl]
   rw[G,List.length_append,List.length_singleton];omega
  ·omega
 refine⟨by unfold Me.add; dsimp only; rw[List.length_set]; exact K.vs,by unfold Me.add; dsimp only; rw[List.length_set]; exact K.hs,λj A=>?_,λf F j A=>?_,λk H x E j A=>?_⟩
 ·have:=K.ne j A;rw[nF B];split
  ·rw[List.length_append,List.length_singleton]; omega
  ·exact this
 ·rcases List.mem_or_eq_of_mem_set (show f∈m.vs.set (t - 1) _ from F) with h | h
  ·have:=K.vb f h j A;have:=hle j;omega
  ·subst h;exact hv _ (λj A=>K.view t A) j A
 ·have old:∀y∈m.at k,y.f j<=(((m.add t i w wl).at j).length - 1:Nat):=λy J=>by
   have:=K.mb k H y J j A;have:=hle j;omega
  rw[nF B] at E;split at E
  ·rename_i e;subst e;rcases List.mem_append.1 E with h | h
   ·exact old x h
   ·rw[List.mem_singleton.1 h];cases wl with
    | true=>exact hv _ (λj A=>K.view t A) j A
    | false=>exact hv (λ_=>0) (λj A=>by omega) j A
  ·exact old x E
def xz.VD {m A:Mj} {a:Ac} {g:cP} (K:Gg n m.me) (h:xz m t a A g):Gg n A.me:=by
 have hs:=K.hs;cases h with
 | look i o n hi=>exact K.lO (by omega) (Nat.le_refl _) (sU (K.ne _ (by omega)))
 | load i q x o n hi B F=>exact K.lO (by omega) (by have:=(List.getElem?_eq_some_iff.1 B).1; omega) (List.mem_of_getElem? B)
 | put i o w wl hi=>exact K.add (by omega)
 | swap i o w hi=>
  have E:=K.lO (t:=t) (i:=i) (jn:=true) (by omega) (Nat.le_refl _) (sU (K.ne _ (by omega)));show Gg n (m.me.Dm t i o w);unfold Me.Dm;split
  ·exact E.add (by omega)
  ·exact E
 | flush i o n hi=>exact K
 | sync p o n=>exact K
end
section
variable {D D':Dg} {V V':Vg} {O O':tq} {N:Int} {s s':Sh} {t:Nat} {r who q c:Int} {es:List Et} {e:Et} {W:Int->W3}
def HI (hw:bA who):cG who=10\/cG who=32:=by
 have:=cY hw;unfold cG;rw[if_neg (by omega)];split
 ·exact .inl rfl
 ·exact .inr rfl
def Lz (g:Good es) {p:Int} (E:∀(k:Nat) (w:W3),(aY es)[k]?=some w->W (p+1+k)=w):∀(n i:Nat),n+i=es.length->J0 W p n i=some (es.drop i)
 | 0,i,h=>by rw[List.drop_eq_nil_of_le (by omega)]; rfl
 | n+1,i,h=>by
  have hi:i<es.length:=by omega
  have hm:=List.getElem_mem hi;have at':∀j:Nat,j<3->W (p+2+3*i+j)=((kG es)[3*i+j]?).getD W0:=λj G=>by
   have h1:3*i+j<(kG es).length:=by rw[sC]; omega
   have h2:(aY es)[3*i+j+1]?=some ((kG es)[3*i+j]):=by rw[qm,List.getElem?_cons_succ]; exact List.getElem?_eq_getElem h1
   have F:=E _ _ h2;rw[List.getElem?_eq_getElem h1];rw[<-show p+1+((3*i+j+1:Nat):Int)=p+2+3*i+j by omega,F]; rfl
  have u:=at' 0 (by omega);have A:=at' 1 (by omega);have B:=at' 2 (by omega);rw[pR,show(3*i+0) / 3=i by omega,show(3*i+0) % 3=0 by omega,List.getElem?_eq_getElem hi] at u;rw[pR,show(3*i+1) / 3=i by omega,show(3*i+1) % 3=1 by omega,List.getElem?_eq_getElem hi] at A;rw[pR,show(3*i+2) / 3=i by omega,show(3*i+2) % 3=2 by omega,List.getElem?_eq_getElem hi] at B;have u:W (p+2+3*i)=yy es[i]:=by
   rw[Int.natCast_zero,Int.add_zero] at u;exact u
  have A:W (p+2+3*i+1)=yD es[i]:=A;have B:W (p+2+3*i+2)=yG es[i]:=B;unfold J0;dsimp only;rw[u,A,B,if_pos (g.up hm).1,Lz g E n (i+1) (by omega),(g.up hm).2,List.drop_eq_getElem_cons hi]
def KX (g:Good es) (hw:bA who) {v:Int} (hv:0<=v/\v<=3) (A:1<=q/\q<1000000) (hs:W (aC who)=⟨v,q,0⟩) (h:∀(k:Nat) (w:W3),(aY es)[k]?=some w->W (aC who+1+k)=w):Cu W who=some (v,q,es):=by
 have hm:=HI hw;have gl:=g.len;have u:W (aC who+1)=⟨es.length,0,0⟩:=by
  have:=h 0 ⟨es.length,0,0⟩ rfl;rwa [Int.natCast_zero,Int.add_zero] at this
 unfold Cu;dsimp only;rw[hs,u,if_neg (by omega),if_neg (by dsimp only; rintro(x | x | x | x | x | x) <;> first | omega | exact x rfl)];dsimp only;rw[Int.toNat_natCast,Lz g h _ 0 (by omega),List.drop_zero];dsimp only;rw[if_pos];unfold Jz;simp only[Bool.and_eq_true,decide_eq_true_eq];exact⟨by omega,g.check,g.Ta.UH,List.all_eq_true.2 λe he=>g.may he,by omega⟩
def PT {x:Int × Int × List Et} (h:Cu W who=some x):x.1=(W (aC who)).v/\x.2.1=(W (aC who)).aO:=by
 unfold Cu at h;dsimp only at h;split at h
 ·cases h
 ·split at h
  ·cases h
  ·split at h
   ·split at h
    ·cases h; exact⟨rfl,rfl⟩
    ·cases h
   ·cases h
def Hh (H:SI D V N s) (h1:56<=c) (h2:c<62):qZ s.W c=yO D V s c:=by
 unfold qZ;dsimp only;by_cases K:(s.W c).ref=0
 ·rw[H.SU K,K,if_pos (show aZ 0=0 by decide)]
 ·obtain⟨es,e,hD,he,h,J⟩:=H.cell c h1 h2 K;obtain⟨who,q,f,R,g⟩:=H.rf hD;have T:=H.nN;have B:=H.aO c h1 h2;have U:=cY f.wh;rw[f.w,if_neg (by omega),f.sq];have u:s.W c=⟨e.old.v,e.old.aO,(s.W c).ref⟩:=by unfold dC at J; rw[h] at J; exact J
  have L:=H.Rm hD he J;rw[h] at L;rw[L];by_cases l:Live s (s.W c).ref
  ·obtain⟨I,X,b2,fl,_⟩:=H.live f hD l;rw[KX g f.wh ⟨X,by omega⟩ f.qr I.eq fl];dsimp only;by_cases v1:V (s.W c).ref=1
   ·rw[if_pos ⟨rfl,v1⟩];by_cases wr:e.wr=true
    ·have:zV es c=some e:=by
      unfold zV;cases E:es.find? λy=>decide (y.at'=c)&&y.wr with
      | none=>
       have:=List.find?_eq_none.1 E e he;simp[h,wr] at this
      | some y=>
       have F:=List.mem_of_find?_eq_some E;have A:=List.find?_some (p:=λy:Et=>decide (y.at'=c)&&y.wr) E;simp only[Bool.and_eq_true,decide_eq_true_eq] at A;rw[g.inj F he (A.1.trans h.symm)]
     rw[this,if_pos ⟨v1,wr⟩];dsimp only;have hv:(s.W c).aO=e.old.aO:=by rw[u]
     rw[hv] at B⊢;congr 1;omega
    ·have:zV es c=none:=by
      unfold zV;rw[List.find?_eq_none];intro y Z;simp only[Bool.and_eq_true,decide_eq_true_eq,not_and];intro yc M;rw[g.inj Z he (yc.trans h.symm)] at M;exact wr M
     rw[this,if_neg (λx=>wr x.2)];dsimp only;rw[u]
   ·rw[if_neg (λx=>v1 x.2),if_neg (λx=>v1 x.1)];rw[u]
  ·have G:¬(V (s.W c).ref=1/\e.wr=true):=λ⟨v1,wr⟩=>by
    rcases H.done _ _ hD v1 e he wr with x | x
    ·exact l x.2
    ·unfold qK at x;rw[h,u] at x;dsimp only at x;omega
   rw[if_neg G];have Q:(⟨(s.W c).v,(s.W c).aO,0⟩:W3)=⟨e.old.v,e.old.aO,0⟩:=by rw[u]
   cases E:Cu s.W who with
   | none=>exact Q
   | some x=>
    obtain⟨st,q',aS⟩:=x;dsimp only;obtain⟨F,A⟩:=PT E;dsimp only at F A;rw[if_neg]
    ·exact Q
    ·rintro⟨rfl,rfl⟩;obtain⟨v',q2,I⟩:=H.st who f.wh;rw[I.eq] at F A;dsimp only at F A;exact l (f.live.2 ⟨v',by omega,by rw[I.eq,<-A]⟩)
inductive GI (W W':Int->W3):Prop where
 | same:(∀who,bA who->¬∃q,W (aC who)=⟨0,q,0⟩/\W' (aC who)=⟨1,q,0⟩)->(∀c,56<=c->c<62->qZ W' c=qZ W c)->GI W W'
 | swap (who q:Int) (es:List Et):bA who->W (aC who)=⟨0,q,0⟩->W' (aC who)=⟨1,q,0⟩->(∀w,bA w->(∃q,W (aC w)=⟨0,q,0⟩/\W' (aC w)=⟨1,q,0⟩)->w=who)->Good es->Cu W' who=some (1,q,es)->
   (∀e∈es,qZ W e.at'=⟨e.old.v,e.old.aO,0⟩)->(∀c,56<=c->c<62->qZ W' c=ux es (qZ W) c)->GI W W'
 | one (c0 v:Int):56<=c0->c0<62->(∀who,bA who->¬∃q,W (aC who)=⟨0,q,0⟩/\W' (aC who)=⟨1,q,0⟩)->qZ W' c0=⟨v,(qZ W c0).aO+1,0⟩->(∀c,56<=c->c<62->¬c=c0->qZ W' c=qZ W c)->GI W W'
def Sx.Vi {A:Int->Prop} (H:SI D V N s) (X:Sx A t D V O N s D' V' O' s'):GI s.W s'.W:=by
 have e:∀c,56<=c->c<62->qZ s.W c=yO D V s c:=λc h1 h2=>Hh H h1 h2;have h:∀c,56<=c->c<62->qZ s'.W c=yO D' V' s' c:=λc h1 h2=>Hh X.si h1 h2;cases X.lg with
 | same h1 h2=>exact .same h1 λc a b=>by rw[h c a b,e c a b,h2 c a b]
 | swap who q es hw F h1 h2 u g G J K=>
  have B:q<1000000:=by
   obtain⟨v,M,I⟩:=H.st who hw;have:=I.eq.symm.trans h1;simp only[W3.mk.injEq] at this;have:=I.qr;have:=H.nN;omega
  refine .swap who q es hw h1 h2 u g (KX g hw (by omega) ⟨F,B⟩ h2 G) (λx E=>?_) λc a b=>?_
  ·have:=g.pl x E;rw[e _ this.1 this.2,J x E]
  ·rw[h c a b,K c a b];unfold ux;split
   ·split
    ·rfl
    ·exact(e c a b).symm
   ·exact(e c a b).symm
 | one L v a b h1 h2 u=>exact .one L v a b h1 (by rw[h _ a b,e _ a b,h2]) λc x y z=>by rw[h c x y,e c x y,u c x y z]
end
def TI (D:Dg) (V:Vg) (O:tq) (s:Sh) (t:Nat):CR->Prop:=Hj D V O s t
structure WI (m:Me) (ts:List CR) (N:Int):Prop where
 ex:∃D V O,SI D V N (sh m)/\BI D V O (sh m)/\∀(i:Nat) (x:CR),ts[i]?=some x->TI D V O (sh m) (i+1) x
 mw:Gg 512 m
 n0:1000<=N
 len:ts.length<=3
 lo:∀p,p<56->((sh m).W p).ref=0
section
variable {D D':Dg} {V V':Vg} {O O':tq} {N:Int} {s s':Sh} {t:Nat} {m m':Mj} {ts:List CR} {c:Cn} {a:Ac} {g:cP} {x:CR}
def TI.mono (H:SI D V N s) (R:zm t D V O s D' V' O' s') (q:1<=t/\t<=3) (h:TI D V O s t x):TI D' V' O' s' t x:=by
 obtain⟨c,a,d⟩:=x;cases d with
 | false=>exact qS.mono H R q h
 | true=>exact Rz.mono H R q h
def WI.step (I:WI m.me ts N) (J:N+1<1000000) (L:1<=t) (F:ts[t - 1]?=some (c,a,false)) (hs:xz m t a m' g) :
  WI m'.me (ts.set (t - 1) (cO c g)) (N+1)/\GI (sh m.me).W (sh m'.me).W/\∀p,p<56->(sh m'.me).W p=(sh m.me).W p:=by
 obtain⟨D,V,O,H,B,T⟩:=I.ex;have q:=(List.getElem?_eq_some_iff.1 F).1;have K:=I.len;have h:1<=t/\t<=3:=by omega
 have E:=hs.T0 I.mw h;have y:=T _ _ F;rw[show t - 1+1=t by omega] at y;obtain⟨D',V',O',A,X,z⟩:=qS.step H J I.n0 B h y E;refine⟨⟨⟨D',V',O',X.si,X.bi,λi x hi=>?_⟩,hs.VD I.mw,by have:=I.n0; omega,by rw[List.length_set]; exact K,λp G=>by rw[X.lo p G]; exact I.lo p G⟩,X.Vi H,X.lo⟩;rw[List.getElem?_set] at hi;by_cases e:t - 1=i
 ·rw[if_pos e,if_pos q] at hi;cases hi
  rw[<-e,show t - 1+1=t by omega];exact z
 ·rw[if_neg e] at hi;have:=(List.getElem?_eq_some_iff.1 hi).1;exact(T i x hi).mono H (X.rl (u:=i+1) (by omega) (by omega) h) (by omega)
def SI.start (q:∀who,bA who->s.W (aC who)=⟨2,0,0⟩) (u:∀c,56<=c->c<62->(s.W c).ref=0/\(s.W c).aO=0/\xB (s.W c).v):SI (λ_=>none) (λ_=>0) 1000 s:=
 ⟨λwho hw=>⟨2,0,q who hw,by decide,by decide,λ_=>rfl,λh=>(by omega),λB _ es h=>(by cases h)⟩,λr es h=>(by cases h),λr es h=>(by cases h),λc h1 h2 A=>absurd (u c h1 h2).1 A,λr es h=>(by cases h),λr es h=>(by cases h),λc h1 h2=>(by rw[(u c h1 h2).2.1]; decide),by decide,λc h1 h2=>(u c h1 h2).2.2⟩
def PY:∀i,i<4->mR 0 (2 ^ i)=0:=by
 intro i hi;match i,hi with
 | 0,_=>decide
 | 1,_=>decide
 | 2,_=>decide
 | 3,_=>decide
def BI.start (u:s.W 376=W0):BI (λ_=>none) (λ_=>0) (λ_=>0) s:=
 ⟨⟨0,0,u,by decide,λi hi=>⟨λ_=>rfl,λ_=>PY i hi⟩⟩,λi _ _ q es _ h=>(by cases h),λi _=>(by decide),λi j _ _ h=>absurd rfl h⟩
def CG {ws:List W3} {i:Nat} {w:W3} (h:ws[i]?=some w):(Me.new 3 ws).at i=[⟨w,λ_=>0⟩]:=by
 unfold Me.at Me.new;dsimp only;rw[List.getD_eq_getElem?_getD,List.getElem?_map,h]; rfl
def SX {ws:List W3} {i:Nat} {w:W3} (h:ws[i]?=some w):(sh (Me.new 3 ws)).W i=w:=by
 rw[Qv];unfold Me.top;rw[CG h]; rfl
def WI.start {ws:List W3} {first:List Int} {k:Nat} {du:Bool} {opss:List (List iZ)} (hw:BW (sK first k) ws) (R:k<=6) (T:∀z∈first,-128<=z/\z<=127) (U:opss.length<=3)
  (ho:∀ops∈opss,ops.length<=8/\∀o∈ops,FW o):WI (Me.new 3 ws) (opss.mapIdx λi ops=>cO (yW du i ops) kq) 1000:=by
 obtain⟨I0,J,B⟩:=MI.start R T;have X:∀j:Nat,j<512->(sh (Me.new 3 ws)).W j=sK first k j:=λj H=>SX (hw.2 j H)
 have u:∀p:Int,0<=p->p<512->(sh (Me.new 3 ws)).W p=sK first k p.toNat:=λp h1 h2=>by
  have:=X p.toNat (by omega);rwa [Int.toNat_of_nonneg h1] at this
 have E:∀who,bA who->(sh (Me.new 3 ws)).W (aC who)=⟨2,0,0⟩:=λwho F=>by
  have Q:=cY F;rw[u _ (by omega) (by omega)];unfold sK N5 ML;rw[if_neg (by omega)];rcases Q with ⟨h1,h2,e⟩| ⟨h1,h2,e⟩
  ·rw[if_neg (by omega),if_pos (by omega)]
  ·rw[if_pos (by omega)]
 have G:∀j,j<512->(sK first k j).aO=0\/¬(56<=j/\j<62):=λj _=>by
  by_cases h:56<=j/\j<62
  ·left;unfold sK N5 ML;split
   ·rfl
   ·rw[if_neg (by omega),if_neg (by omega),if_neg (by omega)]
  ·exact .inr h
 have Z:∀c,56<=c->c<62->((sh (Me.new 3 ws)).W c).ref=0/\((sh (Me.new 3 ws)).W c).aO=0/\xB ((sh (Me.new 3 ws)).W c).v:=λc h1 h2=>by
  rw[u c (by omega) (by omega)];refine⟨B _,?_,(J _).v⟩;rcases G c.toNat (by omega) with h | h
  ·exact h
  ·omega
 refine⟨⟨_,_,_,SI.start E Z,BI.start ?_,λi x A=>?_⟩,⟨List.length_replicate,by show(ws.map _).length=_; rw[List.length_map]; exact hw.1,λi hi=>?_,λf K j H=>?_,λi hi x A j H=>?_⟩,by decide,by rw[List.length_mapIdx]; exact U,λp Q=>?_⟩
 ·rw[u 376 (by decide) (by decide)];show sK first k 376=W0
  unfold sK;rw[if_neg (by omega)]; rfl
 ·rw[List.getElem?_mapIdx] at A;cases hi:opss[i]? with
  | none=>rw[hi] at A; cases A
  | some ops=>
   rw[hi] at A;simp only[Option.map_some,Option.some.injEq] at A;subst A;obtain⟨h8,L⟩:=ho ops (List.mem_of_getElem? hi);have aS:=(List.getElem?_eq_some_iff.1 hi).1;refine zK (c:=yW du i ops) ⟨rfl,rfl,L,(by show(0:Int)<=0/\(0:Int)+(ops.length:Nat)<=100; omega),h8⟩ (by omega) rfl ⟨λq es _ h=>(by cases h),2,0,E _ (eS (by omega)),Int.le_refl _⟩ (λj H e=>?_) (λw M=>by cases M) (.inl rfl);have e:(0:Nat)=i+1:=e;omega
 ·rw[CG (hw.2 i hi)]; exact Nat.le_refl _
 ·rw[List.eq_of_mem_replicate K];show(0:Int)<=_;omega
 ·rw[CG (hw.2 i hi),List.mem_singleton] at A;subst A;show(0:Int)<=_;omega
 ·by_cases h:0<=p
  ·rw[u p h (by omega)]; exact B _
  ·unfold sh;dsimp only;rw[if_neg h]
end
def dM (W:Int->W3) (h:Hs):Nat:=
 match h.nx with
 | .begin=>0
 | .first=>180
 | .dE=>179
 | .fA=>81+(97 - h.ws.length)
 | .checked=>80
 | .cU=>43+6*(6 - h.i)
 | .again=>42+6*(6 - h.i)+(if (W (hE h).at').ref=h.met.ref then 0 else 200)
 | .dH=>44+6*(6 - h.i)
 | .bR=>45+6*(6 - h.i)
 | .dX=>(if h.bh=some .settle then 31 else 2)+(7 - h.i)
 | .settle=>30
 | .gC=>29
 | .bQ=>28
 | .cJ=>27
 | .known=>26
 | .found=>12+2*(6 - h.i)
 | .kS=>11+2*(6 - h.i)
 | .through=>1
def Ll (W:Int->W3) (b:Option Int) (h:Hs) (c:Int):Prop:=
 match h.nx with
 | .begin | .first | .dE | .fA | .checked=>b=some c
 | .cU | .dH=>b=some c\/∃(j:Nat) (e:Et),j<h.i/\h.es[j]?=some e/\e.at'=c
 | .again=>(b=some c/\(W h.at'=⟨0,h.seq,0⟩->c<(hE h).at'))\/∃(j:Nat) (e:Et),j<h.i/\h.es[j]?=some e/\e.at'=c
 | .bR=>(b=some c/\c<(hE h).at')\/∃(j:Nat) (e:Et),j<h.i/\h.es[j]?=some e/\e.at'=c
 | .dX=>h.bh=some .settle
 | .settle | .gC | .bQ | .cJ | .known=>True
 | .found | .kS=>∀(j:Nat) (e:Et),h.es[j]?=some e->e.at'=c->h.i<=j
 | .through=>False
def kZ (W:Int->W3) (b:Option Int) (h:Hs) (c:Int):Prop:=((W c).ref=h.ref/\Ll W b h c)\/(h.nx=.dH/\c=(hE h).at'/\W c=h.met)
def J5 (W W':Int->W3) (b:Option Int) (h:Hs):HR->Prop
 | (h',_,false)=>h'.ref=h.ref/\dM W' h'<dM W h/\∀c,56<=c->c<62->¬(W' c).ref=0->kZ W' b h' c\/(W' c=W c/\¬kZ W b h c)
 | (h',_,true)=>h'.ref=h.ref/\1<=dM W h/\∀c,56<=c->c<62->¬(W' c).ref=0->(b=some c/\(W' c).ref=h.ref/\h'.aO=4)\/(W' c=W c/\¬kZ W b h c)
section
variable {D D':Dg} {V V':Vg} {N:Int} {s s':Sh} {t:Nat} {r:Int} {es:List Et} {e:Et} {h h':Hs} {a:Ac} {g:cP} {W W':Int->W3} {b:Option Int} {c:Int}
def DM:dM W (bD h).1<=28:=by
 unfold bD gP eF;split
 ·exact Nat.le_refl 28
 ·show 26<=28; omega
def Dr (q:(W c).ref=h.ref):kZ W b (bD h).1 c:=by
 unfold bD gP eF;split
 ·exact .inl ⟨q,trivial⟩
 ·exact .inl ⟨q,trivial⟩
def GK (q:(W c).ref=h.ref):kZ W b (iM h).1 c:=.inl ⟨q,trivial⟩
def Af {z:Int} (q:¬h.es.length=0):dM W (cD h z).1<=37:=by
 unfold cD;split
 ·unfold eX bG eF;rw[if_neg (show ¬0=h.es.length by omega)];exact Nat.le_refl 37
 ·show 29<=37; omega
def zx {z:Int} (u:¬h.es.length=0) (q:(W c).ref=h.ref):kZ W b (cD h z).1 c:=by
 unfold cD;split
 ·unfold eX bG eF;rw[if_neg (show ¬0=h.es.length by omega)];exact .inl ⟨q,rfl⟩
 ·exact GK q
def xQ (q:1<=h.es.length/\h.es.length<=6) (hi:h.i<=h.es.length):dM W (aW h).1<=43+6*(6 - h.i):=by
 unfold aW;split
 ·have:=Af (W:=W) (h:=h) (z:=1) (by omega);omega
 ·exact Nat.le_refl _
def xW (A:1<=h.es.length) (q:(W c).ref=h.ref) (u:b=some c\/∃(j:Nat) (e:Et),j<h.i/\h.es[j]?=some e/\e.at'=c):kZ W b (aW h).1 c:=by
 unfold aW;split
 ·exact zx (by omega) q
 ·exact .inl ⟨q,u⟩
def KA (hw:h.ws.length<=96):dM W (fM h).1<=81+(97 - h.ws.length):=by
 unfold fM gP eF;split
 ·show 80<=_; omega
 ·exact Nat.le_refl _
def KN (q:(W c).ref=h.ref) (u:b=some c):kZ W b (fM h).1 c:=by
 unfold fM gP eF;split
 ·exact .inl ⟨q,u⟩
 ·exact .inl ⟨q,u⟩
def CD (L:1<=h.es.length/\h.es.length<=6) (hi:h.i<=h.es.length) {k:Nat} (G:12+2*(6 - h.i)<k) (H:8<k) (u:dM W h'=k) (B:h.ref=h'.ref)
  (A:∀c,56<=c->c<62->(W' c).ref=h.ref->∃(j:Nat) (e:Et),h.es[j]?=some e/\e.at'=c)
  (E:∀c,56<=c->c<62->¬(W' c).ref=0->((W' c).ref=h.ref/\∀(j:Nat) (e:Et),h.es[j]?=some e->e.at'=c->h.i<=j)\/(W' c=W c/\¬kZ W b h' c)):J5 W W' b h' (ke h):=by
 unfold ke;by_cases e:h.i<h.es.length
 ·rw[if_pos e];refine⟨B,?_,λc h1 h2 q=>?_⟩
  ·rw[u]; exact G
  ·rcases E c h1 h2 q with ⟨x,y⟩| x
   ·exact .inl (.inl ⟨x,y⟩)
   ·exact .inr x
 ·rw[if_neg e];have gone:∀c,56<=c->c<62->¬(W' c).ref=0->W' c=W c/\¬kZ W b h' c:=λc h1 h2 q=>by
   rcases E c h1 h2 q with ⟨x,y⟩| x
   ·obtain⟨j,J,F,K⟩:=A c h1 h2 x;have:=y j J F K;have:=(List.getElem?_eq_some_iff.1 F).1;omega
   ·exact x
  by_cases d:h.cH=true
  ·rw[if_pos d];unfold eX bG eF;rw[if_neg (show ¬0=h.es.length by omega)];refine⟨B,?_,λc h1 h2 q=>.inr (gone c h1 h2 q)⟩;rw[u];show(if some HK.through=some HK.settle then 31 else 2)+(7 - 1)<k;rw[if_neg (by decide)]; omega
  ·rw[if_neg d];exact⟨B,by omega,λc h1 h2 q=>.inr (gone c h1 h2 q)⟩
def zG (A:W'=W) (q:h.nx=.first\/h.nx=.dE\/h.nx=.checked):J5 W W' b h (nM h 4):=by
 subst A;refine⟨rfl,?_,λc h1 E F=>?_⟩
 ·unfold dM;rcases q with e | e | e <;> rw[e] <;> dsimp only <;> omega
 ·by_cases x:kZ W' b h c
  ·left;rcases x with ⟨B,u⟩| ⟨x,_⟩
   ·refine⟨?_,B,rfl⟩;unfold Ll at u;rcases q with e | e | e <;> rw[e] at u <;> exact u
   ·rcases q with e | e | e <;> rw[e] at x <;> cases x
  ·exact .inr ⟨rfl,x⟩
def ma (q:¬h.nx=.dH) (x:kZ W b h c):(W c).ref=h.ref/\Ll W b h c:=x.resolve_right λy=>q y.1
def D4:bD h=((bD h).1,(bD h).2.1,false)/\(bD h).1.ref=h.ref:=by
 unfold bD gP eF;split <;> exact⟨rfl,rfl⟩
def zA {z:Int}:cD h z=((cD h z).1,(cD h z).2.1,false)/\(cD h z).1.ref=h.ref:=by
 unfold cD eX bG iM eF;split
 ·split <;> exact⟨rfl,rfl⟩
 ·exact⟨rfl,rfl⟩
def xN:aW h=((aW h).1,(aW h).2.1,false)/\(aW h).1.ref=h.ref:=by
 unfold aW eF;split
 ·exact zA
 ·exact⟨rfl,rfl⟩
def Mi:fM h=((fM h).1,(fM h).2.1,false)/\(fM h).1.ref=h.ref:=by
 unfold fM gP eF;split <;> exact⟨rfl,rfl⟩
def M4 (W W':Int->W3) (b:Option Int) (h:Hs) (P:Int->Prop):Prop:=∀c,56<=c->c<62->¬(W' c).ref=0->((W' c).ref=h.ref/\P c)\/(W' c=W c/\¬kZ W b h c)
def gZ {P:Int->Prop} (q:W'=W) (u:¬h.nx=.dH) (A:∀c,Ll W b h c->P c):M4 W W' b h P:=λc h1 h2 F=>by
 subst q;by_cases x:kZ W' b h c
 ·obtain⟨B,E⟩:=ma u x;exact .inl ⟨B,A c E⟩
 ·exact .inr ⟨rfl,x⟩
section
variable {h2:Hs} {P:Int->Prop}
def tV (e:h2.ref=h.ref) (E:28<dM W h) (q:M4 W W' b h P):J5 W W' b h (bD h2):=by
 obtain⟨u,A⟩:=D4 (h:=h2);rw[u];refine⟨A.trans e,?_,λc h1 h2 B=>(q c h1 h2 B).imp_left λx=>Dr (x.1.trans e.symm)⟩;have:=DM (W:=W') (h:=h2);omega
def I1 {z:Int} (e:h2.ref=h.ref) (q:¬h2.es.length=0) (F:37<dM W h) (u:M4 W W' b h P):J5 W W' b h (cD h2 z):=by
 obtain⟨A,B⟩:=zA (h:=h2) (z:=z);rw[A];refine⟨B.trans e,?_,λc h1 h2 E=>(u c h1 h2 E).imp_left λx=>zx q (x.1.trans e.symm)⟩;have:=Af (W:=W') (h:=h2) (z:=z) q;omega
def uz (e:h2.ref=h.ref) (q:1<=h2.es.length/\h2.es.length<=6) (hi:h2.i<=h2.es.length) (F:43+6*(6 - h2.i)<dM W h)
  (u:M4 W W' b h λc=>b=some c\/∃(j:Nat) (e:Et),j<h2.i/\h2.es[j]?=some e/\e.at'=c):J5 W W' b h (aW h2):=by
 obtain⟨A,B⟩:=xN (h:=h2);rw[A];refine⟨B.trans e,?_,λc h1 h2 E=>(u c h1 h2 E).imp_left λx=>xW q.1 (x.1.trans e.symm) x.2⟩;have:=xQ (W:=W') (h:=h2) q hi;omega
def Ha (e:h2.ref=h.ref) (hw:h2.ws.length<=96) (E:81+(97 - h2.ws.length)<dM W h) (q:M4 W W' b h λc=>b=some c):J5 W W' b h (fM h2):=by
 obtain⟨u,A⟩:=Mi (h:=h2);rw[u];refine⟨A.trans e,?_,λc h1 h2 B=>(q c h1 h2 B).imp_left λx=>KN (x.1.trans e.symm) x.2⟩;have:=KA (W:=W') (h:=h2) hw;omega
def r7 {q:Ac} (e:h2.ref=h.ref) (u:dM W' h2<dM W h) (A:M4 W W' b h (Ll W' b h2)):J5 W W' b h (h2,q,false):=
 ⟨e,u,λc h1 h2 B=>(A c h1 h2 B).imp_left λx=>.inl ⟨x.1.trans e.symm,x.2⟩⟩
def GC (e:h2.ref=h.ref) (hi:h2.i<=h2.es.length/\h2.es.length<=6) (B:h2.bh=some .settle\/h2.bh=some .through) (u:(if h2.bh=some .settle then 31 else 2)+(7 - h2.i)=dM W h)
  (A:M4 W W' b h λ_=>h2.bh=some .settle):J5 W W' b h (bG h2):=by
 unfold bG;split
 ·refine r7 e ?_ λc h1 h2 q=>(A c h1 h2 q).imp_left λx=>⟨x.1,?_⟩
  ·rw[<-u];rcases B with y | y <;> rw[y]
   ·show 30<31+_; omega
   ·rw[if_neg (by decide)];show 1<2+_; omega
  ·rw[x.2]; trivial
 ·refine r7 e ?_ λc h1 h2 q=>(A c h1 h2 q).imp_left λx=>⟨x.1,x.2⟩;rw[<-u];show(if h2.bh=some .settle then 31 else 2)+(7 - (h2.i+1))<_;omega
end
def HL.alone (H:SI D V N s) (x:HL D V s t h a) (E:pr t s s' a g) (hp:h.nx=.again->¬g.w=⟨0,h.seq,0⟩):J5 s.W s'.W b h (dG h g):=by
 obtain⟨h0,es,hD,x⟩:=x;obtain⟨who,q,f,iS,gd⟩:=H.rf hD;have gl:=gd.len;have oF:=H.nN;have T:∀c,56<=c->c<62->(s.W c).ref=h.ref->∃(j:Nat) (e:Et),es[j]?=some e/\e.at'=c:=λc h1 h2 h3=>by
  have aS:=f.pos;obtain⟨oR,e',J,K,A,_⟩:=H.cell c h1 h2 (by omega);rw[h3,hD] at J;cases J
  obtain⟨j,hj,rfl⟩:=List.mem_iff_getElem.1 K;exact⟨j,_,List.getElem?_eq_getElem hj,A⟩
 have U:∀{k:HK},h.nx=k->∀c,Ll s.W b h c->Ll s.W b {h with nx:=k} c:=λ{k} e c y=>by
  subst e; exact y
 unfold dG;cases u:h.nx with
 | bR=>rw[u] at x; exact x.elim
 | begin=>rw[u] at x; exact x.elim
 | first=>
  rw[u] at x;obtain⟨B,R,rfl⟩:=x;obtain⟨G,_,rfl⟩:=E.bH;dsimp only;split
  ·exact zG (fK G) (.inl u)
  ·exact r7 rfl (by unfold dM; rw[u]; exact Nat.le_refl _) (gZ (fK G) (by rw[u]; simp) λc y=>(U u c y:b=some c))
 | dE=>
  rw[u] at x;obtain⟨B,R,rfl,L⟩:=x;obtain⟨G,_⟩:=E.IE;dsimp only;unfold j9;split
  ·exact zG (fK G) (.inr (.inl u))
  ·have rW:h.ws.length=0:=by rw[R]; rfl
   have X:dM s.W h=179:=by unfold dM; rw[u]
   exact Ha (h2:={h with many:=g.w.v.toNat}) rfl (by dsimp only; omega) (by dsimp only; omega) (gZ (fK G) (by rw[u]; simp) (U u))
 | fA=>
  rw[u] at x;obtain⟨B,R,rfl,L⟩:=x;obtain⟨G,_⟩:=E.IE;have dO:=L.many;have X:dM s.W h=81+(97 - h.ws.length):=by unfold dM; rw[u]
  exact Ha (h2:={h with ws:=h.ws++[g.w]}) rfl (by dsimp only; rw[List.length_append,List.length_singleton]; omega) (by dsimp only; rw[List.length_append,List.length_singleton]; omega) (gZ (fK G) (by rw[u]; simp) (U u))
 | checked=>
  rw[u] at x;obtain⟨B,R,rfl,L⟩:=x;obtain⟨G,q2,rfl⟩:=E.bH;dsimp only;have X:dM s.W h=80:=by unfold dM; rw[u]
  unfold gJ;by_cases l:oX h (s.W h.at')=true
  ·rw[if_pos l];exact zG (fK G) (.inr (.inr u))
  ·rw[if_neg l];have ly:Live s h.ref:=by
    rw[vg rfl];exact Classical.not_not.1 λy=>l ((sN h).2 y)
   obtain⟨w1,w2⟩:=L.ws ly;have tO:=sC es;rw[List.take_of_length_le (by omega)] at w2;rw[show pV h.ws []=some es by rw[w2]; exact gd.unpack];dsimp only;have Z:=gZ (b:=b) (h:=h) (P:=λc=>b=some c) (fK G) (by rw[u]; simp) (U u);split
   ·exact tV rfl (by omega) Z
   ·exact uz (h2:={h with es:=es}) rfl gl (by show h.i<=_; omega) (by dsimp only; omega) λc J K A=>(Z c J K A).imp_left λy=>⟨y.1,.inl y.2⟩
 | cU=>
  rw[u] at x;obtain⟨B,R,e,L,rfl⟩:=x;have hm:=List.mem_of_getElem? L;have hi:=(List.getElem?_eq_some_iff.1 L).1;have hh:rz h=⟨e.old.v,e.old.aO,h.ref⟩:=by unfold rz; rw[lN B rfl L]
  have X:dM s.W h=43+6*(6 - h.i):=by unfold dM; rw[u]
  have hle:∀c,(b=some c\/∃(j:Nat) (e:Et),j<h.i/\h.es[j]?=some e/\e.at'=c)->b=some c\/∃(j:Nat) (e:Et),j<h.i+1/\h.es[j]?=some e/\e.at'=c:=λc y=>y.imp_right λ⟨j,e,M,F⟩=>⟨j,e,by omega,F⟩;have hn:¬h.nx=.dH:=by rw[u]; simp
  have aT:M4 s.W s'.W b h (λc=>b=some c\/∃(j:Nat) (e:Et),j<h.i+1/\h.es[j]?=some e/\e.at'=c)->J5 s.W s'.W b h (aW {h with i:=h.i+1}):=λZ=>
   uz (h2:={h with i:=h.i+1}) rfl (by rw[B]; exact gl) (by show h.i+1<=h.es.length; rw[B]; exact hi) (by dsimp only; omega) Z
  dsimp only;unfold fJ;rcases E.kH with ⟨M,rfl,F,_⟩| ⟨M,rfl,F⟩
  ·rw[if_pos (.inl rfl)];refine aT λc J K A=>?_;by_cases ce:c=e.at'
   ·subst ce;rw[F.self];exact .inl ⟨rfl,.inr ⟨h.i,e,by omega,by rw[B]; exact L,rfl⟩⟩
   ·rw[F.ne ce] at A⊢;by_cases z:kZ s.W b h c
    ·obtain⟨O,Q⟩:=ma hn z;exact .inl ⟨O,hle c (U u c Q)⟩
    ·exact .inr ⟨rfl,z⟩
  ·have Z:∀{P:Int->Prop},(∀c,Ll s.W b h c->P c)->M4 s.W s'.W b h P:=λhc=>gZ (fK F) hn hc;dsimp only;rw[hh];by_cases z:s.W e.at'=⟨e.old.v,e.old.aO,h.ref⟩
   ·rw[if_pos (.inr z)];exact aT (Z λc y=>hle c (U u c y))
   ·rw[if_neg (λw=>w.elim (λw=>by cases w) z)];split
    ·refine r7 (h2:={h with met:=s.W e.at',nx:=.again}) rfl ?_ λc J K A=>?_;rotate_left
     ·rw[F.1] at A;rw[F.1];by_cases zz:kZ s.W b h c
      ·obtain⟨O,Q⟩:=ma hn zz;refine .inl ⟨O,?_⟩;rcases U u c Q with z3 | z3
       ·refine .inl ⟨z3,λso=>?_⟩;rw[lN (h:={h with met:=s.W e.at',nx:=.again}) B rfl L];rw[fK F] at so;have so:s.W h.at'=⟨0,h.seq,0⟩:=so;have bY:h.at'=aC who:=by unfold Hs.at'; rw[f.w]
        have eQ:h.seq=q:=f.sq;rw[bY,eQ] at so;obtain⟨I,_⟩:=H.live f hD (f.live.2 ⟨0,by omega,so⟩);have v0:V h.ref=0:=by
         have:=I.eq.symm.trans so;simp only[W3.mk.injEq] at this;exact this.1
        obtain⟨j,e',j1,j2⟩:=T c J K O;have hH:dC s h.ref e':=H.Di hD (List.mem_of_getElem? j1) (by rw[j2]; exact O);rcases Nat.lt_trichotomy j h.i with cc | cc | cc
        ·rw[<-j2]; exact gd.B9 j h.i _ _ cc j1 L
        ·subst cc;rw[L] at j1;cases j1
         exact absurd hH z
        ·exact absurd (H.ord h.ref es hD v0 h.i j _ _ cc L j1 hH) z
       ·exact .inr z3
      ·exact .inr ⟨rfl,zz⟩
     rw[X];have:dM s'.W {h with met:=s.W e.at',nx:=.again}=42+6*(6 - h.i):=by
      show 42+6*(6 - h.i)+(if (s'.W (hE {h with met:=s.W e.at',nx:=.again}).at').ref=(s.W e.at').ref then 0 else 200)=_;rw[lN (h:={h with met:=s.W e.at',nx:=.again}) B rfl L,F.1,if_pos rfl,Nat.add_zero]
     omega
    ·exact I1 (P:=λ_=>True) rfl (by rw[B]; omega) (by omega) (Z λ_ _=>trivial)
 | again=>
  rw[u] at x;obtain⟨B,R,e,L,rfl,x4⟩:=x;obtain⟨G,_,rfl⟩:=E.bH;have hi:=(List.getElem?_eq_some_iff.1 L).1;exact tV (P:=λ_=>True) rfl (by unfold dM; rw[u]; dsimp only; omega) (gZ (fK G) (by rw[u]; simp) λ_ _=>trivial)
 | dH=>
  rw[u] at x;obtain⟨B,R,e,L,rfl,x4,x5⟩:=x;have hi:=(List.getElem?_eq_some_iff.1 L).1;have X:dM s.W h=44+6*(6 - h.i):=by unfold dM; rw[u]
  have iF:hE h=e:=lN B rfl L;refine uz (h2:=h) rfl (by rw[B]; exact gl) (by rw[B]; omega) (by omega) λc J K A=>?_;by_cases z:kZ s.W b h c
  ·rcases z with ⟨O,Q⟩| ⟨_,Q,z3⟩
   ·rcases E.kH with ⟨M,_,F,_⟩| ⟨M,_,F⟩
    ·by_cases ce:c=e.at'
     ·subst ce;rw[F.self] at A;exact absurd rfl A
     ·rw[F.ne ce];exact .inl ⟨O,U u c Q⟩
    ·rw[F.1];exact .inl ⟨O,U u c Q⟩
   ·rw[iF] at Q;subst Q;rcases E.kH with ⟨M,_,F,_⟩| ⟨M,_,F⟩
    ·rw[F.self] at A;exact absurd rfl A
    ·exact absurd z3 M
  ·rcases E.kH with ⟨M,_,F,_⟩| ⟨M,_,F⟩
   ·by_cases ce:c=e.at'
    ·subst ce;rw[F.self] at A;exact absurd rfl A
    ·exact .inr ⟨F.ne ce,z⟩
   ·exact .inr ⟨F.1 c,z⟩
 | dX=>
  rw[u] at x;obtain⟨B,⟨e,M,F,rfl⟩,L⟩:=x;have G:=E.fN (.inl rfl);have hi:=(List.getElem?_eq_some_iff.1 F).1;refine GC (h2:=h) rfl (by rw[B]; omega) (L.imp (λy=>y.1) λy=>y.1) (by unfold dM; rw[u]) (gZ (fK G) (by rw[u]; simp) (U u))
 | settle=>
  rw[u] at x;obtain⟨B,rfl,R,L⟩:=x;have G:=E.fN (.inr rfl);exact r7 rfl (by unfold dM; rw[u]; exact Nat.le_refl _) (gZ (fK G) (by rw[u]; simp) λ_ _=>trivial)
 | gC=>
  rw[u] at x;obtain⟨B,rfl,R⟩:=x;have uS:=cY f.wh;have bY:h.at'=aC who:=by unfold Hs.at'; rw[f.w]
  have hW:∀c,56<=c->c<62->s'.W c=s.W c:=λc J K=>by
   rcases E.kH with ⟨_,_,F,_⟩| ⟨_,_,F⟩
   ·exact F.ne (by omega)
   ·exact F.1 c
  refine tV (P:=λ_=>True) rfl (by unfold dM; rw[u]; exact Nat.le_refl _) λc J K A=>?_;rw[hW c J K];by_cases z:kZ s.W b h c
  ·exact .inl ⟨(ma (by rw[u]; simp) z).1,trivial⟩
  ·exact .inr ⟨rfl,z⟩
 | bQ=>
  rw[u] at x;obtain⟨B,rfl,R⟩:=x;have G:=E.fN (.inl rfl);exact r7 rfl (by unfold dM; rw[u]; exact Nat.le_refl _) (gZ (fK G) (by rw[u]; simp) λ_ _=>trivial)
 | cJ=>
  rw[u] at x;obtain⟨B,rfl,R⟩:=x;have G:=E.fN (.inr rfl);exact r7 rfl (by unfold dM; rw[u]; exact Nat.le_refl _) (gZ (fK G) (by rw[u]; simp) λ_ _=>trivial)
 | known=>
  rw[u] at x;obtain⟨B,rfl,R⟩:=x;obtain⟨G,_,rfl⟩:=E.bH;have X:dM s.W h=26:=by unfold dM; rw[u]
  dsimp only;unfold rY;refine CD (k:=26) (by rw[B]; exact gl) (Nat.zero_le _) (by show 12+2*(6 - 0)<26; decide) (by decide) X rfl (λc J K A=>?_) λc J K A=>?_
  ·rw[G.1] at A;rw[B]; exact T c J K A
  ·exact(gZ (b:=b) (P:=λ_=>True) (fK G) (by rw[u]; simp) (λ_ _=>trivial) c J K A).imp_left λy=>⟨y.1,λ_ _ _ _=>Nat.zero_le _⟩
 | found=>
  rw[u] at x;obtain⟨B,R,L,e,x4,rfl⟩:=x;obtain⟨G,_,rfl⟩:=E.bH;have hm:=List.mem_of_getElem? x4;have hi:=(List.getElem?_eq_some_iff.1 x4).1;have X:dM s.W h=12+2*(6 - h.i):=by unfold dM; rw[u]
  have gv:=gd.aO e hm;have Z:=gZ (b:=b) (h:=h) (P:=λc=>∀(j:Nat) (e:Et),h.es[j]?=some e->e.at'=c->h.i<=j) (fK G) (by rw[u]; simp) (U u);dsimp only;unfold pj;rw[lN B rfl x4];by_cases c0:(s.W e.at').ref=h.ref
  ·have hw:=H.Di hD hm c0;unfold dC at hw;have iN:(s6 (s.W e.at') e.new (e.wr&&decide (h.aO=1))).2=0:=by
    rw[hw];unfold s6;rw[if_neg (by rw[BF H hD]; simp),if_neg (by dsimp only; omega)];split <;> rfl
   rw[if_pos ⟨c0,iN⟩];exact r7 rfl (by rw[X]; show 11+2*(6 - h.i)<_; omega) Z
  ·rw[if_neg (λy=>c0 y.1)];unfold lV;refine CD (h:={h with i:=h.i+1}) (by dsimp only; rw[B]; exact gl) (by dsimp only; rw[B]; exact hi) (by dsimp only; omega) (by omega) X rfl (λc J K A=>?_) λc J K A=>?_
   ·rw[G.1] at A;dsimp only at A⊢;rw[B]; exact T c J K A
   ·refine(Z c J K A).imp_left λy=>⟨y.1,λj e' O Q=>?_⟩;have h5:=y.2 j e' O Q;have:¬j=h.i:=λej=>by
     subst ej;have O:h.es[h.i]?=some e':=O;rw[B,x4] at O;cases O
     apply c0;rw[Q,<-G.1 c];exact y.1
    show h.i+1<=j;omega
 | kS=>
  rw[u] at x;obtain⟨B,R,L,e,x4,rfl⟩:=x;have hm:=List.mem_of_getElem? x4;have hi:=(List.getElem?_eq_some_iff.1 x4).1;have X:dM s.W h=11+2*(6 - h.i):=by unfold dM; rw[u]
  have hW:∀c,56<=c->c<62->¬(s'.W c).ref=0->s'.W c=s.W c/\(c=e.at'->¬(s.W c).ref=h.ref):=λc J K A=>by
   rcases E.kH with ⟨_,_,F,_⟩| ⟨M,_,F⟩
   ·by_cases ce:c=e.at'
    ·subst ce;rw[F.self] at A;exfalso;apply A;split <;> rfl
    ·exact⟨F.ne ce,λy=>absurd y ce⟩
   ·refine⟨F.1 c,λce cr=>M ?_⟩;subst ce;have hw:=H.Di hD hm cr;unfold dC at hw;exact hw
  dsimp only;unfold lV;refine CD (h:={h with i:=h.i+1}) (by dsimp only; rw[B]; exact gl) (by dsimp only; rw[B]; exact hi) (by dsimp only; omega) (by omega) X rfl (λc J K A=>?_) λc J K A=>?_
  ·have A:(s'.W c).ref=h.ref:=A;have aS:=f.pos;have a4:¬(s'.W c).ref=0:=by omega
   rw[(hW c J K a4).1] at A;dsimp only;rw[B]; exact T c J K A
  ·obtain⟨b1,b2⟩:=hW c J K A;by_cases z:kZ s.W b h c
   ·obtain⟨O,Q⟩:=ma (by rw[u]; simp) z;have Q:=U u c Q;left;rw[b1];refine⟨O,λj e' M F=>?_⟩;have h5:h.i<=j:=Q j e' M F;have:¬j=h.i:=λej=>by
     subst ej;have M:h.es[h.i]?=some e':=M;rw[B,x4] at M;cases M
     exact b2 F.symm O
    show h.i+1<=j;omega
   ·exact .inr ⟨b1,z⟩
 | through=>
  rw[u] at x;obtain⟨B,rfl,R,L⟩:=x;have G:=E.fN (.inr rfl);refine⟨rfl,by unfold dM; rw[u]; exact Nat.le_refl _,λc J K A=>.inr ⟨G.1 c,λz=>?_⟩⟩;exact U u c (ma (by rw[u]; simp) z).2
end
def Acc (W:Int->W3):Option Int->List Hs->Int->Prop
 | _,[],_=>False
 | b,h::r,c=>kZ W b h c\/Acc W (some (hE h).at') r c
def kN (W:Int->W3):List Hs->Nat
 | []=>0
 | h::r=>dM W h+kN W r
def C7 (W:Int->W3) (V:Vg) (O:List Int):List Hs->Prop
 | []=>True
 | [k]=>k.nx=.again->(W (hE k).at').ref=k.met.ref->V k.ref=0->(hE k).at'∈O
 | _::k::r=>C7 W V O (k::r)
def O8 (W W':Int->W3) (O q:List Int) (b:Option Int) (u:Int) (row:List Hs):List Hs × Ac × Bool->Prop
 | (hs,_,false)=>q.length<=O.length/\190*q.length+kN W' hs<190*O.length+kN W row/\∀c,56<=c->c<62->¬(W' c).ref=0->(c∈q\/Acc W' b hs c)\/(W' c=W c/\¬c∈O/\¬Acc W b row c)
 | (hs,_,true)=>q.length<=O.length/\190*q.length<190*O.length+kN W row/\∀c,56<=c->c<62->¬(W' c).ref=0->c∈q\/(b=some c/\(W' c).ref=u/\Dj hs=4)\/(W' c=W c/\¬c∈O/\¬Acc W b row c)
section
variable {D:Dg} {V V':Vg} {N:Int} {s s':Sh} {t:Nat} {r:Int} {es:List Et} {e:Et} {h:Hs} {a:Ac} {g:cP} {W W':Int->W3} {b:Option Int} {c:Int} {O:List Int}
def sQ:Acc W b [h] c↔kZ W b h c:=⟨λx=>x.resolve_right λy=>y,.inl⟩
def J5.row {x:HR} (y:J5 W W' b h x):O8 W W' O O b h.ref [h] ([x.1],x.2):=by
 obtain⟨h',E,d⟩:=x;cases d with
 | false=>
  obtain⟨A,B,q⟩:=y;refine⟨Nat.le_refl _,?_,λc h1 h2 u=>?_⟩
  ·show _+(dM W' h'+0)<_+(dM W h+0); omega
  ·by_cases m:c∈O
   ·exact .inl (.inl m)
   ·rcases q c h1 h2 u with z | z
    ·exact .inl (.inr (sQ.2 z))
    ·exact .inr ⟨z.1,m,λw=>z.2 (sQ.1 w)⟩
 | true=>
  obtain⟨A,B,q⟩:=y;refine⟨Nat.le_refl _,?_,λc h1 h2 u=>?_⟩
  ·show _<_+(dM W h+0); omega
  ·by_cases m:c∈O
   ·exact .inl m
   ·rcases q c h1 h2 u with z | z
    ·exact .inr (.inl z)
    ·exact .inr (.inr ⟨z.1,m,λw=>z.2 (sQ.1 w)⟩)
def sH {l:List Int} (h:c∈l):(l.erase c).length+1=l.length:=by
 have:=List.length_erase_of_mem h;have:=List.length_pos_of_mem h;omega
def uc {l:List Int} {x:Int} (h:x∈l) (n:¬x=c):x∈l.erase c:=(List.mem_erase_of_ne n).2 h
def jV.alone (H:SI D V N s) (S:SI D V' (N+1) s') (E:pr t s s' a g):∀{l:List Hs} {h:Hs} {b:Option Int},jV D V s t (h::l) a->C7 s.W V O (h::l)->
  ∃R,O8 s.W s'.W O R b h.ref (h::l) (bV (h::l) g)
 | [],h,b,x,hp=>by
  have x:HL D V s t h a:=x;have h0:=x.1;have hn:¬h.nx=.bR:=λe=>by
   obtain⟨_,es,_,z⟩:=x;rw[e] at z;exact z
  by_cases F:h.nx=.again
  ·by_cases z:g.w=⟨0,h.seq,0⟩
   ·rw[gL h0 F,if_neg (λy=>y z)];obtain⟨_,es,hD,x⟩:=x;rw[F] at x;obtain⟨x1,x2,e',x3,rfl,x4⟩:=x;obtain⟨q1,_,rfl⟩:=E.bH;have hi:=(List.getElem?_eq_some_iff.1 x3).1;obtain⟨who,q,f,_,gd⟩:=H.rf hD;have gl:=gd.len;have aS:h.at'=aC who:=by unfold Hs.at'; rw[f.w]
    have aT:h.seq=q:=f.sq;have Z:s.W h.at'=⟨0,h.seq,0⟩:=z;have v0:V h.ref=0:=by
     rw[aS,aT] at Z;obtain⟨I,_⟩:=H.live f hD (f.live.2 ⟨0,by omega,Z⟩);have:=I.eq.symm.trans Z;simp only[W3.mk.injEq] at this;exact this.1
    have hW:=fK q1;have r1:dM s.W h=42+6*(6 - h.i)+(if (s.W (hE h).at').ref=h.met.ref then 0 else 200):=by unfold dM; rw[F]
    have eQ:=of_decide_eq_true x4.sF;rw[hW];have fP:∀c,kZ s.W b h c->kZ s.W b {h with nx:=.bR} c:=λc y=>by
     obtain⟨Q,G⟩:=ma (by rw[F]; simp) y;unfold Ll at G;rw[F] at G;rcases G with G | G
     ·exact .inl ⟨Q,.inl ⟨G.1,G.2 Z⟩⟩
     ·exact .inl ⟨Q,.inr G⟩
    have T:∀c,c=(hE h).at'->(s.W c).ref=h.met.ref->kZ s.W (some (hE h).at') {Hs.new h.met.ref h.cH with nx:=.first} c:=λc e y=>.inl ⟨y,by rw[e]; rfl⟩;by_cases hm:(s.W (hE h).at').ref=h.met.ref
    ·have L:=hp F hm v0;refine⟨O.erase (hE h).at',by have:=sH L; omega,?_,λc h1 h2 M=>?_⟩
     ·have:=sH L;show 190*(O.erase (hE h).at').length+(45+6*(6 - h.i)+(180+0))<190*O.length+(dM s.W h+0);rw[r1,if_pos hm];omega
     ·by_cases ce:c=(hE h).at'
      ·left; right; right; left;exact T c ce (by rw[ce]; exact hm)
      ·by_cases m:c∈O
       ·exact .inl (.inl (uc m ce))
       ·by_cases y:kZ s.W b h c
        ·left; right; left;exact fP c y
        ·exact .inr ⟨rfl,m,λw=>y (sQ.1 w)⟩
    ·refine⟨O,Nat.le_refl _,?_,λc h1 h2 M=>?_⟩
     ·show 190*O.length+(45+6*(6 - h.i)+(180+0))<190*O.length+(dM s.W h+0);rw[r1,if_neg hm];omega
     ·by_cases m:c∈O
      ·exact .inl (.inl m)
      ·by_cases y:kZ s.W b h c
       ·left; right; left;exact fP c y
       ·exact .inr ⟨rfl,m,λw=>y (sQ.1 w)⟩
   ·rw[gL h0 F,if_pos z];have y:=(x.alone (b:=b) H E λ_=>z).row (O:=O);unfold dG at y;rw[F] at y;exact⟨O,y⟩
  ·rw[lS h0 F [] (.inl rfl)];exact⟨O,(x.alone (b:=b) H E λy=>absurd y F).row⟩
 | k::l,h,b,x,hp=>by
  obtain⟨⟨w,B9⟩,x⟩:=x;have w':=w;obtain⟨w1,w2,w3,es,e,w4,w5,w6,w7,w8⟩:=w;obtain⟨who,q,f,_,gd⟩:=H.rf w4;have gl:=gd.len;have hi:=(List.getElem?_eq_some_iff.1 w7).1;obtain⟨V2,_,_,rk⟩:=jV.step H S.nN E x;obtain⟨R,y⟩:=jV.alone (b:=some (hE h).at') H S E x hp;refine⟨R,?_⟩;rw[jI w1 w2];have r1:dM s.W h=45+6*(6 - h.i):=by unfold dM; rw[w2]
  have old:∀c,s'.W c=s.W c->¬c∈O->¬Acc s.W (some (hE h).at') (k::l) c->(kZ s.W b h c)\/(s'.W c=s.W c/\¬c∈O/\¬Acc s.W b (h::k::l) c):=λc A B J=>by
   by_cases z:kZ s.W b h c
   ·exact .inl z
   ·exact .inr ⟨A,B,λy=>y.elim z J⟩
  have acc:∀c,kZ s.W b h c->(s.W c).ref=h.ref/\((b=some c/\c<(hE h).at')\/∃(j:Nat) (e:Et),j<h.i/\h.es[j]?=some e/\e.at'=c):=λc z=>by
   obtain⟨A,B⟩:=ma (by rw[w2]; simp) z;unfold Ll at B;rw[w2] at B;exact⟨A,B⟩
  cases hq:bV (k::l) g with
  | mk r' q=>
   obtain⟨a',d⟩:=q;rw[hq] at y rk;cases d with
   | false=>
    obtain⟨Q,G,y3⟩:=y;refine⟨Q,?_,λc h1 h2 M=>?_⟩
    ·show 190*R.length+(45+6*(6 - h.i)+kN s'.W r')<190*O.length+(dM s.W h+kN s.W (k::l));omega
    ·rcases y3 c h1 h2 M with (z | z) | ⟨A,B,J⟩
     ·exact .inl (.inl z)
     ·exact .inl (.inr (.inr z))
     ·refine(old c A B J).imp_left λz=>.inr (.inl ?_);obtain⟨U,X⟩:=acc c z;exact .inl ⟨by rw[A]; exact U,X⟩
   | true=>
    obtain⟨h2,rfl,e2,he⟩:=rk;obtain⟨Q,G,y3⟩:=y;dsimp only;by_cases e4:h2.aO=4
    ·rw[if_neg (λz=>z e4)];refine⟨Q,?_,λc h1 K M=>?_⟩
     ·show 190*R.length+(44+6*(6 - h.i)+0)<190*O.length+(dM s.W h+kN s.W (k::l));omega
     ·rcases y3 c h1 K M with z | ⟨A,B,J⟩| ⟨A,B,J⟩
      ·exact .inl (.inl z)
      ·left; right; left; right;injection A with A;refine⟨rfl,A.symm,?_⟩;have bY:hE h=e:=lN w5 rfl w7;obtain⟨iF,e',a1,a2,a3,a4⟩:=w8.known;rw[w3] at B;obtain⟨iN,e3,b1,b2,b3,b4⟩:=S.cell c h1 K M;rw[B,a1] at b1;cases b1
       obtain⟨_,_,_,_,dO⟩:=H.rf a1;have:e3=e':=dO.inj b2 a2 (by rw[b3,a3,<-bY]; exact A.symm);subst this;unfold dC at b4;rw[b3,B] at b4;rw[b4,a4]
      ·refine(old c A B J).imp_left λz=>.inr (.inl ?_);obtain⟨U,X⟩:=acc c z;exact .inl ⟨by rw[A]; exact U,X.imp_left λu=>u.1⟩
    ·rw[if_pos e4];obtain⟨i1,i2⟩:=xN (h:=h);rw[i1];refine⟨Q,?_,λc h1 K M=>?_⟩
     ·have:=xQ (W:=s'.W) (h:=h) (by rw[w5]; exact gl) (by rw[w5]; omega);show 190*R.length+(dM s'.W (aW h).1+0)<190*O.length+(dM s.W h+kN s.W (k::l));omega
     ·rcases y3 c h1 K M with z | ⟨A,B,J⟩| ⟨A,B,J⟩
      ·exact .inl (.inl z)
      ·exact absurd J e4
      ·refine(old c A B J).imp_left λz=>.inr (.inl ?_);obtain⟨U,X⟩:=acc c z;exact xW (by rw[w5]; exact gl.1) (by rw[A]; exact U) (X.imp_left λu=>u.1)
end
def vX (W:Int->W3) (V:Vg):List Hs->Int->Prop
 | [],_=>False
 | [k],c=>k.nx=.again/\V k.ref=0/\c=(hE k).at'/\(W c).ref=k.met.ref
 | _::k::r,c=>vX W V (k::r) c
def JJ (W:Int->W3) (O:List Int) (b:Option Int) (row:List Hs):Prop:=∀c,56<=c->c<62->¬(W c).ref=0->c∈O\/Acc W b row c
section
variable {D:Dg} {V V':Vg} {N:Int} {s s':Sh} {t:Nat} {r:Int} {es:List Et} {e:Et} {h:Hs} {a:Ac} {g:cP} {W W':Int->W3} {b:Option Int} {c:Int} {O:List Int} {hs:List Hs}
def G8:∀{row:List Hs},(∀c,vX W V row c->c∈O)->C7 W V O row
 | [],_=>trivial
 | [k],x=>λq u A=>x _ ⟨q,A,rfl,u⟩
 | _::k::r,x=>G8 (row:=k::r) x
def Ef (H:SI D V N s):∀{l:List Hs} {h k:Hs},jV D V s t (h::k::l) a->vX W V (h::k::l) c->(hE h).at'<c
 | [],h,k,x,y=>by
  obtain⟨q,u,A,_⟩:=y;rw[A];exact x.1.2.1 q u
 | k2::l,h,k,x,y=>by
  have:=Ef H x.2 y;have:=x.1.2.2 (.inl x.2.1.1.2.1);omega
def Dv (H:SI D V N s):∀{l:List Hs} {h:Hs} {b:Option Int},jV D V s t (h::l) a->vX s.W V (h::l) c->¬Acc s.W b (h::l) c
 | [],h,b,x,y=>λz=>by
  obtain⟨u,J,K,B⟩:=y;have x:HL D V s t h a:=x;obtain⟨_,es,_,x⟩:=x;rw[u] at x;obtain⟨_,_,e,_,_,m⟩:=x;have E:=of_decide_eq_true m.sF;obtain⟨F,_⟩:=ma (by rw[u]; simp) (sQ.1 z);exact E.1 (B.symm.trans F)
 | k::l,h,b,x,y=>λz=>by
  rcases z with z | z
  ·have lt:=Ef H x y;obtain⟨w1,w2,w3,es,e,w4,w5,w6,w7,w8⟩:=x.1.1;obtain⟨_,_,_,_,G⟩:=H.rf w4;obtain⟨_,q⟩:=ma (by rw[w2]; simp) z;unfold Ll at q;rw[w2] at q;rcases q with q | ⟨j,L,q,A,M⟩
   ·omega
   ·rw[w5] at A;have:=G.B9 j h.i _ _ q A w7;rw[lN w5 rfl w7] at lt;omega
  ·exact Dv H x.2 y z
def zd (H:SI D V N s):∀{l:List Hs} {h:Hs},jV D V s t (h::l) a->vX s.W V (h::l) c->(56<=c/\c<62)/\¬(s.W c).ref=0
 | [],h,x,y=>by
  obtain⟨u,J,A,B⟩:=y;have x:HL D V s t h a:=x;obtain⟨_,es,hD,x⟩:=x;obtain⟨_,_,_,_,E⟩:=H.rf hD;rw[u] at x;obtain⟨F,_,e,q,_,m⟩:=x;have G:=of_decide_eq_true m.sF;rw[B,A,lN F rfl q];exact⟨E.pl e (List.mem_of_getElem? q),og G.2.1⟩
 | k::l,h,x,y=>zd H x.2 y
def NB (H:SI D V N s) {l:List Hs} (x:jV D V s t (h::l) a) (j:JJ s.W O b (h::l)):C7 s.W V O (h::l):=
 G8 λc y=>by
  obtain⟨q,u⟩:=zd H x y;exact(j c q.1 q.2 u).resolve_right (Dv H x y)
def QU (h:Hs):dM W h<=280:=by
 unfold dM;cases h.nx <;> dsimp only <;> first | omega | (split <;> omega)
def Ix:∀l:List Hs,kN W l<=280*l.length
 | []=>Nat.le_refl _
 | h::r=>by
  have:=QU (W:=W) h;have:=Ix r;show _+_<=280*(r.length+1);omega
def Ea (H:SI D V N s) {k:Hs} {l:List Hs} (x:jV D V s t (h::k::l) a):56<=(hE h).at'/\(hE h).at'<62:=by
 obtain⟨w1,w2,w3,es,e,w4,w5,w6,w7,w8⟩:=x.1.1;obtain⟨_,_,_,_,q⟩:=H.rf w4;rw[lN w5 rfl w7];exact q.pl e (List.mem_of_getElem? w7)
def HH (H:SI D V N s):∀{l:List Hs} {h k:Hs},jV D V s t (h::k::l) a->((k::l).length:Int)<=62 - (hE h).at'
 | [],h,k,x=>by
  have:=Ea H x;show(1:Int)<=_;omega
 | k2::l,h,k,x=>by
  have h1:=HH H x.2;have h2:=x.1.2.2 (.inl x.2.1.1.2.1);rw[List.length_cons] at h1⊢;rw[List.length_cons];omega
def Nk (H:SI D V N s) (x:jV D V s t hs a):kN W hs<=1960:=by
 have:=Ix (W:=W) hs;match hs,x with
 | [],x=>exact Nat.zero_le _
 | [h],x=>simp only[List.length_singleton] at this; omega
 | h::k::l,x=>
  have h1:=HH H x;have h2:=Ea H x;rw[List.length_cons] at this;omega
def od.alone (H:SI D V N s) (K:N+1<1000000) (E:pr t s s' a g) (x:od D V s t r hs a) (j:JJ s.W O b hs):∃A,A.length<=O.length/\match bV hs g with
  | (u,_,false)=>JJ s'.W A b u/\240*A.length+kN s'.W u<240*O.length+kN s.W hs
  | (u,_,true)=>(∀c,56<=c->c<62->¬(s'.W c).ref=0->c∈A\/(b=some c/\(s'.W c).ref=r/\Dj u=4))/\240*A.length<240*O.length+kN s.W hs:=by
 obtain⟨⟨h,l,rfl,rfl⟩,y⟩:=x;obtain⟨V',S,G,_⟩:=jV.step H K E y;obtain⟨A,z⟩:=jV.alone (b:=b) H S E y (NB H y j);refine⟨A,?_⟩;cases L:bV (h::l) g with
 | mk u q=>
  obtain⟨Q,d⟩:=q;rw[L] at z;cases d with
  | false=>
   obtain⟨F,M,J⟩:=z;refine⟨F,λc h1 h2 B=>?_,by omega⟩;rcases J c h1 h2 B with w | ⟨w1,w2,w3⟩
   ·exact w
   ·exact absurd (j c h1 h2 (by rw[<-w1]; exact B)) (λy=>y.elim w2 w3)
  | true=>
   obtain⟨F,M,J⟩:=z;refine⟨F,λc h1 h2 B=>?_,by omega⟩;rcases J c h1 h2 B with w | w | ⟨w1,w2,w3⟩
   ·exact .inl w
   ·exact .inr w
   ·exact absurd (j c h1 h2 (by rw[<-w1]; exact B)) (λy=>y.elim w2 w3)
end
def Ju (W:Int->W3) (b:Bk):Nat:=
 match b.ph with
 | .take .look=>480
 | .take (.swap _ w)=>if W 376=w then 479 else 481
 | .take _=>0
 | .looked=>470
 | .rel false=>460
 | .xU false=>459
 | .uC false=>458
 | .fill=>420+(32 - b.i)
 | .fP=>400+(10 - b.i)
 | .xg=>390
 | .rel true=>380
 | .xU true=>379
 | .uC true=>378
 | .fZ hs=>20+kN W hs
 | .lX _ .look=>10
 | .lX _ (.swap w)=>if W 376=w then 9 else 11
 | .lX _ (.done _)=>0
 | .over=>0
def Ko (b:Bk):List Hs:=match b.ph with | .fZ hs=>hs | _=>[]
def R4 (W W':Int->W3) (O h:List Int) (b:Bk):BR->Prop
 | (q,_,false)=>JJ W' h none (Ko q)/\240*h.length+Ju W' q<240*O.length+Ju W b
 | (_,_,true)=>JJ W' h none []/\240*h.length<240*O.length+Ju W b
section
variable {D:Dg} {V V':Vg} {Q:tq} {N:Int} {s s':Sh} {t:Nat} {r:Int} {es:List Et} {e:Et} {a:Ac} {g:cP} {W W':Int->W3} {b:Option Int} {c:Int} {O:List Int} {hs:List Hs} {k:Bk} {w:Sw}
def iG (h:∀c,56<=c->c<62->W' c=W c) (j:JJ W O none []):JJ W' O b hs:=λc h1 h2 q=>.inl ((j c h1 h2 (by rw[<-h c h1 h2]; exact q)).resolve_right λy=>y)
def eM (q:s.quiet s'):∀c,56<=c->c<62->s'.W c=s.W c:=λc _ _=>q.1 c
def oN {p:Int} {x:W3} (h:Wr s s' p x) (q:p<56\/62<=p):∀c,56<=c->c<62->s'.W c=s.W c:=λc h1 h2=>h.ne (by omega)
def DW (j:JJ W' O none []) (h:380<Ju W k) {k2:Bk}:R4 W W' O O k (DJ k2):=⟨j,by show _+380<_; omega⟩
def EN (j:JJ W' O none []) {k2:Bk} (h:k2.es.length<=6) (q:400+(10 - k2.i)<=Ju W k):R4 W W' O O k (nW k2):=by
 unfold nW dY;dsimp only;split
 ·exact⟨j,by show _+390<_; omega⟩
 ·rename_i z;refine⟨j,?_⟩;show _+(400+(10 - (k2.i+1)))<_;omega
def zW (j:JJ W' O none []) {k2:Bk} (h:k2.es.length<=6) (q:420+(32 - k2.i)<=Ju W k):R4 W W' O O k (pL k2):=by
 unfold pL;split
 ·rename_i z;unfold dY at z;refine⟨j,?_⟩;show _+(420+(32 - (k2.i+1)))<_;omega
 ·split
  ·exact EN (k2:={k2 with i:=0}) j h (by dsimp only; omega)
  ·exact DW j (by omega)
def El (j:JJ W' O none []) (q:200<Ju W k) {k2:Bk}:R4 W W' O O k (Dw k2):=by
 refine⟨λc h1 h2 h=>.inl ((j c h1 h2 h).resolve_right λy=>y),?_⟩;show _+(20+(180+0))<_;omega
def E9.alone {k:Bk} (H:SI D V N s) (hN:N+1<1000000) (B:BI D V Q s) (ht:1<=t/\t<=3) (x:E9 D V Q s t k a) (E:pr t s s' a g) (j:JJ s.W O none (Ko k)):∃U,U.length<=O.length/\R4 s.W s'.W O U k (bP k g):=by
 obtain⟨du,es,cL,seq,i,dn,bad,ph⟩:=k;have M:aC (9+(cL:Int))=Bk.at' ⟨du,es,cL,seq,i,dn,bad,ph⟩:=xh ⟨du,es,cL,seq,i,dn,bad,ph⟩;have R:Bk.at' ⟨du,es,cL,seq,i,dn,bad,ph⟩<56\/62<=Bk.at' ⟨du,es,cL,seq,i,dn,bad,ph⟩:=by
  show cK cL<56\/_;unfold cK Bk.at' cK;split <;> omega
 cases ph with
 | take kk=>
  have j:JJ s.W O none []:=j;cases kk with
  | look=>
   obtain⟨h,G,u,x0,rfl⟩:=x;obtain⟨K,_,rfl⟩:=E.bH;obtain⟨n,X,h1,h2⟩:=nR B ht u 4 0 rfl λn X=>by omega
   refine⟨O,Nat.le_refl _,?_⟩;unfold bP eO;dsimp only;rw[h2];refine⟨iG (eM K) j,?_⟩;show _+(if s'.W 376=s.W 376 then 479 else 481)<_+480;rw[if_pos (K.1 _)]; omega
  | swap n w=>
   obtain⟨h,G,u,x0,L,x5,rfl⟩:=x;refine⟨O,Nat.le_refl _,?_⟩;rcases E.kH with ⟨F,rfl,A,_⟩| ⟨F,rfl,A⟩
   ·refine⟨iG (oN A (by decide)) j,?_⟩;show _+470<_+(if s.W 376=w then 479 else 481);split <;> omega
   ·obtain⟨n,X,h1,h2⟩:=nR B ht u 4 0 rfl λn X=>by omega
    unfold bP eO;dsimp only;rw[if_neg (by simp),h2];refine⟨iG (eM A) j,?_⟩;show _+(if s'.W 376=s.W 376 then 479 else 481)<_+(if s.W 376=w then 479 else 481);rw[if_pos (A.1 _),if_neg F]; omega
  | done i=>exact x.elim
  | full=>exact x.elim
 | looked=>
  have j:JJ s.W O none []:=j;obtain⟨h,G,u,L,rfl,x5⟩:=x;obtain⟨K,_,rfl⟩:=E.bH;obtain⟨v,q,I⟩:=H.st _ (show bA (9+(cL:Int)) from u.who);have hq:=I.qr;have hw:s.W (cK cL)=⟨v,q,0⟩:=by
   have:=I.eq;rw[M] at this;exact this
  refine⟨O,Nat.le_refl _,?_⟩;unfold bP om;dsimp only;rw[hw,if_neg (by dsimp only; have:=H.nN; omega)];refine⟨iG (eM K) j,?_⟩;show _+460<_+470;omega
 | rel op=>
  have j:JJ s.W O none []:=j;cases op with
  | false=>
   obtain⟨h,G,rfl,u⟩:=x;obtain⟨F,A,_⟩:=E.yg (.inr rfl);have T:JJ s'.W O none []:=iG (oN F R) j;refine⟨O,Nat.le_refl _,?_⟩;unfold bP;dsimp only at G⊢;by_cases d:du=true
   ·rw[if_pos d];exact⟨T,by show _+459<_+460; omega⟩
   ·rw[if_neg d];unfold fB;rw[if_neg (by simp)];exact zW (k:=⟨du,es,cL,seq,i,dn,bad,.rel false⟩) T h.g.len.2 (by show 420+(32 - i)<=460; omega)
  | true=>
   obtain⟨h,rfl,u⟩:=x;obtain⟨F,_,A⟩:=E.yg (.inr rfl);have T:JJ s'.W O none []:=iG (oN F R) j;refine⟨O,Nat.le_refl _,?_⟩;unfold bP;dsimp only;by_cases d:du=true
   ·rw[if_pos d];exact⟨T,by show _+379<_+380; omega⟩
   ·rw[if_neg d];unfold fB;rw[if_pos rfl];exact El (k:=⟨du,es,cL,seq,i,dn,bad,.rel true⟩) T (by show 200<380; omega)
 | xU op=>
  have j:JJ s.W O none []:=j;cases op with
  | false=>
   obtain⟨h,G,rfl,u⟩:=x;exact⟨O,Nat.le_refl _,iG (eM (E.fN (.inl rfl))) j,by show _+458<_+459; omega⟩
  | true=>
   obtain⟨h,rfl,u⟩:=x;exact⟨O,Nat.le_refl _,iG (eM (E.fN (.inl rfl))) j,by show _+378<_+379; omega⟩
 | uC op=>
  have j:JJ s.W O none []:=j;cases op with
  | false=>
   obtain⟨h,G,rfl,u⟩:=x;refine⟨O,Nat.le_refl _,?_⟩;unfold bP fB;dsimp only at G⊢;rw[if_neg (by simp)];exact zW (k:=⟨du,es,cL,seq,i,dn,bad,.uC false⟩) (iG (eM (E.fN (.inr rfl))) j) h.g.len.2 (by show 420+(32 - i)<=458; omega)
  | true=>
   obtain⟨h,rfl,u⟩:=x;refine⟨O,Nat.le_refl _,?_⟩;unfold bP fB;dsimp only;rw[if_pos rfl];exact El (k:=⟨du,es,cL,seq,i,dn,bad,.uC true⟩) (iG (eM (E.fN (.inr rfl))) j) (by show 200<378; omega)
 | fill=>
  have j:JJ s.W O none []:=j;obtain⟨h,k,G,u,rfl,L⟩:=x;obtain⟨F,A,_⟩:=E.yg (.inl rfl);have hp:Bk.at' ⟨du,es,cL,seq,i,dn,bad,.fill⟩+1+k<56\/62<=Bk.at' ⟨du,es,cL,seq,i,dn,bad,.fill⟩+1+k:=by
   have:=cY h.o.who;rw[M] at this;omega
  exact⟨O,Nat.le_refl _,zW (k:=⟨du,es,cL,seq,i,dn,bad,.fill⟩) (iG (oN F hp) j) h.g.len.2 (by show 420+(32 - i)<=420+(32 - i); omega)⟩
 | fP=>
  have j:JJ s.W O none []:=j;obtain⟨h,⟨p,rfl⟩,u⟩:=x;exact⟨O,Nat.le_refl _,EN (k:=⟨du,es,cL,seq,i,dn,bad,.fP⟩) (iG (eM (E.fN (.inl rfl))) j) h.g.len.2 (by show 400+(10 - i)<=400+(10 - i); omega)⟩
 | xg=>
  have j:JJ s.W O none []:=j;obtain⟨h,rfl,u⟩:=x;exact⟨O,Nat.le_refl _,DW (k:=⟨du,es,cL,seq,i,dn,bad,.xg⟩) (iG (eM (E.fN (.inr rfl))) j) (by show 380<390; omega)⟩
 | fZ hs=>
  have j:JJ s.W O none hs:=j;obtain⟨h,G,u⟩:=x;obtain⟨U,z1,z⟩:=u.alone H hN E j;refine⟨U,z1,?_⟩;unfold bP;dsimp only;cases hq:bV hs g with
  | mk Z q=>
   obtain⟨a',d⟩:=q;rw[hq] at z;cases d with
   | false=>
    refine⟨z.1,?_⟩;have:=z.2;show _+(20+kN s'.W Z)<_+(20+kN s.W hs);omega
   | true=>
    refine⟨λc h1 h2 h3=>.inl ((z.1 c h1 h2 h3).resolve_right λy=>by cases y.1),?_⟩;have:=z.2;show _+10<_+(20+kN s.W hs);omega
 | lX bb kk=>
  have j:JJ s.W O none []:=j;obtain⟨h,eb,u,L⟩:=x;have eb:cL=bb:=eb.symm;subst eb;have J:¬mR (s.W 376).v (2 ^ cL)=0:=by
   obtain⟨c,aO,e,hr,hx⟩:=B.bw;rw[e];intro z;have:=(hx cL h.o.1).1 z;have:=(h.o.2 cL h.o.1).2 rfl;omega
  refine⟨O,Nat.le_refl _,?_⟩;cases kk with
  | look=>
   obtain rfl:=L;obtain⟨K,_,rfl⟩:=E.bH;unfold bP fC dF;dsimp only;rw[if_neg J];refine⟨iG (eM K) j,?_⟩;show _+(if s'.W 376=s.W 376 then 9 else 11)<_+10;rw[if_pos (K.1 _)]; omega
  | swap w=>
   obtain⟨L,rfl⟩:=L;rcases E.kH with ⟨F,rfl,A,_⟩| ⟨F,rfl,A⟩
   ·refine⟨iG (oN A (by decide)) j,?_⟩;show _<_+(if s.W 376=w then 9 else 11);split <;> omega
   ·unfold bP fC dF;dsimp only;rw[if_neg (by simp),if_neg J];refine⟨iG (eM A) j,?_⟩;show _+(if s'.W 376=s.W 376 then 9 else 11)<_+(if s.W 376=w then 9 else 11);rw[if_pos (A.1 _),if_neg F]; omega
  | done z=>exact L.elim
 | over=>exact x.elim
end
def uD (W:Int->W3) (w:Sw) (a:Ac):Nat:=
 match w.ph with
 | .lI=>430
 | .last hs=>240+kN W hs
 | .mO l=>190+l.length
 | .own hs=>5+kN W hs
 | .lM=>20
 | .jS _ hs=>22+kN W hs
 | .kC=>21
 | .mG=>if W (sE w).at'=a.old then 15 else 21
 | .send l _=>1+l.length
 | .over _=>0
def Gz (W:Int->W3) (O:List Int) (w:Sw) (a:Ac):Prop:=
 match w.ph with
 | .last hs | .own hs=>JJ W O none hs
 | .jS _ hs=>JJ W O (some (sE w).at') hs
 | .kC=>∀c,56<=c->c<62->¬(W c).ref=0->c∈O\/(c=(sE w).at'/\W c=a.old)
 | _=>JJ W O none []
def O0 (W W':Int->W3) (O h:List Int) (w:Sw) (a:Ac):SR->Prop
 | (w',q,false)=>Gz W' h w' q/\240*h.length+uD W' w' q<240*O.length+uD W w a
 | (_,_,true)=>JJ W' h none []/\240*h.length<240*O.length+uD W w a
section
variable {D:Dg} {V V':Vg} {Q:tq} {N:Int} {s s':Sh} {t:Nat} {r:Int} {es:List Et} {e:Et} {a:Ac} {g:cP} {W W':Int->W3} {b:Option Int} {c:Int} {O:List Int} {hs:List Hs} {w w2:Sw}
def NI (j:JJ W' O none []) (q:185<uD W w a):O0 W W' O O w a (Qt w2):=by
 refine⟨λc h1 h2 h=>.inl ((j c h1 h2 h).resolve_right λy=>y),?_⟩;show _+(5+(180+0))<_;omega
def DV (j:JJ W' O none []) {l:List Ac} (h:189+l.length<uD W w a):O0 W W' O O w a (xM w2 l):=by
 cases l with
 | nil=>exact NI j (by simp only[List.length_nil] at h; omega)
 | cons y l=>
  refine⟨j,?_⟩;show _+(190+l.length)<_;rw[List.length_cons] at h;omega
def Mg (j:JJ W' O none []) (g:w2.es.length<=6) (h:234<uD W w a):O0 W W' O O w a (qB w2):=by
 have:=zc g;exact DV j (by omega)
def GU (H:1<=t/\t<=3) {l:List Ac} (h:Rq t w) (x:po D V s t w (a::l)) (E:pr t s s' a g):∀c,56<=c->c<62->s'.W c=s.W c:=by
 have J:=cY (eS H);have R:=cB w.es;have T:=h.g.len;have A:(a.op=7\/a.op=8)->∀c,56<=c->c<62->s'.W c=s.W c:=λo=>by
  obtain⟨op,p,old,new⟩:=a;exact eM (E.fN o)
 generalize q:a::l=L at x;cases x with
 | xF U u B h1 h2 G M=>
  obtain⟨rfl,rfl⟩:=List.cons.inj q;exact oN (E.yg (.inr rfl)).1 (by omega)
 | Kq k K u B F X h2 G M=>
  cases K with
  | cons y K=>
   obtain⟨rfl,rfl⟩:=List.cons.inj q;exact A (h2 a List.mem_cons_self)
  | nil=>
   rw[List.nil_append] at q;by_cases e:k<(aY w.es).length
   ·rw[List.drop_eq_getElem_cons e] at q;obtain⟨rfl,rfl⟩:=List.cons.inj q;exact oN (E.yg (.inl rfl)).1 (by omega)
   ·rw[List.drop_eq_nil_of_le (by omega)] at q;have q:a::l=u++Nz (aC t) w.seq::B:=q;cases u with
    | cons y u=>
     obtain⟨rfl,rfl⟩:=List.cons.inj q;exact A (G a List.mem_cons_self)
    | nil=>
     obtain⟨rfl,rfl⟩:=List.cons.inj q;exact oN (E.yg (.inr rfl)).1 (by omega)
 | xg _ h1 h2=>
  subst q;exact A (h2 a List.mem_cons_self)
def HZ.alone (H:SI D V N s) (X:N+1<1000000) (L:1<=t/\t<=3) (x:HZ D V s t w a) (E:pr t s s' a g) (j:Gz s.W O w a):∃A,A.length<=O.length/\O0 s.W s'.W O A w a (bS w g):=by
 have hw:=eS L;obtain⟨h,x⟩:=x;have G:=h.g.len.2;unfold Gz at j;unfold bS;cases J:w.ph <;> rw[J] at x j
 case lI=>
  obtain⟨M,rfl⟩:=x;obtain⟨Z,_,rfl⟩:=E.bH;have K:JJ s'.W O none []:=iG (eM Z) j;have u:uD s.W w (AD (eN t))=430:=by unfold uD; rw[J]
  obtain⟨v,q,e,h1,h2⟩:=M.st;rw[sT L] at e;refine⟨O,Nat.le_refl _,?_⟩;dsimp only;unfold pq;rw[e];dsimp only;rw[if_neg (by omega),h.t];split
  ·exact Mg K G (by omega)
  ·refine⟨λc h1 h2 B=>.inl ((K c h1 h2 B).resolve_right λy=>y),?_⟩;rw[u];show _+(240+(180+0))<_;omega
 case last hs=>
  obtain⟨M,r,R⟩:=x;obtain⟨A,T,z⟩:=R.alone H X E j;have u:uD s.W w a=240+kN s.W hs:=by unfold uD; rw[J]
  refine⟨A,T,?_⟩;dsimp only;cases U:bV hs g with
  | mk F q=>
   obtain⟨a',d⟩:=q;rw[U] at z;cases d with
   | false=>
    refine⟨z.1,?_⟩;have:=z.2;rw[u];show _+(240+kN s'.W F)<_;omega
   | true=>
    have K:JJ s'.W A none []:=λc h1 h2 B=>.inl ((z.1 c h1 h2 B).resolve_right λy=>by cases y.1);have hf:=zc G;have z2:=z.2;dsimp only;unfold qB;cases hl:eJ w with
    | nil=>
     refine⟨λc h1 h2 B=>.inl ((K c h1 h2 B).resolve_right λy=>y),?_⟩;rw[u];show _+(5+(180+0))<_;omega
    | cons y l=>
     rw[hl,List.length_cons] at hf;refine⟨K,?_⟩;rw[u];show _+(190+l.length)<_;omega
 case mO l=>
  have u:uD s.W w a=190+l.length:=by unfold uD; rw[J]
  exact⟨O,Nat.le_refl _,DV (iG (GU L h x.1 E) j) (by omega)⟩
 case own hs=>
  obtain⟨M,R⟩:=x;obtain⟨A,T,z⟩:=R.alone H X E j;have u:uD s.W w a=5+kN s.W hs:=by unfold uD; rw[J]
  refine⟨A,T,?_⟩;dsimp only;cases U:bV hs g with
  | mk F q=>
   obtain⟨a',d⟩:=q;rw[U] at z;cases d with
   | false=>
    refine⟨z.1,?_⟩;have:=z.2;rw[u];show _+(5+kN s'.W F)<_;omega
   | true=>
    refine⟨λc h1 h2 B=>.inl ((z.1 c h1 h2 B).resolve_right λy=>by cases y.1),?_⟩;have:=z.2;rw[u];omega
 all_goals exact x.elim
def Au (j:JJ W' O none []) {l:List Ac} {ok:Bool} (h:l.length<uD W w a):O0 W W' O O w a (oO w2 ok l):=by
 cases l with
 | nil=>exact⟨j,by simp only[List.length_nil] at h; omega⟩
 | cons y l=>
  refine⟨j,?_⟩;show _+(1+l.length)<_;rw[List.length_cons] at h;omega
def Hv (h1:w.es=[e]) (h:56<=e.at'/\e.at'<62) (j:JJ s'.W O none []) (E:19<uD W w a):∃q,q.length<=O.length/\O0 W s'.W O q w a (r8 w (s'.W e.at')):=by
 unfold r8;rw[xO h1];split
 ·rename_i z;have hm:e.at'∈O:=(j _ h.1 h.2 (og z.1)).resolve_right λy=>y;have F:=sH hm;refine⟨O.erase e.at',by omega,⟨λc u A B=>?_,?_⟩⟩
  ·by_cases ce:c=e.at'
   ·right; left;refine .inl ⟨by rw[ce]; rfl,?_⟩;show some (sE w).at'=some c;rw[xO h1,ce]
   ·exact .inl (uc ((j c u A B).resolve_right λy=>y) ce)
  ·show _+(22+(180+0))<_;omega
 ·split
  ·refine⟨O,Nat.le_refl _,Au j ?_⟩;have:=pQ w [e.at'];simp only[List.length_singleton] at this;omega
  ·refine⟨O,Nat.le_refl _,j,?_⟩;show _+(if s'.W (sE w).at'=s'.W e.at' then 15 else 21)<_;rw[xO h1,if_pos rfl];omega
def we.alone (H:SI D V N s) (hN:N+1<1000000) (x:we D V s t w a) (E:pr t s s' a g) (j:Gz s.W O w a):∃U,U.length<=O.length/\O0 s.W s'.W O U w a (bS w g):=by
 obtain⟨e,h1,h2,h3,h4,x⟩:=x;have B:=xO h1;unfold Gz at j;unfold bS;cases M:w.ph <;> rw[M] at x j
 case lM=>
  obtain rfl:=x;obtain⟨q1,_,rfl⟩:=E.bH;dsimp only;rw[<-q1.1 e.at'];exact Hv h1 h2 (iG (eM q1) j) (by unfold uD; rw[M]; exact Nat.le_refl _)
 case jS y hs=>
  obtain⟨x1,x2⟩:=x;obtain⟨U,z1,z⟩:=x2.alone H hN E j;have K:uD s.W w a=22+kN s.W hs:=by unfold uD; rw[M]
  refine⟨U,z1,?_⟩;obtain⟨V',S,G,ro⟩:=x2.step H hN E;dsimp only;cases Z:bV hs g with
  | mk T q=>
   obtain⟨a',d⟩:=q;rw[Z] at z ro;cases d with
   | false=>
    refine⟨z.1,?_⟩;have:=z.2;rw[K];show _+(22+kN s'.W T)<_;omega
   | true=>
    dsimp only;by_cases v4:¬Dj T=4
    ·rw[if_pos v4];refine⟨λc F J h=>.inl ((z.1 c F J h).resolve_right λy=>v4 y.2.2),?_⟩;have:=z.2;rw[K];show _+20<_;omega
    ·rw[if_neg v4];refine⟨λc F J h=>?_,?_⟩
     ·rcases z.1 c F J h with u | ⟨L,X,_⟩
      ·exact .inl u
      ·right;injection L with L;refine⟨L.symm,?_⟩;show s'.W c=y;obtain⟨aS,e',b1,b2,b3,b4⟩:=x1;obtain⟨aT,e2,d1,d2,d3,d4⟩:=S.cell c F J h;rw[X,b1] at d1;cases d1
       obtain⟨_,_,_,_,gd⟩:=H.rf b1;have:e2=e':=gd.inj d2 b2 (by rw[d3,b3,<-L,B]);subst this;unfold dC at d4;rw[d3,X] at d4;rw[d4,b4]
     ·have:=z.2;rw[K];show _+21<_;omega
 case kC=>
  obtain⟨y,x1,rfl,x3⟩:=x;have K:uD s.W w ⟨6,e.at',y,⟨y.v,y.aO,0⟩⟩=21:=by unfold uD; rw[M]
  refine⟨O,Nat.le_refl _,λc F J h=>.inl ?_,by rw[K]; show _+20<_; omega⟩;rcases E.kH with ⟨R,_,A,_⟩| ⟨R,_,A⟩
  ·by_cases ce:c=e.at'
   ·rw[ce,A.self] at h;exact absurd rfl h
   ·rw[A.ne ce] at h;rcases j c F J h with u | ⟨u,_⟩
    ·exact u
    ·rw[B] at u; exact absurd u ce
  ·rw[A.1] at h;rcases j c F J h with u | ⟨L,X⟩
   ·exact u
   ·rw[B] at L;subst L;exact absurd X R
 case mG=>
  obtain rfl:=x;have K:uD s.W w ⟨6,e.at',e.old,⟨e.new,(e.old.aO+1) % 4294967296,0⟩⟩=if s.W e.at'=e.old then 15 else 21:=by unfold uD; rw[M,B]
  dsimp only;rcases E.kH with ⟨R,rfl,A,_⟩| ⟨R,rfl,A⟩
  ·rw[if_pos rfl];refine⟨O,Nat.le_refl _,Au (λc F J h=>?_) ?_⟩
   ·by_cases ce:c=e.at'
    ·rw[ce,A.self] at h;exact absurd rfl h
    ·rw[A.ne ce] at h;exact j c F J h
   ·have:=pQ w [(sE w).at'];simp only[List.length_singleton] at this;rw[K,if_pos R];omega
  ·rw[if_neg (by simp)];dsimp only;rw[<-A.1 e.at'];exact Hv h1 h2 (iG (eM A) j) (by rw[K,if_neg R]; omega)
 case send l ok=>
  have Z:s.quiet s':=by
   obtain⟨op,p,o,n⟩:=a;exact E.fN (x.1 _ List.mem_cons_self)
  exact⟨O,Nat.le_refl _,Au (iG (eM Z) j) (by unfold uD; rw[M]; dsimp only; omega)⟩
 all_goals exact x.elim
end
def Ka (W:Int->W3) (p:Pk) (l:List W3):Prop:=∀(k:Nat) (w:W3) (c:Int),l[k]?=some w->p.at'[k]?=some c->W c=w
open Classical in
noncomputable def FO (W:Int->W3) (p:Pk):Nat:=if Ka W p p.now then(if 1<=p.rounds/\Ka W p p.ki then 0 else p.at'.length+1) else 2*(p.at'.length+1)
noncomputable def Bh (W:Int->W3) (p:Pk):Nat:=
 match p.ph with
 | .found=>10+(p.at'.length - p.i)+FO W p
 | .fZ hs=>32+kN W hs
 | .back=>31
 | .flush=>2+(7 - p.i)
 | .last=>1
 | .over=>0
def Sz (W:Int->W3) (O:List Int) (p:Pk) (a:Ac):Prop:=
 match p.ph with
 | .fZ hs=>JJ W O (some (s7 p)) hs
 | .back=>∀c,56<=c->c<62->¬(W c).ref=0->c∈O\/(c=s7 p/\W c=a.old)
 | _=>JJ W O none []
def Tf (W W':Int->W3) (O q:List Int) (p:Pk):PR->Prop
 | (u,A,false)=>Sz W' q u A/\240*q.length+Bh W' u<240*O.length+Bh W p
 | (_,_,true)=>JJ W' q none []/\240*q.length<240*O.length+Bh W p
section
variable {D:Dg} {V V':Vg} {Q:tq} {N:Int} {s s':Sh} {t:Nat} {a:Ac} {g:cP} {W W':Int->W3} {b:Option Int} {c:Int} {O:List Int} {hs:List Hs} {p p2:Pk}
def Cp (h:p.at'.length<=6):FO W p<=14:=by
 unfold FO;split
 ·split <;> omega
 ·omega
def zQ (j:JJ W' O none []) (hk:10+(p2.at'.length - p2.i)+FO W' p2<Bh W p):Tf W W' O O p (pW p2):=by
 refine⟨j,?_⟩;show _+(10+(p2.at'.length - p2.i)+FO W' p2)<_;omega
def A9 (j:JJ W' O none []) (hl:p2.at'.length<=6) (hk:2+(7 - p2.i)<=Bh W p):Tf W W' O O p (jW p2):=by
 unfold jW;split
 ·refine⟨j,?_⟩;show _+(2+(7 - (p2.i+1)))<_;omega
 ·refine⟨j,?_⟩;show _+1<_;omega
def LU {at':List Int} (h1:∀(k:Nat) (w:W3) (c:Int),p.ki[k]?=some w->p.at'[k]?=some c->W c=w) (h2:∀(k:Nat) (w:W3) (c:Int),p.now[k]?=some w->p.at'[k]?=some c->W c=w) (hl:p.now.length<=p.at'.length):kx p.ki p.now=true:=by
 unfold kx;rw[List.all_eq_true];intro x A;obtain⟨k,hk⟩:=List.mem_iff_getElem?.1 A;obtain⟨B,q⟩:=List.getElem?_zip_eq_some.1 hk;have E:=(List.getElem?_eq_some_iff.1 q).1;have u:=List.getElem?_eq_getElem (l:=p.at') (i:=k) (by omega);have e1:=h1 k _ _ B u;have F:=h2 k _ _ q u;exact decide_eq_true (e1.symm.trans F)
open Classical in
theorem IV (j:JJ W' O none []) (hl:1<=p2.at'.length/\p2.at'.length<=6) (hn:p2.now.length=p2.at'.length) (hk:11+FO W' p2<=Bh W p):Tf W W' O O p (mQ p2):=by
 unfold mQ;dsimp only;split
 ·rename_i z;refine zQ (p2:={p2 with rounds:=p2.rounds+1,ki:=p2.now,now:=[],i:=0}) j ?_;have m0:Ka W' {p2 with rounds:=p2.rounds+1,ki:=p2.now,now:=[],i:=0} []:=λk w c h=>by cases h
  have e1:FO W' {p2 with rounds:=p2.rounds+1,ki:=p2.now,now:=[],i:=0}=if 1<=p2.rounds+1/\Ka W' p2 p2.now then 0 else p2.at'.length+1:=by
   unfold FO;rw[if_pos m0]; rfl
  rw[e1];show 10+(p2.at'.length - 0)+_<_;unfold FO at hk;by_cases m1:Ka W' p2 p2.now
  ·rw[if_pos ⟨by omega,m1⟩];rw[if_pos m1] at hk;by_cases m2:1<=p2.rounds/\Ka W' p2 p2.ki
   ·exfalso;rcases z with z | z
    ·omega
    ·rw[LU (at':=p2.at') m2.2 m1 (by omega)] at z;cases z
   ·rw[if_neg m2] at hk;omega
  ·rw[if_neg (λy=>m1 y.2)];rw[if_neg m1] at hk;omega
 ·split
  ·exact A9 (p2:={p2 with rounds:=p2.rounds+1,i:=0}) j hl.2 (by dsimp only; omega)
  ·exact⟨j,by omega⟩
def Ir.alone (H:SI D V N s) (hN:N+1<1000000) (x:Ir D V s t p a) (E:pr t s s' a g) (j:Sz s.W O p a):∃U,U.length<=O.length/\Tf s.W s'.W O U p (iC p g):=by
 obtain⟨h1,x⟩:=x;unfold Sz at j;unfold iC;cases K:p.ph <;> rw[K] at x j
 case found=>
  obtain⟨⟨hi,aS⟩,rfl⟩:=x;obtain⟨q1,_,rfl⟩:=E.bH;have hc:=yT h1.1 hi;have j':JJ s'.W O none []:=iG (eM q1) j;have J:Bh s.W p=10+(p.at'.length - p.i)+FO s.W p:=by unfold Bh; rw[K]
  have hW:=fK q1;have aT:p.at'[p.i]?=some (s7 p):=by
   unfold s7;rw[List.getD_eq_getElem?_getD,List.getElem?_eq_getElem hi]; rfl
  dsimp only;unfold oY;split
  ·rename_i z;have hm:s7 p∈O:=(j _ hc.1 hc.2 (og (by omega))).resolve_right λy=>y;have hl:=sH hm;refine⟨O.erase (s7 p),by omega,⟨λc B F A=>?_,?_⟩⟩
   ·by_cases ce:c=s7 p
    ·right; left;refine .inl ⟨by rw[ce,q1.1]; rfl,?_⟩;show some (s7 p)=some c;rw[ce]
    ·exact .inl (uc ((j' c B F A).resolve_right λy=>y) ce)
   ·rw[J];show _+(32+(180+0))<_;omega
  ·
   have hf:FO s'.W {p with now:=p.now++[s.W (s7 p)],i:=p.i+1}<=FO s.W p:=by
    have mt:Ka s.W p p.now->Ka s'.W {p with now:=p.now++[s.W (s7 p)],i:=p.i+1} (p.now++[s.W (s7 p)]):=λm k w c L k2=>by
     rw[hW];by_cases hk:k<p.now.length
     ·rw[List.getElem?_append_left hk] at L;exact m k w c L k2
     ·have e:k=p.i:=by
       have:=(List.getElem?_eq_some_iff.1 L).1;rw[List.length_append,List.length_singleton] at this;omega
      subst e;rw[List.getElem?_append_right (by omega),aS,Nat.sub_self] at L;simp only[List.getElem?_cons_zero,Option.some.injEq] at L;have k2:p.at'[p.i]?=some c:=k2;rw[aT] at k2;simp only[Option.some.injEq] at k2;rw[<-k2]; exact L
    have mw:Ka s'.W {p with now:=p.now++[s.W (s7 p)],i:=p.i+1} p.ki↔Ka s.W p p.ki:=by rw[hW]; exact Iff.rfl
    unfold FO;by_cases m:Ka s.W p p.now
    ·rw[if_pos m,if_pos (mt m)];by_cases m2:1<=p.rounds/\Ka s.W p p.ki
     ·rw[if_pos m2,if_pos (show 1<=p.rounds/\_ from⟨m2.1,mw.2 m2.2⟩)]; exact Nat.le_refl _
     ·rw[if_neg m2];split
      ·exact Nat.zero_le _
      ·exact Nat.le_refl _
    ·rw[if_neg m];split
     ·split
      ·exact Nat.zero_le _
      ·show p.at'.length+1<=_; omega
     ·exact Nat.le_refl _
   dsimp only;split
   ·rename_i z;refine⟨O,Nat.le_refl _,zQ (p2:={p with now:=p.now++[s.W (s7 p)],i:=p.i+1}) j' ?_⟩;dsimp only at z⊢;omega
   ·rename_i z;refine⟨O,Nat.le_refl _,IV (p2:={p with now:=p.now++[s.W (s7 p)],i:=p.i+1}) j' ⟨by dsimp only; omega,h1.2⟩ (by dsimp only at z⊢; rw[List.length_append,List.length_singleton]; omega) ?_⟩;omega
 case fZ hs=>
  obtain⟨hi,x1,x2⟩:=x;obtain⟨U,z1,z⟩:=x2.alone H hN E j;have J:Bh s.W p=32+kN s.W hs:=by unfold Bh; rw[K]
  refine⟨U,z1,?_⟩;obtain⟨V',S,G,ro⟩:=x2.step H hN E;dsimp only;cases R:bV hs g with
  | mk T q=>
   obtain⟨a',d⟩:=q;rw[R] at z ro;cases d with
   | false=>
    refine⟨z.1,?_⟩;have:=z.2;rw[J];show _+(32+kN s'.W T)<_;omega
   | true=>
    have z2:=z.2;have bY:=Cp (W:=s'.W) h1.2;dsimp only;by_cases v4:¬Dj T=4
    ·rw[if_pos v4];refine⟨λc B F A=>.inl ((z.1 c B F A).resolve_right λy=>v4 y.2.2),?_⟩;rw[J];show _+(10+(p.at'.length - p.i)+FO s'.W p)<_;omega
    ·rw[if_neg v4];refine⟨λc B F A=>?_,?_⟩
     ·rcases z.1 c B F A with u | ⟨M,X,_⟩
      ·exact .inl u
      ·right;injection M with M;refine⟨M.symm,?_⟩;show s'.W c=p.held;obtain⟨dO,e',b1,b2,b3,b4⟩:=x1;obtain⟨eQ,e2,d1,d2,d3,d4⟩:=S.cell c B F A;rw[X,b1] at d1;cases d1
       obtain⟨_,_,_,_,gd⟩:=H.rf b1;have:e2=e':=gd.inj d2 b2 (by rw[d3,b3,<-M]);subst this;unfold dC at d4;rw[d3,X] at d4;rw[d4,b4]
     ·rw[J];show _+31<_;omega
 case back=>
  obtain⟨hi,x1,rfl,x3⟩:=x;have J:Bh s.W p=31:=by unfold Bh; rw[K]
  have bY:=Cp (W:=s'.W) h1.2;refine⟨O,Nat.le_refl _,zQ (λc B F A=>.inl ?_) ?_⟩
  ·rcases E.kH with ⟨y1,_,Z,_⟩| ⟨y1,_,Z⟩
   ·by_cases ce:c=s7 p
    ·rw[ce,Z.self] at A;exact absurd rfl A
    ·rw[Z.ne ce] at A;rcases j c B F A with u | ⟨u,_⟩
     ·exact u
     ·exact absurd u ce
   ·rw[Z.1] at A;rcases j c B F A with u | ⟨M,X⟩
    ·exact u
    ·subst M;exact absurd X y1
  ·rw[J]; omega
 case flush=>
  have R:s.quiet s':=by
   obtain⟨op,q,o,n⟩:=a;exact E.fN (.inl x)
  exact⟨O,Nat.le_refl _,A9 (iG (eM R) j) h1.2 (by unfold Bh; rw[K]; exact Nat.le_refl _)⟩
 case last=>
  have R:s.quiet s':=by
   obtain⟨op,q,o,n⟩:=a;exact E.fN (.inr x)
  exact⟨O,Nat.le_refl _,iG (eM R) j,by unfold Bh; rw[K]; dsimp only; omega⟩
 case over=>exact x.elim
end
noncomputable def T6 (W:Int->W3) (d:Cd) (a:Ac):Nat:=
 match d with
 | .sw w=>uD W w a
 | .bl b=>Ju W b
 | .pk p=>Bh W p
def UJ (W:Int->W3) (O:List Int) (d:Cd) (a:Ac):Prop:=
 match d with
 | .sw w=>Gz W O w a
 | .bl b=>JJ W O none (Ko b)
 | .pk p=>Sz W O p a
noncomputable def H5 (W:Int->W3) (c:Cn) (a:Ac):Nat:=
 match c.now with
 | none=>600*(c.ops.length - 1)+(500+(8 - c.seen.length))
 | some d=>600*(c.ops.length - 1)+T6 W d a
def JC (W:Int->W3) (O:List Int) (c:Cn) (a:Ac):Prop:=
 match c.now with
 | none=>JJ W O none []
 | some d=>UJ W O d a
section
variable {D:Dg} {V V':Vg} {Q:tq} {N:Int} {s s':Sh} {t:Nat} {a:Ac} {g:cP} {W W':Int->W3} {O:List Int} {c c':Cn} {a':Ac}
def GG {o:iZ} {r:List iZ} {a:Ac} (u:iA c.ops=o::r) (A:c.broken=false) (B:¬o.d % 4=3) (h:¬(aR c g).length<(aL o).length) (q:jT {c with ops:=o::r} o (aL o) (aR c g)=(none,a)):dR c g=({c with ops:=o::r,broken:=true},jG,true):=by
 unfold dR;rw[u];dsimp only;rw[if_neg (by rw[A]; decide),if_neg B];refine(if_neg (show ¬(aR c g).length<_ from h)).trans ?_;unfold aR at q;rw[q]
def A6 (J:c.now=none) (j:JJ W O none []) (h:dR c g=(c',a',false)):JC W O c' a'/\H5 W c' a'<=600*(c.ops.length - 1)+(500+(7 - (aR c g).length)):=by
 cases E:iA c.ops with
 | nil=>
  rw[xo E] at h;simp at h
 | cons o r=>
  have hlen:=pH E;have G:=lT (nY E);rw[List.length_cons] at hlen;by_cases B:c.broken=true
  ·unfold dR at h;rw[E] at h;dsimp only at h;rw[if_pos B] at h;simp at h
  have B:c.broken=false:=by simpa using B
  by_cases F:o.d % 4=3
  ·unfold dR at h;rw[E] at h;dsimp only at h;rw[if_neg (by rw[B]; decide),if_pos F] at h;injection h with u A;injection A with A _;subst u A;refine⟨j,?_⟩;have K:=Cp (W:=W) (p:=C1 c.cH ((aL o).map bO)) (by show((aL o).map bO).length<=6; rw[List.length_map]; exact G.2);show 600*(r.length+1 - 1)+(10+(((aL o).map bO).length - 0)+FO W (C1 c.cH ((aL o).map bO)))<=_;rw[List.length_map];omega
  ·by_cases H:(aR c g).length<(aL o).length
   ·rw[ui E B F H] at h;injection h with u A;injection A with A _;subst u A;unfold JC H5;dsimp only;rw[J];refine⟨j,?_⟩;show 600*(r.length+1 - 1)+(500+(8 - (aR c g++[W0]).length))<=_;rw[List.length_append,List.length_singleton];omega
   ·cases q:jT {c with ops:=o::r} o (aL o) (aR c g) with
    | mk oc L=>
     cases oc with
     | none=>
      rw[GG E B F H q] at h;simp at h
     | some c2=>
      rw[mh E B F H q] at h;injection h with u A;injection A with A _;subst u A;unfold jT at q;dsimp only at q;split at q
      ·split at q
       ·injection q with u A;injection u with u;subst u A;refine⟨j,?_⟩;show 600*(r.length+1 - 1)+480<=_;omega
       ·simp at q
      ·split at q
       ·split at q
        ·injection q with u A;injection u with u;subst u A;refine⟨j,?_⟩;show 600*(r.length+1 - 1)+20<=_;omega
        ·simp at q
       ·split at q
        ·injection q with u A;injection u with u;subst u A;refine⟨j,?_⟩;show 600*(r.length+1 - 1)+430<=_;omega
        ·simp at q
def qS.alone (H:SI D V N s) (L:N+1<1000000) (B:BI D V Q s) (X:1<=t/\t<=3) (x:qS D V Q s t c a) (E:pr t s s' a g) (j:JC s.W O c a) (h:cO c g=(c',a',false)) :
  ∃u,u.length<=O.length/\JC s'.W u c' a'/\240*u.length+H5 s'.W c' a'<240*O.length+H5 s.W c a:=by
 unfold qS at x;unfold cO at h;unfold JC at j;cases F:c.now with
 | none=>
  rw[F] at x h j;obtain⟨hb,hS,hO,o,r,k,e1,e2,e3,R,e5,rfl,hw⟩:=x;obtain⟨q1,_,rfl⟩:=E.bH;obtain⟨h1,h2⟩:=A6 F (iG (eM q1) j) h;refine⟨O,Nat.le_refl _,h1,?_⟩;have M:H5 s.W c (AD (((aL o).map bO).getD k 0))=600*(c.ops.length - 1)+(500+(8 - c.seen.length)):=by unfold H5; rw[F]
  have G:(aR c ⟨s.W (((aL o).map bO).getD k 0),true⟩).length=k+1:=by
   unfold aR;have:¬c.seen=[]:=λe=>by rw[e] at R; cases R
   rw[if_neg this,List.length_append,List.length_dropLast,List.length_singleton,R]; rfl
  have aS:=lT e2;rw[G] at h2;omega
 | some d=>
  rw[F] at x h j;obtain⟨hb,G,aT,x⟩:=x;have M:H5 s.W c a=600*(c.ops.length - 1)+T6 s.W d a:=by unfold H5; rw[F]
  have fin:∀{u:List Int} (T:Cd),u.length<=O.length->JJ s'.W u none []->240*u.length<240*O.length+T6 s.W d a->dR {c with done:=c.done++[rE T],pn:=c.pn++yY T,ops:=c.ops.tail,now:=none} kq=(c',a',false)->∃u,u.length<=O.length/\JC s'.W u c' a'/\240*u.length+H5 s'.W c' a'<240*O.length+H5 s.W c a:=λ{u} T A z2 z3 J=>by
   obtain⟨h1,h2⟩:=A6 rfl z2 J;refine⟨u,A,h1,?_⟩;have bY:2<=c.ops.length:=by
    cases Z:iA c.ops.tail with
    | nil=>
     exfalso;unfold dR at J;dsimp only at J;rw[Z] at J;simp at J
    | cons o r=>
     have:=pH Z;rw[List.length_cons,List.length_tail] at this;omega
   dsimp only at h2;rw[List.length_tail] at h2;omega
  dsimp only at h;unfold vm cR at h;cases d with
  | sw w=>
   dsimp only at h;obtain⟨hO,x⟩:=x;have key:∃u,u.length<=O.length/\O0 s.W s'.W O u w a (bS w g):=by
    rcases x with ⟨x,_⟩| ⟨x,_,_⟩
    ·exact x.alone H L X E j
    ·exact x.alone H L E j
   obtain⟨u,A,z⟩:=key;cases K:bS w g with
   | mk w' q=>
    obtain⟨U,dd⟩:=q;rw[K] at z h;cases dd with
    | false=>
     simp only[Prod.mk.injEq,and_true] at h;obtain⟨rfl,rfl⟩:=h;refine⟨u,A,z.1,?_⟩;have:=z.2;rw[M];show _+(600*(c.ops.length - 1)+uD s'.W w' U)<_+(600*(c.ops.length - 1)+uD s.W w a);omega
    | true=>exact fin (.sw w') A z.1 z.2 h
  | bl b=>
   dsimp only at h;obtain⟨x,_,_⟩:=x;obtain⟨u,A,z⟩:=x.alone H L B X E j;cases K:bP b g with
   | mk w' q=>
    obtain⟨U,dd⟩:=q;rw[K] at z h;cases dd with
    | false=>
     simp only[Prod.mk.injEq,and_true] at h;obtain⟨rfl,rfl⟩:=h;refine⟨u,A,z.1,?_⟩;have:=z.2;rw[M];show _+(600*(c.ops.length - 1)+Ju s'.W w')<_+(600*(c.ops.length - 1)+Ju s.W b);omega
    | true=>exact fin (.bl w') A z.1 z.2 h
  | pk p=>
   dsimp only at h;obtain⟨x,_,_,_⟩:=x;obtain⟨u,A,z⟩:=x.alone H L E j;cases K:iC p g with
   | mk w' q=>
    obtain⟨U,dd⟩:=q;rw[K] at z h;cases dd with
    | false=>
     simp only[Prod.mk.injEq,and_true] at h;obtain⟨rfl,rfl⟩:=h;refine⟨u,A,z.1,?_⟩;have:=z.2;rw[M];show _+(600*(c.ops.length - 1)+Bh s'.W w')<_+(600*(c.ops.length - 1)+Bh s.W p);omega
    | true=>exact fin (.pk w') A z.1 z.2 h
def P6 (H:SI D V N s) (q:(∃w,c.now=some (.sw w)/\(HZ D V s t w a\/we D V s t w a))\/(∃b,c.now=some (.bl b)/\E9 D V Q s t b a)\/(∃p,c.now=some (.pk p)/\Ir D V s t p a)\/c.now=none):H5 W c a<=600*(c.ops.length - 1)+2300:=by
 have rr:∀{r hs},od D V s t r hs a->kN W hs<=1960:=λx=>Nk H x.2;unfold H5;rcases q with ⟨w,e,x⟩| ⟨b,e,x⟩| ⟨p,e,x⟩| e
 ·rw[e];dsimp only;have:uD W w a<=2300:=by
   unfold uD;rcases x with x | x
   ·obtain⟨_,x⟩:=x;cases h:w.ph <;> rw[h] at x <;> dsimp only
    case lI=>omega
    case last hs=>obtain⟨_,r,x⟩:=x; have:=rr x; omega
    case mO l=>have:=x.2; omega
    case own hs=>have:=rr x.2; omega
    all_goals exact x.elim
   ·obtain⟨e,_,_,_,_,x⟩:=x;cases h:w.ph <;> rw[h] at x <;> dsimp only
    case lM=>omega
    case jS y hs=>have:=rr x.2; omega
    case kC=>omega
    case mG=>split <;> omega
    case send l ok=>have:=x.2; omega
    all_goals exact x.elim
  show _+uD W w a<=_;omega
 ·rw[e];dsimp only;have:Ju W b<=2300:=by
   unfold Ju;obtain⟨du,es,cL,seq,i,dn,bad,ph⟩:=b;cases ph with
   | take k=>cases k <;> dsimp only <;> first | omega | (split <;> omega)
   | looked=>dsimp only; omega
   | rel op=>cases op <;> dsimp only <;> omega
   | xU op=>cases op <;> dsimp only <;> omega
   | uC op=>cases op <;> dsimp only <;> omega
   | fill=>dsimp only; omega
   | fP=>dsimp only; omega
   | xg=>dsimp only; omega
   | fZ hs=>have:=rr x.2.2; dsimp only; omega
   | lX u k=>cases k <;> dsimp only <;> first | omega | (split <;> omega)
   | over=>dsimp only; omega
  show _+Ju W b<=_;omega
 ·rw[e];dsimp only;have:Bh W p<=2300:=by
   unfold Bh;obtain⟨h1,x⟩:=x;have A:=Cp (W:=W) h1.2;cases h:p.ph <;> rw[h] at x <;> dsimp only
   case found=>omega
   case fZ hs=>have:=rr x.2.2; omega
   all_goals omega
  show _+Bh W p<=_;omega
 ·rw[e];dsimp only;omega
def qS.Tn (H:SI D V N s) (x:qS D V Q s t c a) (h8:c.ops.length<=8):H5 W c a<=6500:=by
 have:=P6 (W:=W) (c:=c) (t:=t) (a:=a) (Q:=Q) H (by
  unfold qS at x;cases h:c.now with
  | none=>exact .inr (.inr (.inr rfl))
  | some d=>
   rw[h] at x;obtain⟨_,_,_,x⟩:=x;cases d with
   | sw w=>exact .inl ⟨w,rfl,x.2.imp (λy=>y.1) λy=>y.1⟩
   | bl b=>exact .inr (.inl ⟨b,rfl,x.1⟩)
   | pk p=>exact .inr (.inr (.inl ⟨p,rfl,x.1⟩)))
 omega
def QM (x:qS D V Q s t c a):JC W [56,57,58,59,60,61] c a:=by
 have m:∀c:Int,56<=c->c<62->c∈[56,57,58,59,60,(61:Int)]:=λc h1 h2=>by
  simp only[List.mem_cons,List.not_mem_nil,or_false];omega
 unfold JC;split
 ·exact λc h1 h2 _=>.inl (m c h1 h2)
 ·rename_i d _;unfold UJ;split
  ·unfold Gz;split
   ·exact λc h1 h2 _=>.inl (m c h1 h2)
   ·exact λc h1 h2 _=>.inl (m c h1 h2)
   ·exact λc h1 h2 _=>.inl (m c h1 h2)
   ·exact λc h1 h2 _=>.inl (m c h1 h2)
   ·exact λc h1 h2 _=>.inl (m c h1 h2)
  ·exact λc h1 h2 _=>.inl (m c h1 h2)
  ·unfold Sz;split
   ·exact λc h1 h2 _=>.inl (m c h1 h2)
   ·exact λc h1 h2 _=>.inl (m c h1 h2)
   ·exact λc h1 h2 _=>.inl (m c h1 h2)
end
def AW (m:Me) (c:Cn) (a:Ac) (k:Nat):Prop:=∃O,JC (sh m).W O c a/\240*O.length+H5 (sh m).W c a<=k
section
variable {N:Int} {t:Nat} {m m':Mj} {ts:List CR} {c c':Cn} {a a':Ac} {g:cP} {k:Nat}
def WI.tc (I:WI m.me ts N) (u:1<=t) (h:ts[t - 1]?=some (c,a,false)):∃D V O,SI D V N (sh m.me)/\BI D V O (sh m.me)/\qS D V O (sh m.me) t c a/\t<=3:=by
 obtain⟨D,V,O,H,B,T⟩:=I.ex;have q:=(List.getElem?_eq_some_iff.1 h).1;have A:=I.len;have y:=T _ _ h;rw[show t - 1+1=t by omega] at y;exact⟨D,V,O,H,B,y,by omega⟩
def qS.b8 {D:Dg} {V:Vg} {O:tq} {s:Sh} (x:qS D V O s t c a):c.ops.length<=8/\c.broken=false:=by
 unfold qS at x;cases h:c.now with
 | none=>rw[h] at x; exact⟨x.1.h8,x.1.br⟩
 | some d=>rw[h] at x; exact⟨x.1.h8,x.1.br⟩
def WI.aw (I:WI m.me ts N) (h:1<=t) (q:ts[t - 1]?=some (c,a,false)):AW m.me c a 8000:=by
 obtain⟨D,V,O,H,B,x,_⟩:=I.tc h q;have:=x.Tn (W:=(sh m.me).W) H x.b8.1;exact⟨_,QM x,by show 240*6+_<=_; omega⟩
def WI.OA (I:WI m.me ts N) (A:N+1<1000000) (q:1<=t) (E:ts[t - 1]?=some (c,a,false)) (hs:xz m t a m' g) (F:cO c g=(c',a',false)) (h:AW m.me c a k):∃k',k'<k/\AW m'.me c' a' k':=by
 obtain⟨D,V,Q,H,B,x,u⟩:=I.tc q E;obtain⟨O,j,L⟩:=h;obtain⟨G,_,J,K⟩:=x.alone H A B ⟨q,u⟩ (hs.T0 I.mw ⟨q,u⟩) j F;exact⟨_,by omega,G,J,Nat.le_refl _⟩
def WI.ok (I:WI m.me ts N) {i:Nat} {x:CR} (h:ts[i]?=some x):x.1.broken=false:=by
 obtain⟨D,V,O,H,B,T⟩:=I.ex;have y:=T _ _ h;obtain⟨c,a,d⟩:=x;cases d with
 | false=>exact(qS.b8 (show qS D V O _ _ c a from y)).2
 | true=>exact(show Rz D V O _ _ c from y).b.br
end
def RD {p:Int} (h:0<=p/\p<512):∃n:Nat,p=n/\n<512:=⟨p.toNat,by omega,by omega⟩
def E3 {p:Int} (h:0<=p/\p<512):jB (AD p):=by obtain⟨n,rfl,h2⟩:=RD h; exact Lv h2
def RC {p:Int} (h:0<=p/\p<512):jB ⟨1,p,W0,W0⟩:=by obtain⟨n,rfl,h2⟩:=RD h; exact K8 h2
def Cq {p:Int} {o n:W3} (h:0<=p/\p<512) (q:Ww n):jB ⟨6,p,o,n⟩:=by obtain⟨p,rfl,h2⟩:=RD h; exact LD h2 q
def Q7 {op p:Int} {n:W3} (ho:op=3\/op=4) (h:0<=p/\p<512) (q:Ww n):jB ⟨op,p,W0,n⟩:=by obtain⟨p,rfl,h2⟩:=RD h; exact yQ ho h2 q
def Jj {p:Int} (h:0<=p/\p<512):jB (ub p):=by obtain⟨n,rfl,h2⟩:=RD h; exact HY h2
def L0 {v q:Int} (hv:0<=v/\v<=3) (u:0<=q/\q<1000000):Ww ⟨v,q,0⟩:=⟨⟨by dsimp only; omega,by dsimp only; omega⟩,⟨by dsimp only; omega,by dsimp only; omega⟩,⟨Int.le_refl 0,(by decide:(0:Int)<4294967296)⟩⟩
def Rx:Ww W0:=⟨⟨by decide,by decide⟩,⟨by decide,by decide⟩,⟨by decide,by decide⟩⟩
structure pf (h:Hs):Prop where
 ws:∀x∈h.ws,Ww x
 met:Ww h.met
 es:h.nx=.first\/h.nx=.dE\/h.nx=.fA\/h.nx=.checked->h.es=[]
 many:h.nx=.fA->(h.many:Int)<=cG (aZ h.ref)
structure mN (h:Hs):Prop where
 ws:∀x∈h.ws,Ww x
 met:Ww h.met
def mN.late {h:Hs} (X:mN h) {k:HK} (q:¬(k=.first\/k=.dE\/k=.fA\/k=.checked)) (a:Ac):pf (eF h a k).1:=
 ⟨X.ws,X.met,λx=>absurd x q,λx=>absurd (.inr (.inr (.inl x))) q⟩
def mN.dX {h:Hs} (X:mN h) (q:h.bh=some .settle\/h.bh=some .through):pf (bG h).1:=by
 unfold bG;split
 ·rcases q with e | e <;> rw[e] <;> exact X.late (by decide) _
 ·exact mN.late (h:={h with i:=h.i+1}) ⟨X.ws,X.met⟩ (by decide) _
def mN.decide {h:Hs} (X:mN h) (z:Int):pf (cD h z).1:=by
 unfold cD;split
 ·exact mN.dX (h:={h with aO:=z,i:=0,bh:=some .settle}) ⟨X.ws,X.met⟩ (.inl rfl)
 ·exact mN.late (h:={h with aO:=z}) ⟨X.ws,X.met⟩ (by decide) _
def mN.sV {h:Hs} (X:mN h):pf (aW h).1:=by
 unfold aW;split
 ·exact X.decide 1
 ·exact X.late (by decide) _
def mN.release {h:Hs} (X:mN h):pf (bD h).1:=by
 unfold bD;split <;> exact X.late (by decide) _
def mN.free {h:Hs} (X:mN h) (q:h.nx=.known\/h.nx=.found\/h.nx=.kS):pf (ke h).1:=by
 unfold ke;split
 ·exact X.late (by decide) _
 ·split
  ·exact mN.dX (h:={h with i:=0,bh:=some .through}) ⟨X.ws,X.met⟩ (.inr rfl)
  ·refine⟨X.ws,X.met,λx=>?_,λx=>?_⟩
   ·have x:h.nx=.first\/h.nx=.dE\/h.nx=.fA\/h.nx=.checked:=x;rcases q with e | e | e <;> (rw[e] at x; exact absurd x (by decide))
   ·have x:h.nx=.fA:=x;rcases q with e | e | e <;> (rw[e] at x; cases x)
def pf.KS {h:Hs} (X:pf h) (z:Int):pf (nM h z).1:=⟨X.ws,X.met,X.es,X.many⟩
section
variable {D:Dg} {V:Vg} {O:tq} {N:Int} {s:Sh} {t:Nat} {r:Int} {es:List Et} {e:Et} {h:Hs} {a:Ac} {g:cP} {hs:List Hs}
def pf.ss (X:pf h):mN h:=⟨X.ws,X.met⟩
def pf.load (X:mN h) (he:h.es=[]) (hm:(h.many:Int)<=cG (aZ h.ref)):pf (fM h).1:=by
 unfold fM;split
 ·exact⟨X.ws,X.met,λ_=>he,λx=>by cases x⟩
 ·exact⟨X.ws,X.met,λ_=>he,λ_=>hm⟩
def pf.one (x:Si D V s t h es a h.nx) (X:pf h) (u:Ww g.w):pf (dG h g).1:=by
 unfold dG;cases q:h.nx <;> rw[q] at x
 case begin=>exact x.elim
 case first=>
  dsimp only;split
  ·exact X.KS 4
  ·exact⟨X.ws,X.met,λ_=>X.es (.inl q),λx=>by cases x⟩
 case dE=>
  dsimp only;unfold j9;split
  ·exact X.KS 4
  ·rename_i c;refine pf.load (h:={h with many:=g.w.v.toNat}) ⟨X.ws,X.met⟩ (X.es (.inr (.inl q))) ?_;have c2:¬h.mC<g.w.v:=λy=>c (.inr (.inl y));have B:¬g.w.v<1:=λy=>c (.inl y);show((g.w.v.toNat:Nat):Int)<=h.mC;omega
 case fA=>
  dsimp only;refine pf.load (h:={h with ws:=h.ws++[g.w]}) ⟨λy A=>?_,X.met⟩ (X.es (.inr (.inr (.inl q)))) (X.many q);rcases List.mem_append.1 A with z | z
  ·exact X.ws y z
  ·rw[List.mem_singleton.1 z]; exact u
 case checked=>
  dsimp only;unfold gJ;split
  ·exact X.KS 4
  ·split
   ·exact X.KS 4
   ·split
    ·exact mN.release ⟨X.ws,X.met⟩
    ·exact mN.sV ⟨X.ws,X.met⟩
 case cU=>
  dsimp only;unfold fJ;split
  ·exact mN.sV ⟨X.ws,X.met⟩
  ·split
   ·exact mN.late (h:={h with met:=g.w}) ⟨X.ws,u⟩ (by decide) _
   ·exact X.ss.decide 2
 case again=>exact X.ss.release
 case bR=>exact x.elim
 case dH=>exact X.ss.sV
 case dX=>exact X.ss.dX (x.2.2.imp (λy=>y.1) λy=>y.1)
 case settle=>exact X.ss.late (by decide) _
 case gC=>exact X.ss.release
 case bQ=>exact X.ss.late (by decide) _
 case cJ=>exact X.ss.late (by decide) _
 case known=>exact mN.free ⟨X.ws,X.met⟩ (.inl q)
 case found=>
  dsimp only;unfold pj;split
  ·exact X.ss.late (by decide) _
  ·exact mN.free ⟨X.ws,X.met⟩ (.inr (.inl q))
 case through=>exact X.KS _
 case kS=>exact mN.free ⟨X.ws,X.met⟩ (.inr (.inr q))
def mE (hs:List Hs):Prop:=∀h∈hs,pf h
def mE.new (r:Int) (d:Bool):mE [{Hs.new r d with nx:=.first}]:=λh q=>by
 rw[List.mem_singleton.1 q];exact⟨(λx u=>by cases u),Rx,λ_=>rfl,λx=>by cases x⟩
def mE.of (X:pf h):mE [h]:=λx q=>by rw[List.mem_singleton.1 q]; exact X
def mE.next (F:Ww g.w):∀(hs:List Hs),jV D V s t hs a->mE hs->mE (bV hs g).1
 | [],_,X=>X
 | [h],x,X=>by
  obtain⟨A,es,hD,x⟩:=(show HL D V s t h a from x);have X:=X h List.mem_cons_self;by_cases h1:h.nx=.again
  ·rw[gL A h1];split
   ·exact .of X.ss.release
   ·intro y E;rcases List.mem_cons.1 E with rfl | E
    ·exact⟨X.ws,X.met,λx=>absurd x (by decide:¬(HK.bR=.first\/HK.bR=.dE\/HK.bR=.fA\/HK.bR=.checked)),λx=>by cases x⟩
    ·exact mE.new _ _ y E
  ·rw[lS A h1 [] (.inl rfl)];exact .of (X.one x F)
 | h::k::l,x,X=>by
  obtain⟨⟨⟨A,h1,_⟩,_⟩,y⟩:=x;have B:=X h List.mem_cons_self;have Y:=mE.next F (k::l) y λz u=>X z (List.mem_cons_of_mem _ u);rw[jI A h1];cases G:bV (k::l) g with
  | mk H q=>
   obtain⟨J,d⟩:=q;rw[G] at Y;cases d with
   | false=>
    intro z u;rcases List.mem_cons.1 u with rfl | u
    ·exact⟨B.ws,B.met,λx=>absurd x (by decide:¬(HK.bR=.first\/HK.bR=.dE\/HK.bR=.fA\/HK.bR=.checked)),λx=>by cases x⟩
    ·exact Y z u
   | true=>
    cases H with
    | nil=>exact λz u=>by cases u
    | cons K L=>
     dsimp only;split
     ·exact .of B.ss.sV
     ·exact .of (B.ss.late (k:=.dH) (by decide) jG)
def SI.rr (H:SI D V N s) (hD:D r=some es):0<=r/\r<4294967296:=by
 obtain⟨who,q,f,_,_⟩:=H.rf hD;have h1:=f.wh;have h2:=f.qr;rw[f.eq];unfold bT bA at *;omega
def Good.wO (g:Good es) (he:e∈es) (q:0<=r/\r<4294967296):Ww ⟨e.old.v,e.old.aO,r⟩:=by
 have:=g.aO e he;exact⟨(g.val e he).1,⟨this.1,by dsimp only; omega⟩,q⟩
def Good.wN (g:Good es) (he:e∈es):Ww ⟨e.new,e.old.aO+1,0⟩:=by
 have:=g.aO e he;exact⟨(g.val e he).2,⟨by dsimp only; omega,by dsimp only; omega⟩,⟨Int.le_refl 0,(by decide:(0:Int)<4294967296)⟩⟩
def Fv {who:Int} (hw:bA who):64<=aC who/\aC who+32<=512/\(cG who=10\/cG who=32/\aC who<=272):=by
 have:=cY hw;have:=HI hw;have:cG who=32->aC who<=272:=λe=>by
  unfold cG at e;split at e
  ·omega
  ·split at e <;> omega
 omega
structure Vw (h:Hs) (a:Ac):Prop where
 ok:QX h
 ag:h.nx=.again->h.i<h.es.length
 act:jB a
def GY {i:Nat} (g:Good es) (h:es[i]?=some e):i<6/\i<es.length/\e∈es/\(0<=e.at'/\e.at'<512):=by
 have h1:=(List.getElem?_eq_some_iff.1 h).1;have h2:=List.mem_of_getElem? h;have q:=g.pl e h2;have u:=g.len;exact⟨by omega,h1,h2,by omega,by omega⟩
def HL.gg (H:SI D V N s) (x:HL D V s t h a) (X:pf h):Vw h a:=by
 obtain⟨u,es,hD,x⟩:=x;obtain⟨who,q,f,_,g⟩:=H.rf hD;have L:=H.rr hD;have M:h.at'=aC who:=by unfold Hs.at'; rw[f.w]
 have hw:aZ h.ref=who:=f.w;have Q:=Fv f.wh;have gl:=g.len;have J:0<=h.seq/\h.seq<1000000:=by have:=f.qr; unfold Hs.seq; rw[f.sq]; omega
 have mk:h.es.length<=1000->QZ h h.nx->QX h:=λh1 h2=>⟨u,h1,by rw[hw]; omega,X.ws,X.met,h2⟩;have A:h.es=es->QZ h h.nx->QX h:=λh1 h2=>mk (by rw[h1]; omega) h2;have lk:jB (AD h.at'):=E3 (by omega);have fl:jB (ub h.at'):=Jj (by omega);have no:∀{k:HK},h.nx=k->¬k=.again->h.nx=.again->h.i<h.es.length:=λR T U=>absurd (R.symm.trans U) T;cases B:h.nx <;> rw[B] at x mk A
 case first=>
  obtain⟨_,_,rfl⟩:=x;exact⟨mk (by rw[X.es (.inl B)]; exact Nat.zero_le _) trivial,no B (by decide),lk⟩
 case dE=>
  obtain⟨_,F,rfl,_⟩:=x;exact⟨mk (by rw[X.es (.inr (.inl B))]; exact Nat.zero_le _) F,no B (by decide),RC (by omega)⟩
 case fA=>
  obtain⟨_,F,rfl,G⟩:=x;have hm:=X.many B;rw[hw] at hm;exact⟨mk (by rw[X.es (.inr (.inr (.inl B)))]; exact Nat.zero_le _) ⟨⟨by rw[hw]; omega,by rw[hw]; omega,by omega⟩,F⟩,no B (by decide),RC (by omega)⟩
 case checked=>
  obtain⟨u,F,rfl,G⟩:=x;exact⟨mk (by rw[X.es (.inr (.inr (.inr B)))]; exact Nat.zero_le _) ⟨F,G.many,u⟩,no B (by decide),lk⟩
 case cU=>
  obtain⟨u,F,e,E,rfl⟩:=x;have y:=GY g E;exact⟨A u (by rw[<-u] at y; exact y.2.1),no B (by decide),Cq y.2.2.2 (g.wO y.2.2.1 L)⟩
 case again=>
  obtain⟨u,F,e,E,rfl,K⟩:=x;have y:=GY g E;have z:=of_decide_eq_true K.sF;exact⟨A u ⟨z.2.1,z.2.2⟩,λ_=>by rw[u]; exact y.2.1,lk⟩
 case bR=>exact x.elim
 case begin=>exact x.elim
 case dH=>
  obtain⟨u,F,e,E,rfl,K,Z⟩:=x;have y:=GY g E;exact⟨A u (by rw[<-u] at y; exact Nat.le_of_lt y.2.1),no B (by decide),Cq y.2.2.2 ⟨X.met.v,X.met.aO,⟨Int.le_refl 0,(by decide:(0:Int)<4294967296)⟩⟩⟩
 case dX=>
  obtain⟨u,⟨e,F,E,rfl⟩,G⟩:=x;have y:=GY g E;exact⟨A u ⟨by rw[u]; omega,λe=>by rcases G with x | x <;> (rw[x.1] at e; cases e)⟩,no B (by decide),Jj y.2.2.2⟩
 case settle=>
  obtain⟨u,rfl,_⟩:=x;exact⟨A u trivial,no B (by decide),qw⟩
 case gC=>
  obtain⟨u,rfl,E⟩:=x;exact⟨A u trivial,no B (by decide),Cq (by omega) (L0 (by omega) J)⟩
 case bQ=>
  obtain⟨u,rfl,_⟩:=x;exact⟨A u trivial,no B (by decide),fl⟩
 case cJ=>
  obtain⟨u,rfl,_⟩:=x;exact⟨A u trivial,no B (by decide),qw⟩
 case known=>
  obtain⟨u,rfl,_⟩:=x;exact⟨A u trivial,no B (by decide),lk⟩
 case found=>
  obtain⟨u,_,_,e,E,rfl⟩:=x;have y:=GY g E;exact⟨A u (by rw[<-u] at y; exact y.2.1),no B (by decide),E3 y.2.2.2⟩
 case kS=>
  obtain⟨u,_,_,e,E,rfl⟩:=x;have y:=GY g E;refine⟨A u (Nat.le_of_lt (Nat.lt_of_lt_of_le y.1 (by decide))),no B (by decide),Cq y.2.2.2 ?_⟩;split
  ·exact g.wN y.2.2.1
  ·exact g.wO y.2.2.1 ⟨Int.le_refl 0,by decide⟩
 case through=>
  obtain⟨u,rfl,_⟩:=x;exact⟨A u trivial,no B (by decide),qw⟩
def jV.gg (H:SI D V N s):∀(hs:List Hs),jV D V s t hs a->mE hs->(yi hs/\∀h∈hs,h.nx=.again->h.i<h.es.length)/\jB a
 | [],x,_=>x.elim
 | [h],x,X=>by
  have y:=HL.gg H (show HL D V s t h a from x) (X h List.mem_cons_self);exact⟨⟨y.ok,λk u=>by rw[List.mem_singleton.1 u]; exact y.ag⟩,y.act⟩
 | h::k::l,x,X=>by
  obtain⟨⟨⟨A,h1,_,es,e,hD,h2,_,B,_⟩,_⟩,y⟩:=x;obtain⟨_,_,_,_,g⟩:=H.rf hD;obtain⟨⟨E,F⟩,G⟩:=jV.gg H (k::l) y λz J=>X z (List.mem_cons_of_mem _ J);have w:=GY g B;have gl:=g.len;refine⟨⟨⟨⟨A,by rw[h2]; omega,h1⟩,E⟩,λb q=>?_⟩,G⟩;rcases List.mem_cons.1 q with rfl | q
  ·intro e; rw[h1] at e; cases e
  ·exact F b q
def od.gg (H:SI D V N s) (x:od D V s t r hs a) (X:mE hs):(yi hs/\∀h∈hs,h.nx=.again->h.i<h.es.length)/\jB a:=jV.gg H hs x.2 X
end
def F3 (l:List Ac):Prop:=∀x∈l,jB x
def jF (w:Sw) (a:Ac):Prop:=
 match w.ph with
 | .mO l=>F3 (a::l)
 | .send l _=>F3 (a::l)
 | .last hs=>mE hs
 | .own hs=>mE hs
 | .jS _ hs=>mE hs
 | _=>True
structure m9 (b:Bk) (a:Ac):Prop where
 i:b.i<=100
 cL:b.cL<4
 ph:match b.ph with
  | .take (.swap _ w)=>Ww w
  | .lX _ (.swap w)=>Ww w
  | .fZ hs=>mE hs
  | .fP=>jB a
  | _=>True
structure uT (n:Nat) (p:Pk) (a:Ac):Prop where
 S4:1<=p.at'.length
 nw:p.now.length<=6
 ws:p.ki.length<=6
 rd:p.rounds<=n
 ph:match p.ph with
  | .fZ hs=>mE hs
  | .flush=>jB a
  | _=>True
section
variable {D:Dg} {V:Vg} {O:tq} {N:Int} {s:Sh} {t:Nat} {r:Int} {es:List Et} {e:Et} {a:Ac} {g:cP} {hs:List Hs} {w:Sw} {b:Bk} {p:Pk} {n:Nat} {c:Int} {x:W3}
def RP (g:Good es):∀w∈aY es,Ww w:=λw hw=>by
 rcases List.mem_cons.1 hw with rfl | h
 ·have:=g.len;exact⟨⟨by dsimp only; omega,by dsimp only; omega⟩,⟨Int.le_refl 0,(by decide:(0:Int)<4294967296)⟩,⟨Int.le_refl 0,(by decide:(0:Int)<4294967296)⟩⟩
 ·exact Ww.kG g w h
def LA (h:Rq t w) (A:1<=t/\t<=3):F3 (eJ w):=by
 have F:=cB w.es;have gl:=h.g.len;have G:=h.sq;obtain⟨p,E,H⟩:∃p:Nat,eN w.t=p/\64<=p/\p+22<=512:=by
  have:=Fv (eS A);rw[sT A] at this;exact⟨(eN w.t).toNat,by rw[h.t]; omega,by rw[h.t]; omega,by rw[h.t]; omega⟩
 have B:F3 (gM w [(p:Int)]):=zw λx u=>by rw[List.mem_singleton] at u; omega
 unfold eJ xG;rw[E];intro a q;have q:a∈(((((⟨4,(p:Int),W0,⟨3,w.seq,0⟩⟩::gM w [(p:Int)])++eZ (aY w.es) ((p:Int)+1))++gM w (dP p (aY w.es).length))++[(⟨4,(p:Int),W0,⟨0,w.seq,0⟩⟩:Ac)])++gM w [(p:Int)]):=q;rcases List.mem_append.1 q with q | q
 ·rcases List.mem_append.1 q with q | q
  ·rcases List.mem_append.1 q with q | q
   ·rcases List.mem_append.1 q with q | q
    ·rcases List.mem_cons.1 q with rfl | q
     ·exact yQ (.inr rfl) (by omega) (L0 (by omega) (by omega))
     ·exact B a q
    ·rw[show((p:Int)+1)=((p+1:Nat):Int) by omega] at q;exact zo _ _ (RP h.g) (by omega) a q
   ·refine zw (λx u=>?_) a q;unfold dP at u;obtain⟨h1,_⟩:=List.mem_filter.1 u;obtain⟨i,h2,rfl⟩:=List.mem_map.1 h1;have:=List.mem_range.1 h2;omega
  ·rw[List.mem_singleton] at q;subst q;exact yQ (.inr rfl) (by omega) (L0 (by omega) (by omega))
 ·exact B a q
def HZ.gg (H:SI D V N s) (u:1<=t/\t<=3) (y:HZ D V s t w a) (X:jF w a):(R5 w/\LS w.ph)/\jB a:=by
 obtain⟨h,y⟩:=y;have E:=h.sq;have q:R5 w:=⟨by rw[h.t]; omega,by omega,by have:=h.g.len; omega⟩;have A:=Fv (eS u);unfold jF at X;cases B:w.ph <;> rw[B] at y X
 case lI=>exact⟨⟨q,trivial⟩,by rw[y.2,<-sT u]; exact E3 (by omega)⟩
 case last hs=>
  obtain⟨_,r,y⟩:=y;have z:=y.gg H X;exact⟨⟨q,z.1⟩,z.2⟩
 case mO l=>exact⟨⟨q,trivial⟩,X _ List.mem_cons_self⟩
 case own hs=>
  have z:=y.2.gg H X;exact⟨⟨q,z.1⟩,z.2⟩
 all_goals exact y.elim
def jF.mO {l:List Ac} (X:F3 l):jF (xM w l).1 (xM w l).2.1:=by
 cases l with
 | nil=>exact mE.new _ _
 | cons a l=>exact X
def HZ.aux (E:1<=t/\t<=3) (y:HZ D V s t w a) (X:jF w a) (B:Ww g.w):jF (bS w g).1 (bS w g).2.1:=by
 obtain⟨h,y⟩:=y;have fill:jF (qB w).1 (qB w).2.1:=jF.mO (LA h E);unfold jF at X;unfold bS;cases F:w.ph <;> rw[F] at y X
 case lI=>
  dsimp only;unfold pq;split
  ·trivial
  ·split
   ·exact fill
   ·exact mE.new _ _
 case last hs=>
  obtain⟨_,r,y⟩:=y;have z:=mE.next B hs y.2 X;dsimp only;cases u:bV hs g with
  | mk A q=>
   obtain⟨G,d⟩:=q;rw[u] at z;cases d with
   | false=>exact z
   | true=>exact fill
 case mO l=>exact jF.mO λx H=>X x (List.mem_cons_of_mem _ H)
 case own hs=>
  have z:=mE.next B hs y.2.2 X;dsimp only;cases u:bV hs g with
  | mk A q=>
   obtain⟨G,d⟩:=q;rw[u] at z;cases d with
   | false=>exact z
   | true=>trivial
 all_goals exact y.elim
def vI.gg (H:SI D V N s) (m:vI D c x):(0<=c/\c<512)/\Ww ⟨x.v,x.aO,0⟩:=by
 obtain⟨es,e,h1,h2,rfl,h⟩:=m;obtain⟨_,_,_,_,g⟩:=H.rf h1;have q:=g.pl e h2;have:=g.wO h2 (r:=0) ⟨Int.le_refl 0,by decide⟩;rw[h];exact⟨by omega,this⟩
def we.gg (H:SI D V N s) (y:we D V s t w a) (X:jF w a):IX w/\jB a:=by
 obtain⟨e,h1,h2,h,A,y⟩:=y;unfold jF at X;unfold IX;cases q:w.ph <;> rw[q] at y X
 case lM=>exact⟨⟨⟨e,h1⟩,trivial⟩,by rw[y]; exact E3 (by omega)⟩
 case jS x hs=>
  have z:=y.2.gg H X;exact⟨⟨⟨e,h1⟩,z.1⟩,z.2⟩
 case kC=>
  obtain⟨x,u,rfl,_⟩:=y;have:=u.gg H;exact⟨⟨⟨e,h1⟩,trivial⟩,Cq this.1 this.2⟩
 case mG=>
  obtain rfl:=y;exact⟨⟨⟨e,h1⟩,trivial⟩,Cq (by omega) ⟨h,⟨by dsimp only; omega,by dsimp only; omega⟩,⟨Int.le_refl 0,(by decide:(0:Int)<4294967296)⟩⟩⟩
 case send l ok=>exact⟨⟨⟨e,h1⟩,trivial⟩,X _ List.mem_cons_self⟩
 all_goals exact y.elim
def jF.send {l:List Ac} {ok:Bool} (X:F3 l):jF (oO w ok l).1 (oO w ok l).2.1:=by
 cases l with
 | nil=>trivial
 | cons a l=>exact X
def we.aux (y:we D V s t w a) (X:jF w a) (A:Ww g.w):jF (bS w g).1 (bS w g).2.1:=by
 obtain⟨e,h1,h2,G,H,y⟩:=y;have u:F3 (gM w [(sE w).at']):=zw λx h=>by rw[List.mem_singleton,xO h1] at h; omega
 have met:∀x,jF (r8 w x).1 (r8 w x).2.1:=λx=>by
  unfold r8;split
  ·exact mE.new _ _
  ·split
   ·exact jF.send u
   ·trivial
 unfold jF at X;unfold bS;cases B:w.ph <;> rw[B] at y X
 case lM=>exact met _
 case jS x hs=>
  have z:=mE.next A hs y.2.2 X;dsimp only;cases E:bV hs g with
  | mk F q=>
   obtain⟨J,d⟩:=q;rw[E] at z;cases d with
   | false=>exact z
   | true=>dsimp only; split <;> trivial
 case kC=>trivial
 case mG=>
  dsimp only;split
  ·exact jF.send u
  ·exact met _
 case send l ok=>exact jF.send λx h=>X x (List.mem_cons_of_mem _ h)
 all_goals exact y.elim
def Ir.gg (H:SI D V N s) (y:Ir D V s t p a) (X:uT n p a) (E:n<=1000000):Jg p/\jB a:=by
 obtain⟨h1,y⟩:=y;obtain⟨F,G,J,K,X⟩:=X;have q:Te p:=⟨by omega,by omega,by omega,by omega⟩;unfold Jg;cases u:p.ph <;> rw[u] at y X
 case found=>
  have L:=yT h1.1 y.1.1;exact⟨⟨q,y.1.1,by omega⟩,by rw[y.2]; exact E3 (by omega)⟩
 case fZ hs=>
  have z:=y.2.2.gg H X;exact⟨⟨q,y.1.1,z.1⟩,z.2⟩
 case back=>
  obtain⟨A,B,rfl,_⟩:=y;have:=B.gg H;exact⟨⟨q,A.1⟩,Cq this.1 this.2⟩
 case flush=>exact⟨⟨q,trivial⟩,X⟩
 case last=>exact⟨⟨q,trivial⟩,⟨.inl y,λh=>by omega,λh=>by omega,λh=>by omega⟩⟩
 case over=>exact y.elim
def uT.look (h1:1<=p.at'.length) (h2:p.now.length<=6) (h:p.ki.length<=6) (q:p.rounds<=n):uT n (pW p).1 (pW p).2.1:=⟨h1,h2,h,q,trivial⟩
def SK (h1:∀c∈p.at',56<=c/\c<62) (hi:p.i<p.at'.length):jB ⟨7,s7 p,W0,W0⟩:=by
 have:=yT h1 hi;exact Jj (by omega)
def uT.flush (u:∀c∈p.at',56<=c/\c<62) (h1:1<=p.at'.length) (h2:p.now.length<=6) (h:p.ki.length<=6) (q:p.rounds<=n):uT n (jW p).1 (jW p).2.1:=by
 unfold jW;split
 ·rename_i hi;exact⟨h1,h2,h,q,SK u hi⟩
 ·exact⟨h1,h2,h,q,trivial⟩
def Ir.aux (y:Ir D V s t p a) (X:uT n p a) (F:Ww g.w):uT (n+1) (iC p g).1 (iC p g).2.1:=by
 obtain⟨h1,y⟩:=y;obtain⟨h,E,A,u,X⟩:=X;unfold iC;cases G:p.ph <;> rw[G] at y X
 case found=>
  obtain⟨⟨hi,K⟩,_⟩:=y;dsimp only;unfold oY;split
  ·exact⟨h,E,A,Nat.le_succ_of_le u,mE.new _ _⟩
  ·have B:(p.now++[g.w]).length<=6:=by rw[List.length_append,List.length_singleton]; omega
   dsimp only;split
   ·exact uT.look (p:={p with now:=p.now++[g.w],i:=p.i+1}) h B A (Nat.le_succ_of_le u)
   ·unfold mQ;dsimp only;split
    ·exact⟨h,Nat.zero_le _,B,Nat.succ_le_succ u,trivial⟩
    ·split
     ·exact uT.flush (p:={p with now:=p.now++[g.w],i:=0,rounds:=p.rounds+1}) h1.1 h B A (Nat.succ_le_succ u)
     ·exact⟨h,B,A,Nat.succ_le_succ u,trivial⟩
 case fZ hs=>
  have z:=mE.next F hs y.2.2.2 X;dsimp only;cases H:bV hs g with
  | mk J q=>
   obtain⟨L,d⟩:=q;rw[H] at z;cases d with
   | false=>exact⟨h,E,A,Nat.le_succ_of_le u,z⟩
   | true=>
    dsimp only;split
    ·exact uT.look h E A (Nat.le_succ_of_le u)
    ·exact⟨h,E,A,Nat.le_succ_of_le u,trivial⟩
 case back=>exact uT.look h E A (Nat.le_succ_of_le u)
 case flush=>exact uT.flush h1.1 h E A (Nat.le_succ_of_le u)
 case last=>exact⟨h,E,A,Nat.le_succ_of_le u,trivial⟩
 case over=>exact y.elim
end
section
variable {D:Dg} {V:Vg} {O:tq} {N:Int} {s:Sh} {t:Nat} {r:Int} {es:List Et} {e:Et} {a:Ac} {g:cP} {hs:List Hs} {b:Bk} {n:Nat} {c:Int} {x:W3}
def Ip (x:BitVec 64):xB x.toInt:=by
 have h1:=BitVec.le_toInt x;have h2:=BitVec.toInt_lt (x:=x);constructor <;> simp only[Nat.reduceSub,Int.reducePow,Int.reduceNeg] at h1 h2⊢<;> omega
def Uw (z y:Int) (h:Ww x):Ww ⟨Fl z y,x.aO,x.ref⟩:=⟨Ip _,h.aO,h.ref⟩
def Ua (z y:Int) (h:Ww x):Ww ⟨Iv z y,x.aO,x.ref⟩:=⟨Ip _,h.aO,h.ref⟩
def LY (h:b.cL<4):b.at'=384+32*(b.cL:Int):=by
 unfold Bk.at' cK;rw[if_pos (by omega)]
def yI.MU (x:yI D V O s t b):1<=b.seq/\b.seq<=16777215:=by have:=x.sq; omega
def E9.gg (H:SI D V N s) (y:E9 D V O s t b a) (X:m9 b a):Ly b/\jB a:=by
 obtain⟨F,u,X⟩:=X;have mk:UR b b.ph->b.es.length<=6->Ly b:=λh1 h2=>⟨h1,u,by omega,by omega⟩;have B:=LY u;have FV:jB (AD eT):=E3 (by decide);unfold E9 at y;cases E:b.ph <;> rw[E] at y X mk
 case take k=>
  cases k with
  | look=>exact⟨mk trivial y.1.len.2,by rw[y.2.2.2.2]; exact FV⟩
  | swap i w=>
   obtain⟨h,_,_,_,G,_,rfl⟩:=y;exact⟨mk trivial h.len.2,Cq (by decide) (Uw _ _ X)⟩
  | _=>exact y.elim
 case looked=>
  obtain⟨h,_,_,_,rfl,_⟩:=y;exact⟨mk trivial h.len.2,E3 (by have:cK b.cL=b.at':=rfl; omega)⟩
 case rel op=>
  cases op with
  | false=>
   obtain⟨h,_,rfl,_⟩:=y;exact⟨mk h.MU h.g.len.2,Q7 (.inr rfl) (by omega) (L0 (by omega) (by have:=h.sq; omega))⟩
  | true=>
   obtain⟨h,rfl,_⟩:=y;exact⟨mk h.MU h.g.len.2,Q7 (.inr rfl) (by omega) (L0 (by omega) (by have:=h.sq; omega))⟩
 case xU op=>
  cases op with
  | false=>
   obtain⟨h,_,rfl,_⟩:=y;exact⟨mk h.MU h.g.len.2,Jj (by omega)⟩
  | true=>
   obtain⟨h,rfl,_⟩:=y;exact⟨mk h.MU h.g.len.2,Jj (by omega)⟩
 case uC op=>
  cases op with
  | false=>
   obtain⟨h,_,rfl,_⟩:=y;exact⟨mk h.MU h.g.len.2,qw⟩
  | true=>
   obtain⟨h,rfl,_⟩:=y;exact⟨mk h.MU h.g.len.2,qw⟩
 case fill=>
  obtain⟨h,k,A,q,rfl,_⟩:=y;have:=h.g.len;exact⟨mk h.MU h.g.len.2,Q7 (.inl rfl) (by unfold dY at q; omega) (RP h.g _ (List.mem_of_getElem? (BU q)))⟩
 case fP=>exact⟨mk y.1.MU y.1.g.len.2,X⟩
 case xg=>
  obtain⟨h,rfl,_⟩:=y;exact⟨mk h.MU h.g.len.2,qw⟩
 case fZ hs=>
  have z:=y.2.2.gg H X;exact⟨mk z.1 y.1.g.len.2,z.2⟩
 case lX J k=>
  obtain⟨h,A,_,q⟩:=y;cases k with
  | look=>exact⟨mk ⟨by rw[A]; exact u,trivial⟩ h.g.len.2,by rw[q]; exact FV⟩
  | swap w=>
   obtain⟨_,rfl⟩:=q;exact⟨mk ⟨by rw[A]; exact u,trivial⟩ h.g.len.2,Cq (by decide) (Ua _ _ X)⟩
  | done z=>exact q.elim
 case over=>exact y.elim
def CF {w:W3} (hw:Ww w):∀(k i:Nat) {q:Nat} {w':W3},(cF w k i).1=.swap q w'->Ww w'
 | 0,i,_,_,h=>by cases h
 | k+1,i,_,_,h=>by
  unfold cF at h;split at h
  ·cases h; exact hw
  ·exact CF hw k (i+1) h
def Ad {w:W3}:∀(k i:Nat) {q:Nat},¬(cF w k i).1=.done q
 | 0,i,_,h=>by cases h
 | k+1,i,_,h=>by
  unfold cF at h;split at h
  ·cases h
  ·exact Ad k (i+1) h
def m9.PD (h2:b.cL<4) (u:b.es.length<=6) (h:b.i<=100):m9 (nW b).1 (nW b).2.1:=by
 have q:=LY h2;unfold nW;dsimp only;split
 ·exact⟨h,h2,trivial⟩
 ·rename_i c;have A:dY b=1+3*b.es.length:=rfl;refine⟨?_,h2,?_⟩
  ·show b.i+1<=100; omega
  ·show jB ⟨7,max _ _,W0,W0⟩;exact Jj (by omega)
def m9.PE (h2:b.cL<4) (h:b.es.length<=6) (q:b.i<=100):m9 (pL b).1 (pL b).2.1:=by
 unfold pL;split
 ·rename_i c;have u:dY b=1+3*b.es.length:=rfl;exact⟨by show b.i+1<=100; omega,h2,trivial⟩
 ·split
  ·exact m9.PD (b:={b with i:=0}) h2 h (Nat.zero_le _)
  ·exact⟨q,h2,trivial⟩
def m9.behind (h2:b.cL<4) (q:b.es.length<=6) (h:b.i<=100) (op:Bool):m9 (fB b op).1 (fB b op).2.1:=by
 cases op with
 | true=>exact⟨h,h2,mE.new _ _⟩
 | false=>exact m9.PE h2 q h
def m9.Mq (h2:b.cL<4) (h:b.i<=100):m9 (vJ b).1 (vJ b).2.1:=⟨h,h2,trivial⟩
def HQ {q:Nat} {w w':W3} (hw:Ww w) (h:(dF q w).1=.swap w'):Ww w':=by
 unfold dF at h;split at h
 ·cases h
 ·cases h; exact hw
def E9.aux (y:E9 D V O s t b a) (X:m9 b a) (F:Ww g.w):m9 (bP b g).1 (bP b g).2.1:=by
 obtain⟨u,A,X⟩:=X;have take:∀(r:Fc),(∀B w',r.1=.swap B w'->Ww w')->(∀B,r.1=.done B->B<4)->∀out:BR,out=(match r with
  | (.done i,_,true)=>({b with cL:=i,ph:=.looked},⟨5,cK i,W0,W0⟩,false)
  | (_,_,true)=>GR {b with bad:=9}
  | (k,a,false)=>({b with ph:=.take k},a,false))->m9 out.1 out.2.1:=by
  rintro⟨k,J,d⟩ h1 h2 out rfl;cases d with
  | true=>
   cases k with
   | done i=>exact⟨u,h2 i rfl,trivial⟩
   | _=>exact⟨u,A,trivial⟩
  | false=>
   cases k with
   | swap i w=>exact⟨u,A,h1 i w rfl⟩
   | _=>exact⟨u,A,trivial⟩
 have lX:∀(E:Nat) (r:Kb),(∀w',r.1=.swap w'->Ww w')->∀out:BR,out=(match r with
  | (k,a,false)=>({b with ph:=.lX E k},a,false)
  | (_,_,true)=>GR b)->m9 out.1 out.2.1:=by
  rintro E ⟨k,J,d⟩ h1 out rfl;cases d with
  | true=>exact⟨u,A,trivial⟩
  | false=>
   cases k with
   | swap w=>exact⟨u,A,h1 w rfl⟩
   | _=>exact⟨u,A,trivial⟩
 unfold E9 at y;unfold bP;cases K:b.ph <;> rw[K] at y X
 case take k=>
  cases k with
  | look=>exact take (cF g.w 4 0) (λB w' h=>CF F 4 0 h) (λB h=>absurd h (Ad 4 0)) _ rfl
  | swap i w=>
   refine take (eO (.swap i w) g) (λB w' h=>?_) (λB h=>?_) _ rfl
   ·have h:(if g.ok=true then((Gf.done i,jG,true):Fc) else cF g.w 4 0).1=.swap B w':=h;split at h
    ·cases h
    ·exact CF F 4 0 h
   ·have h:(if g.ok=true then((Gf.done i,jG,true):Fc) else cF g.w 4 0).1=.done B:=h;split at h
    ·cases h; exact y.2.2.2.2.1
    ·exact absurd h (Ad 4 0)
  | _=>exact y.elim
 case looked=>
  dsimp only;unfold om;split
  ·exact m9.Mq (b:={b with bad:=9}) A u
  ·exact⟨u,A,trivial⟩
 case rel op=>
  have G:b.es.length<=6:=by cases op <;> exact y.1.g.len.2
  dsimp only;split
  ·exact⟨u,A,trivial⟩
  ·exact m9.behind A G u op
 case xU op=>exact⟨u,A,trivial⟩
 case uC op=>
  have G:b.es.length<=6:=by cases op <;> exact y.1.g.len.2
  exact m9.behind A G u op
 case fill=>exact m9.PE A y.1.g.len.2 u
 case fP=>exact m9.PD A y.1.g.len.2 u
 case xg=>exact⟨u,A,trivial⟩
 case fZ hs=>
  have z:=mE.next F hs y.2.2.2 X;dsimp only;cases L:bV hs g with
  | mk H q=>
   obtain⟨J,d⟩:=q;rw[L] at z;cases d with
   | false=>exact⟨u,A,z⟩
   | true=>
    dsimp only;cases H with
    | nil=>exact m9.Mq (b:={b with done:=false}) A u
    | cons h l=>exact m9.Mq (b:={b with done:=_}) A u
 case lX E k=>
  obtain⟨Q,R,_,M⟩:=y;cases k with
  | look=>exact lX E (dF E g.w) (λw' h=>HQ F h) _ rfl
  | swap w=>
   refine lX E (fC E (.swap w) g) (λw' h=>?_) _ rfl;have h:(if g.ok=true then((MN.done false,jG,true):Kb) else dF E g.w).1=.swap w':=h;split at h
   ·cases h
   ·exact HQ F h
  | done z=>exact M.elim
 case over=>exact y.elim
end
structure wV (n:Nat) (c:Cn) (a:Ac):Prop where
 dn:c.done.length+c.ops.length<=8
 sm:c.pn.length+c.ops.length<=8
 d:∀d,c.now=some d->match d with
  | .sw w=>jF w a
  | .bl b=>m9 b a
  | .pk p=>uT n p a
section
variable {D:Dg} {V:Vg} {O:tq} {N:Int} {s s':Sh} {t:Nat} {a:Ac} {g:cP} {n:Nat} {c:Cn} {o:iZ} {k:Int} {m m':Mj} {ts:List CR} {x:CR}
def OL (q:¬o.ps=[]) (h:o.d % 4=2):(aL o).length=1:=by
 have:aL o=(qL o.ps 6).take 1:=by unfold aL; rw[if_pos h]; rfl
 rw[this,List.length_take];have:=Fx q;omega
def SM (h:¬o.ps=[]):R7 ((aL o).map bO):=by
 have B:=lT h;refine⟨by rw[List.length_map]; omega,λa A=>?_,?_⟩
 ·obtain⟨p,_,rfl⟩:=List.mem_map.1 A;exact decide_eq_true (.inl (lW p))
 ·unfold List.Nodup;rw[List.pairwise_iff_getElem];intro i j hi u q e;rw[List.length_map] at hi u;have:=B1 i j _ _ q (List.getElem?_eq_getElem hi) (List.getElem?_eq_getElem u);rw[List.getElem_map,List.getElem_map] at e;omega
def Ph.of (h:PA t c k) (E:1<=t/\t<=3) (F:k<=200) (hs:c.seen.length<=6) (hw:∀w∈aR c g,Rp w) (q:∀o r,iA c.ops=o::r->¬o.d % 4=3->(aR c g).length<=(aL o).length):Ph c g:=by
 have u:=h.sq;refine⟨by rw[h.t]; omega,by omega,h.ops,hs,λo r e _=>SM (nY e),λo r e A B=>?_⟩;have he:(aR c g).length=(aL o).length:=by have:=q o r e A; omega
 exact⟨he,(vM (nY e) he hw).Ta,λh2=>OL (nY e) h2⟩
def Ev (h:c.seen=[]):aR c g=[]:=by unfold aR; rw[if_pos h]
def qS.gg (H:SI D V N s) (B:1<=t/\t<=3) (y:qS D V O s t c a) (X:wV n c a) (E:n<=1000000):jB a/\∀d,c.now=some d->Kv d:=by
 have q:=X.d;unfold qS at y;cases u:c.now with
 | none=>
  rw[u] at y;obtain⟨_,_,_,o,r,k,G,J,K,L,F,rfl,_⟩:=y;have A:k<(aL o).length:=F;have M:56<=((aL o).map bO).getD k 0/\((aL o).map bO).getD k 0<62:=by
   rw[List.getD_eq_getElem?_getD,List.getElem?_map,List.getElem?_eq_getElem A];exact lW _
  exact⟨E3 (by omega),λd h=>by cases h⟩
 | some d=>
  rw[u] at y;obtain⟨_,_,_,y⟩:=y;have q:=q d u;suffices Kv d/\jB a from⟨this.2,λQ h=>by cases h; exact this.1⟩;cases d with
  | sw w=>
   obtain⟨_,y⟩:=y;rcases y with ⟨y,_⟩| ⟨y,_⟩
   ·have z:=y.gg H B q;exact⟨.inl z.1,z.2⟩
   ·have z:=y.gg H q;exact⟨.inr z.1,z.2⟩
  | bl b=>exact y.1.gg H q
  | pk p=>exact y.1.gg H q E
def qS.VG (H:SI D V N s) (L:1<=t/\t<=3) (y:qS D V O s t c a) (X:wV n c a) (U:n<=1000000) (E:pr t s s' a g):MM c g:=by
 have G:=(y.gg H L X U).2;have Z:=X.dn;have aS:=X.sm;unfold qS at y;cases A:c.now with
 | none=>
  rw[A] at y;obtain⟨q,hS,hO,o,r,k,e1,T,e3,e4,e5,rfl,hw⟩:=y;obtain⟨q1,_,rfl⟩:=E.bH;have aT:=lT T;refine⟨q.br,by omega,by omega,λ_=>Ph.of q L (by decide) (by omega) (λw J=>?_) (λo' r' e h3=>?_),λd h=>by rw[A] at h; cases h⟩
  ·unfold aR at J;split at J
   ·cases J
   ·rcases List.mem_append.1 J with h | h
    ·exact hw w ((List.dropLast_sublist _).subset h)
    ·rw[List.mem_singleton.1 h];have B:k<(aL o).length:=e5;have K:56<=((aL o).map bO).getD k 0/\((aL o).map bO).getD k 0<62:=by
      rw[List.getD_eq_getElem?_getD,List.getElem?_map,List.getElem?_eq_getElem B];exact lW _
     have h1:=H.val _ K.1 K.2;have h2:=H.aO _ K.1 K.2;have h3:=H.nN;exact⟨h1,by dsimp only; omega,by dsimp only; omega⟩
  ·rw[e1,ku T] at e;cases e
   unfold aR;split
   ·exact Nat.zero_le _
   ·rw[List.length_append,List.length_dropLast,List.length_singleton]; omega
 | some d=>
  rw[A] at y;obtain⟨q,M,F,y⟩:=y;refine⟨q.br,by omega,by omega,(λh=>by rw[A] at h; cases h),λd' h=>?_⟩;rw[A] at h;cases h
  refine⟨G d A,F,λ_=>?_⟩;have u:(CM c (cR d g).1).seen=[]:=M;have Q:=q.sq;have B:c.ops.tail.length+1=c.ops.length:=by
   cases ho:c.ops with
   | nil=>exact absurd ho F
   | cons a b=>rfl
  have R:PA t (CM c (cR d g).1) 101:=⟨q.t,q.br,λo ho=>q.ops o (List.mem_of_mem_tail ho),⟨Q.1,by show c.seq+(c.ops.tail.length:Nat)<=101; omega⟩,(by have:=q.h8; show c.ops.tail.length<=8; omega)⟩;refine Ph.of R L (by decide) (by rw[u]; exact Nat.zero_le _) (λw hw=>?_) λo r _ _=>?_
  ·rw[Ev u] at hw; cases hw
  ·rw[Ev u]; exact Nat.zero_le _
def wV.idle (Q:c.now=none) (h1:c.done.length+c.ops.length<=8) (h2:c.pn.length+c.ops.length<=8) (hm:PA t c k) (R:(dR c g).1.broken=false):wV n (dR c g).1 (dR c g).2.1:=by
 cases B:iA c.ops with
 | nil=>
  rw[xo B];exact⟨by show c.done.length+0<=8; omega,by show c.pn.length+0<=8; omega,λd h=>by have h:c.now=some d:=h; rw[Q] at h; cases h⟩
 | cons o r=>
  have hlen:=pH B;have H:=nY B;have J:=lT H;have E:c.done.length+(o::r).length<=8:=by omega
  have F:c.pn.length+(o::r).length<=8:=by omega
  by_cases G:o.d % 4=3
  ·unfold dR;rw[B];dsimp only;rw[if_neg (by rw[hm.br]; simp),if_pos G];refine⟨E,F,λd h=>?_⟩;cases h
   exact⟨by show 1<=((aL o).map bO).length; rw[List.length_map]; exact J.1,Nat.zero_le _,Nat.zero_le _,Nat.zero_le _,trivial⟩
  ·by_cases K:(aR c g).length<(aL o).length
   ·rw[ui B hm.br G K];exact⟨E,F,λd h=>by have h:c.now=some d:=h; rw[Q] at h; cases h⟩
   ·cases A:jT {c with ops:=o::r} o (aL o) (aR c g) with
    | mk q a=>
     cases q with
     | some c2=>
      rw[mh B hm.br G K A];unfold jT at A;dsimp only at A;split at A
      ·obtain⟨u,T⟩:=Prod.mk.inj A;split at u
       ·cases u;refine⟨E,F,λd h=>?_⟩;cases h;exact⟨Nat.zero_le _,(by decide:0<4),trivial⟩
       ·cases u
      ·split at A
       ·obtain⟨u,T⟩:=Prod.mk.inj A;split at u
        ·cases u;refine⟨E,F,λd h=>?_⟩;cases h;trivial
        ·cases u
       ·obtain⟨u,T⟩:=Prod.mk.inj A;split at u
        ·cases u;refine⟨E,F,λd h=>?_⟩;cases h;trivial
        ·cases u
     | none=>
      exfalso;have e:(dR c g).1.broken=true:=by
       unfold dR;rw[B];dsimp only;rw[if_neg (by rw[hm.br]; simp),if_neg G];have L:¬(if c.seen=[] then [] else c.seen.dropLast++[g.w]).length<(aL o).length:=K;rw[if_neg L];have M:jT {c with ops:=o::r} o (aL o) (if c.seen=[] then [] else c.seen.dropLast++[g.w])=(none,a):=A;rw[M]
      rw[e] at R;cases R
def qS.aux (R:1<=t/\t<=3) (y:qS D V O s t c a) (X:wV n c a) (H:Ww g.w) (u:(cO c g).1.broken=false):wV (n+1) (cO c g).1 (cO c g).2.1:=by
 obtain⟨E,F,B⟩:=X;unfold qS at y;unfold cO at u⊢;cases J:c.now with
 | none=>
  rw[J] at y u;exact wV.idle J E F y.1 u
 | some d=>
  rw[J] at y u;obtain⟨G,T,K,y⟩:=y;have B:=B d J;have L:=G.sq;have U:c.ops.tail.length+1=c.ops.length:=by
   cases ho:c.ops with
   | nil=>exact absurd ho K
   | cons a b=>rfl
  have M:∀A,(cR d g).1=A->match A with | .sw w=>jF w (cR d g).2.1 | .bl b=>m9 b (cR d g).2.1 | .pk p=>uT (n+1) p (cR d g).2.1:=by
   rintro A rfl;cases d with
   | sw w=>
    obtain⟨_,y⟩:=y;rcases y with ⟨y,_⟩| ⟨y,_⟩
    ·exact y.aux R B H
    ·exact y.aux B H
   | bl b=>exact y.1.aux B H
   | pk p=>exact y.1.aux B H
  dsimp only at u⊢;unfold vm at u⊢;cases Z:cR d g with
  | mk A q=>
   obtain⟨a',dd⟩:=q;rw[Z] at M u;cases dd with
   | false=>exact⟨E,F,λd2 h=>by cases h; exact M A rfl⟩
   | true=>
    have Q:(yY A).length<=1:=by cases A <;> simp[yY]
    refine wV.idle (t:=t) (k:=101) rfl ?_ ?_ ⟨G.t,G.br,λo ho=>G.ops o (List.mem_of_mem_tail ho),⟨L.1,by show c.seq+(c.ops.tail.length:Nat)<=101; omega⟩,(by have:=G.h8; show c.ops.tail.length<=8; omega)⟩ u
    ·dsimp only; rw[List.length_append,List.length_singleton]; omega
    ·dsimp only; rw[List.length_append]; omega
end
structure WJ (m:Mj) (ts:List CR) (N:Int) (n:Nat):Prop where
 wi:WI m.me ts N
 ww:∀k,k<512->∀x∈m.me.at k,Ww x.w
 ax:∀(i:Nat) (x:CR),ts[i]?=some x->wV n x.1 x.2.1
section
variable {N:Int} {t:Nat} {a:Ac} {g:cP} {n:Nat} {c:Cn} {m m':Mj} {ts:List CR} {x:CR}
def wV.up (X:wV n c a):wV (n+1) c a:=⟨X.dn,X.sm,λd h=>by
 have:=X.d d h;cases d with
 | sw w=>exact this
 | bl b=>exact this
 | pk p=>exact⟨this.S4,this.nw,this.ws,Nat.le_succ_of_le this.rd,this.ph⟩⟩
def G1 (I:∀k,k<512->∀x∈m.me.at k,Ww x.w) (K:Gg 512 m.me) {k:Nat} (h:k<512):Ww (m.me.top k).w:=I k h _ (sU (K.ne k h))
def xz.ww (I:∀k,k<512->∀x∈m.me.at k,Ww x.w) (K:Gg 512 m.me) (A:jB a) (h:xz m t a m' g):(∀k,k<512->∀x∈m'.me.at k,Ww x.w)/\Ww g.w:=by
 have hs:=K.hs;have add:∀{me:Me} {i:Nat} {w:W3} {wl:Bool},(∀k,k<512->∀x∈me.at k,Ww x.w)->i<me.hs.length->Ww w->∀k,k<512->∀x∈(me.add t i w wl).at k,Ww x.w:=λ{me i w wl} I hi hw k B x u=>by
  rw[nF hi] at u;split at u
  ·rename_i e;subst e;rcases List.mem_append.1 u with u | u
   ·exact I k B x u
   ·rw[List.mem_singleton.1 u]; exact hw
  ·exact I k B x u
 cases h with
 | look i o n hi=>exact⟨I,G1 I K (by omega)⟩
 | load i q x o n hi u E=>exact⟨I,I i (by omega) x (List.mem_of_getElem? u)⟩
 | put i o w wl hi=>exact⟨add I hi (A.w (by cases wl <;> simp)),Rx⟩
 | swap i o w hi=>
  refine⟨?_,G1 I K (by omega)⟩;show ∀k,k<512->∀x∈(m.me.Dm t i o w).at k,Ww x.w;unfold Me.Dm;split
  ·exact add (me:=m.me.lO t i _ _ true) I hi (A.w (.inr (.inr rfl)))
  ·exact I
 | flush i o n hi=>exact⟨I,Rx⟩
 | sync p o n=>exact⟨I,Rx⟩
def WJ.step (I:WJ m ts N n) (G:N+1<1000000) (F:n<=1000000) (h:1<=t) (q:ts[t - 1]?=some (c,a,false)) :
  jB a/\(a.op=1->∀i:Nat,a.at'=i->m.me.view t i<=((m.me.at i).length - 1:Nat))/\
  ∀m' g,xz m t a m' g->MM c g/\Ww g.w/\WJ m' (ts.set (t - 1) (cO c g)) (N+1) (n+1)/\GI (sh m.me).W (sh m'.me).W/\∀p,p<56->(sh m'.me).W p=(sh m.me).W p:=by
 obtain⟨D,V,O,H,B,y,u⟩:=I.wi.tc h q;have X:=I.ax _ _ q;have A:=(List.getElem?_eq_some_iff.1 q).1;have E:=(qS.gg H ⟨h,u⟩ y X F).1;refine⟨E,λh1 i hi=>?_,λm' g hs=>?_⟩
 ·rcases E.ok with e | ⟨_,_,e⟩
  ·omega
  ·exact I.wi.mw.view t (by omega)
 ·obtain⟨w1,w2,w3⟩:=I.wi.step G h q hs;obtain⟨v1,v2⟩:=hs.ww I.ww I.wi.mw E;refine⟨qS.VG H ⟨h,u⟩ y X F (hs.T0 I.wi.mw ⟨h,u⟩),v2,⟨w1,v1,λi x hi=>?_⟩,w2,w3⟩;have J:=w1.ok hi;rw[List.getElem?_set] at hi;by_cases e:t - 1=i
  ·rw[if_pos e,if_pos A] at hi;cases hi
   exact qS.aux ⟨h,u⟩ y X v2 J
  ·rw[if_neg e] at hi;exact(I.ax i x hi).up
def WJ.start {ws:List W3} {first:List Int} {k:Nat} {du:Bool} {opss:List (List iZ)} (hw:BW (sK first k) ws) (q:k<=6) (u:∀z∈first,-128<=z/\z<=127) (B:opss.length<=3)
  (ho:∀ops∈opss,ops.length<=8/\∀o∈ops,FW o):WJ (Mj.new 3 ws) (opss.mapIdx λi ops=>cO (yW du i ops) kq) 1000 0:=by
 have W:WI (Mj.new 3 ws).me (opss.mapIdx λi ops=>cO (yW du i ops) kq) 1000:=WI.start (du:=du) hw q u B ho;refine⟨W,λi hi x A=>?_,λi x hi=>?_⟩
 ·rw[show(Mj.new 3 ws).me.at i=[⟨sK first k i,λ_=>0⟩] from CG (hw.2 i hi),List.mem_singleton] at A;subst A;exact(MI.start q u).2.1 i
 ·have E:=W.ok hi;rw[List.getElem?_mapIdx] at hi;cases h:opss[i]? with
  | none=>rw[h] at hi; cases hi
  | some ops=>
   rw[h] at hi;simp only[Option.map_some,Option.some.injEq] at hi;subst hi;have h8:=ho ops (List.mem_of_getElem? h);exact wV.idle (t:=i+1) (k:=100) (c:=yW du i ops) rfl (by show 0+ops.length<=8; omega) (by show 0+ops.length<=8; omega) ⟨rfl,rfl,h8.2,(by show(0:Int)<=0/\(0:Int)+(ops.length:Nat)<=100; omega),h8.1⟩ E
def Ks {du:Bool} {i:Nat} {ops:List iZ} (hi:i<3) (h8:ops.length<=8) (ho:∀o∈ops,FW o):MM (yW du i ops) kq:=
 ⟨rfl,Nat.zero_le _,Nat.zero_le _,λ_=>Ph.of (t:=i+1) (k:=100) ⟨rfl,rfl,ho,(by show(0:Int)<=0/\(0:Int)+(ops.length:Nat)<=100; omega),h8⟩ (by omega) (by decide) (Nat.zero_le _) (λw hw=>by cases hw) (λo r _ _=>Nat.zero_le _),λd h=>by cases h⟩
end
variable {h h0 h':Hp} {F F0:Fp} {R:Value->Hp->Prop} {L:List aX} {B B':Bs}
structure GW (B:Bs) (Ws:List aX) (w:WV) (m:Mj) (ts:List CR) (sts:List Bool) (n:Nat):Prop where
 ex:∃tks gss b,yo B 3 w m tks gss sts/\xP 3 512 b m/\b<=n+1/\tks.length=ts.length/\(∀gs∈gss,gs.length<=n)/\
  ∀(i:Nat) (tk:Tk) (x:CR) (W:aX),tks[i]?=some tk->ts[i]?=some x->Ws[i]?=some W->tk.t=89/\tk.dn=x.2.2/\tk.act=(if x.2.2 then jG else x.2.1)/\GX B W tk.v x.1
 wl:Ws.length=ts.length
def GW.le {Ws:List aX} {w:WV} {m:Mj} {ts:List CR} {sts:List Bool} {n:Nat} (H:GW B Ws w m ts sts n) (l:B.le B'):GW B' Ws w m ts sts n:=by
 obtain⟨⟨q,u,b,h1,h2,A,E,G,J⟩,K⟩:=H;exact⟨⟨q,u,b,h1.le l,h2,A,E,G,λi tk x W O Q T=>let⟨U,q2,q3,q4⟩:=J i tk x W O Q T; ⟨U,q2,q3,q4.le l⟩⟩,K⟩
def GW.up {Ws:List aX} {w:WV} {m:Mj} {ts:List CR} {sts:List Bool} {n:Nat} (H:GW B Ws w m ts sts n):GW B Ws w m ts sts (n+1):=by
 obtain⟨⟨q,u,b,h1,h2,O,A,E,G⟩,J⟩:=H;exact⟨⟨q,u,b,h1,h2,by omega,A,λgs K=>Nat.le_succ_of_le (E gs K),G⟩,J⟩
inductive My (kd z:Int) (m:Mj) (ts:List CR) (sts:List Bool):Mj->List CR->List Bool->Prop where
 | stay:(kd=0->∀(t:Nat) (c:Cn) (a:Ac),z=t->1<=t->ts[t - 1]?=some (c,a,false)->sts[t - 1]?=some false->False)->My kd z m ts sts m ts sts
 | stop (t:Nat):kd=1->My kd z m ts sts m ts (sts.set (t - 1) true)
 | step (t:Nat) (c:Cn) (a:Ac) (m':Mj) (g:cP):kd=0->z=t->1<=t->ts[t - 1]?=some (c,a,false)->sts[t - 1]?=some false->xz m t a m' g->My kd z m ts sts m' (ts.set (t - 1) (cO c g)) sts
section
variable {w:WV} {m:Mj} {ts:List CR} {sts:List Bool} {n k:Nat} {Ws M:List aX} {N kd z ch:Int}
def GI.Pr (W:Int->W3):GI W W:=.same (λwho _ ⟨q,a,b⟩=>by rw[a] at b; cases b) λ_ _ _=>rfl
def WI.up (I:WI m.me ts N) (q:N+1<1000000):WI m.me ts (N+1):=by
 obtain⟨⟨D,V,O,h1,h2,u⟩,A,H,E,G⟩:=I;exact⟨⟨D,V,O,h1.mono (by omega) q,h2,u⟩,A,by omega,E,G⟩
def Oc (hZ:On B Zs) (c:Cx F h h [aD M,aD Ws]) (hB:∀h',Ch F h h'->B.p h') (H:GW (B.and M) Ws w m ts sts n) (J:WJ m ts N k) (U:¬kd=2) (hN:N+1<1000000) (hk:k<=1000000) (hn:n<=800000)
  (hR:∀w' A V O dO M' b h',My kd z m ts sts A V O->Cx F h h' [aD M',aD dO]->GW (B.and M') dO w' A V O (n+1)->WJ A V (N+1) (k+1)->(B.and M).le (B.and M')->GI (sh m.me).W (sh A.me).W/\(∀p,p<56->(sh A.me).W p=(sh m.me).W p)->R (.tuple #[rX w',.bool b]) h'):cT.1 (rX w) (Py kd z ch) h R:=by
 obtain⟨⟨K,X,b,Z,hK,hb,eQ,aS,hT⟩,iF⟩:=id H;have hlen:=J.wi.len;have b0:(B.and M).p h:=⟨hB _ (.refl _ _),c.get (i:=0) rfl⟩;have J1:WJ m ts (N+1) (k+1):=⟨J.wi.up hN,J.ww,λi x T=>(J.ax i x T).up⟩;have stay:(kd=0->∀(t:Nat) (c:Cn) (a:Ac),z=t->1<=t->ts[t - 1]?=some (c,a,false)->sts[t - 1]?=some false->False)->∀h',Gr h h'->R (.tuple #[rX w,.bool false]) h':=λhs h' g=>
  hR w m ts sts Ws M false h' (.stay hs) (c.more g) H.up J1 (Bs.le_refl _) ⟨GI.Pr _,λ_ _=>rfl⟩
 have uS:=Z.sl;have tO:=Z.gl;by_cases hz:1<=z/\z<=K.length
 ·obtain⟨t,rfl⟩:∃t:Nat,z=t:=⟨z.toNat,by omega⟩;have T:=List.getElem?_eq_getElem (l:=K) (i:=t - 1) (by omega);have hy:=List.getElem?_eq_getElem (l:=ts) (i:=t - 1) (by omega);have hs:=List.getElem?_eq_getElem (l:=sts) (i:=t - 1) (by omega);have hg:=List.getElem?_eq_getElem (l:=X) (i:=t - 1) (by omega);have hw:=List.getElem?_eq_getElem (l:=Ws) (i:=t - 1) (by omega);generalize K[t - 1]'(by omega)=tk at T;generalize ts[t - 1]'(by omega)=x at hy;generalize sts[t - 1]'(by omega)=q at hs;generalize X[t - 1]'(by omega)=gs at hg;generalize Ws[t - 1]'(by omega)=W at hw;obtain⟨q1,q2,q3,q4⟩:=hT _ _ _ _ T hy hw;have hgs:=aS gs (List.mem_of_getElem? hg);by_cases u:q=false/\tk.dn=false
  ·obtain⟨rfl,hd⟩:=u;obtain⟨cn,a,d⟩:=x;dsimp only at q2 q3 q4;rw[hd] at q2;subst q2;rw[if_neg (by decide)] at q3;by_cases h0:kd=0
   ·subst h0;obtain⟨hA,hv,aT⟩:=J.step hN hk (by omega) hy;obtain⟨F',d',hM,up⟩:=c.ws hB hw;rw[<-q3] at hA hv aT;refine H3 (t:=t) (n:=512) (b:=b) (tk:=tk) (gs:=gs) (Q:=λA g B W v' a' d'=>a'=(cO cn g).2.1/\d'=(cO cn g).2.2/\GX B W v' (cO cn g).1) d' hM Z hK (by omega) (by omega) (by omega) T hs hg (by omega) hd hA.ok hA.old hA.nw hv (by rw[q1]; exact tS) (λ{A g B B'} l {W v a d} H=>⟨H.1,H.2.1,H.2.2.le l⟩) (λA g hs B' l=>?_) λA g w' v' a' d2 s' W' N' h' hs c' hq iN=>?_
    ·obtain⟨hc,iS,_⟩:=aT A g hs;exact λh F R c hB hR=>bC.2 (FN (hZ.le ((Bs.aJ _ _).trans l)) (q4.le l) hc iS c hB λv' W' N h' c' ok=>by have y:=hR v' _ _ W' N h' c' ⟨rfl,rfl,ok⟩; rwa [q1] at y)
    ·obtain⟨_,_,hJ,hF⟩:=aT A g hs;obtain⟨rfl,rfl,oF⟩:=hq;rw[q3] at hs;refine hR w' A _ sts _ _ true h' (.step t cn a A g rfl rfl (by omega) hy (by assumption) hs) (up c') ⟨⟨_,_,b+1,iN.le Bs.Ay,hK.step hs,by omega,by rw[List.length_set,List.length_set]; exact eQ,λoR rW=>?_,λi bY x' W2 E G e3=>?_⟩,by rw[List.length_set,List.length_set]; exact iF⟩ hJ (Bs.iB (i:=0) rfl) hF
     ·rcases List.mem_or_eq_of_mem_set rW with h | h
      ·exact Nat.le_succ_of_le (aS oR h)
      ·rw[h,List.length_append,List.length_singleton]; omega
     ·rw[List.getElem?_set] at E G e3;by_cases ei:t - 1=i
      ·rw[if_pos ei,if_pos (by omega)] at E G e3;cases E; cases G; cases e3
       exact⟨q1,rfl,rfl,oF.le Bs.Ay⟩
      ·rw[if_neg ei] at E G e3;obtain⟨y1,y2,y3,y4⟩:=hT i bY x' W2 E G e3;exact⟨y1,y2,y3,y4.le ((Bs.aJ _ _).trans Bs.Ay)⟩
   ·by_cases h1:kd=1
    ·subst h1;refine DG b0 Z hK (by decide) (by omega) (by omega) T hs hd λw' N' h' c' ok=>?_;have c2:=c.aF c';refine hR w' m ts _ Ws [aD M,aD N'] true h' (.stop t rfl) ((Cx.pack (L:=[_]) (M:=[_,_]) (c2.pick [1,0,2])).pick [1,0]) ⟨⟨K,X,b,ok.le Bs.Ay,hK,by omega,eQ,λgs hg=>Nat.le_succ_of_le (aS gs hg),λi bY x' W2 E G e3=>?_⟩,iF⟩ J1 (Bs.iB (i:=0) rfl) ⟨GI.Pr _,λ_ _=>rfl⟩;obtain⟨y1,y2,y3,y4⟩:=hT i bY x' W2 E G e3;exact⟨y1,y2,y3,y4.le ((Bs.aJ _ _).trans Bs.Ay)⟩
    ·exact Gn b0 Z hK (by decide) (by omega) (by omega) T hs hd h0 h1 U (stay λe=>absurd e h0)
  ·refine wL b0 Z hK (by decide) (by omega) U (.inl λt' ht e=>⟨tk,q,?_,?_,?_⟩) (stay λ_ t' c a e ht E G=>?_)
   ·rw[show t'=t by omega]; exact T
   ·rw[show t'=t by omega]; exact hs
   ·by_cases hq:q=true
    ·exact .inl hq
    ·exact .inr (by simpa[hq] using u)
   ·rw[show t'=t by omega] at E G;rw[hy] at E;rw[hs] at G;cases E; cases G
    exact u ⟨rfl,q2⟩
 ·refine wL b0 Z hK (by decide) (by omega) U (.inr hz) (stay λ_ t c a e ht E G=>?_);have:=(List.getElem?_eq_some_iff.1 E).1;omega
end
section
variable {m m':Mj} {ts ts':List CR} {N:Int} {n:Nat} {c who:Int} {W W':Int->W3} {bs cQ:List W3} {es:List Et} {e:Et}
def M8 (hs:m.me.hs.length=512):cV m.words=(sh m.me).W:=funext λp=>by
 by_cases h:0<=p
 ·obtain⟨n,rfl⟩:∃n:Nat,p=n:=⟨p.toNat,by omega⟩;rw[Qv];by_cases q:n<512
  ·exact yZ h (by rw[Int.toNat_natCast]; exact Mj.za (by omega))
  ·unfold cV Me.top Me.at;rw[if_pos h,Int.toNat_natCast,List.getD_eq_getElem?_getD,List.getElem?_eq_none (by rw[Mj.pK]; omega),List.getD_eq_getElem?_getD,List.getElem?_eq_none (by omega)]; rfl
 ·unfold cV sh;dsimp only;rw[if_neg h,if_neg h]
def WJ.words (J:WJ m ts N n):m.words.length=512/\(∀w∈m.words,Ww w)/\cV m.words=(sh m.me).W:=by
 have hs:=J.wi.mw.hs;refine⟨Mj.pK.trans hs,λw hw=>?_,M8 hs⟩;obtain⟨i,hi,rfl⟩:=List.mem_iff_getElem.1 hw;rw[Mj.pK,hs] at hi;have:=Mj.za (m:=m) (i:=i) (by omega);rw[List.getElem?_eq_getElem (by rw[Mj.pK]; omega)] at this;rw[Option.some.inj this];exact G1 J.ww J.wi.mw hi
def WI.UC {m:Me} (I:WI m ts N) (hw:bA who):((sh m).W (aC who)).ref=0:=by
 obtain⟨D,V,O,H,_,_⟩:=I.ex;obtain⟨v,q,J⟩:=H.st who hw;rw[J.eq]
def QC {w:Nat} (h:0<=aC w):bA w:=by
 unfold aC eN cK at h;unfold bA
 (repeat' split at h) <;> omega
def z6 (h1:∀who,bA who->(W (aC who)).ref=0) (h2:∀who,bA who->(W' (aC who)).ref=0) {w:Nat}:pp W W' w=true↔bA w/\∃q,W (aC w)=⟨0,q,0⟩/\W' (aC w)=⟨1,q,0⟩:=by
 unfold pp;rw[decide_eq_true_eq];constructor
 ·rintro⟨a,b,c,d⟩;have hw:=QC a;have u:=h1 w hw;have A:=h2 w hw;generalize W (aC w)=x at *;generalize W' (aC w)=y at *;obtain⟨G,E,H⟩:=x;obtain⟨J,K,M⟩:=y;dsimp only at b c d u A;subst b c d u A;exact⟨hw,E,rfl,rfl⟩
 ·rintro⟨hw,q,a,b⟩;have:=cY hw;rw[a,b];exact⟨by omega,rfl,rfl,rfl⟩
def Ke {ws:List W3} (h:∀w∈ws,Ww w) (c:Int):Ww (cV ws c):=by
 unfold cV;split
 ·rw[List.getD_eq_getElem?_getD];cases q:ws[c.toNat]? with
  | none=>exact Rx
  | some x=>exact h x (List.mem_of_getElem? q)
 ·exact Rx
inductive JT (bs cQ:List W3):Prop where
 | same:(∀w:Nat,1<=w->w<=12->pp (cV bs) (cV cQ) w=false)->pT bs=pT cQ->JT bs cQ
 | swap (og:Nat) (q:Int) (es:List Et):1<=og/\og<=12->pp (cV bs) (cV cQ) og=true->(∀w:Nat,1<=w->w<og->pp (cV bs) (cV cQ) w=false)->Cu (cV cQ) og=some (1,q,es)->Good es->
   (∀e∈es,(pT bs)[e.at'.toNat]?=some ⟨e.old.v,e.old.aO,0⟩)->tA es (pT bs)=pT cQ->JT bs cQ
 | one (i:Nat) (x:W3) (v:Int):(∀w:Nat,1<=w->w<=12->pp (cV bs) (cV cQ) w=false)->i<512->(∀j,¬j=i->(pT bs)[j]?=(pT cQ)[j]?)->(pT bs)[i]?=some x->(pT cQ)[i]?=some ⟨v,x.aO+1,0⟩->0<=x.aO+1/\x.aO+1<4294967296->JT bs cQ
def EG (h:(W c).ref=0):qZ W c=⟨(W c).v,(W c).aO,0⟩:=by
 unfold qZ;dsimp only;rw[h,if_pos (by decide)]
def Ie (q:Ww (W c)):0<=(qZ W c).aO/\(qZ W c).aO<4294967296:=by
 have:=q.aO;unfold qZ;dsimp only
 (repeat' split) <;> dsimp only <;> omega
def Gv {l:List W3} {i:Nat}:(J3 l e)[i]?=if e.wr=true/\e.at'.toNat=i/\i<l.length then some ⟨e.new,(e.old.aO+1) % 4294967296,0⟩ else l[i]?:=by
 unfold J3;by_cases hw:e.wr=true
 ·rw[if_pos hw,List.getElem?_set];by_cases hi:e.at'.toNat=i
  ·rw[if_pos hi];by_cases q:i<l.length
   ·rw[if_pos (by omega),if_pos ⟨hw,hi,q⟩]
   ·rw[if_neg (by omega),if_neg λh=>q h.2.2,List.getElem?_eq_none (by omega)]
  ·rw[if_neg hi,if_neg λh=>hi h.2.1]
 ·rw[if_neg hw,if_neg λh=>hw h.1]
def DK {i:Nat}:∀(es:List Et) (l:List W3),i<l.length->(∀e∈es,0<=e.at')->(∀(j k:Nat) (a b:Et),j<k->es[j]?=some a->es[k]?=some b->a.at'<b.at')->
  (tA es l)[i]?=match mZ es i with
   | some e=>if e.wr=true then some ⟨e.new,(e.old.aO+1) % 4294967296,0⟩ else l[i]?
   | none=>l[i]?
 | [],l,_,_,_=>rfl
 | e::r,l,hi,h0,hs=>by
  have q:=DK r (J3 l e) (by rw[HB]; exact hi) (λx u=>h0 x (List.mem_cons_of_mem _ u)) λj k a b A E G=>hs (j+1) (k+1) a b (by omega) E G;show(tA r (J3 l e))[i]?=_;rw[q];have he:=h0 e List.mem_cons_self;by_cases c:e.at'=i
  ·have h1:mZ (e::r) i=some e:=List.find?_cons_of_pos (p:=λe:Et=>decide (e.at'=(i:Int))) (decide_eq_true c);have h2:mZ r i=none:=List.find?_eq_none.2 λy H=>by
    obtain⟨k,J,rfl⟩:=List.mem_iff_getElem.1 H;have:=hs 0 (k+1) e _ (by omega) rfl (by rw[List.getElem?_cons_succ]; exact List.getElem?_eq_getElem J);simp only[decide_eq_true_eq]; omega
   rw[h1,h2];dsimp only;rw[Gv];by_cases hw:e.wr=true
   ·rw[if_pos ⟨hw,by omega,hi⟩,if_pos hw]
   ·rw[if_neg λh=>hw h.1,if_neg hw]
  ·have h1:mZ (e::r) i=mZ r i:=List.find?_cons_of_neg (p:=λe:Et=>decide (e.at'=(i:Int))) (by simpa using c);have h2:(J3 l e)[i]?=l[i]?:=by rw[Gv,if_neg λh=>c (by omega)]
   rw[h1,h2]
def GI.dec (hF:GI (cV bs) (cV cQ)) (u:∀p,p<56->cV cQ p=cV bs p) (hr:∀p,p<56->(cV bs p).ref=0) (h1:∀who,bA who->(cV bs (aC who)).ref=0) (h2:∀who,bA who->(cV cQ (aC who)).ref=0) (M:bs.length=512) (O:cQ.length=512) (Q:∀c,Ww (cV bs c)) (T:∀c,Ww (cV cQ c)):JT bs cQ:=by
 have no:(∀who,bA who->¬∃q,cV bs (aC who)=⟨0,q,0⟩/\cV cQ (aC who)=⟨1,q,0⟩)->∀w:Nat,1<=w->w<=12->pp (cV bs) (cV cQ) w=false:=λA w _ _=>by
  cases U:pp (cV bs) (cV cQ) w with
  | false=>rfl
  | true=>
   obtain⟨a,b⟩:=(z6 h1 h2).1 U;exact absurd b (A _ a)
 have out:∀{f:Int->W3} (i:Nat),i<512->(∀c,56<=c->c<62->f c=qZ (cV cQ) c)->(∀c,c<56->f c=qZ (cV bs) c)->(if gX i=true then qZ (cV cQ) i else W0)=if gX i=true then f i else W0:=λ{f} i hi V hl=>by
  by_cases hm:gX i=true
  ·rw[if_pos hm,if_pos hm];by_cases h:(i:Int)<56
   ·rw[hl i h,EG (by rw[u i h]; exact hr i h),EG (hr i h),u i h]
   ·have:=of_decide_eq_true hm;rw[V i (by omega) (by omega)]
  ·rw[if_neg hm,if_neg hm]
 have ext:∀{J K:List W3},J.length=512->K.length=512->(∀i:Nat,i<512->J[i]?=K[i]?)->J=K:=λ{J K} e1 e2 h=>List.ext_getElem? λi=>by
  by_cases hi:i<512
  ·exact h i hi
  ·rw[List.getElem?_eq_none (by omega),List.getElem?_eq_none (by omega)]
 have E:(pT bs).length=512:=qy.trans M;have G:(pT cQ).length=512:=qy.trans O;cases hF with
 | same a b=>
  refine .same (no a) (ext E G λi hi=>?_);rw[pa (by omega),pa (by omega),out (f:=qZ (cV bs)) i hi (λc x y=>(b c x y).symm) λc _=>rfl]
 | swap who q es hw a b hu g X ho A=>
  obtain⟨w,rfl,Z⟩:∃w:Nat,who=w/\(1<=w/\w<=12):=⟨who.toNat,by unfold bA at hw; omega,by unfold bA at hw; omega⟩;have hd:pp (cV bs) (cV cQ) w=true:=(z6 h1 h2).2 ⟨hw,q,a,b⟩;refine .swap w q es Z hd (λw' _ aT=>?_) X g (λe he=>?_) (ext (B6.trans E) G λi hi=>?_)
  ·cases U:pp (cV bs) (cV cQ) w' with
   | false=>rfl
   | true=>
    obtain⟨x,y⟩:=(z6 h1 h2).1 U;have:=hu _ x y;omega
  ·have hp:=g.pl e he;have hm:=g.may he;rw[pa (by omega),if_pos (by rw[Int.toNat_of_nonneg (by omega)]; exact hm),Int.toNat_of_nonneg (by omega),ho e he]
  ·rw[DK es _ (by omega) (λe he=>by have:=g.pl e he; omega) g.B9,pa (by omega),pa (by omega),out (f:=ux es (qZ (cV bs))) i hi (λc x y=>(A c x y).symm) λc V=>?_]
   ·unfold ux;cases hx:mZ es i with
    | none=>rfl
    | some e=>
     obtain⟨he,H⟩:=ur hx;have hm:=g.may he;have hv:=g.aO e he;rw[H] at hm;dsimp only;rw[if_pos hm,if_pos hm];by_cases hw:e.wr=true
     ·rw[if_pos hw,if_pos hw,Int.emod_eq_of_lt (by omega) (by omega)]
     ·rw[if_neg hw,if_neg hw]
   ·unfold ux;cases hx:mZ es c with
    | none=>rfl
    | some e=>
     obtain⟨he,H⟩:=ur hx;have:=g.pl e he;omega
 | one c0 v a b A h3 h4=>
  obtain⟨i,rfl⟩:∃i:Nat,c0=i:=⟨c0.toNat,by omega⟩;have hm:gX i=true:=decide_eq_true (.inl ⟨a,b⟩);have hv:=Ie (W:=cV cQ) (c:=i) (T _);have bY:=Ie (W:=cV bs) (c:=i) (Q _);rw[h3] at hv;dsimp only at hv;refine .one i (qZ (cV bs) i) v (no A) (by omega) (λj hj=>?_) (by rw[pa (by omega),if_pos hm]) (by rw[pa (by omega),if_pos hm,h3]) hv;by_cases aS:j<512
  ·rw[pa (by omega),pa (by omega),out (f:=λc=>if c=i then qZ (cV cQ) c else qZ (cV bs) c) j aS (λc x y=>?_) λc V=>?_]
   ·rw[if_neg (show ¬(j:Int)=i by omega)]
   ·by_cases e:c=i
    ·rw[if_pos e]
    ·rw[if_neg e,h4 c x y e]
   ·rw[if_neg (show ¬c=(i:Int) by omega)]
  ·rw[List.getElem?_eq_none (by omega),List.getElem?_eq_none (by omega)]
end
section
variable {va vb vw vn:Value} {bs cQ:List W3}
def Mm (Q:B.p h) (T:On B Zs) (U:On B λh=>Sl EW h vb bs) (V:On B λh=>Sl EW h va cQ) (hw:On B λh=>Sl EW h vw (pT bs)) (hv:On B λh=>Sl EW h vn (pT cQ)) (A:bs.length=512) (E:cQ.length=512) (hW:∀w∈cQ,Ww w) (D:JT bs cQ)
  (X:∀b u es h',(b=true->es.length<=1000/\(∀e∈es,(0<=e.at'/\e.at'<512)/\∃x,(pT bs)[e.at'.toNat]?=some x/\x.v=e.old.v/\x.aO=e.old.aO)/\tA es (pT bs)=pT cQ)->Cx (λ_=>False) h h' [bJ EE (aK u) es]->R (.tuple #[aK u,.bool b]) h'):dQ.1 vL vb va vw vn h R:=by
 have Z:(pT bs).length=512:=qy.trans A;have l2:(pT cQ).length=512:=qy.trans E;cases D with
 | same h1 h2=>
  exact Bw Q T U V hw hv A E Z l2 h1 (λi x y u h' H J ne _=>absurd (Option.some.inj (H.symm.trans ((congrArg (·[i]?) h2).trans J))) ne) λh' _ g=>X false (none,0,0) [] h' (λe=>by cases e) (((Cx.aB h).more g).nil EE)
 | swap og q es h1 h2 G K g O h6=>
  refine IJ Q T U V A E hW h1 h2 G K λu h' c=>X true u es h' (λ_=>⟨by have:=g.len; omega,λe he=>⟨by have:=g.pl e he; omega,_,O e he,rfl,rfl⟩,h6⟩) c
 | one i x v h1 hi h2 G K O=>
  refine Bw Q T U V hw hv A E Z l2 h1 (λj x' y u h' H J ne c=>?_) λh' e g=>?_
  ·have hj:j=i:=Classical.byContradiction λe=>ne (Option.some.inj (H.symm.trans ((h2 j e).trans J)));subst hj;rw[G] at H;rw[K] at J;cases H; cases J
   refine X true u [(⟨(j:Int),x,v,true⟩:Et)] h' (λ_=>⟨show 1<=1000 from by decide,λe he=>?_,List.ext_getElem? λk=>?_⟩) c
   ·rw[List.mem_singleton.1 he];exact⟨⟨by dsimp only; omega,by dsimp only; omega⟩,_,G,rfl,rfl⟩
   ·show(J3 (pT bs) (⟨(j:Int),x,v,true⟩:Et))[k]?=_;rw[Gv];by_cases e:k=j
    ·subst e;rw[if_pos ⟨rfl,Int.toNat_natCast _,by omega⟩,K];dsimp only;rw[Int.emod_eq_of_lt O.1 O.2]
    ·rw[if_neg λz=>e (by have:=z.2.1; dsimp only at this; omega)];exact h2 k e
  ·exfalso;rw[e,K] at G;have:=congrArg W3.aO (Option.some.inj G);dsimp only at this;omega
end
def Rv.one {W:aX} {v:Value} {d:Option Cd} (H:Rv B W v d):v.oneCell'=true:=by
 cases d with
 | none=>rw[H.1]; rfl
 | some d=>exact uP.one H
section
variable {w:WV} {m:Mj} {ts:List CR} {sts:List Bool} {n k:Nat} {Ws M:List aX} {N kd z ch:Int} {uw:SH}
def xS (hZ:On B Zs) (c:Cx F h h [aD [aD M,aD Ws]]) (Q:∀h',Ch F h h'->B.p h') (H:GW (B.and M) Ws w m ts sts n) (J:WJ m ts N k) (hu:On (B.and M) λh=>Sl EW h (aK uw) (pT m.words)) (tO:¬kd=2) (hN:N+1<1000000) (hk:k<=800000) (hn:n<=800000)
  (hR:∀w' u A E q M' u' h',My kd z m ts sts u A E->Cx F h h' [aD [aD M',aD q]]->GW (B.and M') q w' u A E (n+1)->WJ u A (N+1) (k+1)->(On (B.and M') λh=>Sl EW h (aK u') (pT u.words))->(B.and M).le (B.and M')->GI (sh m.me).W (sh u.me).W->R (.tuple #[rX w',aK u',.bool true]) h'):fY.1 (rX w) (aK uw) (Py kd z ch) h R:=by
 have fin:=hR;replace c:Cx _ _ _ [_]:=c;refine c.v9 λdO _ c=>?_;refine c.v3 λeQ _ c=>?_;refine c.v9 λiF _ c=>?_;refine tP λ_ g=>?_;have c:=c.more g;refine c.v3 λiN _ c=>?_;refine c.w3 4 λ_ c=>?_;refine c.rl 1 ?_;refine c.rl 2 ?_;obtain⟨F',d',hF,up⟩:=c.lR (i:=0) rfl;refine cT.2 (Oc hZ (Cx.unpack (L:=[]) d') (λuS ch=>Q uS (hF _ ch)) H J tO hN (by omega) hn λw' u A E q M' bb _ hp dd H' J' hle G=>?_);have c:=up (M:=[]) (Cx.pack (L:=[]) (M:=[_,_]) dd);obtain⟨⟨tks,gss,b,hO,hK,hb,htl,hgl,hT⟩,hwl⟩:=id H;obtain⟨⟨K,gss',b',Z,hK',hb',htl',hgl',hT'⟩,hwl'⟩:=id H';obtain⟨aS,ww1,T⟩:=J.words;obtain⟨U,aT,bY⟩:=J'.words;obtain⟨G,hlo⟩:=G;have D:JT m.words u.words:=GI.dec (by rw[T,bY]; exact G) (by rw[T,bY]; exact hlo) (by rw[T]; exact J.wi.lo) (by rw[T]; exact λwho hw=>J.wi.UC hw) (by rw[bY]; exact λwho hw=>J'.wi.UC hw) aS U (Ke ww1) (Ke aT);replace c:=c.n5;refine vx rfl<|vx rfl<|c.v9 λX _ c=>?_;refine c.w9 5 λ_ c=>?_;refine aE<|vx (c.vp (i:=5) (ds:=[_,_,_,_,_,_,_]) rfl rfl rfl) ?_;have O:(B.and M').p _:=Bs.iB (i:=0) rfl _ ⟨Q _ c.gr,c.get (i:=0) rfl⟩;refine eK.2 (C3 (v:=w'.m) O Z.ko hK' (by omega) λu1 _ d=>?_);have c:=c.aF d;replace c:=c.n7;refine c.rl 4 ?_;refine gA.2 (KC (B:=Bs.of _) (Ch.refl _ _) (λh' g=>(hZ _ (Q _ c.gr)).gr g) (λh' g=>(c.sl (i:=6) rfl).sl.gr g) U aT λg1 _ d=>?_);have c:=c.aF d;replace c:=c.n8;refine c.rl 4 ?_;refine aE<|vx (c.vp (i:=1) (ds:=[_,_,_,_,_,_,_]) rfl rfl rfl) ?_;have O:(B.and M').p _:=Bs.iB (i:=0) rfl _ ⟨Q _ c.gr,c.get (i:=0) rfl⟩;refine eK.2 (C3 (v:=w.m) (hle _ O) hO.ko hK (by omega) λu2 _ d=>?_);have c:=c.aF d;replace c:=c.n9;refine c.al 4 ?_;have O:(B.and M').p _:=Bs.iB (i:=0) rfl _ ⟨Q _ c.gr,c.get (i:=0) rfl⟩;refine dQ.2 (Mm (B:=Bs.of _) (Ch.refl _ _) (λh' g=>(hZ _ (Q _ c.gr)).gr g) (λh' g=>(c.sl (i:=8) rfl).sl.gr g) (λh' g=>(c.sl (i:=6) rfl).sl.gr g) (λh' g=>(hu _ (hle _ O)).gr g) (λh' g=>(c.sl (i:=7) rfl).sl.gr g) aS U aT D λbd ue es _ hd d=>?_);have c:=c.aF d;replace c:=c.Oo;refine vx rfl<|vx rfl<|m3.at (λv h'=>v=.bool false/\Cx F h h' [aD [aD M',aD q],rV dO (HU w),rV eQ [.int .i64 kd,.int .i64 z,.int .i64 ch],rV iF uU.toList,rV iN [.int .i64 3,.int .i64 6,.int .i64 4],rV X (HU w'),bJ EW (aK u1) u.words,bJ EW (aK g1) (pT u.words),bJ EW (aK u2) m.words,bJ EE (aK ue) es]) ?_ ?_
 ·refine En.br (λiS=>?_) λiS=>?_
  ·obtain⟨d1,d2,d3⟩:=hd iS;have O:(B.and M').p _:=Bs.iB (i:=0) rfl _ ⟨Q _ c.gr,c.get (i:=0) rfl⟩;refine gS.2 (NY (B:=Bs.of _) (Ch.refl _ _) (λh' g=>(hu _ (hle _ O)).gr g) (λh' g=>(c.sl (i:=9) rfl).sl.gr g) d1 (λe he=>⟨(d2 e he).1.1,(d2 e he).2⟩) λ_ g=>?_);have c:=c.more g;refine vx (v:=.bool false) (rfl)<|aN ?_;have O:(B.and M').p _:=Bs.iB (i:=0) rfl _ ⟨Q _ c.gr,c.get (i:=0) rfl⟩;have hl1:(pT m.words).length=512:=qy.trans aS;refine lE.2 (Ox (B:=Bs.of _) (Ch.refl _ _) (λh' g=>(hu _ (hle _ O)).gr g) (λh' g=>(c.sl (i:=9) rfl).sl.gr g) d1 (by omega) (λe he=>by rw[hl1]; exact(d2 e he).1) λus _ d=>?_);rw[d3] at d;have c:=c.aF d;replace c:=c.QH;refine lK.2 (QV (B:=Bs.of _) (ws:=pT u.words) (Ch.refl _ _) (λh' g=>(c.sl (i:=10) rfl).sl.gr g) (λh' g=>(c.sl (i:=7) rfl).sl.gr g) (by rw[qy,U]; decide) λ_ g=>?_);have c:=c.more g;exact vx (v:=.bool false) rfl<|⟨rfl,c.pick [0,1,2,3,4,5,6,7,8,9]⟩
  ·exact⟨rfl,c.pick [0,1,2,3,4,5,6,7,8,9]⟩
 ·rintro _ h14' ⟨rfl,c⟩;replace c:=c.Oo;refine aN<|aE<|c.rc 5 ?_;have O:(B.and M').p _:=Bs.iB (i:=0) rfl _ ⟨Q _ c.gr,c.get (i:=0) rfl⟩;refine vx (Z.ts _ O).ln<|oP.by (λ(i:Nat) v h'=>v=.int .i64 i/\i<=K.length/\Cx F h h' [aD [aD M',aD q],rV dO (HU w),rV eQ [.int .i64 kd,.int .i64 z,.int .i64 ch],rV iF uU.toList,rV iN [.int .i64 3,.int .i64 6,.int .i64 4],rV X (HU w'),bJ EW (aK u1) u.words,bJ EW (aK g1) (pT u.words),bJ EW (aK u2) m.words,bJ EE (aK ue) es]) (λi=>K.length - i) 0 ⟨rfl,Nat.zero_le _,c⟩ ?_;clear O;rintro i _ h16' ⟨rfl,hi,c⟩ again V;have O:(B.and M').p _:=Bs.iB (i:=0) rfl _ ⟨Q _ c.gr,c.get (i:=0) rfl⟩;have hln:=J'.wi.len;refine vx aV<|dW (λe65=>?_) λe65=>?_
  ·have hx:=List.getElem?_eq_getElem (l:=K) (i:=i) (by omega);have hy:=List.getElem?_eq_getElem (l:=A) (i:=i) (by omega);have hw:=List.getElem?_eq_getElem (l:=q) (i:=i) (by omega);generalize K[i]'(by omega)=tk at hx;generalize A[i]'(by omega)=x at hy;generalize q[i]'(by omega)=W at hw;obtain⟨q1,q2,q3,y,q4,q5,q6⟩:=hT' _ _ _ _ hx hy hw;have oF:=q5.br.trans (J'.wi.ok hy);have oR:=q6.one;obtain⟨tt,tv,td,ta,rW⟩:=tk;dsimp only at q1 q2 q3 q4;subst q1 q4;refine(Z.ts _ O).whole rfl hx rfl ?_;refine c.v11 λ_ _ c=>?_;refine c.vw 10 rfl (vs:=Ob ⟨89,wy y,td,ta,rW⟩) rfl (List.all_eq_true.2 λx hx=>Ff.one ⟨89,wy y,td,ta,rW⟩ x hx) rfl rfl λ_ c=>?_;replace c:=c.QH;refine c.rl 10 ?_;refine mJ.2 (OQ (x:=y) (λ_ g=>?_) oR);have c:=c.more g;obtain⟨x1t,x1q,x1d,x1o,x1s,x1n,x1e,x1dn,x1sm,x1b⟩:=y;dsimp only at oF oR;subst oF;refine vx rfl<|vx rfl<|c.FT λ_ _ c=>?_;refine c.Od 11 λ_ c=>?_;refine .here<|vx (v:=.bool false) (rfl)<|aN<|aE<|c.rc 11 ?_;exact aN<|vx (inc (by omega))<|V (i+1) _ _ ⟨rfl,by omega,c.pick [0,1,2,3,4,5,6,7,8,9]⟩ (by omega)
  ·refine c.rl 5 ?_;refine c.w9 3 λ_ c=>?_;refine c.rl 3 ?_;have c:=Cx.unpack (L:=[_]) (c.pick [7,0]);have c:=Cx.pack (L:=[_]) (M:=[aD M',bJ EW (aK g1) (pT u.words)]) (c.pick [2,1,0]);have c:=Cx.pack (L:=[]) (M:=[_,_]) (c.pick [1,0]);have l1:(B.and M').le (B.and [aD M',bJ EW (aK g1) (pT u.words)]):=Bs.iB (i:=0) rfl;exact fin w' u A E q _ g1 _ hp c (H'.le l1) J' (On.sl (i:=1) rfl) (hle.trans l1) G
end
def EPi:jZ (Int × Int × Int):={n:=3,c:=λx=>[.int .i64 x.1,.int .i64 x.2.1,.int .i64 x.2.2],len:=λ_=>rfl,one:=λa v h=>by simp only[List.mem_cons,List.not_mem_nil,or_false] at h; rcases h with rfl | rfl | rfl <;> rfl}
def OB (B:Bs) (X:Mj->List CR->Prop) (F:Fp) (h h':Hp) (q A E:Nat) (on:Bool) (ch:Int) (T n:Nat) (u:Value) (m:Mj) (ts:List CR) (sts:List Bool):Prop:=
 ∃(w:WV) (Ws M:List aX) (uw:SH) (st:Int),u=aK uw/\Cx F h h' [aD [aD M,aD Ws],rV q [.bool on,.int .i64 ch,.int .i64 st],rV A (HU w),rV E uU.toList]/\GW (B.and M) Ws w m ts sts n/\WJ m ts (1000+n) n/\(On (B.and M) λh=>Sl EW h (aK uw) (pT m.words))/\X m ts/\ts.length=T
def vK (ts:List CR) (sts:List Bool) (t:Nat):Bool:=match ts[t - 1]?,sts[t - 1]? with
 | some x,some q=>!x.2.2&&!q
 | _,_=>false
def Aw {ts:List CR} {sts:List Bool} {t:Nat} {x:CR} {q:Bool} (h1:ts[t - 1]?=some x) (h2:sts[t - 1]?=some q):vK ts sts t=(!x.2.2&&!q):=by
 unfold vK;rw[h1,h2]
section
variable {w:WV} {m m':Mj} {ts ts':List CR} {sts sts':List Bool} {n k k2 t:Nat} {Ws M:List aX} {N kd z ch:Int} {uw:SH} {X:Mj->List CR->Prop} {q:Nat} {on:Bool} {vp:Value} {picks:List (Int × Int × Int)} {st:Int}
def My.len (h:My kd z m ts sts m' ts' sts'):ts'.length=ts.length:=by
 cases h with
 | stay _=>rfl
 | stop t _=>rfl
 | step t c a m' g _ _ _ _ _ _=>rw[List.length_set]
def My.run (J:WJ m ts N k) (V:N+1<1000000) (h:My 0 t m ts sts m' ts' sts') (Q:1<=t) (A:vK ts sts t=true) (G:∃c a,ts[t - 1]?=some (c,a,false)/\AW m.me c a k2) :
  vK ts' sts' t=false\/∃c a k',k'<k2/\ts'[t - 1]?=some (c,a,false)/\AW m'.me c a k':=by
 obtain⟨c,a,u,G⟩:=G;have H:=(List.getElem?_eq_some_iff.1 u).1;have hs:sts[t - 1]?=some false:=by
  cases hs:sts[t - 1]? with
  | none=>unfold vK at A; rw[u,hs] at A; cases A
  | some q=>
   rw[Aw u hs] at A;cases q with
   | false=>rfl
   | true=>cases A
 cases h with
 | stay h=>exact(h rfl t c a rfl Q u hs).elim
 | stop T h=>cases h
 | step T c' a' m' g _ e _ E _ K=>
  obtain rfl:t=T:=by omega
  rw[u] at E;cases E
  have O:(ts.set (t - 1) (cO c g))[t - 1]?=some (cO c g):=by rw[List.getElem?_set,if_pos rfl,if_pos H]
  cases U:cO c g with
  | mk c2 r=>
   obtain⟨Z,d⟩:=r;rw[U] at O;cases d with
   | true=>left; rw[Aw O hs]; rfl
   | false=>
    obtain⟨k',h1,h2⟩:=J.wi.OA V Q u K U G;exact .inr ⟨c2,Z,k',h1,O,h2⟩
def HG (X:Mj->List CR->Prop) (q:Nat) (on:Bool) (ch:Int):Prop:=
 ∀(B:Bs) (h:Hp) (F:Fp) (R:Value->Hp->Prop) (w:WV) (m:Mj) (ts:List CR) (sts:List Bool) (Ws:List aX) (n k:Nat) (N st:Int) (uw:SH),
  Cx F h h [rV q [.bool on,.int .i64 ch,.int .i64 st]]->(∀h',Ch F h h'->B.p h')->On B Zs->GW B Ws w m ts sts n->n<=800000->WJ m ts N k->X m ts->(On B λh=>Sl EW h (aK uw) (pT m.words))->
  (∀u h',Cx F h h' [rV q [.bool on,.int .i64 ch,.int .i64 u]]->R (.bool true) h')->eR.1 (bE q) (rX w) (aK uw) h R
def Cx.Tm {A:aX} (c:Cx F h0 h (L++[A,aD [aD M,aD Ws]])):Cx F h0 h (L++[aD [aD [aD M,A],aD Ws]]):=by
 have c:Cx F h0 h ((L++[A])++[aD [aD M,aD Ws]]):=by rw[List.append_assoc]; exact c
 have c:=Cx.unpack c;have c:Cx F h0 h ((L++[aD Ws])++[aD M,A]):=c.perm (by
  rw[List.append_assoc,List.append_assoc];refine List.Perm.append_left L ?_;show List.Perm [A,aD M,aD Ws] [aD Ws,aD M,A];exact(List.reverse_perm [aD Ws,aD M,A]))
 have c:=Cx.pack c;have c:Cx F h0 h (L++[aD [aD M,A],aD Ws]):=c.perm (by
  rw[List.append_assoc];refine List.Perm.append_left L ?_;exact List.Perm.swap _ _ _)
 exact Cx.pack c
def Ku (hZ:On B Zs) {T:Nat} (c:Cx F h h [aD [aD M,aD Ws],rV q [.bool on,.int .i64 ch,.int .i64 st]]) (Z:∀h',Ch F h h'->B.p h') (H:GW (B.and M) Ws w m ts sts 0) (J:WJ m ts 1000 0) (E:X m ts) (G:ts.length=T) (hp:On B λh=>Sl EPi h vp picks) (hpl:picks.length<=400)
  (hX:∀{m ts sts m' ts' sts' N k kd z},WJ m ts N k->N+1<1000000->X m ts->My kd z m ts sts m' ts' sts'->X m' ts') (hst:HG X q on ch)
  (hR:∀w' m' ts' sts' U M' n' h',Cx F h h' [aD [aD M',aD U]]->GW (B.and M') U w' m' ts' sts' n'->n'<=800000->WJ m' ts' (1000+n') n'->X m' ts'->R (.tuple #[rX w',.bool true]) h'):lP.1 (rX w) vp (bE q) h R:=by
 have hT3:T<=3:=G▸J.wi.len;replace c:Cx _ _ _ [_,_]:=c;refine c.v9 λaS _ c=>?_;refine c.v9 λaT _ c=>?_;refine aE<|vx (c.vp (i:=2) (ds:=[_,_,_,_,_,_,_]) rfl rfl rfl)<|tP λ_ g=>?_;have c:=c.more g;refine And.intro (c.vp (i:=2) (ds:=[_,_,_,_,_,_,_]) rfl rfl rfl) ?_;obtain⟨⟨iF,gss,b,hO,hK,hb,iN,iS,bY⟩,oF⟩:=id H;obtain⟨wl1,ww1,wW1⟩:=J.words;have bM:(B.and M).p _:=Bs.iB (i:=0) rfl _ ⟨Z _ c.gr,c.get (i:=0) rfl⟩;refine eK.2 (C3 (v:=w.m) bM hO.ko hK (by omega) λu1 _ d=>?_);have c:=c.aF d;replace c:=c.n5;refine gA.2 (KC (B:=Bs.of _) (Ch.refl _ _) (λh' g=>(hZ _ (Z _ c.gr)).gr g) (λh' g=>(c.sl (i:=4) rfl).sl.gr g) wl1 ww1 λg1 _ d=>?_);have c:=c.aF d;replace c:=c.n6;refine vx (hp _ (Z _ c.gr)).ln<|wA.by (λ(i:Nat) u v h'=>v=.int .i64 i/\i<=picks.length/\∃n m ts sts,n<=i/\OB B X F h h' q aS aT on ch T n u m ts sts) (λi=>picks.length - i) 0 ⟨rfl,Nat.zero_le _,0,m,ts,sts,Nat.le_refl _,w,Ws,_,g1,st,rfl,(Cx.Tm (L:=[_,_,_]) (c.pick [1,2,3,5,0])).pick [3,0,1,2],H.le (Bs.iB (i:=0) rfl),J,On.sl (i:=1) rfl,E,G⟩ ?_;clear H J E G c oF bY iS iN hb hK hO wW1 ww1 wl1;rintro i _ _ h6' ⟨rfl,hi,n,m,ts,sts,hn,w,Ws,M,uw,st,rfl,c,H,J,hu,E,G⟩ again Q;refine vx aV<|dW (λe22=>?_) λe22=>?_
 ·refine m3.at (λu h'=>∃n m ts sts,n<=i+1/\OB B X F h h' q aS aT on ch T n u m ts sts) ?_ ?_
  ·have hxp:=List.getElem?_eq_getElem (l:=picks) (i:=i) (by omega);generalize picks[i]'(by omega)=p at hxp;obtain⟨pk,pt,pc⟩:=p;refine(hp _ (Z _ c.gr)).whole rfl hxp rfl ?_;refine c.v3 λ_ _ c=>?_;refine c.w3 4 λ_ c=>?_;refine aE<|c.rc 4 ?_;refine vx bW<|dW (λe27=>?_) λe27=>?_
   ·first | exact⟨_,_,_,_,by omega,_,_,_,_,_,rfl,c.pick [0,1,2,3],H',J',K,O,dO⟩| exact⟨_,_,_,_,by omega,_,_,_,_,_,rfl,c.pick [0,1,2,3],H,J,hu,E,G⟩
   ·refine c.rl 2 ?_;refine c.rl 4 ?_;obtain⟨F',d',hF,up⟩:=c.lR (i:=0) rfl;refine fY.2 (xS (kd:=pk) (z:=pt) hZ d' (λoR ch=>Z oR (hF _ ch)) H J hu e27 (by omega) (by omega) (by omega) λw' m' ts' sts' U M' u' _ V dd H' J' K hle _=>?_);have c:=up (M:=[]) dd;have O:=hX J (by omega) E V;have dO:=V.len.trans G;have J':WJ m' ts' (1000+((n+1:Nat):Int)) (n+1):=by rw[show(1000:Int)+((n+1:Nat):Int)=1000+(n:Int)+1 by omega]; exact J'
    replace c:=c.n5;refine vx rfl<|vx rfl<|vx rfl<|c.w9 2 λ_ c=>?_;refine .here<|vx (v:=.bool false) (rfl)<|aN<|c.rl 2 ?_;obtain⟨F2,d2,rW,tO⟩:=c.Bu Z (i:=1) (j:=0) rfl rfl (by decide);refine eR.2 (hst _ _ _ _ w' m' ts' sts' U _ _ _ _ u' d2 rW (hZ.le (Bs.aJ _ _)) (H'.le (Bs.iB (i:=0) rfl)) (by omega) J' O (λh b=>K h (Bs.iB (i:=0) rfl h b)) λst' _ dd=>?_);have c:=tO (M':=[]) dd;replace c:=c.n5;refine vx (v:=.bool false) (rfl)<|aN ?_;first | exact⟨_,_,_,_,by omega,_,_,_,_,_,rfl,c.pick [0,1,2,3],H',J',K,O,dO⟩| exact⟨_,_,_,_,by omega,_,_,_,_,_,rfl,c.pick [0,1,2,3],H,J,hu,E,G⟩
  ·rintro _ h7' ⟨n,m,ts,sts,hn,w,Ws,M,uw,st,rfl,c,H,J,hu,E,G⟩;replace c:=c.n4;exact vx (inc (by omega))<|Q (i+1) _ _ _ ⟨rfl,by omega,n,m,ts,sts,hn,w,Ws,M,uw,st,rfl,c,H,J,hu,E,G⟩ (by omega)
 ·refine wA.by (λ(t:Nat) u v h'=>v=.int .i64 t/\1<=t/\t<=T+1/\∃n m ts sts,n<=picks.length+(t - 1)*8001/\OB B X F h h' q aS aT on ch T n u m ts sts) (λt=>T+1 - t) 1 ⟨rfl,Nat.le_refl _,by omega,n,m,ts,sts,by omega,w,Ws,M,uw,st,rfl,c,H,J,hu,E,G⟩ ?_;clear H J E G c hu Q hn;rintro t _ _ h15' ⟨rfl,ht1,ht,n,m,ts,sts,hn,w,Ws,M,uw,st,rfl,c,H,J,hu,E,G⟩ again1 eQ;refine aE<|c.rc 2 ?_;obtain⟨⟨iF,gss,b,hO,hK,hb,iN,iS,bY⟩,oF⟩:=id H;have bM:(B.and M).p _:=Bs.iB (i:=0) rfl _ ⟨Z _ c.gr,c.get (i:=0) rfl⟩;refine vx (hO.ts _ bM).ln<|vx sP<|dW (λe51=>?_) λe51=>?_
  ·have hA0:vK ts sts t=true->∃c a,ts[t - 1]?=some (c,a,false)/\AW m.me c a 8000:=λhl=>by
    have hy:=List.getElem?_eq_getElem (l:=ts) (i:=t - 1) (by omega);generalize ts[t - 1]'(by omega)=x at hy;obtain⟨c,a,d⟩:=x;cases d with
    | false=>exact⟨c,a,hy,J.wi.aw ht1 hy⟩
    | true=>
     unfold vK at hl;rw[hy] at hl;cases hs:sts[t - 1]? with
     | none=>rw[hs] at hl; cases hl
     | some q=>rw[hs] at hl; cases hl
   refine wA.by (λ(j:Nat × Nat) u v h'=>v=.int .i64 j.1/\j.1+j.2<=8001/\∃n m ts sts,n<=picks.length+(t - 1)*8001+j.1/\(vK ts sts t=true->∃c a k,k<j.2/\ts[t - 1]?=some (c,a,false)/\AW m.me c a k)/\OB B X F h h' q aS aT on ch T n u m ts sts) (λj=>j.2) (0,8001) ⟨rfl,Nat.le_refl _,n,m,ts,sts,hn,(λhl=>let⟨c,a,x,y⟩:=hA0 hl; ⟨c,a,8000,by decide,x,y⟩),w,Ws,M,uw,st,rfl,c,H,J,hu,E,G⟩ ?_;have htT:t<=T:=by omega
   clear H J E G c hu hn bM hO hK hb iN iS bY oF hA0 e51;rintro⟨j,k⟩ _ _ h16' ⟨rfl,hjk,n,m,ts,sts,hn,hA,w,Ws,M,uw,st,rfl,c,H,J,hu,E,G⟩ again2 A;dsimp only at hjk hn hA A;obtain⟨⟨iF,gss,b,hO,hK,hb,iN,iS,bY⟩,oF⟩:=id H;have bM:(B.and M).p _:=Bs.iB (i:=0) rfl _ ⟨Z _ c.gr,c.get (i:=0) rfl⟩;have hsl:=hO.sl;have uS:=List.getElem?_eq_getElem (l:=iF) (i:=t - 1) (by omega);have hx2:=List.getElem?_eq_getElem (l:=ts) (i:=t - 1) (by omega);have hx3:=List.getElem?_eq_getElem (l:=sts) (i:=t - 1) (by omega);have hx4:=List.getElem?_eq_getElem (l:=Ws) (i:=t - 1) (by omega);generalize iF[t - 1]'(by omega)=tk at uS;generalize ts[t - 1]'(by omega)=x at hx2;generalize sts[t - 1]'(by omega)=sq at hx3;generalize Ws[t - 1]'(by omega)=W at hx4;obtain⟨q1,q2,q3,q4⟩:=bY _ _ _ _ uS hx2 hx4;have hlv:=Aw hx2 hx3;rw[<-q2] at hlv;have et:((t:Nat):Int) - 1=((t - 1:Nat):Int):=by omega
   refine m3.at (λv h'=>v=.bool (vK ts sts t)/\Cx F h h' [aD [aD M,aD Ws],rV q [.bool on,.int .i64 ch,.int .i64 st],rV aS (HU w),rV aT uU.toList]) ?_ ?_
   ·refine aE<|c.rc 2 ?_;refine vx (fT ⟨by omega,by omega⟩) ?_;rw[et];refine(hO.ts _ bM).whole rfl uS rfl ?_;refine sS (x:=tk) λ_ g=>?_;have c:=c.more g;refine vx (v:=.bool (!tk.dn)) rfl<|En.br (λe61=>?_) λe61=>?_
    ·refine aE<|c.rc 2 ?_;refine vx (fT ⟨by omega,by omega⟩) ?_;rw[et];have bM:(B.and M).p _:=Bs.iB (i:=0) rfl _ ⟨Z _ c.gr,c.get (i:=0) rfl⟩;refine(hO.st _ bM).one rfl hx3 rfl (u:=.bool sq) rfl ?_;exact vx (v:=.bool (!sq)) rfl<|⟨by rw[hlv,e61]; first | rfl | (cases sq <;> rfl),c⟩
    ·exact⟨by rw[hlv,e61]; first | rfl | (cases sq <;> rfl),c⟩
   ·clear bM;rintro _ h17' ⟨rfl,c⟩;replace c:=c.n4;refine En.br (λe70=>?_) λe70=>?_
    ·refine c.rl 2 ?_;refine vx (aG (ds:=[_,_,_]) rfl) ?_;obtain⟨F',d',hF,up⟩:=c.lR (i:=0) rfl;obtain⟨cA,aA,kA,hk1,hk2,hk3⟩:=hA e70;refine fY.2 (xS (kd:=0) (z:=(t:Int)) hZ d' (λoR ch=>Z oR (hF _ ch)) H J hu (by decide) (by omega) (by omega) (by omega) λw' m' ts' sts' U M' u' _ V dd H' J' K hle _=>?_);have c:=up (M:=[]) dd;have O:=hX J (by omega) E V;have dO:=V.len.trans G;have hrun:=V.run J (by omega) ht1 e70 ⟨cA,aA,hk2,hk3⟩;have J':WJ m' ts' (1000+((n+1:Nat):Int)) (n+1):=by rw[show(1000:Int)+((n+1:Nat):Int)=1000+(n:Int)+1 by omega]; exact J'
     replace c:=c.n4;refine vx rfl<|vx rfl<|vx rfl<|c.w9 2 λ_ c=>?_;refine .here<|vx (v:=.bool false) (rfl)<|aN<|c.rl 2 ?_;obtain⟨F2,d2,rW,tO⟩:=c.Bu Z (i:=1) (j:=0) rfl rfl (by decide);refine eR.2 (hst _ _ _ _ w' m' ts' sts' U _ _ _ _ u' d2 rW (hZ.le (Bs.aJ _ _)) (H'.le (Bs.iB (i:=0) rfl)) (by omega) J' O (λh b=>K h (Bs.iB (i:=0) rfl h b)) λst' _ dd=>?_);have c:=tO (M':=[]) dd;replace c:=c.n4;refine vx (v:=.bool false) (rfl)<|aN<|vx (ka (show ¬(20000:Int)<(j:Int) by omega))<|aN<|vx (inc (by omega)) ?_;rcases hrun with hr | ⟨c2,a2,k',r1,r2,r3⟩
     ·exact A (j+1,0) _ _ _ ⟨rfl,by dsimp only; omega,_,_,_,_,by dsimp only; omega,(λhl=>by rw[hr] at hl; cases hl),_,_,_,_,_,rfl,c.pick [0,1,2,3],H',J',K,O,dO⟩ (by dsimp only; omega)
     ·exact A (j+1,k'+1) _ _ _ ⟨rfl,by dsimp only; omega,_,_,_,_,by dsimp only; omega,(λ_=>⟨c2,a2,k',Nat.lt_succ_self _,r2,r3⟩),_,_,_,_,_,rfl,c.pick [0,1,2,3],H',J',K,O,dO⟩ (by dsimp only; omega)
    ·exact vx (inc (by omega))<|eQ (t+1) _ _ _ ⟨rfl,by omega,by omega,n,m,ts,sts,by omega,w,Ws,M,uw,st,rfl,c,H,J,hu,E,G⟩ (by omega)
  ·refine c.rl 2 ?_;refine c.w9 3 λ_ c=>?_;refine c.rl 3 ?_;exact hR w m ts sts Ws M n _ (c.pick [0]) H (by omega) J E
end
section
variable {first:List Int} {us:List SH} {opss:List (List iZ)} {picks:List (Int × Int × Int)} {vf:Value} {vo vp:SH} {w:WV} {Ws M:List aX} {tks:List Tk} {ws:List W3} {du:Bool}
def D8 {X:Mj->List CR->Prop} {q:Nat} {ch:Int}:HG X q false ch:=by
 intro B h F R w m ts u Ws n k N st E c G K H O J Q hu A;replace c:Cx _ _ _ [_]:=c;refine c.v9 λ_ _ c=>?_;refine vx rfl<|aE<|c.rc 0 ?_;refine vx (hU _ _)<|vx rfl<|aE<|c.q3 0 λ_ c=>?_;refine vx rfl<|aE<|c.rc 0 ?_;exact vx (v:=.bool true) (rfl)<|bU<|A _ _ (c.pick [0])
def GW.start (A:KY (qC du opss) B (sZ du us) tks Ws) (E:yo B 3 w (Mj.new 3 ws) tks (List.replicate us.length []) (List.replicate us.length false)) (V:tks.length=us.length) (hw:Ws.length=us.length) (X:us.length=opss.length) (J:ws.length=512) :
  GW B Ws w (Mj.new 3 ws) (opss.mapIdx λi ops=>cO (yW du i ops) kq) (List.replicate us.length false) 0:=by
 refine⟨⟨tks,_,1,E,by have:=xP.new (T:=3) (ws:=ws) (by decide) (by omega); rwa [J] at this,Nat.le_refl _,by rw[List.length_mapIdx]; omega,λgs K=>by rw[List.eq_of_mem_replicate K]; exact Nat.le_refl _,λi tk x W N G O=>?_⟩,by rw[List.length_mapIdx]; omega⟩;obtain⟨a,Z,q,q2,⟨ops,Q,p2,H,U⟩,q4,q5⟩:=A i tk W N O;rw[List.getElem?_mapIdx,Q] at G;simp only[Option.map_some,Option.some.injEq] at G;subst G;refine⟨?_,H,by rw[q4,H,p2],U⟩;unfold sZ at q;rw[List.getElem?_mapIdx] at q;cases hu:us[i]? with
 | none=>rw[hu] at q; cases q
 | some u=>rw[hu] at q; simp only[Option.map_some,Option.some.injEq] at q; rw[q2,<-q]
def RQ (J:Zs h) (hf:Sl EI8 h vf first) (A:∀z∈first,-128<=z/\z<=127) (K:first.length<=9223372036854775807) (hv:Sl EH1 h (aK vo) us) (N:us.length=opss.length) (ho:∀(i:Nat) u ops,us[i]?=some u->opss[i]?=some ops->nE (Bs.of h) u ops)
  (E:∀ops∈opss,∀o∈ops,FW o) (O:Sl EPi h (aK vp) picks)
  (Q:MM (yW false 0 Ht) kq) (U:Ends (λ_ M=>M 56=⟨4,1,0⟩/\M 57=⟨1,1,0⟩) 500 (cO (yW false 0 Ht) kq) (sK [5,0] 2)) (V:∀i,Ww (sK [5,0] 2 i))
  (hR:∀h',Gr h h'->R (.bool true) h'):X_simulcasttop_TopAllOrNothing.1 vf (aK vo) (aK vp) h R:=by
 have c:=Cx.aB h;refine kE.2 (Gk (J.gr c.gr) Q U V λ_ g=>?_);have c:=c.more g;refine vx (v:=.bool false) (rfl)<|aN<|gG.2 (Gy (B:=Bs.of h) (us:=us) (opss:=opss) (np:=picks.length) c.gr (λh' g=>hv.gr g) N ho (λh' g=>(O.gr g).ln) λbg Z _ g=>?_);have c:=c.more g;refine En.br (λG=>?_) λG=>?_
 ·exact hR _ c.gr
 ·obtain⟨g1,g2,g3⟩:=Z G;refine vx (O.gr c.gr).ln<|vx (Il (by decide))<|vx bW ?_;generalize decide (((picks.length:Nat):Int).tmod 2=1)=du;refine gT.2 (A7 (B:=Bs.of h) (first:=first) (du:=du) (us:=us) (opss:=opss) c.gr (λh' g=>J.gr g) (λh' g=>hf.gr g) A K (λh' g=>hv.gr g) (by omega) N ho (λi ops h2=>Ks (by have:=(List.getElem?_eq_some_iff.1 h2).1; omega) (g2 ops (List.mem_of_getElem? h2)) (E ops (List.mem_of_getElem? h2))) λws w tks Ws M _ hF ht hw d H aS=>?_);have c:=c.aF d;have hG:=GW.start H aS ht hw N hF.1;have hJ:=WJ.start (du:=du) (opss:=opss) hF (by omega) A g1 (λops h=>⟨g2 ops h,E ops h⟩);replace c:=c.n2;refine vx rfl<|vx rfl<|c.v9 λ_ _ c=>?_;refine c.w9 2 λ_ c=>?_;refine vx (v:=.bool false) (rfl)<|aN<|c.rl 2 ?_;refine vx (aG (ds:=[_,_,_]) rfl)<|c.v3 λq _ c=>?_;replace c:=c.n4;have c:=Cx.pack (L:=[_]) (M:=[aD M,aD Ws]) (c.pick [3,0,1]);obtain⟨F',d',aT,up⟩:=(Cx.pack (L:=[]) (M:=[_,_]) (c.pick [1,0])).lR (i:=0) rfl;refine lP.2 (Ku (B:=Bs.of h) (X:=λ_ _=>True) (T:=opss.length) (λh' g=>J.gr g) (Cx.unpack (L:=[]) d') (λh' ch=>(aT h' ch)) hG hJ trivial (by rw[List.length_mapIdx]) (λh' g=>O.gr g) g3 (λ_ _ _ _=>trivial) D8 λw' m' dO bY eQ M' n' _ dd _ _ _ _=>?_);have c:=up (M:=[]) (Cx.pack (L:=[]) (M:=[_]) dd);replace c:=c.n1;exact vx rfl<|vx rfl<|hR _ c.gr
end
def Oi:Nat->CR->(Nat->W3)->Option (Nat->W3)
 | 0,r,M=>if r.2.2 then some M else none
 | k+1,r,M=>if r.2.2 then some M else Oi k (cO r.1 (exec M r.2.1).2) (exec M r.2.1).1
def xz.some {m:Mj} {a:Ac} {M:Nat->W3} (H:SV m M) (q:jB a):∃u g,xz m 1 a u g:=by
 obtain⟨op,p,o,n⟩:=a;rcases q.ok with e | ⟨e,h1,h2⟩
 ·obtain rfl:op=8:=e;exact⟨_,_,.sync ..⟩
 ·dsimp only at e h1 h2;obtain⟨i,rfl⟩:∃i:Nat,p=i:=⟨p.toNat,by omega⟩;have hi:i<m.me.hs.length:=by rw[H.hs]; omega
  have A:=H.ne i (by omega);rcases e with rfl | rfl | rfl | rfl | rfl | rfl
  ·exact⟨_,_,.load i _ _ o n hi (List.getElem?_eq_getElem (i:=(m.me.at i).length - 1) (by omega)) (by rw[H.vw i (by omega)]; exact Int.le_refl _)⟩
  ·exact⟨_,_,.put i o n false hi⟩
  ·exact⟨_,_,.put i o n true hi⟩
  ·exact⟨_,_,.look i o n hi⟩
  ·exact⟨_,_,.swap i o n hi⟩
  ·exact⟨_,_,.flush i o n hi⟩
def Bd {M':Nat->W3}:∀{k:Nat} {r:CR} {M:Nat->W3} {m:Mj} {N:Int} {n:Nat},WJ m [r] N n->SV m M->N+k<1000000->n+k<=1000000->Oi k r M=some M'->Ends (λ_ M=>M=M') k r M
 | k,(c,a,true),M,m,N,n,J,H,u,A,h=>by
  refine .done ?_;cases k with
  | zero=>exact Option.some.inj h
  | succ k=>exact Option.some.inj h
 | 0,(c,a,false),M,m,N,n,J,H,u,A,h=>by cases h
 | k+1,(c,a,false),M,m,N,n,J,H,u,A,h=>by
  obtain⟨q,_,hs⟩:=J.step (t:=1) (c:=c) (a:=a) (by omega) (by omega) (Nat.le_refl 1) rfl;obtain⟨B,g,st⟩:=xz.some H q;obtain⟨E,F⟩:=H.step st q;obtain⟨G,_,K,_⟩:=hs B g st;subst E;exact .step q G (Bd K F (by omega) (by omega) h)
def JA:((Oi 200 (cO (yW false 0 Ht) kq) (sK [5,0] 2)).map λM=>(M 56,M 57))=some (⟨4,1,0⟩,⟨1,1,0⟩):=by kernel_rfl
def Ends.Uh {post u:Cn->(Nat->W3)->Prop} {k k':Nat} {r:CR} {M:Nat->W3} (h:Ends post k r M) (A:∀c M,post c M->u c M) (G:k<=k'):Ends u k' r M:=by
 induction h generalizing k' with
 | done h=>exact .done (A _ _ h)
 | step B E _ F=>
  obtain⟨q,rfl⟩:∃q,k'=q+1:=⟨k' - 1,by omega⟩;exact .step B E (F (by omega))
def zu:MM (yW false 0 Ht) kq/\Ends (λ_ M=>M 56=⟨4,1,0⟩/\M 57=⟨1,1,0⟩) 500 (cO (yW false 0 Ht) kq) (sK [5,0] 2)/\∀i,Ww (sK [5,0] 2 i):=by
 obtain⟨_,w1,_⟩:=MI.start (first:=[5,0]) (i:=2) (by decide) (by decide);have q:∀o∈Ht,FW o:=λo ho=>by
  unfold Ht at ho;rw[List.mem_singleton] at ho;subst ho;exact⟨(by decide:1<256),(by decide:2<=9223372036854775807),λp A=>by
   have A:p∈Ro:=A;unfold Ro at A;simp only[List.mem_cons,List.not_mem_nil,or_false] at A;rcases A with rfl | rfl <;> exact⟨by decide,by decide,by decide⟩⟩
 have E:BW (sK [5,0] 2) ((List.range 512).map (sK [5,0] 2)):=⟨by rw[List.length_map,List.length_range],λi hi=>by rw[List.getElem?_map,List.getElem?_range hi]; rfl⟩;have F:=WJ.start (du:=false) (opss:=[Ht]) E (by decide) (by decide) (by decide) λops h=>by
  rw[List.mem_singleton] at h;subst h;exact⟨by decide,q⟩
 have G:=SV.new E w1;have u:=JA;cases B:Oi 200 (cO (yW false 0 Ht) kq) (sK [5,0] 2) with
 | none=>rw[B] at u; cases u
 | some M'=>
  rw[B] at u;have u:=Option.some.inj u;exact⟨Ks (by decide) (by decide) q,(Bd F G (by decide) (by decide) B).Uh (λ_ M e=>by subst e; exact⟨congrArg Prod.fst u,congrArg Prod.snd u⟩) (by decide),w1⟩
section
variable {h h':Hp} {R:Value->Hp->Prop} {first:List Int} {us:List SH} {opss:List (List iZ)} {picks:List (Int × Int × Int)} {vf:Value} {vo vp:SH}
def SL (E:Zs h) (F:Sl EI8 h vf first) (q:∀z∈first,-128<=z/\z<=127) (A:first.length<=9223372036854775807) (hv:Sl EH1 h (aK vo) us) (G:us.length=opss.length) (ho:∀(i:Nat) u ops,us[i]?=some u->opss[i]?=some ops->nE (Bs.of h) u ops)
  (B:∀ops∈opss,∀o∈ops,FW o) (H:Sl EPi h (aK vp) picks) (J:∀h',Gr h h'->R (.bool true) h'):X_simulcasttop_TopAllOrNothing.1 vf (aK vo) (aK vp) h R:=
 RQ E F q A hv G ho B H zu.1 zu.2.1 zu.2.2 J
end
end Go.En
namespace Go.En
open Go.Deep Go.ChangeShapes Go.WideShapes Go.ChangeAt Go.RowKit
section
variable {H:Type} {enc:TypeId × Value->H} {P:Program} {W:World}
def Pa {α:Type} {E:jZ α} {Q:α->Prop} {t e:TypeId} {f:Nat} {cs:List Value} {y:DataW H × List MemPlace} (V:P.underlying t=some (.slice e)) (U:P.cellsOf e=E.n) (B:0<E.n)
  (K:∀n cs y,DataW.trod enc P W 0 (λ_=>true) true n e cs=some y->∃x,cs=E.c x/\Q x)
  (h:DataW.trod enc P W 0 (λ_=>true) true f t cs=some y):∃u:SH,cs=[aK u]/\∃xs,Sl E W.heap (aK u) xs/\xs.length<=maxLen/\∀x∈xs,Q x:=by
 obtain⟨d,p⟩:=y;rcases open_slice V h with ⟨q,_⟩| ⟨a,len,cap,m,n,D,Pl,q,_,hl,X,hm,_,hi⟩
 ·exact⟨(none,0,0),q,[],.nil,Nat.zero_le _,λx F=>by simp at F⟩
 ·refine⟨(some a,len,cap),q,?_⟩;simp only[if_true] at hm;subst hm;have F:∀i,i<len->∃x,(∀j u,(E.c x)[j]?=some u->W.cell? (a.add (i*E.n+j))=some u)/\Q x:=by
   intro i L;obtain⟨Z,M,N⟩:=hi i (by omega);obtain⟨x,rfl,hq⟩:=K _ _ _ N;obtain⟨_,aS,O⟩:=World.cells?_some M;refine⟨x,λj u hu=>?_,hq⟩;have hj:j<P.cellsOf e:=by rw[U]; have:=(List.getElem?_eq_some_iff.mp hu).1; rwa [E.len] at this
   have:=O j hj;rw[hu,U,Go.Deep.add_add] at this;exact this
  obtain⟨xs,hlen,A⟩:=vW len F;refine⟨xs,⟨some a,m,by rw[hlen],by omega,λe=>by simp at e,λi x G=>?_⟩,by rw[hlen]; omega,λx F=>?_⟩
  ·have M:=(A i x G).1;have L:=(List.getElem?_eq_some_iff.mp G).1;have J:a.spot=none:=by
    have h0:0<xs.length:=by omega
    have R:=(A 0 xs[0] (by simp)).1;have T:0<(E.c xs[0]).length:=by rw[E.len]; exact B
    have:=World.cell?_spot (R 0 _ (List.getElem?_eq_getElem T));simpa[Addr.add] using this
   obtain⟨b,off,spot⟩:=a;simp only at J;subst J;refine⟨b,off,rfl,λj u hu=>?_⟩;have:=M j u hu;rw[uY,sG,pE] at this;rw[Nat.add_assoc]; exact this
  ·obtain⟨i,hi,rfl⟩:=List.mem_iff_getElem.mp F;exact(A i _ (List.getElem?_eq_getElem hi)).2
def wf_u8 {z:Int} (h:(Lit.int .u8 z).wf=true):0<=z/\z<=255:=by
 have h1:IntKind.u8.min=0:=rfl;have h2:IntKind.u8.max=255:=rfl;simp only[Lit.wf,Bool.and_eq_true,decide_eq_true_eq] at h;exact⟨by omega,by omega⟩
def wf_i8 {z:Int} (h:(Lit.int .i8 z).wf=true) : -128<=z/\z<=127:=by
 have h1:IntKind.i8.min = -128:=rfl;have h2:IntKind.i8.max=127:=rfl;simp only[Lit.wf,Bool.and_eq_true,decide_eq_true_eq] at h;exact⟨by omega,by omega⟩
theorem el_i8 {e:TypeId} (he:P.underlying e=some (.int .i8)):∀n cs y,DataW.trod enc P W 0 (λ_=>true) true n e cs=some y->∃x:Int,cs=EI8.c x/\(-128<=x/\x<=127):=by
 intro n cs y h;obtain⟨z,rfl,_,hw⟩:=DataW.trod_int he h;exact⟨z,rfl,wf_i8 hw⟩
def RI {e:TypeId} (hs:Ru P e [some .u8,some .i8,none]=true):∀n cs y,DataW.trod enc P W 0 (λ_=>true) true n e cs=some y->∃x:Pt,cs=wz.c x/\(x.cell<256/\-128<=x.more/\x.more<=127):=by
 intro n cs y h;obtain⟨hlen,u⟩:=ER hs n cs y h;match cs,hlen with
 | [J,K,c2],_=>
  obtain⟨q,A,w0⟩:=u 0 _ rfl;obtain⟨F,B,w1⟩:=u 1 _ rfl;obtain⟨G,E⟩:=u 2 _ rfl;simp only[List.getElem?_cons_zero,List.getElem?_cons_succ,Option.some.injEq] at A B E;have w0:=wf_u8 w0;have w1:=wf_i8 w1;refine⟨⟨q.toNat,F,G⟩,?_,by show q.toNat<256; omega,w1⟩;rw[A,B,E];show _=[Value.int .u8 (q.toNat:Int),_,_];rw[show(q.toNat:Int)=q by omega]
def RL {e B:TypeId} {f0 f1:Field} (hu:P.underlying e=some (.struct #[f0,f1])) (K:P.cellsOf e=2) (L:f0.offset=0) (M:P.cellsOf f0.type=1) (N:P.underlying f0.type=some (.int .u8)) (O:f1.offset=1) (Q:P.cellsOf f1.type=1) (R:P.underlying f1.type=some (.slice B)) (T:P.cellsOf B=3) (hs:Ru P B [some .u8,some .i8,none]=true) :
  ∀n cs y,DataW.trod enc P W 0 (λ_=>true) true n e cs=some y->∃x:Int × SH,cs=J8.c x/\((0<=x.1/\x.1<=255)/\∃ps:List Pt,Sl wz W.heap (aK x.2) ps/\ps.length<=maxLen/\∀p∈ps,p.cell<256/\-128<=p.more/\p.more<=127):=by
 intro n cs y h;obtain⟨xs,m,_,_,hlen,q,A⟩:=DataW.trod_struct hu h;rw[K] at hlen;match cs,hlen with
 | [a,b],_=>
  have t0:=A 0 f0 (by simp);have t1:=A 1 f1 (by simp);have F:xs[0]?=some (xs[0]'(by rw[q]; simp)):=List.getElem?_eq_getElem _;have G:xs[1]?=some (xs[1]'(by rw[q]; simp)):=List.getElem?_eq_getElem _;rw[L,M,F] at t0;rw[O,Q,G] at t1;obtain⟨z,U,_,w⟩:=DataW.trod_int N t0;obtain⟨u,V,ps,J,X,Z⟩:=Pa (E:=wz) R T (by decide) (RI hs) t1;have q1:a=Value.int .u8 z:=(List.cons.inj (show [a]=[Value.int .u8 z] from U)).1;have q2:b=aK u:=(List.cons.inj (show [b]=[aK u] from V)).1;rw[q1,q2];exact⟨(z,u),rfl,wf_u8 w,ps,J,X,Z⟩
def NX (P:Program) (e h:TypeId):Bool:=
 Nat.beq (P.cellsOf e) 2&&(Nat.beq (P.cellsOf h) 3&&(Ru P h [some .u8,some .i8,none]&&(match P.underlying e with
  | some (.struct ⟨[f0,f1]⟩)=>Nat.beq f0.offset 0&&(Nat.beq (P.cellsOf f0.type) 1&&(Nat.beq f1.offset 1&&(Nat.beq (P.cellsOf f1.type) 1&&((match P.underlying f0.type with
   | some (.int .u8)=>true
   | _=>false)&&(match P.underlying f1.type with
   | some (.slice x)=>Nat.beq x h
   | _=>false)))))
  | _=>false)))
def SZ {e B:TypeId} (h:NX P e B=true) :
  ∀n cs y,DataW.trod enc P W 0 (λ_=>true) true n e cs=some y->∃x:Int × SH,cs=J8.c x/\((0<=x.1/\x.1<=255)/\∃ps:List Pt,Sl wz W.heap (aK x.2) ps/\ps.length<=maxLen/\∀p∈ps,p.cell<256/\-128<=p.more/\p.more<=127):=by
 unfold NX at h;simp only[Bool.and_eq_true,Nat.beq_eq] at h;obtain⟨h1,h2,E,q⟩:=h;split at q
 ·rename_i f0 f1 hu;simp only[Bool.and_eq_true,Nat.beq_eq] at q;obtain⟨F,G,J,K,A,u⟩:=q;split at A
  ·rename_i w0;split at u
   ·rename_i x w1;simp only[Nat.beq_eq] at u;subst u;exact RL hu h1 F G w0 J K w1 h2 E
   ·cases u
  ·cases A
 ·cases q
def MS {a b:SH} (h:aK a=aK b):a=b:=by
 obtain⟨u,A,B⟩:=a;obtain⟨E,F,G⟩:=b;injection h with h1 h2 q;dsimp only at h1 h2 q;rw[h1,h2,q]
def Qq {h:Hp} {v:Value} {us:List (Int × SH)} (hs:Sl J8 h v us) (B:∀x∈us,(0<=x.1/\x.1<=255)/\∃ps:List Pt,Sl wz h (aK x.2) ps/\ps.length<=maxLen/\∀p∈ps,p.cell<256/\-128<=p.more/\p.more<=127) :
  ∃u ops,v=aK u/\nE (Bs.of h) u ops/\ops.length=us.length/\∀o∈ops,FW o:=by
 obtain⟨ops,q,ho⟩:=vW (α:=iZ) (Q:=λi o=>∃x,us[i]?=some x/\x.1=o.d/\Sl wz h (aK x.2) o.ps/\FW o) us.length λi hi=>by
  obtain⟨⟨h1,h2⟩,ps,A,q,E⟩:=B us[i] (List.getElem_mem hi);exact⟨⟨us[i].1.toNat,ps⟩,us[i],List.getElem?_eq_getElem hi,by show us[i].1=(us[i].1.toNat:Int); omega,A,by show us[i].1.toNat<256; omega,q,E⟩
 obtain⟨u,rfl⟩:∃u:SH,v=aK u:=by
  obtain⟨a,cap,e,_⟩:=hs;exact⟨(a,_,cap),e⟩
 refine⟨u,ops,rfl,⟨us,λh' g=>hs.gr g,q.symm,λi a o h1 h2=>?_⟩,q,λo hm=>?_⟩
 ·obtain⟨x,e,F,G,_⟩:=ho i o h2;rw[h1] at e;injection e with e;subst e;exact⟨F,λh' g=>G.gr g⟩
 ·obtain⟨i,hi,rfl⟩:=List.mem_iff_getElem.1 hm;obtain⟨_,_,_,_,J⟩:=ho i _ (List.getElem?_eq_getElem hi);exact J
theorem el_mm {t e q:TypeId} (A:P.underlying t=some (.slice e)) (h:NX P e q=true) :
  ∀n cs y,DataW.trod enc P W 0 (λ_=>true) true n t cs=some y->∃x:SH,cs=EH1.c x/\∃us:List (Int × SH),Sl J8 W.heap (aK x) us/\us.length<=maxLen/\∀x∈us,(0<=x.1/\x.1<=255)/\∃ps:List Pt,Sl wz W.heap (aK x.2) ps/\ps.length<=maxLen/\∀p∈ps,p.cell<256/\-128<=p.more/\p.more<=127:=by
 intro n cs y B;have h1:=h;unfold NX at h1;simp only[Bool.and_eq_true,Nat.beq_eq] at h1;obtain⟨u,F,us,G,J,K⟩:=Pa (E:=J8) A h1.1 (by decide) (SZ h) B;exact⟨u,F,us,G,J,K⟩
def ND {h:Hp} {us:List SH} (q:∀x∈us,∃l:List (Int × SH),Sl J8 h (aK x) l/\l.length<=maxLen/\∀x∈l,(0<=x.1/\x.1<=255)/\∃ps:List Pt,Sl wz h (aK x.2) ps/\ps.length<=maxLen/\∀p∈ps,p.cell<256/\-128<=p.more/\p.more<=127) :
  ∃opss:List (List iZ),us.length=opss.length/\(∀(i:Nat) u ops,us[i]?=some u->opss[i]?=some ops->nE (Bs.of h) u ops)/\∀ops∈opss,∀o∈ops,FW o:=by
 obtain⟨opss,A,ho⟩:=vW (α:=List iZ) (Q:=λi ops=>∃u,us[i]?=some u/\nE (Bs.of h) u ops/\∀o∈ops,FW o) us.length λi hi=>by
  obtain⟨l,h1,_,B⟩:=q us[i] (List.getElem_mem hi);obtain⟨u,ops,e,a,_,b⟩:=Qq h1 B;obtain⟨E,F,G⟩:SH:=us[i];refine⟨ops,us[i],List.getElem?_eq_getElem hi,?_,b⟩;rw[show us[i]=u from MS e];exact a
 refine⟨opss,A.symm,λi u ops h1 h2=>?_,λops hm=>?_⟩
 ·obtain⟨J,e,a,_⟩:=ho i ops h2;rw[h1] at e;cases e
  exact a
 ·obtain⟨i,hi,rfl⟩:=List.mem_iff_getElem.1 hm;obtain⟨_,_,_,b⟩:=ho i _ (List.getElem?_eq_getElem hi);exact b
theorem el_pi {e:TypeId} (hs:Ru P e [some .i64,some .i64,some .i64]=true) :
  ∀n cs y,DataW.trod enc P W 0 (λ_=>true) true n e cs=some y->∃x:Int × Int × Int,cs=EPi.c x/\True:=by
 intro n cs y h;obtain⟨hlen,q⟩:=ER hs n cs y h;match cs,hlen with
 | [J,K,c2],_=>
  obtain⟨E,u,w0⟩:=q 0 _ rfl;obtain⟨F,A,w1⟩:=q 1 _ rfl;obtain⟨G,B,w2⟩:=q 2 _ rfl;simp only[List.getElem?_cons_zero,List.getElem?_cons_succ,Option.some.injEq] at u A B;refine⟨(E,F,G),?_,trivial⟩;rw[u,A,B];rfl
theorem sl_len {α:Type} {E:jZ α} {t e:TypeId} {v:Value} {d:DataW H} {p:List MemPlace} {base:Nat} {xs:List α} (u:P.underlying t=some (.slice e))
  (hv:Value.okWide P W .any base t v) (h:DataW.Trod enc P W 0 (λ_=>true) true t v d p) (hs:Sl E W.heap v xs):xs.length<=maxLen:=by
 obtain⟨K,A,B,rfl⟩:=okWide_slice u hv;obtain⟨_,_,e,_⟩:=hs;injection e with _ e _;subst e;obtain⟨F,G⟩:=h;rcases open_slice u G with ⟨q,_⟩| ⟨a,len,cap,m,n,D,L,q,_,M,J,_⟩
 ·simp[Value.cells] at q;rw[q.2.1]; exact Nat.zero_le _
 ·simp[Value.cells] at q;obtain⟨_,rfl,rfl⟩:=q;omega
end
theorem M_TopAllOrNothing {h:Hp} {R:Value->Hp->Prop} {E v1 v2:Value} {first:List Int} {us:List SH} {q:List (Int × Int × Int)} (G:Sl EI8 h E first) (A:∀z∈first,-128<=z/\z<=127) (B:first.length<=maxLen)
  (hv:Sl EH1 h v1 us) (J:∀x∈us,∃l:List (Int × SH),Sl J8 h (aK x) l/\l.length<=maxLen/\∀x∈l,(0<=x.1/\x.1<=255)/\∃ps:List Pt,Sl wz h (aK x.2) ps/\ps.length<=maxLen/\∀p∈ps,p.cell<256/\-128<=p.more/\p.more<=127) (F:Sl EPi h v2 q) (Z:Zs h) (K:∀h',Gr h h'->R (.bool true) h') :
  X_simulcasttop_TopAllOrNothing.1 E v1 v2 h R:=by
 obtain⟨opss,h1,h2,L⟩:=ND J;obtain⟨M,rfl⟩:∃u:SH,v1=aK u:=by obtain⟨a,cap,e,_⟩:=hv; exact⟨(a,_,cap),e⟩
 obtain⟨vp,rfl⟩:∃u:SH,v2=aK u:=by obtain⟨a,cap,e,_⟩:=F; exact⟨(a,_,cap),e⟩
 exact SL Z G A B hv h1 h2 L F K
end Go.En
