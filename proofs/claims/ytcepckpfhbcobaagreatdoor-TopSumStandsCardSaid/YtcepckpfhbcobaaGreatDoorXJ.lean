/- Library, part J. -/
import Derived.Test.YtcepckpfhbcobaaGreatDoorXI
set_option maxRecDepth 100000
set_option linter.defProp false
namespace Go.En
section
variable {D D':Dg} {V V':Vg} {O O':wB} {N:Int} {s s':Sh} {t:Nat} {who q c:Int} {es:List Et} {e:Et} {W:Int->W3}
def Np (hw:ke who):lu who=10\/lu who=32:=by
 have:=kR hw;unfold lu;rw[if_neg (by omega)];split
 ·exact .inl rfl
 ·exact .inr rfl
def Rm (g:Good es) {p:Int} (F:∀(k:Nat) (w:W3),(kh es)[k]?=some w->W (p+1+k)=w):∀(n i:Nat),n+i=es.length->Qi W p n i=some (es.drop i)
 | 0,i,h=>by rw[dH (by omega)];rfl
 | n+1,i,h=>by
  have hi:i<es.length:=by omega
  have hm:=dM hi;have at':∀j:Nat,j<3->W (p+2+3*i+j)=((qp es)[3*i+j]?).getD W0:=λj H=>by
   have h1:3*i+j<(qp es).length:=by rw[yY];omega
   have h2:(kh es)[3*i+j+1]?=some ((qp es)[3*i+j]):=by rw[wL,cR];exact aB h1
   have G:=F _ _ h2;rw[aB h1];rw[<-show p+1+((3*i+j+1:Nat):Int)=p+2+3*i+j by omega,G];rfl
  have u:=at' 0 (by omega);have B:=at' 1 (by omega);have E:=at' 2 (by omega);rw[vQ,show(3*i+0) / 3=i by omega,show(3*i+0) % 3=0 by omega,aB hi] at u;rw[vQ,show(3*i+1) / 3=i by omega,show(3*i+1) % 3=1 by omega,aB hi] at B;rw[vQ,show(3*i+2) / 3=i by omega,show(3*i+2) % 3=2 by omega,aB hi] at E;have u:W (p+2+3*i)=DJ es[i]:=by
   rw[gR,eI] at u;exact u
  have B:W (p+2+3*i+1)=DI es[i]:=B;have E:W (p+2+3*i+2)=Ee es[i]:=E;unfold Qi;dsimp only;rw[u,B,E,if_pos (g.up hm).1,Rm g F n (i+1) (by omega),(g.up hm).2,bP hi]
def Ae (g:Good es) (hw:ke who) {v:Int} (hv:0<=v/\v<=3) (B:1<=q/\q<1000000) (hs:W (jP who)=⟨v,q,0⟩) (h:∀(k:Nat) (w:W3),(kh es)[k]?=some w->W (jP who+1+k)=w):GJ W who=some (v,q,es):=by
 have hm:=Np hw;have gl:=g.len;have u:W (jP who+1)=⟨es.length,0,0⟩:=by
  have:=h 0 ⟨es.length,0,0⟩ rfl;rwa [gR,eI] at this
 unfold GJ;dsimp only;rw[hs,u,if_neg (by omega),if_neg (by dsimp only; rintro(x | x | x | x | x | x) <;> first | omega | exact x rfl)];dsimp only;rw[bQ,Rm g h _ 0 (by omega),dW];dsimp only;rw[if_pos];unfold P6;simp only[bO,decide_eq_true_eq];exact⟨by omega,g.check,g.ZD.srt,cG.2 λe he=>g.may he,by omega⟩
def Si {x:Int × Int × List Et} (h:GJ W who=some x):x.1=(W (jP who)).v/\x.2.1=(W (jP who)).j8:=by
 unfold GJ at h;dsimp only at h;split at h
 ·cases h
 ·split at h
  ·cases h
  ·split at h
   ·split at h
    ·cases h;exact⟨rfl,rfl⟩
    ·cases h
   ·cases h
def H9 (H:SI D V N s) (h1:56<=c) (h2:c<62):ve s.W c=rX D V s c:=by
 unfold ve;dsimp only;by_cases M:(s.W c).ref=0
 ·rw[H.Yk M,M,if_pos (show kj 0=0 by decide)]
 ·obtain⟨es,e,hD,he,h,K⟩:=H.cell c h1 h2 M;obtain⟨who,q,f,U,g⟩:=H.rf hD;have X:=H.nN;have E:=H.j8 c h1 h2;have Z:=kR f.wh;rw[f.w,if_neg (by omega),f.sq];have u:s.W c=⟨e.old.v,e.old.j8,(s.W c).ref⟩:=by unfold kS at K;rw[h] at K;exact K
  have Q:=H.Ym hD he K;rw[h] at Q;rw[Q];by_cases l:Live s (s.W c).ref
  ·obtain⟨I,b1,b2,fl,_⟩:=H.live f hD l;rw[Ae g f.wh ⟨b1,by omega⟩ f.qr I.eq fl];dsimp only;by_cases v1:V (s.W c).ref=1
   ·rw[if_pos ⟨rfl,v1⟩];by_cases wr:e.wr=true
    ·have:CO es c=some e:=by
      unfold CO;cases F:es.find? λy=>decide (y.at'=c)&&y.wr with
      | none=>
       have:=eC.1 F e he;simp[h,wr] at this
      | some y=>
       have G:=dK F;have B:=eY (p:=λy:Et=>decide (y.at'=c)&&y.wr) F;simp only[bO,decide_eq_true_eq] at B;rw[g.inj G he (B.1.trans h.symm)]
     rw[this,if_pos ⟨v1,wr⟩];dsimp only;have hv:(s.W c).j8=e.old.j8:=by rw[u]
     rw[hv] at E⊢;congr 1;omega
    ·have:CO es c=none:=by
      unfold CO;rw[eC];intro y hy;simp only[bO,decide_eq_true_eq,not_and];intro yc R;rw[g.inj hy he (yc.trans h.symm)] at R;exact wr R
     rw[this,if_neg (λx=>wr x.2)];dsimp only;rw[u]
   ·rw[if_neg (λx=>v1 x.2),if_neg (λx=>v1 x.1)];rw[u]
  ·have J:¬(V (s.W c).ref=1/\e.wr=true):=λ⟨v1,wr⟩=>by
    rcases H.done _ _ hD v1 e he wr with x | x
    ·exact l x.2
    ·unfold qX at x;rw[h,u] at x;dsimp only at x;omega
   rw[if_neg J];have T:(⟨(s.W c).v,(s.W c).j8,0⟩:W3)=⟨e.old.v,e.old.j8,0⟩:=by rw[u]
   cases F:GJ s.W who with
   | none=>exact T
   | some x=>
    obtain⟨st,q',aS⟩:=x;dsimp only;obtain⟨G,B⟩:=Si F;dsimp only at G B;rw[if_neg]
    ·exact T
    ·rintro⟨rfl,rfl⟩;obtain⟨v',q2,I⟩:=H.st who f.wh;rw[I.eq] at G B;dsimp only at G B;exact l (f.live.2 ⟨v',by omega,by rw[I.eq,<-B]⟩)
inductive LQ (W W':Int->W3):Prop where
 | same:(∀who,ke who->¬∃q,W (jP who)=⟨0,q,0⟩/\W' (jP who)=⟨1,q,0⟩)->(∀c,56<=c->c<62->ve W' c=ve W c)->LQ W W'
 | swap (who q:Int) (es:List Et):ke who->W (jP who)=⟨0,q,0⟩->W' (jP who)=⟨1,q,0⟩->(∀w,ke w->(∃q,W (jP w)=⟨0,q,0⟩/\W' (jP w)=⟨1,q,0⟩)->w=who)->Good es->GJ W' who=some (1,q,es)->
   (∀e∈es,ve W e.at'=⟨e.old.v,e.old.j8,0⟩)->(∀c,56<=c->c<62->ve W' c=tw es (ve W) c)->LQ W W'
 | one (c0 v:Int):56<=c0->c0<62->(∀who,ke who->¬∃q,W (jP who)=⟨0,q,0⟩/\W' (jP who)=⟨1,q,0⟩)->ve W' c0=⟨v,(ve W c0).j8+1,0⟩->(∀c,56<=c->c<62->¬c=c0->ve W' c=ve W c)->LQ W W'
def Sx.fol {A:Int->Prop} (H:SI D V N s) (X:Sx A t D V O N s D' V' O' s'):LQ s.W s'.W:=by
 have e:∀c,56<=c->c<62->ve s.W c=rX D V s c:=λc h1 h2=>H9 H h1 h2;have e':∀c,56<=c->c<62->ve s'.W c=rX D' V' s' c:=λc h1 h2=>H9 X.si h1 h2;cases X.lg with
 | same h1 h2=>exact .same h1 λc a b=>by rw[e' c a b,e c a b,h2 c a b]
 | swap who q es hw E h1 h2 h g F G J=>
  have u:q<1000000:=by
   obtain⟨v,M,I⟩:=H.st who hw;have:=I.eq.symm.trans h1;simp only[W3.mk.injEq] at this;have:=I.qr;have:=H.nN;omega
  refine .swap who q es hw h1 h2 h g (Ae g hw (by omega) ⟨E,u⟩ h2 F) (λx B=>?_) λc a b=>?_
  ·have:=g.pl x B;rw[e _ this.1 this.2,G x B]
  ·rw[e' c a b,J c a b];unfold tw;split
   ·split
    ·rfl
    ·exact(e c a b).symm
   ·exact(e c a b).symm
 | one K v _ a b h1 h2 h=>exact .one K v a b h1 (by rw[e' _ a b,e _ a b,h2]) λc x y z=>by rw[e' c x y,e c x y,h c x y z]
end
def TI (D:Dg) (V:Vg) (O:wB) (s:Sh) (t:Nat):CR->Prop:=JR D V O s t
structure WI (m:Me) (ts:List CR) (N:Int):Prop where
 ex:∃D V O,SI D V N (sh m)/\BI D V O (sh m)/\∀(i:Nat) (x:CR),ts[i]?=some x->TI D V O (sh m) (i+1) x
 mw:Lc 512 m
 n0:1000<=N
 len:ts.length<=3
 lo:∀p,p<56->((sh m).W p).ref=0
section
variable {D D':Dg} {V V':Vg} {O O':wB} {N:Int} {s s':Sh} {t:Nat} {m m':Mj} {ts:List CR} {c:Cn} {a:Ac} {g:lA} {x:CR}
def TI.mono (H:SI D V N s) (R:Dr t D V O s D' V' O' s') (q:1<=t/\t<=3) (h:TI D V O s t x):TI D' V' O' s' t x:=by
 obtain⟨c,a,d⟩:=x;cases d with
 | false=>exact tN.mono H R q h
 | true=>exact Yj.mono H R q h
def WI.step (I:WI m.me ts N) (J:N+1<1000000) (M:1<=t) (F:ts[t - 1]?=some (c,a,false)) (hs:Bw m t a m' g) :
  WI m'.me (ts.set (t - 1) (ll c g)) (N+1)/\LQ (sh m.me).W (sh m'.me).W/\∀p,p<56->(sh m'.me).W p=(sh m.me).W p:=by
 obtain⟨D,V,O,H,B,T⟩:=I.ex;have q:=(aC.1 F).1;have K:=I.len;have h:1<=t/\t<=3:=by omega
 have E:=hs.ZQ I.mw h;have y:=T _ _ F;rw[show t - 1+1=t by omega] at y;obtain⟨D',V',O',A,X,_,z⟩:=tN.step H J I.n0 B h y E;refine⟨⟨⟨D',V',O',X.si,X.bi,λi x hi=>?_⟩,hs.mew I.mw,by have:=I.n0; omega,by rw[aV]; exact K,λp G=>by rw[X.lo p G]; exact I.lo p G⟩,X.fol H,X.lo⟩;rw[bH] at hi;by_cases e:t - 1=i
 ·rw[if_pos e,if_pos q] at hi;cases hi
  rw[<-e,show t - 1+1=t by omega];exact z
 ·rw[if_neg e] at hi;have:=(aC.1 hi).1;exact(T i x hi).mono H (X.rl (u:=i+1) (by omega) (by omega) h) (by omega)
def SI.start (q:∀who,ke who->s.W (jP who)=⟨2,0,0⟩) (u:∀c,56<=c->c<62->(s.W c).ref=0/\(s.W c).j8=0/\C5 (s.W c).v):SI (λ_=>none) (λ_=>0) 1000 s:=
 ⟨λwho hw=>⟨2,0,q who hw,by decide,by decide,λ_=>rfl,λh=>(by omega),λE _ es h=>(by cases h)⟩,λr es h=>(by cases h),λr es h=>(by cases h),λc h1 h2 B=>absurd (u c h1 h2).1 B,λr es h=>(by cases h),λr es h=>(by cases h),λc h1 h2=>(by rw[(u c h1 h2).2.1]; decide),by decide,λc h1 h2=>(u c h1 h2).2.2⟩
def XW:∀i,i<4->sM 0 (2 ^ i)=0:=by
 intro i hi;match i,hi with
 | 0,_=>decide
 | 1,_=>decide
 | 2,_=>decide
 | 3,_=>decide
def BI.start (u:s.W 376=W0):BI (λ_=>none) (λ_=>0) (λ_=>0) s:=
 ⟨⟨0,0,u,by decide,λi hi=>⟨λ_=>rfl,λ_=>XW i hi⟩⟩,λi _ _ q es _ h=>(by cases h),λi _=>(by decide),λi j _ _ h=>absurd rfl h⟩
def IX {ws:List W3} {i:Nat} {w:W3} (h:ws[i]?=some w):(Me.new 3 ws).at i=[⟨w,λ_=>0⟩]:=by
 unfold Me.at Me.new;dsimp only;rw[aI,bU,h];rfl
def Wc {ws:List W3} {i:Nat} {w:W3} (h:ws[i]?=some w):(sh (Me.new 3 ws)).W i=w:=by
 rw[Ny];unfold Me.top;rw[IX h];rfl
def WI.Q8 {ws:List W3} {first:List Int} {k:Nat} {du:Bool} {opss:List (List ng)} (hw:FU (xN first k) ws) (U:k<=6) (X:∀z∈first,-128<=z/\z<=127) (hl:opss.length<=3)
  (ho:∀ops∈opss,ops.length<=8/\∀o∈ops,Hk o):SI (λ_=>none) (λ_=>0) 1000 (sh (Me.new 3 ws))/\BI (λ_=>none) (λ_=>0) (λ_=>0) (sh (Me.new 3 ws))/\(∀(i:Nat) (x:CR),(opss.mapIdx λi ops=>ll (DT du i ops) qa)[i]?=some x->TI (λ_=>none) (λ_=>0) (λ_=>0) (sh (Me.new 3 ws)) (i+1) x)/\Lc 512 (Me.new 3 ws)/\∀p,p<56->((sh (Me.new 3 ws)).W p).ref=0:=by
 obtain⟨I0,K,E⟩:=MI.start U X;have Z:∀j:Nat,j<512->(sh (Me.new 3 ws)).W j=xN first k j:=λj J=>Wc (hw.2 j J)
 have u:∀p:Int,0<=p->p<512->(sh (Me.new 3 ws)).W p=xN first k p.toNat:=λp h1 h2=>by
  have:=Z p.toNat (by omega);rwa [fW h1] at this
 have F:∀who,ke who->(sh (Me.new 3 ws)).W (jP who)=⟨2,0,0⟩:=λwho G=>by
  have T:=kR G;rw[u _ (by omega) (by omega)];unfold xN UT S5;rw[if_neg (by omega)];rcases T with ⟨h1,h2,e⟩| ⟨h1,h2,e⟩
  ·rw[if_neg (by omega),if_pos (by omega)]
  ·rw[if_pos (by omega)]
 have H:∀j,j<512->(xN first k j).j8=0\/¬(56<=j/\j<62):=λj _=>by
  by_cases h:56<=j/\j<62
  ·left;unfold xN UT S5;split
   ·rfl
   ·rw[if_neg (by omega),if_neg (by omega),if_neg (by omega)]
  ·exact .inr h
 have hc:∀c,56<=c->c<62->((sh (Me.new 3 ws)).W c).ref=0/\((sh (Me.new 3 ws)).W c).j8=0/\C5 ((sh (Me.new 3 ws)).W c).v:=λc h1 h2=>by
  rw[u c (by omega) (by omega)];refine⟨E _,?_,(K _).v⟩;rcases H c.toNat (by omega) with h | h
  ·exact h
  ·omega
 refine⟨SI.start F hc,BI.start ?_,λi x B=>?_,⟨bR,by show(ws.map _).length=_; rw[bE]; exact hw.1,λi hi=>?_,λf M j J=>?_,λi hi x B j J=>?_⟩,λp T=>?_⟩
 ·rw[u 376 (by decide) (by decide)];show xN first k 376=W0
  unfold xN;rw[if_neg (by omega)];rfl
 ·rw[cT] at B;cases hi:opss[i]? with
  | none=>rw[hi] at B;cases B
  | some ops=>
   rw[hi] at B;simp only[cB,aD] at B;subst B;obtain⟨h8,Q⟩:=ho ops (aG hi);have aS:=(aC.1 hi).1;refine E6 (c:=DT du i ops) ⟨rfl,rfl,Q,(by show(0:Int)<=0/\(0:Int)+(ops.length:Nat)<=100; omega),h8⟩ (by omega) rfl ⟨λq es _ h=>(by cases h),2,0,F _ (l8 (by omega)),bA _⟩ (λj J e=>?_) (λw R=>by cases R) (.inl rfl);have e:(0:Nat)=i+1:=e;omega
 ·rw[IX (hw.2 i hi)];exact aP _
 ·rw[fY M];show(0:Int)<=_;omega
 ·rw[IX (hw.2 i hi),aN] at B;subst B;show(0:Int)<=_;omega
 ·by_cases h:0<=p
  ·rw[u p h (by omega)];exact E _
  ·unfold sh;dsimp only;rw[if_neg h]
def WI.start {ws:List W3} {first:List Int} {k:Nat} {du:Bool} {opss:List (List ng)} (hw:FU (xN first k) ws) (q:k<=6) (u:∀z∈first,-128<=z/\z<=127) (h:opss.length<=3)
  (ho:∀ops∈opss,ops.length<=8/\∀o∈ops,Hk o):WI (Me.new 3 ws) (opss.mapIdx λi ops=>ll (DT du i ops) qa) 1000:=by
 obtain⟨a,b,c,d,e⟩:=WI.Q8 (du:=du) hw q u h ho;exact⟨⟨_,_,_,a,b,c⟩,d,by decide,by rw[dB]; exact h,e⟩
end
def md (W:Int->W3) (h:Hs):Nat:=
 match h.nx with
 | .begin=>0
 | .first=>180
 | .lJ=>179
 | .mP=>81+(97 - h.ws.length)
 | .checked=>80
 | .lB=>43+6*(6 - h.i)
 | .again=>42+6*(6 - h.i)+(if (W (hE h).at').ref=h.met.ref then 0 else 200)
 | .lP=>44+6*(6 - h.i)
 | .kN=>45+6*(6 - h.i)
 | .lG=>(if h.bh=some .settle then 31 else 2)+(7 - h.i)
 | .settle=>30
 | .mS=>29
 | .kH=>28
 | .kT=>27
 | .known=>26
 | .found=>12+2*(6 - h.i)
 | .pn=>11+2*(6 - h.i)
 | .through=>1
def Rj (W:Int->W3) (b:Option Int) (h:Hs) (c:Int):Prop:=
 match h.nx with
 | .begin | .first | .lJ | .mP | .checked=>b=some c
 | .lB | .lP=>b=some c\/∃(j:Nat) (e:Et),j<h.i/\h.es[j]?=some e/\e.at'=c
 | .again=>(b=some c/\(W h.at'=⟨0,h.seq,0⟩->c<(hE h).at'))\/∃(j:Nat) (e:Et),j<h.i/\h.es[j]?=some e/\e.at'=c
 | .kN=>(b=some c/\c<(hE h).at')\/∃(j:Nat) (e:Et),j<h.i/\h.es[j]?=some e/\e.at'=c
 | .lG=>h.bh=some .settle
 | .settle | .mS | .kH | .kT | .known=>True
 | .found | .pn=>∀(j:Nat) (e:Et),h.es[j]?=some e->e.at'=c->h.i<=j
 | .through=>False
def qF (W:Int->W3) (b:Option Int) (h:Hs) (c:Int):Prop:=((W c).ref=h.ref/\Rj W b h c)\/(h.nx=.lP/\c=(hE h).at'/\W c=h.met)
def Qd (W W':Int->W3) (b:Option Int) (h:Hs):HR->Prop
 | (h',_,false)=>h'.ref=h.ref/\md W' h'<md W h/\∀c,56<=c->c<62->¬(W' c).ref=0->qF W' b h' c\/(W' c=W c/\¬qF W b h c)
 | (h',_,true)=>h'.ref=h.ref/\1<=md W h/\∀c,56<=c->c<62->¬(W' c).ref=0->(b=some c/\(W' c).ref=h.ref/\h'.j8=4)\/(W' c=W c/\¬qF W b h c)
section
variable {D:Dg} {V:Vg} {N:Int} {s s':Sh} {t:Nat} {es:List Et} {e:Et} {h h':Hs} {a:Ac} {g:lA} {W W':Int->W3} {b:Option Int} {c:Int}
def Jm:md W (ku h).1<=28:=by
 unfold ku nL l6;split
 ·exact aP 28
 ·show 26<=28;omega
def Kf (q:(W c).ref=h.ref):qF W b (ku h).1 c:=by
 unfold ku nL l6;split
 ·exact .inl ⟨q,trivial⟩
 ·exact .inl ⟨q,trivial⟩
def MS (q:(W c).ref=h.ref):qF W b (oX h).1 c:=.inl ⟨q,trivial⟩
def Eo {z:Int} (q:¬h.es.length=0):md W (lh h z).1<=37:=by
 unfold lh;split
 ·unfold mB kB l6;rw[if_neg (show ¬0=h.es.length by omega)];exact aP 37
 ·show 29<=37;omega
def EI {z:Int} (u:¬h.es.length=0) (q:(W c).ref=h.ref):qF W b (lh h z).1 c:=by
 unfold lh;split
 ·unfold mB kB l6;rw[if_neg (show ¬0=h.es.length by omega)];exact .inl ⟨q,rfl⟩
 ·exact MS q
def CX (q:1<=h.es.length/\h.es.length<=6) (hi:h.i<=h.es.length):md W (ki h).1<=43+6*(6 - h.i):=by
 unfold ki;split
 ·have:=Eo (W:=W) (h:=h) (z:=1) (by omega);omega
 ·exact aP _
def Db (B:1<=h.es.length) (q:(W c).ref=h.ref) (u:b=some c\/∃(j:Nat) (e:Et),j<h.i/\h.es[j]?=some e/\e.at'=c):qF W b (ki h).1 c:=by
 unfold ki;split
 ·exact EI (by omega) q
 ·exact .inl ⟨q,u⟩
def QF (hw:h.ws.length<=96):md W (nc h).1<=81+(97 - h.ws.length):=by
 unfold nc nL l6;split
 ·show 80<=_;omega
 ·exact aP _
def QW (q:(W c).ref=h.ref) (u:b=some c):qF W b (nc h).1 c:=by
 unfold nc nL l6;split
 ·exact .inl ⟨q,u⟩
 ·exact .inl ⟨q,u⟩
def ID (M:1<=h.es.length/\h.es.length<=6) (hi:h.i<=h.es.length) {k:Nat} (H:12+2*(6 - h.i)<k) (J:8<k) (u:md W h'=k) (E:h.ref=h'.ref)
  (B:∀c,56<=c->c<62->(W' c).ref=h.ref->∃(j:Nat) (e:Et),h.es[j]?=some e/\e.at'=c)
  (F:∀c,56<=c->c<62->¬(W' c).ref=0->((W' c).ref=h.ref/\∀(j:Nat) (e:Et),h.es[j]?=some e->e.at'=c->h.i<=j)\/(W' c=W c/\¬qF W b h' c)):Qd W W' b h' (oS h):=by
 unfold oS;by_cases e:h.i<h.es.length
 ·rw[if_pos e];refine⟨E,?_,λc h1 h2 q=>?_⟩
  ·rw[u];exact H
  ·rcases F c h1 h2 q with ⟨x,y⟩| x
   ·exact .inl (.inl ⟨x,y⟩)
   ·exact .inr x
 ·rw[if_neg e];have gone:∀c,56<=c->c<62->¬(W' c).ref=0->W' c=W c/\¬qF W b h' c:=λc h1 h2 q=>by
   rcases F c h1 h2 q with ⟨x,y⟩| x
   ·obtain⟨j,e',G,K⟩:=B c h1 h2 x;have:=y j e' G K;have:=(aC.1 G).1;omega
   ·exact x
  by_cases d:h.kY=true
  ·rw[if_pos d];unfold mB kB l6;rw[if_neg (show ¬0=h.es.length by omega)];refine⟨E,?_,λc h1 h2 q=>.inr (gone c h1 h2 q)⟩;rw[u];show(if some HK.through=some HK.settle then 31 else 2)+(7 - 1)<k;rw[if_neg (by decide)];omega
  ·rw[if_neg d];exact⟨E,by omega,λc h1 h2 q=>.inr (gone c h1 h2 q)⟩
def E4 (B:W'=W) (q:h.nx=.first\/h.nx=.lJ\/h.nx=.checked):Qd W W' b h (ur h 4):=by
 subst B;refine⟨rfl,?_,λc h1 F G=>?_⟩
 ·unfold md;rcases q with e | e | e <;> rw[e] <;> dsimp only <;> omega
 ·by_cases x:qF W' b h c
  ·left;rcases x with ⟨E,u⟩| ⟨x,_⟩
   ·refine⟨?_,E,rfl⟩;unfold Rj at u;rcases q with e | e | e <;> rw[e] at u <;> exact u
   ·rcases q with e | e | e <;> rw[e] at x <;> cases x
  ·exact .inr ⟨rfl,x⟩
def rU (q:¬h.nx=.lP) (x:qF W b h c):(W c).ref=h.ref/\Rj W b h c:=x.resolve_right λy=>q y.1
def KP:ku h=((ku h).1,(ku h).2.1,false)/\(ku h).1.ref=h.ref:=by
 unfold ku nL l6;split <;> exact⟨rfl,rfl⟩
def Fu {z:Int}:lh h z=((lh h z).1,(lh h z).2.1,false)/\(lh h z).1.ref=h.ref:=by
 unfold lh mB kB oX l6;split
 ·split <;> exact⟨rfl,rfl⟩
 ·exact⟨rfl,rfl⟩
def Dl:ki h=((ki h).1,(ki h).2.1,false)/\(ki h).1.ref=h.ref:=by
 unfold ki l6;split
 ·exact Fu
 ·exact⟨rfl,rfl⟩
def QO:nc h=((nc h).1,(nc h).2.1,false)/\(nc h).1.ref=h.ref:=by
 unfold nc nL l6;split <;> exact⟨rfl,rfl⟩
def UD (W W':Int->W3) (b:Option Int) (h:Hs) (P:Int->Prop):Prop:=∀c,56<=c->c<62->¬(W' c).ref=0->((W' c).ref=h.ref/\P c)\/(W' c=W c/\¬qF W b h c)
def oJ {P:Int->Prop} (q:W'=W) (u:¬h.nx=.lP) (B:∀c,Rj W b h c->P c):UD W W' b h P:=λc h1 h2 G=>by
 subst q;by_cases x:qF W' b h c
 ·obtain⟨E,F⟩:=rU u x;exact .inl ⟨E,B c F⟩
 ·exact .inr ⟨rfl,x⟩
section
variable {h2:Hs} {P:Int->Prop}
def zW (e:h2.ref=h.ref) (F:28<md W h) (q:UD W W' b h P):Qd W W' b h (ku h2):=by
 obtain⟨u,B⟩:=KP (h:=h2);rw[u];refine⟨B.trans e,?_,λc h1 h2 E=>(q c h1 h2 E).imp_left λx=>Kf (x.1.trans e.symm)⟩;have:=Jm (W:=W') (h:=h2);omega
def PS {z:Int} (e:h2.ref=h.ref) (q:¬h2.es.length=0) (G:37<md W h) (u:UD W W' b h P):Qd W W' b h (lh h2 z):=by
 obtain⟨B,E⟩:=Fu (h:=h2) (z:=z);rw[B];refine⟨E.trans e,?_,λc h1 h2 F=>(u c h1 h2 F).imp_left λx=>EI q (x.1.trans e.symm)⟩;have:=Eo (W:=W') (h:=h2) (z:=z) q;omega
def Aq (e:h2.ref=h.ref) (q:1<=h2.es.length/\h2.es.length<=6) (hi:h2.i<=h2.es.length) (G:43+6*(6 - h2.i)<md W h)
  (u:UD W W' b h λc=>b=some c\/∃(j:Nat) (e:Et),j<h2.i/\h2.es[j]?=some e/\e.at'=c):Qd W W' b h (ki h2):=by
 obtain⟨B,E⟩:=Dl (h:=h2);rw[B];refine⟨E.trans e,?_,λc h1 h2 F=>(u c h1 h2 F).imp_left λx=>Db q.1 (x.1.trans e.symm) x.2⟩;have:=CX (W:=W') (h:=h2) q hi;omega
def Oa (e:h2.ref=h.ref) (hw:h2.ws.length<=96) (F:81+(97 - h2.ws.length)<md W h) (q:UD W W' b h λc=>b=some c):Qd W W' b h (nc h2):=by
 obtain⟨u,B⟩:=QO (h:=h2);rw[u];refine⟨B.trans e,?_,λc h1 h2 E=>(q c h1 h2 E).imp_left λx=>QW (x.1.trans e.symm) x.2⟩;have:=QF (W:=W') (h:=h2) hw;omega
def yA {q:Ac} (e:h2.ref=h.ref) (u:md W' h2<md W h) (B:UD W W' b h (Rj W' b h2)):Qd W W' b h (h2,q,false):=
 ⟨e,u,λc h1 h2 E=>(B c h1 h2 E).imp_left λx=>.inl ⟨x.1.trans e.symm,x.2⟩⟩
def M9 (e:h2.ref=h.ref) (hi:h2.i<=h2.es.length/\h2.es.length<=6) (E:h2.bh=some .settle\/h2.bh=some .through) (u:(if h2.bh=some .settle then 31 else 2)+(7 - h2.i)=md W h)
  (B:UD W W' b h λ_=>h2.bh=some .settle):Qd W W' b h (kB h2):=by
 unfold kB;split
 ·refine yA e ?_ λc h1 h2 q=>(B c h1 h2 q).imp_left λx=>⟨x.1,?_⟩
  ·rw[<-u];rcases E with y | y <;> rw[y]
   ·show 30<31+_;omega
   ·rw[if_neg (by decide)];show 1<2+_;omega
  ·rw[x.2];trivial
 ·refine yA e ?_ λc h1 h2 q=>(B c h1 h2 q).imp_left λx=>⟨x.1,x.2⟩;rw[<-u];show(if h2.bh=some .settle then 31 else 2)+(7 - (h2.i+1))<_;omega
end
def HL.alone (H:SI D V N s) (x:HL D V s t h a) (E:s5 t s s' a g) (hp:h.nx=.again->¬g.w=⟨0,h.seq,0⟩):Qd s.W s'.W b h (lS h g):=by
 obtain⟨h0,es,hD,x⟩:=x;obtain⟨who,q,f,iS,gd⟩:=H.rf hD;have gl:=gd.len;have oF:=H.nN;have X:∀c,56<=c->c<62->(s.W c).ref=h.ref->∃(j:Nat) (e:Et),es[j]?=some e/\e.at'=c:=λc h1 h2 h3=>by
  have aS:=f.pos;obtain⟨oR,e',K,M,B,_⟩:=H.cell c h1 h2 (by omega);rw[h3,hD] at K;cases K
  obtain⟨j,hj,rfl⟩:=bK.1 M;exact⟨j,_,aB hj,B⟩
 have Z:∀{k:HK},h.nx=k->∀c,Rj s.W b h c->Rj s.W b {h with nx:=k} c:=λ{k} e c y=>by
  subst e;exact y
 unfold lS;cases u:h.nx with
 | kN=>rw[u] at x;exact x.elim
 | begin=>rw[u] at x;exact x.elim
 | first=>
  rw[u] at x;obtain⟨F,U,rfl⟩:=x;obtain⟨J,_,rfl⟩:=E.kD;dsimp only;split
  ·exact E4 (nk J) (.inl u)
  ·exact yA rfl (by unfold md; rw[u]; exact aP _) (oJ (nk J) (by rw[u]; simp) λc y=>(Z u c y:b=some c))
 | lJ=>
  rw[u] at x;obtain⟨F,U,rfl,O⟩:=x;obtain⟨J,_⟩:=E.NN;dsimp only;unfold pz;split
  ·exact E4 (nk J) (.inr (.inl u))
  ·have rW:h.ws.length=0:=by rw[U];rfl
   have hr:md s.W h=179:=by unfold md;rw[u]
   exact Oa (h2:={h with many:=g.w.v.toNat}) rfl (by dsimp only; omega) (by dsimp only; omega) (oJ (nk J) (by rw[u]; simp) (Z u))
 | mP=>
  rw[u] at x;obtain⟨F,U,rfl,O⟩:=x;obtain⟨J,_⟩:=E.NN;have dO:=O.many;have hr:md s.W h=81+(97 - h.ws.length):=by unfold md;rw[u]
  exact Oa (h2:={h with ws:=h.ws++[g.w]}) rfl (by dsimp only; rw[aF,aE]; omega) (by dsimp only; rw[aF,aE]; omega) (oJ (nk J) (by rw[u]; simp) (Z u))
 | checked=>
  rw[u] at x;obtain⟨F,U,rfl,O⟩:=x;obtain⟨J,q2,rfl⟩:=E.kD;dsimp only;have hr:md s.W h=80:=by unfold md;rw[u]
  unfold nB;by_cases l:tU h (s.W h.at')=true
  ·rw[if_pos l];exact E4 (nk J) (.inr (.inr u))
  ·rw[if_neg l];have ly:Live s h.ref:=by
    rw[AQ rfl];exact dN.1 λy=>l ((zj h).2 y)
   obtain⟨w1,w2⟩:=O.ws ly;have tO:=yY es;rw[aW (by omega)] at w2;rw[show vi h.ws []=some es by rw[w2]; exact gd.unpack];dsimp only;have cd:=oJ (b:=b) (h:=h) (P:=λc=>b=some c) (nk J) (by rw[u]; simp) (Z u);split
   ·exact zW rfl (by omega) cd
   ·exact Aq (h2:={h with es:=es}) rfl gl (by show h.i<=_; omega) (by dsimp only; omega) λc K M B=>(cd c K M B).imp_left λy=>⟨y.1,.inl y.2⟩
 | lB=>
  rw[u] at x;obtain⟨F,U,e,O,rfl⟩:=x;have hm:=aG O;have hi:=(aC.1 O).1;have hh:xp h=⟨e.old.v,e.old.j8,h.ref⟩:=by unfold xp;rw[rj F rfl O]
  have hr:md s.W h=43+6*(6 - h.i):=by unfold md;rw[u]
  have hle:∀c,(b=some c\/∃(j:Nat) (e:Et),j<h.i/\h.es[j]?=some e/\e.at'=c)->b=some c\/∃(j:Nat) (e:Et),j<h.i+1/\h.es[j]?=some e/\e.at'=c:=λc y=>y.imp_right λ⟨j,e,Q,G⟩=>⟨j,e,by omega,G⟩;have hn:¬h.nx=.lP:=by rw[u];simp
  have aT:UD s.W s'.W b h (λc=>b=some c\/∃(j:Nat) (e:Et),j<h.i+1/\h.es[j]?=some e/\e.at'=c)->Qd s.W s'.W b h (ki {h with i:=h.i+1}):=λcd=>
   Aq (h2:={h with i:=h.i+1}) rfl (by rw[F]; exact gl) (by show h.i+1<=h.es.length; rw[F]; exact hi) (by dsimp only; omega) cd
  dsimp only;unfold mZ;rcases E.p7 with ⟨Q,rfl,G,_⟩| ⟨Q,rfl,G⟩
  ·rw[if_pos (.inl rfl)];refine aT λc K M B=>?_;by_cases ce:c=e.at'
   ·subst ce;rw[G.self];exact .inl ⟨rfl,.inr ⟨h.i,e,by omega,by rw[F]; exact O,rfl⟩⟩
   ·rw[G.ne ce] at B⊢;by_cases z:qF s.W b h c
    ·obtain⟨R,T⟩:=rU hn z;exact .inl ⟨R,hle c (Z u c T)⟩
    ·exact .inr ⟨rfl,z⟩
  ·have cd:∀{P:Int->Prop},(∀c,Rj s.W b h c->P c)->UD s.W s'.W b h P:=λhc=>oJ (nk G) hn hc;dsimp only;rw[hh];by_cases z:s.W e.at'=⟨e.old.v,e.old.j8,h.ref⟩
   ·rw[if_pos (.inr z)];exact aT (cd λc y=>hle c (Z u c y))
   ·rw[if_neg (λw=>w.elim (λw=>by cases w) z)];split
    ·refine yA (h2:={h with met:=s.W e.at',nx:=.again}) rfl ?_ λc K M B=>?_;rotate_left
     ·rw[G.1] at B;rw[G.1];by_cases zz:qF s.W b h c
      ·obtain⟨R,T⟩:=rU hn zz;refine .inl ⟨R,?_⟩;rcases Z u c T with z3 | z3
       ·refine .inl ⟨z3,λso=>?_⟩;rw[rj (h:={h with met:=s.W e.at',nx:=.again}) F rfl O];rw[nk G] at so;have so:s.W h.at'=⟨0,h.seq,0⟩:=so;have bY:h.at'=jP who:=by unfold Hs.at';rw[f.w]
        have eQ:h.seq=q:=f.sq;rw[bY,eQ] at so;obtain⟨I,_⟩:=H.live f hD (f.live.2 ⟨0,by omega,so⟩);have v0:V h.ref=0:=by
         have:=I.eq.symm.trans so;simp only[W3.mk.injEq] at this;exact this.1
        obtain⟨j,e',j1,j2⟩:=X c K M R;have hH:kS s h.ref e':=H.II hD (aG j1) (by rw[j2]; exact R);rcases gL j h.i with cc | cc | cc
        ·rw[<-j2];exact gd.Gm j h.i _ _ cc j1 O
        ·subst cc;rw[O] at j1;cases j1
         exact absurd hH z
        ·exact absurd (H.ord h.ref es hD v0 h.i j _ _ cc O j1 hH) z
       ·exact .inr z3
      ·exact .inr ⟨rfl,zz⟩
     rw[hr];have:md s'.W {h with met:=s.W e.at',nx:=.again}=42+6*(6 - h.i):=by
      show 42+6*(6 - h.i)+(if (s'.W (hE {h with met:=s.W e.at',nx:=.again}).at').ref=(s.W e.at').ref then 0 else 200)=_;rw[rj (h:={h with met:=s.W e.at',nx:=.again}) F rfl O,G.1,if_pos rfl,dG]
     omega
    ·exact PS (P:=λ_=>True) rfl (by rw[F]; omega) (by omega) (cd λ_ _=>trivial)
 | again=>
  rw[u] at x;obtain⟨F,U,e,O,rfl,x4⟩:=x;obtain⟨J,_,rfl⟩:=E.kD;have hi:=(aC.1 O).1;exact zW (P:=λ_=>True) rfl (by unfold md; rw[u]; dsimp only; omega) (oJ (nk J) (by rw[u]; simp) λ_ _=>trivial)
 | lP=>
  rw[u] at x;obtain⟨F,U,e,O,rfl,x4,x5⟩:=x;have hi:=(aC.1 O).1;have hr:md s.W h=44+6*(6 - h.i):=by unfold md;rw[u]
  have iF:hE h=e:=rj F rfl O;refine Aq (h2:=h) rfl (by rw[F]; exact gl) (by rw[F]; omega) (by omega) λc K M B=>?_;by_cases z:qF s.W b h c
  ·rcases z with ⟨R,T⟩| ⟨_,T,z3⟩
   ·rcases E.p7 with ⟨Q,_,G,_⟩| ⟨Q,_,G⟩
    ·by_cases ce:c=e.at'
     ·subst ce;rw[G.self] at B;exact absurd rfl B
     ·rw[G.ne ce];exact .inl ⟨R,Z u c T⟩
    ·rw[G.1];exact .inl ⟨R,Z u c T⟩
   ·rw[iF] at T;subst T;rcases E.p7 with ⟨Q,_,G,_⟩| ⟨Q,_,G⟩
    ·rw[G.self] at B;exact absurd rfl B
    ·exact absurd z3 Q
  ·rcases E.p7 with ⟨Q,_,G,_⟩| ⟨Q,_,G⟩
   ·by_cases ce:c=e.at'
    ·subst ce;rw[G.self] at B;exact absurd rfl B
    ·exact .inr ⟨G.ne ce,z⟩
   ·exact .inr ⟨G.1 c,z⟩
 | lG=>
  rw[u] at x;obtain⟨F,⟨e,Q,G,rfl⟩,O⟩:=x;have J:=E.mF (.inl rfl);have hi:=(aC.1 G).1;refine M9 (h2:=h) rfl (by rw[F]; omega) (O.imp (λy=>y.1) λy=>y.1) (by unfold md; rw[u]) (oJ (nk J) (by rw[u]; simp) (Z u))
 | settle=>
  rw[u] at x;obtain⟨F,rfl,U,O⟩:=x;have J:=E.mF (.inr rfl);exact yA rfl (by unfold md; rw[u]; exact aP _) (oJ (nk J) (by rw[u]; simp) λ_ _=>trivial)
 | mS=>
  rw[u] at x;obtain⟨F,rfl,U⟩:=x;have uS:=kR f.wh;have bY:h.at'=jP who:=by unfold Hs.at';rw[f.w]
  have hW:∀c,56<=c->c<62->s'.W c=s.W c:=λc K M=>by
   rcases E.p7 with ⟨_,_,G,_⟩| ⟨_,_,G⟩
   ·exact G.ne (by omega)
   ·exact G.1 c
  refine zW (P:=λ_=>True) rfl (by unfold md; rw[u]; exact aP _) λc K M B=>?_;rw[hW c K M];by_cases z:qF s.W b h c
  ·exact .inl ⟨(rU (by rw[u]; simp) z).1,trivial⟩
  ·exact .inr ⟨rfl,z⟩
 | kH=>
  rw[u] at x;obtain⟨F,rfl,U⟩:=x;have J:=E.mF (.inl rfl);exact yA rfl (by unfold md; rw[u]; exact aP _) (oJ (nk J) (by rw[u]; simp) λ_ _=>trivial)
 | kT=>
  rw[u] at x;obtain⟨F,rfl,U⟩:=x;have J:=E.mF (.inr rfl);exact yA rfl (by unfold md; rw[u]; exact aP _) (oJ (nk J) (by rw[u]; simp) λ_ _=>trivial)
 | known=>
  rw[u] at x;obtain⟨F,rfl,U⟩:=x;obtain⟨J,_,rfl⟩:=E.kD;have hr:md s.W h=26:=by unfold md;rw[u]
  dsimp only;unfold xX;refine ID (k:=26) (by rw[F]; exact gl) (aO _) (by show 12+2*(6 - 0)<26; decide) (by decide) hr rfl (λc K M B=>?_) λc K M B=>?_
  ·rw[J.1] at B;rw[F];exact X c K M B
  ·exact(oJ (b:=b) (P:=λ_=>True) (nk J) (by rw[u]; simp) (λ_ _=>trivial) c K M B).imp_left λy=>⟨y.1,λ_ _ _ _=>aO _⟩
 | found=>
  rw[u] at x;obtain⟨F,U,O,e,x4,rfl⟩:=x;obtain⟨J,_,rfl⟩:=E.kD;have hm:=aG x4;have hi:=(aC.1 x4).1;have hr:md s.W h=12+2*(6 - h.i):=by unfold md;rw[u]
  have gv:=gd.j8 e hm;have cd:=oJ (b:=b) (h:=h) (P:=λc=>∀(j:Nat) (e:Et),h.es[j]?=some e->e.at'=c->h.i<=j) (nk J) (by rw[u]; simp) (Z u);dsimp only;unfold tQ;rw[rj F rfl x4];by_cases c0:(s.W e.at').ref=h.ref
  ·have hw:=H.II hD hm c0;unfold kS at hw;have iN:(zx (s.W e.at') e.new (e.wr&&decide (h.j8=1))).2=0:=by
    rw[hw];unfold zx;rw[if_neg (by rw[GO H hD]; simp),if_neg (by dsimp only; omega)];split <;> rfl
   rw[if_pos ⟨c0,iN⟩];exact yA rfl (by rw[hr]; show 11+2*(6 - h.i)<_; omega) cd
  ·rw[if_neg (λy=>c0 y.1)];unfold rQ;refine ID (h:={h with i:=h.i+1}) (by dsimp only; rw[F]; exact gl) (by dsimp only; rw[F]; exact hi) (by dsimp only; omega) (by omega) hr rfl (λc K M B=>?_) λc K M B=>?_
   ·rw[J.1] at B;dsimp only at B⊢;rw[F];exact X c K M B
   ·refine(cd c K M B).imp_left λy=>⟨y.1,λj e' R T=>?_⟩;have h5:=y.2 j e' R T;have:¬j=h.i:=λej=>by
     subst ej;have R:h.es[h.i]?=some e':=R;rw[F,x4] at R;cases R
     apply c0;rw[T,<-J.1 c];exact y.1
    show h.i+1<=j;omega
 | pn=>
  rw[u] at x;obtain⟨F,U,O,e,x4,rfl⟩:=x;have hm:=aG x4;have hi:=(aC.1 x4).1;have hr:md s.W h=11+2*(6 - h.i):=by unfold md;rw[u]
  have hW:∀c,56<=c->c<62->¬(s'.W c).ref=0->s'.W c=s.W c/\(c=e.at'->¬(s.W c).ref=h.ref):=λc K M B=>by
   rcases E.p7 with ⟨_,_,G,_⟩| ⟨Q,_,G⟩
   ·by_cases ce:c=e.at'
    ·subst ce;rw[G.self] at B;exfalso;apply B;split <;> rfl
    ·exact⟨G.ne ce,λy=>absurd y ce⟩
   ·refine⟨G.1 c,λce cr=>Q ?_⟩;subst ce;have hw:=H.II hD hm cr;unfold kS at hw;exact hw
  dsimp only;unfold rQ;refine ID (h:={h with i:=h.i+1}) (by dsimp only; rw[F]; exact gl) (by dsimp only; rw[F]; exact hi) (by dsimp only; omega) (by omega) hr rfl (λc K M B=>?_) λc K M B=>?_
  ·have B:(s'.W c).ref=h.ref:=B;have aS:=f.pos;have a4:¬(s'.W c).ref=0:=by omega
   rw[(hW c K M a4).1] at B;dsimp only;rw[F];exact X c K M B
  ·obtain⟨b1,b2⟩:=hW c K M B;by_cases z:qF s.W b h c
   ·obtain⟨R,T⟩:=rU (by rw[u]; simp) z;have T:=Z u c T;left;rw[b1];refine⟨R,λj e' Q G=>?_⟩;have h5:h.i<=j:=T j e' Q G;have:¬j=h.i:=λej=>by
     subst ej;have Q:h.es[h.i]?=some e':=Q;rw[F,x4] at Q;cases Q
     exact b2 G.symm R
    show h.i+1<=j;omega
   ·exact .inr ⟨b1,z⟩
 | through=>
  rw[u] at x;obtain⟨F,rfl,U,O⟩:=x;have J:=E.mF (.inr rfl);refine⟨rfl,by unfold md; rw[u]; exact aP _,λc K M B=>.inr ⟨J.1 c,λz=>?_⟩⟩;exact Z u c (rU (by rw[u]; simp) z).2
end
def Acc (W:Int->W3):Option Int->List Hs->Int->Prop
 | _,[],_=>False
 | b,h::r,c=>qF W b h c\/Acc W (some (hE h).at') r c
def qz (W:Int->W3):List Hs->Nat
 | []=>0
 | h::r=>md W h+qz W r
def H6 (W:Int->W3) (V:Vg) (O:List Int):List Hs->Prop
 | []=>True
 | [k]=>k.nx=.again->(W (hE k).at').ref=k.met.ref->V k.ref=0->(hE k).at'∈O
 | _::k::r=>H6 W V O (k::r)
def VQ (W W':Int->W3) (O q:List Int) (b:Option Int) (u:Int) (row:List Hs):List Hs × Ac × Bool->Prop
 | (hs,_,false)=>q.length<=O.length/\190*q.length+qz W' hs<190*O.length+qz W row/\∀c,56<=c->c<62->¬(W' c).ref=0->(c∈q\/Acc W' b hs c)\/(W' c=W c/\¬c∈O/\¬Acc W b row c)
 | (hs,_,true)=>q.length<=O.length/\190*q.length<190*O.length+qz W row/\∀c,56<=c->c<62->¬(W' c).ref=0->c∈q\/(b=some c/\(W' c).ref=u/\HM hs=4)\/(W' c=W c/\¬c∈O/\¬Acc W b row c)
section
variable {D:Dg} {V V':Vg} {N:Int} {s s':Sh} {t:Nat} {es:List Et} {e:Et} {h:Hs} {a:Ac} {g:lA} {W W':Int->W3} {b:Option Int} {c:Int} {O:List Int}
def zk:Acc W b [h] c↔qF W b h c:=⟨λx=>x.resolve_right λy=>y,.inl⟩
def Qd.row {x:HR} (y:Qd W W' b h x):VQ W W' O O b h.ref [h] ([x.1],x.2):=by
 obtain⟨h',F,d⟩:=x;cases d with
 | false=>
  obtain⟨B,E,q⟩:=y;refine⟨aP _,?_,λc h1 h2 u=>?_⟩
  ·show _+(md W' h'+0)<_+(md W h+0);omega
  ·by_cases m:c∈O
   ·exact .inl (.inl m)
   ·rcases q c h1 h2 u with z | z
    ·exact .inl (.inr (zk.2 z))
    ·exact .inr ⟨z.1,m,λw=>z.2 (zk.1 w)⟩
 | true=>
  obtain⟨B,E,q⟩:=y;refine⟨aP _,?_,λc h1 h2 u=>?_⟩
  ·show _<_+(md W h+0);omega
  ·by_cases m:c∈O
   ·exact .inl m
   ·rcases q c h1 h2 u with z | z
    ·exact .inr (.inl z)
    ·exact .inr (.inr ⟨z.1,m,λw=>z.2 (zk.1 w)⟩)
def za {l:List Int} (h:c∈l):(l.erase c).length+1=l.length:=by
 have:=List.length_erase_of_mem h;have:=iR h;omega
def Aa {l:List Int} {x:Int} (h:x∈l) (n:¬x=c):x∈l.erase c:=(List.mem_erase_of_ne n).2 h
def nY.alone (H:SI D V N s) (S:SI D V' (N+1) s') (E:s5 t s s' a g):∀{l:List Hs} {h:Hs} {b:Option Int},nY D V s t (h::l) a->H6 s.W V O (h::l)->
  ∃U,VQ s.W s'.W O U b h.ref (h::l) (kQ (h::l) g)
 | [],h,b,x,hp=>by
  have x:HL D V s t h a:=x;have h0:=x.1;have hn:¬h.nx=.kN:=λe=>by
   obtain⟨_,es,_,z⟩:=x;rw[e] at z;exact z
  by_cases G:h.nx=.again
  ·by_cases z:g.w=⟨0,h.seq,0⟩
   ·rw[nE h0 G,if_neg (λy=>y z)];obtain⟨_,es,hD,x⟩:=x;rw[G] at x;obtain⟨x1,x2,e',x3,rfl,x4⟩:=x;obtain⟨q1,_,rfl⟩:=E.kD;have hi:=(aC.1 x3).1;obtain⟨who,q,f,_,gd⟩:=H.rf hD;have gl:=gd.len;have aS:h.at'=jP who:=by unfold Hs.at';rw[f.w]
    have aT:h.seq=q:=f.sq;have so:s.W h.at'=⟨0,h.seq,0⟩:=z;have v0:V h.ref=0:=by
     rw[aS,aT] at so;obtain⟨I,_⟩:=H.live f hD (f.live.2 ⟨0,by omega,so⟩);have:=I.eq.symm.trans so;simp only[W3.mk.injEq] at this;exact this.1
    have hW:=nk q1;have r1:md s.W h=42+6*(6 - h.i)+(if (s.W (hE h).at').ref=h.met.ref then 0 else 200):=by unfold md;rw[G]
    have eQ:=of_decide_eq_true x4.zd;rw[hW];have lQ:∀c,qF s.W b h c->qF s.W b {h with nx:=.kN} c:=λc y=>by
     obtain⟨T,J⟩:=rU (by rw[G]; simp) y;unfold Rj at J;rw[G] at J;rcases J with J | J
     ·exact .inl ⟨T,.inl ⟨J.1,J.2 so⟩⟩
     ·exact .inl ⟨T,.inr J⟩
    have X:∀c,c=(hE h).at'->(s.W c).ref=h.met.ref->qF s.W (some (hE h).at') {Hs.new h.met.ref h.kY with nx:=.first} c:=λc e y=>.inl ⟨y,by rw[e]; rfl⟩;by_cases hm:(s.W (hE h).at').ref=h.met.ref
    ·have Q:=hp G hm v0;refine⟨O.erase (hE h).at',by have:=za Q; omega,?_,λc h1 h2 R=>?_⟩
     ·have:=za Q;show 190*(O.erase (hE h).at').length+(45+6*(6 - h.i)+(180+0))<190*O.length+(md s.W h+0);rw[r1,if_pos hm];omega
     ·by_cases ce:c=(hE h).at'
      ·left;right;right;left;exact X c ce (by rw[ce]; exact hm)
      ·by_cases m:c∈O
       ·exact .inl (.inl (Aa m ce))
       ·by_cases y:qF s.W b h c
        ·left;right;left;exact lQ c y
        ·exact .inr ⟨rfl,m,λw=>y (zk.1 w)⟩
    ·refine⟨O,aP _,?_,λc h1 h2 R=>?_⟩
     ·show 190*O.length+(45+6*(6 - h.i)+(180+0))<190*O.length+(md s.W h+0);rw[r1,if_neg hm];omega
     ·by_cases m:c∈O
      ·exact .inl (.inl m)
      ·by_cases y:qF s.W b h c
       ·left;right;left;exact lQ c y
       ·exact .inr ⟨rfl,m,λw=>y (zk.1 w)⟩
   ·rw[nE h0 G,if_pos z];have y:=(x.alone (b:=b) H E λ_=>z).row (O:=O);unfold lS at y;rw[G] at y;exact⟨O,y⟩
  ·rw[qw h0 G [] (.inl rfl)];exact⟨O,(x.alone (b:=b) H E λy=>absurd y G).row⟩
 | k::l,h,b,x,hp=>by
  obtain⟨⟨w,Gm⟩,x⟩:=x;have w':=w;obtain⟨w1,w2,w3,es,e,w4,w5,w6,w7,w8⟩:=w;obtain⟨who,q,f,_,gd⟩:=H.rf w4;have gl:=gd.len;have hi:=(aC.1 w7).1;obtain⟨V2,_,_,rk⟩:=nY.step H S.nN E x;obtain⟨U,y⟩:=nY.alone (b:=some (hE h).at') H S E x hp;refine⟨U,?_⟩;rw[ot w1 w2];have r1:md s.W h=45+6*(6 - h.i):=by unfold md;rw[w2]
  have old:∀c,s'.W c=s.W c->¬c∈O->¬Acc s.W (some (hE h).at') (k::l) c->(qF s.W b h c)\/(s'.W c=s.W c/\¬c∈O/\¬Acc s.W b (h::k::l) c):=λc B F K=>by
   by_cases z:qF s.W b h c
   ·exact .inl z
   ·exact .inr ⟨B,F,λy=>y.elim z K⟩
  have acc:∀c,qF s.W b h c->(s.W c).ref=h.ref/\((b=some c/\c<(hE h).at')\/∃(j:Nat) (e:Et),j<h.i/\h.es[j]?=some e/\e.at'=c):=λc z=>by
   obtain⟨B,F⟩:=rU (by rw[w2]; simp) z;unfold Rj at F;rw[w2] at F;exact⟨B,F⟩
  cases hq:kQ (k::l) g with
  | mk r' q=>
   obtain⟨a',d⟩:=q;rw[hq] at y rk;cases d with
   | false=>
    obtain⟨T,J,y3⟩:=y;refine⟨T,?_,λc h1 h2 R=>?_⟩
    ·show 190*U.length+(45+6*(6 - h.i)+qz s'.W r')<190*O.length+(md s.W h+qz s.W (k::l));omega
    ·rcases y3 c h1 h2 R with (z | z) | ⟨B,F,K⟩
     ·exact .inl (.inl z)
     ·exact .inl (.inr (.inr z))
     ·refine(old c B F K).imp_left λz=>.inr (.inl ?_);obtain⟨Z,u2⟩:=acc c z;exact .inl ⟨by rw[B]; exact Z,u2⟩
   | true=>
    obtain⟨h2,rfl,e2,he⟩:=rk;obtain⟨T,J,y3⟩:=y;dsimp only;by_cases e4:h2.j8=4
    ·rw[if_neg (λz=>z e4)];refine⟨T,?_,λc h1 M R=>?_⟩
     ·show 190*U.length+(44+6*(6 - h.i)+0)<190*O.length+(md s.W h+qz s.W (k::l));omega
     ·rcases y3 c h1 M R with z | ⟨B,F,K⟩| ⟨B,F,K⟩
      ·exact .inl (.inl z)
      ·left;right;left;right;injection B with B;refine⟨rfl,B.symm,?_⟩;have bY:hE h=e:=rj w5 rfl w7;obtain⟨iF,e',a1,a2,a3,a4⟩:=w8.known;rw[w3] at F;obtain⟨iN,e3,b1,b2,b3,b4⟩:=S.cell c h1 M R;rw[F,a1] at b1;cases b1
       obtain⟨_,_,_,_,dO⟩:=H.rf a1;have:e3=e':=dO.inj b2 a2 (by rw[b3,a3,<-bY]; exact B.symm);subst this;unfold kS at b4;rw[b3,F] at b4;rw[b4,a4]
      ·refine(old c B F K).imp_left λz=>.inr (.inl ?_);obtain⟨Z,u2⟩:=acc c z;exact .inl ⟨by rw[B]; exact Z,u2.imp_left λu=>u.1⟩
    ·rw[if_pos e4];obtain⟨i1,i2⟩:=Dl (h:=h);rw[i1];refine⟨T,?_,λc h1 M R=>?_⟩
     ·have:=CX (W:=s'.W) (h:=h) (by rw[w5]; exact gl) (by rw[w5]; omega);show 190*U.length+(md s'.W (ki h).1+0)<190*O.length+(md s.W h+qz s.W (k::l));omega
     ·rcases y3 c h1 M R with z | ⟨B,F,K⟩| ⟨B,F,K⟩
      ·exact .inl (.inl z)
      ·exact absurd K e4
      ·refine(old c B F K).imp_left λz=>.inr (.inl ?_);obtain⟨Z,u2⟩:=acc c z;exact Db (by rw[w5]; exact gl.1) (by rw[B]; exact Z) (u2.imp_left λu=>u.1)
end
def B7 (W:Int->W3) (V:Vg):List Hs->Int->Prop
 | [],_=>False
 | [k],c=>k.nx=.again/\V k.ref=0/\c=(hE k).at'/\(W c).ref=k.met.ref
 | _::k::r,c=>B7 W V (k::r) c
def JJ (W:Int->W3) (O:List Int) (b:Option Int) (row:List Hs):Prop:=∀c,56<=c->c<62->¬(W c).ref=0->c∈O\/Acc W b row c
section
variable {D:Dg} {V V':Vg} {N:Int} {s s':Sh} {t:Nat} {r:Int} {es:List Et} {e:Et} {h:Hs} {a:Ac} {g:lA} {W:Int->W3} {b:Option Int} {c:Int} {O:List Int} {hs:List Hs}
def Nz:∀{row:List Hs},(∀c,B7 W V row c->c∈O)->H6 W V O row
 | [],_=>trivial
 | [k],x=>λq u B=>x _ ⟨q,B,rfl,u⟩
 | _::k::r,x=>Nz (row:=k::r) x
def JI (H:SI D V N s):∀{l:List Hs} {h k:Hs},nY D V s t (h::k::l) a->B7 W V (h::k::l) c->(hE h).at'<c
 | [],h,k,x,y=>by
  obtain⟨q,u,B,_⟩:=y;rw[B];exact x.1.2.1 q u
 | k2::l,h,k,x,y=>by
  have:=JI H x.2 y;have:=x.1.2.2 (.inl x.2.1.1.2.1);omega
def KI (H:SI D V N s):∀{l:List Hs} {h:Hs} {b:Option Int},nY D V s t (h::l) a->B7 s.W V (h::l) c->¬Acc s.W b (h::l) c
 | [],h,b,x,y=>λz=>by
  obtain⟨u,K,M,E⟩:=y;have x:HL D V s t h a:=x;obtain⟨_,es,_,x⟩:=x;rw[u] at x;obtain⟨_,_,e,_,_,m⟩:=x;have F:=of_decide_eq_true m.zd;obtain⟨G,_⟩:=rU (by rw[u]; simp) (zk.1 z);exact F.1 (E.symm.trans G)
 | k::l,h,b,x,y=>λz=>by
  rcases z with z | z
  ·have lt:=JI H x y;obtain⟨w1,w2,w3,es,e,w4,w5,w6,w7,w8⟩:=x.1.1;obtain⟨_,_,_,_,J⟩:=H.rf w4;obtain⟨_,q⟩:=rU (by rw[w2]; simp) z;unfold Rj at q;rw[w2] at q;rcases q with q | ⟨j,e',q,B,Q⟩
   ·omega
   ·rw[w5] at B;have:=J.Gm j h.i _ _ q B w7;rw[rj w5 rfl w7] at lt;omega
  ·exact KI H x.2 y z
def Fj (H:SI D V N s):∀{l:List Hs} {h:Hs},nY D V s t (h::l) a->B7 s.W V (h::l) c->(56<=c/\c<62)/\¬(s.W c).ref=0
 | [],h,x,y=>by
  obtain⟨u,K,B,E⟩:=y;have x:HL D V s t h a:=x;obtain⟨_,es,hD,x⟩:=x;obtain⟨_,_,_,_,F⟩:=H.rf hD;rw[u] at x;obtain⟨G,_,e,q,_,m⟩:=x;have J:=of_decide_eq_true m.zd;rw[E,B,rj G rfl q];exact⟨F.pl e (aG q),uu J.2.1⟩
 | k::l,h,x,y=>Fj H x.2 y
def UM (H:SI D V N s) {l:List Hs} (x:nY D V s t (h::l) a) (j:JJ s.W O b (h::l)):H6 s.W V O (h::l):=
 Nz λc y=>by
  obtain⟨q,u⟩:=Fj H x y;exact(j c q.1 q.2 u).resolve_right (KI H x y)
def WW (h:Hs):md W h<=280:=by
 unfold md;cases h.nx <;> dsimp only <;> first | omega | (split <;> omega)
def Oh:∀l:List Hs,qz W l<=280*l.length
 | []=>aP _
 | h::r=>by
  have:=WW (W:=W) h;have:=Oh r;show _+_<=280*(r.length+1);omega
def Kr (H:SI D V N s) {k:Hs} {l:List Hs} (x:nY D V s t (h::k::l) a):56<=(hE h).at'/\(hE h).at'<62:=by
 obtain⟨w1,w2,w3,es,e,w4,w5,w6,w7,w8⟩:=x.1.1;obtain⟨_,_,_,_,q⟩:=H.rf w4;rw[rj w5 rfl w7];exact q.pl e (aG w7)
def Na (H:SI D V N s):∀{l:List Hs} {h k:Hs},nY D V s t (h::k::l) a->((k::l).length:Int)<=62 - (hE h).at'
 | [],h,k,x=>by
  have:=Kr H x;show(1:Int)<=_;omega
 | k2::l,h,k,x=>by
  have h1:=Na H x.2;have h2:=x.1.2.2 (.inl x.2.1.1.2.1);rw[aH] at h1⊢;rw[aH];omega
def Vc (H:SI D V N s) (x:nY D V s t hs a):qz W hs<=1960:=by
 have:=Oh (W:=W) hs;match hs,x with
 | [],x=>exact aO _
 | [h],x=>simp only[aE] at this;omega
 | h::k::l,x=>
  have h1:=Na H x;have h2:=Kr H x;rw[aH] at this;omega
def tD.alone (H:SI D V N s) (M:N+1<1000000) (E:s5 t s s' a g) (x:tD D V s t r hs a) (j:JJ s.W O b hs):∃B,B.length<=O.length/\match kQ hs g with
  | (u,_,false)=>JJ s'.W B b u/\240*B.length+qz s'.W u<240*O.length+qz s.W hs
  | (u,_,true)=>(∀c,56<=c->c<62->¬(s'.W c).ref=0->c∈B\/(b=some c/\(s'.W c).ref=r/\HM u=4))/\240*B.length<240*O.length+qz s.W hs:=by
 obtain⟨⟨h,l,rfl,rfl⟩,y⟩:=x;obtain⟨V',S,G,_⟩:=nY.step H M E y;obtain⟨B,z⟩:=nY.alone (b:=b) H S E y (UM H y j);refine⟨B,?_⟩;cases Q:kQ (h::l) g with
 | mk u q=>
  obtain⟨T,d⟩:=q;rw[Q] at z;cases d with
  | false=>
   obtain⟨J,R,K⟩:=z;refine⟨J,λc h1 h2 F=>?_,by omega⟩;rcases K c h1 h2 F with w | ⟨w1,w2,w3⟩
   ·exact w
   ·exact absurd (j c h1 h2 (by rw[<-w1]; exact F)) (λy=>y.elim w2 w3)
  | true=>
   obtain⟨J,R,K⟩:=z;refine⟨J,λc h1 h2 F=>?_,by omega⟩;rcases K c h1 h2 F with w | w | ⟨w1,w2,w3⟩
   ·exact .inl w
   ·exact .inr w
   ·exact absurd (j c h1 h2 (by rw[<-w1]; exact F)) (λy=>y.elim w2 w3)
end
def OK (W:Int->W3) (b:Bk):Nat:=
 match b.ph with
 | .take .look=>480
 | .take (.swap _ w)=>if W 376=w then 479 else 481
 | .take _=>0
 | .looked=>470
 | .rel false=>460
 | .zw false=>459
 | .sS false=>458
 | .fill=>420+(32 - b.i)
 | .lQ=>400+(10 - b.i)
 | .zq=>390
 | .rel true=>380
 | .zw true=>379
 | .sS true=>378
 | .mQ hs=>20+qz W hs
 | .pR _ .look=>10
 | .pR _ (.swap w)=>if W 376=w then 9 else 11
 | .pR _ (.done _)=>0
 | .over=>0
def SJ (b:Bk):List Hs:=match b.ph with | .mQ hs=>hs | _=>[]
def Y0 (W W':Int->W3) (O h:List Int) (b:Bk):BR->Prop
 | (q,_,false)=>JJ W' h none (SJ q)/\240*h.length+OK W' q<240*O.length+OK W b
 | (_,_,true)=>JJ W' h none []/\240*h.length<240*O.length+OK W b
section
variable {D:Dg} {V:Vg} {Q:wB} {N:Int} {s s':Sh} {t:Nat} {es:List Et} {e:Et} {a:Ac} {g:lA} {W W':Int->W3} {b:Option Int} {c:Int} {O:List Int} {hs:List Hs} {k:Bk} {w:Sw}
def oE (h:∀c,56<=c->c<62->W' c=W c) (j:JJ W O none []):JJ W' O b hs:=λc h1 h2 q=>.inl ((j c h1 h2 (by rw[<-h c h1 h2]; exact q)).resolve_right λy=>y)
def mY (q:s.quiet s'):∀c,56<=c->c<62->s'.W c=s.W c:=λc _ _=>q.1 c
def uG {p:Int} {x:W3} (h:Wr s s' p x) (q:p<56\/62<=p):∀c,56<=c->c<62->s'.W c=s.W c:=λc h1 h2=>h.ne (by omega)
def KA (j:JJ W' O none []) (h:380<OK W k) {k2:Bk}:Y0 W W' O O k (KN k2):=⟨j,by show _+380<_; omega⟩
def J6 (j:JJ W' O none []) {k2:Bk} (h:k2.es.length<=6) (q:400+(10 - k2.i)<=OK W k):Y0 W W' O O k (qk k2):=by
 unfold qk mg;dsimp only;split
 ·exact⟨j,by show _+390<_; omega⟩
 ·rename_i z;refine⟨j,?_⟩;show _+(400+(10 - (k2.i+1)))<_;omega
def Er (j:JJ W' O none []) {k2:Bk} (h:k2.es.length<=6) (q:420+(32 - k2.i)<=OK W k):Y0 W W' O O k (rh k2):=by
 unfold rh;split
 ·rename_i z;unfold mg at z;refine⟨j,?_⟩;show _+(420+(32 - (k2.i+1)))<_;omega
 ·split
  ·exact J6 (k2:={k2 with i:=0}) j h (by dsimp only; omega)
  ·exact KA j (by omega)
def KS (j:JJ W' O none []) (q:200<OK W k) {k2:Bk}:Y0 W W' O O k (Jx k2):=by
 refine⟨λc h1 h2 h=>.inl ((j c h1 h2 h).resolve_right λy=>y),?_⟩;show _+(20+(180+0))<_;omega
def Eu.alone {k:Bk} (H:SI D V N s) (hN:N+1<1000000) (B:BI D V Q s) (ht:1<=t/\t<=3) (x:Eu D V Q s t k a) (E:s5 t s s' a g) (j:JJ s.W O none (SJ k)):∃Z,Z.length<=O.length/\Y0 s.W s'.W O Z k (kr k g):=by
 obtain⟨du,es,kZ,seq,i,dn,bad,ph⟩:=k;have T:jP (9+(kZ:Int))=Bk.at' ⟨du,es,kZ,seq,i,dn,bad,ph⟩:=zo ⟨du,es,kZ,seq,i,dn,bad,ph⟩;have U:Bk.at' ⟨du,es,kZ,seq,i,dn,bad,ph⟩<56\/62<=Bk.at' ⟨du,es,kZ,seq,i,dn,bad,ph⟩:=by
  show lC kZ<56\/_;unfold lC Bk.at' lC;split <;> omega
 cases ph with
 | take kk=>
  have j:JJ s.W O none []:=j;cases kk with
  | look=>
   obtain⟨h,J,u,x0,rfl⟩:=x;obtain⟨M,_,rfl⟩:=E.kD;obtain⟨n,hn,h1,h2⟩:=ud B ht u 4 0 rfl λn hn=>by omega
   refine⟨O,aP _,?_⟩;unfold kr mC;dsimp only;rw[h2];refine⟨oE (mY M) j,?_⟩;show _+(if s'.W 376=s.W 376 then 479 else 481)<_+480;rw[if_pos (M.1 _)];omega
  | swap n w=>
   obtain⟨h,J,u,x0,R,x5,rfl⟩:=x;refine⟨O,aP _,?_⟩;rcases E.p7 with ⟨G,rfl,F,_⟩| ⟨G,rfl,F⟩
   ·refine⟨oE (uG F (by decide)) j,?_⟩;show _+470<_+(if s.W 376=w then 479 else 481);split <;> omega
   ·obtain⟨n,hn,h1,h2⟩:=ud B ht u 4 0 rfl λn hn=>by omega
    unfold kr mC;dsimp only;rw[if_neg (by simp),h2];refine⟨oE (mY F) j,?_⟩;show _+(if s'.W 376=s.W 376 then 479 else 481)<_+(if s.W 376=w then 479 else 481);rw[if_pos (F.1 _),if_neg G];omega
  | done i=>exact x.elim
  | full=>exact x.elim
 | looked=>
  have j:JJ s.W O none []:=j;obtain⟨h,J,u,R,rfl,x5⟩:=x;obtain⟨M,_,rfl⟩:=E.kD;obtain⟨v,q,I⟩:=H.st _ (show ke (9+(kZ:Int)) from u.who);have hq:=I.qr;have hw:s.W (lC kZ)=⟨v,q,0⟩:=by
   have:=I.eq;rw[T] at this;exact this
  refine⟨O,aP _,?_⟩;unfold kr r7;dsimp only;rw[hw,if_neg (by dsimp only; have:=H.nN; omega)];refine⟨oE (mY M) j,?_⟩;show _+460<_+470;omega
 | rel op=>
  have j:JJ s.W O none []:=j;cases op with
  | false=>
   obtain⟨h,J,rfl,u⟩:=x;obtain⟨G,F,_⟩:=E.Dz (.inr rfl);have X:JJ s'.W O none []:=oE (uG G U) j;refine⟨O,aP _,?_⟩;unfold kr;dsimp only at J⊢;by_cases d:du=true
   ·rw[if_pos d];exact⟨X,by show _+459<_+460; omega⟩
   ·rw[if_neg d];unfold my;rw[if_neg (by simp)];exact Er (k:=⟨du,es,kZ,seq,i,dn,bad,.rel false⟩) X h.g.len.2 (by show 420+(32 - i)<=460; omega)
  | true=>
   obtain⟨h,rfl,u⟩:=x;obtain⟨G,_,F⟩:=E.Dz (.inr rfl);have X:JJ s'.W O none []:=oE (uG G U) j;refine⟨O,aP _,?_⟩;unfold kr;dsimp only;by_cases d:du=true
   ·rw[if_pos d];exact⟨X,by show _+379<_+380; omega⟩
   ·rw[if_neg d];unfold my;rw[if_pos rfl];exact KS (k:=⟨du,es,kZ,seq,i,dn,bad,.rel true⟩) X (by show 200<380; omega)
 | zw op=>
  have j:JJ s.W O none []:=j;cases op with
  | false=>
   obtain⟨h,J,rfl,u⟩:=x;exact⟨O,aP _,oE (mY (E.mF (.inl rfl))) j,by show _+458<_+459; omega⟩
  | true=>
   obtain⟨h,rfl,u⟩:=x;exact⟨O,aP _,oE (mY (E.mF (.inl rfl))) j,by show _+378<_+379; omega⟩
 | sS op=>
  have j:JJ s.W O none []:=j;cases op with
  | false=>
   obtain⟨h,J,rfl,u⟩:=x;refine⟨O,aP _,?_⟩;unfold kr my;dsimp only at J⊢;rw[if_neg (by simp)];exact Er (k:=⟨du,es,kZ,seq,i,dn,bad,.sS false⟩) (oE (mY (E.mF (.inr rfl))) j) h.g.len.2 (by show 420+(32 - i)<=458; omega)
  | true=>
   obtain⟨h,rfl,u⟩:=x;refine⟨O,aP _,?_⟩;unfold kr my;dsimp only;rw[if_pos rfl];exact KS (k:=⟨du,es,kZ,seq,i,dn,bad,.sS true⟩) (oE (mY (E.mF (.inr rfl))) j) (by show 200<378; omega)
 | fill=>
  have j:JJ s.W O none []:=j;obtain⟨h,k,J,u,rfl,R⟩:=x;obtain⟨G,F,_⟩:=E.Dz (.inl rfl);have hp:Bk.at' ⟨du,es,kZ,seq,i,dn,bad,.fill⟩+1+k<56\/62<=Bk.at' ⟨du,es,kZ,seq,i,dn,bad,.fill⟩+1+k:=by
   have:=kR h.o.who;rw[T] at this;omega
  exact⟨O,aP _,Er (k:=⟨du,es,kZ,seq,i,dn,bad,.fill⟩) (oE (uG G hp) j) h.g.len.2 (by show 420+(32 - i)<=420+(32 - i); omega)⟩
 | lQ=>
  have j:JJ s.W O none []:=j;obtain⟨h,⟨p,rfl⟩,u⟩:=x;exact⟨O,aP _,J6 (k:=⟨du,es,kZ,seq,i,dn,bad,.lQ⟩) (oE (mY (E.mF (.inl rfl))) j) h.g.len.2 (by show 400+(10 - i)<=400+(10 - i); omega)⟩
 | zq=>
  have j:JJ s.W O none []:=j;obtain⟨h,rfl,u⟩:=x;exact⟨O,aP _,KA (k:=⟨du,es,kZ,seq,i,dn,bad,.zq⟩) (oE (mY (E.mF (.inr rfl))) j) (by show 380<390; omega)⟩
 | mQ hs=>
  have j:JJ s.W O none hs:=j;obtain⟨h,J,u⟩:=x;obtain⟨Z,z1,z⟩:=u.alone H hN E j;refine⟨Z,z1,?_⟩;unfold kr;dsimp only;cases hq:kQ hs g with
  | mk aS q=>
   obtain⟨a',d⟩:=q;rw[hq] at z;cases d with
   | false=>
    refine⟨z.1,?_⟩;have:=z.2;show _+(20+qz s'.W aS)<_+(20+qz s.W hs);omega
   | true=>
    refine⟨λc h1 h2 h3=>.inl ((z.1 c h1 h2 h3).resolve_right λy=>by cases y.1),?_⟩;have:=z.2;show _+10<_+(20+qz s.W hs);omega
 | pR bb kk=>
  have j:JJ s.W O none []:=j;obtain⟨h,eb,u,R⟩:=x;have eb:kZ=bb:=eb.symm;subst eb;have K:¬sM (s.W 376).v (2 ^ kZ)=0:=by
   obtain⟨c,j8,e,hr,hx⟩:=B.bw;rw[e];intro z;have:=(hx kZ h.o.1).1 z;have:=(h.o.2 kZ h.o.1).2 rfl;omega
  refine⟨O,aP _,?_⟩;cases kk with
  | look=>
   obtain rfl:=R;obtain⟨M,_,rfl⟩:=E.kD;unfold kr m3 lO;dsimp only;rw[if_neg K];refine⟨oE (mY M) j,?_⟩;show _+(if s'.W 376=s.W 376 then 9 else 11)<_+10;rw[if_pos (M.1 _)];omega
  | swap w=>
   obtain⟨R,rfl⟩:=R;rcases E.p7 with ⟨G,rfl,F,_⟩| ⟨G,rfl,F⟩
   ·refine⟨oE (uG F (by decide)) j,?_⟩;show _<_+(if s.W 376=w then 9 else 11);split <;> omega
   ·unfold kr m3 lO;dsimp only;rw[if_neg (by simp),if_neg K];refine⟨oE (mY F) j,?_⟩;show _+(if s'.W 376=s.W 376 then 9 else 11)<_+(if s.W 376=w then 9 else 11);rw[if_pos (F.1 _),if_neg G];omega
  | done z=>exact R.elim
 | over=>exact x.elim
end
def AL (W:Int->W3) (w:Sw) (a:Ac):Nat:=
 match w.ph with
 | .pO=>430
 | .last hs=>240+qz W hs
 | .qx l=>190+l.length
 | .own hs=>5+qz W hs
 | .rE=>20
 | .pK _ hs=>22+qz W hs
 | .qv=>21
 | .sv=>if W (sE w).at'=a.old then 15 else 21
 | .send l _=>1+l.length
 | .over _=>0
def LN (W:Int->W3) (O:List Int) (w:Sw) (a:Ac):Prop:=
 match w.ph with
 | .last hs | .own hs=>JJ W O none hs
 | .pK _ hs=>JJ W O (some (sE w).at') hs
 | .qv=>∀c,56<=c->c<62->¬(W c).ref=0->c∈O\/(c=(sE w).at'/\W c=a.old)
 | _=>JJ W O none []
def V7 (W W':Int->W3) (O h:List Int) (w:Sw) (a:Ac):SR->Prop
 | (w',q,false)=>LN W' h w' q/\240*h.length+AL W' w' q<240*O.length+AL W w a
 | (_,_,true)=>JJ W' h none []/\240*h.length<240*O.length+AL W w a
section
variable {D:Dg} {V V':Vg} {N:Int} {s s':Sh} {t:Nat} {r:Int} {es:List Et} {e:Et} {a:Ac} {g:lA} {W W':Int->W3} {c:Int} {O:List Int} {hs:List Hs} {w w2:Sw}
def Vk (j:JJ W' O none []) (q:185<AL W w a):V7 W W' O O w a (XI w2):=by
 refine⟨λc h1 h2 h=>.inl ((j c h1 h2 h).resolve_right λy=>y),?_⟩;show _+(5+(180+0))<_;omega
def JG (j:JJ W' O none []) {l:List Ac} (h:189+l.length<AL W w a):V7 W W' O O w a (BJ w2 l):=by
 cases l with
 | nil=>exact Vk j (by simp only[aJ] at h; omega)
 | cons y l=>
  refine⟨j,?_⟩;show _+(190+l.length)<_;rw[aH] at h;omega
def Rx (j:JJ W' O none []) (g:w2.es.length<=6) (h:234<AL W w a):V7 W W' O O w a (vT w2):=by
 have:=EA g;exact JG j (by omega)
def LH (J:1<=t/\t<=3) {l:List Ac} (h:Yv t w) (x:sQ D V s t w (a::l)) (E:s5 t s s' a g):∀c,56<=c->c<62->s'.W c=s.W c:=by
 have M:=kR (l8 J);have T:=kO w.es;have U:=h.g.len;have B:(a.op=7\/a.op=8)->∀c,56<=c->c<62->s'.W c=s.W c:=λo=>by
  obtain⟨op,p,old,new⟩:=a;exact mY (E.mF o)
 generalize q:a::l=L at x;cases x with
 | yQ X u G h1 h2 H R=>
  obtain⟨rfl,rfl⟩:=cK q;exact uG (E.Dz (.inr rfl)).1 (by omega)
 | Oq k K u G F Z h2 H R=>
  cases K with
  | cons y K=>
   obtain⟨rfl,rfl⟩:=cK q;exact B (h2 a aM)
  | nil=>
   rw[eK] at q;by_cases e:k<(kh w.es).length
   ·rw[bP e] at q;obtain⟨rfl,rfl⟩:=cK q;exact uG (E.Dz (.inl rfl)).1 (by omega)
   ·rw[dH (by omega)] at q;have q:a::l=u++L5 (jP t) w.seq::G:=q;cases u with
    | cons y u=>
     obtain⟨rfl,rfl⟩:=cK q;exact B (H a aM)
    | nil=>
     obtain⟨rfl,rfl⟩:=cK q;exact uG (E.Dz (.inr rfl)).1 (by omega)
 | zq _ h1 h2=>
  subst q;exact B (h2 a aM)
def I8.alone (H:SI D V N s) (hN:N+1<1000000) (R:1<=t/\t<=3) (x:I8 D V s t w a) (E:s5 t s s' a g) (j:LN s.W O w a):∃B,B.length<=O.length/\V7 s.W s'.W O B w a (kP w g):=by
 have hw:=l8 R;obtain⟨h,x⟩:=x;have J:=h.g.len.2;unfold LN at j;unfold kP;cases K:w.ph <;> rw[K] at x j
 case pO=>
  obtain⟨T,rfl⟩:=x;obtain⟨q1,_,rfl⟩:=E.kD;have M:JJ s'.W O none []:=oE (mY q1) j;have u:AL s.W w (Gq (mR t))=430:=by unfold AL;rw[K]
  obtain⟨v,q,e,h1,h2⟩:=T.st;rw[s8 R] at e;refine⟨O,aP _,?_⟩;dsimp only;unfold ug;rw[e];dsimp only;rw[if_neg (by omega),h.t];split
  ·exact Rx M J (by omega)
  ·refine⟨λc h1 h2 F=>.inl ((M c h1 h2 F).resolve_right λy=>y),?_⟩;rw[u];show _+(240+(180+0))<_;omega
 case last hs=>
  obtain⟨T,r,U⟩:=x;obtain⟨B,X,z⟩:=U.alone H hN E j;have u:AL s.W w a=240+qz s.W hs:=by unfold AL;rw[K]
  refine⟨B,X,?_⟩;dsimp only;cases Z:kQ hs g with
  | mk G q=>
   obtain⟨a',d⟩:=q;rw[Z] at z;cases d with
   | false=>
    refine⟨z.1,?_⟩;have:=z.2;rw[u];show _+(240+qz s'.W G)<_;omega
   | true=>
    have M:JJ s'.W B none []:=λc h1 h2 F=>.inl ((z.1 c h1 h2 F).resolve_right λy=>by cases y.1);have hf:=EA J;have z2:=z.2;dsimp only;unfold vT;cases hl:mX w with
    | nil=>
     refine⟨λc h1 h2 F=>.inl ((M c h1 h2 F).resolve_right λy=>y),?_⟩;rw[u];show _+(5+(180+0))<_;omega
    | cons y l=>
     rw[hl,aH] at hf;refine⟨M,?_⟩;rw[u];show _+(190+l.length)<_;omega
 case qx l=>
  have u:AL s.W w a=190+l.length:=by unfold AL;rw[K]
  exact⟨O,aP _,JG (oE (LH R h x.1 E) j) (by omega)⟩
 case own hs=>
  obtain⟨T,U⟩:=x;obtain⟨B,X,z⟩:=U.alone H hN E j;have u:AL s.W w a=5+qz s.W hs:=by unfold AL;rw[K]
  refine⟨B,X,?_⟩;dsimp only;cases Z:kQ hs g with
  | mk G q=>
   obtain⟨a',d⟩:=q;rw[Z] at z;cases d with
   | false=>
    refine⟨z.1,?_⟩;have:=z.2;rw[u];show _+(5+qz s'.W G)<_;omega
   | true=>
    refine⟨λc h1 h2 F=>.inl ((z.1 c h1 h2 F).resolve_right λy=>by cases y.1),?_⟩;have:=z.2;rw[u];omega
 all_goals exact x.elim
def FA (j:JJ W' O none []) {l:List Ac} {ok:Bool} (h:l.length<AL W w a):V7 W W' O O w a (uO w2 ok l):=by
 cases l with
 | nil=>exact⟨j,by simp only[aJ] at h; omega⟩
 | cons y l=>
  refine⟨j,?_⟩;show _+(1+l.length)<_;rw[aH] at h;omega
def NL (h1:w.es=[e]) (h:56<=e.at'/\e.at'<62) (j:JJ s'.W O none []) (F:19<AL W w a):∃q,q.length<=O.length/\V7 W s'.W O q w a (yH w (s'.W e.at')):=by
 unfold yH;rw[CZ h1];split
 ·rename_i z;have hm:e.at'∈O:=(j _ h.1 h.2 (uu z.1)).resolve_right λy=>y;have G:=za hm;refine⟨O.erase e.at',by omega,⟨λc u B E=>?_,?_⟩⟩
  ·by_cases ce:c=e.at'
   ·right;left;refine .inl ⟨by rw[ce]; rfl,?_⟩;show some (sE w).at'=some c;rw[CZ h1,ce]
   ·exact .inl (Aa ((j c u B E).resolve_right λy=>y) ce)
  ·show _+(22+(180+0))<_;omega
 ·split
  ·refine⟨O,aP _,FA j ?_⟩;have:=wk w [e.at'];simp only[aE] at this;omega
  ·refine⟨O,aP _,j,?_⟩;show _+(if s'.W (sE w).at'=s'.W e.at' then 15 else 21)<_;rw[CZ h1,if_pos rfl];omega
def Bg.alone (H:SI D V N s) (hN:N+1<1000000) (x:Bg D V s t w a) (E:s5 t s s' a g) (j:LN s.W O w a):∃Z,Z.length<=O.length/\V7 s.W s'.W O Z w a (kP w g):=by
 obtain⟨e,h1,h2,h3,h4,x⟩:=x;have F:=CZ h1;unfold LN at j;unfold kP;cases T:w.ph <;> rw[T] at x j
 case rE=>
  obtain rfl:=x;obtain⟨q1,_,rfl⟩:=E.kD;dsimp only;rw[<-q1.1 e.at'];exact NL h1 h2 (oE (mY q1) j) (by unfold AL; rw[T]; exact aP _)
 case pK y hs=>
  obtain⟨x1,x2⟩:=x;obtain⟨Z,z1,z⟩:=x2.alone H hN E j;have M:AL s.W w a=22+qz s.W hs:=by unfold AL;rw[T]
  refine⟨Z,z1,?_⟩;obtain⟨V',S,G,ro⟩:=x2.step H hN E;dsimp only;cases hq:kQ hs g with
  | mk X q=>
   obtain⟨a',d⟩:=q;rw[hq] at z ro;cases d with
   | false=>
    refine⟨z.1,?_⟩;have:=z.2;rw[M];show _+(22+qz s'.W X)<_;omega
   | true=>
    dsimp only;by_cases v4:¬HM X=4
    ·rw[if_pos v4];refine⟨λc J K h=>.inl ((z.1 c J K h).resolve_right λy=>v4 y.2.2),?_⟩;have:=z.2;rw[M];show _+20<_;omega
    ·rw[if_neg v4];refine⟨λc J K h=>?_,?_⟩
     ·rcases z.1 c J K h with u | ⟨R,u2,_⟩
      ·exact .inl u
      ·right;injection R with R;refine⟨R.symm,?_⟩;show s'.W c=y;obtain⟨aS,e',b1,b2,b3,b4⟩:=x1;obtain⟨aT,e2,d1,d2,d3,d4⟩:=S.cell c J K h;rw[u2,b1] at d1;cases d1
       obtain⟨_,_,_,_,gd⟩:=H.rf b1;have:e2=e':=gd.inj d2 b2 (by rw[d3,b3,<-R,F]);subst this;unfold kS at d4;rw[d3,u2] at d4;rw[d4,b4]
     ·have:=z.2;rw[M];show _+21<_;omega
 case qv=>
  obtain⟨y,x1,rfl,x3⟩:=x;have M:AL s.W w ⟨6,e.at',y,⟨y.v,y.j8,0⟩⟩=21:=by unfold AL;rw[T]
  refine⟨O,aP _,λc J K h=>.inl ?_,by rw[M]; show _+20<_; omega⟩;rcases E.p7 with ⟨U,_,B,_⟩| ⟨U,_,B⟩
  ·by_cases ce:c=e.at'
   ·rw[ce,B.self] at h;exact absurd rfl h
   ·rw[B.ne ce] at h;rcases j c J K h with u | ⟨u,_⟩
    ·exact u
    ·rw[F] at u;exact absurd u ce
  ·rw[B.1] at h;rcases j c J K h with u | ⟨R,u2⟩
   ·exact u
   ·rw[F] at R;subst R;exact absurd u2 U
 case sv=>
  obtain rfl:=x;have M:AL s.W w ⟨6,e.at',e.old,⟨e.new,(e.old.j8+1) % 4294967296,0⟩⟩=if s.W e.at'=e.old then 15 else 21:=by unfold AL;rw[T,F]
  dsimp only;rcases E.p7 with ⟨U,rfl,B,_⟩| ⟨U,rfl,B⟩
  ·rw[if_pos rfl];refine⟨O,aP _,FA (λc J K h=>?_) ?_⟩
   ·by_cases ce:c=e.at'
    ·rw[ce,B.self] at h;exact absurd rfl h
    ·rw[B.ne ce] at h;exact j c J K h
   ·have:=wk w [(sE w).at'];simp only[aE] at this;rw[M,if_pos U];omega
  ·rw[if_neg (by simp)];dsimp only;rw[<-B.1 e.at'];exact NL h1 h2 (oE (mY B) j) (by rw[M,if_neg U]; omega)
 case send l ok=>
  have hq:s.quiet s':=by
   obtain⟨op,p,o,n⟩:=a;exact E.mF (x.1 _ aM)
  exact⟨O,aP _,FA (oE (mY hq) j) (by unfold AL; rw[T]; dsimp only; omega)⟩
 all_goals exact x.elim
end
def Qa (W:Int->W3) (p:Pk) (l:List W3):Prop:=∀(k:Nat) (w:W3) (c:Int),l[k]?=some w->p.at'[k]?=some c->W c=w
open Classical in
noncomputable def MP (W:Int->W3) (p:Pk):Nat:=if Qa W p p.now then(if 1<=p.rounds/\Qa W p p.pC then 0 else p.at'.length+1) else 2*(p.at'.length+1)
noncomputable def Hy (W:Int->W3) (p:Pk):Nat:=
 match p.ph with
 | .found=>10+(p.at'.length - p.i)+MP W p
 | .mQ hs=>32+qz W hs
 | .back=>31
 | .flush=>2+(7 - p.i)
 | .last=>1
 | .over=>0
def Zd (W:Int->W3) (O:List Int) (p:Pk) (a:Ac):Prop:=
 match p.ph with
 | .mQ hs=>JJ W O (some (vg p)) hs
 | .back=>∀c,56<=c->c<62->¬(W c).ref=0->c∈O\/(c=vg p/\W c=a.old)
 | _=>JJ W O none []
def ZP (W W':Int->W3) (O q:List Int) (p:Pk):PR->Prop
 | (u,B,false)=>Zd W' q u B/\240*q.length+Hy W' u<240*O.length+Hy W p
 | (_,_,true)=>JJ W' q none []/\240*q.length<240*O.length+Hy W p
section
variable {D:Dg} {V V':Vg} {N:Int} {s s':Sh} {t:Nat} {a:Ac} {g:lA} {W W':Int->W3} {c:Int} {O:List Int} {hs:List Hs} {p p2:Pk}
def Iq (h:p.at'.length<=6):MP W p<=14:=by
 unfold MP;split
 ·split <;> omega
 ·omega
def FB (j:JJ W' O none []) (hk:10+(p2.at'.length - p2.i)+MP W' p2<Hy W p):ZP W W' O O p (uF p2):=by
 refine⟨j,?_⟩;show _+(10+(p2.at'.length - p2.i)+MP W' p2)<_;omega
def Hq (j:JJ W' O none []) (hl:p2.at'.length<=6) (hk:2+(7 - p2.i)<=Hy W p):ZP W W' O O p (oQ p2):=by
 unfold oQ;split
 ·refine⟨j,?_⟩;show _+(2+(7 - (p2.i+1)))<_;omega
 ·refine⟨j,?_⟩;show _+1<_;omega
def QL {at':List Int} (h1:∀(k:Nat) (w:W3) (c:Int),p.pC[k]?=some w->p.at'[k]?=some c->W c=w) (h2:∀(k:Nat) (w:W3) (c:Int),p.now[k]?=some w->p.at'[k]?=some c->W c=w) (hl:p.now.length<=p.at'.length):oP p.pC p.now=true:=by
 unfold oP;rw[cG];intro x B;obtain⟨k,hk⟩:=List.mem_iff_getElem?.1 B;obtain⟨E,q⟩:=eU.1 hk;have F:=(aC.1 q).1;have u:=aB (l:=p.at') (i:=k) (by omega);have e1:=h1 k _ _ E u;have G:=h2 k _ _ q u;exact decide_eq_true (e1.symm.trans G)
open Classical in
theorem OI (j:JJ W' O none []) (hl:1<=p2.at'.length/\p2.at'.length<=6) (hn:p2.now.length=p2.at'.length) (hk:11+MP W' p2<=Hy W p):ZP W W' O O p (qR p2):=by
 unfold qR;dsimp only;split
 ·rename_i z;refine FB (p2:={p2 with rounds:=p2.rounds+1,pC:=p2.now,now:=[],i:=0}) j ?_;have m0:Qa W' {p2 with rounds:=p2.rounds+1,pC:=p2.now,now:=[],i:=0} []:=λk w c h=>by cases h
  have e1:MP W' {p2 with rounds:=p2.rounds+1,pC:=p2.now,now:=[],i:=0}=if 1<=p2.rounds+1/\Qa W' p2 p2.now then 0 else p2.at'.length+1:=by
   unfold MP;rw[if_pos m0];rfl
  rw[e1];show 10+(p2.at'.length - 0)+_<_;unfold MP at hk;by_cases m1:Qa W' p2 p2.now
  ·rw[if_pos ⟨by omega,m1⟩];rw[if_pos m1] at hk;by_cases m2:1<=p2.rounds/\Qa W' p2 p2.pC
   ·exfalso;rcases z with z | z
    ·omega
    ·rw[QL (at':=p2.at') m2.2 m1 (by omega)] at z;cases z
   ·rw[if_neg m2] at hk;omega
  ·rw[if_neg (λy=>m1 y.2)];rw[if_neg m1] at hk;omega
 ·split
  ·exact Hq (p2:={p2 with rounds:=p2.rounds+1,i:=0}) j hl.2 (by dsimp only; omega)
  ·exact⟨j,by omega⟩
def I7.alone (H:SI D V N s) (hN:N+1<1000000) (x:I7 D V s t p a) (E:s5 t s s' a g) (j:Zd s.W O p a):∃Z,Z.length<=O.length/\ZP s.W s'.W O Z p (nO p g):=by
 obtain⟨h1,x⟩:=x;unfold Zd at j;unfold nO;cases M:p.ph <;> rw[M] at x j
 case found=>
  obtain⟨⟨hi,aS⟩,rfl⟩:=x;obtain⟨q1,_,rfl⟩:=E.kD;have hc:=y9 h1.1 hi;have j':JJ s'.W O none []:=oE (mY q1) j;have K:Hy s.W p=10+(p.at'.length - p.i)+MP s.W p:=by unfold Hy;rw[M]
  have hW:=nk q1;have aT:p.at'[p.i]?=some (vg p):=by
   unfold vg;rw[aI,aB hi];rfl
  dsimp only;unfold uq;split
  ·rename_i z;have hm:vg p∈O:=(j _ hc.1 hc.2 (uu (by omega))).resolve_right λy=>y;have hl:=za hm;refine⟨O.erase (vg p),by omega,⟨λc F J B=>?_,?_⟩⟩
   ·by_cases ce:c=vg p
    ·right;left;refine .inl ⟨by rw[ce,q1.1]; rfl,?_⟩;show some (vg p)=some c;rw[ce]
    ·exact .inl (Aa ((j' c F J B).resolve_right λy=>y) ce)
   ·rw[K];show _+(32+(180+0))<_;omega
  ·
   have hf:MP s'.W {p with now:=p.now++[s.W (vg p)],i:=p.i+1}<=MP s.W p:=by
    have mt:Qa s.W p p.now->Qa s'.W {p with now:=p.now++[s.W (vg p)],i:=p.i+1} (p.now++[s.W (vg p)]):=λm k w c R k2=>by
     rw[hW];by_cases hk:k<p.now.length
     ·rw[aY hk] at R;exact m k w c R k2
     ·have e:k=p.i:=by
       have:=(aC.1 R).1;rw[aF,aE] at this;omega
      subst e;rw[bD (by omega),aS,fA] at R;simp only[aX,aD] at R;have k2:p.at'[p.i]?=some c:=k2;rw[aT] at k2;simp only[aD] at k2;rw[<-k2];exact R
    have mw:Qa s'.W {p with now:=p.now++[s.W (vg p)],i:=p.i+1} p.pC↔Qa s.W p p.pC:=by rw[hW];exact fC
    unfold MP;by_cases m:Qa s.W p p.now
    ·rw[if_pos m,if_pos (mt m)];by_cases m2:1<=p.rounds/\Qa s.W p p.pC
     ·rw[if_pos m2,if_pos (show 1<=p.rounds/\_ from⟨m2.1,mw.2 m2.2⟩)];exact aP _
     ·rw[if_neg m2];split
      ·exact aO _
      ·exact aP _
    ·rw[if_neg m];split
     ·split
      ·exact aO _
      ·show p.at'.length+1<=_;omega
     ·exact aP _
   dsimp only;split
   ·rename_i z;refine⟨O,aP _,FB (p2:={p with now:=p.now++[s.W (vg p)],i:=p.i+1}) j' ?_⟩;dsimp only at z⊢;omega
   ·rename_i z;refine⟨O,aP _,OI (p2:={p with now:=p.now++[s.W (vg p)],i:=p.i+1}) j' ⟨by dsimp only; omega,h1.2⟩ (by dsimp only at z⊢; rw[aF,aE]; omega) ?_⟩;omega
 case mQ hs=>
  obtain⟨hi,x1,x2⟩:=x;obtain⟨Z,z1,z⟩:=x2.alone H hN E j;have K:Hy s.W p=32+qz s.W hs:=by unfold Hy;rw[M]
  refine⟨Z,z1,?_⟩;obtain⟨V',S,G,ro⟩:=x2.step H hN E;dsimp only;cases U:kQ hs g with
  | mk X q=>
   obtain⟨a',d⟩:=q;rw[U] at z ro;cases d with
   | false=>
    refine⟨z.1,?_⟩;have:=z.2;rw[K];show _+(32+qz s'.W X)<_;omega
   | true=>
    have z2:=z.2;have bY:=Iq (W:=s'.W) h1.2;dsimp only;by_cases v4:¬HM X=4
    ·rw[if_pos v4];refine⟨λc F J B=>.inl ((z.1 c F J B).resolve_right λy=>v4 y.2.2),?_⟩;rw[K];show _+(10+(p.at'.length - p.i)+MP s'.W p)<_;omega
    ·rw[if_neg v4];refine⟨λc F J B=>?_,?_⟩
     ·rcases z.1 c F J B with u | ⟨T,u2,_⟩
      ·exact .inl u
      ·right;injection T with T;refine⟨T.symm,?_⟩;show s'.W c=p.held;obtain⟨dO,e',b1,b2,b3,b4⟩:=x1;obtain⟨eQ,e2,d1,d2,d3,d4⟩:=S.cell c F J B;rw[u2,b1] at d1;cases d1
       obtain⟨_,_,_,_,gd⟩:=H.rf b1;have:e2=e':=gd.inj d2 b2 (by rw[d3,b3,<-T]);subst this;unfold kS at d4;rw[d3,u2] at d4;rw[d4,b4]
     ·rw[K];show _+31<_;omega
 case back=>
  obtain⟨hi,x1,rfl,x3⟩:=x;have K:Hy s.W p=31:=by unfold Hy;rw[M]
  have bY:=Iq (W:=s'.W) h1.2;refine⟨O,aP _,FB (λc F J B=>.inl ?_) ?_⟩
  ·rcases E.p7 with ⟨y1,_,y2,_⟩| ⟨y1,_,y2⟩
   ·by_cases ce:c=vg p
    ·rw[ce,y2.self] at B;exact absurd rfl B
    ·rw[y2.ne ce] at B;rcases j c F J B with u | ⟨u,_⟩
     ·exact u
     ·exact absurd u ce
   ·rw[y2.1] at B;rcases j c F J B with u | ⟨T,u2⟩
    ·exact u
    ·subst T;exact absurd u2 y1
  ·rw[K];omega
 case flush=>
  have U:s.quiet s':=by
   obtain⟨op,q,o,n⟩:=a;exact E.mF (.inl x)
  exact⟨O,aP _,Hq (oE (mY U) j) h1.2 (by unfold Hy; rw[M]; exact aP _)⟩
 case last=>
  have U:s.quiet s':=by
   obtain⟨op,q,o,n⟩:=a;exact E.mF (.inr x)
  exact⟨O,aP _,oE (mY U) j,by unfold Hy; rw[M]; dsimp only; omega⟩
 case over=>exact x.elim
end
noncomputable def Z5 (W:Int->W3) (d:Cd) (a:Ac):Nat:=
 match d with
 | .sw w=>AL W w a
 | .bl b=>OK W b
 | .pk p=>Hy W p
def cvD (W:Int->W3) (O:List Int) (d:Cd) (a:Ac):Prop:=
 match d with
 | .sw w=>LN W O w a
 | .bl b=>JJ W O none (SJ b)
 | .pk p=>Zd W O p a
noncomputable def Nc (W:Int->W3) (c:Cn) (a:Ac):Nat:=
 match c.now with
 | none=>600*(c.ops.length - 1)+(500+(8 - c.seen.length))
 | some d=>600*(c.ops.length - 1)+Z5 W d a
def JC (W:Int->W3) (O:List Int) (c:Cn) (a:Ac):Prop:=
 match c.now with
 | none=>JJ W O none []
 | some d=>cvD W O d a
section
variable {D:Dg} {V:Vg} {Q:wB} {N:Int} {s s':Sh} {t:Nat} {a:Ac} {g:lA} {W:Int->W3} {O:List Int} {c c':Cn} {a':Ac}
def L9 {o:ng} {r:List ng} {a:Ac} (u:nM c.ops=o::r) (B:c.broken=false) (E:¬o.d % 4=3) (h:¬(kg c g).length<(jZ o).length) (q:pB {c with ops:=o::r} o (jZ o) (kg c g)=(none,a)):lX c g=({c with ops:=o::r,broken:=true},o8,true):=by
 unfold lX;rw[u];dsimp only;rw[if_neg (by rw[B]; decide),if_neg E];refine(if_neg (show ¬(kg c g).length<_ from h)).trans ?_;unfold kg at q;rw[q]
def G2 (K:c.now=none) (j:JJ W O none []) (h:lX c g=(c',a',false)):JC W O c' a'/\Nc W c' a'<=600*(c.ops.length - 1)+(500+(7 - (kg c g).length)):=by
 cases F:nM c.ops with
 | nil=>
  rw[Cu F] at h;simp at h
 | cons o r=>
  have hlen:=wx F;have H:=rO (tZ F);rw[aH] at hlen;by_cases E:c.broken=true
  ·unfold lX at h;rw[F] at h;dsimp only at h;rw[if_pos E] at h;simp at h
  have E:c.broken=false:=by simpa using E
  by_cases G:o.d % 4=3
  ·unfold lX at h;rw[F] at h;dsimp only at h;rw[if_neg (by rw[E]; decide),if_pos G] at h;injection h with u B;injection B with B _;subst u B;refine⟨j,?_⟩;have M:=Iq (W:=W) (p:=Gd c.kY ((jZ o).map kM)) (by show((jZ o).map kM).length<=6; rw[bE]; exact H.2);show 600*(r.length+1 - 1)+(10+(((jZ o).map kM).length - 0)+MP W (Gd c.kY ((jZ o).map kM)))<=_;rw[bE];omega
  ·by_cases J:(kg c g).length<(jZ o).length
   ·rw[z7 F E G J] at h;injection h with u B;injection B with B _;subst u B;unfold JC Nc;dsimp only;rw[K];refine⟨j,?_⟩;show 600*(r.length+1 - 1)+(500+(8 - (kg c g++[W0]).length))<=_;rw[aF,aE];omega
   ·cases q:pB {c with ops:=o::r} o (jZ o) (kg c g) with
    | mk oc R=>
     cases oc with
     | none=>
      rw[L9 F E G J q] at h;simp at h
     | some c2=>
      rw[sD F E G J q] at h;injection h with u B;injection B with B _;subst u B;unfold pB at q;dsimp only at q;split at q
      ·split at q
       ·injection q with u B;injection u with u;subst u B;refine⟨j,?_⟩;show 600*(r.length+1 - 1)+480<=_;omega
       ·simp at q
      ·split at q
       ·split at q
        ·injection q with u B;injection u with u;subst u B;refine⟨j,?_⟩;show 600*(r.length+1 - 1)+20<=_;omega
        ·simp at q
       ·split at q
        ·injection q with u B;injection u with u;subst u B;refine⟨j,?_⟩;show 600*(r.length+1 - 1)+430<=_;omega
        ·simp at q
def tN.alone (H:SI D V N s) (R:N+1<1000000) (B:BI D V Q s) (ht:1<=t/\t<=3) (x:tN D V Q s t c a) (E:s5 t s s' a g) (j:JC s.W O c a) (h:ll c g=(c',a',false)) :
  ∃u,u.length<=O.length/\JC s'.W u c' a'/\240*u.length+Nc s'.W c' a'<240*O.length+Nc s.W c a:=by
 unfold tN at x;unfold ll at h;unfold JC at j;cases G:c.now with
 | none=>
  rw[G] at x h j;obtain⟨hb,hS,hO,o,r,k,e1,e2,e3,U,e5,rfl,hw⟩:=x;obtain⟨q1,_,rfl⟩:=E.kD;obtain⟨h1,h2⟩:=G2 G (oE (mY q1) j) h;refine⟨O,aP _,h1,?_⟩;have T:Nc s.W c (Gq (((jZ o).map kM).getD k 0))=600*(c.ops.length - 1)+(500+(8 - c.seen.length)):=by unfold Nc;rw[G]
  have J:(kg c ⟨s.W (((jZ o).map kM).getD k 0),true⟩).length=k+1:=by
   unfold kg;have:¬c.seen=[]:=λe=>by rw[e] at U;cases U
   rw[if_neg this,aF,bT,aE,U];rfl
  have aS:=rO e2;rw[J] at h2;omega
 | some d=>
  rw[G] at x h j;obtain⟨hb,J,aT,x⟩:=x;have T:Nc s.W c a=600*(c.ops.length - 1)+Z5 s.W d a:=by unfold Nc;rw[G]
  have fin:∀{u:List Int} (X:Cd),u.length<=O.length->JJ s'.W u none []->240*u.length<240*O.length+Z5 s.W d a->lX {c with done:=c.done++[wK X],pQ:=c.pQ++A7 X,ops:=c.ops.tail,now:=none} qa=(c',a',false)->∃u,u.length<=O.length/\JC s'.W u c' a'/\240*u.length+Nc s'.W c' a'<240*O.length+Nc s.W c a:=λ{u} X F z2 z3 K=>by
   obtain⟨h1,h2⟩:=G2 rfl z2 K;refine⟨u,F,h1,?_⟩;have bY:2<=c.ops.length:=by
    cases hd:nM c.ops.tail with
    | nil=>
     exfalso;unfold lX at K;dsimp only at K;rw[hd] at K;simp at K
    | cons o r=>
     have:=wx hd;rw[aH,List.length_tail] at this;omega
   dsimp only at h2;rw[List.length_tail] at h2;omega
  dsimp only at h;unfold yG lD at h;cases d with
  | sw w=>
   dsimp only at h;obtain⟨hO,x⟩:=x;have key:∃u,u.length<=O.length/\V7 s.W s'.W O u w a (kP w g):=by
    rcases x with ⟨x,_⟩| ⟨x,_,_⟩
    ·exact x.alone H R ht E j
    ·exact x.alone H R E j
   obtain⟨u,F,z⟩:=key;cases M:kP w g with
   | mk w' q=>
    obtain⟨Z,dd⟩:=q;rw[M] at z h;cases dd with
    | false=>
     simp only[bV,and_true] at h;obtain⟨rfl,rfl⟩:=h;refine⟨u,F,z.1,?_⟩;have:=z.2;rw[T];show _+(600*(c.ops.length - 1)+AL s'.W w' Z)<_+(600*(c.ops.length - 1)+AL s.W w a);omega
    | true=>exact fin (.sw w') F z.1 z.2 h
  | bl b=>
   dsimp only at h;obtain⟨x,_,_⟩:=x;obtain⟨u,F,z⟩:=x.alone H R B ht E j;cases M:kr b g with
   | mk w' q=>
    obtain⟨Z,dd⟩:=q;rw[M] at z h;cases dd with
    | false=>
     simp only[bV,and_true] at h;obtain⟨rfl,rfl⟩:=h;refine⟨u,F,z.1,?_⟩;have:=z.2;rw[T];show _+(600*(c.ops.length - 1)+OK s'.W w')<_+(600*(c.ops.length - 1)+OK s.W b);omega
    | true=>exact fin (.bl w') F z.1 z.2 h
  | pk p=>
   dsimp only at h;obtain⟨x,_,_,_⟩:=x;obtain⟨u,F,z⟩:=x.alone H R E j;cases M:nO p g with
   | mk w' q=>
    obtain⟨Z,dd⟩:=q;rw[M] at z h;cases dd with
    | false=>
     simp only[bV,and_true] at h;obtain⟨rfl,rfl⟩:=h;refine⟨u,F,z.1,?_⟩;have:=z.2;rw[T];show _+(600*(c.ops.length - 1)+Hy s'.W w')<_+(600*(c.ops.length - 1)+Hy s.W p);omega
    | true=>exact fin (.pk w') F z.1 z.2 h
def Xl (H:SI D V N s) (q:(∃w,c.now=some (.sw w)/\(I8 D V s t w a\/Bg D V s t w a))\/(∃b,c.now=some (.bl b)/\Eu D V Q s t b a)\/(∃p,c.now=some (.pk p)/\I7 D V s t p a)\/c.now=none):Nc W c a<=600*(c.ops.length - 1)+2300:=by
 have rr:∀{r hs},tD D V s t r hs a->qz W hs<=1960:=λx=>Vc H x.2;unfold Nc;rcases q with ⟨w,e,x⟩| ⟨b,e,x⟩| ⟨p,e,x⟩| e
 ·rw[e];dsimp only;have:AL W w a<=2300:=by
   unfold AL;rcases x with x | x
   ·obtain⟨_,x⟩:=x;cases h:w.ph <;> rw[h] at x <;> dsimp only
    case pO=>omega
    case last hs=>obtain⟨_,r,x⟩:=x;have:=rr x;omega
    case qx l=>have:=x.2;omega
    case own hs=>have:=rr x.2;omega
    all_goals exact x.elim
   ·obtain⟨e,_,_,_,_,x⟩:=x;cases h:w.ph <;> rw[h] at x <;> dsimp only
    case rE=>omega
    case pK y hs=>have:=rr x.2;omega
    case qv=>omega
    case sv=>split <;> omega
    case send l ok=>have:=x.2;omega
    all_goals exact x.elim
  show _+AL W w a<=_;omega
 ·rw[e];dsimp only;have:OK W b<=2300:=by
   unfold OK;obtain⟨du,es,kZ,seq,i,dn,bad,ph⟩:=b;cases ph with
   | take k=>cases k <;> dsimp only <;> first | omega | (split <;> omega)
   | looked=>dsimp only;omega
   | rel op=>cases op <;> dsimp only <;> omega
   | zw op=>cases op <;> dsimp only <;> omega
   | sS op=>cases op <;> dsimp only <;> omega
   | fill=>dsimp only;omega
   | lQ=>dsimp only;omega
   | zq=>dsimp only;omega
   | mQ hs=>have:=rr x.2.2;dsimp only;omega
   | pR u k=>cases k <;> dsimp only <;> first | omega | (split <;> omega)
   | over=>dsimp only;omega
  show _+OK W b<=_;omega
 ·rw[e];dsimp only;have:Hy W p<=2300:=by
   unfold Hy;obtain⟨h1,x⟩:=x;have B:=Iq (W:=W) h1.2;cases h:p.ph <;> rw[h] at x <;> dsimp only
   case found=>omega
   case mQ hs=>have:=rr x.2.2;omega
   all_goals omega
  show _+Hy W p<=_;omega
 ·rw[e];dsimp only;omega
def tN.aaQ (H:SI D V N s) (x:tN D V Q s t c a) (h8:c.ops.length<=8):Nc W c a<=6500:=by
 have:=Xl (W:=W) (c:=c) (t:=t) (a:=a) (Q:=Q) H (by
  unfold tN at x;cases h:c.now with
  | none=>exact .inr (.inr (.inr rfl))
  | some d=>
   rw[h] at x;obtain⟨_,_,_,x⟩:=x;cases d with
   | sw w=>exact .inl ⟨w,rfl,x.2.imp (λy=>y.1) λy=>y.1⟩
   | bl b=>exact .inr (.inl ⟨b,rfl,x.1⟩)
   | pk p=>exact .inr (.inr (.inl ⟨p,rfl,x.1⟩)))
 omega
def Wt (x:tN D V Q s t c a):JC W [56,57,58,59,60,61] c a:=by
 have m:∀c:Int,56<=c->c<62->c∈[56,57,58,59,60,(61:Int)]:=λc h1 h2=>by
  simp only[aU,bF,or_false];omega
 unfold JC;split
 ·exact λc h1 h2 _=>.inl (m c h1 h2)
 ·rename_i d _;unfold cvD;split
  ·unfold LN;split
   ·exact λc h1 h2 _=>.inl (m c h1 h2)
   ·exact λc h1 h2 _=>.inl (m c h1 h2)
   ·exact λc h1 h2 _=>.inl (m c h1 h2)
   ·exact λc h1 h2 _=>.inl (m c h1 h2)
   ·exact λc h1 h2 _=>.inl (m c h1 h2)
  ·exact λc h1 h2 _=>.inl (m c h1 h2)
  ·unfold Zd;split
   ·exact λc h1 h2 _=>.inl (m c h1 h2)
   ·exact λc h1 h2 _=>.inl (m c h1 h2)
   ·exact λc h1 h2 _=>.inl (m c h1 h2)
end
def AW (m:Me) (c:Cn) (a:Ac) (k:Nat):Prop:=∃O,JC (sh m).W O c a/\240*O.length+Nc (sh m).W c a<=k
section
variable {N:Int} {t:Nat} {m m':Mj} {ts:List CR} {c c':Cn} {a a':Ac} {g:lA} {k:Nat}
def WI.tc (I:WI m.me ts N) (u:1<=t) (h:ts[t - 1]?=some (c,a,false)):∃D V O,SI D V N (sh m.me)/\BI D V O (sh m.me)/\tN D V O (sh m.me) t c a/\t<=3:=by
 obtain⟨D,V,O,H,B,T⟩:=I.ex;have q:=(aC.1 h).1;have E:=I.len;have y:=T _ _ h;rw[show t - 1+1=t by omega] at y;exact⟨D,V,O,H,B,y,by omega⟩
def tN.b8 {D:Dg} {V:Vg} {O:wB} {s:Sh} (x:tN D V O s t c a):c.ops.length<=8/\c.broken=false:=by
 unfold tN at x;cases h:c.now with
 | none=>rw[h] at x;exact⟨x.1.h8,x.1.br⟩
 | some d=>rw[h] at x;exact⟨x.1.h8,x.1.br⟩
def WI.aw (I:WI m.me ts N) (h:1<=t) (q:ts[t - 1]?=some (c,a,false)):AW m.me c a 8000:=by
 obtain⟨D,V,O,H,B,x,_⟩:=I.tc h q;have:=x.aaQ (W:=(sh m.me).W) H x.b8.1;exact⟨_,Wt x,by show 240*6+_<=_; omega⟩
def WI.TM (I:WI m.me ts N) (E:N+1<1000000) (q:1<=t) (F:ts[t - 1]?=some (c,a,false)) (hs:Bw m t a m' g) (G:ll c g=(c',a',false)) (h:AW m.me c a k):∃k',k'<k/\AW m'.me c' a' k':=by
 obtain⟨D,V,Q,H,B,x,u⟩:=I.tc q F;obtain⟨O,j,R⟩:=h;obtain⟨J,_,K,M⟩:=x.alone H E B ⟨q,u⟩ (hs.ZQ I.mw ⟨q,u⟩) j G;exact⟨_,by omega,J,K,aP _⟩
def WI.ok (I:WI m.me ts N) {i:Nat} {x:CR} (h:ts[i]?=some x):x.1.broken=false:=by
 obtain⟨D,V,O,H,B,T⟩:=I.ex;have y:=T _ _ h;obtain⟨c,a,d⟩:=x;cases d with
 | false=>exact(tN.b8 (show tN D V O _ _ c a from y)).2
 | true=>exact(show Yj D V O _ _ c from y).b.br
end
def YH {p:Int} (h:0<=p/\p<512):∃n:Nat,p=n/\n<512:=⟨p.toNat,by omega,by omega⟩
def JW {p:Int} (h:0<=p/\p<512):oY (Gq p):=by obtain⟨n,rfl,h2⟩:=YH h; exact RE h2
def Zj {p:Int} (h:0<=p/\p<512):oY ⟨1,p,W0,W0⟩:=by obtain⟨n,rfl,h2⟩:=YH h; exact RF h2
def IT {p:Int} {o n:W3} (h:0<=p/\p<512) (q:Ww n):oY ⟨6,p,o,n⟩:=by obtain⟨p,rfl,h2⟩:=YH h; exact Rp h2 q
def Wp {op p:Int} {n:W3} (ho:op=3\/op=4) (h:0<=p/\p<512) (q:Ww n):oY ⟨op,p,W0,n⟩:=by obtain⟨p,rfl,h2⟩:=YH h; exact DU ho h2 q
def Pp {p:Int} (h:0<=p/\p<512):oY (Az p):=by obtain⟨n,rfl,h2⟩:=YH h; exact N2 h2
def RG {v q:Int} (hv:0<=v/\v<=3) (u:0<=q/\q<1000000):Ww ⟨v,q,0⟩:=⟨⟨by dsimp only; omega,by dsimp only; omega⟩,⟨by dsimp only; omega,by dsimp only; omega⟩,⟨bA 0,(by decide:(0:Int)<4294967296)⟩⟩
def Xy:Ww W0:=⟨⟨by decide,by decide⟩,⟨by decide,by decide⟩,⟨by decide,by decide⟩⟩
structure vm (h:Hs):Prop where
 ws:∀x∈h.ws,Ww x
 met:Ww h.met
 es:h.nx=.first\/h.nx=.lJ\/h.nx=.mP\/h.nx=.checked->h.es=[]
 many:h.nx=.mP->(h.many:Int)<=lu (kj h.ref)
structure sP (h:Hs):Prop where
 ws:∀x∈h.ws,Ww x
 met:Ww h.met
def sP.late {h:Hs} (X:sP h) {k:HK} (q:¬(k=.first\/k=.lJ\/k=.mP\/k=.checked)) (a:Ac):vm (l6 h a k).1:=
 ⟨X.ws,X.met,λx=>absurd x q,λx=>absurd (.inr (.inr (.inl x))) q⟩
def sP.lG {h:Hs} (X:sP h) (q:h.bh=some .settle\/h.bh=some .through):vm (kB h).1:=by
 unfold kB;split
 ·rcases q with e | e <;> rw[e] <;> exact X.late (by decide) _
 ·exact sP.late (h:={h with i:=h.i+1}) ⟨X.ws,X.met⟩ (by decide) _
def sP.decide {h:Hs} (X:sP h) (z:Int):vm (lh h z).1:=by
 unfold lh;split
 ·exact sP.lG (h:={h with j8:=z,i:=0,bh:=some .settle}) ⟨X.ws,X.met⟩ (.inl rfl)
 ·exact sP.late (h:={h with j8:=z}) ⟨X.ws,X.met⟩ (by decide) _
def sP.zh {h:Hs} (X:sP h):vm (ki h).1:=by
 unfold ki;split
 ·exact X.decide 1
 ·exact X.late (by decide) _
def sP.release {h:Hs} (X:sP h):vm (ku h).1:=by
 unfold ku;split <;> exact X.late (by decide) _
def sP.free {h:Hs} (X:sP h) (q:h.nx=.known\/h.nx=.found\/h.nx=.pn):vm (oS h).1:=by
 unfold oS;split
 ·exact X.late (by decide) _
 ·split
  ·exact sP.lG (h:={h with i:=0,bh:=some .through}) ⟨X.ws,X.met⟩ (.inr rfl)
  ·refine⟨X.ws,X.met,λx=>?_,λx=>?_⟩
   ·have x:h.nx=.first\/h.nx=.lJ\/h.nx=.mP\/h.nx=.checked:=x;rcases q with e | e | e <;> (rw[e] at x; exact absurd x (by decide))
   ·have x:h.nx=.mP:=x;rcases q with e | e | e <;> (rw[e] at x; cases x)
def vm.Qs {h:Hs} (X:vm h) (z:Int):vm (ur h z).1:=⟨X.ws,X.met,X.es,X.many⟩
section
variable {D:Dg} {V:Vg} {N:Int} {s:Sh} {t:Nat} {r:Int} {es:List Et} {e:Et} {h:Hs} {a:Ac} {g:lA} {hs:List Hs}
def vm.ss (X:vm h):sP h:=⟨X.ws,X.met⟩
def vm.load (X:sP h) (he:h.es=[]) (hm:(h.many:Int)<=lu (kj h.ref)):vm (nc h).1:=by
 unfold nc;split
 ·exact⟨X.ws,X.met,λ_=>he,λx=>by cases x⟩
 ·exact⟨X.ws,X.met,λ_=>he,λ_=>hm⟩
def vm.one (x:YX D V s t h es a h.nx) (X:vm h) (u:Ww g.w):vm (lS h g).1:=by
 unfold lS;cases q:h.nx <;> rw[q] at x
 case begin=>exact x.elim
 case first=>
  dsimp only;split
  ·exact X.Qs 4
  ·exact⟨X.ws,X.met,λ_=>X.es (.inl q),λx=>by cases x⟩
 case lJ=>
  dsimp only;unfold pz;split
  ·exact X.Qs 4
  ·rename_i c;refine vm.load (h:={h with many:=g.w.v.toNat}) ⟨X.ws,X.met⟩ (X.es (.inr (.inl q))) ?_;have c2:¬h.sC<g.w.v:=λy=>c (.inr (.inl y));have E:¬g.w.v<1:=λy=>c (.inl y);show((g.w.v.toNat:Nat):Int)<=h.sC;omega
 case mP=>
  dsimp only;refine vm.load (h:={h with ws:=h.ws++[g.w]}) ⟨λy B=>?_,X.met⟩ (X.es (.inr (.inr (.inl q)))) (X.many q);rcases bB.1 B with z | z
  ·exact X.ws y z
  ·rw[aN.1 z];exact u
 case checked=>
  dsimp only;unfold nB;split
  ·exact X.Qs 4
  ·split
   ·exact X.Qs 4
   ·split
    ·exact sP.release ⟨X.ws,X.met⟩
    ·exact sP.zh ⟨X.ws,X.met⟩
 case lB=>
  dsimp only;unfold mZ;split
  ·exact sP.zh ⟨X.ws,X.met⟩
  ·split
   ·exact sP.late (h:={h with met:=g.w}) ⟨X.ws,u⟩ (by decide) _
   ·exact X.ss.decide 2
 case again=>exact X.ss.release
 case kN=>exact x.elim
 case lP=>exact X.ss.zh
 case lG=>exact X.ss.lG (x.2.2.imp (λy=>y.1) λy=>y.1)
 case settle=>exact X.ss.late (by decide) _
 case mS=>exact X.ss.release
 case kH=>exact X.ss.late (by decide) _
 case kT=>exact X.ss.late (by decide) _
 case known=>exact sP.free ⟨X.ws,X.met⟩ (.inl q)
 case found=>
  dsimp only;unfold tQ;split
  ·exact X.ss.late (by decide) _
  ·exact sP.free ⟨X.ws,X.met⟩ (.inr (.inl q))
 case through=>exact X.Qs _
 case pn=>exact sP.free ⟨X.ws,X.met⟩ (.inr (.inr q))
def sk (hs:List Hs):Prop:=∀h∈hs,vm h
def sk.new (r:Int) (d:Bool):sk [{Hs.new r d with nx:=.first}]:=λh q=>by
 rw[aN.1 q];exact⟨(λx u=>by cases u),Xy,λ_=>rfl,λx=>by cases x⟩
def sk.of (X:vm h):sk [h]:=λx q=>by rw[aN.1 q]; exact X
def sk.next (G:Ww g.w):∀(hs:List Hs),nY D V s t hs a->sk hs->sk (kQ hs g).1
 | [],_,X=>X
 | [h],x,X=>by
  obtain⟨B,es,hD,x⟩:=(show HL D V s t h a from x);have X:=X h aM;by_cases h1:h.nx=.again
  ·rw[nE B h1];split
   ·exact .of X.ss.release
   ·intro y F;rcases aU.1 F with rfl | F
    ·exact⟨X.ws,X.met,λx=>absurd x (by decide:¬(HK.kN=.first\/HK.kN=.lJ\/HK.kN=.mP\/HK.kN=.checked)),λx=>by cases x⟩
    ·exact sk.new _ _ y F
  ·rw[qw B h1 [] (.inl rfl)];exact .of (X.one x G)
 | h::k::l,x,X=>by
  obtain⟨⟨⟨B,h1,_⟩,_⟩,y⟩:=x;have E:=X h aM;have Y:=sk.next G (k::l) y λz u=>X z (aL _ u);rw[ot B h1];cases H:kQ (k::l) g with
  | mk J q=>
   obtain⟨K,d⟩:=q;rw[H] at Y;cases d with
   | false=>
    intro z u;rcases aU.1 u with rfl | u
    ·exact⟨E.ws,E.met,λx=>absurd x (by decide:¬(HK.kN=.first\/HK.kN=.lJ\/HK.kN=.mP\/HK.kN=.checked)),λx=>by cases x⟩
    ·exact Y z u
   | true=>
    cases J with
    | nil=>exact λz u=>by cases u
    | cons M Q=>
     dsimp only;split
     ·exact .of E.ss.zh
     ·exact .of (E.ss.late (k:=.lP) (by decide) o8)
def SI.rr (H:SI D V N s) (hD:D r=some es):0<=r/\r<4294967296:=by
 obtain⟨who,q,f,_,_⟩:=H.rf hD;have h1:=f.wh;have h2:=f.qr;rw[f.eq];unfold kJ ke at *;omega
def Good.wO (g:Good es) (he:e∈es) (q:0<=r/\r<4294967296):Ww ⟨e.old.v,e.old.j8,r⟩:=by
 have:=g.j8 e he;exact⟨(g.val e he).1,⟨this.1,by dsimp only; omega⟩,q⟩
def Good.wN (g:Good es) (he:e∈es):Ww ⟨e.new,e.old.j8+1,0⟩:=by
 have:=g.j8 e he;exact⟨(g.val e he).2,⟨by dsimp only; omega,by dsimp only; omega⟩,⟨bA 0,(by decide:(0:Int)<4294967296)⟩⟩
def Mi {who:Int} (hw:ke who):64<=jP who/\jP who+32<=512/\(lu who=10\/lu who=32/\jP who<=272):=by
 have:=kR hw;have:=Np hw;have:lu who=32->jP who<=272:=λe=>by
  unfold lu at e;split at e
  ·omega
  ·split at e <;> omega
 omega
structure HlG (h:Hs) (a:Ac):Prop where
 ok:WA h
 ag:h.nx=.again->h.i<h.es.length
 act:oY a
def Md {i:Nat} (g:Good es) (h:es[i]?=some e):i<6/\i<es.length/\e∈es/\(0<=e.at'/\e.at'<512):=by
 have h1:=(aC.1 h).1;have h2:=aG h;have q:=g.pl e h2;have u:=g.len;exact⟨by omega,h1,h2,by omega,by omega⟩
def HL.gg (H:SI D V N s) (x:HL D V s t h a) (X:vm h):HlG h a:=by
 obtain⟨u,es,hD,x⟩:=x;obtain⟨who,q,f,_,g⟩:=H.rf hD;have Q:=H.rr hD;have R:h.at'=jP who:=by unfold Hs.at';rw[f.w]
 have hw:kj h.ref=who:=f.w;have T:=Mi f.wh;have gl:=g.len;have K:0<=h.seq/\h.seq<1000000:=by have:=f.qr;unfold Hs.seq;rw[f.sq];omega
 have mk:h.es.length<=1000->X9 h h.nx->WA h:=λh1 h2=>⟨u,h1,by rw[hw]; omega,X.ws,X.met,h2⟩;have B:h.es=es->X9 h h.nx->WA h:=λh1 h2=>mk (by rw[h1]; omega) h2;have lk:oY (Gq h.at'):=JW (by omega);have fl:oY (Az h.at'):=Pp (by omega);have no:∀{k:HK},h.nx=k->¬k=.again->h.nx=.again->h.i<h.es.length:=λU Z e3=>absurd (U.symm.trans e3) Z;cases E:h.nx <;> rw[E] at x mk B
 case first=>
  obtain⟨_,_,rfl⟩:=x;exact⟨mk (by rw[X.es (.inl E)]; exact aO _) trivial,no E (by decide),lk⟩
 case lJ=>
  obtain⟨_,G,rfl,_⟩:=x;exact⟨mk (by rw[X.es (.inr (.inl E))]; exact aO _) G,no E (by decide),Zj (by omega)⟩
 case mP=>
  obtain⟨_,G,rfl,J⟩:=x;have hm:=X.many E;rw[hw] at hm;exact⟨mk (by rw[X.es (.inr (.inr (.inl E)))]; exact aO _) ⟨⟨by rw[hw]; omega,by rw[hw]; omega,by omega⟩,G⟩,no E (by decide),Zj (by omega)⟩
 case checked=>
  obtain⟨u,G,rfl,J⟩:=x;exact⟨mk (by rw[X.es (.inr (.inr (.inr E)))]; exact aO _) ⟨G,J.many,u⟩,no E (by decide),lk⟩
 case lB=>
  obtain⟨u,G,e,F,rfl⟩:=x;have y:=Md g F;exact⟨B u (by rw[<-u] at y; exact y.2.1),no E (by decide),IT y.2.2.2 (g.wO y.2.2.1 Q)⟩
 case again=>
  obtain⟨u,G,e,F,rfl,M⟩:=x;have y:=Md g F;have z:=of_decide_eq_true M.zd;exact⟨B u ⟨z.2.1,z.2.2⟩,λ_=>by rw[u]; exact y.2.1,lk⟩
 case kN=>exact x.elim
 case begin=>exact x.elim
 case lP=>
  obtain⟨u,G,e,F,rfl,M,x6⟩:=x;have y:=Md g F;exact⟨B u (by rw[<-u] at y; exact jM y.2.1),no E (by decide),IT y.2.2.2 ⟨X.met.v,X.met.j8,⟨bA 0,(by decide:(0:Int)<4294967296)⟩⟩⟩
 case lG=>
  obtain⟨u,⟨e,G,F,rfl⟩,J⟩:=x;have y:=Md g F;exact⟨B u ⟨by rw[u]; omega,λe=>by rcases J with x | x <;> (rw[x.1] at e; cases e)⟩,no E (by decide),Pp y.2.2.2⟩
 case settle=>
  obtain⟨u,rfl,_⟩:=x;exact⟨B u trivial,no E (by decide),xf⟩
 case mS=>
  obtain⟨u,rfl,F⟩:=x;exact⟨B u trivial,no E (by decide),IT (by omega) (RG (by omega) K)⟩
 case kH=>
  obtain⟨u,rfl,_⟩:=x;exact⟨B u trivial,no E (by decide),fl⟩
 case kT=>
  obtain⟨u,rfl,_⟩:=x;exact⟨B u trivial,no E (by decide),xf⟩
 case known=>
  obtain⟨u,rfl,_⟩:=x;exact⟨B u trivial,no E (by decide),lk⟩
 case found=>
  obtain⟨u,_,_,e,F,rfl⟩:=x;have y:=Md g F;exact⟨B u (by rw[<-u] at y; exact y.2.1),no E (by decide),JW y.2.2.2⟩
 case pn=>
  obtain⟨u,_,_,e,F,rfl⟩:=x;have y:=Md g F;refine⟨B u (jM (dA y.1 (by decide))),no E (by decide),IT y.2.2.2 ?_⟩;split
  ·exact g.wN y.2.2.1
  ·exact g.wO y.2.2.1 ⟨bA 0,by decide⟩
 case through=>
  obtain⟨u,rfl,_⟩:=x;exact⟨B u trivial,no E (by decide),xf⟩
def nY.gg (H:SI D V N s):∀(hs:List Hs),nY D V s t hs a->sk hs->(Du hs/\∀h∈hs,h.nx=.again->h.i<h.es.length)/\oY a
 | [],x,_=>x.elim
 | [h],x,X=>by
  have y:=HL.gg H (show HL D V s t h a from x) (X h aM);exact⟨⟨y.ok,λk u=>by rw[aN.1 u]; exact y.ag⟩,y.act⟩
 | h::k::l,x,X=>by
  obtain⟨⟨⟨B,h1,_,es,e,hD,h2,_,E,_⟩,_⟩,y⟩:=x;obtain⟨_,_,_,_,g⟩:=H.rf hD;obtain⟨⟨F,G⟩,J⟩:=nY.gg H (k::l) y λz K=>X z (aL _ K);have w:=Md g E;have gl:=g.len;refine⟨⟨⟨⟨B,by rw[h2]; omega,h1⟩,F⟩,λb q=>?_⟩,J⟩;rcases aU.1 q with rfl | q
  ·intro e;rw[h1] at e;cases e
  ·exact G b q
def tD.gg (H:SI D V N s) (x:tD D V s t r hs a) (X:sk hs):(Du hs/\∀h∈hs,h.nx=.again->h.i<h.es.length)/\oY a:=nY.gg H hs x.2 X
end
def MG (l:List Ac):Prop:=∀x∈l,oY x
def pu (w:Sw) (a:Ac):Prop:=
 match w.ph with
 | .qx l=>MG (a::l)
 | .send l _=>MG (a::l)
 | .last hs=>sk hs
 | .own hs=>sk hs
 | .pK _ hs=>sk hs
 | _=>True
structure tf (b:Bk) (a:Ac):Prop where
 i:b.i<=100
 kZ:b.kZ<4
 ph:match b.ph with
  | .take (.swap _ w)=>Ww w
  | .pR _ (.swap w)=>Ww w
  | .mQ hs=>sk hs
  | .lQ=>oY a
  | _=>True
structure BG (n:Nat) (p:Pk) (a:Ac):Prop where
 ZW:1<=p.at'.length
 nw:p.now.length<=6
 ws:p.pC.length<=6
 rd:p.rounds<=n
 ph:match p.ph with
  | .mQ hs=>sk hs
  | .flush=>oY a
  | _=>True
section
variable {D:Dg} {V:Vg} {N:Int} {s:Sh} {t:Nat} {r:Int} {es:List Et} {e:Et} {a:Ac} {g:lA} {hs:List Hs} {w:Sw} {p:Pk} {n:Nat} {c:Int} {x:W3}
def Y6 (g:Good es):∀w∈kh es,Ww w:=λw hw=>by
 rcases aU.1 hw with rfl | h
 ·have:=g.len;exact⟨⟨by dsimp only; omega,by dsimp only; omega⟩,⟨bA 0,(by decide:(0:Int)<4294967296)⟩,⟨bA 0,(by decide:(0:Int)<4294967296)⟩⟩
 ·exact Ww.qp g w h
def QB (h:Yv t w) (B:1<=t/\t<=3):MG (mX w):=by
 have G:=kO w.es;have gl:=h.g.len;have H:=h.sq;obtain⟨p,F,J⟩:∃p:Nat,mR w.t=p/\64<=p/\p+22<=512:=by
  have:=Mi (l8 B);rw[s8 B] at this;exact⟨(mR w.t).toNat,by rw[h.t]; omega,by rw[h.t]; omega,by rw[h.t]; omega⟩
 have E:MG (od w [(p:Int)]):=FG λx u=>by rw[aN] at u;omega
 unfold mX Dk;rw[F];intro a q;have q:a∈(((((⟨4,(p:Int),W0,⟨3,w.seq,0⟩⟩::od w [(p:Int)])++mm (kh w.es) ((p:Int)+1))++od w (mf p (kh w.es).length))++[(⟨4,(p:Int),W0,⟨0,w.seq,0⟩⟩:Ac)])++od w [(p:Int)]):=q;rcases bB.1 q with q | q
 ·rcases bB.1 q with q | q
  ·rcases bB.1 q with q | q
   ·rcases bB.1 q with q | q
    ·rcases aU.1 q with rfl | q
     ·exact DU (.inr rfl) (by omega) (RG (by omega) (by omega))
     ·exact E a q
    ·rw[show((p:Int)+1)=((p+1:Nat):Int) by omega] at q;exact EG _ _ (Y6 h.g) (by omega) a q
   ·refine FG (λx u=>?_) a q;unfold mf at u;obtain⟨h1,_⟩:=gX.1 u;obtain⟨i,h2,rfl⟩:=dC.1 h1;have:=dP.1 h2;omega
  ·rw[aN] at q;subst q;exact DU (.inr rfl) (by omega) (RG (by omega) (by omega))
 ·exact E a q
def I8.gg (H:SI D V N s) (u:1<=t/\t<=3) (y:I8 D V s t w a) (X:pu w a):(ZA w/\QE w.ph)/\oY a:=by
 obtain⟨h,y⟩:=y;have F:=h.sq;have q:ZA w:=⟨by rw[h.t]; omega,by omega,by have:=h.g.len; omega⟩;have B:=Mi (l8 u);unfold pu at X;cases E:w.ph <;> rw[E] at y X
 case pO=>exact⟨⟨q,trivial⟩,by rw[y.2,<-s8 u]; exact JW (by omega)⟩
 case last hs=>
  obtain⟨_,r,y⟩:=y;have z:=y.gg H X;exact⟨⟨q,z.1⟩,z.2⟩
 case qx l=>exact⟨⟨q,trivial⟩,X _ aM⟩
 case own hs=>
  have z:=y.2.gg H X;exact⟨⟨q,z.1⟩,z.2⟩
 all_goals exact y.elim
def pu.qx {l:List Ac} (X:MG l):pu (BJ w l).1 (BJ w l).2.1:=by
 cases l with
 | nil=>exact sk.new _ _
 | cons a l=>exact X
def I8.aux (F:1<=t/\t<=3) (y:I8 D V s t w a) (X:pu w a) (E:Ww g.w):pu (kP w g).1 (kP w g).2.1:=by
 obtain⟨h,y⟩:=y;have fill:pu (vT w).1 (vT w).2.1:=pu.qx (QB h F);unfold pu at X;unfold kP;cases G:w.ph <;> rw[G] at y X
 case pO=>
  dsimp only;unfold ug;split
  ·trivial
  ·split
   ·exact fill
   ·exact sk.new _ _
 case last hs=>
  obtain⟨_,r,y⟩:=y;have z:=sk.next E hs y.2 X;dsimp only;cases u:kQ hs g with
  | mk B q=>
   obtain⟨H,d⟩:=q;rw[u] at z;cases d with
   | false=>exact z
   | true=>exact fill
 case qx l=>exact pu.qx λx J=>X x (aL _ J)
 case own hs=>
  have z:=sk.next E hs y.2.2 X;dsimp only;cases u:kQ hs g with
  | mk B q=>
   obtain⟨H,d⟩:=q;rw[u] at z;cases d with
   | false=>exact z
   | true=>trivial
 all_goals exact y.elim
def BT.gg (H:SI D V N s) (m:BT D c x):(0<=c/\c<512)/\Ww ⟨x.v,x.j8,0⟩:=by
 obtain⟨es,e,h1,h2,rfl,h⟩:=m;obtain⟨_,_,_,_,g⟩:=H.rf h1;have q:=g.pl e h2;have:=g.wO h2 (r:=0) ⟨bA 0,by decide⟩;rw[h];exact⟨by omega,this⟩
def Bg.gg (H:SI D V N s) (y:Bg D V s t w a) (X:pu w a):P5 w/\oY a:=by
 obtain⟨e,h1,h2,h,B,y⟩:=y;unfold pu at X;unfold P5;cases q:w.ph <;> rw[q] at y X
 case rE=>exact⟨⟨⟨e,h1⟩,trivial⟩,by rw[y]; exact JW (by omega)⟩
 case pK x hs=>
  have z:=y.2.gg H X;exact⟨⟨⟨e,h1⟩,z.1⟩,z.2⟩
 case qv=>
  obtain⟨x,u,rfl,_⟩:=y;have:=u.gg H;exact⟨⟨⟨e,h1⟩,trivial⟩,IT this.1 this.2⟩
 case sv=>
  obtain rfl:=y;exact⟨⟨⟨e,h1⟩,trivial⟩,IT (by omega) ⟨h,⟨by dsimp only; omega,by dsimp only; omega⟩,⟨bA 0,(by decide:(0:Int)<4294967296)⟩⟩⟩
 case send l ok=>exact⟨⟨⟨e,h1⟩,trivial⟩,X _ aM⟩
 all_goals exact y.elim
def pu.send {l:List Ac} {ok:Bool} (X:MG l):pu (uO w ok l).1 (uO w ok l).2.1:=by
 cases l with
 | nil=>trivial
 | cons a l=>exact X
def Bg.aux (y:Bg D V s t w a) (X:pu w a) (B:Ww g.w):pu (kP w g).1 (kP w g).2.1:=by
 obtain⟨e,h1,h2,H,J,y⟩:=y;have u:MG (od w [(sE w).at']):=FG λx h=>by rw[aN,CZ h1] at h;omega
 have met:∀x,pu (yH w x).1 (yH w x).2.1:=λx=>by
  unfold yH;split
  ·exact sk.new _ _
  ·split
   ·exact pu.send u
   ·trivial
 unfold pu at X;unfold kP;cases E:w.ph <;> rw[E] at y X
 case rE=>exact met _
 case pK x hs=>
  have z:=sk.next B hs y.2.2 X;dsimp only;cases F:kQ hs g with
  | mk G q=>
   obtain⟨K,d⟩:=q;rw[F] at z;cases d with
   | false=>exact z
   | true=>dsimp only;split <;> trivial
 case qv=>trivial
 case sv=>
  dsimp only;split
  ·exact pu.send u
  ·exact met _
 case send l ok=>exact pu.send λx h=>X x (aL _ h)
 all_goals exact y.elim
def I7.gg (H:SI D V N s) (y:I7 D V s t p a) (X:BG n p a) (F:n<=1000000):OG p/\oY a:=by
 obtain⟨h1,y⟩:=y;obtain⟨G,J,K,M,X⟩:=X;have q:ZZ p:=⟨by omega,by omega,by omega,by omega⟩;unfold OG;cases u:p.ph <;> rw[u] at y X
 case found=>
  have Q:=y9 h1.1 y.1.1;exact⟨⟨q,y.1.1,by omega⟩,by rw[y.2]; exact JW (by omega)⟩
 case mQ hs=>
  have z:=y.2.2.gg H X;exact⟨⟨q,y.1.1,z.1⟩,z.2⟩
 case back=>
  obtain⟨B,E,rfl,_⟩:=y;have:=E.gg H;exact⟨⟨q,B.1⟩,IT this.1 this.2⟩
 case flush=>exact⟨⟨q,trivial⟩,X⟩
 case last=>exact⟨⟨q,trivial⟩,⟨.inl y,λh=>by omega,λh=>by omega,λh=>by omega⟩⟩
 case over=>exact y.elim
def BG.look (h1:1<=p.at'.length) (h2:p.now.length<=6) (h:p.pC.length<=6) (q:p.rounds<=n):BG n (uF p).1 (uF p).2.1:=⟨h1,h2,h,q,trivial⟩
def Y2 (h1:∀c∈p.at',56<=c/\c<62) (hi:p.i<p.at'.length):oY ⟨7,vg p,W0,W0⟩:=by
 have:=y9 h1 hi;exact Pp (by omega)
def BG.flush (u:∀c∈p.at',56<=c/\c<62) (h1:1<=p.at'.length) (h2:p.now.length<=6) (h:p.pC.length<=6) (q:p.rounds<=n):BG n (oQ p).1 (oQ p).2.1:=by
 unfold oQ;split
 ·rename_i hi;exact⟨h1,h2,h,q,Y2 u hi⟩
 ·exact⟨h1,h2,h,q,trivial⟩
def I7.aux (y:I7 D V s t p a) (X:BG n p a) (G:Ww g.w):BG (n+1) (nO p g).1 (nO p g).2.1:=by
 obtain⟨h1,y⟩:=y;obtain⟨h,F,B,u,X⟩:=X;unfold nO;cases H:p.ph <;> rw[H] at y X
 case found=>
  obtain⟨⟨hi,M⟩,_⟩:=y;dsimp only;unfold uq;split
  ·exact⟨h,F,B,cZ u,sk.new _ _⟩
  ·have E:(p.now++[g.w]).length<=6:=by rw[aF,aE];omega
   dsimp only;split
   ·exact BG.look (p:={p with now:=p.now++[g.w],i:=p.i+1}) h E B (cZ u)
   ·unfold qR;dsimp only;split
    ·exact⟨h,aO _,E,iP u,trivial⟩
    ·split
     ·exact BG.flush (p:={p with now:=p.now++[g.w],i:=0,rounds:=p.rounds+1}) h1.1 h E B (iP u)
     ·exact⟨h,E,B,iP u,trivial⟩
 case mQ hs=>
  have z:=sk.next G hs y.2.2.2 X;dsimp only;cases J:kQ hs g with
  | mk K q=>
   obtain⟨Q,d⟩:=q;rw[J] at z;cases d with
   | false=>exact⟨h,F,B,cZ u,z⟩
   | true=>
    dsimp only;split
    ·exact BG.look h F B (cZ u)
    ·exact⟨h,F,B,cZ u,trivial⟩
 case back=>exact BG.look h F B (cZ u)
 case flush=>exact BG.flush h1.1 h F B (cZ u)
 case last=>exact⟨h,F,B,cZ u,trivial⟩
 case over=>exact y.elim
end
section
variable {D:Dg} {V:Vg} {O:wB} {N:Int} {s:Sh} {t:Nat} {r:Int} {es:List Et} {a:Ac} {g:lA} {hs:List Hs} {b:Bk} {c:Int} {x:W3}
def NC (x:BitVec 64):C5 x.toInt:=by
 have h1:=BitVec.le_toInt x;have h2:=BitVec.toInt_lt (x:=x);constructor <;> simp only[Nat.reduceSub,Int.reducePow,Int.reduceNeg] at h1 h2⊢<;> omega
def aaU (z y:Int) (h:Ww x):Ww ⟨K8 z y,x.j8,x.ref⟩:=⟨NC _,h.j8,h.ref⟩
def aal (z y:Int) (h:Ww x):Ww ⟨Ns z y,x.j8,x.ref⟩:=⟨NC _,h.j8,h.ref⟩
def RQ (h:b.kZ<4):b.at'=384+32*(b.kZ:Int):=by
 unfold Bk.at' lC;rw[if_pos (by omega)]
def D4.U7 (x:D4 D V O s t b):1<=b.seq/\b.seq<=16777215:=by have:=x.sq; omega
def Eu.gg (H:SI D V N s) (y:Eu D V O s t b a) (X:tf b a):SF b/\oY a:=by
 obtain⟨G,u,X⟩:=X;have mk:Bok b b.ph->b.es.length<=6->SF b:=λh1 h2=>⟨h1,u,by omega,by omega⟩;have E:=RQ u;have LY:oY (Gq mG):=JW (by decide);unfold Eu at y;cases F:b.ph <;> rw[F] at y X mk
 case take k=>
  cases k with
  | look=>exact⟨mk trivial y.1.len.2,by rw[y.2.2.2.2]; exact LY⟩
  | swap i w=>
   obtain⟨h,_,_,_,J,_,rfl⟩:=y;exact⟨mk trivial h.len.2,IT (by decide) (aaU _ _ X)⟩
  | _=>exact y.elim
 case looked=>
  obtain⟨h,_,_,_,rfl,_⟩:=y;exact⟨mk trivial h.len.2,JW (by have:lC b.kZ=b.at':=rfl; omega)⟩
 case rel op=>
  cases op with
  | false=>
   obtain⟨h,_,rfl,_⟩:=y;exact⟨mk h.U7 h.g.len.2,Wp (.inr rfl) (by omega) (RG (by omega) (by have:=h.sq; omega))⟩
  | true=>
   obtain⟨h,rfl,_⟩:=y;exact⟨mk h.U7 h.g.len.2,Wp (.inr rfl) (by omega) (RG (by omega) (by have:=h.sq; omega))⟩
 case zw op=>
  cases op with
  | false=>
   obtain⟨h,_,rfl,_⟩:=y;exact⟨mk h.U7 h.g.len.2,Pp (by omega)⟩
  | true=>
   obtain⟨h,rfl,_⟩:=y;exact⟨mk h.U7 h.g.len.2,Pp (by omega)⟩
 case sS op=>
  cases op with
  | false=>
   obtain⟨h,_,rfl,_⟩:=y;exact⟨mk h.U7 h.g.len.2,xf⟩
  | true=>
   obtain⟨h,rfl,_⟩:=y;exact⟨mk h.U7 h.g.len.2,xf⟩
 case fill=>
  obtain⟨h,k,B,q,rfl,_⟩:=y;have:=h.g.len;exact⟨mk h.U7 h.g.len.2,Wp (.inl rfl) (by unfold mg at q; omega) (Y6 h.g _ (aG (GP q)))⟩
 case lQ=>exact⟨mk y.1.U7 y.1.g.len.2,X⟩
 case zq=>
  obtain⟨h,rfl,_⟩:=y;exact⟨mk h.U7 h.g.len.2,xf⟩
 case mQ hs=>
  have z:=y.2.2.gg H X;exact⟨mk z.1 y.1.g.len.2,z.2⟩
 case pR K k=>
  obtain⟨h,B,_,q⟩:=y;cases k with
  | look=>exact⟨mk ⟨by rw[B]; exact u,trivial⟩ h.g.len.2,by rw[q]; exact LY⟩
  | swap w=>
   obtain⟨_,rfl⟩:=q;exact⟨mk ⟨by rw[B]; exact u,trivial⟩ h.g.len.2,IT (by decide) (aal _ _ X)⟩
  | done z=>exact q.elim
 case over=>exact y.elim
def Iv {w:W3} (hw:Ww w):∀(k i:Nat) {q:Nat} {w':W3},(kX w k i).1=.swap q w'->Ww w'
 | 0,i,_,_,h=>by cases h
 | k+1,i,_,_,h=>by
  unfold kX at h;split at h
  ·cases h;exact hw
  ·exact Iv hw k (i+1) h
def E9 {w:W3}:∀(k i:Nat) {q:Nat},¬(kX w k i).1=.done q
 | 0,i,_,h=>by cases h
 | k+1,i,_,h=>by
  unfold kX at h;split at h
  ·cases h
  ·exact E9 k (i+1) h
def tf.VC (h2:b.kZ<4) (u:b.es.length<=6) (h:b.i<=100):tf (qk b).1 (qk b).2.1:=by
 have q:=RQ h2;unfold qk;dsimp only;split
 ·exact⟨h,h2,trivial⟩
 ·rename_i c;have B:mg b=1+3*b.es.length:=rfl;refine⟨?_,h2,?_⟩
  ·show b.i+1<=100;omega
  ·show oY ⟨7,max _ _,W0,W0⟩;exact Pp (by omega)
def tf.VN (h2:b.kZ<4) (h:b.es.length<=6) (q:b.i<=100):tf (rh b).1 (rh b).2.1:=by
 unfold rh;split
 ·rename_i c;have u:mg b=1+3*b.es.length:=rfl;exact⟨by show b.i+1<=100; omega,h2,trivial⟩
 ·split
  ·exact tf.VC (b:={b with i:=0}) h2 h (aO _)
  ·exact⟨q,h2,trivial⟩
def tf.behind (h2:b.kZ<4) (q:b.es.length<=6) (h:b.i<=100) (op:Bool):tf (my b op).1 (my b op).2.1:=by
 cases op with
 | true=>exact⟨h,h2,sk.new _ _⟩
 | false=>exact tf.VN h2 q h
def tf.SN (h2:b.kZ<4) (h:b.i<=100):tf (Be b).1 (Be b).2.1:=⟨h,h2,trivial⟩
def N3 {q:Nat} {w w':W3} (hw:Ww w) (h:(lO q w).1=.swap w'):Ww w':=by
 unfold lO at h;split at h
 ·cases h
 ·cases h;exact hw
def Eu.aux (y:Eu D V O s t b a) (X:tf b a) (G:Ww g.w):tf (kr b g).1 (kr b g).2.1:=by
 obtain⟨u,B,X⟩:=X;have take:∀(r:K6),(∀E w',r.1=.swap E w'->Ww w')->(∀E,r.1=.done E->E<4)->∀out:BR,out=(match r with
  | (.done i,_,true)=>({b with kZ:=i,ph:=.looked},⟨5,lC i,W0,W0⟩,false)
  | (_,_,true)=>Lo {b with bad:=9}
  | (k,a,false)=>({b with ph:=.take k},a,false))->tf out.1 out.2.1:=by
  rintro⟨k,K,d⟩ h1 h2 out rfl;cases d with
  | true=>
   cases k with
   | done i=>exact⟨u,h2 i rfl,trivial⟩
   | _=>exact⟨u,B,trivial⟩
  | false=>
   cases k with
   | swap i w=>exact⟨u,B,h1 i w rfl⟩
   | _=>exact⟨u,B,trivial⟩
 have pR:∀(F:Nat) (r:P8),(∀w',r.1=.swap w'->Ww w')->∀out:BR,out=(match r with
  | (k,a,false)=>({b with ph:=.pR F k},a,false)
  | (_,_,true)=>Lo b)->tf out.1 out.2.1:=by
  rintro F ⟨k,K,d⟩ h1 out rfl;cases d with
  | true=>exact⟨u,B,trivial⟩
  | false=>
   cases k with
   | swap w=>exact⟨u,B,h1 w rfl⟩
   | _=>exact⟨u,B,trivial⟩
 unfold Eu at y;unfold kr;cases M:b.ph <;> rw[M] at y X
 case take k=>
  cases k with
  | look=>exact take (kX g.w 4 0) (λE w' h=>Iv G 4 0 h) (λE h=>absurd h (E9 4 0)) _ rfl
  | swap i w=>
   refine take (mC (.swap i w) g) (λE w' h=>?_) (λE h=>?_) _ rfl
   ·have h:(if g.ok=true then((LP.done i,o8,true):K6) else kX g.w 4 0).1=.swap E w':=h;split at h
    ·cases h
    ·exact Iv G 4 0 h
   ·have h:(if g.ok=true then((LP.done i,o8,true):K6) else kX g.w 4 0).1=.done E:=h;split at h
    ·cases h;exact y.2.2.2.2.1
    ·exact absurd h (E9 4 0)
  | _=>exact y.elim
 case looked=>
  dsimp only;unfold r7;split
  ·exact tf.SN (b:={b with bad:=9}) B u
  ·exact⟨u,B,trivial⟩
 case rel op=>
  have H:b.es.length<=6:=by cases op <;> exact y.1.g.len.2
  dsimp only;split
  ·exact⟨u,B,trivial⟩
  ·exact tf.behind B H u op
 case zw op=>exact⟨u,B,trivial⟩
 case sS op=>
  have H:b.es.length<=6:=by cases op <;> exact y.1.g.len.2
  exact tf.behind B H u op
 case fill=>exact tf.VN B y.1.g.len.2 u
 case lQ=>exact tf.VC B y.1.g.len.2 u
 case zq=>exact⟨u,B,trivial⟩
 case mQ hs=>
  have z:=sk.next G hs y.2.2.2 X;dsimp only;cases Q:kQ hs g with
  | mk J q=>
   obtain⟨K,d⟩:=q;rw[Q] at z;cases d with
   | false=>exact⟨u,B,z⟩
   | true=>
    dsimp only;cases J with
    | nil=>exact tf.SN (b:={b with done:=false}) B u
    | cons h l=>exact tf.SN (b:={b with done:=_}) B u
 case pR F k=>
  obtain⟨T,U,_,R⟩:=y;cases k with
  | look=>exact pR F (lO F g.w) (λw' h=>N3 G h) _ rfl
  | swap w=>
   refine pR F (m3 F (.swap w) g) (λw' h=>?_) _ rfl;have h:(if g.ok=true then((S4.done false,o8,true):P8) else lO F g.w).1=.swap w':=h;split at h
   ·cases h
   ·exact N3 G h
  | done z=>exact R.elim
 case over=>exact y.elim
end
structure CP (n:Nat) (c:Cn) (a:Ac):Prop where
 dn:c.done.length+c.ops.length<=8
 sm:c.pQ.length+c.ops.length<=8
 d:∀d,c.now=some d->match d with
  | .sw w=>pu w a
  | .bl b=>tf b a
  | .pk p=>BG n p a
section
variable {D:Dg} {V:Vg} {O:wB} {N:Int} {s s':Sh} {t:Nat} {a:Ac} {g:lA} {n:Nat} {c:Cn} {o:ng} {k:Int}
def TT (q:¬o.ps=[]) (h:o.d % 4=2):(jZ o).length=1:=by
 have:jZ o=(xF o.ps 6).take 1:=by unfold jZ;rw[if_pos h];rfl
 rw[this,aR];have:=Lz q;omega
def YI (h:¬o.ps=[]):YD ((jZ o).map kM):=by
 have E:=rO h;refine⟨by rw[bE]; omega,λa B=>?_,?_⟩
 ·obtain⟨p,_,rfl⟩:=dC.1 B;exact decide_eq_true (.inl (rH p))
 ·unfold List.Nodup;rw[List.pairwise_iff_getElem];intro i j hi u q e;rw[bE] at hi u;have:=GY i j _ _ q (aB hi) (aB u);rw[List.getElem_map,List.getElem_map] at e;omega
def VH.of (h:V3 t c k) (F:1<=t/\t<=3) (G:k<=200) (hs:c.seen.length<=6) (hw:∀w∈kg c g,Yn w) (q:∀o r,nM c.ops=o::r->¬o.d % 4=3->(kg c g).length<=(jZ o).length):VH c g:=by
 have u:=h.sq;refine⟨by rw[h.t]; omega,by omega,h.ops,hs,λo r e _=>YI (tZ e),λo r e B E=>?_⟩;have he:(kg c g).length=(jZ o).length:=by have:=q o r e B;omega
 exact⟨he,(Bl (tZ e) he hw).ZD,λh2=>TT (tZ e) h2⟩
def JO (h:c.seen=[]):kg c g=[]:=by unfold kg; rw[if_pos h]
def tN.gg (H:SI D V N s) (E:1<=t/\t<=3) (y:tN D V O s t c a) (X:CP n c a) (F:n<=1000000):oY a/\∀d,c.now=some d->Rn d:=by
 have q:=X.d;unfold tN at y;cases u:c.now with
 | none=>
  rw[u] at y;obtain⟨_,_,_,o,r,k,J,K,M,Q,G,rfl,_⟩:=y;have B:k<(jZ o).length:=G;have R:56<=((jZ o).map kM).getD k 0/\((jZ o).map kM).getD k 0<62:=by
   rw[aI,bU,aB B];exact rH _
  exact⟨JW (by omega),λd h=>by cases h⟩
 | some d=>
  rw[u] at y;obtain⟨_,_,_,y⟩:=y;have q:=q d u;suffices Rn d/\oY a from⟨this.2,λT h=>by cases h; exact this.1⟩;cases d with
  | sw w=>
   obtain⟨_,y⟩:=y;rcases y with ⟨y,_⟩| ⟨y,_⟩
   ·have z:=y.gg H E q;exact⟨.inl z.1,z.2⟩
   ·have z:=y.gg H q;exact⟨.inr z.1,z.2⟩
  | bl b=>exact y.1.gg H q
  | pk p=>exact y.1.gg H q F
def tN.cok (H:SI D V N s) (Q:1<=t/\t<=3) (y:tN D V O s t c a) (X:CP n c a) (hn:n<=1000000) (E:s5 t s s' a g):UB c g:=by
 have G:=(y.gg H Q X hn).2;have aS:=X.dn;have aT:=X.sm;unfold tN at y;cases B:c.now with
 | none=>
  rw[B] at y;obtain⟨q,hS,hO,o,r,k,e1,Z,e3,e4,e5,rfl,hw⟩:=y;obtain⟨q1,_,rfl⟩:=E.kD;have bY:=rO Z;refine⟨q.br,by omega,by omega,λ_=>VH.of q Q (by decide) (by omega) (λw K=>?_) (λo' r' e h3=>?_),λd h=>by rw[B] at h; cases h⟩
  ·unfold kg at K;split at K
   ·cases K
   ·rcases bB.1 K with h | h
    ·exact hw w ((jB _).subset h)
    ·rw[aN.1 h];have F:k<(jZ o).length:=e5;have M:56<=((jZ o).map kM).getD k 0/\((jZ o).map kM).getD k 0<62:=by
      rw[aI,bU,aB F];exact rH _
     have h1:=H.val _ M.1 M.2;have h2:=H.j8 _ M.1 M.2;have h3:=H.nN;exact⟨h1,by dsimp only; omega,by dsimp only; omega⟩
  ·rw[e1,qg Z] at e;cases e
   unfold kg;split
   ·exact aO _
   ·rw[aF,bT,aE];omega
 | some d=>
  rw[B] at y;obtain⟨q,R,J,y⟩:=y;refine⟨q.br,by omega,by omega,(λh=>by rw[B] at h; cases h),λd' h=>?_⟩;rw[B] at h;cases h
  refine⟨G d B,J,λ_=>?_⟩;have u:(IZ c (lD d g).1).seen=[]:=R;have T:=q.sq;have F:c.ops.tail.length+1=c.ops.length:=by
   cases ho:c.ops with
   | nil=>exact absurd ho J
   | cons a b=>rfl
  have U:V3 t (IZ c (lD d g).1) 101:=⟨q.t,q.br,λo ho=>q.ops o (fV ho),⟨T.1,by show c.seq+(c.ops.tail.length:Nat)<=101; omega⟩,(by have:=q.h8; show c.ops.tail.length<=8; omega)⟩;refine VH.of U Q (by decide) (by rw[u]; exact aO _) (λw hw=>?_) λo r _ _=>?_
  ·rw[JO u] at hw;cases hw
  ·rw[JO u];exact aO _
def CP.idle (T:c.now=none) (h1:c.done.length+c.ops.length<=8) (h2:c.pQ.length+c.ops.length<=8) (hm:V3 t c k) (U:(lX c g).1.broken=false):CP n (lX c g).1 (lX c g).2.1:=by
 cases E:nM c.ops with
 | nil=>
  rw[Cu E];exact⟨by show c.done.length+0<=8; omega,by show c.pQ.length+0<=8; omega,λd h=>by have h:c.now=some d:=h; rw[T] at h; cases h⟩
 | cons o r=>
  have hlen:=wx E;have J:=tZ E;have K:=rO J;have F:c.done.length+(o::r).length<=8:=by omega
  have G:c.pQ.length+(o::r).length<=8:=by omega
  by_cases H:o.d % 4=3
  ·unfold lX;rw[E];dsimp only;rw[if_neg (by rw[hm.br]; simp),if_pos H];refine⟨F,G,λd h=>?_⟩;cases h
   exact⟨by show 1<=((jZ o).map kM).length; rw[bE]; exact K.1,aO _,aO _,aO _,trivial⟩
  ·by_cases M:(kg c g).length<(jZ o).length
   ·rw[z7 E hm.br H M];exact⟨F,G,λd h=>by have h:c.now=some d:=h; rw[T] at h; cases h⟩
   ·cases B:pB {c with ops:=o::r} o (jZ o) (kg c g) with
    | mk q a=>
     cases q with
     | some c2=>
      rw[sD E hm.br H M B];unfold pB at B;dsimp only at B;split at B
      ·obtain⟨u,X⟩:=Prod.mk.inj B;split at u
       ·cases u;refine⟨F,G,λd h=>?_⟩;cases h;exact⟨aO _,(by decide:0<4),trivial⟩
       ·cases u
      ·split at B
       ·obtain⟨u,X⟩:=Prod.mk.inj B;split at u
        ·cases u;refine⟨F,G,λd h=>?_⟩;cases h;trivial
        ·cases u
       ·obtain⟨u,X⟩:=Prod.mk.inj B;split at u
        ·cases u;refine⟨F,G,λd h=>?_⟩;cases h;trivial
        ·cases u
     | none=>
      exfalso;have e:(lX c g).1.broken=true:=by
       unfold lX;rw[E];dsimp only;rw[if_neg (by rw[hm.br]; simp),if_neg H];have Q:¬(if c.seen=[] then [] else c.seen.dropLast++[g.w]).length<(jZ o).length:=M;rw[if_neg Q];have R:pB {c with ops:=o::r} o (jZ o) (if c.seen=[] then [] else c.seen.dropLast++[g.w])=(none,a):=B;rw[R]
      rw[e] at U;cases U
def tN.aux (U:1<=t/\t<=3) (y:tN D V O s t c a) (X:CP n c a) (J:Ww g.w) (u:(ll c g).1.broken=false):CP (n+1) (ll c g).1 (ll c g).2.1:=by
 obtain⟨F,G,E⟩:=X;unfold tN at y;unfold ll at u⊢;cases K:c.now with
 | none=>
  rw[K] at y u;exact CP.idle K F G y.1 u
 | some d=>
  rw[K] at y u;obtain⟨H,Z,M,y⟩:=y;have E:=E d K;have Q:=H.sq;have aS:c.ops.tail.length+1=c.ops.length:=by
   cases ho:c.ops with
   | nil=>exact absurd ho M
   | cons a b=>rfl
  have R:∀B,(lD d g).1=B->match B with | .sw w=>pu w (lD d g).2.1 | .bl b=>tf b (lD d g).2.1 | .pk p=>BG (n+1) p (lD d g).2.1:=by
   rintro B rfl;cases d with
   | sw w=>
    obtain⟨_,y⟩:=y;rcases y with ⟨y,_⟩| ⟨y,_⟩
    ·exact y.aux U E J
    ·exact y.aux E J
   | bl b=>exact y.1.aux E J
   | pk p=>exact y.1.aux E J
  dsimp only at u⊢;unfold yG at u⊢;cases hx:lD d g with
  | mk B q=>
   obtain⟨a',dd⟩:=q;rw[hx] at R u;cases dd with
   | false=>exact⟨F,G,λd2 h=>by cases h; exact R B rfl⟩
   | true=>
    have T:(A7 B).length<=1:=by cases B <;> simp[A7]
    refine CP.idle (t:=t) (k:=101) rfl ?_ ?_ ⟨H.t,H.br,λo ho=>H.ops o (fV ho),⟨Q.1,by show c.seq+(c.ops.tail.length:Nat)<=101; omega⟩,(by have:=H.h8; show c.ops.tail.length<=8; omega)⟩ u
    ·dsimp only;rw[aF,aE];omega
    ·dsimp only;rw[aF];omega
end
structure WJ (m:Mj) (ts:List CR) (N:Int) (n:Nat):Prop where
 wi:WI m.me ts N
 ww:∀k,k<512->∀x∈m.me.at k,Ww x.w
 ax:∀(i:Nat) (x:CR),ts[i]?=some x->CP n x.1 x.2.1
section
variable {N:Int} {t:Nat} {a:Ac} {g:lA} {n:Nat} {c:Cn} {m m':Mj} {ts:List CR} {x:CR}
def CP.up (X:CP n c a):CP (n+1) c a:=⟨X.dn,X.sm,λd h=>by
 have:=X.d d h;cases d with
 | sw w=>exact this
 | bl b=>exact this
 | pk p=>exact⟨this.ZW,this.nw,this.ws,cZ this.rd,this.ph⟩⟩
def L0 (I:∀k,k<512->∀x∈m.me.at k,Ww x.w) (K:Lc 512 m.me) {k:Nat} (h:k<512):Ww (m.me.top k).w:=I k h _ (zb (K.ne k h))
def Bw.ww (I:∀k,k<512->∀x∈m.me.at k,Ww x.w) (K:Lc 512 m.me) (B:oY a) (h:Bw m t a m' g):(∀k,k<512->∀x∈m'.me.at k,Ww x.w)/\Ww g.w:=by
 have hs:=K.hs;have add:∀{me:Me} {i:Nat} {w:W3} {wl:Bool},(∀k,k<512->∀x∈me.at k,Ww x.w)->i<me.hs.length->Ww w->∀k,k<512->∀x∈(me.add t i w wl).at k,Ww x.w:=λ{me i w wl} I hi hw k E x u=>by
  rw[tC hi] at u;split at u
  ·rename_i e;subst e;rcases bB.1 u with u | u
   ·exact I k E x u
   ·rw[aN.1 u];exact hw
  ·exact I k E x u
 cases h with
 | look i o n hi=>exact⟨I,L0 I K (by omega)⟩
 | load i q x o n hi u F=>exact⟨I,I i (by omega) x (aG u)⟩
 | put i o w wl hi=>exact⟨add I hi (B.w (by cases wl <;> simp)),Xy⟩
 | swap i o w hi=>
  refine⟨?_,L0 I K (by omega)⟩;show ∀k,k<512->∀x∈(m.me.GC t i o w).at k,Ww x.w;unfold Me.GC;split
  ·exact add (me:=m.me.qy t i _ _ true) I hi (B.w (.inr (.inr rfl)))
  ·exact I
 | flush i o n hi=>exact⟨I,Xy⟩
 | sync p o n=>exact⟨I,Xy⟩
def WJ.step (I:WJ m ts N n) (J:N+1<1000000) (G:n<=1000000) (h:1<=t) (q:ts[t - 1]?=some (c,a,false)) :
  oY a/\(a.op=1->∀i:Nat,a.at'=i->m.me.view t i<=((m.me.at i).length - 1:Nat))/\
  ∀m' g,Bw m t a m' g->UB c g/\Ww g.w/\WJ m' (ts.set (t - 1) (ll c g)) (N+1) (n+1)/\LQ (sh m.me).W (sh m'.me).W/\∀p,p<56->(sh m'.me).W p=(sh m.me).W p:=by
 obtain⟨D,V,O,H,B,y,u⟩:=I.wi.tc h q;have X:=I.ax _ _ q;have E:=(aC.1 q).1;have F:=(tN.gg H ⟨h,u⟩ y X G).1;refine⟨F,λh1 i hi=>?_,λm' g hs=>?_⟩
 ·rcases F.ok with e | ⟨_,_,e⟩
  ·omega
  ·exact I.wi.mw.view t (by omega)
 ·obtain⟨w1,w2,w3⟩:=I.wi.step J h q hs;obtain⟨v1,v2⟩:=hs.ww I.ww I.wi.mw F;refine⟨tN.cok H ⟨h,u⟩ y X G (hs.ZQ I.wi.mw ⟨h,u⟩),v2,⟨w1,v1,λi x hi=>?_⟩,w2,w3⟩;have K:=w1.ok hi;rw[bH] at hi;by_cases e:t - 1=i
  ·rw[if_pos e,if_pos E] at hi;cases hi
   exact tN.aux ⟨h,u⟩ y X v2 K
  ·rw[if_neg e] at hi;exact(I.ax i x hi).up
def WJ.start {ws:List W3} {first:List Int} {k:Nat} {du:Bool} {opss:List (List ng)} (hw:FU (xN first k) ws) (q:k<=6) (u:∀z∈first,-128<=z/\z<=127) (E:opss.length<=3)
  (ho:∀ops∈opss,ops.length<=8/\∀o∈ops,Hk o):WJ (Mj.new 3 ws) (opss.mapIdx λi ops=>ll (DT du i ops) qa) 1000 0:=by
 have W:WI (Mj.new 3 ws).me (opss.mapIdx λi ops=>ll (DT du i ops) qa) 1000:=WI.start (du:=du) hw q u E ho;refine⟨W,λi hi x B=>?_,λi x hi=>?_⟩
 ·rw[show(Mj.new 3 ws).me.at i=[⟨xN first k i,λ_=>0⟩] from IX (hw.2 i hi),aN] at B;subst B;exact(MI.start q u).2.1 i
 ·have F:=W.ok hi;rw[cT] at hi;cases h:opss[i]? with
  | none=>rw[h] at hi;cases hi
  | some ops=>
   rw[h] at hi;simp only[cB,aD] at hi;subst hi;have h8:=ho ops (aG h);exact CP.idle (t:=i+1) (k:=100) (c:=DT du i ops) rfl (by show 0+ops.length<=8; omega) (by show 0+ops.length<=8; omega) ⟨rfl,rfl,h8.2,(by show(0:Int)<=0/\(0:Int)+(ops.length:Nat)<=100; omega),h8.1⟩ F
def QH {du:Bool} {i:Nat} {ops:List ng} (hi:i<3) (h8:ops.length<=8) (ho:∀o∈ops,Hk o):UB (DT du i ops) qa:=
 ⟨rfl,aO _,aO _,λ_=>VH.of (t:=i+1) (k:=100) ⟨rfl,rfl,ho,(by show(0:Int)<=0/\(0:Int)+(ops.length:Nat)<=100; omega),h8⟩ (by omega) (by decide) (aO _) (λw hw=>by cases hw) (λo r _ _=>aO _),λd h=>by cases h⟩
end
variable {h h0 h':Hp} {F:Fp} {R:Value->Hp->Prop} {L:List km} {B B':Bs}
structure GW (B:Bs) (Ws:List km) (w:WV) (m:Mj) (ts:List CR) (sts:List Bool) (n:Nat):Prop where
 ex:∃tks gss b,Ef B 3 w m tks gss sts/\Ce 3 512 b m/\b<=n+1/\tks.length=ts.length/\(∀gs∈gss,gs.length<=n)/\
  ∀(i:Nat) (tk:Tk) (x:CR) (W:km),tks[i]?=some tk->ts[i]?=some x->Ws[i]?=some W->tk.t=89/\tk.dn=x.2.2/\tk.act=(if x.2.2 then o8 else x.2.1)/\Le B W tk.v x.1
 wl:Ws.length=ts.length
def GW.le {Ws:List km} {w:WV} {m:Mj} {ts:List CR} {sts:List Bool} {n:Nat} (H:GW B Ws w m ts sts n) (l:B.le B'):GW B' Ws w m ts sts n:=by
 obtain⟨⟨q,u,b,h1,h2,E,G,J,K⟩,O⟩:=H;exact⟨⟨q,u,b,h1.le l,h2,E,G,J,λi tk x W Q T U=>let⟨V,q2,q3,q4⟩:=K i tk x W Q T U; ⟨V,q2,q3,q4.le l⟩⟩,O⟩
def GW.up {Ws:List km} {w:WV} {m:Mj} {ts:List CR} {sts:List Bool} {n:Nat} (H:GW B Ws w m ts sts n):GW B Ws w m ts sts (n+1):=by
 obtain⟨⟨q,u,b,h1,h2,Q,E,G,J⟩,K⟩:=H;exact⟨⟨q,u,b,h1,h2,by omega,E,λgs O=>cZ (G gs O),J⟩,K⟩
inductive QR (kd z:Int) (m:Mj) (ts:List CR) (sts:List Bool):Mj->List CR->List Bool->Prop where
 | stay:(kd=0->∀(t:Nat) (c:Cn) (a:Ac),z=t->1<=t->ts[t - 1]?=some (c,a,false)->sts[t - 1]?=some false->False)->QR kd z m ts sts m ts sts
 | stop (t:Nat):kd=1->QR kd z m ts sts m ts (sts.set (t - 1) true)
 | step (t:Nat) (c:Cn) (a:Ac) (m':Mj) (g:lA):kd=0->z=t->1<=t->ts[t - 1]?=some (c,a,false)->sts[t - 1]?=some false->Bw m t a m' g->QR kd z m ts sts m' (ts.set (t - 1) (ll c g)) sts
section
variable {w:WV} {m:Mj} {ts:List CR} {sts:List Bool} {n k:Nat} {Ws M:List km} {N kd z ch:Int}
def LQ.V6 (W:Int->W3):LQ W W:=.same (λwho _ ⟨q,a,b⟩=>by rw[a] at b; cases b) λ_ _ _=>rfl
def WI.up (I:WI m.me ts N) (q:N+1<1000000):WI m.me ts (N+1):=by
 obtain⟨⟨D,V,O,h1,h2,u⟩,E,J,G,H⟩:=I;exact⟨⟨D,V,O,h1.mono (by omega) q,h2,u⟩,E,by omega,G,H⟩
def Ux (hZ:On B Zs) (c:Cx F h h [jR M,jR Ws]) (hB:∀h',Ch F h h'->B.p h') (H:GW (B.and M) Ws w m ts sts n) (J:WJ m ts N k) (U:¬kd=2) (hN:N+1<1000000) (hk:k<=1000000) (hn:n<=800000)
  (hR:∀w' m' V O dO M' b h',QR kd z m ts sts m' V O->Cx F h h' [jR M',jR dO]->GW (B.and M') dO w' m' V O (n+1)->WJ m' V (N+1) (k+1)->(B.and M).le (B.and M')->LQ (sh m.me).W (sh m'.me).W/\(∀p,p<56->(sh m'.me).W p=(sh m.me).W p)->R (.tuple #[xT w',.bool b]) h'):lK.1 (xT w) (Wg kd z ch) h R:=by
 obtain⟨⟨K,X,b,Z,hK,hb,eQ,aS,hT⟩,iF⟩:=id H;have hlen:=J.wi.len;have b0:(B.and M).p h:=⟨hB _ (.refl _ _),c.get (i:=0) rfl⟩;have J1:WJ m ts (N+1) (k+1):=⟨J.wi.up hN,J.ww,λi x T=>(J.ax i x T).up⟩;have stay:(kd=0->∀(t:Nat) (c:Cn) (a:Ac),z=t->1<=t->ts[t - 1]?=some (c,a,false)->sts[t - 1]?=some false->False)->∀h',Gr h h'->R (.tuple #[xT w,.bool false]) h':=λhs h' g=>
  hR w m ts sts Ws M false h' (.stay hs) (c.more g) H.up J1 (Bs.le_refl _) ⟨LQ.V6 _,λ_ _=>rfl⟩
 have uS:=Z.sl;have tO:=Z.gl;by_cases hz:1<=z/\z<=K.length
 ·obtain⟨t,rfl⟩:∃t:Nat,z=t:=⟨z.toNat,by omega⟩;have T:=aB (l:=K) (i:=t - 1) (by omega);have hy:=aB (l:=ts) (i:=t - 1) (by omega);have hs:=aB (l:=sts) (i:=t - 1) (by omega);have hg:=aB (l:=X) (i:=t - 1) (by omega);have hw:=aB (l:=Ws) (i:=t - 1) (by omega);generalize K[t - 1]'(by omega)=tk at T;generalize ts[t - 1]'(by omega)=x at hy;generalize sts[t - 1]'(by omega)=q at hs;generalize X[t - 1]'(by omega)=gs at hg;generalize Ws[t - 1]'(by omega)=W at hw;obtain⟨q1,q2,q3,q4⟩:=hT _ _ _ _ T hy hw;have hgs:=aS gs (aG hg);by_cases u:q=false/\tk.dn=false
  ·obtain⟨rfl,hd⟩:=u;obtain⟨cn,a,d⟩:=x;dsimp only at q2 q3 q4;rw[hd] at q2;subst q2;rw[if_neg (by decide)] at q3;by_cases h0:kd=0
   ·subst h0;obtain⟨hA,hv,aT⟩:=J.step hN hk (by omega) hy;obtain⟨F',d',hM,up⟩:=c.ws hB hw;rw[<-q3] at hA hv aT;refine N5 (t:=t) (n:=512) (b:=b) (tk:=tk) (gs:=gs) (Q:=λm' g B W v' a' d'=>a'=(ll cn g).2.1/\d'=(ll cn g).2.2/\Le B W v' (ll cn g).1) d' hM Z hK (by omega) (by omega) (by omega) T hs hg (by omega) hd hA.ok hA.old hA.nw hv (by rw[q1]; exact zU) (λ{m' g B B'} l {W v a d} H=>⟨H.1,H.2.1,H.2.2.le l⟩) (λm' g hs B' l=>?_) λm' g w' v' a' d2 s' W' N' h' hs c' hq iN=>?_
    ·obtain⟨hc,iS,_⟩:=aT m' g hs;exact λh F R c hB hR=>ky.2 (MC (hZ.le ((Bs.jX _ _).trans l)) (q4.le l) hc iS c hB λv' W' N h' c' ok=>by have y:=hR v' _ _ W' N h' c' ⟨rfl,rfl,ok⟩; rwa [q1] at y)
    ·obtain⟨_,_,hJ,hF⟩:=aT m' g hs;obtain⟨rfl,rfl,oF⟩:=hq;rw[q3] at hs;refine hR w' m' _ sts _ _ true h' (.step t cn a m' g rfl rfl (by omega) hy (by assumption) hs) (up c') ⟨⟨_,_,b+1,iN.le Bs.FW,hK.step hs,by omega,by rw[aV,aV]; exact eQ,λoR rW=>?_,λi bY x' W2 E G e3=>?_⟩,by rw[aV,aV]; exact iF⟩ hJ (Bs.mO (i:=0) rfl) hF
     ·rcases cJ rW with h | h
      ·exact cZ (aS oR h)
      ·rw[h,aF,aE];omega
     ·rw[bH] at E G e3;by_cases ei:t - 1=i
      ·rw[if_pos ei,if_pos (by omega)] at E G e3;cases E;cases G;cases e3
       exact⟨q1,rfl,rfl,oF.le Bs.FW⟩
      ·rw[if_neg ei] at E G e3;obtain⟨y1,y2,y3,y4⟩:=hT i bY x' W2 E G e3;exact⟨y1,y2,y3,y4.le ((Bs.jX _ _).trans Bs.FW)⟩
   ·by_cases h1:kd=1
    ·subst h1;refine Kq b0 Z hK (by decide) (by omega) (by omega) T hs hd λw' N' h' c' ok=>?_;have c2:=c.jT c';refine hR w' m ts _ Ws [jR M,jR N'] true h' (.stop t rfl) ((Cx.pack (L:=[_]) (M:=[_,_]) (c2.pick [1,0,2])).pick [1,0]) ⟨⟨K,X,b,ok.le Bs.FW,hK,by omega,eQ,λgs hg=>cZ (aS gs hg),λi bY x' W2 E G e3=>?_⟩,iF⟩ J1 (Bs.mO (i:=0) rfl) ⟨LQ.V6 _,λ_ _=>rfl⟩;obtain⟨y1,y2,y3,y4⟩:=hT i bY x' W2 E G e3;exact⟨y1,y2,y3,y4.le ((Bs.jX _ _).trans Bs.FW)⟩
    ·exact Mx b0 Z hK (by decide) (by omega) (by omega) T hs hd h0 h1 U (stay λe=>absurd e h0)
  ·refine CT b0 Z hK (by decide) (by omega) U (.inl λt' ht e=>⟨tk,q,?_,?_,?_⟩) (stay λ_ t' c a e ht E G=>?_)
   ·rw[show t'=t by omega];exact T
   ·rw[show t'=t by omega];exact hs
   ·by_cases hq:q=true
    ·exact .inl hq
    ·exact .inr (by simpa[hq] using u)
   ·rw[show t'=t by omega] at E G;rw[hy] at E;rw[hs] at G;cases E;cases G
    exact u ⟨rfl,q2⟩
 ·refine CT b0 Z hK (by decide) (by omega) U (.inr hz) (stay λ_ t c a e ht E G=>?_);have:=(aC.1 E).1;omega
end
section
variable {m:Mj} {ts:List CR} {N:Int} {n:Nat} {c who:Int} {W W':Int->W3} {bs lx:List W3} {es:List Et} {e:Et}
def Vn (hs:m.me.hs.length=512):lF m.words=(sh m.me).W:=funext λp=>by
 by_cases h:0<=p
 ·obtain⟨n,rfl⟩:∃n:Nat,p=n:=⟨p.toNat,by omega⟩;rw[Ny];by_cases q:n<512
  ·exact An h (by rw[bQ]; exact Mj.BD (by omega))
  ·unfold lF Me.top Me.at;rw[if_pos h,bQ,aI,bW (by rw[Mj.tq]; omega),aI,bW (by omega)];rfl
 ·unfold lF sh;dsimp only;rw[if_neg h,if_neg h]
def WJ.words (J:WJ m ts N n):m.words.length=512/\(∀w∈m.words,Ww w)/\lF m.words=(sh m.me).W:=by
 have hs:=J.wi.mw.hs;refine⟨Mj.tq.trans hs,λw hw=>?_,Vn hs⟩;obtain⟨i,hi,rfl⟩:=bK.1 hw;rw[Mj.tq,hs] at hi;have:=Mj.BD (m:=m) (i:=i) (by omega);rw[aB (by rw[Mj.tq]; omega)] at this;rw[cU this];exact L0 J.ww J.wi.mw hi
def WI.st0 {m:Me} (I:WI m ts N) (hw:ke who):((sh m).W (jP who)).ref=0:=by
 obtain⟨D,V,O,H,_,_⟩:=I.ex;obtain⟨v,q,J⟩:=H.st who hw;rw[J.eq]
def Xf {w:Nat} (h:0<=jP w):ke w:=by
 unfold jP mR lC at h;unfold ke
 (repeat' split at h) <;> omega
def Fc (h1:∀who,ke who->(W (jP who)).ref=0) (h2:∀who,ke who->(W' (jP who)).ref=0) {w:Nat}:vh W W' w=true↔ke w/\∃q,W (jP w)=⟨0,q,0⟩/\W' (jP w)=⟨1,q,0⟩:=by
 unfold vh;rw[decide_eq_true_eq];constructor
 ·rintro⟨a,b,c,d⟩;have hw:=Xf a;have u:=h1 w hw;have E:=h2 w hw;generalize W (jP w)=x at *;generalize W' (jP w)=y at *;obtain⟨H,G,J⟩:=x;obtain⟨K,M,O⟩:=y;dsimp only at b c d u E;subst b c d u E;exact⟨hw,G,rfl,rfl⟩
 ·rintro⟨hw,q,a,b⟩;have:=kR hw;rw[a,b];exact⟨by omega,rfl,rfl,rfl⟩
def Sr {ws:List W3} (h:∀w∈ws,Ww w) (c:Int):Ww (lF ws c):=by
 unfold lF;split
 ·rw[aI];cases q:ws[c.toNat]? with
  | none=>exact Xy
  | some x=>exact h x (aG q)
 ·exact Xy
inductive PK (bs lx:List W3):Prop where
 | same:(∀w:Nat,1<=w->w<=12->vh (lF bs) (lF lx) w=false)->uC bs=uC lx->PK bs lx
 | swap (uu:Nat) (q:Int) (es:List Et):1<=uu/\uu<=12->vh (lF bs) (lF lx) uu=true->(∀w:Nat,1<=w->w<uu->vh (lF bs) (lF lx) w=false)->GJ (lF lx) uu=some (1,q,es)->Good es->
   (∀e∈es,(uC bs)[e.at'.toNat]?=some ⟨e.old.v,e.old.j8,0⟩)->zQ es (uC bs)=uC lx->PK bs lx
 | one (i:Nat) (x:W3) (v:Int):(∀w:Nat,1<=w->w<=12->vh (lF bs) (lF lx) w=false)->i<512->(∀j,¬j=i->(uC bs)[j]?=(uC lx)[j]?)->(uC bs)[i]?=some x->(uC lx)[i]?=some ⟨v,x.j8+1,0⟩->0<=x.j8+1/\x.j8+1<4294967296->PK bs lx
def Kw (h:(W c).ref=0):ve W c=⟨(W c).v,(W c).j8,0⟩:=by
 unfold ve;dsimp only;rw[h,if_pos (by decide)]
def Nt (q:Ww (W c)):0<=(ve W c).j8/\(ve W c).j8<4294967296:=by
 have:=q.j8;unfold ve;dsimp only
 (repeat' split) <;> dsimp only <;> omega
def Ln {l:List W3} {i:Nat}:(Qj l e)[i]?=if e.wr=true/\e.at'.toNat=i/\i<l.length then some ⟨e.new,(e.old.j8+1) % 4294967296,0⟩ else l[i]?:=by
 unfold Qj;by_cases hw:e.wr=true
 ·rw[if_pos hw,bH];by_cases hi:e.at'.toNat=i
  ·rw[if_pos hi];by_cases q:i<l.length
   ·rw[if_pos (by omega),if_pos ⟨hw,hi,q⟩]
   ·rw[if_neg (by omega),if_neg λh=>q h.2.2,bW (by omega)]
  ·rw[if_neg hi,if_neg λh=>hi h.2.1]
 ·rw[if_neg hw,if_neg λh=>hw h.1]
def Ku {i:Nat}:∀(es:List Et) (l:List W3),i<l.length->(∀e∈es,0<=e.at')->(∀(j k:Nat) (a b:Et),j<k->es[j]?=some a->es[k]?=some b->a.at'<b.at')->
  (zQ es l)[i]?=match qu es i with
   | some e=>if e.wr=true then some ⟨e.new,(e.old.j8+1) % 4294967296,0⟩ else l[i]?
   | none=>l[i]?
 | [],l,_,_,_=>rfl
 | e::r,l,hi,h0,hs=>by
  have q:=Ku r (Qj l e) (by rw[OB]; exact hi) (λx u=>h0 x (aL _ u)) λj k a b E G H=>hs (j+1) (k+1) a b (by omega) G H;show(zQ r (Qj l e))[i]?=_;rw[q];have he:=h0 e aM;by_cases c:e.at'=i
  ·have h1:qu (e::r) i=some e:=cL (p:=λe:Et=>decide (e.at'=(i:Int))) (decide_eq_true c);have h2:qu r i=none:=eC.2 λy J=>by
    obtain⟨k,K,rfl⟩:=bK.1 J;have:=hs 0 (k+1) e _ (by omega) rfl (by rw[cR]; exact aB K);simp only[decide_eq_true_eq];omega
   rw[h1,h2];dsimp only;rw[Ln];by_cases hw:e.wr=true
   ·rw[if_pos ⟨hw,by omega,hi⟩,if_pos hw]
   ·rw[if_neg λh=>hw h.1,if_neg hw]
  ·have h1:qu (e::r) i=qu r i:=bX (p:=λe:Et=>decide (e.at'=(i:Int))) (by simpa using c);have h2:(Qj l e)[i]?=l[i]?:=by rw[Ln,if_neg λh=>c (by omega)]
   rw[h1,h2]
def LQ.dec (hF:LQ (lF bs) (lF lx)) (u:∀p,p<56->lF lx p=lF bs p) (hr:∀p,p<56->(lF bs p).ref=0) (h1:∀who,ke who->(lF bs (jP who)).ref=0) (h2:∀who,ke who->(lF lx (jP who)).ref=0) (O:bs.length=512) (Q:lx.length=512) (T:∀c,Ww (lF bs c)) (U:∀c,Ww (lF lx c)):PK bs lx:=by
 have no:(∀who,ke who->¬∃q,lF bs (jP who)=⟨0,q,0⟩/\lF lx (jP who)=⟨1,q,0⟩)->∀w:Nat,1<=w->w<=12->vh (lF bs) (lF lx) w=false:=λE w _ _=>by
  cases V:vh (lF bs) (lF lx) w with
  | false=>rfl
  | true=>
   obtain⟨a,b⟩:=(Fc h1 h2).1 V;exact absurd b (E _ a)
 have out:∀{f:Int->W3} (i:Nat),i<512->(∀c,56<=c->c<62->f c=ve (lF lx) c)->(∀c,c<56->f c=ve (lF bs) c)->(if oG i=true then ve (lF lx) i else W0)=if oG i=true then f i else W0:=λ{f} i hi X hl=>by
  by_cases hm:oG i=true
  ·rw[if_pos hm,if_pos hm];by_cases h:(i:Int)<56
   ·rw[hl i h,Kw (by rw[u i h]; exact hr i h),Kw (hr i h),u i h]
   ·have:=of_decide_eq_true hm;rw[X i (by omega) (by omega)]
  ·rw[if_neg hm,if_neg hm]
 have ext:∀{K M:List W3},K.length=512->M.length=512->(∀i:Nat,i<512->K[i]?=M[i]?)->K=M:=λ{K M} e1 e2 h=>gK λi=>by
  by_cases hi:i<512
  ·exact h i hi
  ·rw[bW (by omega),bW (by omega)]
 have G:(uC bs).length=512:=rT.trans O;have H:(uC lx).length=512:=rT.trans Q;cases hF with
 | same a b=>
  refine .same (no a) (ext G H λi hi=>?_);rw[tS (by omega),tS (by omega),out (f:=ve (lF bs)) i hi (λc x y=>(b c x y).symm) λc _=>rfl]
 | swap who q es hw a b hu g Z ho E=>
  obtain⟨w,rfl,aS⟩:∃w:Nat,who=w/\(1<=w/\w<=12):=⟨who.toNat,by unfold ke at hw; omega,by unfold ke at hw; omega⟩;have hd:vh (lF bs) (lF lx) w=true:=(Fc h1 h2).2 ⟨hw,q,a,b⟩;refine .swap w q es aS hd (λw' _ bY=>?_) Z g (λe he=>?_) (ext (GG.trans G) H λi hi=>?_)
  ·cases V:vh (lF bs) (lF lx) w' with
   | false=>rfl
   | true=>
    obtain⟨x,y⟩:=(Fc h1 h2).1 V;have:=hu _ x y;omega
  ·have hp:=g.pl e he;have hm:=g.may he;rw[tS (by omega),if_pos (by rw[fW (by omega)]; exact hm),fW (by omega),ho e he]
  ·rw[Ku es _ (by omega) (λe he=>by have:=g.pl e he; omega) g.Gm,tS (by omega),tS (by omega),out (f:=tw es (ve (lF bs))) i hi (λc x y=>(E c x y).symm) λc X=>?_]
   ·unfold tw;cases hx:qu es i with
    | none=>rfl
    | some e=>
     obtain⟨he,J⟩:=tL hx;have hm:=g.may he;have hv:=g.j8 e he;rw[J] at hm;dsimp only;rw[if_pos hm,if_pos hm];by_cases hw:e.wr=true
     ·rw[if_pos hw,if_pos hw,gJ (by omega) (by omega)]
     ·rw[if_neg hw,if_neg hw]
   ·unfold tw;cases hx:qu es c with
    | none=>rfl
    | some e=>
     obtain⟨he,J⟩:=tL hx;have:=g.pl e he;omega
 | one c0 v a b E h3 h4=>
  obtain⟨i,rfl⟩:∃i:Nat,c0=i:=⟨c0.toNat,by omega⟩;have hm:oG i=true:=decide_eq_true (.inl ⟨a,b⟩);have hv:=Nt (W:=lF lx) (c:=i) (U _);have dO:=Nt (W:=lF bs) (c:=i) (T _);rw[h3] at hv;dsimp only at hv;refine .one i (ve (lF bs) i) v (no E) (by omega) (λj hj=>?_) (by rw[tS (by omega),if_pos hm]) (by rw[tS (by omega),if_pos hm,h3]) hv;by_cases aT:j<512
  ·rw[tS (by omega),tS (by omega),out (f:=λc=>if c=i then ve (lF lx) c else ve (lF bs) c) j aT (λc x y=>?_) λc X=>?_]
   ·rw[if_neg (show ¬(j:Int)=i by omega)]
   ·by_cases e:c=i
    ·rw[if_pos e]
    ·rw[if_neg e,h4 c x y e]
   ·rw[if_neg (show ¬c=(i:Int) by omega)]
  ·rw[bW (by omega),bW (by omega)]
end
section
variable {va vb vw vn:Value} {bs lx:List W3}
def Qo (T:B.p h) (U:On B Zs) (V:On B λh=>Sl EW h vb bs) (X:On B λh=>Sl EW h va lx) (hw:On B λh=>Sl EW h vw (uC bs)) (hv:On B λh=>Sl EW h vn (uC lx)) (E:bs.length=512) (G:lx.length=512) (hW:∀w∈lx,Ww w) (D:PK bs lx)
  (Z:∀b u es h',(b=true->es.length<=1000/\(∀e∈es,(0<=e.at'/\e.at'<512)/\∃x,(uC bs)[e.at'.toNat]?=some x/\x.v=e.old.v/\x.j8=e.old.j8)/\zQ es (uC bs)=uC lx)->Cx (λ_=>False) h h' [kz EE (jY u) es]->R (.tuple #[jY u,.bool b]) h'):mu.1 vL vb va vw vn h R:=by
 have l1:(uC bs).length=512:=rT.trans E;have l2:(uC lx).length=512:=rT.trans G;cases D with
 | same h1 h2=>
  exact Hj T U V X hw hv E G l1 l2 h1 (λi x y u h' J K ne _=>absurd (cU (J.symm.trans ((congrArg (·[i]?) h2).trans K))) ne) λh' _ g=>Z false (none,0,0) [] h' (λe=>by cases e) (((Cx.jQ h).more g).nil EE)
 | swap uu q es h1 h2 H O g Q h6=>
  refine ON T U V X E G hW h1 h2 H O λu h' c=>Z true u es h' (λ_=>⟨by have:=g.len; omega,λe he=>⟨by have:=g.pl e he; omega,_,Q e he,rfl,rfl⟩,h6⟩) c
 | one i x v h1 hi h2 H O Q=>
  refine Hj T U V X hw hv E G l1 l2 h1 (λj x' y u h' J K ne c=>?_) λh' e g=>?_
  ·have hj:j=i:=bC λe=>ne (cU (J.symm.trans ((h2 j e).trans K)));subst hj;rw[H] at J;rw[O] at K;cases J;cases K
   refine Z true u [(⟨(j:Int),x,v,true⟩:Et)] h' (λ_=>⟨show 1<=1000 from by decide,λe he=>?_,gK λk=>?_⟩) c
   ·rw[aN.1 he];exact⟨⟨by dsimp only; omega,by dsimp only; omega⟩,_,H,rfl,rfl⟩
   ·show(Qj (uC bs) (⟨(j:Int),x,v,true⟩:Et))[k]?=_;rw[Ln];by_cases e:k=j
    ·subst e;rw[if_pos ⟨rfl,bQ _,by omega⟩,O];dsimp only;rw[gJ Q.1 Q.2]
    ·rw[if_neg λz=>e (by have:=z.2.1; dsimp only at this; omega)];exact h2 k e
  ·exfalso;rw[e,O] at H;have:=congrArg W3.j8 (cU H);dsimp only at this;omega
end
def Yt.one {W:km} {v:Value} {d:Option Cd} (H:Yt B W v d):v.oneCell'=true:=by
 cases d with
 | none=>rw[H.1];rfl
 | some d=>exact BQ.one H
section
variable {w:WV} {m:Mj} {ts:List CR} {sts:List Bool} {n k:Nat} {Ws M:List km} {N kd z ch:Int} {uw:SH}
def C8 (hZ:On B Zs) (c:Cx F h h [jR [jR M,jR Ws]]) (Q:∀h',Ch F h h'->B.p h') (H:GW (B.and M) Ws w m ts sts n) (J:WJ m ts N k) (hu:On (B.and M) λh=>Sl EW h (jY uw) (uC m.words)) (tO:¬kd=2) (hN:N+1<1000000) (hk:k<=800000) (hn:n<=800000)
  (hR:∀w' m' u E q M' u' h',QR kd z m ts sts m' u E->Cx F h h' [jR [jR M',jR q]]->GW (B.and M') q w' m' u E (n+1)->WJ m' u (N+1) (k+1)->(On (B.and M') λh=>Sl EW h (jY u') (uC m'.words))->(B.and M).le (B.and M')->LQ (sh m.me).W (sh m'.me).W->R (.tuple #[xT w',jY u',.bool true]) h'):nK.1 (xT w) (jY uw) (Wg kd z ch) h R:=by
 have fin:=hR;replace c:Cx _ _ _ [_]:=c;refine c.v9 λdO _ c=>c.v3 λeQ _ c=>c.v9 λiF _ c=>?_;refine wE λ_ g=>have c:=c.more g;c.v3 λiN _ c=>?_;refine c.w3 4 λ_ c=>?_;refine c.rl 1 ?_;refine c.rl 2 ?_;obtain⟨F',d',hF,up⟩:=c.sB (i:=0) rfl;refine lK.2 (Ux hZ (Cx.unpack (L:=[]) d') (λuS ch=>Q uS (hF _ ch)) H J tO hN (by omega) hn λw' m' u E q M' bb _ hp dd H' J' hle G=>?_);have c:=up (M:=[]) (Cx.pack (L:=[]) (M:=[_,_]) dd);obtain⟨⟨tks,gss,b,hO,hK,hb,htl,hgl,hT⟩,hwl⟩:=id H;obtain⟨⟨K,gss',b',Z,hK',hb',htl',hgl',hT'⟩,hwl'⟩:=id H';obtain⟨aS,ww1,T⟩:=J.words;obtain⟨U,aT,bY⟩:=J'.words;obtain⟨G,hlo⟩:=G;have D:PK m.words m'.words:=LQ.dec (by rw[T,bY]; exact G) (by rw[T,bY]; exact hlo) (by rw[T]; exact J.wi.lo) (by rw[T]; exact λwho hw=>J.wi.st0 hw) (by rw[bY]; exact λwho hw=>J'.wi.st0 hw) aS U (Sr ww1) (Sr aT);replace c:=c.n5;refine vx rfl<|vx rfl<|c.v9 λX _ c=>?_;refine c.w9 5 λ_ c=>?_;refine jS<|vx (c.vp (i:=5) (ds:=[_,_,_,_,_,_,_]) rfl rfl rfl) ?_;have O:(B.and M').p _:=Bs.mO (i:=0) rfl _ ⟨Q _ c.gr,c.get (i:=0) rfl⟩;refine lU.2 (D1 (v:=w'.m) O Z.ko hK' (by omega) λu1 _ d=>?_);have c:=c.jT d;replace c:=c.n7;refine c.rl 4 ?_;refine mJ.2 (LB (B:=Bs.of _) (Ch.refl _ _) (λh' g=>(hZ _ (Q _ c.gr)).gr g) (λh' g=>(c.sl (i:=6) rfl).sl.gr g) U aT λg1 _ d=>?_);have c:=c.jT d;replace c:=c.n8;refine c.rl 4 ?_;refine jS<|vx (c.vp (i:=1) (ds:=[_,_,_,_,_,_,_]) rfl rfl rfl) ?_;have O:(B.and M').p _:=Bs.mO (i:=0) rfl _ ⟨Q _ c.gr,c.get (i:=0) rfl⟩;refine lU.2 (D1 (v:=w.m) (hle _ O) hO.ko hK (by omega) λu2 _ d=>?_);have c:=c.jT d;replace c:=c.n9;refine c.al 4 ?_;have O:(B.and M').p _:=Bs.mO (i:=0) rfl _ ⟨Q _ c.gr,c.get (i:=0) rfl⟩;refine mu.2 (Qo (B:=Bs.of _) (Ch.refl _ _) (λh' g=>(hZ _ (Q _ c.gr)).gr g) (λh' g=>(c.sl (i:=8) rfl).sl.gr g) (λh' g=>(c.sl (i:=6) rfl).sl.gr g) (λh' g=>(hu _ (hle _ O)).gr g) (λh' g=>(c.sl (i:=7) rfl).sl.gr g) aS U aT D λbd ue es _ hd d=>?_);have c:=c.jT d;replace c:=c.Ut;refine vx rfl<|vx rfl<|sV.at (λv h'=>v=.bool false/\Cx F h h' [jR [jR M',jR q],rV dO (Nq w),rV eQ [.int .i64 kd,.int .i64 z,.int .i64 ch],rV iF B2.toList,rV iN [.int .i64 3,.int .i64 6,.int .i64 4],rV X (Nq w'),kz EW (jY u1) m'.words,kz EW (jY g1) (uC m'.words),kz EW (jY u2) m.words,kz EE (jY ue) es]) ?_ ?_
 ·refine En.br (λiS=>?_) λiS=>?_
  ·obtain⟨d1,d2,d3⟩:=hd iS;have O:(B.and M').p _:=Bs.mO (i:=0) rfl _ ⟨Q _ c.gr,c.get (i:=0) rfl⟩;refine oD.2 (Ug (B:=Bs.of _) (Ch.refl _ _) (λh' g=>(hu _ (hle _ O)).gr g) (λh' g=>(c.sl (i:=9) rfl).sl.gr g) d1 (λe he=>⟨(d2 e he).1.1,(d2 e he).2⟩) λ_ g=>?_);have c:=c.more g;refine vx (v:=.bool false) (rfl)<|j7 ?_;have O:(B.and M').p _:=Bs.mO (i:=0) rfl _ ⟨Q _ c.gr,c.get (i:=0) rfl⟩;have hl1:(uC m.words).length=512:=rT.trans aS;refine rz.2 (Uq (B:=Bs.of _) (Ch.refl _ _) (λh' g=>(hu _ (hle _ O)).gr g) (λh' g=>(c.sl (i:=9) rfl).sl.gr g) d1 (by omega) (λe he=>by rw[hl1]; exact(d2 e he).1) λus _ d=>?_);rw[d3] at d;have c:=c.jT d;replace c:=c.WE;refine rq.2 (Xc (B:=Bs.of _) (ws:=uC m'.words) (Ch.refl _ _) (λh' g=>(c.sl (i:=10) rfl).sl.gr g) (λh' g=>(c.sl (i:=7) rfl).sl.gr g) (by rw[rT,U]; decide) λ_ g=>?_);have c:=c.more g;exact vx (v:=.bool false) rfl<|⟨rfl,c.pick [0,1,2,3,4,5,6,7,8,9]⟩
  ·exact⟨rfl,c.pick [0,1,2,3,4,5,6,7,8,9]⟩
 ·rintro _ h14' ⟨rfl,c⟩;replace c:=c.Ut;refine j7<|jS<|c.rc 5 ?_;have O:(B.and M').p _:=Bs.mO (i:=0) rfl _ ⟨Q _ c.gr,c.get (i:=0) rfl⟩;refine vx (Z.ts _ O).ln<|sO.by (λ(i:Nat) v h'=>v=.int .i64 i/\i<=K.length/\Cx F h h' [jR [jR M',jR q],rV dO (Nq w),rV eQ [.int .i64 kd,.int .i64 z,.int .i64 ch],rV iF B2.toList,rV iN [.int .i64 3,.int .i64 6,.int .i64 4],rV X (Nq w'),kz EW (jY u1) m'.words,kz EW (jY g1) (uC m'.words),kz EW (jY u2) m.words,kz EE (jY ue) es]) (λi=>K.length - i) 0 ⟨rfl,aO _,c⟩ ?_;clear O;rintro i _ h16' ⟨rfl,hi,c⟩ again V;have O:(B.and M').p _:=Bs.mO (i:=0) rfl _ ⟨Q _ c.gr,c.get (i:=0) rfl⟩;have hln:=J'.wi.len;refine vx j9<|lV (λe65=>?_) λe65=>?_
  ·have hx:=aB (l:=K) (i:=i) (by omega);have hy:=aB (l:=u) (i:=i) (by omega);have hw:=aB (l:=q) (i:=i) (by omega);generalize K[i]'(by omega)=tk at hx;generalize u[i]'(by omega)=x at hy;generalize q[i]'(by omega)=W at hw;obtain⟨q1,q2,q3,y,q4,q5,q6⟩:=hT' _ _ _ _ hx hy hw;have oF:=q5.br.trans (J'.wi.ok hy);have oR:=q6.one;obtain⟨tt,tv,td,ta,rW⟩:=tk;dsimp only at q1 q2 q3 q4;subst q1 q4;refine(Z.ts _ O).whole rfl hx rfl ?_;refine c.v11 λ_ _ c=>?_;refine c.vw 10 rfl (vs:=SZ ⟨89,AN y,td,ta,rW⟩) rfl (cG.2 λx hx=>JA.one ⟨89,AN y,td,ta,rW⟩ x hx) rfl rfl λ_ c=>have c:=c.WE;c.rl 10 ?_;refine pb.2 (Oj (x:=y) (λ_ g=>?_) oR);have c:=c.more g;obtain⟨x1t,x1q,x1d,x1o,x1s,x1n,x1e,x1dn,x1sm,x1b⟩:=y;dsimp only at oF oR;subst oF;refine vx rfl<|vx rfl<|c.K9 λ_ _ c=>?_;refine c.Tf 11 λ_ c=>?_;refine .here<|vx (v:=.bool false) (rfl)<|j7<|jS<|c.rc 11 ?_;exact j7<|vx (inc (by omega))<|V (i+1) _ _ ⟨rfl,by omega,c.pick [0,1,2,3,4,5,6,7,8,9]⟩ (by omega)
  ·refine c.rl 5 ?_;refine c.w9 3 λ_ c=>?_;refine c.rl 3 ?_;have c:=Cx.unpack (L:=[_]) (c.pick [7,0]);have c:=Cx.pack (L:=[_]) (M:=[jR M',kz EW (jY g1) (uC m'.words)]) (c.pick [2,1,0]);have c:=Cx.pack (L:=[]) (M:=[_,_]) (c.pick [1,0]);have l1:(B.and M').le (B.and [jR M',kz EW (jY g1) (uC m'.words)]):=Bs.mO (i:=0) rfl;exact fin w' m' u E q _ g1 _ hp c (H'.le l1) J' (On.sl (i:=1) rfl) (hle.trans l1) G
end
def EPi:pT (Int × Int × Int):={n:=3,c:=λx=>[.int .i64 x.1,.int .i64 x.2.1,.int .i64 x.2.2],len:=λ_=>rfl,one:=λa v h=>by simp only[aU,bF,or_false] at h; rcases h with rfl | rfl | rfl <;> rfl}
def Ts (B:Bs) (X:Mj->List CR->Prop) (F:Fp) (h h':Hp) (q E G:Nat) (on:Bool) (ch:Int) (T n:Nat) (u:Value) (m:Mj) (ts:List CR) (sts:List Bool):Prop:=
 ∃(w:WV) (Ws M:List km) (uw:SH) (st:Int),u=jY uw/\Cx F h h' [jR [jR M,jR Ws],rV q [.bool on,.int .i64 ch,.int .i64 st],rV E (Nq w),rV G B2.toList]/\GW (B.and M) Ws w m ts sts n/\WJ m ts (1000+n) n/\(On (B.and M) λh=>Sl EW h (jY uw) (uC m.words))/\X m ts/\ts.length=T
def BN (ts:List CR) (sts:List Bool) (t:Nat):Bool:=match ts[t - 1]?,sts[t - 1]? with
 | some x,some q=>!x.2.2&&!q
 | _,_=>false
def EB {ts:List CR} {sts:List Bool} {t:Nat} {x:CR} {q:Bool} (h1:ts[t - 1]?=some x) (h2:sts[t - 1]?=some q):BN ts sts t=(!x.2.2&&!q):=by
 unfold BN;rw[h1,h2]
section
variable {w:WV} {m m':Mj} {ts ts':List CR} {sts sts':List Bool} {n k k2 t:Nat} {Ws M:List km} {N kd z ch:Int} {uw:SH} {X:Mj->List CR->Prop} {q:Nat} {on:Bool} {vp:Value} {picks:List (Int × Int × Int)} {st:Int}
def QR.len (h:QR kd z m ts sts m' ts' sts'):ts'.length=ts.length:=by
 cases h with
 | stay _=>rfl
 | stop t _=>rfl
 | step t c a m' g _ _ _ _ _ _=>rw[aV]
def QR.run (J:WJ m ts N k) (Z:N+1<1000000) (h:QR 0 t m ts sts m' ts' sts') (T:1<=t) (E:BN ts sts t=true) (H:∃c a,ts[t - 1]?=some (c,a,false)/\AW m.me c a k2) :
  BN ts' sts' t=false\/∃c a k',k'<k2/\ts'[t - 1]?=some (c,a,false)/\AW m'.me c a k':=by
 obtain⟨c,a,u,H⟩:=H;have K:=(aC.1 u).1;have hs:sts[t - 1]?=some false:=by
  cases hs:sts[t - 1]? with
  | none=>unfold BN at E;rw[u,hs] at E;cases E
  | some q=>
   rw[EB u hs] at E;cases q with
   | false=>rfl
   | true=>cases E
 cases h with
 | stay h=>exact(h rfl t c a rfl T u hs).elim
 | stop U h=>cases h
 | step U c' a' m' g _ e _ G _ O=>
  obtain rfl:t=U:=by omega
  rw[u] at G;cases G
  have Q:(ts.set (t - 1) (ll c g))[t - 1]?=some (ll c g):=by rw[bH,if_pos rfl,if_pos K]
  cases V:ll c g with
  | mk c2 r=>
   obtain⟨a2,d⟩:=r;rw[V] at Q;cases d with
   | true=>left;rw[EB Q hs];rfl
   | false=>
    obtain⟨k',h1,h2⟩:=J.wi.TM Z T u O V H;exact .inr ⟨c2,a2,k',h1,Q,h2⟩
def N7 (X:Mj->List CR->Prop) (q:Nat) (on:Bool) (ch:Int):Prop:=
 ∀(B:Bs) (h:Hp) (F:Fp) (R:Value->Hp->Prop) (w:WV) (m:Mj) (ts:List CR) (sts:List Bool) (Ws:List km) (n k:Nat) (N st:Int) (uw:SH),
  Cx F h h [rV q [.bool on,.int .i64 ch,.int .i64 st]]->(∀h',Ch F h h'->B.p h')->On B Zs->GW B Ws w m ts sts n->n<=800000->WJ m ts N k->X m ts->(On B λh=>Sl EW h (jY uw) (uC m.words))->
  (∀u h',Cx F h h' [rV q [.bool on,.int .i64 ch,.int .i64 u]]->R (.bool true) h')->m5.1 (kC q) (xT w) (jY uw) h R
def Cx.aa0 {A:km} (c:Cx F h0 h (L++[A,jR [jR M,jR Ws]])):Cx F h0 h (L++[jR [jR [jR M,A],jR Ws]]):=by
 have c:Cx F h0 h ((L++[A])++[jR [jR M,jR Ws]]):=by rw[cY];exact c
 have c:=Cx.unpack c;have c:Cx F h0 h ((L++[jR Ws])++[jR M,A]):=c.perm (by
  rw[cY,cY];refine fO L ?_;show List.Perm [A,jR M,jR Ws] [jR Ws,jR M,A];exact(List.reverse_perm [jR Ws,jR M,A]))
 have c:=Cx.pack c;have c:Cx F h0 h (L++[jR [jR M,A],jR Ws]):=c.perm (by
  rw[cY];refine fO L ?_;exact jF _ _ _)
 exact Cx.pack c
def Ss (hZ:On B Zs) {T:Nat} (c:Cx F h h [jR [jR M,jR Ws],rV q [.bool on,.int .i64 ch,.int .i64 st]]) (hB:∀h',Ch F h h'->B.p h') (H:GW (B.and M) Ws w m ts sts 0) (J:WJ m ts 1000 0) (G:X m ts) (K:ts.length=T) (hp:On B λh=>Sl EPi h vp picks) (hpl:picks.length<=400)
  (hX:∀{m ts sts m' ts' sts' N k kd z},WJ m ts N k->N+1<1000000->k<=1000000->X m ts->QR kd z m ts sts m' ts' sts'->X m' ts') (hst:N7 X q on ch)
  (hR:∀w' m' ts' sts' V M' n' h',Cx F h h' [jR [jR M',jR V]]->GW (B.and M') V w' m' ts' sts' n'->n'<=800000->WJ m' ts' (1000+n') n'->X m' ts'->R (.tuple #[xT w',.bool true]) h'):rD.1 (xT w) vp (kC q) h R:=by
 have hT3:T<=3:=K▸J.wi.len;replace c:Cx _ _ _ [_,_]:=c;refine c.v9 λaS _ c=>c.v9 λaT _ c=>?_;refine jS<|vx (c.vp (i:=2) (ds:=[_,_,_,_,_,_,_]) rfl rfl rfl)<|wE λ_ g=>have c:=c.more g;aQ (c.vp (i:=2) (ds:=[_,_,_,_,_,_,_]) rfl rfl rfl) ?_;obtain⟨⟨iF,gss,b,hO,hK,hb,iN,iS,bY⟩,oF⟩:=id H;obtain⟨wl1,ww1,wW1⟩:=J.words;have bM:(B.and M).p _:=Bs.mO (i:=0) rfl _ ⟨hB _ c.gr,c.get (i:=0) rfl⟩;refine lU.2 (D1 (v:=w.m) bM hO.ko hK (by omega) λu1 _ d=>?_);have c:=c.jT d;replace c:=c.n5;refine mJ.2 (LB (B:=Bs.of _) (Ch.refl _ _) (λh' g=>(hZ _ (hB _ c.gr)).gr g) (λh' g=>(c.sl (i:=4) rfl).sl.gr g) wl1 ww1 λg1 _ d=>?_);have c:=c.jT d;replace c:=c.n6;refine vx (hp _ (hB _ c.gr)).ln<|z5.by (λ(i:Nat) u v h'=>v=.int .i64 i/\i<=picks.length/\∃n m ts sts,n<=i/\Ts B X F h h' q aS aT on ch T n u m ts sts) (λi=>picks.length - i) 0 ⟨rfl,aO _,0,m,ts,sts,aP _,w,Ws,_,g1,st,rfl,(Cx.aa0 (L:=[_,_,_]) (c.pick [1,2,3,5,0])).pick [3,0,1,2],H.le (Bs.mO (i:=0) rfl),J,On.sl (i:=1) rfl,G,K⟩ ?_;clear H J G K c oF bY iS iN hb hK hO wW1 ww1 wl1;rintro i _ _ h6' ⟨rfl,hi,n,m,ts,sts,hn,w,Ws,M,uw,st,rfl,c,H,J,hu,G,K⟩ again U;refine vx j9<|lV (λe22=>?_) λe22=>?_
 ·refine sV.at (λu h'=>∃n m ts sts,n<=i+1/\Ts B X F h h' q aS aT on ch T n u m ts sts) ?_ ?_
  ·have hxp:=aB (l:=picks) (i:=i) (by omega);generalize picks[i]'(by omega)=p at hxp;obtain⟨pk,pt,pc⟩:=p;refine(hp _ (hB _ c.gr)).whole rfl hxp rfl ?_;refine c.v3 λ_ _ c=>?_;refine c.w3 4 λ_ c=>?_;refine jS<|c.rc 4 ?_;refine vx kU<|lV (λe27=>?_) λe27=>?_
   ·first | exact⟨_,_,_,_,by omega,_,_,_,_,_,rfl,c.pick [0,1,2,3],H',J',O,Q,dO⟩| exact⟨_,_,_,_,by omega,_,_,_,_,_,rfl,c.pick [0,1,2,3],H,J,hu,G,K⟩
   ·refine c.rl 2 ?_;refine c.rl 4 ?_;obtain⟨F',d',hF,up⟩:=c.sB (i:=0) rfl;refine nK.2 (C8 (kd:=pk) (z:=pt) hZ d' (λoR ch=>hB oR (hF _ ch)) H J hu e27 (by omega) (by omega) (by omega) λw' m' ts' sts' V M' u' _ Z dd H' J' O hle _=>?_);have c:=up (M:=[]) dd;have Q:=hX J (by omega) (by omega) G Z;have dO:=Z.len.trans K;have J':WJ m' ts' (1000+((n+1:Nat):Int)) (n+1):=by rw[show(1000:Int)+((n+1:Nat):Int)=1000+(n:Int)+1 by omega];exact J'
    replace c:=c.n5;refine vx rfl<|vx rfl<|vx rfl<|c.w9 2 λ_ c=>?_;refine .here<|vx (v:=.bool false) (rfl)<|j7<|c.rl 2 ?_;obtain⟨F2,d2,rW,tO⟩:=c.FM hB (i:=1) (j:=0) rfl rfl (by decide);refine m5.2 (hst _ _ _ _ w' m' ts' sts' V _ _ _ _ u' d2 rW (hZ.le (Bs.jX _ _)) (H'.le (Bs.mO (i:=0) rfl)) (by omega) J' Q (λh b=>O h (Bs.mO (i:=0) rfl h b)) λst' _ dd=>?_);have c:=tO (M':=[]) dd;replace c:=c.n5;refine vx (v:=.bool false) (rfl)<|j7 ?_;first | exact⟨_,_,_,_,by omega,_,_,_,_,_,rfl,c.pick [0,1,2,3],H',J',O,Q,dO⟩| exact⟨_,_,_,_,by omega,_,_,_,_,_,rfl,c.pick [0,1,2,3],H,J,hu,G,K⟩
  ·rintro _ h7' ⟨n,m,ts,sts,hn,w,Ws,M,uw,st,rfl,c,H,J,hu,G,K⟩;replace c:=c.n4;exact vx (inc (by omega))<|U (i+1) _ _ _ ⟨rfl,by omega,n,m,ts,sts,hn,w,Ws,M,uw,st,rfl,c,H,J,hu,G,K⟩ (by omega)
 ·refine z5.by (λ(t:Nat) u v h'=>v=.int .i64 t/\1<=t/\t<=T+1/\∃n m ts sts,n<=picks.length+(t - 1)*8001/\Ts B X F h h' q aS aT on ch T n u m ts sts) (λt=>T+1 - t) 1 ⟨rfl,aP _,by omega,n,m,ts,sts,by omega,w,Ws,M,uw,st,rfl,c,H,J,hu,G,K⟩ ?_;clear H J G K c hu U hn;rintro t _ _ h15' ⟨rfl,ht1,ht,n,m,ts,sts,hn,w,Ws,M,uw,st,rfl,c,H,J,hu,G,K⟩ again1 eQ;refine jS<|c.rc 2 ?_;obtain⟨⟨iF,gss,b,hO,hK,hb,iN,iS,bY⟩,oF⟩:=id H;have bM:(B.and M).p _:=Bs.mO (i:=0) rfl _ ⟨hB _ c.gr,c.get (i:=0) rfl⟩;refine vx (hO.ts _ bM).ln<|vx zn<|lV (λe51=>?_) λe51=>?_
  ·have hA0:BN ts sts t=true->∃c a,ts[t - 1]?=some (c,a,false)/\AW m.me c a 8000:=λhl=>by
    have hy:=aB (l:=ts) (i:=t - 1) (by omega);generalize ts[t - 1]'(by omega)=x at hy;obtain⟨c,a,d⟩:=x;cases d with
    | false=>exact⟨c,a,hy,J.wi.aw ht1 hy⟩
    | true=>
     unfold BN at hl;rw[hy] at hl;cases hs:sts[t - 1]? with
     | none=>rw[hs] at hl;cases hl
     | some q=>rw[hs] at hl;cases hl
   refine z5.by (λ(j:Nat × Nat) u v h'=>v=.int .i64 j.1/\j.1+j.2<=8001/\∃n m ts sts,n<=picks.length+(t - 1)*8001+j.1/\(BN ts sts t=true->∃c a k,k<j.2/\ts[t - 1]?=some (c,a,false)/\AW m.me c a k)/\Ts B X F h h' q aS aT on ch T n u m ts sts) (λj=>j.2) (0,8001) ⟨rfl,aP _,n,m,ts,sts,hn,(λhl=>let⟨c,a,x,y⟩:=hA0 hl; ⟨c,a,8000,by decide,x,y⟩),w,Ws,M,uw,st,rfl,c,H,J,hu,G,K⟩ ?_;have htT:t<=T:=by omega
   clear H J G K c hu hn bM hO hK hb iN iS bY oF hA0 e51;rintro⟨j,k⟩ _ _ h16' ⟨rfl,hjk,n,m,ts,sts,hn,hA,w,Ws,M,uw,st,rfl,c,H,J,hu,G,K⟩ again2 E;dsimp only at hjk hn hA E;obtain⟨⟨iF,gss,b,hO,hK,hb,iN,iS,bY⟩,oF⟩:=id H;have bM:(B.and M).p _:=Bs.mO (i:=0) rfl _ ⟨hB _ c.gr,c.get (i:=0) rfl⟩;have hsl:=hO.sl;have uS:=aB (l:=iF) (i:=t - 1) (by omega);have hx2:=aB (l:=ts) (i:=t - 1) (by omega);have hx3:=aB (l:=sts) (i:=t - 1) (by omega);have hx4:=aB (l:=Ws) (i:=t - 1) (by omega);generalize iF[t - 1]'(by omega)=tk at uS;generalize ts[t - 1]'(by omega)=x at hx2;generalize sts[t - 1]'(by omega)=sq at hx3;generalize Ws[t - 1]'(by omega)=W at hx4;obtain⟨q1,q2,q3,q4⟩:=bY _ _ _ _ uS hx2 hx4;have hlv:=EB hx2 hx3;rw[<-q2] at hlv;have et:((t:Nat):Int) - 1=((t - 1:Nat):Int):=by omega
   refine sV.at (λv h'=>v=.bool (BN ts sts t)/\Cx F h h' [jR [jR M,jR Ws],rV q [.bool on,.int .i64 ch,.int .i64 st],rV aS (Nq w),rV aT B2.toList]) ?_ ?_
   ·refine jS<|c.rc 2 ?_;refine vx (nu ⟨by omega,by omega⟩) ?_;rw[et];refine(hO.ts _ bM).whole rfl uS rfl ?_;refine zm (x:=tk) λ_ g=>have c:=c.more g;vx (v:=.bool (!tk.dn)) rfl<|En.br (λe61=>?_) λe61=>?_
    ·refine jS<|c.rc 2 ?_;refine vx (nu ⟨by omega,by omega⟩) ?_;rw[et];have bM:(B.and M).p _:=Bs.mO (i:=0) rfl _ ⟨hB _ c.gr,c.get (i:=0) rfl⟩;refine(hO.st _ bM).one rfl hx3 rfl (u:=.bool sq) rfl ?_;exact vx (v:=.bool (!sq)) rfl<|⟨by rw[hlv,e61]; first | rfl | (cases sq <;> rfl),c⟩
    ·exact⟨by rw[hlv,e61]; first | rfl | (cases sq <;> rfl),c⟩
   ·clear bM;rintro _ h17' ⟨rfl,c⟩;replace c:=c.n4;refine En.br (λe70=>?_) λe70=>?_
    ·refine c.rl 2 ?_;refine vx (jU (ds:=[_,_,_]) rfl) ?_;obtain⟨F',d',hF,up⟩:=c.sB (i:=0) rfl;obtain⟨cA,aA,kA,hk1,hk2,hk3⟩:=hA e70;refine nK.2 (C8 (kd:=0) (z:=(t:Int)) hZ d' (λoR ch=>hB oR (hF _ ch)) H J hu (by decide) (by omega) (by omega) (by omega) λw' m' ts' sts' V M' u' _ Z dd H' J' O hle _=>?_);have c:=up (M:=[]) dd;have Q:=hX J (by omega) (by omega) G Z;have dO:=Z.len.trans K;have hrun:=Z.run J (by omega) ht1 e70 ⟨cA,aA,hk2,hk3⟩;have J':WJ m' ts' (1000+((n+1:Nat):Int)) (n+1):=by rw[show(1000:Int)+((n+1:Nat):Int)=1000+(n:Int)+1 by omega];exact J'
     replace c:=c.n4;refine vx rfl<|vx rfl<|vx rfl<|c.w9 2 λ_ c=>?_;refine .here<|vx (v:=.bool false) (rfl)<|j7<|c.rl 2 ?_;obtain⟨F2,d2,rW,tO⟩:=c.FM hB (i:=1) (j:=0) rfl rfl (by decide);refine m5.2 (hst _ _ _ _ w' m' ts' sts' V _ _ _ _ u' d2 rW (hZ.le (Bs.jX _ _)) (H'.le (Bs.mO (i:=0) rfl)) (by omega) J' Q (λh b=>O h (Bs.mO (i:=0) rfl h b)) λst' _ dd=>?_);have c:=tO (M':=[]) dd;replace c:=c.n4;refine vx (v:=.bool false) (rfl)<|j7<|vx (pW (show ¬(20000:Int)<(j:Int) by omega))<|j7<|vx (inc (by omega)) ?_;rcases hrun with hr | ⟨c2,a2,k',r1,r2,r3⟩
     ·exact E (j+1,0) _ _ _ ⟨rfl,by dsimp only; omega,_,_,_,_,by dsimp only; omega,(λhl=>by rw[hr] at hl; cases hl),_,_,_,_,_,rfl,c.pick [0,1,2,3],H',J',O,Q,dO⟩ (by dsimp only; omega)
     ·exact E (j+1,k'+1) _ _ _ ⟨rfl,by dsimp only; omega,_,_,_,_,by dsimp only; omega,(λ_=>⟨c2,a2,k',iM _,r2,r3⟩),_,_,_,_,_,rfl,c.pick [0,1,2,3],H',J',O,Q,dO⟩ (by dsimp only; omega)
    ·exact vx (inc (by omega))<|eQ (t+1) _ _ _ ⟨rfl,by omega,by omega,n,m,ts,sts,by omega,w,Ws,M,uw,st,rfl,c,H,J,hu,G,K⟩ (by omega)
  ·refine c.rl 2 ?_;refine c.w9 3 λ_ c=>?_;refine c.rl 3 ?_;exact hR w m ts sts Ws M n _ (c.pick [0]) H (by omega) J G
end
section
variable {us:List SH} {opss:List (List ng)} {w:WV} {Ws:List km} {tks:List Tk} {ws:List W3} {du:Bool}
def GW.start (E:RX (qC du opss) B (zC du us) tks Ws) (G:Ef B 3 w (Mj.new 3 ws) tks (List.replicate us.length []) (List.replicate us.length false)) (X:tks.length=us.length) (hw:Ws.length=us.length) (Z:us.length=opss.length) (K:ws.length=512) :
  GW B Ws w (Mj.new 3 ws) (opss.mapIdx λi ops=>ll (DT du i ops) qa) (List.replicate us.length false) 0:=by
 refine⟨⟨tks,_,1,G,by have:=Ce.new (T:=3) (ws:=ws) (by decide) (by omega); rwa [K] at this,aP _,by rw[dB]; omega,λgs O=>by rw[fY O]; exact aP _,λi tk x W Q H U=>?_⟩,by rw[dB]; omega⟩;obtain⟨a,cc,q,q2,⟨ops,V,p2,J,p4⟩,q4,q5⟩:=E i tk W Q U;rw[cT,V] at H;simp only[cB,aD] at H;subst H;refine⟨?_,J,by rw[q4,J,p2],p4⟩;unfold zC at q;rw[cT] at q;cases hu:us[i]? with
 | none=>rw[hu] at q;cases q
 | some u=>rw[hu] at q;simp only[cB,aD] at q;rw[q2,<-q]
end
def Tz:Nat->CR->(Nat->W3)->Option (Nat->W3)
 | 0,r,M=>if r.2.2 then some M else none
 | k+1,r,M=>if r.2.2 then some M else Tz k (ll r.1 (exec M r.2.1).2) (exec M r.2.1).1
def Bw.exs {m:Mj} {a:Ac} {M:Nat->W3} (H:SV m M) (q:oY a):∃m' g,Bw m 1 a m' g:=by
 obtain⟨op,p,o,n⟩:=a;rcases q.ok with e | ⟨e,h1,h2⟩
 ·obtain rfl:op=8:=e;exact⟨_,_,.sync ..⟩
 ·dsimp only at e h1 h2;obtain⟨i,rfl⟩:∃i:Nat,p=i:=⟨p.toNat,by omega⟩;have hi:i<m.me.hs.length:=by rw[H.hs];omega
  have u:=H.ne i (by omega);rcases e with rfl | rfl | rfl | rfl | rfl | rfl
  ·exact⟨_,_,.load i _ _ o n hi (aB (i:=(m.me.at i).length - 1) (by omega)) (by rw[H.vw i (by omega)]; exact bA _)⟩
  ·exact⟨_,_,.put i o n false hi⟩
  ·exact⟨_,_,.put i o n true hi⟩
  ·exact⟨_,_,.look i o n hi⟩
  ·exact⟨_,_,.swap i o n hi⟩
  ·exact⟨_,_,.flush i o n hi⟩
def GQ {M':Nat->W3}:∀{k:Nat} {r:CR} {M:Nat->W3} {m:Mj} {N:Int} {n:Nat},WJ m [r] N n->SV m M->N+k<1000000->n+k<=1000000->Tz k r M=some M'->Ends (λ_ M=>M=M') k r M
 | k,(c,a,true),M,m,N,n,J,H,u,B,h=>by
  refine .done ?_;cases k with
  | zero=>exact cU h
  | succ k=>exact cU h
 | 0,(c,a,false),M,m,N,n,J,H,u,B,h=>by cases h
 | k+1,(c,a,false),M,m,N,n,J,H,u,B,h=>by
  obtain⟨q,_,hs⟩:=J.step (t:=1) (c:=c) (a:=a) (by omega) (by omega) (aP 1) rfl;obtain⟨m',g,st⟩:=Bw.exs H q;obtain⟨E,F⟩:=H.step st q;obtain⟨G,_,K,_⟩:=hs m' g st;subst E;exact .step q G (GQ K F (by omega) (by omega) h)
def PE:((Tz 200 (ll (DT false 0 Qe) qa) (xN [5,0] 2)).map λM=>(M 56,M 57))=some (⟨4,1,0⟩,⟨1,1,0⟩):=by kernel_rfl
def Ends.Vw {post u:Cn->(Nat->W3)->Prop} {k k':Nat} {r:CR} {M:Nat->W3} (h:Ends post k r M) (B:∀c M,post c M->u c M) (H:k<=k'):Ends u k' r M:=by
 induction h generalizing k' with
 | done h=>exact .done (B _ _ h)
 | step E F _ G=>
  obtain⟨q,rfl⟩:∃q,k'=q+1:=⟨k' - 1,by omega⟩;exact .step E F (G (by omega))
def Em:UB (DT false 0 Qe) qa/\Ends (λ_ M=>M 56=⟨4,1,0⟩/\M 57=⟨1,1,0⟩) 500 (ll (DT false 0 Qe) qa) (xN [5,0] 2)/\∀i,Ww (xN [5,0] 2 i):=by
 obtain⟨_,w1,_⟩:=MI.start (first:=[5,0]) (i:=2) (by decide) (by decide);have q:∀o∈Qe,Hk o:=λo ho=>by
  unfold Qe at ho;rw[aN] at ho;subst ho;exact⟨(by decide:1<256),(by decide:2<=9223372036854775807),λp B=>by
   have B:p∈Yd:=B;unfold Yd at B;simp only[aU,bF,or_false] at B;rcases B with rfl | rfl <;> exact⟨by decide,by decide,by decide⟩⟩
 have F:FU (xN [5,0] 2) ((List.range 512).map (xN [5,0] 2)):=⟨by rw[bE,dV],λi hi=>by rw[bU,fD hi]; rfl⟩;have G:=WJ.start (du:=false) (opss:=[Qe]) F (by decide) (by decide) (by decide) λops h=>by
  rw[aN] at h;subst h;exact⟨by decide,q⟩
 have H:=SV.new F w1;have u:=PE;cases E:Tz 200 (ll (DT false 0 Qe) qa) (xN [5,0] 2) with
 | none=>rw[E] at u;cases u
 | some M'=>
  rw[E] at u;have u:=cU u;exact⟨QH (by decide) (by decide) q,(GQ G H (by decide) (by decide) E).Vw (λ_ M e=>by subst e; exact⟨congrArg Prod.fst u,congrArg Prod.snd u⟩) (by decide),w1⟩
end Go.En
namespace Go.En
open Go.Deep Go.ChangeShapes Go.WideShapes Go.ChangeAt Go.RowKit
section
variable {H:Type} {enc:TypeId × Value->H} {P:Program} {W:World}
def VZ {α:Type} {E:pT α} {Q:α->Prop} {t e:TypeId} {f:Nat} {cs:List Value} {y:DataW H × List MemPlace} (ht:P.underlying t=some (.slice e)) (Z:P.cellsOf e=E.n) (F:0<E.n)
  (M:∀n cs y,DataW.trod enc P W 0 (λ_=>true) true n e cs=some y->∃x,cs=E.c x/\Q x)
  (h:DataW.trod enc P W 0 (λ_=>true) true f t cs=some y):∃u:SH,cs=[jY u]/\∃xs,Sl E W.heap (jY u) xs/\xs.length<=maxLen/\∀x∈xs,Q x:=by
 obtain⟨d,p⟩:=y;rcases open_slice ht h with ⟨q,_⟩| ⟨a,len,cap,m,n,D,Pl,q,_,hl,aS,hm,_,hi⟩
 ·exact⟨(none,0,0),q,[],.nil,aO _,λx G=>by simp at G⟩
 ·refine⟨(some a,len,cap),q,?_⟩;simp only[if_true] at hm;subst hm;have G:∀i,i<len->∃x,(∀j u,(E.c x)[j]?=some u->W.cell? (a.add (i*E.n+j))=some u)/\Q x:=by
   intro i O;obtain⟨aT,R,T⟩:=hi i (by omega);obtain⟨x,rfl,hq⟩:=M _ _ _ T;obtain⟨_,bY,U⟩:=World.cells?_some R;refine⟨x,λj u hu=>?_,hq⟩;have hj:j<P.cellsOf e:=by rw[Z];have:=(aC.mp hu).1;rwa [E.len] at this
   have:=U j hj;rw[hu,Z,Go.Deep.add_add] at this;exact this
  obtain⟨xs,hlen,B⟩:=BF len G;refine⟨xs,⟨some a,m,by rw[hlen],by omega,λe=>by simp at e,λi x J=>?_⟩,by rw[hlen]; omega,λx G=>?_⟩
  ·have R:=(B i x J).1;have O:=(aC.mp J).1;have K:a.spot=none:=by
    have h0:0<xs.length:=by omega
    have V:=(B 0 xs[0] (by simp)).1;have X:0<(E.c xs[0]).length:=by rw[E.len];exact F
    have:=World.cell?_spot (V 0 _ (aB X));simpa[Addr.add] using this
   obtain⟨b,off,spot⟩:=a;simp only at K;subst K;refine⟨b,off,rfl,λj u hu=>?_⟩;have:=R j u hu;rw[Bu,zc,vK] at this;rw[fQ];exact this
  ·obtain⟨i,hi,rfl⟩:=bK.mp G;exact(B i _ (aB hi)).2
def wf_u8 {z:Int} (h:(Lit.int .u8 z).wf=true):0<=z/\z<=255:=by
 have h1:IntKind.u8.min=0:=rfl;have h2:IntKind.u8.max=255:=rfl;simp only[Lit.wf,bO,decide_eq_true_eq] at h;exact⟨by omega,by omega⟩
def wf_i8 {z:Int} (h:(Lit.int .i8 z).wf=true) : -128<=z/\z<=127:=by
 have h1:IntKind.i8.min = -128:=rfl;have h2:IntKind.i8.max=127:=rfl;simp only[Lit.wf,bO,decide_eq_true_eq] at h;exact⟨by omega,by omega⟩
def Zt {e:TypeId} (hs:Yf P e [some .u8,some .i8,none]=true):∀n cs y,DataW.trod enc P W 0 (λ_=>true) true n e cs=some y->∃x:Pt,cs=xx.c x/\(x.cell<256/\-128<=x.more/\x.more<=127):=by
 intro n cs y h;obtain⟨hlen,u⟩:=Kn hs n cs y h;match cs,hlen with
 | [K,M,c2],_=>
  obtain⟨q,B,w0⟩:=u 0 _ rfl;obtain⟨G,E,w1⟩:=u 1 _ rfl;obtain⟨J,F⟩:=u 2 _ rfl;simp only[aX,cR,aD] at B E F;have w0:=wf_u8 w0;have w1:=wf_i8 w1;refine⟨⟨q.toNat,G,J⟩,?_,by show q.toNat<256; omega,w1⟩;rw[B,E,F];show _=[Value.int .u8 (q.toNat:Int),_,_];rw[show(q.toNat:Int)=q by omega]
def YF {e e':TypeId} {f0 f1:Field} (hu:P.underlying e=some (.struct #[f0,f1])) (K:P.cellsOf e=2) (M:f0.offset=0) (O:P.cellsOf f0.type=1) (Q:P.underlying f0.type=some (.int .u8)) (R:f1.offset=1) (T:P.cellsOf f1.type=1) (U:P.underlying f1.type=some (.slice e')) (V:P.cellsOf e'=3) (hs:Yf P e' [some .u8,some .i8,none]=true) :
  ∀n cs y,DataW.trod enc P W 0 (λ_=>true) true n e cs=some y->∃x:Int × SH,cs=IU.c x/\((0<=x.1/\x.1<=255)/\∃ps:List Pt,Sl xx W.heap (jY x.2) ps/\ps.length<=maxLen/\∀p∈ps,p.cell<256/\-128<=p.more/\p.more<=127):=by
 intro n cs y h;obtain⟨xs,m,_,_,hlen,q,B⟩:=DataW.trod_struct hu h;rw[K] at hlen;match cs,hlen with
 | [a,b],_=>
  have t0:=B 0 f0 (by simp);have t1:=B 1 f1 (by simp);have F:xs[0]?=some (xs[0]'(by rw[q]; simp)):=aB _;have G:xs[1]?=some (xs[1]'(by rw[q]; simp)):=aB _;rw[M,O,F] at t0;rw[R,T,G] at t1;obtain⟨z,X,_,w⟩:=DataW.trod_int Q t0;obtain⟨u,Z,ps,J,hl,hq⟩:=VZ (E:=xx) U V (by decide) (Zt hs) t1;have q1:a=Value.int .u8 z:=(cK (show [a]=[Value.int .u8 z] from X)).1;have q2:b=jY u:=(cK (show [b]=[jY u] from Z)).1;rw[q1,q2];exact⟨(z,u),rfl,wf_u8 w,ps,J,hl,hq⟩
def Uz (P:Program) (e e':TypeId):Bool:=
 Nat.beq (P.cellsOf e) 2&&(Nat.beq (P.cellsOf e') 3&&(Yf P e' [some .u8,some .i8,none]&&(match P.underlying e with
  | some (.struct ⟨[f0,f1]⟩)=>Nat.beq f0.offset 0&&(Nat.beq (P.cellsOf f0.type) 1&&(Nat.beq f1.offset 1&&(Nat.beq (P.cellsOf f1.type) 1&&((match P.underlying f0.type with
   | some (.int .u8)=>true
   | _=>false)&&(match P.underlying f1.type with
   | some (.slice x)=>Nat.beq x e'
   | _=>false)))))
  | _=>false)))
def Yx {e e':TypeId} (h:Uz P e e'=true) :
  ∀n cs y,DataW.trod enc P W 0 (λ_=>true) true n e cs=some y->∃x:Int × SH,cs=IU.c x/\((0<=x.1/\x.1<=255)/\∃ps:List Pt,Sl xx W.heap (jY x.2) ps/\ps.length<=maxLen/\∀p∈ps,p.cell<256/\-128<=p.more/\p.more<=127):=by
 unfold Uz at h;simp only[bO,jK] at h;obtain⟨h1,h2,E,q⟩:=h;split at q
 ·rename_i f0 f1 hu;simp only[bO,jK] at q;obtain⟨F,G,J,K,B,u⟩:=q;split at B
  ·rename_i w0;split at u
   ·rename_i x w1;simp only[jK] at u;subst u;exact YF hu h1 F G w0 J K w1 h2 E
   ·cases u
  ·cases B
 ·cases q
def Vx {a b:SH} (h:jY a=jY b):a=b:=by
 obtain⟨u,B,E⟩:=a;obtain⟨F,G,J⟩:=b;injection h with h1 h2 q;dsimp only at h1 h2 q;rw[h1,h2,q]
def Xn {h:Hp} {v:Value} {us:List (Int × SH)} (hs:Sl IU h v us) (E:∀x∈us,(0<=x.1/\x.1<=255)/\∃ps:List Pt,Sl xx h (jY x.2) ps/\ps.length<=maxLen/\∀p∈ps,p.cell<256/\-128<=p.more/\p.more<=127) :
  ∃u ops,v=jY u/\sT (Bs.of h) u ops/\ops.length=us.length/\∀o∈ops,Hk o:=by
 obtain⟨ops,q,ho⟩:=BF (α:=ng) (Q:=λi o=>∃x,us[i]?=some x/\x.1=o.d/\Sl xx h (jY x.2) o.ps/\Hk o) us.length λi hi=>by
  obtain⟨⟨h1,h2⟩,ps,B,q,F⟩:=E us[i] (dM hi);exact⟨⟨us[i].1.toNat,ps⟩,us[i],aB hi,by show us[i].1=(us[i].1.toNat:Int); omega,B,by show us[i].1.toNat<256; omega,q,F⟩
 obtain⟨u,rfl⟩:∃u:SH,v=jY u:=by
  obtain⟨a,cap,e,_⟩:=hs;exact⟨(a,_,cap),e⟩
 refine⟨u,ops,rfl,⟨us,λh' g=>hs.gr g,q.symm,λi a o h1 h2=>?_⟩,q,λo hm=>?_⟩
 ·obtain⟨x,e,G,J,_⟩:=ho i o h2;rw[h1] at e;injection e with e;subst e;exact⟨G,λh' g=>J.gr g⟩
 ·obtain⟨i,hi,rfl⟩:=bK.1 hm;obtain⟨_,_,_,_,K⟩:=ho i _ (aB hi);exact K
theorem el_mm {t e e':TypeId} (q:P.underlying t=some (.slice e)) (h:Uz P e e'=true) :
  ∀n cs y,DataW.trod enc P W 0 (λ_=>true) true n t cs=some y->∃x:SH,cs=EH1.c x/\∃us:List (Int × SH),Sl IU W.heap (jY x) us/\us.length<=maxLen/\∀x∈us,(0<=x.1/\x.1<=255)/\∃ps:List Pt,Sl xx W.heap (jY x.2) ps/\ps.length<=maxLen/\∀p∈ps,p.cell<256/\-128<=p.more/\p.more<=127:=by
 intro n cs y B;have h1:=h;unfold Uz at h1;simp only[bO,jK] at h1;obtain⟨u,F,us,G,J,K⟩:=VZ (E:=IU) q h1.1 (by decide) (Yx h) B;exact⟨u,F,us,G,J,K⟩
def UK {h:Hp} {us:List SH} (q:∀x∈us,∃l:List (Int × SH),Sl IU h (jY x) l/\l.length<=maxLen/\∀x∈l,(0<=x.1/\x.1<=255)/\∃ps:List Pt,Sl xx h (jY x.2) ps/\ps.length<=maxLen/\∀p∈ps,p.cell<256/\-128<=p.more/\p.more<=127) :
  ∃opss:List (List ng),us.length=opss.length/\(∀(i:Nat) u ops,us[i]?=some u->opss[i]?=some ops->sT (Bs.of h) u ops)/\∀ops∈opss,∀o∈ops,Hk o:=by
 obtain⟨opss,B,ho⟩:=BF (α:=List ng) (Q:=λi ops=>∃u,us[i]?=some u/\sT (Bs.of h) u ops/\∀o∈ops,Hk o) us.length λi hi=>by
  obtain⟨l,h1,_,E⟩:=q us[i] (dM hi);obtain⟨u,ops,e,a,_,b⟩:=Xn h1 E;obtain⟨F,G,J⟩:SH:=us[i];refine⟨ops,us[i],aB hi,?_,b⟩;rw[show us[i]=u from Vx e];exact a
 refine⟨opss,B.symm,λi u ops h1 h2=>?_,λops hm=>?_⟩
 ·obtain⟨K,e,a,_⟩:=ho i ops h2;rw[h1] at e;cases e
  exact a
 ·obtain⟨i,hi,rfl⟩:=bK.1 hm;obtain⟨_,_,_,b⟩:=ho i _ (aB hi);exact b
theorem el_pi {e:TypeId} (hs:Yf P e [some .i64,some .i64,some .i64]=true) :
  ∀n cs y,DataW.trod enc P W 0 (λ_=>true) true n e cs=some y->∃x:Int × Int × Int,cs=EPi.c x/\True:=by
 intro n cs y h;obtain⟨hlen,q⟩:=Kn hs n cs y h;match cs,hlen with
 | [K,M,c2],_=>
  obtain⟨F,u,w0⟩:=q 0 _ rfl;obtain⟨G,B,w1⟩:=q 1 _ rfl;obtain⟨J,E,w2⟩:=q 2 _ rfl;simp only[aX,cR,aD] at u B E;refine⟨(F,G,J),?_,trivial⟩;rw[u,B,E];rfl
theorem sl_len {α:Type} {E:pT α} {t e:TypeId} {v:Value} {d:DataW H} {p:List MemPlace} {base:Nat} {xs:List α} (u:P.underlying t=some (.slice e))
  (hv:Value.okWide P W .any base t v) (h:DataW.Trod enc P W 0 (λ_=>true) true t v d p) (hs:Sl E W.heap v xs):xs.length<=maxLen:=by
 obtain⟨M,B,F,rfl⟩:=okWide_slice u hv;obtain⟨_,_,e,_⟩:=hs;injection e with _ e _;subst e;obtain⟨G,J⟩:=h;rcases open_slice u J with ⟨q,_⟩| ⟨a,len,cap,m,n,D,O,q,_,Q,K,_⟩
 ·simp[Value.cells] at q;rw[q.2.1];exact aO _
 ·simp[Value.cells] at q;obtain⟨_,rfl,rfl⟩:=q;omega
end
end Go.En
namespace Go.En
abbrev Lj.at (l:Lj) (n:Nat):List Dv × Int:=l.lg.getD n ([],0)
def Ca (l:Lj) (p i:Nat):W3:=((l.at (i / 8)).1.take p).foldl (λx s=>if s.1=(i:Int) then s.2 else x) ((l.fst[i]?).getD W0)
def kA (l:Lj) (t n:Nat):Int:=max (l.at n).2 ((l.lx t n).getD (l.at n).2)
structure FY (m:Mj):Prop where
 lg:m.li.lg.length=64
 hs:m.me.hs.length=512
 kept:∀n,0<=(m.li.at n).2/\(m.li.at n).2<=(m.li.at n).1.length
 lx:∀t n q,m.li.lx t n=some q->0<=n/\n<64/\0<=q/\q<=(m.li.at n.toNat).1.length
 top:∀i,i<512->Ca m.li (m.li.at (i / 8)).1.length i=(m.me.top i).w
 loc:∀n,∀s∈(m.li.at n).1,(∃i:Nat,s.1=i/\i / 8=n/\i<512)/\Ww s.2
 wf:∀i:Nat,Ww ((m.li.fst[i]?).getD W0)
structure Im where
 C:(Int->W3)->Vg->Prop
 L:Int->(Int->W3)->Prop
def No (s:Sh) (C:Int->W3):Prop:=∀c,56<=c->c<62->C c=s.W c
def ZB (s:Sh) (who:Int) (L:Int->W3):Prop:=∀k,0<=k->k<8->L k=s.W (jP who+k)
def V5 (k:Nat->Int) (l:Lj) (Vs:Nat->Vg):Im where
 C:=λC V=>∃p:Nat,k 7<=p/\p<=(l.at 7).1.length/\(∀c:Nat,56<=c->c<62->C c=Ca l p c)/\V=Vs p
 L:=λwho L=>∃p:Nat,k (jP who / 8).toNat<=p/\p<=(l.at (jP who / 8).toNat).1.length/\∀j:Nat,j<8->L j=Ca l p ((jP who).toNat+j)
def Pm (l:Lj) (Vs:Nat->Vg):Im:=V5 (λn=>(l.at n).2) l Vs
def Tb (l:Lj) (Vs:Nat->Vg) (t:Nat):Im:=V5 (kA l t) l Vs
structure FX (s':Sh) (V':Vg) (M N:Im):Prop where
 c:∀C V,M.C C V->N.C C V\/(No s' C/\V=V')
 l:∀who L,ke who->M.L who L->N.L who L\/ZB s' who L
structure JM where
 N:Im
 A:Nat->Im
structure Ei (t:Nat) (a:Ac) (s':Sh) (V':Vg) (x y:JM):Prop where
 n:FX s' V' y.N x.N
 ev:∀u,FX s' V' (y.A u) (x.A u)
 fc:a.op=7->56<=a.at'->a.at'<64->∀C V,(y.A t).C C V->No s' C
 fl:a.op=7->∀who,ke who->a.at'=jP who->∀L,(y.A t).L who L->ZB s' who L
 sc:a.op=8->∀C V,y.N.C C V->(x.A t).C C V
 sl:a.op=8->∀who L,y.N.L who L->(x.A t).L who L
 la:∃V C,No s' C/\y.N.C C V
section
variable {m m':Mj} {t i j n p q:Nat} {w:W3} {l:Lj} {a:Ac} {g:lA} {V':Vg} {Vs:Nat->Vg} {who:Int} {k k':Nat->Int}
def EY (h:i / 8<l.lg.length):(l.kq i w).at n=if n=i / 8 then((l.at n).1++[((i:Int),w)],(l.at n).2) else l.at n:=by
 unfold Lj.kq Lj.at;dsimp only;rw[aI,bH];by_cases e:i / 8=n
 ·subst e;rw[if_pos rfl,if_pos h,if_pos rfl];rfl
 ·rw[if_neg e,if_neg (λx=>e x.symm),<-aI]
def DR (h:i / 8<l.lg.length):((l.kq i w).at n).1.length=(l.at n).1.length+if n=i / 8 then 1 else 0:=by
 rw[EY h];split
 ·rw[aF];rfl
 ·rfl
def QV (h:i / 8<l.lg.length):((l.kq i w).at n).2=(l.at n).2:=by
 rw[EY h];split <;> rfl
def QI (h:i / 8<l.lg.length) (u:j / 8=i / 8->p<=(l.at (i / 8)).1.length):Ca (l.kq i w) p j=Ca l p j:=by
 unfold Ca;rw[EY h];by_cases e:j / 8=i / 8
 ·rw[if_pos e];dsimp only;rw[List.take_append_of_le_length (by rw[e]; exact u e)];rfl
 ·rw[if_neg e];rfl
def Un (h:i / 8<l.lg.length) (e:j / 8=i / 8):Ca (l.kq i w) ((l.at (i / 8)).1.length+1) j=if j=i then w else Ca l (l.at (i / 8)).1.length j:=by
 unfold Ca;rw[EY h,if_pos e];dsimp only;rw[aW (by rw[aF,e]; exact aP _),aW (by rw[e]; exact aP _),fR];show(if (i:Int)=j then w else _)=_;by_cases h2:j=i
 ·rw[if_pos h2,if_pos (by omega)]
 ·rw[if_neg h2,if_neg (by omega)];rfl
def FY.kq {B:Me} (H:FY m) (hw:Ww w) (hi:i<512) (hs:B.hs.length=512) (F:∀j,j<512->(B.top j).w=if j=i then w else(m.me.top j).w):FY ⟨B,m.li.kq i w⟩:=by
 have h8:i / 8<m.li.lg.length:=by rw[H.lg];omega
 refine⟨by show(m.li.lg.set _ _).length=64; rw[aV]; exact H.lg,hs,λn=>?_,λt n q h=>?_,λj E=>?_,λn x u=>?_,H.wf⟩
 ·have:=H.kept n;show 0<=((m.li.kq i w).at n).2/\((m.li.kq i w).at n).2<=(((m.li.kq i w).at n).1.length:Int);rw[QV h8,DR h8];omega
 ·have:=H.lx t n q h;show 0<=n/\n<64/\0<=q/\q<=(((m.li.kq i w).at n.toNat).1.length:Int);rw[DR h8];omega
 ·show Ca (m.li.kq i w) ((m.li.kq i w).at (j / 8)).1.length j=(B.top j).w;rw[DR h8,F j E];by_cases e:j / 8=i / 8
  ·rw[if_pos e,e,Un h8 e];have:=H.top j E;rw[e] at this;rw[this]
  ·rw[if_neg e,dG,QI h8 (λx=>absurd x e),H.top j E,if_neg (λx=>e (by rw[x]))]
 ·have u:x∈((m.li.kq i w).at n).1:=u;rw[EY h8] at u;split at u
  ·rename_i e;rcases bB.1 u with u | u
   ·exact H.loc n x u
   ·rw[aN.1 u];exact⟨⟨i,rfl,e.symm,hi⟩,hw⟩
  ·exact H.loc n x u
def YY (hw:ke who):∃n:Nat,jP who=8*n/\(jP who / 8).toNat=n/\(jP who).toNat=8*n/\8<=n/\n<64/\¬n=47:=by
 have:=kR hw;exact⟨(jP who / 8).toNat,by omega,rfl,by omega,by omega,by omega,by omega⟩
def FX.grow {h:Nat->Vg} {u:Lj} (G:FY m') (e':m'.li=u) (hlen:∀n,(u.at n).1.length=(l.at n).1.length\/(u.at n).1.length=(l.at n).1.length+1)
  (E:∀j p,p<=(l.at (j / 8)).1.length->Ca u p j=Ca l p j) (M:∀p,p<=(l.at 7).1.length->h p=Vs p) (F:(u.at 7).1.length=(l.at 7).1.length+1->h ((l.at 7).1.length+1)=V')
  (kk:∀n,n<64->k n<=k' n):FX (sh m'.me) V' (V5 k' u h) (V5 k l Vs):=by
 subst e';refine⟨λC V O=>?_,λwho L hw Q=>?_⟩
 ·obtain⟨p,h1,h2,B,H⟩:=O;have:=kk 7 (by decide);by_cases e:p<=(l.at 7).1.length
  ·refine .inl ⟨p,by omega,e,λc a b=>?_,by rw[H,M p e]⟩;rw[B c a b,E c p (by rw[show c / 8=7 by omega]; exact e)]
  ·right;rcases hlen 7 with y | y
   ·omega
   ·obtain rfl:p=(l.at 7).1.length+1:=by omega
    refine⟨λc a b=>?_,by rw[H,F y]⟩;obtain⟨i,rfl⟩:∃i:Nat,c=i:=⟨c.toNat,by omega⟩;rw[B i (by omega) (by omega),Ny,<-G.top i (by omega),show i / 8=7 by omega,y]
 ·obtain⟨p,h1,h2,B⟩:=Q;obtain⟨n,R,J,K,X,T,_⟩:=YY hw;rw[J] at h1 h2;rw[K] at B;have:=kk n T;by_cases e:p<=(l.at n).1.length
  ·left;show ∃p:Nat,_;rw[J,K];refine⟨p,by omega,e,λj U=>?_⟩;rw[B j U,E _ p (by rw[show(8*n+j) / 8=n by omega]; exact e)]
  ·right;rcases hlen n with y | y
   ·omega
   ·obtain rfl:p=(l.at n).1.length+1:=by omega
    intro z a b;obtain⟨j,rfl⟩:∃j:Nat,z=j:=⟨z.toNat,by omega⟩;rw[B j (by omega),R,show(8*(n:Int)+j)=((8*n+j:Nat):Int) by omega,Ny,<-G.top _ (by omega),show(8*n+j) / 8=n by omega,y]
def Sv (h:n<l.lg.length):(l.sS t).at n=((l.at n).1,kA l t n):=by
 have e:l.at n=l.lg[n]:=by
  unfold Lj.at;rw[aI,aB h];rfl
 unfold kA;rw[e];unfold Lj.sS Lj.at;dsimp only;rw[aI,cT,aB h];rfl
def NW (h:¬n<l.lg.length):(l.sS t).at n=([],0):=by
 unfold Lj.sS Lj.at;dsimp only;rw[aI,bW (by rw[dB]; omega)];rfl
def MU (h:¬n<l.lg.length):l.at n=([],0):=by
 unfold Lj.at;rw[aI,bW (by omega)];rfl
def Kg (H:FY m):(m.li.at n).2<=kA m.li t n/\kA m.li t n<=((m.li.at n).1.length:Int):=by
 have h1:=H.kept n;unfold kA;cases h:m.li.lx t n with
 | none=>dsimp only[Option.getD];omega
 | some q=>
  have:=H.lx t n q h;rw[bQ] at this;dsimp only[Option.getD];omega
def Ei.same (H:FY m) (E:FY m') (h1:∀n,(m'.li.at n).1=(m.li.at n).1) (h2:m'.li.fst=m.li.fst) (hs:∀j,j<512->(m'.me.top j).w=(m.me.top j).w) (Q:∀n,n<64->(m.li.at n).2<=(m'.li.at n).2) (R:∀u n,n<64->kA m.li u n<=kA m'.li u n)
  (f:a.op=7->∃i:Nat,a.at'=i/\kA m'.li t (i / 8)=((m.li.at (i / 8)).1.length:Int)) (y:a.op=8->∀n,n<64->(m'.li.at n).2=kA m.li t n) (V':Vg) :
  Ei t a (sh m'.me) V' ⟨Pm m.li Vs,Tb m.li Vs⟩ ⟨Pm m'.li Vs,Tb m'.li Vs⟩:=by
 have hi:∀p j,Ca m'.li p j=Ca m.li p j:=λp j=>by unfold Ca;rw[h1,h2]
 have g:∀{k k':Nat->Int},(∀n,n<64->k n<=k' n)->FX (sh m'.me) V' (V5 k' m'.li Vs) (V5 k m.li Vs):=λkk=>
  .grow E rfl (λn=>.inl (by rw[h1])) (λj p _=>hi p j) (λ_ _=>rfl) (λx=>by rw[h1] at x; omega) kk
 refine⟨g Q,λu=>g (R u),λG a1 a2 C V J=>?_,λG who hw hp L K=>?_,λh8 C V J=>?_,λh8 who L K=>?_,?_⟩
 ·obtain⟨i,T,M⟩:=f G;obtain⟨p,h,p2,B,_⟩:=J;have O:i / 8=7:=by omega
  rw[O] at M;rw[h1] at p2;have h:kA m'.li t 7<=p:=h;obtain rfl:p=(m.li.at 7).1.length:=by omega
  intro c F c2;obtain⟨j,rfl⟩:∃i:Nat,c=i:=⟨c.toNat,by omega⟩;rw[B j (by omega) (by omega),Ny,<-E.top j (by omega),show j / 8=7 by omega,h1]
 ·obtain⟨i,T,M⟩:=f G;obtain⟨p,h,p2,B⟩:=K;obtain⟨n,U,X,Z,x4,x5,_⟩:=YY hw;rw[X] at h p2;rw[Z] at B;have O:i / 8=n:=by omega
  rw[O] at M;rw[h1] at p2;obtain rfl:p=(m.li.at n).1.length:=by omega
  intro z F c2;obtain⟨j,rfl⟩:∃i:Nat,z=i:=⟨z.toNat,by omega⟩;rw[B j (by omega),U,show(8*(n:Int)+j)=((8*n+j:Nat):Int) by omega,Ny,<-E.top _ (by omega),show(8*n+j) / 8=n by omega,h1]
 ·obtain⟨p,h,p2,B,p4⟩:=J;exact⟨p,by rw[<-y h8 7 (by decide)]; exact h,by rw[<-h1]; exact p2,λc F c2=>by rw[B c F c2,hi],p4⟩
 ·obtain⟨p,h,p2,B⟩:=K;refine⟨p,?_,by rw[<-h1]; exact p2,λj hj=>by rw[B j hj,hi]⟩;by_cases e:(jP who / 8).toNat<64
  ·rw[<-y h8 _ e];exact h
  ·have:=Kg (t:=t) (n:=(jP who / 8).toNat) H;rw[MU (by rw[H.lg]; exact e)] at this;have t2:kA m.li t (jP who / 8).toNat<=0:=this.2;omega
 ·refine⟨Vs (m.li.at 7).1.length,λc=>Ca m'.li (m.li.at 7).1.length c.toNat,λc F c2=>?_,(m.li.at 7).1.length,?_,by rw[h1]; exact aP _,λc _ _=>rfl,rfl⟩
  ·obtain⟨j,rfl⟩:∃i:Nat,c=i:=⟨c.toNat,by omega⟩;dsimp only;rw[bQ,Ny,<-E.top j (by omega),show j / 8=7 by omega,h1]
  ·have:=(E.kept 7).2;rw[h1] at this;exact this
def Ei.put {B:Me} (H:FY m) (hw:Ww w) (hi:i<512) (hs:B.hs.length=512) (M:∀j,j<512->(B.top j).w=if j=i then w else(m.me.top j).w) (J:¬a.op=7) (h8:¬a.op=8) (V':Vg) :
  ∃E,Ei t a (sh B) V' ⟨Pm m.li Vs,Tb m.li Vs⟩ ⟨Pm (m.li.kq i w) E,Tb (m.li.kq i w) E⟩:=by
 have G:=H.kq hw hi hs M;have F:i / 8<m.li.lg.length:=by rw[H.lg];omega
 have g:∀{k k':Nat->Int},(∀n,n<64->k n<=k' n)->FX (sh B) V' (V5 k' (m.li.kq i w) λp=>if p=(m.li.at 7).1.length+1 then V' else Vs p) (V5 k m.li Vs):=λkk=>
  .grow (m':=⟨B,m.li.kq i w⟩) G rfl (λn=>by rw[DR F]; split <;> omega) (λj p K=>QI F λe=>by rw[<-e]; exact K) (λp K=>if_neg (by omega)) (λ_=>if_pos rfl) kk
 refine⟨λp=>if p=(m.li.at 7).1.length+1 then V' else Vs p,g (k:=λn=>(m.li.at n).2) (k':=λn=>((m.li.kq i w).at n).2) λn _=>?_,λu=>g (k:=kA m.li u) (k':=kA (m.li.kq i w) u) λn _=>?_,λh=>absurd h J,λh=>absurd h J,λh=>absurd h h8,λh=>absurd h h8,?_⟩
 ·rw[QV F];exact bA _
 ·unfold kA;rw[QV F];exact bA _
 ·refine⟨_,λc=>Ca (m.li.kq i w) ((m.li.kq i w).at 7).1.length c.toNat,λc O c2=>?_,((m.li.kq i w).at 7).1.length,(G.kept 7).2,aP _,λc _ _=>rfl,rfl⟩;obtain⟨j,rfl⟩:∃i:Nat,c=i:=⟨c.toNat,by omega⟩;dsimp only;have:=G.top j (by omega);rw[show j / 8=7 by omega] at this;rw[bQ,Ny];exact this
def Bw.im (H:FY m) (M:oY a) (h:Bw m t a m' g) (V':Vg):FY m'/\∃E,Ei t a (sh m'.me) V' ⟨Pm m.li Vs,Tb m.li Vs⟩ ⟨Pm m'.li E,Tb m'.li E⟩:=by
 have rd:∀{B:Me} {a:Ac},¬a.op=7->¬a.op=8->B.hs.length=512->(∀j,(B.top j).w=(m.me.top j).w)->FY ⟨B,m.li⟩/\∃E,Ei t a (sh B) V' ⟨Pm m.li Vs,Tb m.li Vs⟩ ⟨Pm m.li E,Tb m.li E⟩:=λ{B a} Q h8 hs O=>by
  have F:FY ⟨B,m.li⟩:=⟨H.lg,hs,H.kept,H.lx,λi hi=>by rw[O i]; exact H.top i hi,H.loc,H.wf⟩;exact⟨F,Vs,Ei.same (m':=⟨B,m.li⟩) H F (λ_=>rfl) rfl (λj _=>O j) (λ_ _=>bA _) (λ_ _ _=>bA _) (λh=>absurd h Q) (λh=>absurd h h8) V'⟩
 have wr:∀{me0:Me} {i:Nat} {w:W3} {b:Bool},me0.hs.length=512->(∀j,me0.top j=m.me.top j)->i<512->∀j,j<512->((me0.add t i w b).top j).w=if j=i then w else(m.me.top j).w:=λ{me0 i w b} T h1 hi j U=>by
  rw[D7 (by omega)];by_cases e:j=i
  ·rw[if_pos e,if_pos e]
  ·rw[if_neg e,if_neg e,h1]
 have hs:=H.hs;have al:∀{me0:Me} {i:Nat} {w:W3} {b:Bool},(me0.add t i w b).hs.length=me0.hs.length:=λ{me0 i w b}=>by unfold Me.add;dsimp only;rw[aV]
 cases h with
 | look i o n hi=>exact rd (a:=⟨5,i,o,n⟩) (show ¬(5:Int)=7 by decide) (show ¬(5:Int)=8 by decide) hs λ_=>rfl
 | load i q x o n hi V X=>exact rd (a:=⟨1,i,o,n⟩) (show ¬(1:Int)=7 by decide) (show ¬(1:Int)=8 by decide) hs λ_=>rfl
 | put i o w wl hi=>
  have hi:i<512:=by omega
  have e:=wr (b:=wl) (w:=w) hs (λ_=>rfl) hi;have hw:Ww w:=M.w (by cases wl <;> simp);exact⟨H.kq hw hi (al.trans hs) e,Ei.put H hw hi (al.trans hs) e (by cases wl <;> simp) (by cases wl <;> simp) V'⟩
 | swap i o w hi=>
  have hi:i<512:=by omega
  by_cases c:(m.me.top i).w=o
  ·have e:=wr (me0:=m.me.qy t i ((m.me.at i).length - 1) (m.me.top i) true) (b:=true) (w:=w) hs (λ_=>rfl) hi;have J:m.me.GC t i o w=(m.me.qy t i ((m.me.at i).length - 1) (m.me.top i) true).add t i w true:=if_pos c;rw[J,if_pos c];have K:((m.me.qy t i ((m.me.at i).length - 1) (m.me.top i) true).add t i w true).hs.length=512:=al.trans hs;generalize (m.me.qy t i ((m.me.at i).length - 1) (m.me.top i) true).add t i w true=B at e K;have hw:Ww w:=M.w (.inr (.inr rfl));exact⟨H.kq hw hi K e,Ei.put H hw hi K e (show ¬(6:Int)=7 by decide) (show ¬(6:Int)=8 by decide) V'⟩
  ·have J:m.me.GC t i o w=m.me.qy t i ((m.me.at i).length - 1) (m.me.top i) true:=if_neg c;rw[J,if_neg c];exact rd (a:=⟨6,i,o,w⟩) (show ¬(6:Int)=7 by decide) (show ¬(6:Int)=8 by decide) hs λ_=>rfl
 | flush i o n hi=>
  have hi:i<512:=by omega
  have R:∀u n,kA m.li u n<=kA (m.li.zw t i) u n:=λu n=>by
   have h1:=Kg (t:=u) (n:=n) H;unfold kA at h1⊢;show _<=max (m.li.at n).2 ((if (u:Int)=t/\(n:Int)=(i / 8:Nat) then some ((m.li.at (i / 8)).1.length:Int) else m.li.lx u n).getD (m.li.at n).2);split
   ·rename_i e;obtain rfl:n=i / 8:=by omega
    dsimp only[Option.getD] at h1⊢;omega
   ·exact bA _
  have F:FY {m with li:=m.li.zw t i}:=⟨H.lg,hs,H.kept,λu n q h=>by
   have h:(if u=t/\n=(i / 8:Nat) then some ((m.li.at (i / 8)).1.length:Int) else m.li.lx u n)=some q:=h;split at h
   ·rename_i e;cases h
    obtain⟨_,rfl⟩:=e;show _/\_/\_/\_<=(((m.li.at ((i / 8:Nat):Int).toNat).1.length:Nat):Int);rw[bQ];omega
   ·exact H.lx u n q h,H.top,H.loc,H.wf⟩
  refine⟨F,Vs,Ei.same (m':={m with li:=m.li.zw t i}) H F (λ_=>rfl) rfl (λ_ _=>rfl) (λ_ _=>bA _) (λu n _=>R u n) (λ_=>⟨i,rfl,?_⟩) (λh=>by cases h) V'⟩;have:=H.kept (i / 8);unfold kA;show max (m.li.at (i / 8)).2 ((if (t:Int)=t/\((i / 8:Nat):Int)=(i / 8:Nat) then some ((m.li.at (i / 8)).1.length:Int) else _).getD _)=_;rw[if_pos ⟨rfl,rfl⟩];dsimp only[Option.getD];omega
 | sync p o n=>
  have h1:∀n,((m.li.sS t).at n).1=(m.li.at n).1:=λn=>by
   by_cases e:n<m.li.lg.length
   ·rw[Sv e]
   ·rw[NW e,MU e]
  have h2:∀n,n<64->((m.li.sS t).at n).2=kA m.li t n:=λn G=>by rw[Sv (by rw[H.lg]; exact G)]
  have F:FY {m with li:=m.li.sS t}:=⟨by show(m.li.lg.mapIdx _).length=64; rw[dB]; exact H.lg,hs,λn=>by
   show 0<=((m.li.sS t).at n).2/\((m.li.sS t).at n).2<=(((m.li.sS t).at n).1.length:Int);rw[h1 n];by_cases e:n<64
   ·rw[h2 n e];have:=Kg (t:=t) (n:=n) H;have:=H.kept n;omega
   ·rw[NW (by rw[H.lg]; exact e),MU (by rw[H.lg]; exact e)];exact⟨bA _,bA _⟩,λu n q h=>by
   have h:(if u=t then none else m.li.lx u n)=some q:=h;show _/\_/\_/\q<=((((m.li.sS t).at n.toNat).1.length:Nat):Int);rw[h1];split at h
   ·cases h
   ·exact H.lx u n q h,λi hi=>by
   show Ca (m.li.sS t) ((m.li.sS t).at (i / 8)).1.length i=_;rw[h1];refine jO ?_ (H.top i hi);unfold Ca;rw[h1];rfl,λn s hs=>H.loc n s (by rw[<-h1 n]; exact hs),H.wf⟩
  refine⟨F,Vs,Ei.same (m':={m with li:=m.li.sS t}) H F h1 rfl (λ_ _=>rfl) (λn G=>?_) (λu n G=>?_) (λh=>by cases h) (λ_=>h2) V'⟩
  ·show _<=((m.li.sS t).at n).2;rw[h2 n G];exact(Kg H).1
  ·show kA m.li u n<=max ((m.li.sS t).at n).2 ((if (u:Int)=t then none else m.li.lx u n).getD ((m.li.sS t).at n).2);rw[h2 n G];have:=(Kg (t:=t) (n:=n) H).1;unfold kA;unfold kA at this;by_cases e:u=t
   ·subst e;rw[if_pos rfl];dsimp only[Option.getD];omega
   ·rw[if_neg (by omega)];cases h:m.li.lx u n with
    | none=>dsimp only[Option.getD];omega
    | some q=>dsimp only[Option.getD];omega
end
structure Tr (es:List Et):Prop where
 ex:∃a b:Et,es=[a,b]/\(a.new+b.new - a.old.v - b.old.v) % 18446744073709551616=0
 wr:∀e∈es,e.wr=true
def T6 (f:Int->Int):Int:=(f 56+f 57+f 58+f 59+f 60+f 61) % 18446744073709551616
abbrev CY (W:Int->W3):Sh:=⟨W,λ_=>0,λ_ _=>0,λ_ _=>0⟩
def Pw (r:Int) (x:W3):Prop:=x=⟨1,oN r,0⟩\/oN r<x.j8
structure Th (D:Dg) (V:Vg) (C:Int->W3) (V0:Vg):Prop where
 v0:∀r,D r=none->V0 r=0
 vs:∀r es,D r=some es->¬V0 r=0->V r=V0 r
 cell:∀c,56<=c->c<62->¬(C c).ref=0->∃es e,D (C c).ref=some es/\e∈es/\e.at'=c/\kS (CY C) (C c).ref e
 dn:∀r es,D r=some es->V0 r=1->∀e∈es,kS (CY C) r e\/qX (CY C) e
 sum:T6 (λc=>(rX D V0 (CY C) c).v)=150
 p4:∀r es,D r=some es->V r=1->V0 r=1\/∀e∈es,kS (CY C) r e
structure Wu (D:Dg) (V:Vg) (s:Sh) (who:Int) (L:Int->W3):Prop where
 eq:∃v q v' q',L 0=⟨v,q,0⟩/\s.W (jP who)=⟨v',q',0⟩/\(0<=v/\v<=3)/\(0<=q/\q<=q')
 dn:∀q,L 0=⟨1,q,0⟩->1<=q->∃es,D (kJ who q)=some es/\V (kJ who q)=1/\∀(k:Nat) (w:W3),(kh es)[k]?=some w->L (1+k)=w
structure PI (D:Dg) (V:Vg) (s:Sh) (N:Im):Prop where
 tr:∀r es,D r=some es->Tr es
 c:∀C V0,N.C C V0->Th D V C V0
 l:∀who L,ke who->N.L who L->Wu D V s who L
 p5:∀C V0,N.C C V0->∀r es,D r=some es->V0 r=1->∀e∈es,qX (CY C) e->∀L,N.L (kj r) L->Pw r (L 0)
 p6:∀r es,D r=some es->V r=1->¬Live s r->∀C V0,N.C C V0->∀e∈es,¬kS (CY C) r e
 la:∃V0 C,No s C/\N.C C V0
section
variable {D:Dg} {V V0 V1:Vg} {N:Int} {s:Sh} {I:Im} {r who q c:Int} {es:List Et} {e:Et} {C W:Int->W3} {L:Int->Int->W3} {f g:Int->Int}
def T6.pair {h c2:Int} (h1:56<=h/\h<62) (h2:56<=c2/\c2<62) (u:¬h=c2) (he:(f h+f c2 - g h - g c2) % 18446744073709551616=0) (ho:∀c,56<=c->c<62->¬c=h->¬c=c2->f c=g c):T6 f=T6 g:=by
 unfold T6;have B:=ho 56 (by decide) (by decide);have E:=ho 57 (by decide) (by decide);have F:=ho 58 (by decide) (by decide);have G:=ho 59 (by decide) (by decide);have H:=ho 60 (by decide) (by decide);have J:=ho 61 (by decide) (by decide);obtain h1 | h1 | h1 | h1 | h1 | h1:h=56\/h=57\/h=58\/h=59\/h=60\/h=61:=by omega
 all_goals
  subst h1;obtain h2 | h2 | h2 | h2 | h2 | h2:c2=56\/c2=57\/c2=58\/c2=59\/c2=60\/c2=61:=by omega
  all_goals
   subst h2;first
    | exact absurd rfl u
    | omega
def T6.congr (h:∀c,56<=c->c<62->f c=g c):T6 f=T6 g:=by
 unfold T6;rw[h 56 (by decide) (by decide),h 57 (by decide) (by decide),h 58 (by decide) (by decide),h 59 (by decide) (by decide),h 60 (by decide) (by decide),h 61 (by decide) (by decide)]
def R2 (D:Dg) (C:Int->W3) (V:Vg) (c:Int):Int:=(rX D V (CY C) c).v
def Bt (h:V0 (C c).ref=1↔V1 (C c).ref=1):R2 D C V0 c=R2 D C V1 c:=by
 unfold R2;rw[s9 (D':=D) (s':=CY C) (s:=CY C) rfl rfl h]
def xV (H:SI D V N s) (hD:D r=some es) (T:Tr es) (he:e∈es) (h:kS (CY C) r e):R2 D C V0 e.at'=if V0 r=1 then e.new else e.old.v:=by
 obtain⟨_,_,_,_,g⟩:=H.rf hD;unfold kS at h;unfold R2 rX;rw[h];dsimp only;rw[hD,dT,g.qu he];show W3.v (if V0 r=1/\e.wr=true then⟨e.new,e.old.j8+1,0⟩ else⟨e.old.v,e.old.j8,0⟩)=_;by_cases x:V0 r=1
 ·rw[if_pos ⟨x,T.wr e he⟩,if_pos x]
 ·rw[if_neg λy=>x y.1,if_neg x]
def Rz (H:SI D V N s) (P:PI D V s I) (U:Th D V C V0) {E:Vg} (B:∀O,¬O=r->(E O=1↔V1 O=1)) (Z:∀es,D r=some es->(E r=1↔V1 r=1)\/∀e∈es,kS (CY C) r e):T6 (R2 D C E)=T6 (R2 D C V1):=by
 by_cases F:E r=1↔V1 r=1
 ·exact T6.congr λc _ _=>Bt (by
   by_cases e:(C c).ref=r
   ·rw[e];exact F
   ·exact B _ e)
 ·cases hD:D r with
  | none=>
   refine T6.congr λc c1 c2=>?_;by_cases e:(C c).ref=r
   ·by_cases e0:(C c).ref=0
    ·unfold R2 rX;dsimp only;rw[e,hD];rfl
    ·obtain⟨es,_,u,_⟩:=U.cell c c1 c2 e0;rw[e,hD] at u;cases u
   ·exact Bt (B _ e)
  | some es=>
   rcases Z es hD with y | y
   ·exact absurd y F
   ·have T:=P.tr r es hD;obtain⟨a,b,rfl,hs⟩:=T.ex;obtain⟨_,_,_,_,g⟩:=H.rf hD;have G:a∈[a,b]:=aM;have J:b∈[a,b]:=aL _ aM;have hn:=g.Gm 0 1 a b (by decide) rfl rfl;refine T6.pair (g.pl a G) (g.pl b J) (by omega) ?_ λc Q R n1 n2=>?_
    ·rw[xV H hD T G (y a G),xV H hD T J (y b J),xV H hD T G (y a G),xV H hD T J (y b J)];by_cases z:V1 r=1
     ·rw[if_neg λx=>F ⟨λ_=>z,λ_=>x⟩,if_neg λx=>F ⟨λ_=>z,λ_=>x⟩,if_pos z,if_pos z];omega
     ·have X:E r=1:=bC λx=>F ⟨λh=>absurd h x,λh=>absurd h z⟩;rw[if_pos X,if_pos X,if_neg z,if_neg z];omega
    ·by_cases e:(C c).ref=r
     ·exfalso;have:=H.pos hD;obtain⟨aS,x,u,K,M,_⟩:=U.cell c Q R (by omega);rw[e,hD] at u;cases u
      simp only[aU,bF,or_false] at K;rcases K with rfl | rfl
      ·exact n1 M.symm
      ·exact n2 M.symm
     ·exact Bt (B _ e)
def GN (H:SI D V N s) (P:PI D V s I) (E:Th D V C V0):∀l:List Int,(∀r∈l,∀es,D r=some es->(V0 r=1↔V1 r=1)\/∀e∈es,kS (CY C) r e)->T6 (R2 D C λr=>if r∈l then V1 r else V0 r)=T6 (R2 D C V0)
 | [],_=>T6.congr λc _ _=>Bt (by rw[if_neg (by simp)])
 | r::l,h=>by
  refine jO (Eq.symm (Rz (r:=r) H P E (λu F=>?_) λes hD=>?_)) (GN H P E l λu B=>h u (aL _ B))
  ·by_cases x:u∈l
   ·rw[if_pos x,if_pos (aL _ x)]
   ·rw[if_neg x,if_neg λy=>(aU.1 y).elim F x]
  ·by_cases x:r∈l
   ·exact .inl (by rw[if_pos x,if_pos aM])
   ·rw[if_neg x,if_pos aM];exact h r aM es hD
def Yq (L:Int->Int->W3):Vg:=λr=>if L (kj r) 0=⟨1,oN r,0⟩ then 1 else 0
def UO:Yq L r=1↔L (kj r) 0=⟨1,oN r,0⟩:=by
 unfold Yq;constructor
 ·intro h;split at h
  ·assumption
  ·cases h
 ·exact λh=>if_pos h
def PI.flip (H:SI D V N s) (P:PI D V s I) (B:I.C C V0) (G:∀who,ke who->I.L who (L who)) (h1:56<=c) (h2:c<62) (Q:(C c).ref=r) (hD:D r=some es):(V0 r=1↔Yq L r=1)\/∀e∈es,kS (CY C) r e:=by
 obtain⟨who,q,f,_,g⟩:=H.rf hD;have K:=P.c C V0 B;have hw:ke (kj r):=by rw[f.w];exact f.wh
 have J:=P.l _ _ hw (G _ hw);obtain⟨v,q1,v',q',R,T,_,l4⟩:=J.eq;by_cases x:V0 r=1
 ·by_cases y:∀e∈es,kS (CY C) r e
  ·exact .inr y
  ·refine .inl ⟨λ_=>UO.2 ?_,λ_=>x⟩;obtain⟨e,he,U⟩:∃e,e∈es/\¬kS (CY C) r e:=bC λz=>y λe he=>bC λw=>z ⟨e,he,w⟩;rcases P.p5 C V0 B r es hD x e he ((K.dn r es hD x e he).resolve_left U) _ (G _ hw) with z | z
   ·exact z
   ·exfalso;have hv:V r=1:=by rw[K.vs r es hD (by rw[x]; decide),x]
    obtain⟨E,e',u,F,X,M⟩:=K.cell c h1 h2 (by have:=H.pos hD; omega);rw[Q] at u M;rw[hD] at u;cases u
    have Z:Live s r:=bC λn=>P.p6 r es hD hv n C V0 B e' F M;obtain⟨v2,_,O⟩:=Z;rw[T] at O;simp only[W3.mk.injEq] at O;rw[R] at z;dsimp only at z;omega
 ·by_cases y:Yq L r=1
  ·have y':=UO.1 y;obtain⟨E,d1,d2,_⟩:=J.dn _ y' (by rw[f.sq]; exact f.qr.1);rw[f.w,f.sq,<-f.eq] at d1 d2;exact .inr ((K.p4 r es hD d2).resolve_left x)
  ·exact .inl ⟨λh=>absurd h x,λh=>absurd h y⟩
def PI.QU (H:SI D V N s) (P:PI D V s I) (M:I.C C V0) (O:∀who,ke who->I.L who (L who)) (w1:∀c,56<=c->c<62->W c=C c) (w2:∀who,ke who->∀k,0<=k->k<8->W (jP who+k)=L who k):T6 (λc=>(ve W c).v)=150:=by
 have K:=P.c C V0 M;rw[<-K.sum];have fl:=GN (V1:=Yq L) H P K [(C 56).ref,(C 57).ref,(C 58).ref,(C 59).ref,(C 60).ref,(C 61).ref] λr Q es hD=>by
  simp only[aU,bF,or_false] at Q;rcases Q with rfl | rfl | rfl | rfl | rfl | rfl
  all_goals exact P.flip H M O (by decide) (by decide) rfl hD
 refine jO (T6.congr λc h1 h2=>?_) fl;have hm:(C c).ref∈[(C 56).ref,(C 57).ref,(C 58).ref,(C 59).ref,(C 60).ref,(C 61).ref]:=by
  obtain h | h | h | h | h | h:c=56\/c=57\/c=58\/c=59\/c=60\/c=61:=by omega
  all_goals (subst h; simp)
 by_cases R:(C c).ref=0
 ·unfold ve R2 rX;dsimp only;rw[w1 c h1 h2,R,if_pos (show kj 0=0 by decide),H.D0];rfl
 ·obtain⟨es,e,hD,he,rfl,U⟩:=K.cell c h1 h2 R;obtain⟨who,q,f,_,g⟩:=H.rf hD;have T:=P.tr _ es hD;rw[xV H hD T he U,if_pos hm];have aS:=kR f.wh;have hv:(C e.at').v=e.old.v:=by
   have F:C e.at'=⟨e.old.v,e.old.j8,(C e.at').ref⟩:=U;rw[F]
  unfold ve;dsimp only;rw[w1 _ h1 h2,f.w,if_neg (by omega),f.sq];have hs:W (jP who)=L who 0:=by
   have:=w2 who f.wh 0 (by decide) (by decide);rwa [eI] at this
  have X:=P.l _ _ f.wh (O _ f.wh);obtain⟨v,q1,v',q',Z,l2,l3,l4⟩:=X.eq;by_cases y:Yq L (C e.at').ref=1
  ·rw[if_pos y];have G:=UO.1 y;rw[f.w,f.sq] at G;obtain⟨J,d1,_,d3⟩:=X.dn _ G f.qr.1;rw[<-f.eq,hD] at d1;cases d1
   have hl:(kh es).length=7:=by
    obtain⟨a,b,rfl,_⟩:=T.ex;exact kO _
   rw[Ae g f.wh (v:=1) (by decide) f.qr (hs.trans G) λk w hk=>by
    have:=(aC.1 hk).1;rw[gW,w2 who f.wh (1+k) (by omega) (by omega)];exact d3 k w hk]
   dsimp only;rw[if_pos ⟨rfl,rfl⟩];have:CO es e.at'=some e:=by
    unfold CO;cases E:es.find? λy=>decide (y.at'=e.at')&&y.wr with
    | none=>
     have:=eC.1 E e he;simp[T.wr e he] at this
    | some y=>
     have B:=dK E;have u:=eY (p:=λy:Et=>decide (y.at'=e.at')&&y.wr) E;simp only[bO,decide_eq_true_eq] at u;rw[g.inj B he u.1]
   rw[this]
  ·rw[if_neg y];cases E:GJ W who with
   | none=>exact hv
   | some x=>
    obtain⟨st,q2,J⟩:=x;dsimp only;obtain⟨B,u⟩:=Si E;dsimp only at B u;rw[if_neg]
    ·exact hv
    ·rintro⟨rfl,rfl⟩;rw[hs,Z] at B u;dsimp only at B u;exact y (UO.2 (by rw[f.w,f.sq,Z,<-B,<-u]))
end
def Yl (D:Dg) (V:Vg):Vg:=λr=>match D r with
 | none=>0
 | some _=>V r
structure Ks (D:Dg) (V:Vg) (s:Sh) (D':Dg) (V':Vg) (s':Sh) (I:Im):Prop where
 nd:∀r es,D' r=some es->D r=some es\/(D r=none/\¬V' r=1)
 mono:∀who,ke who->(s.W (jP who)).j8<=(s'.W (jP who)).j8
 dv:∀r es,D r=some es->V' r=1->V r=1\/(Live s' r/\∀C V0,I.C C V0->V0 r=1\/∀e∈es,kS (CY C) r e)
 put:∀r es,D r=some es->V r=1->Live s r->¬Live s' r->∀C V0,I.C C V0->∀e∈es,¬kS (CY C) r e
 fr:∀r es,D r=some es->V' r=1->∀e∈es,kS s r e->¬kS s' r e->∀L,I.L (kj r) L->Pw r (L 0)
 sum:T6 (λc=>(rX D' V' s' c).v)=150
 tr:∀r es,D' r=some es->Tr es
section
variable {D D':Dg} {V V' V0:Vg} {N N':Int} {s s':Sh} {x y:Im} {r who q c:Int} {es:List Et} {e:Et} {C W:Int->W3}
def HU (h:D r=some es):Yl D V r=V r:=by unfold Yl; rw[h]
def No.held (h:No s C) (g:Good es) (he:e∈es):kS (CY C) r e↔kS s r e:=by
 unfold kS;rw[show(CY C).W e.at'=s.W e.at' from h _ (g.pl e he).1 (g.pl e he).2]
def No.DF (h:No s C) (g:Good es) (he:e∈es):qX (CY C) e↔qX s e:=by
 unfold qX;rw[show(CY C).W e.at'=s.W e.at' from h _ (g.pl e he).1 (g.pl e he).2]
def rP (h:kS s r e) (p:qX s e):False:=by
 unfold kS at h;unfold qX at p;rw[h] at p;exact Int.lt_irrefl _ p
def SI.sp (H:SI D V N s) (hD:D r=some es) (hv:V r=1):Pw r (s.W (jP (kj r))):=by
 obtain⟨who,q,f,_,g⟩:=H.rf hD;obtain⟨v,u,I⟩:=H.st who f.wh;rw[f.eq] at hD;obtain⟨h1,h2⟩:=I.known q f.qr es hD;rw[f.w,I.eq];unfold Pw;rw[f.sq];by_cases e:q=u
 ·subst e;obtain⟨_,_,h,_⟩:=I.op f.qr.1 (h2 rfl);left;rw[<-f.eq,hv] at h;rw[h]
 ·right;dsimp only;omega
def Th.up (H:SI D V N s) (J:SI D' V' N' s') (G:Gs D V s D' V' s') (K:Ks D V s D' V' s' x) (h:Th D V C V0) (M:x.C C V0):Th D' V' C V0:=by
 have nd:∀r es,D' r=some es->¬V0 r=0->D r=some es:=λr es h1 h2=>(K.nd r es h1).elim id λy=>absurd (h.v0 r y.1) h2;refine⟨λr E=>?_,λr es hD B=>?_,λc h1 h2 u=>?_,λr es hD hv=>?_,?_,λr es hD hv=>?_⟩
 ·cases F:D r with
  | none=>exact h.v0 r F
  | some es=>rw[G.dd r es F] at E;cases E
 ·have hD:=nd r es hD B;have e:=h.vs r es hD B;rw[G.vv r es hD (by rw[e]; exact B),e]
 ·obtain⟨es,e,a,b⟩:=h.cell c h1 h2 u;exact⟨es,e,G.dd _ _ a,b⟩
 ·exact h.dn r es (nd r es hD (by rw[hv]; decide)) hv
 ·rw[<-h.sum];refine T6.congr λc h1 h2=>?_;rw[s9 (D:=D) (V:=V0) (s:=CY C) rfl ?_ fC];by_cases u:(C c).ref=0
  ·show D' (C c).ref=D (C c).ref;rw[u,H.D0,J.D0]
  ·obtain⟨es,e,a,b⟩:=h.cell c h1 h2 u;exact(G.dd _ _ a).trans a.symm
 ·rcases K.nd r es hD with y | y
  ·rcases K.dv r es y hv with z | z
   ·exact h.p4 r es y z
   ·exact z.2 C V0 M
  ·exact absurd hv y.2
def Th.now (B:SI D' V' N' s') (hs:T6 (λc=>(rX D' V' s' c).v)=150) (tr:∀r es,D' r=some es->Tr es) (u:No s' C):Th D' V' C (Yl D' V'):=by
 refine⟨λr h=>?_,λr es h _=>(HU h).symm,λc h1 h2 E=>?_,λr es hD hv e he=>?_,?_,λr es hD hv=>.inl ((HU hD).trans hv)⟩
 ·unfold Yl;rw[h]
 ·rw[u c h1 h2] at E⊢;obtain⟨es,e,a,b,rfl,d⟩:=B.cell c h1 h2 E;obtain⟨_,_,_,_,g⟩:=B.rf a;exact⟨es,e,a,b,rfl,(u.held g b).2 d⟩
 ·obtain⟨_,_,_,_,g⟩:=B.rf hD;rw[HU hD] at hv;rcases B.done r es hD hv e he ((tr r es hD).wr e he) with z | z
  ·exact .inl ((u.held g he).2 z.1)
  ·exact .inr ((u.DF g he).2 z)
 ·rw[<-hs];refine T6.congr λc h1 h2=>?_;have e:(CY C).W c=s'.W c:=u c h1 h2;unfold rX;rw[e];cases F:D' (s'.W c).ref with
  | none=>rfl
  | some es=>
   rw[dT];unfold Z2;rw[HU F]
def Wu.up {L:Int->W3} (G:Gs D V s D' V' s') (K:Ks D V s D' V' s' x) (u:SI D' V' N' s') (hw:ke who) (h:Wu D V s who L):Wu D' V' s' who L:=by
 obtain⟨⟨v,q,J,M,h1,h2,B,E⟩,d⟩:=h;obtain⟨v2,q2,I⟩:=u.st who hw;have m:=K.mono who hw;rw[h2,I.eq] at m;dsimp only at m;refine⟨⟨v,q,v2,q2,h1,I.eq,B,E.1,by omega⟩,λF e H=>?_⟩;obtain⟨es,a,b,c⟩:=d F e H;exact⟨es,G.dd _ _ a,by rw[G.vv _ _ a (by rw[b]; decide),b],c⟩
def Wu.now {L:Int->W3} (E:SI D' V' N' s') (tr:∀r es,D' r=some es->Tr es) (hw:ke who) (h:ZB s' who L):Wu D' V' s' who L:=by
 obtain⟨v,q,I⟩:=E.st who hw;have u:L 0=⟨v,q,0⟩:=by
  rw[h 0 (by decide) (by decide),eI,I.eq]
 refine⟨⟨v,q,v,q,u,I.eq,I.vr,I.qr.1,bA _⟩,λG e F=>?_⟩;rw[u] at e;simp only[W3.mk.injEq,and_true] at e;obtain⟨rfl,rfl⟩:=e;obtain⟨es,a,b,c,_⟩:=I.op F (by decide);refine⟨es,a,b,λk w B=>?_⟩;have H:(kh es).length=7:=by
  obtain⟨x,y,rfl,_⟩:=(tr _ es a).ex;exact kO _
 have:=(aC.1 B).1;rw[h (1+k) (by omega) (by omega),<-gW];exact c k w B
def PI.step (H:SI D V N s) (J:SI D' V' N' s') (G:Gs D V s D' V' s') (P:PI D V s x) (K:Ks D V s D' V' s' x) (E:FX s' (Yl D' V') y x) (la:∃V0 C,No s' C/\y.C C V0):PI D' V' s' y:=by
 have cs:∀C V0,y.C C V0->Th D' V' C V0:=λC V0 O=>by
  rcases E.c C V0 O with h | ⟨h,rfl⟩
  ·exact(P.c C V0 h).up H J G K h
  ·exact Th.now J K.sum K.tr h
 refine⟨K.tr,cs,λwho L hw X=>?_,λC V0 O r es hD hv e he hp L X=>?_,λr es hD hv Z C V0 O e he R=>?_,la⟩
 ·rcases E.l who L hw X with h | h
  ·exact(P.l who L hw h).up G K J hw
  ·exact Wu.now J K.tr hw h
 ·have F:V' r=1:=by rw[(cs C V0 O).vs r es hD (by rw[hv]; decide),hv]
  obtain⟨who,q,f,_,g⟩:=J.rf hD;have hw:ke (kj r):=by rw[f.w];exact f.wh
  rcases E.l _ L hw X with h | h
  ·have B:D r=some es:=(K.nd r es hD).elim id λz=>absurd F z.2;rcases E.c C V0 O with M | ⟨M,rfl⟩
   ·exact P.p5 C V0 M r es B hv e he hp L h
   ·have aS:=(M.DF g he).1 hp;obtain⟨T,Cl,Q,U⟩:=P.la;have Kl:=P.c Cl T U;by_cases z:qX s e
    ·have l3:T r=1:=by
      rcases K.dv r es B F with w | w
      ·rcases Kl.p4 r es B w with u | u
       ·exact u
       ·exact(rP ((Q.held g he).1 (u e he)) z).elim
      ·rcases w.2 Cl T U with u | u
       ·exact u
       ·exact(rP ((Q.held g he).1 (u e he)) z).elim
     exact P.p5 Cl T U r es B l3 e he ((Q.DF g he).2 z) L h
    ·have R:kS s r e:=by
      rcases K.dv r es B F with w | w
      ·rcases H.done r es B w e he ((K.tr r es hD).wr e he) with u | u
       ·exact u.1
       ·exact absurd u z
      ·rcases w.2 Cl T U with u | u
       ·rcases Kl.dn r es B u e he with t | t
        ·exact(Q.held g he).1 t
        ·exact absurd ((Q.DF g he).1 t) z
       ·exact(Q.held g he).1 (u e he)
     exact K.fr r es B F e he R (λt=>rP t aS) L h
  ·have:=J.sp hD F;rw[h 0 (by decide) (by decide),eI];exact this
 ·obtain⟨who,q,f,_,g⟩:=J.rf hD;rcases E.c C V0 O with M | ⟨M,rfl⟩
  ·have B:D r=some es:=(K.nd r es hD).elim id λz=>absurd hv z.2;rcases K.dv r es B hv with w | w
   ·by_cases l:Live s r
    ·exact K.put r es B w l Z C V0 M e he R
    ·exact P.p6 r es B w l C V0 M e he R
   ·exact Z w.1
  ·have aT:=(M.held g he).1 R;rcases J.done r es hD hv e he ((K.tr r es hD).wr e he) with u | u
   ·exact Z u.2
   ·exact rP aT u
end
def A4 (V:Vg) (M:Im) (r:Int) (es:List Et):Prop:=∀C V0,M.C C V0->¬V r=0\/∀e∈es,kS (CY C) r e
def A5 (V:Vg) (M:Im) (r:Int):Prop:=∀L,M.L (kj r) L->V r=1->Pw r (L 0)
def A6 (V:Vg) (M:Im) (r:Int) (es:List Et):Prop:=∀C V0,M.C C V0->V r=1->∀e∈es,¬kS (CY C) r e
def HPk (V:Vg) (M A:Im) (h:Hs) (es:List Et):HK->Prop
 | .lG=>2<=h.i->(h.bh=some .settle->A4 V A h.ref es)/\(h.bh=some .through->A6 V A h.ref es)
 | .settle=>A4 V A h.ref es
 | .mS=>h.j8=1->A4 V M h.ref es
 | .kT=>A5 V A h.ref
 | .known=>A5 V M h.ref
 | .found=>A5 V M h.ref
 | .pn=>A5 V M h.ref
 | .through=>A6 V A h.ref es
 | _=>True
def HP (D:Dg) (V:Vg) (M A:Im) (h:Hs):Prop:=h.kY=true/\∀es,D h.ref=some es->HPk V M A h es h.nx
def xL (D:Dg) (V:Vg) (M A:Im) (hs:List Hs):Prop:=∀h∈hs,HP D V M A h
def ZC (D:Dg) (V:Vg) (M:Im) (r:Int):Prop:=∀es,D r=some es->A6 V M r es
def VK (D:Dg) (V:Vg) (M A:Im) (r:Int):HR->Prop
 | (h,_,false)=>h.ref=r/\HP D V M A h
 | (_,_,true)=>ZC D V M r
section
variable {D D':Dg} {V V':Vg} {N N':Int} {s s':Sh} {t:Nat} {M M' A A':Im} {r who q:Int} {es:List Et} {e:Et} {h:Hs} {a:Ac} {g:lA}
def KG.all (g:Good es) (h:KG V s r es es.length):¬V r=0\/∀e∈es,kS s r e:=by
 by_cases v:V r=0
 ·right;intro e he;obtain⟨i,hi,rfl⟩:=bK.1 he;exact(h i _ hi (aB hi)).resolve_right λy=>y v
 ·exact .inl v
def wg.all {j8:Int} (T:Tr es) (h:wg V s r es j8 es.length) (hv:V r=1):∀e∈es,qX s e:=λe he=>by
 obtain⟨i,hi,rfl⟩:=bK.1 he;exact h.rel i _ hi (aB hi) (T.wr _ he) hv
def Zk (G:Gs D V s D' V' s') (hD:D r=some es) (h:¬V r=0) (h':V' r=1):V r=1:=by rw[<-G.vv r es hD h]; exact h'
def A4.up (G:Gs D V s D' V' s') (hD:D r=some es) (g:Good es) (E:∀C V0,M'.C C V0->M.C C V0\/No s' C) (n:¬V' r=0\/∀e∈es,kS s' r e) (x:A4 V M r es):A4 V' M' r es:=λC V0 u=>by
 rcases E C V0 u with y | y
 ·exact(x C V0 y).imp (λz=>G.Gu hD z) id
 ·exact n.imp id λz e he=>(y.held g he).2 (z e he)
def A6.up (G:Gs D V s D' V' s') (hD:D r=some es) (g:Good es) (E:∀C V0,M'.C C V0->M.C C V0\/No s' C) (v:¬V r=0) (n:V' r=1->∀e∈es,qX s' e) (x:A6 V M r es):A6 V' M' r es:=λC V0 B hv e he u=>by
 rcases E C V0 B with y | y
 ·exact x C V0 y (Zk G hD v hv) e he u
 ·exact rP ((y.held g he).1 u) (n hv e he)
def A5.up (G:Gs D V s D' V' s') (u:SI D' V' N' s') (hD:D r=some es) (E:∀L,M'.L (kj r) L->M.L (kj r) L\/ZB s' (kj r) L) (v:¬V r=0) (x:A5 V M r):A5 V' M' r:=λL B hv=>by
 rcases E L B with y | y
 ·exact x L y (Zk G hD v hv)
 ·rw[y 0 (by decide) (by decide),eI];exact u.sp (G.dd _ _ hD) hv
def FX.c' (E:FX s' V' M' M):∀C V0,M'.C C V0->M.C C V0\/No s' C:=λC V0 h=>(E.c C V0 h).imp id And.left
def HP.mono {O:Vg} (F:SI D' V' N' s') (G:Gs D V s D' V' s') (T:∀r es,D' r=some es->Tr es) (y:HL D V s t h a) (R:HL D' V' s' t h a) (E:FX s' O M' M) (H:FX s' O A' A) (X:HP D V M A h):HP D' V' M' A' h:=by
 obtain⟨_,es,hD,z⟩:=y;obtain⟨_,K,u,J⟩:=R;rw[G.dd _ _ hD] at u;cases u
 have u:=G.dd _ _ hD;obtain⟨who,q,f,_,g⟩:=F.rf u;have hw:ke (kj h.ref):=by rw[f.w];exact f.wh
 refine⟨X.1,λK he=>?_⟩;rw[u] at he;cases he
 have x:=X.2 es hD;cases U:h.nx <;> rw[U] at x z J <;> (try exact trivial)
 case lG=>
  intro h2;obtain⟨Z,x2⟩:=x h2;obtain⟨_,_,Q⟩:=J;obtain⟨_,_,z4⟩:=z;refine⟨λb=>(Z b).up G hD g H.c' ?_,λb=>(x2 b).up G hD g H.c' ?_ ?_⟩
  ·rcases Q with ⟨_,_,p⟩| ⟨B,_⟩
   ·exact p.all g
   ·rw[b] at B;cases B
  ·rcases z4 with ⟨B,_⟩| ⟨_,v,_⟩
   ·rw[b] at B;cases B
   ·exact v
  ·rcases Q with ⟨B,_⟩| ⟨_,_,p⟩
   ·rw[b] at B;cases B
   ·exact p.all (T _ _ u)
 case settle=>exact A4.up G hD g H.c' (J.2.2.2.all g) x
 case mS=>
  intro hv;refine A4.up G hD g E.c' ?_ (x hv);rcases J.2.2 with ⟨_,p⟩| p
  ·exact p.all g
  ·omega
 case kT=>exact A5.up G F hD (λL=>H.l _ L hw) z.2.2 x
 case known=>exact A5.up G F hD (λL=>E.l _ L hw) z.2.2 x
 case found=>exact A5.up G F hD (λL=>E.l _ L hw) z.2.1 x
 case pn=>exact A5.up G F hD (λL=>E.l _ L hw) z.2.1 x
 case through=>exact A6.up G hD g H.c' z.2.2.1 (J.2.2.2.all (T _ _ u)) x
def DH (u:PI D V' s' M') (o:HE D V' s' h) (H:h.j8=4):ZC D V' M' h.ref:=λes hD C V0 B hv e he E=>by
 obtain⟨_,F,G,_,z⟩:=o;rcases z.vr with ⟨y,_⟩| ⟨y,_⟩| ⟨_,y⟩
 ·omega
 ·omega
 ·exact u.p6 _ es hD hv y C V0 B e he E
def uz (u:h.kY=true):VK D V' M' A' h.ref (ku h):=by
 unfold ku l6;rw[if_pos u];exact⟨rfl,u,λ_ _=>trivial⟩
def Hh (B:SI D V' N' s') (E:h.kY=true) {k:HK} (F:k=.settle\/k=.through) (o:Out D V' s' t r (mB h k)) (G:h.ref=r):VK D V' M' A' r (mB h k):=by
 subst G;unfold mB kB l6 at o⊢;dsimp only at o⊢;by_cases e:0=h.es.length
 ·rw[if_pos e] at o;obtain⟨_,_,es,hD,z⟩:=o;obtain⟨_,_,_,_,g⟩:=B.rf hD;have:=g.len;exfalso;rcases F with rfl | rfl
  ·have u:h.es=es:=z.1;rw[u] at e;omega
  ·have u:h.es=es:=z.1;rw[u] at e;omega
 ·rw[if_neg e];exact⟨rfl,E,λes _ h2=>absurd (show 2<=1 from h2) (by decide)⟩
def uA (B:SI D V' N' s') (u:h.kY=true) (o:Out D V' s' t r (ki h)) (E:h.ref=r):VK D V' M' A' r (ki h):=by
 subst E;unfold ki lh at o⊢;by_cases e:h.i=h.es.length
 ·rw[if_pos e,if_pos ⟨rfl,u⟩] at o⊢;exact Hh B (h:={h with j8:=1}) u (.inl rfl) o rfl
 ·rw[if_neg e];exact⟨rfl,u,λes _=>trivial⟩
def EX (B:SI D V' N' s') (u:h.kY=true) (x:A5 V' M' r) (o:Out D V' s' t r (oS h)) (E:h.ref=r):VK D V' M' A' r (oS h):=by
 subst E;unfold oS l6 at o⊢;by_cases e:h.i<h.es.length
 ·rw[if_pos e];exact⟨rfl,u,λes _=>x⟩
 ·rw[if_neg e,if_pos u] at o⊢;exact Hh B u (.inr rfl) o rfl
def HP.one {x U:JM} {V2:Vg} (R:SI D' V' N' s') (G:Gs D V s D' V' s') (T:∀r es,D' r=some es->Tr es) (y:HL D V s t h a) (J:Ei t a s' V2 x U) (P':PI D' V' s' U.N) (X:HP D V x.N (x.A t) h) (o:Out D' V' s' t h.ref (lS h g)) :
  VK D' V' U.N (U.A t) h.ref (lS h g):=by
 obtain⟨_,es,hD,z⟩:=y;have H:=G.dd _ _ hD;obtain⟨who,q,f,_,gd⟩:=R.rf H;have hw:ke (kj h.ref):=by rw[f.w];exact f.wh
 obtain⟨F,X⟩:=X;have X:=X es hD;have a5:¬V h.ref=0->A5 V x.N h.ref->A5 V' U.N h.ref:=λv u=>A5.up G R hD (λL=>J.n.l _ L hw) v u;unfold lS at o⊢;cases hn:h.nx <;> rw[hn] at X z o <;> dsimp only at o⊢
 case begin=>exact z.elim
 case kN=>exact z.elim
 case first=>
  split
  ·rename_i c;rw[if_pos c] at o;exact DH (h:={h with ended:=true,j8:=4}) P' o.2 rfl
  ·exact⟨rfl,F,λ_ _=>trivial⟩
 case lJ=>
  unfold pz at o⊢;split
  ·rename_i c;rw[if_pos c] at o;exact DH (h:={h with ended:=true,j8:=4}) P' o.2 rfl
  ·unfold nc nL l6;split <;> exact⟨rfl,F,λ_ _=>trivial⟩
 case mP=>
  unfold nc nL l6;split <;> exact⟨rfl,F,λ_ _=>trivial⟩
 case checked=>
  unfold nB at o⊢;by_cases c:tU h g.w=true
  ·rw[if_pos c] at o⊢;exact DH (h:={h with ended:=true,j8:=4}) P' o.2 rfl
  ·rw[if_neg c] at o⊢;cases hu:vi h.ws [] with
   | none=>
    rw[hu] at o;exact DH (h:={h with ended:=true,j8:=4}) P' o.2 rfl
   | some l=>
    rw[hu] at o;dsimp only at o⊢;by_cases c2:¬g.w.v=0
    ·rw[if_pos c2];exact uz (h:={h with es:=l}) F
    ·rw[if_neg c2] at o⊢;exact uA R (h:={h with es:=l}) F o rfl
 case lB=>
  unfold mZ at o⊢;by_cases c:g.ok=true\/g.w=xp h
  ·rw[if_pos c] at o⊢;exact uA R (h:={h with i:=h.i+1}) F o rfl
  ·rw[if_neg c] at o⊢;by_cases c2:vY h g.w=true
   ·rw[if_pos c2];exact⟨rfl,F,λ_ _=>trivial⟩
   ·rw[if_neg c2];unfold lh;rw[if_neg (by simp)];exact⟨rfl,F,λ_ _ e=>absurd (show(2:Int)=1 from e) (by decide)⟩
 case again=>exact uz F
 case lP=>exact uA R F o rfl
 case lG=>
  obtain⟨z1,⟨e0,z2,z3,rfl⟩,z4⟩:=z;have aS:=gd.pl e0 (aG z3);have cs:=J.fc rfl aS.1 (by show e0.at'<64; omega);unfold kB l6 at o⊢;have K:∀h2 a2,HL D' V' s' t h2 a2->h2.ref=h.ref->h2.nx=.settle\/(h2.nx=.lG/\h2.bh=some .settle)->A4 V' (U.A t) h.ref es:=λh2 a2 l Z O=>by
   obtain⟨_,E,B,u⟩:=l;rw[Z,H] at B;cases B
   have p:KG V' s' h.ref es es.length:=by
    rcases O with O | ⟨O,hb⟩
    ·rw[O] at u;rw[<-Z];exact u.2.2.2
    ·rw[O] at u;rcases u.2.2 with ⟨_,_,p⟩| ⟨b,_⟩
     ·rw[<-Z];exact p
     ·rw[hb] at b;cases b
   exact λC V0 hC=>(p.all gd).imp id λk e he=>((cs C V0 hC).held gd he).2 (k e he)
  have Q:∀h2 a2,HL D' V' s' t h2 a2->h2.ref=h.ref->h2.nx=.through\/(h2.nx=.lG/\h2.bh=some .through)->A6 V' (U.A t) h.ref es:=λh2 a2 l Z O=>by
   obtain⟨_,E,B,u⟩:=l;rw[Z,H] at B;cases B
   have p:wg V' s' h.ref es h2.j8 es.length:=by
    rcases O with O | ⟨O,hb⟩
    ·rw[O] at u;rw[<-Z];exact u.2.2.2
    ·rw[O] at u;rcases u.2.2 with ⟨b,_⟩| ⟨_,_,p⟩
     ·rw[hb] at b;cases b
     ·rw[<-Z];exact p
   exact λC V0 hC hv e he hh=>rP (((cs C V0 hC).held gd he).1 hh) (p.all (T _ _ H) hv e he)
  by_cases c:h.i=h.es.length
  ·rw[if_pos c] at o⊢;refine⟨rfl,F,λE B=>?_⟩;have B:D' h.ref=some E:=B;rw[H] at B;cases B
   rcases z4 with ⟨b,_⟩| ⟨b,_⟩
   ·rw[b] at o⊢;exact K _ _ o.2 rfl (.inl rfl)
   ·rw[b] at o⊢;exact Q _ _ o.2 rfl (.inl rfl)
  ·rw[if_neg c] at o⊢;refine⟨rfl,F,λE B=>?_⟩;have B:D' h.ref=some E:=B;rw[H] at B;cases B
   exact λ_=>⟨λb=>K _ _ o.2 rfl (.inr ⟨rfl,b⟩),λb=>Q _ _ o.2 rfl (.inr ⟨rfl,b⟩)⟩
 case settle=>
  obtain⟨_,rfl,_,_⟩:=z;refine⟨rfl,F,λE B _ C V0 hC=>?_⟩;have B:D' h.ref=some E:=B;rw[H] at B;cases B
  exact(X C V0 (J.sc rfl C V0 hC)).imp (λv=>G.Gu hD v) id
 case mS=>exact uz F
 case kH=>
  obtain⟨_,rfl,v⟩:=z;refine⟨rfl,F,λE B L hL hv=>?_⟩;have:=J.fl rfl _ hw rfl L hL;show Pw h.ref (L 0);rw[this 0 (by decide) (by decide),eI];exact R.sp H hv
 case kT=>
  obtain⟨_,rfl,v⟩:=z;exact⟨rfl,F,λE B L hL hv=>X L (J.sl rfl _ L hL) (Zk G hD v hv)⟩
 case known=>exact EX R (h:={h with j8:=if g.w=⟨1,h.seq,0⟩\/g.w=⟨2,h.seq,0⟩ then g.w.v else 4,i:=0}) F (a5 z.2.2 X) o rfl
 case found=>
  unfold tQ at o⊢;split
  ·exact⟨rfl,F,λ_ _=>a5 z.2.1 X⟩
  ·rename_i c;rw[if_neg c] at o;exact EX R (h:={h with i:=h.i+1}) F (a5 z.2.1 X) o rfl
 case pn=>exact EX R (h:={h with i:=h.i+1}) F (a5 z.2.1 X) o rfl
 case through=>
  obtain⟨_,rfl,v,p⟩:=z;intro E B C V0 hC hv;rw[H] at B;cases B
  exact X C V0 (J.sc rfl C V0 hC) (Zk G hD v hv)
end
def HPq (D:Dg) (V:Vg) (M A:Im) (r:Int):List Hs × Ac × Bool->Prop
 | (hs,_,false)=>xL D V M A hs
 | (_,_,true)=>ZC D V M r
section
variable {D D':Dg} {V V' V2:Vg} {N N':Int} {s s':Sh} {t:Nat} {M M' A A':Im} {x x':JM} {r q:Int} {es:List Et} {e:Et} {h:Hs} {a:Ac} {g:lA}
def xL.new {d:Bool} (u:d=true):xL D V M A [{Hs.new r d with nx:=.first}]:=λh B=>by
 rw[aN.1 B];exact⟨u,λes _=>trivial⟩
def xL.of (X:HP D V M A h):xL D V M A [h]:=λx u=>by rw[aN.1 u]; exact X
def xL.mono (H:SI D V N s) (B:SI D' V' N' s') (G:Gs D V s D' V' s') (T:∀r es,D' r=some es->Tr es) (E:FX s' V2 M' M) (F:FX s' V2 A' A):∀{hs:List Hs},nY D V s t hs a->xL D V M A hs->xL D' V' M' A' hs
 | [],y,_=>y.elim
 | [h],y,X=>.of (HP.mono B G T y (nY.mono H G (show nY D V s t [h] a from y)) E F (X h aM))
 | h::k::l,y,X=>by
  obtain⟨⟨⟨_,h1,_⟩,_⟩,y⟩:=y;have Y:=xL.mono H B G T E F (hs:=k::l) y λz u=>X z (aL _ u);intro z u;rcases aU.1 u with rfl | u
  ·exact⟨(X _ aM).1,λes _=>by rw[h1]; trivial⟩
  ·exact Y z u
def VK.row {y:HR} (o:VK D V M A r y):HPq D V M A r ([y.1],y.2):=by
 obtain⟨h,a,d⟩:=y;cases d with
 | false=>exact .of o.2
 | true=>exact o
def rN.out {y:HR} (o:rN D V s t r ([y.1],y.2)):Out D V s t r y:=by
 obtain⟨h,a,d⟩:=y;cases d with
 | false=>
  obtain⟨⟨h2,l,e,u⟩,z⟩:=o;obtain⟨rfl,rfl⟩:=cK e;exact⟨u,z⟩
 | true=>
  obtain⟨h2,e,u,z⟩:=o;obtain⟨rfl,_⟩:=cK e;exact⟨u,z⟩
def xL.next (H:SI D V N s) (F:SI D' V' N' s') (G:Gs D V s D' V' s') (T:∀r es,D' r=some es->Tr es) (J:Ei t a s' V2 x x') (K:PI D' V' s' x'.N):∀(hs:List Hs) (r:Int),Rd r hs->nY D V s t hs a->xL D V x.N (x.A t) hs->rN D' V' s' t r (kQ hs g)->HPq D' V' x'.N (x'.A t) r (kQ hs g)
 | [],_,_,y,_,_=>y.elim
 | [h],r,w,y,X,o=>by
  obtain⟨h2,Z,e,rfl⟩:=w;obtain⟨rfl,_⟩:=cK e;have y:HL D V s t h a:=y;have B:=X h aM;by_cases h1:h.nx=.again
  ·rw[nE y.1 h1] at o⊢;by_cases c:¬g.w=⟨0,h.seq,0⟩
   ·rw[if_pos c];exact VK.row (uz B.1)
   ·rw[if_neg c];intro z u;rcases aU.1 u with rfl | u
    ·exact⟨B.1,λes _=>trivial⟩
    ·exact xL.new (r:=h.met.ref) B.1 z u
  ·rw[qw y.1 h1 [] (.inl rfl)] at o⊢;exact(HP.one F G T y J K B o.out).row
 | h::k::l,r,w,y,X,o=>by
  obtain⟨h2,Z,e,rfl⟩:=w;obtain⟨rfl,_⟩:=cK e;obtain⟨⟨⟨h0,h1,hk,_⟩,_⟩,y⟩:=y;have B:=X h aM;have O:=xL.next H F G T J K (k::l) k.ref ⟨k,l,rfl,rfl⟩ y λz u=>X z (aL _ u);rw[ot h0 h1] at o⊢;cases hq:kQ (k::l) g with
  | mk E q=>
   obtain⟨Q,d⟩:=q;rw[hq] at O o;cases d with
   | false=>
    dsimp only at o⊢;obtain⟨_,o⟩:=o;have R:nY D' V' s' t E Q/\Rd k.ref E:=by
     cases E with
     | nil=>
      obtain⟨_,es,_,z⟩:=(show HL D' V' s' t {h with nx:=.kN} Q from o);exact z.elim
     | cons k2 U=>
      obtain⟨⟨⟨_,_,e2,_⟩,_⟩,z⟩:=o;exact⟨z,k2,U,rfl,e2.trans hk.symm⟩
    intro z u;rcases aU.1 u with rfl | u
    ·exact⟨B.1,λes _=>trivial⟩
    ·exact O ⟨R.2,R.1⟩ z u
   | true=>
    dsimp only at o⊢;cases E with
    | nil=>
     obtain⟨h2,e,_⟩:=o;cases e
    | cons t' U=>
     dsimp only at o⊢;by_cases c:¬t'.j8=4
     ·rw[if_pos c] at o⊢;exact(uA F B.1 o.out rfl).row
     ·rw[if_neg c];exact .of ⟨B.1,λes _=>trivial⟩
end
def DL (D:Dg) (V:Vg) (M:Im) (who:Int):Prop:=∀q es,1<=q/\q<1000000->D (kJ who q)=some es->A6 V M (kJ who q) es
structure Ka (D:Dg) (V:Vg) (s:Sh) (M:Im) (a:Ac):Prop where
 dc:∀who q,ke who->1<=q->a=⟨6,jP who,⟨0,q,0⟩,⟨1,q,0⟩⟩->∀es,D (kJ who q)=some es->A4 V M (kJ who q) es
 so:a.op=6->∀who,ke who->a.at'=jP who->∃q v,a.old=⟨0,q,0⟩/\a.new=⟨v,q,0⟩
 pt:a.op=3\/a.op=4->∀who,ke who->a.at'=jP who->(a.new.v=3/\DL D V M who)\/(a.new.v=0/\(s.W a.at').v=3/\∃es,Tr es/\Good es/\ql s a.at' (kh es))
 pc:a.op=3\/a.op=4->¬(56<=a.at'/\a.at'<62)
 fr:a.op=6->∀r es e,D r=some es->e∈es->a.at'=e.at'->a.old=⟨e.old.v,e.old.j8,r⟩->V r=1->Live s r->A5 V M r
section
variable {D D':Dg} {V V':Vg} {O O':wB} {N:Int} {s s':Sh} {t:Nat} {M A:Im} {r who q p:Int} {es:List Et} {e:Et} {h:Hs} {a:Ac} {g:lA}
def s5.ZU (E:s5 t s s' a g) (h:¬s'.W p=s.W p):a.at'=p/\s'.W p=a.new/\((a.op=3\/a.op=4)\/(a.op=6/\s.W p=a.old))/\∀j,¬j=p->s'.W j=s.W j:=by
 cases E with
 | look _ _ _ q=>exact absurd (q.1 p) h
 | load _ _ _ _ q=>exact absurd (q.1 p) h
 | put op u o w ho h1=>
  have e:p=u:=bC λe=>h (by rw[h1,if_neg e]);subst e;exact⟨rfl,by rw[h1,if_pos rfl],.inl ho,λj B=>by rw[h1,if_neg B]⟩
 | swapT u w h1=>
  have e:p=u:=bC λe=>h (by rw[h1,if_neg e]);subst e;exact⟨rfl,by rw[h1,if_pos rfl],.inr ⟨rfl,rfl⟩,λj B=>by rw[h1,if_neg B]⟩
 | RL _ _ _ _ q=>exact absurd (q.1 p) h
 | lQ _ _ _ _ _ q=>exact absurd (q.1 p) h
def T6.same (h:∀c,56<=c->c<62->rX D' V' s' c=rX D V s c):T6 (λc=>(rX D' V' s' c).v)=T6 (λc=>(rX D V s c).v):=T6.congr λc h1 h2=>by rw[h c h1 h2]
def Sx.sum {A:Int->Prop} (X:Sx A t D V O N s D' V' O' s') (hA:¬A 0) (T:∀r es,D' r=some es->Tr es):T6 (λc=>(rX D' V' s' c).v)=T6 (λc=>(rX D V s c).v):=by
 cases X.lg with
 | same _ h=>exact T6.same h
 | one _ _ h=>exact absurd h hA
 | swap who q es hw F h1 h2 h3 g hf U G=>
  obtain⟨v,H,I⟩:=X.si.st who hw;have:=I.eq.symm.trans h2;simp only[W3.mk.injEq] at this;obtain⟨rfl,rfl,_⟩:=this;obtain⟨J,hD,_,K,_⟩:=I.op F (by decide);have Z:=T _ _ hD;obtain⟨aS,q2,f,aT,g'⟩:=X.si.rf hD;have bY:=X.si.nN;have u:H<1000000:=by have:=I.qr;omega
  have e:es=J:=by
   have a1:=Ae (W:=s'.W) g hw (v:=1) (q:=H) (by decide) ⟨F,u⟩ h2 hf;have a2:=Ae (W:=s'.W) g' hw (v:=1) (q:=H) (by decide) ⟨F,u⟩ h2 K;rw[a1] at a2;simpa using a2
  subst e;obtain⟨a,b,rfl,hs⟩:=Z.ex;have B:a∈[a,b]:=aM;have E:b∈[a,b]:=aL _ aM;have hn:=g.Gm 0 1 a b (by decide) rfl rfl;have af:∀e∈[a,b],tw [a,b] (rX D V s) e.at'=⟨e.new,e.old.j8+1,0⟩:=λe he=>by
   unfold tw;rw[g.qu he];dsimp only;rw[if_pos (Z.wr e he)]
  refine T6.pair (g.pl a B) (g.pl b E) (by omega) ?_ λc Q R n1 n2=>?_
  ·rw[G _ (g.pl a B).1 (g.pl a B).2,G _ (g.pl b E).1 (g.pl b E).2,af a B,af b E,U a B,U b E];dsimp only;omega
  ·rw[G c Q R];unfold tw;cases hx:qu [a,b] c with
   | none=>rfl
   | some y=>
    obtain⟨y1,y2⟩:=tL hx;simp only[aU,bF,or_false] at y1;rcases y1 with rfl | rfl
    ·exact absurd y2.symm n1
    ·exact absurd y2.symm n2
def Ks.of {A:Int->Prop} (H:SI D V N s) (P:PI D V s M) (E:s5 t s s' a g) (X:Sx A t D V O N s D' V' O' s') (hA:¬A 0) (T:∀r es,D' r=some es->Tr es) (hs:T6 (λc=>(rX D V s c).v)=150) (K:Ka D V s M a):Ks D V s D' V' s' M:=by
 have J:∀r es,D r=some es->V' r=1->¬V r=1->a.op=6/\a.at'=jP (kj r)/\A4 V M r es/\V r=0/\s'.W (jP (kj r))=⟨1,oN r,0⟩:=λr es hD h1 h2=>by
  obtain⟨G,F⟩:=X.vd r es hD (by rw[h1]; exact λh=>h2 h.symm);obtain⟨who,q,f,_,g⟩:=H.rf hD;rw[f.w,f.sq] at G F⊢;rw[h1] at F;have Q:¬s'.W (jP who)=s.W (jP who):=by rw[G,F];simp
  obtain⟨B,c2,u,_⟩:=E.ZU Q;have v0:V r=0:=bC λh=>h2 (by rw[<-X.gs.vv r es hD h]; exact h1);rcases u with u | ⟨u,R⟩
  ·rcases K.pt u who f.wh B with y | y
   ·rw[<-c2,F] at y;exact absurd y.1 (show ¬(1:Int)=_ by decide)
   ·rw[<-c2,F] at y;exact absurd y.1 (show ¬(1:Int)=_ by decide)
  ·refine⟨u,B,?_,v0,F⟩;have ea:a=⟨6,jP who,⟨0,q,0⟩,⟨1,q,0⟩⟩:=by
    obtain⟨op,p,o,n⟩:=a;dsimp only at B c2 u R;rw[B,u,<-R,G,<-c2,F]
   rw[f.eq] at hD⊢;exact K.dc who q f.wh f.qr.1 ea es hD
 refine⟨λr es h=>(X.nd r es h).imp id λy=>⟨y.1,by rw[y.2.1]; decide⟩,X.sq,λr es hD h1=>?_,λr es hD h1 l1 l2 C V0 Z e he hh=>?_,λr es hD h1 e he h2 h3 L hL=>?_,(X.sum hA T).trans hs,T⟩
 ·by_cases h2:V r=1
  ·exact .inl h2
  ·obtain⟨_,_,h3,v0,F⟩:=J r es hD h1 h2;exact .inr ⟨⟨1,by decide,F⟩,λC V0 Z=>.inr ((h3 C V0 Z).resolve_left λy=>y v0)⟩
 ·obtain⟨who,q,f,_,g⟩:=H.rf hD;obtain⟨I,_⟩:=H.live f hD l1;have G:=I.eq;rw[h1] at G;have Q:¬s'.W (jP who)=s.W (jP who):=λh=>l2 (f.live.2 ⟨1,by decide,by rw[h,G]⟩);obtain⟨B,c2,u,_⟩:=E.ZU Q;rcases u with u | ⟨u,R⟩
  ·rcases K.pt u who f.wh B with y | y
   ·have U:=hD;rw[f.eq] at U hh;exact y.2 q es f.qr U C V0 Z (by rw[<-f.eq]; exact h1) e he hh
   ·rw[B,G] at y;exact absurd y.2.1 (show ¬(1:Int)=3 by decide)
  ·obtain⟨q2,v2,this,_⟩:=K.so u who f.wh B;rw[<-R,G] at this;cases this
 ·obtain⟨who,q,f,_,g⟩:=H.rf hD;have hc:=g.pl e he;have Q:¬s'.W e.at'=s.W e.at':=λh=>h3 (by unfold kS at h2⊢; rw[h,h2]);obtain⟨B,c2,u,R⟩:=E.ZU Q;rcases u with u | ⟨u,c5⟩
  ·exact absurd (by rw[B]; exact hc) (K.pc u)
  ·have v1:V r=1:=bC λh=>by
    obtain⟨_,b,_⟩:=J r es hD h1 h;have:=kR f.wh;rw[B,f.w] at b;omega
   have l:Live s r:=by
    rcases H.done r es hD v1 e he ((P.tr r es hD).wr e he) with y | y
    ·exact y.2
    ·exact(rP h2 y).elim
   exact K.fr u r es e hD he B (by rw[<-c5]; exact h2) v1 l L hL v1
def Sx.tr {A:Int->Prop} (H:SI D V N s) (P:PI D V s M) (E:s5 t s s' a g) (X:Sx A t D V O N s D' V' O' s') (K:Ka D V s M a) (hD:D' r=some es):Tr es:=by
 rcases X.nd r es hD with h | ⟨R,_,l⟩
 ·exact P.tr r es h
 ·obtain⟨who,q,f,T,U⟩:=X.si.rf hD;have Z:=X.si.nN;obtain⟨I,b1,b2,fl,_⟩:=X.si.live f hD l;obtain⟨v,q0,G⟩:=H.st who f.wh;have J:¬Live s r:=λh=>by
   obtain⟨v',hv,e⟩:=f.live.1 h;have y:=G.eq.symm.trans e;simp only[W3.mk.injEq,and_true] at y;obtain⟨rfl,rfl⟩:=y;obtain⟨aS,h2,_⟩:=G.op f.qr.1 hv.2;rw[<-f.eq,R] at h2;cases h2
  have hc:¬s'.W (jP who)=s.W (jP who):=λe=>J (f.live.2 ⟨V' r,⟨b1,b2⟩,by rw[<-e,I.eq]⟩);obtain⟨F,c2,u,c4⟩:=E.ZU hc;rcases u with u | ⟨u,c5⟩
  ·rcases K.pt u who f.wh F with y | ⟨_,_,B,T0,g0,f0⟩
   ·rw[<-c2,I.eq] at y;have y1:V' r=3:=y.1;omega
   ·rw[F] at f0;have f1:ql s' (jP who) (kh B):=λk w hk=>by
     rw[c4 _ (by omega)];exact f0 k w hk
    have a1:=Ae (W:=s'.W) U f.wh (v:=V' r) (q:=q) (by omega) f.qr I.eq fl;have Q:=Ae (W:=s'.W) g0 f.wh (v:=V' r) (q:=q) (by omega) f.qr I.eq f1;rw[a1] at Q;have e:es=B:=by simpa using Q
    rw[e];exact T0
  ·obtain⟨q2,v2,h1,h2⟩:=K.so u who f.wh F;exfalso;refine J (f.live.2 ⟨0,by decide,?_⟩);rw[c5,h1];have:=c2.symm.trans I.eq;rw[h2] at this;simp only[W3.mk.injEq,and_true] at this;rw[this.2]
end
section
variable {D D':Dg} {V V' V2:Vg} {O O':wB} {N N':Int} {s s':Sh} {t:Nat} {M M' A:Im} {r who q p:Int} {es:List Et} {e:Et} {h:Hs} {a:Ac} {g:lA}
def Ka.BA (h:¬a.op=6/\¬a.op=3/\¬a.op=4):Ka D V s M a:=
 ⟨λwho q _ _ e=>absurd (by rw[e]) h.1,λe=>absurd e h.1,λe=>(e.elim h.2.1 h.2.2).elim,λe=>(e.elim h.2.1 h.2.2).elim,λe=>absurd e h.1⟩
def Ka.cell {o n:W3} (u:56<=p/\p<62) (f:∀r es e,D r=some es->e∈es->p=e.at'->o=⟨e.old.v,e.old.j8,r⟩->V r=1->Live s r->A5 V M r):Ka D V s M ⟨6,p,o,n⟩:=
 ⟨λwho q hw _ e=>by
  have:=kR hw;simp only[Ac.mk.injEq] at e;omega,λ_ who hw e=>by
  have:=kR hw;dsimp only at e;omega,λe=>(by dsimp only at e; omega),λe=>(by dsimp only at e; omega),λ_=>f⟩
def Ru {w w':Int} (h:ke w) (h':ke w') (e:jP w=jP w'):w=w':=by
 have:=kR h;have:=kR h';omega
def HP.ka (H:SI D V N s) (y:HL D V s t h a) (X:HP D V M A h):Ka D V s M a:=by
 obtain⟨_,es,hD,z⟩:=y;obtain⟨who,q,f,_,G⟩:=H.rf hD;have X:=X.2 es hD;cases T:h.nx <;> rw[T] at X z
 case begin=>exact z.elim
 case kN=>exact z.elim
 case first=>obtain⟨_,_,rfl⟩:=z;exact .BA ⟨show ¬(5:Int)=6 by decide,show ¬(5:Int)=3 by decide,show ¬(5:Int)=4 by decide⟩
 case lJ=>obtain⟨_,_,rfl,_⟩:=z;exact .BA ⟨show ¬(1:Int)=6 by decide,show ¬(1:Int)=3 by decide,show ¬(1:Int)=4 by decide⟩
 case mP=>obtain⟨_,_,rfl,_⟩:=z;exact .BA ⟨show ¬(1:Int)=6 by decide,show ¬(1:Int)=3 by decide,show ¬(1:Int)=4 by decide⟩
 case checked=>obtain⟨_,_,rfl,_⟩:=z;exact .BA ⟨show ¬(5:Int)=6 by decide,show ¬(5:Int)=3 by decide,show ¬(5:Int)=4 by decide⟩
 case lB=>
  obtain⟨_,_,B,F,rfl⟩:=z;have he:=aG F;refine .cell (G.pl B he) λr E e' u _ _ ho=>?_;have h1:=G.ref B he;rw[ho] at h1;have h1:r=0:=h1;rw[h1,H.D0] at u;cases u
 case again=>obtain⟨_,_,B,F,rfl,_⟩:=z;exact .BA ⟨show ¬(5:Int)=6 by decide,show ¬(5:Int)=3 by decide,show ¬(5:Int)=4 by decide⟩
 case lP=>
  obtain⟨_,_,B,F,rfl,_,Q⟩:=z;refine .cell (G.pl B (aG F)) λr E e' u _ _ ho _ l=>?_;rw[ho] at Q;exact absurd l Q
 case lG=>obtain⟨_,⟨B,_,_,rfl⟩,_⟩:=z;exact .BA ⟨show ¬(7:Int)=6 by decide,show ¬(7:Int)=3 by decide,show ¬(7:Int)=4 by decide⟩
 case settle=>obtain⟨_,rfl,_⟩:=z;exact .BA (by decide)
 case mS=>
  obtain⟨_,rfl,_⟩:=z;have J:h.at'=jP who:=by unfold Hs.at';rw[f.w]
  have K:h.seq=q:=by unfold Hs.seq;rw[f.sq]
  have U:=kR f.wh;rw[J,K];refine⟨λw q' hw hq e E u=>?_,λ_ _ _ _=>⟨_,_,rfl,rfl⟩,λe=>(by dsimp only at e; omega),λe=>(by dsimp only at e; omega),λ_ r E e u he R=>?_⟩
  ·simp only[Ac.mk.injEq,W3.mk.injEq,true_and,and_true] at e;obtain⟨Z,rfl,e3⟩:=e;obtain rfl:=Ru f.wh hw Z;rw[<-f.eq] at u⊢;rw[hD] at u;cases u
   exact X e3.1
  ·obtain⟨_,_,_,_,g'⟩:=H.rf u;have:=g'.pl e he;have R:jP who=e.at':=R;omega
 case kH=>obtain⟨_,rfl,_⟩:=z;exact .BA ⟨show ¬(7:Int)=6 by decide,show ¬(7:Int)=3 by decide,show ¬(7:Int)=4 by decide⟩
 case kT=>obtain⟨_,rfl,_⟩:=z;exact .BA (by decide)
 case known=>obtain⟨_,rfl,_⟩:=z;exact .BA ⟨show ¬(5:Int)=6 by decide,show ¬(5:Int)=3 by decide,show ¬(5:Int)=4 by decide⟩
 case found=>obtain⟨_,_,_,B,_,rfl⟩:=z;exact .BA ⟨show ¬(5:Int)=6 by decide,show ¬(5:Int)=3 by decide,show ¬(5:Int)=4 by decide⟩
 case through=>obtain⟨_,rfl,_⟩:=z;exact .BA (by decide)
 case pn=>
  obtain⟨_,_,_,B,F,rfl⟩:=z;refine .cell (G.pl B (aG F)) λr E e' u _ _ ho _ _=>?_;simp only[W3.mk.injEq] at ho;rw[<-ho.2.2];exact X
def xL.ka (H:SI D V N s):∀(hs:List Hs),nY D V s t hs a->xL D V M A hs->Ka D V s M a
 | [],y,_=>y.elim
 | [h],y,X=>HP.ka H y (X h aM)
 | h::k::l,y,X=>xL.ka H (k::l) y.2 λz u=>X z (aL _ u)
def DL.up {A:Int->Prop} (H:SI D V N s) (X:Sx A t D V O N s D' V' O' s') (T:∀r es,D' r=some es->Tr es) (E:FX s' V2 M' M) (R:po D V s who) (y:DL D V M who):DL D' V' M' who:=λq es u he=>by
 rcases X.nd _ es he with h | ⟨_,h,_⟩
 ·obtain⟨_,_,_,_,g⟩:=H.rf h;exact A6.up X.gs h g E.c' (R q es u h).1 (λhv e hm=>X.gs.DF g hm ((R q es u h).2 (Zk X.gs h (R q es u h).1 hv) e hm ((T _ _ he).wr e hm))) (y q es u h)
 ·exact λC V0 _ hv=>by omega
def DL.last (P:PI D V s M) (h:∀v q,s.W (jP who)=⟨v,q,0⟩->v=1->∀es,D (kJ who q)=some es->A6 V M (kJ who q) es) (H:SI D V N s) (hw:ke who):DL D V M who:=λq es B hD C V0 u hv=>by
 obtain⟨v,F,I⟩:=H.st who hw;by_cases l:Live s (kJ who q)
 ·have f:Rf who q (kJ who q):=⟨hw,B,rfl⟩;obtain⟨E,_⟩:=H.live f hD l;exact h _ q (by rw[E.eq]) hv es hD C V0 u hv
 ·exact P.p6 _ es hD hv l C V0 u
def DL.fin {A:Int->Prop} {F:Int} (H:SI D V N s) (X:Sx A t D V O N s D' V' O' s') (K:PI D' V' s' M') (hw:ke who) (st:∃v,s.W (jP who)=⟨v,F,0⟩) (e:ZC D' V' M' (kJ who F)):DL D' V' M' who:=
 DL.last K (λv q G hv es hD=>by
  obtain⟨v0,st⟩:=st;obtain⟨U,E,I⟩:=X.si.st who hw;have y:=I.eq.symm.trans G;simp only[W3.mk.injEq,and_true] at y;obtain⟨rfl,rfl⟩:=y;have u:=X.sq who hw;rw[st,G] at u;dsimp only at u;have B:1<=E:=by
   have h1:=I.qr;by_cases z:E=0
   ·have:=I.z z;omega
   ·omega
  have Q:=I.qr;have R:=X.si.nN;have T:E=F:=by
   rcases X.nd _ es hD with h | ⟨_,h,_⟩
   ·obtain⟨v2,q2,J⟩:=H.st who hw;have y:=J.eq.symm.trans st;simp only[W3.mk.injEq,and_true] at y;have:=(J.known E ⟨B,by omega⟩ es h).1;omega
   ·obtain⟨_,_,h2,_⟩:=I.op B (by omega);omega
  subst T;exact e es hD) X.si hw
def Sx.oZ {A:Int->Prop} {u:Vg} (H:SI D V N s) (S:SI D u (N+1) s') (B:Gx D V s D u s') (X:Sx A t D V O N s D' V' O' s'):Gs D u s' D' V' s':=by
 refine⟨X.gs.dd,λr es hD E=>?_,λ_ _ _=>bA _,λ_ _ _ h=>h,λ_ _ _ _ _ _ _=>⟨rfl,rfl⟩,λ_ _ _ _ _ _ _=>rfl,λ_ _=>bA _⟩;by_cases v:V r=0
 ·obtain⟨_,e⟩:=Kp.vd H S B.toGs B.kp hD (by rw[v]; exact E);obtain⟨who,q,f,_,_⟩:=H.rf hD;rw[f.w,f.sq] at e;have hv:=S.dec r es hD;have l:Live s' r:=by
   refine f.live.2 ⟨u r,?_,e⟩;obtain⟨F,G,I⟩:=S.st who f.wh;have y:=I.eq.symm.trans e;simp only[W3.mk.injEq,and_true] at y;have J:=(I.known q f.qr es (by rw[<-f.eq]; exact hD)).2 y.2.symm;have:=I.vr;omega
  obtain⟨I,_⟩:=X.si.live f (X.gs.dd _ _ hD) l;have y:=I.eq.symm.trans e;simp only[W3.mk.injEq,and_true] at y;exact y
 ·rw[X.gs.vv r es hD v,B.vv r es hD v]
def rN.oZ {u:Vg} (S:SI D u N' s') (G:Gs D u s' D' V' s') {y:List Hs × Ac × Bool} (o:rN D u s' t r y):rN D' V' s' t r y:=by
 obtain⟨hs,a,d⟩:=y;cases d with
 | false=>exact⟨o.1,nY.mono S G o.2⟩
 | true=>
  obtain⟨h,B,E,F,es,hD,v,z⟩:=o;have e:=G.vv _ es hD v;exact⟨h,B,E,F,es,G.dd _ _ hD,by rw[e]; exact v,by rw[e]; exact z.vr,λj a H J wr h1=>z.rel j a H J wr (by rw[<-e]; exact h1)⟩
end
def QD (D:Dg) (V:Vg) (x:JM) (t:Nat) (b:Bk):Prop:=
 b.kY=true/\Tr b.es/\match b.ph with
 | .looked=>DL D V x.N (9+b.kZ)
 | .rel false=>DL D V x.N (9+b.kZ)
 | .pR _ _=>DL D V x.N (9+b.kZ)
 | .mQ hs=>xL D V x.N (x.A t) hs
 | _=>True
def Zu (D:Dg) (V:Vg) (x:JM) (t:Nat) (es:List Et):BR->Prop
 | (b,_,false)=>QD D V x t b
 | (b,_,true)=>b.es=es/\DL D V x.N (9+b.kZ)
section
variable {D D':Dg} {V V' V2:Vg} {O O':wB} {N:Int} {s s':Sh} {t u:Nat} {x x':JM} {r who q p:Int} {es:List Et} {e:Et} {a:Ac} {g:lA} {b:Bk}
def Ka.bits (H:SI D V N s) {o n:W3}:Ka D V s x.N ⟨6,mG,o,n⟩:=
 ⟨λwho q hw _ e=>by
  have:=kR hw;simp only[Ac.mk.injEq,mG] at e;omega,λ_ who hw e=>by
  have:=kR hw;have e:(376:Int)=jP who:=e;omega,λe=>(by dsimp only at e; omega),λe=>(by dsimp only at e; omega),λ_ r es e hD he h _ _ _=>by
  obtain⟨_,_,_,_,g⟩:=H.rf hD;have:=g.pl e he;have h:(376:Int)=e.at':=h;omega⟩
def Ka.put {v F:Int} (hw:ke who) (h:(v=3/\DL D V x.N who)\/(v=0/\(s.W (jP who)).v=3/\∃es,Tr es/\Good es/\ql s (jP who) (kh es))):Ka D V s x.N ⟨4,jP who,W0,⟨v,F,0⟩⟩:=
 ⟨λwho q hw _ e=>by simp at e,λe=>by simp at e,λ_ E B e=>by
  obtain rfl:=Ru hw B e;exact h,λ_ e=>by
  have:=kR hw;dsimp only at e;omega,λe=>by simp at e⟩
def Ka.sN {w:W3} (hw:ke who) {k:Int} (E:1<=k/\k<32):Ka D V s x.N ⟨3,jP who+k,W0,w⟩:=
 ⟨λwho q hw _ e=>by simp at e,λe=>by simp at e,λ_ h B e=>by
  exfalso;dsimp only at e;by_cases z:who=h
  ·subst z;omega
  ·have:=kW hw B z;omega,λ_ e=>by
  have:=kR hw;dsimp only at e;omega,λe=>by simp at e⟩
def Ka.lQ {p:Int} {o n:W3} {z:Int} (h:z=7\/z=8\/z=5\/z=1):Ka D V s x.N ⟨z,p,o,n⟩:=.BA ⟨by dsimp only; omega,by dsimp only; omega,by dsimp only; omega⟩
def Eu.ka (H:SI D V N s) (y:Eu D V O s t b a) (X:QD D V x t b):Ka D V s x.N a:=by
 obtain⟨du,es,kZ,seq,i,dn,bad,ph⟩:=b;have h:jP (9+(kZ:Int))=Bk.at' ⟨du,es,kZ,seq,i,dn,bad,ph⟩:=zo ⟨du,es,kZ,seq,i,dn,bad,ph⟩;obtain⟨_,J,X⟩:=X;cases ph with
 | take k=>
  cases k with
  | look=>obtain⟨_,_,_,_,rfl⟩:=y;exact .lQ (by decide)
  | swap j w=>obtain⟨_,_,_,_,_,_,rfl⟩:=y;exact .bits H
  | done i=>exact y.elim
  | full=>exact y.elim
 | looked=>obtain⟨_,_,_,_,rfl,_⟩:=y;exact .lQ (by decide)
 | rel op=>
  cases op with
  | false=>
   obtain⟨B,_,rfl,_⟩:=y;rw[<-h];exact .put B.o.who (.inl ⟨rfl,X⟩)
  | true=>
   obtain⟨B,rfl,F⟩:=y;rw[<-h];exact .put B.o.who (.inr ⟨rfl,by rw[F.st],es,J,B.g,λk w E=>(F.fl k w (by have:=(aC.1 E).1; rw[kO] at this; exact this) E).1⟩)
 | zw op=>
  cases op with
  | false=>obtain⟨_,_,rfl,_⟩:=y;exact .lQ (by decide)
  | true=>obtain⟨_,rfl,_⟩:=y;exact .lQ (by decide)
 | sS op=>
  cases op with
  | false=>obtain⟨_,_,rfl,_⟩:=y;exact .lQ (by decide)
  | true=>obtain⟨_,rfl,_⟩:=y;exact .lQ (by decide)
 | fill=>
  obtain⟨B,k,_,G,rfl,_⟩:=y;have E:1+(k:Int)<32:=by
   have:=B.g.len;unfold mg at G;dsimp only at G this;omega
  rw[<-h,gW];exact .sN B.o.who ⟨by omega,E⟩
 | lQ=>obtain⟨_,⟨p,rfl⟩,_⟩:=y;exact .lQ (by decide)
 | zq=>obtain⟨_,rfl,_⟩:=y;exact .lQ (by decide)
 | mQ hs=>exact xL.ka H hs y.2.2.2 X
 | pR K k=>
  obtain⟨_,_,_,y⟩:=y;cases k with
  | look=>obtain rfl:=y;exact .lQ (by decide)
  | swap w=>obtain⟨_,rfl⟩:=y;exact .bits H
  | done z=>exact y.elim
 | over=>exact y.elim
def QD.mono {A:Int->Prop} (H:SI D V N s) (X:Sx A u D V O N s D' V' O' s') (T:∀r es,D' r=some es->Tr es) (E:FX s' V2 x'.N x.N) (h:FX s' V2 (x'.A t) (x.A t)) (y:Eu D V O s t b a) (Z:QD D V x t b):QD D' V' x' t b:=by
 obtain⟨du,es,kZ,seq,i,dn,bad,ph⟩:=b;obtain⟨B,F,Z⟩:=Z;refine⟨B,F,?_⟩;cases ph with
 | looked=>exact Z.up H X T E y.2.2.2.2.2
 | rel op=>
  cases op with
  | false=>exact Z.up H X T E y.2.2.2.rd
  | true=>trivial
 | mQ hs=>exact xL.mono H X.si X.gs T E h y.2.2.2 Z
 | pR G k=>exact Z.up H X T E y.2.2.1
 | _=>trivial
def tkf (w:W3):∀(k i:Nat),kX w k i=(.full,o8,true)\/∃j a,kX w k i=(.swap j w,a,false)
 | 0,_=>.inl rfl
 | k+1,i=>by
  unfold kX;split
  ·exact .inr ⟨_,_,rfl⟩
  ·exact tkf w k (i+1)
def QD.next {A:Int->Prop} (H:SI D V N s) (hN:N+1<1000000) (U:1000<=N) (ht:1<=t/\t<=3) (B:BI D V O s) (X:Sx A t D V O N s D' V' O' s') (T:∀r es,D' r=some es->Tr es) (P':PI D' V' s' x'.N) (J:Ei t a s' V2 x x') (F:∀i:Nat,i<4->O i=0->DL D V x.N (9+i)) (y:Eu D V O s t b a) (E:s5 t s s' a g) (Z:QD D V x t b):Zu D' V' x' t b.es (kr b g):=by
 obtain⟨_,_,_,_,_,_,G⟩:=y.step H hN U B ht E;obtain⟨du,es,kZ,seq,i,dn,bad,ph⟩:=b;obtain⟨z1,K,Z⟩:=Z;have z1:du=true:=z1;subst z1;have fill:∀R:Bk,R.kY=true->Tr R.es->Zu D' V' x' t es (rh R):=λR h1 h2=>by
  unfold rh;split
  ·exact⟨h1,h2,trivial⟩
  ·unfold qk;dsimp only;split <;> exact⟨h1,h2,trivial⟩
 cases ph with
 | take k=>
  cases k with
  | look=>
   unfold kr mC at G⊢;dsimp only at G⊢;rcases tkf g.w 4 0 with h | ⟨j,a2,h⟩
   ·rw[h] at G;have M:(9:Int)=0:=G.2.1;exact absurd M (by decide)
   ·rw[h];exact⟨rfl,K,trivial⟩
  | swap j w=>
   obtain⟨_,_,_,_,h4,h5,rfl⟩:=y;unfold kr mC at G⊢;dsimp only at G⊢;by_cases c:g.ok=true
   ·rw[if_pos c] at G⊢;rcases E.p7 with ⟨y1,rfl,_⟩| ⟨_,rfl,_⟩
    ·obtain⟨bb,j8,e,hr,hx⟩:=B.bw;have hO:O j=0:=(hx j h4).1 (by rw[<-y1] at h5; rw[show(s.W mG)=s.W 376 from rfl,e] at h5; exact h5);exact⟨rfl,K,(F j h4 hO).up H X T J.n (B.rd j h4 hO)⟩
    ·cases c
   ·rw[if_neg c] at G⊢;rcases tkf g.w 4 0 with h | ⟨j,a2,h⟩
    ·rw[h] at G;have M:(9:Int)=0:=G.2.1;exact absurd M (by decide)
    ·rw[h];exact⟨rfl,K,trivial⟩
  | done i=>exact y.elim
  | full=>exact y.elim
 | looked=>
  obtain⟨_,_,_,_,_,h6⟩:=y;unfold kr r7 at G⊢;dsimp only at G⊢;by_cases c:16777215<=g.w.j8
  ·rw[if_pos c] at G⊢;have M:(9:Int)=0:=G.2.1.bad;exact absurd M (by decide)
  ·rw[if_neg c] at G⊢;exact⟨rfl,K,Z.up H X T J.n h6⟩
 | rel op=>exact⟨rfl,K,trivial⟩
 | zw op=>exact⟨rfl,K,trivial⟩
 | sS op=>
  unfold kr my;dsimp only;cases op with
  | false=>exact fill _ rfl K
  | true=>exact⟨rfl,K,xL.new rfl⟩
 | fill=>exact fill _ rfl K
 | lQ=>
  unfold kr qk;dsimp only;split <;> exact⟨rfl,K,trivial⟩
 | zq=>exact⟨rfl,K,trivial⟩
 | mQ hs=>
  obtain⟨x1,x2,Q⟩:=y;unfold kr at G⊢;dsimp only at G⊢;obtain⟨Vh,Sh,Gh,oh⟩:=Q.step H hN E;have ih:=xL.next H X.si X.gs T J P' (g:=g) hs _ Q.1 Q.2 Z (rN.oZ Sh (X.oZ H Sh Gh) oh);cases hq:kQ hs g with
  | mk aS q=>
   obtain⟨a',d⟩:=q;rw[hq] at ih G;cases d with
   | false=>exact⟨rfl,K,ih⟩
   | true=>
    dsimp only at G⊢;exact⟨rfl,K,DL.fin H X P' x1.o.who x2.st ih⟩
 | pR bb k=>
  obtain⟨x1,eb,Q,x4⟩:=y;have eb:bb=kZ:=eb;subst eb;cases k with
  | done z=>exact x4.elim
  | _=>
   have Z:=Z.up H X T J.n Q;unfold kr m3 lO;dsimp only;repeat' split
   all_goals first
    | exact⟨rfl,K,Z⟩
    | exact⟨rfl,Z⟩
    | simp_all
 | over=>exact y.elim
def Eu.only (y:Eu D V O s t b a):((∃k,b.ph=.take k)/\sf O t)\/wA O t b.kZ:=by
 obtain⟨du,es,kZ,seq,i,dn,bad,ph⟩:=b;cases ph with
 | take k=>
  cases k with
  | look=>exact .inl ⟨⟨_,rfl⟩,y.2.2.1⟩
  | swap j w=>exact .inl ⟨⟨_,rfl⟩,y.2.2.1⟩
  | done i=>exact y.elim
  | full=>exact y.elim
 | looked=>exact .inr y.2.2.1
 | rel op=>cases op <;> exact .inr y.1.o
 | zw op=>cases op <;> exact .inr y.1.o
 | sS op=>cases op <;> exact .inr y.1.o
 | fill=>exact .inr y.1.o
 | lQ=>exact .inr y.1.o
 | zq=>exact .inr y.1.o
 | mQ hs=>exact .inr y.1.o
 | pR h k=>exact .inr y.1.o
 | over=>exact y.elim
def PD (h:∀k,¬b.ph=.take k):(kr b g).1.kZ=b.kZ/\∀k,¬(kr b g).1.ph=.take k:=by
 obtain⟨du,es,kZ,seq,i,dn,bad,ph⟩:=b;have E:∀B:Bk,(qk B).1.kZ=B.kZ/\∀k,¬(qk B).1.ph=.take k:=λB=>by
  unfold qk;dsimp only;split <;> exact⟨rfl,λk h=>by cases h⟩
 have f0:∀B:Bk,(rh B).1.kZ=B.kZ/\∀k,¬(rh B).1.ph=.take k:=λB=>by
  unfold rh;split
  ·exact⟨rfl,λk h=>by cases h⟩
  ·split
   ·exact E _
   ·exact⟨rfl,λk h=>by cases h⟩
 cases ph with
 | take k=>exact absurd rfl (h k)
 | looked=>unfold kr r7;dsimp only;split <;> exact⟨rfl,λk h=>by cases h⟩
 | rel op=>
  unfold kr my;dsimp only;split
  ·exact⟨rfl,λk h=>by cases h⟩
  ·split
   ·exact⟨rfl,λk h=>by cases h⟩
   ·exact f0 _
 | zw op=>exact⟨rfl,λk h=>by cases h⟩
 | sS op=>
  unfold kr my;dsimp only;split
  ·exact⟨rfl,λk h=>by cases h⟩
  ·exact f0 _
 | fill=>exact f0 _
 | lQ=>exact E _
 | zq=>exact⟨rfl,λk h=>by cases h⟩
 | mQ hs=>unfold kr;dsimp only;split <;> exact⟨rfl,λk h=>by cases h⟩
 | pR F k=>unfold kr;dsimp only;split <;> exact⟨rfl,λk h=>by cases h⟩
 | over=>exact⟨rfl,λk h=>by cases h⟩
end
def Tj (D:Dg) (V:Vg) (s:Sh) (x:JM) (t:Nat) (w:Sw) (a:Ac):Prop:=
 w.kY=true/\Tr w.es/\match w.ph with
 | .last hs=>(∃v q,s.W (jP t)=⟨v,q,0⟩/\Rd (kJ t q) hs)/\xL D V x.N (x.A t) hs
 | .qx _=>a.op=4->a.new.v=3->DL D V x.N t
 | .own hs=>xL D V x.N (x.A t) hs
 | .pO=>True
 | _=>False
def Xa (D:Dg) (V:Vg) (s:Sh) (x:JM) (t:Nat):SR->Prop
 | (w,a,false)=>Tj D V s x t w a
 | (_,_,true)=>True
section
variable {D D':Dg} {V V' V2:Vg} {O O':wB} {N:Int} {s s':Sh} {t u:Nat} {x x':JM} {r q p:Int} {es:List Et} {e:Et} {a:Ac} {g:lA} {w:Sw}
def Hn:∀(l:List W3) (p:Int),∀y∈mm l p,y.op=3
 | [],_,y,h=>by cases h
 | w::r,p,y,h=>by
  rcases aU.1 h with rfl | h
  ·rfl
  ·exact Hn r _ y h
def sQ.np {l:List Ac} (x:sQ D V s t w (a::l)):∀y∈l,y.op=4->y.new.v=0:=by
 have kp:∀{K:List Ac},vC K->∀y∈K,y.op=4->y.new.v=0:=λh y B e=>by
  have:=h y B;omega
 have rest:∀{E G:List Ac} {l:List W3} {p:Int},vC E->vC G->∀y∈mm l p++(E++L5 (jP t) w.seq::G),y.op=4->y.new.v=0:=λh1 h2 y B e=>by
  rcases bB.1 B with h | h
  ·have:=Hn _ _ y h;omega
  ·rcases bB.1 h with h | h
   ·exact kp h1 y h e
   ·rcases aU.1 h with rfl | h
    ·rfl
    ·exact kp h2 y h e
 generalize H:a::l=L at x;intro y B e;cases x with
 | yQ Q E G h1 h2 J M=>
  obtain⟨rfl,rfl⟩:=cK H;rcases bB.1 B with h | h
  ·exact kp h2 y h e
  ·exact rest J M y h e
 | Oq k K E G F R h2 J M=>
  have B:y∈K++(mm ((kh w.es).drop k) (jP t+1+k)++(E++L5 (jP t) w.seq::G)):=H▸aL _ B;rcases bB.1 B with h | h
  ·exact kp h2 y h e
  ·exact rest J M y h e
 | zq _ h1 h2=>exact kp h2 y (H▸aL _ B) e
def Ka.mF (h:a.op=7\/a.op=8):Ka D V s x.N a:=.BA ⟨by omega,by omega,by omega⟩
def sQ.ka (J:1<=t/\t<=3) (g:Good w.es) (T:Tr w.es) {l:List Ac} (y:sQ D V s t w (a::l)) (X:a.op=4->a.new.v=3->DL D V x.N t):Ka D V s x.N a:=by
 have hw:=l8 J;generalize h:a::l=L at y;cases y with
 | yQ Q B E h1 h2 G M=>
  obtain⟨rfl,rfl⟩:=cK h;exact .put hw (.inl ⟨rfl,X rfl rfl⟩)
 | Oq k K B E F R h2 G M=>
  cases K with
  | cons y K=>
   obtain⟨rfl,rfl⟩:=cK h;exact .mF (h2 a aM)
  | nil=>
   rw[eK] at h;by_cases e:k<(kh w.es).length
   ·rw[bP e] at h;obtain⟨rfl,rfl⟩:=cK h;have h:=kO w.es;have:=g.len;rw[gW];exact .sN hw ⟨by omega,by omega⟩
   ·rw[dH (by omega)] at h;have h:a::l=B++L5 (jP t) w.seq::E:=h;cases B with
    | cons y B=>
     obtain⟨rfl,rfl⟩:=cK h;exact .mF (G a aM)
    | nil=>
     obtain⟨rfl,rfl⟩:=cK h;exact .put hw (.inr ⟨rfl,by rw[F.st],w.es,T,g,λj z H=>(F.fl j z (by have:=(aC.1 H).1; omega) H).1⟩)
 | zq _ h1 h2=>
  subst h;exact .mF (h2 a aM)
def I8.ka (H:SI D V N s) (B:1<=t/\t<=3) (y:I8 D V s t w a) (X:Tj D V s x t w a):Ka D V s x.N a:=by
 obtain⟨h,y⟩:=y;obtain⟨_,T,X⟩:=X;cases E:w.ph <;> rw[E] at y X
 case pO=>obtain⟨_,rfl⟩:=y;exact .lQ (by decide)
 case last hs=>obtain⟨_,r,y⟩:=y;exact xL.ka H hs y.2 X.2
 case qx l=>exact y.1.ka B h.g T X
 case own hs=>exact xL.ka H hs y.2.2 X
 all_goals exact y.elim
def Tj.mono {A:Int->Prop} (H:SI D V N s) (X:Sx A u D V O N s D' V' O' s') (R:Dr t D V O s D' V' O' s') (G:1<=t/\t<=3) (T:∀r es,D' r=some es->Tr es) (E:FX s' V2 x'.N x.N) (B:FX s' V2 (x'.A t) (x.A t)) (y:I8 D V s t w a) (Z:Tj D V s x t w a):Tj D' V' s' x' t w a:=by
 obtain⟨h,y⟩:=y;obtain⟨J,M,Z⟩:=Z;refine⟨J,M,?_⟩;cases Q:w.ph <;> rw[Q] at y Z
 case last hs=>
  obtain⟨_,r,y⟩:=y;obtain⟨⟨v,q,e,U⟩,Z⟩:=Z;obtain⟨v',e',_⟩:=(R.kp t (l8 G) m7).1.st v q e;exact⟨⟨v',q,e',U⟩,xL.mono H X.si X.gs T E B y.2 Z⟩
 case qx l=>
  intro h1 h2;have Z:=Z h1 h2;have rd:po D V s t:=by
   obtain⟨y,_⟩:=y;generalize hl:a::l=L at y;cases y with
   | yQ K0 K1 K2 c _ _ _=>exact c.rd
   | Oq k K K1 K2 F _ _ _ _=>exact F.rd
   | zq _ _ k=>
    have:=k a (hl▸aM);omega
  exact Z.up H X T E rd
 case own hs=>exact xL.mono H X.si X.gs T E B y.2.2 Z
 all_goals trivial
def NA (B:w.kY=true) (T:Tr w.es):∀{l:List Ac},(∀y∈l,y.op=4->y.new.v=3->DL D V x.N t)->Xa D V s x t (BJ w l)
 | [],_=>⟨B,T,xL.new B⟩
 | a::l,h=>⟨B,T,h a aM⟩
def Og (h:w.kY=true) (T:Tr w.es) (R:DL D V x.N t):Xa D V s x t (vT w):=NA h T λ_ _ _ _=>R
def Tj.next {A:Int->Prop} (H:SI D V N s) (hN:N+1<1000000) (X:Sx A t D V O N s D' V' O' s') (M:1<=t/\t<=3) (T:∀r es,D' r=some es->Tr es) (Q:PI D' V' s' x'.N) (J:Ei t a s' V2 x x') (y:I8 D V s t w a) (E:s5 t s s' a g) (Z:Tj D V s x t w a):Xa D' V' s' x' t (kP w g):=by
 obtain⟨h,y⟩:=y;obtain⟨B,F,Z⟩:=Z;have hw:=l8 M;unfold kP;cases hp:w.ph <;> rw[hp] at y Z
 case pO=>
  obtain⟨c,rfl⟩:=y;obtain⟨q1,_,rfl⟩:=E.kD;dsimp only;unfold ug;split
  ·trivial
  ·obtain⟨v,q,I⟩:=H.st t hw;have e:=I.eq;rw[s8 M] at e;rw[e];dsimp only;split
   ·rename_i hn;refine Og B F (DL.last Q (λv2 q2 U hv es hD=>?_) X.si hw);rw[s8 M,q1.1,e] at U;simp only[W3.mk.injEq,and_true] at U;obtain⟨rfl,rfl⟩:=U;exfalso;have aT:1<=q:=by
     have h1:=I.qr;by_cases z:q=0
     ·have:=I.z z;omega
     ·omega
    refine hn.elim (λz=>?_) λz=>z (.inr hv);unfold K4 at z;have z:=of_decide_eq_false z;have:=I.qr;have:=H.nN;have:=h.t;omega
   ·refine⟨B,F,⟨v,q,?_,_,_,rfl,?_⟩,xL.new B⟩
    ·rw[s8 M,q1.1,e]
    ·show kJ w.t q=kJ t q;rw[h.t]
 case last hs=>
  obtain⟨_,r,y⟩:=y;obtain⟨⟨v,q,e,hr⟩,Z⟩:=Z;obtain⟨Vh,Sh,R,K⟩:=tD.step (r:=kJ t q) H hN E ⟨hr,y.2⟩;obtain⟨v',e',_⟩:=(R.kp t hw).st v q e;have G:=xL.next H X.si X.gs T J Q (g:=g) hs _ hr y.2 Z (rN.oZ Sh (X.oZ H Sh R) K);dsimp only;cases hq:kQ hs g with
  | mk aS k=>
   obtain⟨a',d⟩:=k;rw[hq] at G K;cases d with
   | false=>exact⟨B,F,⟨v',q,e',K.1⟩,G⟩
   | true=>exact Og B F (DL.fin H X Q hw ⟨v,e⟩ G)
 case qx l=>
  exact NA B F λb hb h1 h2=>by
   have:=y.1.np b hb h1;omega
 case own hs=>
  obtain⟨_,y⟩:=y;obtain⟨Vh,Sh,R,K⟩:=y.step H hN E;have G:=xL.next H X.si X.gs T J Q (g:=g) hs _ y.1 y.2 Z (rN.oZ Sh (X.oZ H Sh R) K);dsimp only;cases hq:kQ hs g with
  | mk aS k=>
   obtain⟨a',d⟩:=k;rw[hq] at G;cases d with
   | false=>exact⟨B,F,G⟩
   | true=>trivial
 all_goals exact y.elim
end
def Dt (x y:W3):Prop:=x.j8<=y.j8/\(x.j8=y.j8->x.v=y.v)
def Dt.refl (x:W3):Dt x x:=⟨bA _,λ_=>rfl⟩
def Dt.trans {x y z:W3} (h:Dt x y) (k:Dt y z):Dt x z:=⟨iX h.1 k.1,λe=>(h.2 (by have:=h.1; have:=k.1; omega)).trans (k.2 (by have:=h.1; have:=k.1; omega))⟩
def Ye:List Int:=[56,57,58,59,60,61]
structure R6 (D:Dg) (V:Vg) (s:Sh) (p:Pk):Prop where
 n:∀(i:Nat) w,p.now[i]?=some w->Dt w (rX D V s (56+i))
 w:(p.rounds=0/\p.pC=[])\/(p.pC.length=6/\∃L:Int->W3,T6 (λc=>(L c).v)=150/\(∀(i:Nat) w,p.pC[i]?=some w->Dt w (L (56+i)))/\(∀(i:Nat) w,p.now[i]?=some w->Dt (L (56+i)) w)/\∀c,56<=c->c<62->Dt (L c) (rX D V s c))
def PkT (p:Pk):Prop:=((p.now.map (·.v)).sum) % 18446744073709551616=150
def Ti (D:Dg) (V:Vg) (s:Sh) (x:JM) (t:Nat) (p:Pk):Prop:=
 p.kY=true/\p.at'=Ye/\match p.ph with
 | .found=>R6 D V s p
 | .mQ hs=>R6 D V s p/\xL D V x.N (x.A t) hs
 | .back=>R6 D V s p
 | _=>PkT p
def TP (D:Dg) (V:Vg) (s:Sh) (x:JM) (t:Nat):PR->Prop
 | (p,_,false)=>Ti D V s x t p
 | (p,_,true)=>PkT p
section
variable {D D':Dg} {V V' V2:Vg} {O O':wB} {N:Int} {s s':Sh} {t u:Nat} {x x':JM} {r who q c:Int} {es:List Et} {e:Et} {a:Ac} {g:lA} {p:Pk}
def Sx.old {A:Int->Prop} (X:Sx A u D V O N s D' V' O' s') (B:¬A 0) (h1:56<=c) (h2:c<62):Dt (rX D V s c) (rX D' V' s' c):=by
 cases X.lg with
 | same _ h=>rw[h c h1 h2];exact .refl _
 | one _ _ h=>exact absurd h B
 | swap who q es _ _ _ _ _ g _ E F=>
  rw[F c h1 h2];unfold tw;cases G:qu es c with
  | none=>exact .refl _
  | some y=>
   obtain⟨H,rfl⟩:=tL G;dsimp only;split
   ·rw[E y H];exact⟨by dsimp only; omega,λe=>by dsimp only at e; omega⟩
   ·exact .refl _
def R6.up (h:∀c,56<=c->c<62->Dt (rX D V s c) (rX D' V' s' c)) (l:p.now.length<=6) (y:R6 D V s p):R6 D' V' s' p:=by
 refine⟨λi w hw=>?_,y.w.imp id λ⟨a,L,b,c,d,e⟩=>⟨a,L,b,c,d,λk h1 h2=>(e k h1 h2).trans (h k h1 h2)⟩⟩;have:=(aC.1 hw).1;exact(y.n i w hw).trans (h _ (by omega) (by omega))
def Jr:∀{a b:List W3},oP a b=true->a.length=b.length->a=b
 | [],[],_,_=>rfl
 | [],_::_,_,h=>by cases h
 | _::_,[],_,h=>by cases h
 | x::a,y::b,h,B=>by
  unfold oP at h;rw[gF,jG,bO,decide_eq_true_eq] at h;have E:=Jr (a:=a) (b:=b) h.2 (by simpa using B);have h1:x=y:=h.1;rw[h1,E]
def XC {i:Nat} (h:i<6):Ye.getD i 0=56+i:=by
 match i,h with
 | 0,_=>rfl
 | 1,_=>rfl
 | 2,_=>rfl
 | 3,_=>rfl
 | 4,_=>rfl
 | 5,_=>rfl
def Oo {l:List W3} {f:Int->W3} (B:l.length=6) (h:∀(i:Nat) w,l[i]?=some w->w.v=(f (56+i)).v):((l.map (·.v)).sum) % 18446744073709551616=T6 λc=>(f c).v:=by
 match l,B with
 | [a,b,c,d,e,k],_=>
  have E:=h 0 a rfl;have h1:=h 1 b rfl;have h2:=h 2 c rfl;have F:=h 3 d rfl;have G:=h 4 e rfl;have H:=h 5 k rfl;unfold T6;simp only[bS,dS,List.sum_cons,List.sum_nil];rw[E,h1,h2,F,G,H];show((f (56+0)).v+((f (56+1)).v+((f (56+2)).v+((f (56+3)).v+((f (56+4)).v+((f (56+5)).v+0)))))) % _=_;congr 1;show(f 56).v+((f 57).v+((f 58).v+((f 59).v+((f 60).v+((f 61).v+0)))))=_;omega
def DZ (h:p.kY=true) (B:p.at'=Ye) (y:R6 D V s p):TP D V s x t (uF p):=⟨h,B,⟨y.n,y.w⟩⟩
def JV (h:p.kY=true) (B:p.at'=Ye) (y:PkT p):TP D V s x t (oQ p):=by
 unfold oQ;split <;> exact⟨h,B,y⟩
def SS (hs:T6 (λc=>(rX D V s c).v)=150) (E:p.kY=true) (F:p.at'=Ye) (B:p.now.length=6) (y:R6 D V s p):TP D V s x t (qR p):=by
 unfold qR;dsimp only;split
 ·refine DZ (p:={p with rounds:=p.rounds+1,pC:=p.now,now:=[],i:=0}) E F ⟨λi w h=>by simp at h,.inr ⟨B,rX D V s,hs,y.n,λi w h=>by simp at h,λc _ _=>.refl _⟩⟩
 ·rename_i z;have T:¬p.rounds+1<2:=λh=>z (.inl h);have H:oP p.pC p.now=true:=bC λh=>z (.inr (by simpa using h));refine JV (p:={p with rounds:=p.rounds+1,i:=0}) E F ?_;rcases y.w with ⟨h,_⟩| ⟨J,L,K,M,Q,_⟩
  ·omega
  ·have e:=Jr H (J.trans B.symm);show((p.now.map (·.v)).sum) % 18446744073709551616=150;rw[<-K];refine Oo B λi w hw=>?_;have G:=M i w (by rw[e]; exact hw);have R:=Q i w hw;exact G.2 (by have:=G.1; have:=R.1; omega)
def I7.ka (H:SI D V N s) (y:I7 D V s t p a) (Z:Ti D V s x t p):Ka D V s x.N a:=by
 obtain⟨h,y⟩:=y;obtain⟨_,_,Z⟩:=Z;cases E:p.ph <;> rw[E] at y Z
 case found=>obtain⟨_,rfl⟩:=y;exact .lQ (by decide)
 case mQ hs=>exact xL.ka H hs y.2.2.2 Z.2
 case back=>
  obtain⟨hi,_,rfl,B⟩:=y;refine .cell (y9 h.1 hi.1) λr es e _ _ _ ho _ l=>?_;rw[ho] at B;exact absurd l B
 case flush=>exact .mF (.inl y)
 case last=>exact .mF (.inr y)
 case over=>exact y.elim
def Ti.mono {A:Int->Prop} (H:SI D V N s) (X:Sx A u D V O N s D' V' O' s') (G:¬A 0) (T:∀r es,D' r=some es->Tr es) (E:FX s' V2 x'.N x.N) (J:FX s' V2 (x'.A t) (x.A t)) (y:I7 D V s t p a) (Z:Ti D V s x t p):Ti D' V' s' x' t p:=by
 obtain⟨h,y⟩:=y;obtain⟨K,B,Z⟩:=Z;have F:=congrArg List.length B;have F:p.at'.length=6:=F;refine⟨K,B,?_⟩;have up:=λ(k:p.now.length<=6)=>R6.up (p:=p) (λc=>X.old (c:=c) G) k;cases M:p.ph <;> rw[M] at y Z
 case found=>exact up (by have:=y.1; omega) Z
 case mQ hs=>exact⟨up (by have:=y.1; omega) Z.1,xL.mono H X.si X.gs T E J y.2.2.2 Z.2⟩
 case back=>exact up (by have:=y.1; omega) Z
 all_goals exact Z
def Ti.next {A:Int->Prop} (H:SI D V N s) (hN:N+1<1000000) (X:Sx A t D V O N s D' V' O' s') (M:¬A 0) (T:∀r es,D' r=some es->Tr es) (G:T6 (λc=>(rX D' V' s' c).v)=150) (P':PI D' V' s' x'.N) (J:Ei t a s' V2 x x') (y:I7 D V s t p a) (E:s5 t s s' a g) (Z:Ti D V s x t p):TP D' V' s' x' t (nO p g):=by
 obtain⟨h,y⟩:=y;obtain⟨F,B,Z⟩:=Z;have R:=congrArg List.length B;have R:p.at'.length=6:=R;have up:=λ(k:p.now.length<=6)=>R6.up (p:=p) (λc=>X.old (c:=c) M) k;unfold nO;cases hp:p.ph <;> rw[hp] at y Z
 case found=>
  obtain⟨hi,rfl⟩:=y;obtain⟨q1,_,rfl⟩:=E.kD;have hc:=y9 h.1 hi.1;have ea:vg p=56+p.i:=by
   unfold vg;rw[B];exact XC (by omega)
  dsimp only;unfold uq;have U:=up (by omega) Z;split
  ·exact⟨F,B,⟨U.n,U.w⟩,xL.new F⟩
  ·rename_i nz;have K:(s.W (vg p)).ref=0:=bC λhr=>by
    obtain⟨es,e,hD,_⟩:=H.cell _ hc.1 hc.2 hr;obtain⟨who,q,f,_⟩:=H.rf hD;have:=kR f.wh;rw[f.w] at nz;exact nz ⟨by omega,by omega⟩
   have lw:=H.Yk K;have ev:s.W (vg p)=rX D V s (56+p.i):=by
    rw[<-ea,lw];cases hw:s.W (vg p) with
    | mk a b c=>
     rw[hw] at K;have K:c=0:=K;rw[K]
   have S':R6 D' V' s' {p with now:=p.now++[s.W (vg p)],i:=p.i+1}:=by
    refine⟨λi w hw=>?_,Z.w.imp id λ⟨a,L,b,c,d,e⟩=>⟨a,L,b,c,λi w hw=>?_,λk k1 k2=>(e k k1 k2).trans (X.old M k1 k2)⟩⟩
    ·have hw:(p.now++[s.W (vg p)])[i]?=some w:=hw;rcases gZ i p.now.length with k | k
     ·rw[aY k] at hw;exact U.n i w hw
     ·have k2:=(aC.1 hw).1;rw[aF,aE] at k2;obtain rfl:i=p.now.length:=by omega
      rw[bD (aP _),fA] at hw;cases hw
      rw[hi.2,ev];exact X.old M (by omega) (by omega)
    ·have hw:(p.now++[s.W (vg p)])[i]?=some w:=hw;rcases gZ i p.now.length with k | k
     ·rw[aY k] at hw;exact d i w hw
     ·have k2:=(aC.1 hw).1;rw[aF,aE] at k2;obtain rfl:i=p.now.length:=by omega
      rw[bD (aP _),fA] at hw;cases hw
      rw[hi.2,ev];exact e _ (by omega) (by omega)
   dsimp only;split
   ·exact DZ (p:={p with now:=p.now++[s.W (vg p)],i:=p.i+1}) F B S'
   ·refine SS (p:={p with now:=p.now++[s.W (vg p)],i:=p.i+1}) G F B ?_ S';dsimp only;rw[aF,aE];omega
 case mQ hs=>
  obtain⟨hi,x1,Q⟩:=y;obtain⟨Vh,Sh,Gh,oh⟩:=Q.step H hN E;have ih:=xL.next H X.si X.gs T J P' (g:=g) hs _ Q.1 Q.2 Z.2 (rN.oZ Sh (X.oZ H Sh Gh) oh);have U:=up (by omega) Z.1;dsimp only;cases hq:kQ hs g with
  | mk G k=>
   obtain⟨a',d⟩:=k;rw[hq] at ih;cases d with
   | false=>exact⟨F,B,⟨U.n,U.w⟩,ih⟩
   | true=>
    dsimp only;split
    ·exact DZ F B U
    ·exact⟨F,B,⟨U.n,U.w⟩⟩
 case back=>exact DZ F B (up (by have:=y.1; omega) Z)
 case flush=>exact JV F B Z
 case last=>exact Z
 case over=>exact y.elim
end
def HY (z:Int):tG z % 18446744073709551616=z % 18446744073709551616:=by
 unfold tG;rw[IntKind.wrap_i64];omega
def Yr (o:ng):Prop:=(o.d % 4=3/\(jZ o).map kM=Ye)\/(o.d % 4<2/\∃a b,jZ o=[a,b]/\a.wr=true/\b.wr=true/\a.more+b.more=0)
def P7 (D:Dg) (V:Vg) (s:Sh) (x:JM) (t:Nat) (c:Cn) (a:Ac):Prop:=
 c.kY=true/\(∀o∈c.ops,Yr o)/\(∀z∈c.pQ,z=150)/\match c.now with
 | some (.sw w)=>Tj D V s x t w a
 | some (.bl b)=>QD D V x t b
 | some (.pk p)=>Ti D V s x t p
 | none=>True
def T5 (D:Dg) (V:Vg) (s:Sh) (x:JM) (t:Nat):CR->Prop
 | (c,a,false)=>P7 D V s x t c a
 | (c,_,true)=>∀z∈c.pQ,z=150
section
variable {D D':Dg} {V V' V2:Vg} {O O':wB} {N:Int} {s s':Sh} {t u:Nat} {x x':JM} {r q:Int} {es:List Et} {e:Et} {a:Ac} {g:lA} {c:Cn} {o:ng}
def Tr.of {h p2:Pt} (h1:h.wr=true) (h2:p2.wr=true) (hm:h.more+p2.more=0) {l:List W3} (B:2<=l.length):Tr (kx [h,p2] l):=by
 match l,B with
 | w1::w2::r,_=>
  refine⟨⟨nU h w1,nU p2 w2,rfl,?_⟩,λe he=>?_⟩
  ·have E:(nU h w1).new=tG (w1.v+h.more):=if_pos h1;have F:(nU p2 w2).new=tG (w2.v+p2.more):=if_pos h2;rw[E,F];have G:=HY (w1.v+h.more);have H:=HY (w2.v+p2.more);show(tG (w1.v+h.more)+tG (w2.v+p2.more) - w1.v - w2.v) % 18446744073709551616=0;omega
  ·have he:e∈[nU h w1,nU p2 w2]:=he;simp only[aU,bF,or_false] at he;rcases he with rfl | rfl
   ·exact h1
   ·exact h2
def Ht:∀{l:List ng} {o:ng} {r:List ng},nM l=o::r->∀z∈o::r,z∈l
 | [],_,_,h=>by cases h
 | p::l,o,r,h=>by
  unfold nM at h;split at h
  ·exact λz B=>aL _ (Ht h z B)
  ·rw[h];exact λz B=>B
def IH (E:c.kY=true) (ho:∀o∈c.ops,Yr o) (hs:∀z∈c.pQ,z=150) (H:c.now=none):T5 D V s x t (lX c g):=by
 unfold lX;cases J:nM c.ops with
 | nil=>exact hs
 | cons o r=>
  have mem:=Ht J;have B:∀z∈o::r,Yr z:=λz K=>ho z (mem z K);dsimp only;generalize (if c.seen=[] then [] else c.seen.dropLast++[g.w])=seen;split
  ·exact hs
  ·split
   ·rename_i G;refine⟨E,B,hs,E,?_,⟨λi w h=>by simp[Gd] at h,.inl ⟨rfl,rfl⟩⟩⟩;rcases B o aM with ⟨_,h⟩| ⟨h,_⟩
    ·exact h
    ·omega
   ·rename_i G;split
    ·refine⟨E,B,hs,?_⟩;dsimp only;rw[H];trivial
    ·rename_i F;rcases B o aM with ⟨h,_⟩| ⟨h,Q,p2,M,w1,w2,hm⟩
     ·exact absurd h G
     ·rw[M] at F⊢;have T:=Tr.of w1 w2 hm (l:=seen) (by simp at F; omega);unfold pB;dsimp only;split
      ·rename_i c2 R he;split at he
       ·split at he
        ·cases he;exact⟨E,B,hs,E,T,trivial⟩
        ·cases he
       ·split at he
        ·omega
        ·split at he
         ·cases he;exact⟨E,B,hs,E,T,trivial⟩
         ·cases he
      ·exact hs
def P7.sim (h:P7 D V s x t c a):VY c:=λw hw=>by
 obtain⟨_,_,_,h⟩:=h;rw[hw] at h;obtain⟨_,_,h⟩:=h;cases B:w.ph <;> rw[B] at h <;> first | trivial | exact h
def tN.ka (H:SI D V N s) (B:1<=t/\t<=3) (y:tN D V O s t c a) (Z:P7 D V s x t c a):Ka D V s x.N a:=by
 obtain⟨_,_,_,Z⟩:=Z;unfold tN at y;cases h:c.now with
 | none=>
  rw[h] at y;obtain⟨_,_,_,_,_,_,_,_,_,_,_,rfl,_⟩:=y;exact .lQ (by decide)
 | some d=>
  rw[h] at y Z;obtain⟨_,_,_,y⟩:=y;cases d with
  | sw w=>
   rcases y.2 with ⟨y,_⟩| ⟨y,_⟩
   ·exact y.ka H B Z
   ·obtain⟨_,_,_,_,_,y⟩:=y;obtain⟨_,_,Z⟩:=Z;cases E:w.ph <;> rw[E] at y Z <;> first | exact y.elim | exact Z.elim
  | bl b=>exact y.1.ka H Z
  | pk p=>exact y.1.ka H Z
def P7.mono {A:Int->Prop} (H:SI D V N s) (X:Sx A u D V O N s D' V' O' s') (B:¬A 0) (R:Dr t D V O s D' V' O' s') (F:1<=t/\t<=3) (T:∀r es,D' r=some es->Tr es) (E:FX s' V2 x'.N x.N) (h:FX s' V2 (x'.A t) (x.A t)) (y:tN D V O s t c a) (Z:P7 D V s x t c a):P7 D' V' s' x' t c a:=by
 obtain⟨G,J,K,Z⟩:=Z;refine⟨G,J,K,?_⟩;unfold tN at y;cases M:c.now with
 | none=>trivial
 | some d=>
  rw[M] at y Z;obtain⟨_,_,_,y⟩:=y;cases d with
  | sw w=>
   rcases y.2 with ⟨y,_⟩| ⟨y,_⟩
   ·exact Tj.mono H X R F T E h y Z
   ·obtain⟨_,_,_,_,_,y⟩:=y;obtain⟨_,_,Z⟩:=Z;cases Q:w.ph <;> rw[Q] at y Z <;> first | exact y.elim | exact Z.elim
  | bl b=>exact QD.mono H X T E h y.1 Z
  | pk p=>exact Ti.mono H X B T E h y.1 Z
def Hl:∀(l:List W3) (n:Int),(l.foldl (λn w=>tG (n+w.v)) n) % 18446744073709551616=(n+(l.map (·.v)).sum) % 18446744073709551616
 | [],n=>by simp
 | w::l,n=>by
  rw[dY,Hl l,bS,List.sum_cons];have:=HY (n+w.v);omega
def U5 (z:Int) : -9223372036854775808<=tG z/\tG z<9223372036854775808:=by
 unfold tG;rw[IntKind.wrap_i64];omega
def Ok {l:List W3} (h:((l.map (·.v)).sum) % 18446744073709551616=150) (B:¬l=[]):l.foldl (λn w=>tG (n+w.v)) 0=150:=by
 have h1:=Hl l 0;have h2:∀(l:List W3) (n:Int),¬l=[]->-9223372036854775808<=l.foldl (λn w=>tG (n+w.v)) n/\l.foldl (λn w=>tG (n+w.v)) n<9223372036854775808:=λl=>by
  induction l with
  | nil=>exact λn h=>absurd rfl h
  | cons w l E=>
   intro n _;rw[dY];by_cases e:l=[]
   ·subst e;exact U5 _
   ·exact E _ e
 have:=h2 l 0 B;rw[Int.zero_add] at h1;omega
def P7.next {A:Int->Prop} (H:SI D V N s) (hN:N+1<1000000) (aS:1000<=N) (B:BI D V O s) (X:Sx A t D V O N s D' V' O' s') (hA:¬A 0) (ht:1<=t/\t<=3) (T:∀r es,D' r=some es->Tr es) (aT:T6 (λc=>(rX D' V' s' c).v)=150) (P':PI D' V' s' x'.N) (J:Ei t a s' V2 x x')
  (F:∀i:Nat,i<4->O i=0->DL D V x.N (9+i)) (y:tN D V O s t c a) (E:s5 t s s' a g) (Z:P7 D V s x t c a):T5 D' V' s' x' t (ll c g):=by
 obtain⟨K,M,Q,Z⟩:=Z;unfold tN at y;unfold ll;cases hn:c.now with
 | none=>exact IH K M Q hn
 | some d=>
  rw[hn] at y Z;obtain⟨_,_,_,y⟩:=y;have fin:∀U:Cd,(∀z∈A7 U,z=150)->T5 D' V' s' x' t (lX {c with done:=c.done++[wK U],pQ:=c.pQ++A7 U,ops:=c.ops.tail,now:=none} qa):=λU h=>
   IH K (λo ho=>M o (fV ho)) (λz G=>(bB.1 G).elim (Q z) (h z)) rfl
  dsimp only;unfold yG lD;cases d with
  | sw w=>
   rcases y.2 with ⟨y,_⟩| ⟨y,_⟩
   ·have o:=Tj.next H hN X ht T P' J y E Z;dsimp only;cases R:kP w g with
    | mk w' q=>
     obtain⟨a',dd⟩:=q;rw[R] at o;cases dd with
     | false=>exact⟨K,M,Q,o⟩
     | true=>exact fin (.sw w') λz G=>by cases G
   ·obtain⟨_,_,_,_,_,y⟩:=y;obtain⟨_,_,Z⟩:=Z;cases hp:w.ph <;> rw[hp] at y Z <;> first | exact y.elim | exact Z.elim
  | bl b=>
   have o:=QD.next H hN aS ht B X T P' J F y.1 E Z;dsimp only;cases R:kr b g with
   | mk b' q=>
    obtain⟨a',dd⟩:=q;rw[R] at o;cases dd with
    | false=>exact⟨K,M,Q,o⟩
    | true=>exact fin (.bl b') λz G=>by cases G
  | pk p=>
   have o:=Ti.next H hN X hA T aT P' J y.1 E Z;dsimp only;cases R:nO p g with
   | mk p' q=>
    obtain⟨a',dd⟩:=q;rw[R] at o;cases dd with
    | false=>exact⟨K,M,Q,o⟩
    | true=>
     refine fin (.pk p') λz G=>?_;have G:z∈[p'.now.foldl (λn w=>tG (n+w.v)) 0]:=G;rw[aN.1 G];have o:((p'.now.map (·.v)).sum) % 18446744073709551616=150:=o;exact Ok o λh=>by rw[h] at o;simp at o
end
structure WS (D:Dg) (V:Vg) (O:wB) (Vs:Nat->Vg) (N:Int) (m:Mj) (ts:List CR):Prop where
 si:SI D V N (sh m.me)
 bi:BI D V O (sh m.me)
 ti:∀(i:Nat) (x:CR),ts[i]?=some x->TI D V O (sh m.me) (i+1) x
 pi:PI D V (sh m.me) (Pm m.li Vs)
 sum:T6 (λc=>(rX D V (sh m.me) c).v)=150
 tc:∀(i:Nat) (x:CR),ts[i]?=some x->T5 D V (sh m.me) ⟨Pm m.li Vs,Tb m.li Vs⟩ (i+1) x
 fr:∀i:Nat,i<4->O i=0->DL D V (Pm m.li Vs) (9+i)
structure WQ (m:Mj) (ts:List CR):Prop where
 ex:∃D V O Vs N,WS D V O Vs N m ts
 li:FY m
section
variable {D D':Dg} {V V':Vg} {O O':wB} {N N':Int} {s:Sh} {t k:Nat} {m m':Mj} {ts:List CR} {c:Cn} {a:Ac} {g:lA} {x:CR}
def SI.low {B:Dg} {E:Vg} (H:SI D V N' s) (K:SI B E N s):SI D V N s:=by
 have sq:∀who v q,ke who->Td D V N' s who v q->q<=N:=λwho v q hw I=>by
  obtain⟨v2,q2,u⟩:=K.st who hw;have y:=I.eq.symm.trans u.eq;simp only[W3.mk.injEq,and_true] at y;have:=u.qr;omega
 refine⟨λwho hw=>?_,λr es hD=>?_,H.dec,H.cell,H.ord,H.done,K.j8,K.nN,H.val⟩
 ·obtain⟨v,q,I⟩:=H.st who hw;exact⟨v,q,I.eq,I.vr,⟨I.qr.1,sq who v q hw I⟩,I.z,I.op,I.known⟩
 ·obtain⟨g,who,q,hw,h,e⟩:=H.ok r es hD;obtain⟨v,q2,I⟩:=H.st who hw;have h1:=(I.known q ⟨h.1,by have:=h.2; have:=H.nN; omega⟩ es (by rw[<-e]; exact hD)).1;have h2:=sq who v q2 hw I;exact⟨g,who,q,hw,⟨h.1,by omega⟩,e⟩
def WQ.step (Q:WQ m ts) (J0:WJ m ts N k) (hN:N+1<1000000) (R:k<=1000000) (ht:1<=t) (hx:ts[t - 1]?=some (c,a,false)) (hs:Bw m t a m' g):WQ m' (ts.set (t - 1) (ll c g)):=by
 obtain⟨⟨D,V,O,Vs,N',W⟩,L⟩:=Q;have J:=J0.wi;have hG:=(J0.step hN R ht hx).1;have H:SI D V N (sh m.me):=let⟨_,_,_,K,_⟩:=J.ex;W.si.low K;have U:=(aC.1 hx).1;have hl:=J.len;have B:1<=t/\t<=3:=by omega
 have E:=hs.ZQ J.mw B;have y:=W.ti _ _ hx;have z:=W.tc _ _ hx;rw[show t - 1+1=t by omega] at y z;have y:tN D V O (sh m.me) t c a:=y;have z:P7 D V (sh m.me) ⟨Pm m.li Vs,Tb m.li Vs⟩ t c a:=z;obtain⟨D',V',O',A,X,Z,F⟩:=tN.step H hN J.n0 W.bi B y E;have Z:=Z z.sim;obtain⟨L',aS,I⟩:=hs.im L hG (Yl D' V');have ka:=y.ka H B z;have T:∀r es,D' r=some es->Tr es:=λr es hD=>X.tr H W.pi E ka hD;have K:=Ks.of H W.pi E X Z T W.sum ka;have P':=PI.step H X.si X.gs W.pi K I.n I.la;have q:=P7.next H hN J.n0 W.bi X Z B T K.sum P' I W.fr y E z;refine⟨⟨D',V',O',aS,N+1,X.si,X.bi,λi x hi=>?_,P',K.sum,λi x hi=>?_,λi hi h0=>?_⟩,L'⟩
 ·rw[bH] at hi;by_cases e:t - 1=i
  ·rw[if_pos e,if_pos U] at hi;cases hi
   rw[<-e,show t - 1+1=t by omega];exact F
  ·rw[if_neg e] at hi;have:=(aC.1 hi).1;exact(W.ti i x hi).mono H (X.rl (u:=i+1) (by omega) (by omega) B) (by omega)
 ·rw[bH] at hi;by_cases e:t - 1=i
  ·rw[if_pos e,if_pos U] at hi;cases hi
   rw[<-e,show t - 1+1=t by omega];exact q
  ·rw[if_neg e] at hi;have:=(aC.1 hi).1;have w1:=W.ti i x hi;have w2:=W.tc i x hi;obtain⟨c2,a2,d2⟩:=x;cases d2 with
   | true=>exact w2
   | false=>exact P7.mono H X Z (X.rl (u:=i+1) (by omega) (by omega) B) (by omega) T I.n (I.ev _) w1 w2
 ·by_cases e:O i=0
  ·exact(W.fr i hi e).up H X T I.n (W.bi.rd i hi e)
  ·have G:O i=t:=bC λh=>by
    have:=(X.ow i (O i) hi h e).2 rfl;omega
   unfold tN at y;obtain⟨_,_,_,z⟩:=z;cases hn:c.now with
   | none=>
    rw[hn] at y;exact absurd G (y.2.2.1 i hi)
   | some d=>
    rw[hn] at y z;obtain⟨_,_,_,y⟩:=y;cases d with
    | sw w=>exact absurd G (y.1 i hi)
    | pk p=>exact absurd G (y.2.2.1 i hi)
    | bl b=>
     rcases y.1.only with ⟨_,h⟩| h
     ·exact absurd G (h i hi)
     ·have hb:i=b.kZ:=(h.2 i hi).1 G;have nt:∀k,¬b.ph=.take k:=λk R=>by
       have M:=y.1;unfold Eu at M;rw[R] at M;cases k with
       | look=>exact M.2.2.1 i hi G
       | swap j w=>exact M.2.2.1 i hi G
       | done j=>exact M
       | full=>exact M
      have nb:=PD (g:=g) nt;have o:=QD.next H hN J.n0 B W.bi X T P' I W.fr y.1 E z;have F:JR D' V' O' (sh m'.me) t (ll c g):=F;unfold ll at F;rw[hn] at F;dsimp only at F;unfold yG lD at F;dsimp only at F;cases hq:kr b g with
      | mk b' q=>
       obtain⟨a',dd⟩:=q;rw[hq] at o F nb;cases dd with
       | true=>
        rw[hb,<-nb.1];exact o.2
       | false=>
        obtain⟨_,_,_,y2,_⟩:=F;rcases y2.only with ⟨⟨k,R⟩,_⟩| h2
        ·exact absurd R (nb.2 k)
        ·have:=(h2.2 i hi).2 (by rw[hb]; exact nb.1.symm);omega
def WQ.pik {B q:List Bool} {u:List CR} {kd z:Int} (J:WJ m ts N k) (F:N+1<1000000) (G:k<=1000000) (Q:WQ m ts) (h:QR kd z m ts B m' u q):WQ m' u:=by
 cases h with
 | stay _=>exact Q
 | stop t _=>exact Q
 | step t c a m' g _ K M H _ E=>exact Q.step J F G (by omega) H E
end
variable {h h':Hp} {F:Fp} {R:Value->Hp->Prop} {L:List km} {B B':Bs}
def Gt (ws:List W3):List W3:=(List.range 6).map λ(i:Nat)=>lF ws (56+i)
def OW (l:List W3):Int:=l.foldl (λn w=>tG (n+w.v)) 0
def Ph {l:List W3} {w:W3}:OW (l++[w])=tG (OW l+w.v):=by unfold OW; rw[fR]; rfl
section
variable {vw:Value} {ws:List W3} {z n m:Int}
def FQ (E:B.p h) (J:On B Zs) (hw:On B λh=>Sl EW h vw ws) (T:ws.length=512) (K:∀h',Gr h h'->R (.int .i64 (OW (Gt ws))) h'):S.C 72 [vw] h R:=by
 refine wj.2<|have c:=Cx.jQ h;wE λ_ g=>have c:=c.more g;c.v3 λG _ c=>?_;refine c.w3 0 λ_ c=>?_;refine jS<|c.rc 0 ?_;refine z5.by (λ(i:Nat) x z h'=>x=.int .i64 (OW ((Gt ws).take i))/\z=.int .i64 i/\i<=6/\Cx (λ_=>False) h h' [rV G [.int .i64 3,.int .i64 6,.int .i64 4]]) (λi=>6 - i) 0 ⟨rfl,rfl,aO _,c⟩ ?_;rintro i x _ M ⟨rfl,rfl,hi,c⟩ again u;refine vx j9<|lV (λq=>?_) λq=>?_
 ·refine .here<|c.rl 0 ?_;have q:(i:Int)<6:=q;refine nH (i:=(i:Int)) _ _ (J _ (B.up E c.gr)) λ_ g=>?_;have c:=c.more g;obtain⟨j,U,V,H⟩:=zl (ws:=ws) (p:=56+(i:Int)) (by omega);have O:sy (i:Int)=((56+i:Nat):Int):=by unfold sy;rw[if_pos (by omega)];omega
  have H:ws[56+i]?=some (lF ws (56+i)):=by rw[<-H];congr 1;omega
  have Q:(Gt ws).take (i+1)=(Gt ws).take i++[lF ws (56+i)]:=by unfold Gt;rw[bN,bU,fD (by omega)];rfl
  rw[O];refine .here<|vx (s0 (by omega))<|kV<|vx (hw _ (B.up E c.gr)).ln<|vx (vF (by omega))<|kV<|(hw _ (B.up E c.gr)).sN rfl H rfl (j:=0) rfl ?_;exact vx (ni _ _)<|vx (inc (by omega))<|u (i+1) _ _ _ ⟨by rw[Q,Ph],rfl,by omega,c⟩ (by omega)
 ·have q:¬(i:Int)<6:=q;rw[aW (by unfold Gt; rw[bE,dV]; omega)];exact K _ c.gr
def WB (E:0<=n) (hm:0<=m/\m<=1000000) (q:∀x h',Gr h h'->0<=x->x<=m->R (.int .i64 x) h'):S.C 86 [.int .i64 z,.int .i64 n,.int .i64 m] h R:=by
 refine Ff.2 ?_;dsimp only[Ff,vz];have c:=Cx.jQ h;refine .here<|vx (lL (by omega))<|j7<|vx (lL (by omega))<|j7<|vx kU<|lV (λG=>?_) λG=>?_
 ·first
  | exact q _ _ c.gr (bA _) hm.1
  | exact q _ _ c.gr hm.1 (bA _)
  | (refine q _ _ c.gr (eN _ (eN _ (by omega))) ?_; exact gV (fM _ (by omega)))
 ·refine vx j9<|lV (λu=>?_) λu=>?_
  ·first
   | exact q _ _ c.gr (bA _) hm.1
   | exact q _ _ c.gr hm.1 (bA _)
   | (refine q _ _ c.gr (eN _ (eN _ (by omega))) ?_; exact gV (fM _ (by omega)))
  ·have h1:0<=z.tmod 1009/\z.tmod 1009<1009:=⟨eN _ (by omega),fM _ (by decide)⟩;have h2:0<=n.tmod 1009/\n.tmod 1009<1009:=⟨eN _ E,fM _ (by decide)⟩;refine vx (zp (by decide))<|vx (Gi (by constructor <;> omega))<|vx (zp (by decide))<|vx (Gi (by constructor <;> omega))<|vx (oC (by constructor <;> omega))<|vx (zp (by decide))<|vx (oC (by constructor <;> omega))<|vx (zp (by omega)) ?_;first
   | exact q _ _ c.gr (bA _) hm.1
   | exact q _ _ c.gr hm.1 (bA _)
   | (refine q _ _ c.gr (eN _ (eN _ (by omega))) ?_; exact gV (fM _ (by omega)))
end
def LW (ws:List W3) (s:Dv):List W3:=ws.set s.1.toNat s.2
def xm (ws:List W3) (l:List (Nat × (List Dv × Int))):List W3:=l.foldl (λws x=>(x.2.1.take x.1).foldl LW ws) ws
def Mor (B:Bs) (f:Value):Prop:=∀h n m (R:Value->Hp->Prop),B.p h->0<=n->0<=m/\m<=1000000->(∀x h',Gr h h'->0<=x->x<=m->R (.int .i64 x) h')->Cw S.C S.Y I.mt f [.int .i64 n,.int .i64 m] h R
section
variable {n b:Nat} {y:LV} {l:Li} {more:Value} {z:Int}
def Ra (ws:List W3) (s:Dv):(LW ws s).length=ws.length:=aV ..
def FJ:∀(l:List Dv) (ws:List W3),(l.foldl LW ws).length=ws.length
 | [],_=>rfl
 | s::l,ws=>by rw[dY,FJ l,Ra]
def yC:∀(l:List (Nat × (List Dv × Int))) (ws:List W3),(xm ws l).length=ws.length
 | [],_=>rfl
 | x::l,ws=>by
  unfold xm;rw[dY];exact(yC l _).trans (FJ _ _)
def G4 {l:List (Nat × (List Dv × Int))} {ws:List W3} {x:Nat × (List Dv × Int)}:xm ws (l++[x])=(x.2.1.take x.1).foldl LW (xm ws l):=by unfold xm; rw[fR]; rfl
def Rk (lg:List (List Dv × Int)) (ps:List Nat):Prop:=∀(i p:Nat) (g:List Dv × Int),ps[i]?=some p->lg[i]?=some g->g.2<=(p:Int)/\p<=g.1.length
def FP:∀{ps:List Nat} {p:Nat} {lg:List (List Dv × Int)} {g:List Dv × Int},lg[ps.length]?=some g->(ps++[p]).zip lg=ps.zip lg++[(p,g)]
 | [],p,[],g,h=>by cases h
 | [],p,u::lg,g,h=>by cases h;rfl
 | q::ps,p,[],g,h=>by cases h
 | q::ps,p,u::lg,g,h=>by
  rw[dL,gF,gF,FP (by simpa using h)];rfl
def UI (J:B.p h) (H:LO B y l) (k:Lk n b l) (hb:b<=1000000) (Q:∀g∈l.lg,(0<=g.2/\g.2<=(g.1.length:Int))/\∀s∈g.1,0<=s.1/\s.1.toNat<n) (hM:Mor B more)
  (hR:∀ps u h',ps.length=l.lg.length->Rk l.lg ps->Cx (λ_=>False) h h' [kz EW (jY u) (xm l.fst (ps.zip l.lg))]->R (jY u) h'):S.C 84 [Pn y,more] h R:=by
 refine BB.2 ?_;obtain⟨us,T,iN,aT⟩:=H.lg;have hn:=k.fst;have hle:=k.le;have iS:=k.lg;have c:=Cx.jQ h;refine c.v3 λU _ c=>?_;refine jS<|c.rc 0 ?_;refine yF (H.fst _ (B.up J c.gr)) (by omega) λuo _ d=>have c:=c.jT d;have c:=c.n2;jS<|c.rc 0 ?_;refine vx (T _ (B.up J c.gr)).ln<|sO.by (λ(i:Nat) z h'=>z=.int .i64 i/\i<=us.length/\∃ps:List Nat,ps.length=i/\Rk l.lg ps/\Cx (λ_=>False) h h' [rV U (cLn y),kz EW (jY uo) (xm l.fst (ps.zip l.lg))]) (λi=>us.length - i) 0 ⟨rfl,aO _,[],rfl,λi p g h=>by simp at h,c⟩ ?_;rintro i _ oF ⟨rfl,hi,ps,K,V,c⟩ again G;refine vx j9<|lV (λbY=>?_) λbY=>?_
 ·have hu:=aB (l:=us) (i:=i) (by omega);have M:=aB (l:=l.lg) (i:=i) (by omega);generalize us[i]'(by omega)=u at hu;generalize l.lg[i]'(by omega)=g at M;obtain⟨g1,O⟩:=aT i u g hu M;obtain⟨gk,gl⟩:=Q g (aG M);have gb:=k.len g (aG M);obtain⟨u1,u2⟩:=u;dsimp only at g1 O;subst g1;refine(T _ (B.up J c.gr)).whole rfl hu rfl ?_;refine c.v2 λ_ _ c=>?_;refine c.w2 2 λ_ c=>?_;refine jS<|c.rc 2 ?_;refine jS<|c.rc 2 ?_;refine jS<|c.rc 2 ?_;refine vx (O _ (B.up J c.gr)).ln<|jS<|c.rc 2 ?_;refine vx (nu (by constructor <;> omega))<|hM _ (i:Int) _ _ (B.up J c.gr) (by omega) (by omega) λx _ dO x0 x1=>have c:=c.more dO;c.ac 2<|c.ac 2<|?_;obtain⟨p,hp⟩:∃p:Nat,g.2+x=p:=⟨(g.2+x).toNat,by omega⟩;refine vx (oC (by constructor <;> omega)) ?_;rw[hp];obtain⟨w,ew,hw,_⟩:=(O _ (B.up J c.gr)).sub (n:=4) rfl (lo:=none) (hi:=some (.int .i64 (p:Int))) (l:=0) (u:=p) (.inl ⟨rfl,rfl⟩) (.inr ⟨_,_,rfl,rfl⟩) (aO _) (by omega);rw[dW] at hw;refine vx ew<|vx hw.ln ?_;have oR:(g.1.take p).length=p:=by rw[aR];omega
  refine sO.by (λ(j:Nat) z h'=>z=.int .i64 j/\j<=p/\Cx (λ_=>False) h h' [rV U (cLn y),kz EW (jY uo) (((g.1.take p).take j).foldl LW (xm l.fst (ps.zip l.lg)))]) (λj=>p - j) 0 ⟨rfl,aO _,c.pick [0,1]⟩ ?_;rintro j _ rW ⟨rfl,hj,c⟩ aS q;refine vx j9<|lV (λE=>?_) λE=>?_
  ·have E:(j:Int)<((g.1.take p).length:Nat):=E;have hs:=aB (l:=g.1.take p) (i:=j) (by omega);generalize (g.1.take p)[j]'(by omega)=s at hs;have eQ:=gl s (dR (aG hs));have ht:(g.1.take p).take (j+1)=(g.1.take p).take j++[s]:=by rw[bN,hs];rfl
   obtain⟨s1,s2⟩:=s;dsimp only at eQ;obtain⟨j0,rfl⟩:∃j0:Nat,s1=j0:=⟨s1.toNat,by omega⟩;obtain⟨w',iF,X,_⟩:=(O _ (B.up J c.gr)).sub (n:=4) rfl (lo:=none) (hi:=some (.int .i64 (p:Int))) (l:=0) (u:=p) (.inl ⟨rfl,rfl⟩) (.inr ⟨_,_,rfl,rfl⟩) (aO _) (by omega);rw[dW] at X;obtain rfl:=cU (ew.symm.trans iF);refine X.whole rfl hs rfl ?_;refine c.v4 λ_ _ c=>?_;refine c.w4 2 λ_ c=>?_;refine jS<|c.rc 2 ?_;refine jS<|vx (c.vp (i:=2) (ds:=[_,_,_]) rfl rfl rfl)<|c.Bp 1 rfl (j:=j0) (by rw[FJ,yC]; omega) s2 rfl rfl rfl λ_ c=>have c:=c.n3;vx (inc (by omega))<|q (j+1) _ _ ⟨rfl,by omega,by rw[ht,fR]; exact c.pick [0,1]⟩ (by omega)
  ·have E:¬(j:Int)<((g.1.take p).length:Nat):=E;refine vx (inc (by omega)) ?_;rw[aW (by omega:(g.1.take p).length<=j)] at c;have hz:=FP (ps:=ps) (p:=p) (lg:=l.lg) (g:=g) (by rw[K]; exact M);refine G (i+1) _ _ ⟨rfl,by omega,ps++[p],by rw[aF,K]; rfl,λi2 p2 O Z q2=>?_,by rw[hz,G4]; exact c.pick [0,1]⟩ (by omega);rcases gZ i2 ps.length with h | h
   ·rw[aY h] at Z;exact V i2 p2 O Z q2
   ·have:=(aC.1 Z).1;rw[aF,aE] at this;obtain rfl:i2=ps.length:=by omega
    rw[bD (aP _),fA] at Z;cases Z
    rw[K,M] at q2;cases q2
    omega
 ·exact hR ps uo _ (by omega) V (c.pick [1])
end
def X6 (n:Nat) (lg:List (List Dv × Int)):Prop:=∀g∈lg,(0<=g.2/\g.2<=(g.1.length:Int))/\∀s∈g.1,0<=s.1/\s.1.toNat<n
section
variable {n b T:Nat} {y:LV} {l:Li} {z:Int} {v:MV} {m:Mj}
def QX (E:B.p h) (H:LO B y l) (k:Lk n b l) (G:b<=1000000) (q:X6 n l.lg)
  (J:∀ps u h',ps.length=l.lg.length->Rk l.lg ps->Cx (λ_=>False) h h' [kz EW (jY u) (xm l.fst (ps.zip l.lg))]->R (jY u) h'):S.C 57 [Pn y,.int .i64 z] h R:=by
 refine z8.2<|have c:=Cx.jQ h;c.v3 λ_ _ c=>?_;refine c.v1 λch _ c=>?_;replace c:=c.n2;refine c.rl 0 ?_;refine vx rfl ?_;have c:=Cx.pack (L:=[_]) (M:=[_]) (c.pick [0,1]);refine UI (B:=B.and [rV ch [.int .i64 z]]) ⟨B.up E c.gr,c.get (i:=1) rfl⟩ (H.le (Bs.jX _ _)) k G q (λh1 n1 X Z K O hm Q=>.inl (.inl ⟨85,#[],#[kC ch],rfl,xZ.2 (vx ((Fr.of (i:=0) rfl).lc K rfl) (WB O hm Q))⟩)) λps u _ U V d=>have c:=c.jT d;have c:=c.n3;J ps u _ U V (c.pick [2])
def RZ (G:B.p h) (H:Ab B T v m) (k:Ce T n b m) (O:b<=1000000) (Q:1<=T/\T<=8) (hn:1<=n) (q:X6 n m.li.lg)
  (U:∀ps E M h',ps.length=m.li.lg.length->Rk m.li.lg ps->Cx (λ_=>False) h h' [jR M]->Ab (B.and M) T E (Mj.new T (xm m.li.fst (ps.zip m.li.lg)))->R (CW E) h'):S.C 34 [CW v,.int .i64 z] h R:=by
 have hle:=k.me.le;obtain⟨ss,J,K⟩:=H.st;have V:=(k.li.k none).fst;refine vA.2<|have c:=Cx.jQ h;c.v7 λ_ _ c=>?_;refine c.v7 λ_ _ c=>?_;refine c.rl 0 ?_;refine BE (v:=v) (B.up G c.gr) H.ko (k.kk H) λ_ g=>have c:=c.more g;vx rfl<|vx rfl ?_;refine .here<|vx (m6 (by omega))<|j7<|vx (m6 (by omega))<|j7<|jS<|vx (c.vp (i:=0) (ds:=[_,_,_]) rfl rfl rfl)<|QX (y:=v.y) (B.up G c.gr) H.ko.li (k.kk H).li O q λps u _ X Z d=>?_;have c:=c.jT d;have hlen:(xm m.li.fst (ps.zip m.li.lg)).length=n:=(yC _ _).trans V;replace c:=c.n3;refine Qv (c.sl (i:=2) rfl).sl Q (by rw[show(xm H.mc.li.fst (ps.zip H.mc.li.lg)).length=n from hlen]; omega) λE M _ d ok=>have c:=c.jT d;have c:=c.n4;vx rfl<|vx rfl<|c.v7 λ_ _ c=>?_;refine c.w7 4 λ_ c=>?_;refine vx (v:=.bool false) rfl<|j7<|jS<|c.rc 0 ?_;refine jS<|c.rc 0 ?_;refine vx (ni _ _)<|sA (J _ (B.up G c.gr)) (by omega) λus _ d=>have c:=c.jT d;have c:=c.n6;c.ac 0<|jS<|c.q7 4 λ_ c=>?_;refine c.ac 0<|jS<|c.q7 4 λ_ c=>?_;refine c.rl 4 ?_;refine c.w7 1 λ_ c=>?_;refine c.rl 1 ?_;exact U ps ⟨E.x,E.y,us,tG (v.cr+1)⟩ [jR M,kz rI (jY us) ss] _ X Z (Cx.pack (L:=[]) (c.pick [3,5])) (Ab.new ⟨(ok B).me.le λh b=>⟨b.1,Bs.star b (i:=0) rfl⟩,(ok B).li.le λh b=>⟨b.1,Bs.star b (i:=0) rfl⟩,ss,On.sl (i:=1) rfl,K⟩)
end
section
variable {m:Mj} {ts:List CR} {lg:List (List Dv × Int)} {ws:List W3} {ps:List Nat} {i n:Nat} {x:W3}
def Mt (i:Nat) (x:W3) (s:Dv):W3:=if s.1=(i:Int) then s.2 else x
def NZ:∀(st:List Dv) {ws:List W3} {x:W3},ws[i]?=some x->(∀s∈st,0<=s.1)->(st.foldl LW ws)[i]?=some (st.foldl (Mt i) x)
 | [],_,_,h,_=>h
 | s::st,ws,x,h,hs=>by
  rw[dY,dY];refine NZ st ?_ λz q=>hs z (aL _ q);have u:=hs s aM;have hi:=(aC.1 h).1;unfold LW Mt;rw[bH];by_cases e:s.1=(i:Int)
  ·rw[if_pos e,if_pos (by omega),if_pos (by omega)]
  ·rw[if_neg e,if_neg (by omega)];exact h
def Nj:∀(st:List Dv) (x:W3),(∀s∈st,¬s.1=(i:Int))->st.foldl (Mt i) x=x
 | [],_,_=>rfl
 | s::st,x,h=>by
  rw[dY,show Mt i x s=x from if_neg (h s aM)];exact Nj st x λz q=>h z (aL _ q)
def Q5 (q:∀n g,lg[n]?=some g->∀s∈g.1,∃j:Nat,s.1=(j:Int)/\j / 8=n) (F:ws[i]?=some x) (J:ps.length<=lg.length):∀j,j<=ps.length->(xm ws ((ps.take j).zip lg))[i]?=some (if i / 8<j then((lg.getD (i / 8) ([],0)).1.take (ps.getD (i / 8) 0)).foldl (Mt i) x else x)
 | 0,_=>by
  rw[if_neg (iT _),gM,List.zip_nil_left];exact F
 | j+1,Q=>by
  have K:=Q5 q F J j (by omega);have E:=aB (l:=ps) (i:=j) (by omega);have B:=aB (l:=lg) (i:=j) (by omega);generalize ps[j]'(by omega)=p at E;generalize lg[j]'(by omega)=g at B;have M:(ps.take j).length=j:=by rw[aR];omega
  have O:=FP (ps:=ps.take j) (p:=p) (lg:=lg) (g:=g) (by rw[M]; exact B);rw[bN,E,eS,O,G4];have u:=q j g B;rw[NZ _ K λs hs=>by
   obtain⟨k,e,_⟩:=u s (dR hs);omega]
  congr 1;by_cases e:i / 8=j
  ·rw[if_neg (by omega),if_pos (by omega)];have G:lg.getD j ([],0)=g:=by rw[aI,B];rfl
   have H:ps.getD j 0=p:=by rw[aI,E];rfl
   rw[e,G,H]
  ·rw[Nj _ _ λs hs h=>by
    obtain⟨k,G,H⟩:=u s (dR hs);omega]
   by_cases c:i / 8<j
   ·rw[if_pos c,if_pos (by omega)]
   ·rw[if_neg c,if_neg (by omega)]
def FY.img (L:FY m) (G:m.li.fst.length=512) (q:ps.length=m.li.lg.length) (hi:i<512):(xm m.li.fst (ps.zip m.li.lg))[i]?=some (Ca m.li (ps.getD (i / 8) 0) i):=by
 have u:=aB (l:=m.li.fst) (i:=i) (by omega);have h:=Q5 (lg:=m.li.lg) (ps:=ps) (λn g B s hs=>by
  obtain⟨⟨j,E,F,_⟩,_⟩:=L.loc n s (by unfold Lj.at; rw[aI,B]; exact hs);exact⟨j,E,F⟩) u (Nat.le_of_eq q) ps.length (aP _)
 rw[dD,if_pos (by rw[q,L.lg]; omega)] at h;rw[h];unfold Ca;rw[u];rfl
def JB:∀(st:List Dv) (x:W3),Ww x->(∀s∈st,Ww s.2)->Ww (st.foldl (Mt i) x)
 | [],_,h,_=>h
 | s::st,x,h,hs=>by
  rw[dY];refine JB st _ ?_ λz q=>hs z (aL _ q);unfold Mt;split
  ·exact hs s aM
  ·exact h
def FY.Z8 (L:FY m) (p i:Nat):Ww (Ca m.li p i):=JB _ _ (L.wf i) λs hs=>(L.loc _ s (dR hs)).2
def FY.aa1 (L:FY m):X6 512 m.li.lg:=λg h=>by
 obtain⟨n,q,rfl⟩:=bK.1 h;have e:m.li.at n=m.li.lg[n]:=by
  unfold Lj.at;rw[aI,aB q];rfl
 have h1:=L.kept n;have h2:=L.loc n;rw[e] at h1 h2;refine⟨h1,λs hs=>?_⟩;obtain⟨⟨j,u,_,B⟩,_⟩:=h2 s hs;omega
def WQ.QU (Q:WQ m ts) (u:m.li.fst.length=512) (B:ps.length=m.li.lg.length) (ho:Rk m.li.lg ps) :
  T6 (λc=>(ve (lF (xm m.li.fst (ps.zip m.li.lg))) c).v)=150/\∀w∈xm m.li.fst (ps.zip m.li.lg),Ww w:=by
 obtain⟨⟨D,V,O,J,N,W⟩,L⟩:=Q;have hlen:(xm m.li.fst (ps.zip m.li.lg)).length=512:=(yC _ _).trans u;have hw:∀i:Nat,i<512->lF (xm m.li.fst (ps.zip m.li.lg)) i=Ca m.li (ps.getD (i / 8) 0) i:=λi hi=>An (by omega) (by rw[bQ]; exact L.img u B hi);have h:∀n,n<64->(m.li.at n).2<=(ps.getD n 0:Nat)/\ps.getD n 0<=(m.li.at n).1.length:=λn G=>by
  have h1:=aB (l:=ps) (i:=n) (by rw[B,L.lg]; exact G);have h2:=aB (l:=m.li.lg) (i:=n) (by rw[L.lg]; exact G);have:=ho n _ _ h1 h2;unfold Lj.at;rw[aI,aI,h1,h2];exact this
 refine⟨W.pi.QU W.si (C:=λc=>Ca m.li (ps.getD 7 0) c.toNat) (V0:=J (ps.getD 7 0)) (L:=λwho k=>Ca m.li (ps.getD (jP who / 8).toNat 0) ((jP who).toNat+k.toNat)) ⟨_,(h 7 (by decide)).1,(h 7 (by decide)).2,λc _ _=>rfl,rfl⟩ (λwho hw=>?_) (λc h1 h2=>?_) λwho E k h1 h2=>?_,λw hm=>?_⟩
 ·obtain⟨n,H,q,K,M,F,_⟩:=YY hw;exact⟨_,by rw[q]; exact(h n F).1,by rw[q]; exact(h n F).2,λj _=>by dsimp only; rw[bQ,q]⟩
 ·obtain⟨i,rfl⟩:∃i:Nat,c=i:=⟨c.toNat,by omega⟩;rw[hw i (by omega),show i / 8=7 by omega];rfl
 ·obtain⟨n,H,q,K,M,F,_⟩:=YY E;obtain⟨j,rfl⟩:∃j:Nat,k=j:=⟨k.toNat,by omega⟩;rw[H,show(8*(n:Int)+j)=((8*n+j:Nat):Int) by omega,hw _ (by omega),show(8*n+j) / 8=n by omega];rw[show(8*(n:Int)).toNat=8*n by omega,show(8*(n:Int) / 8).toNat=n by omega,bQ]
 ·obtain⟨i,hi,rfl⟩:=bK.1 hm;have e:=L.img (i:=i) u B (by omega);rw[aB hi] at e;rw[cU e];exact L.Z8 _ _
def WQ.sum (Q:WQ m ts):T6 (λc=>(ve (sh m.me).W c).v)=150:=by
 obtain⟨⟨D,V,O,h,N,W⟩,L⟩:=Q;rw[<-W.sum];exact T6.congr λc h1 h2=>by rw[H9 W.si h1 h2]
end
def OD {T:Nat} {ws:List W3}:(Mj.new T ws).words=ws:=by
 have q:(Mj.new T ws).me.hs.length=ws.length:=bE ..;refine gK λi=>?_;by_cases h:i<ws.length
 ·rw[Mj.BD (by rw[q]; exact h),aB h];unfold Me.top;have:(Mj.new T ws).me.at i=[⟨ws[i],λ_=>0⟩]:=by
   show(ws.map λw=>[(⟨w,λ_=>0⟩:AM)]).getD i []=_;rw[aI,bU,aB h];rfl
  rw[this];rfl
 ·rw[bW (by rw[Mj.tq,q]; omega),bW (by omega)]
def Ni {ws:List W3} (u:ws.length=512) (h:T6 (λc=>(ve (lF ws) c).v)=150):OW (Gt (uC ws))=150:=by
 have q:(Gt (uC ws)).length=6:=by unfold Gt;rw[bE,dV]
 refine Ok ((Oo (f:=ve (lF ws)) q λi w hw=>?_).trans h) λe=>by rw[e] at q;cases q
 have hi:=(aC.1 hw).1;unfold Gt at hw;rw[bU,fD (by omega)] at hw;have hw:=cU hw;have e:=tS (ws:=ws) (i:=56+i) (by omega);rw[if_pos (by
  match i,(show i<6 by omega) with
  | 0,_=>rfl
  | 1,_=>rfl
  | 2,_=>rfl
  | 3,_=>rfl
  | 4,_=>rfl
  | 5,_=>rfl)] at e
 rw[<-hw];show(lF (uC ws) (56+(i:Int))).v=_;rw[An (p:=56+(i:Int)) (x:=ve (lF ws) ((56+i:Nat):Int)) (by omega) (by rw[show(56+(i:Int)).toNat=56+i by omega]; exact e)];rw[show((56+i:Nat):Int)=56+(i:Int) by omega]
def MN {q:Nat} {ch:Int}:N7 (λm ts=>WQ m ts) q true ch:=by
 intro B h F R w m ts aS Ws n k N st uw c u O H hn J Q hu X;obtain⟨E,aT,U⟩:=J.words;have now:=Ni E (by rw[U]; exact Q.sum);replace c:Cx _ _ _ [_]:=c;refine c.v9 λ_ _ c=>?_;refine vx rfl<|jS<|c.rc 0 ?_;refine vx (ni _ _)<|vx rfl<|jS<|c.q3 0 λ_ c=>?_;refine vx rfl<|jS<|c.rc 0 ?_;refine vx (v:=.bool false) (rfl)<|j7<|wE λ_ g=>have c:=c.more g;c.v3 λ_ _ c=>?_;refine c.w3 2 λ_ c=>?_;refine .here<|vx rfl<|jS<|c.rc 0 ?_;refine vx (zp (by decide))<|vx kU<|lV (λV=>?_) λV=>?_
 ·refine c.rl 2 ?_;refine jS<|vx (c.vp (i:=1) (ds:=[_,_,_,_,_,_,_]) rfl rfl rfl)<|vx rfl<|jS<|c.rc 0 ?_;refine vx rfl<|jS<|c.rc 0 ?_;refine vx (ni _ _) ?_;obtain⟨⟨bY,dO,b,hO,Z,eQ,_⟩,_⟩:=id H;have hf:=(Z.li.k none).fst;refine RZ (v:=w.m) (T:=3) (n:=512) (b:=b) (u _ c.gr) hO.ko Z (by omega) (by decide) (by decide) Q.li.aa1 λps v' M1 _ e1 e2 d ok=>?_;have c:=c.jT d;obtain⟨G,K⟩:=Q.QU hf e1 e2;have M:=(yC (ps.zip m.li.lg) m.li.fst).trans hf;generalize xm m.li.fst (ps.zip m.li.lg)=ws at ok G K M;replace c:=c.n4;refine c.al 2<|lU.2 (D1 (B:=B.and M1) (v:=v') (b:=1) (n:=512) (T:=3) ⟨u _ c.gr,c.get (i:=3) rfl⟩ ok (by have:=Ce.new (T:=3) (ws:=ws) (by decide) (by omega); rwa [M] at this) (by decide) λu1 _ d=>?_);have c:=c.jT d;rw[OD] at c;replace c:=c.n5;refine c.al 2<|mJ.2 (LB (B:=Bs.of _) (Ch.refl _ _) (λh' g=>(O _ (u _ c.gr)).gr g) (λh' g=>(c.sl (i:=4) rfl).sl.gr g) M K λg1 _ d=>?_);have c:=c.jT d;replace c:=c.n6;refine FQ (B:=Bs.of _) (Ch.refl _ _) (λh' g=>(O _ (u _ c.gr)).gr g) (λh' g=>(c.sl (i:=5) rfl).sl.gr g) (rT.trans M) λ_ g=>?_;have c:=c.more g;rw[Ni M G];refine vx (v:=.bool false) rfl<|j7<|FQ (B:=Bs.of _) (Ch.refl _ _) (λh' g=>(O _ (u _ c.gr)).gr g) (λh' g=>(hu _ (u _ c.gr)).gr g) (rT.trans E) λ_ g=>?_;have c:=c.more g;rw[now];exact vx (v:=.bool true) rfl<|X _ _ (c.pick [0])
 ·refine j7<|FQ (B:=Bs.of _) (Ch.refl _ _) (λh' g=>(O _ (u _ c.gr)).gr g) (λh' g=>(hu _ (u _ c.gr)).gr g) (rT.trans E) λ_ g=>?_;have c:=c.more g;rw[now];exact vx (v:=.bool true) rfl<|X _ _ (c.pick [0])
def Uc:List Pt:=(List.range 6).map λk=>⟨k,0,false⟩
def Gv (o:ng):Option ng:=
 if o.d % 4=3 then some ⟨o.d,Uc⟩ else match o.ps with
 | a::b::_=>if a.cell % 6=b.cell % 6 then none else some ⟨o.d % 4 % 2,[⟨a.cell,a.more.tdiv 2,true⟩,⟨b.cell,-a.more.tdiv 2,true⟩]⟩
 | _=>none
def EH {z:Int} (h : -128<=z/\z<=127) : -64<=z.tdiv 2/\z.tdiv 2<=63:=by
 rcases Int.le_total 0 z with p | p
 ·rw[eP p];omega
 ·have:z.tdiv 2 = -((-z).tdiv 2):=by rw[Int.neg_tdiv,Int.neg_neg]
  rw[this,eP (by omega)];omega
def X8 {a b:Pt} (h:¬a.cell % 6=b.cell % 6) {d:Nat} (H:d<2):jZ ⟨d,[a,b]⟩=[a,b]\/jZ ⟨d,[a,b]⟩=[b,a]:=by
 unfold jZ;rw[if_neg (by dsimp only; omega)];unfold ptL;have q:a.cell % 6<6:=jJ _ (by decide);have u:b.cell % 6<6:=jJ _ (by decide);generalize E:a.cell % 6=x at h q;generalize G:b.cell % 6=y at h u;obtain rfl | rfl | rfl | rfl | rfl | rfl:x=0\/x=1\/x=2\/x=3\/x=4\/x=5:=by omega
 all_goals
  obtain rfl | rfl | rfl | rfl | rfl | rfl:y=0\/y=1\/y=2\/y=3\/y=4\/y=5:=by omega
  all_goals first
   | exact absurd rfl h
   | (simp[List.range,List.range.loop,E,G])
def WZ {o E:ng} (k:Hk o) (h:Gv o=some E):Yr E/\Hk E:=by
 unfold Gv at h;split at h
 ·rename_i e;cases h
  exact⟨.inl ⟨e,by unfold jZ; rw[if_neg (by dsimp only; omega)]; rfl⟩,k.d,(show Uc.length<=9223372036854775807 by decide),λp q=>by
   unfold Uc at q;obtain⟨i,hi,rfl⟩:=dC.1 q;have:=dP.1 hi;exact⟨by dsimp only; omega,(show(-128:Int)<=0 by decide),(show(0:Int)<=127 by decide)⟩⟩
 ·rename_i e;split at h
  ·rename_i a b r u;split at h
   ·cases h
   ·rename_i ne;cases h
    have ka:=k.pt a (by rw[u]; exact aM);have G:=k.pt b (by rw[u]; exact aL _ aM);have H:=EH ka.2;refine⟨.inr ⟨by dsimp only; omega,?_⟩,by dsimp only; omega,(show 2<=9223372036854775807 by decide),λp q=>?_⟩
    ·rcases X8 (a:=⟨a.cell,a.more.tdiv 2,true⟩) (b:=⟨b.cell,-a.more.tdiv 2,true⟩) ne (d:=o.d % 4 % 2) (by omega) with e | e
     ·exact⟨_,_,e,rfl,rfl,by dsimp only; omega⟩
     ·exact⟨_,_,e,rfl,rfl,by dsimp only; omega⟩
    ·simp only[aU,bF,or_false] at q;rcases q with rfl | rfl
     ·exact⟨ka.1,by dsimp only; omega,by dsimp only; omega⟩
     ·exact⟨G.1,by dsimp only; omega,by dsimp only; omega⟩
  ·cases h
def MY (B:Bs) (l:List (Int × SH)) (q:List ng):Prop:=l.length=q.length/\∀(i:Nat) (a:Int × SH) (o:ng),l[i]?=some a->q[i]?=some o->a.1=o.d/\On B λh=>Sl xx h (jY a.2) o.ps
def Il (B:Bs) (us:List SH) (opss:List (List ng)):Prop:=us.length=opss.length/\∀(i:Nat) (u:SH) (ops:List ng),us[i]?=some u->opss[i]?=some ops->sT B u ops
def MY.le {l:List (Int × SH)} {q:List ng} (H:MY B l q) (e:B.le B'):MY B' l q:=⟨H.1,λi a o h1 h2=>⟨(H.2 i a o h1 h2).1,(H.2 i a o h1 h2).2.le e⟩⟩
def Il.le {us:List SH} {opss:List (List ng)} (H:Il B us opss) (e:B.le B'):Il B' us opss:=⟨H.1,λi u o h1 h2=>(H.2 i u o h1 h2).le e⟩
def BH {α:Type} {l:List α} {x y:α} {i:Nat} (h:(l++[x])[i]?=some y):l[i]?=some y\/(i=l.length/\y=x):=by
 rcases gZ i l.length with k | k
 ·rw[aY k] at h;exact .inl h
 ·have:=(aC.1 h).1;rw[aF,aE] at this;obtain rfl:i=l.length:=by omega
  rw[bD (aP _),fA] at h;cases h
  exact .inr ⟨rfl,rfl⟩
def MY.snoc {l:List (Int × SH)} {E:List ng} {a:Int × SH} {o:ng} (H:MY B l E) (h1:a.1=o.d) (h2:On B λh=>Sl xx h (jY a.2) o.ps):MY B (l++[a]) (E++[o]):=by
 refine⟨by rw[aF,aF,H.1]; rfl,λi G J q u=>?_⟩;rcases BH q with q | ⟨q,rfl⟩ <;> rcases BH u with u | ⟨u,rfl⟩
 ·exact H.2 i G J q u
 ·have:=(aC.1 q).1;have:=H.1;omega
 ·have:=(aC.1 u).1;have:=H.1;omega
 ·exact⟨h1,h2⟩
def Il.snoc {us:List SH} {opss:List (List ng)} {u:SH} {ops:List ng} (H:Il B us opss) (h:sT B u ops):Il B (us++[u]) (opss++[ops]):=by
 refine⟨by rw[aF,aF,H.1]; rfl,λi G J q E=>?_⟩;rcases BH q with q | ⟨q,rfl⟩ <;> rcases BH E with E | ⟨E,rfl⟩
 ·exact H.2 i G J q E
 ·have:=(aC.1 q).1;have:=H.1;omega
 ·have:=(aC.1 E).1;have:=H.1;omega
 ·exact h
section
variable {us:List SH} {opss:List (List ng)} {vo:Value}
def cvB {k:Nat} (h:k<256):NY .u8 (.int .i64 k)=some (.int .u8 k):=by
 have e:IntKind.u8.wrap (k:Int)=k:=by rw[IntKind.wrap_u8];omega
 simp[NY,e]
def i8_in {n:Int} (h : -128<=n/\n<=127):IntKind.i8.wrap n=n:=by
 show(if (true&&decide (n % 256>=128))=true then n % 256 - 256 else n % 256)=n;by_cases c:n % 256>=128
 ·rw[if_pos (by simp[c])];omega
 ·rw[if_neg (by simp[c])];omega
def aa5 {z:Int} (h : -128<=z/\z<=127):bin .quo (.int .i8 z) (.int .i8 2)=some (.int .i8 (z.tdiv 2)):=by
 have:=EH h;rw[Nh (by decide),i8_in (by omega)]
def aar {z:Int} (h : -64<=z/\z<=63):Qb .neg (.int .i8 z)=some (.int .i8 (-z)):=by
 have e:IntKind.i8.wrap (-z) = -z:=i8_in (by omega);simp[Qb,e]
def Uk {l:List ng} {o:ng} {j:Nat} (h:l[j]?=some o):(l.take (j+1)).filterMap Gv=(l.take j).filterMap Gv++(Gv o).toList:=by
 rw[bN,h,eS,iZ];congr 1
def OA {o:ng} (q:¬o.d % 4=3) (h:∀a b r,o.ps=a::b::r->a.cell % 6=b.cell % 6):Gv o=none:=by
 unfold Gv;rw[if_neg q];split
 ·rename_i a b r u;exact if_pos (h a b r u)
 ·rfl
def LU (X:B.p h) (hv:On B λh=>Sl EH1 h vo us) (hl:us.length=opss.length) (ho:∀(i:Nat) u ops,us[i]?=some u->opss[i]?=some ops->sT B u ops) (hm:opss.length<=3/\∀ops∈opss,ops.length<=8) (hk:∀ops∈opss,∀o∈ops,Hk o)
  (hR:∀M uo H h',Cx (λ_=>False) h h' [jR M,kz EH1 (jY uo) H]->Il (B.and M) H (opss.map λops=>ops.filterMap Gv)->R (jY uo) h'):S.C 19 [vo] h R:=by
 refine vZ.2<|have c:=Cx.jQ h;vx (hv _ (B.up X c.gr)).ln ?_;have c:=(c.BO).nil EH1;refine z5.by (λ(i:Nat) x z h'=>z=.int .i64 i/\i<=us.length/\∃M H,Cx (λ_=>False) h h' [jR M,kz EH1 x H]/\Il (B.and M) H ((opss.take i).map λops=>ops.filterMap Gv)) (λi=>us.length - i) 0 ⟨rfl,aO _,[],[],c,rfl,λi u ops h=>by simp at h⟩ ?_;rintro i x _ h1' ⟨rfl,hi,M,H,c,q⟩ again Z;replace c:=c.n2;refine vx j9<|lV (λeQ=>?_) λeQ=>?_
 ·have hu:=aB (l:=us) (i:=i) (by omega);have aS:=aB (l:=opss) (i:=i) (by omega);generalize us[i]'(by omega)=u at hu;generalize opss[i]'(by omega)=ops at aS;obtain⟨l,l1,l2,l3⟩:=ho i u ops hu aS;have aT:=aG aS;have h8:=hm.2 ops aT;refine(hv _ (B.up X c.gr)).one rfl hu rfl (u:=jY u) rfl ?_;refine vx (l1 _ (B.up X c.gr)).ln ?_;have c:=c.nil IU;refine z5.by (λ(j:Nat) y z h'=>z=.int .i64 j/\j<=l.length/\∃M U,Cx (λ_=>False) h h' [jR M,kz EH1 x H,kz IU y U]/\Il (B.and M) H ((opss.take i).map λops=>ops.filterMap Gv)/\MY (B.and M) U ((ops.take j).filterMap Gv)) (λj=>l.length - j) 0 ⟨rfl,aO _,M,[],c,q,rfl,λi a o h=>by simp at h⟩ ?_;clear c q;rintro j y _ h2' ⟨rfl,hj,M,U,c,q,E⟩ bY G;have hlm:U.length<=8:=by rw[E.1];exact cD (fZ _ _) (by rw[aR]; omega)
  replace c:=c.n3;refine vx j9<|lV (λiF=>?_) λiF=>?_
  ·refine .here ?_;have ha:=aB (l:=l) (i:=j) (by omega);have hq:=aB (l:=ops) (i:=j) (by omega);generalize l[j]'(by omega)=a at ha;generalize ops[j]'(by omega)=o at hq;obtain⟨a1,a2⟩:=l3 j a o ha hq;have ok:=hk ops aT o (aG hq);have fm:=Uk hq;obtain⟨ad,ap⟩:=a;dsimp only at a1 a2;subst a1;refine(l1 _ (B.up X c.gr)).whole rfl ha rfl ?_;refine c.v2 λiN _ c=>?_;refine c.w2 3 λ_ c=>?_;refine jS<|c.rc 3 ?_;refine vx (Ah (by omega) (by decide))<|vx kU<|lV (λiS=>?_) λiS=>?_
   ·refine jS<|c.q2 3 λ_ c=>?_;have c:=c.nil xx;refine sO.by (λ(k:Nat) z h'=>z=.int .i64 k/\k<=6/\∃u:SH,Cx (λ_=>False) h h' [jR M,kz EH1 x H,kz IU y U,rV iN [.int .u8 o.d,jY u],kz xx (jY u) (Uc.take k)]) (λk=>6 - k) 0 ⟨rfl,aO _,(none,0,0),c⟩ ?_;clear c;rintro k _ h7' ⟨rfl,hk6,up,c⟩ dO Q;replace c:=c.n5;refine vx j9<|lV (λoF=>?_) λoF=>?_
    ·refine jS<|c.rc 3 ?_;have oR:Uc.take (k+1)=Uc.take k++[⟨k,0,false⟩]:=by unfold Uc;rw[bN,bU,fD (by omega)];rfl
     refine vx (cvB (by omega))<|vx (jU (ds:=[_,_,_]) rfl)<|c.lW xx (⟨k,0,false⟩:Pt) rfl rfl λv35 _ c=>have c:=c.n6;c.ap 4 rfl (c.sl (i:=5) rfl).sl rfl rfl (by simp only[aR,aH,aJ]; omega) (by simp only[aR,aH,aJ]; omega) λv36 _ c=>?_;rw[<-oR] at c;obtain⟨u2,rfl⟩:=(c.sl (i:=4) rfl).tW;replace c:=c.n6;refine jS<|c.q2 3 λ_ c=>?_;exact vx (inc (by omega))<|Q (k+1) _ _ ⟨rfl,by omega,u2,c.pick [0,1,2,3,4]⟩ (by omega)
    ·refine c.rl 3 ?_;obtain rfl:k=6:=by omega
     rw[aW (by decide)] at c;have em:Gv o=some ⟨o.d,Uc⟩:=by unfold Gv;rw[if_pos (by omega)]
     rw[em] at fm;refine c.lW IU ((o.d:Int),up) rfl rfl λv41 _ c=>have c:=c.n6;c.ap 2 rfl (c.sl (i:=5) rfl).sl rfl rfl (by simp only[aH,aJ]; omega) (by simp only[aH,aJ]; omega) λv42 _ c=>have c:=c.n6;vx (inc (by omega)) ?_;have le:∀A:km,(B.and M).le (B.and [jR M,A]):=λA=>Bs.mO (i:=0) rfl;have c:=Cx.pack (L:=[_,_]) (M:=[jR M,kz xx (jY up) Uc]) (c.pick [1,2,0,4]);exact G (j+1) _ _ _ ⟨rfl,by omega,_,_,c.pick [2,0,1],q.le (le _),by rw[fm]; exact(E.le (le _)).snoc rfl (On.sl (i:=1) rfl)⟩ (by omega)
   ·refine .here<|jS<|c.rc 3 ?_;refine vx (a2 _ (B.up X c.gr)).ln<|vx mV<|lV (λT=>?_) λT=>?_
    ·refine jS<|c.rc 3 ?_;obtain⟨J,O,pr,K⟩:∃J O pr,o.ps=J::O::pr:=by
      cases V:o.ps with
      | nil=>rw[V] at T;simp at T
      | cons J r=>
       cases r with
       | nil=>rw[V] at T;simp at T
       | cons O pr=>exact⟨J,O,pr,rfl⟩
     have q0:o.ps[0]?=some J:=by rw[K];rfl
     have q1:o.ps[1]?=some O:=by rw[K];rfl
     have k0:=ok.pt J (by rw[K]; exact aM);have k1:=ok.pt O (by rw[K]; exact aL _ aM);have hr:=EH k0.2;refine(a2 _ (B.up X c.gr)).sN rfl q0 rfl (j:=0) rfl ?_;refine vx (Ah (by omega) (by decide))<|jS<|c.rc 3 ?_;refine(a2 _ (B.up X c.gr)).sN rfl q1 rfl (j:=0) rfl ?_;refine vx (Ah (by omega) (by decide))<|vx mh<|lV (λrW=>?_) λrW=>?_
     ·refine jS<|c.rc 3 ?_;refine vx (Ah (by omega) (by decide))<|vx (Ah (by omega) (by decide))<|jS<|c.q2 3 λ_ c=>?_;refine jS<|c.rc 3 ?_;refine(a2 _ (B.up X c.gr)).whole rfl q0 rfl ?_;refine jS<|c.rc 3 ?_;refine(a2 _ (B.up X c.gr)).whole rfl q1 rfl ?_;refine c.Uu xx [J,O] [.agg ⟨xx.c J⟩,.agg ⟨xx.c O⟩] rfl rfl rfl (λu hu=>by simp only[aU,bF,or_false] at hu; rcases hu with rfl | rfl <;> rfl) rfl λad _ c=>?_;obtain⟨u2,tO⟩:∃u:SH,jY u=.slice (some ad) 2 2:=⟨(some ad,2,2),rfl⟩;rw[<-tO] at c⊢;replace c:=c.n5;refine jS<|c.q2 3 λ_ c=>?_;refine jS<|c.rc 3 ?_;refine jS<|c.rc 3 ?_;refine c.Dw 4 rfl (p:=0) rfl (⟨J.cell,J.more,true⟩:Pt) rfl rfl (j:=2) rfl (by decide) rfl λ_ c=>have c:=c.n5;c.ac 3<|c.Dw 4 rfl (p:=1) rfl (⟨O.cell,O.more,true⟩:Pt) rfl rfl (j:=2) rfl (by decide) rfl λ_ c=>have c:=c.n5;jS<|c.rc 3 ?_;refine jS<|c.rc 3 ?_;refine(c.sl (i:=4) rfl).sl.sN rfl rfl rfl (j:=1) rfl ?_;refine vx (aa5 k0.2)<|c.Dw 4 rfl (p:=0) rfl (⟨J.cell,J.more.tdiv 2,true⟩:Pt) rfl rfl (j:=1) rfl (by decide) rfl λ_ c=>have c:=c.n5;jS<|c.rc 3 ?_;refine jS<|c.rc 3 ?_;refine(c.sl (i:=4) rfl).sl.sN rfl rfl rfl (j:=1) rfl ?_;refine vx (aar hr)<|c.Dw 4 rfl (p:=1) rfl (⟨O.cell,-J.more.tdiv 2,true⟩:Pt) rfl rfl (j:=1) rfl (by decide) rfl λ_ c=>have c:=c.n5;c.rl 3 ?_;have em:Gv o=some ⟨o.d % 4 % 2,[⟨J.cell,J.more.tdiv 2,true⟩,⟨O.cell,-J.more.tdiv 2,true⟩]⟩:=by unfold Gv;rw[if_neg (by omega),K];exact if_neg (show ¬J.cell % 6=O.cell % 6 by omega)
      rw[em] at fm;refine c.lW IU ((o.d:Int) % 4 % 2,u2) rfl rfl λv107 _ c=>have c:=c.n6;c.ap 2 rfl (c.sl (i:=5) rfl).sl rfl rfl (by simp only[aH,aJ]; omega) (by simp only[aH,aJ]; omega) λv108 _ c=>have c:=c.n6;vx (inc (by omega)) ?_;have le:∀A:km,(B.and M).le (B.and [jR M,A]):=λA=>Bs.mO (i:=0) rfl;have c:=Cx.pack (L:=[_,_]) (M:=[jR M,kz xx (jY u2) [⟨J.cell,J.more.tdiv 2,true⟩,⟨O.cell,-J.more.tdiv 2,true⟩]]) (c.pick [1,2,0,4]);exact G (j+1) _ _ _ ⟨rfl,by omega,_,_,c.pick [2,0,1],q.le (le _),by rw[fm]; exact(E.le (le _)).snoc (by dsimp only; omega) (On.sl (i:=1) rfl)⟩ (by omega)
     ·refine vx (inc (by omega)) ?_;have le:∀A:km,(B.and M).le (B.and [jR M,A]):=λA=>Bs.mO (i:=0) rfl;have em:Gv o=none:=OA (by omega) (λa b r V=>by first | (have:=congrArg List.length V; simp at this; omega) | (rw[K] at V; cases V; omega));rw[em,Option.toList_none,cX] at fm;exact G (j+1) _ _ _ ⟨rfl,by omega,M,U,c.pick [0,1,2],q,by rw[fm]; exact E⟩ (by omega)
    ·refine j7 ?_;refine vx (inc (by omega)) ?_;have le:∀A:km,(B.and M).le (B.and [jR M,A]):=λA=>Bs.mO (i:=0) rfl;have em:Gv o=none:=OA (by omega) (λa b r V=>by first | (have:=congrArg List.length V; simp at this; omega) | (rw[K] at V; cases V; omega));rw[em,Option.toList_none,cX] at fm;exact G (j+1) _ _ _ ⟨rfl,by omega,M,U,c.pick [0,1,2],q,by rw[fm]; exact E⟩ (by omega)
  ·obtain rfl:j=l.length:=by omega
   obtain⟨um,rfl⟩:=(c.sl (i:=2) rfl).tW;have uS:=q.1;rw[bE,aR] at uS;rw[aW (by omega)] at E;refine c.lW EH1 um rfl rfl λv112 _ c=>have c:=c.n4;c.ap 1 rfl (c.sl (i:=3) rfl).sl rfl rfl (by simp only[aH,aJ]; omega) (by simp only[aH,aJ]; omega) λv113 _ c=>have c:=c.n4;vx (inc (by omega)) ?_;have le:(B.and M).le (B.and [jR M,kz IU (jY um) U]):=Bs.mO (i:=0) rfl;have c:=Cx.pack (L:=[_]) (M:=[jR M,kz IU (jY um) U]) (c.pick [1,0,2]);have et:(opss.take (i+1)).map (λops=>ops.filterMap Gv)=(opss.take i).map (λops=>ops.filterMap Gv)++[ops.filterMap Gv]:=by rw[bN,aS,eS,cM];rfl
   exact Z (i+1) _ _ _ ⟨rfl,by omega,_,_,c.pick [1,0],by rw[et]; exact(q.le le).snoc ⟨U,On.sl (i:=1) rfl,E.1,λi2 a2 o2 h1 h2=>⟨(E.2 i2 a2 o2 h1 h2).1,(E.2 i2 a2 o2 h1 h2).2.le le⟩⟩⟩ (by omega)
 ·obtain⟨uo,rfl⟩:=(c.sl (i:=1) rfl).tW;rw[aW (by omega)] at q;exact hR M uo H _ (c.pick [0,1]) q
end
section
variable {ws:List W3} {first:List Int} {k n i:Nat} {opss:List (List ng)}
def Eg:(Mj.new 3 ws).li.at n=([],0):=by
 unfold Lj.at;rw[aI];show((List.replicate ((ws.length+7) / 8) (([],0):List Dv × Int))[n]?).getD ([],0)=_;rw[dJ];split <;> rfl
def D6 {p:Nat}:Ca (Mj.new 3 ws).li p i=(ws[i]?).getD W0:=by
 unfold Ca;rw[Eg,List.take_nil];rfl
def Ez (h:ws.length=512) (hi:i<512):(sh (Mj.new 3 ws).me).W i=(ws[i]?).getD W0:=by
 have q:=aB (l:=ws) (i:=i) (by omega);rw[show(sh (Mj.new 3 ws).me).W i=ws[i] from Wc q,q];rfl
def WQ.start (hw:FU (xN first k) ws) (M:k<=6) (O:∀z∈first,-128<=z/\z<=127) (Q:opss.length<=3) (ho:∀ops∈opss,ops.length<=8/\∀o∈ops,Hk o) (F:∀ops∈opss,∀o∈ops,Yr o)
  (hs:T6 (λc=>(xN first k c.toNat).v)=150):WQ (Mj.new 3 ws) (opss.mapIdx λi ops=>ll (DT true i ops) qa):=by
 obtain⟨S,B,T,K,_⟩:=WI.Q8 (du:=true) hw M O Q ho;have hlen:=hw.1;have R:∀c:Int,0<=c->c<512->(sh (Mj.new 3 ws).me).W c=xN first k c.toNat:=λc h1 h2=>by
  obtain⟨j,rfl⟩:∃j:Nat,c=j:=⟨c.toNat,by omega⟩;rw[Ez hlen (by omega),hw.2 j (by omega),bQ];rfl
 have U:∀c,56<=c->c<62->((sh (Mj.new 3 ws).me).W c).ref=0:=λc h1 h2=>bC λh=>by
  obtain⟨_,_,e,_⟩:=S.cell c h1 h2 h;cases e
 have sm:T6 (λc=>(rX (λ_=>none) (λ_=>0) (sh (Mj.new 3 ws).me) c).v)=150:=by
  rw[<-hs];exact T6.congr λc h1 h2=>by rw[show(rX (λ_=>none) (λ_=>0) (sh (Mj.new 3 ws).me) c).v=((sh (Mj.new 3 ws).me).W c).v from rfl,R c (by omega) (by omega)]
 have L:FY (Mj.new 3 ws):=by
  refine⟨by show(List.replicate _ _).length=64; rw[bR,hlen],K.hs,λn=>?_,λt n q h=>(by cases h),λi hi=>?_,λn s h=>?_,λi=>?_⟩
  ·rw[Eg];exact⟨bA _,bA _⟩
  ·rw[D6,<-Ez hlen hi,Ny]
  ·rw[Eg] at h;cases h
  ·show Ww ((ws[i]?).getD W0);by_cases h:i<512
   ·rw[hw.2 i h];exact(MI.start M O).2.1 i
   ·rw[bW (by omega)];exact Xy
 have Z:∀{C:Int->W3} {V0:Vg},(Pm (Mj.new 3 ws).li λ_ _=>0).C C V0->No (sh (Mj.new 3 ws).me) C/\V0=λ_=>0:=λ{C V0} h=>by
  obtain⟨p,_,_,G,h4⟩:=h;refine⟨λc h1 h2=>?_,h4⟩;obtain⟨j,rfl⟩:∃j:Nat,c=j:=⟨c.toNat,by omega⟩;rw[G j (by omega) (by omega),D6,Ez hlen (by omega)]
 refine⟨⟨_,_,_,λ_ _=>0,_,S,B,T,⟨λr es h=>(by cases h),λC V0 h=>?_,λwho X E h=>?_,λC V0 _ r es h=>(by cases h),λr es h=>(by cases h),?_⟩,sm,λi x u=>?_,λi _ _ q es _ h=>(by cases h)⟩,L⟩
 ·obtain⟨h1,rfl⟩:=Z h;refine⟨λ_ _=>rfl,λr es h=>(by cases h),λc a b e=>?_,λr es h=>(by cases h),?_,λr es h=>(by cases h)⟩
  ·rw[h1 c a b] at e;exact absurd (U c a b) e
  ·rw[<-sm];exact T6.congr λc a b=>by
    show(C c).v=((sh (Mj.new 3 ws).me).W c).v;rw[h1 c a b]
 ·obtain⟨p,_,_,G⟩:=h;obtain⟨n,e1,e2,e3,e4,e5,_⟩:=YY E;obtain⟨v,q,I⟩:=S.st who E;have e:X 0=⟨v,q,0⟩:=by
   have:=G 0 (by decide);rw[e3,D6,<-Ez hlen (by omega)] at this;rw[<-I.eq,e1];exact this
  refine⟨⟨v,q,v,q,e,I.eq,I.vr,I.qr.1,bA _⟩,λq2 H h6=>?_⟩;rw[e] at H;simp only[W3.mk.injEq,and_true] at H;obtain⟨rfl,rfl⟩:=H;obtain⟨_,h7,_⟩:=I.op h6 (by decide);cases h7
 ·refine⟨λ_=>0,λc=>Ca (Mj.new 3 ws).li 0 c.toNat,λc h1 h2=>?_,0,by show((Mj.new 3 ws).li.at 7).2<=_; rw[Eg]; exact bA _,aO _,λc _ _=>rfl,rfl⟩;obtain⟨j,rfl⟩:∃j:Nat,c=j:=⟨c.toNat,by omega⟩;dsimp only;rw[D6,bQ,Ez hlen (by omega)]
 ·rw[cT] at u;cases J:opss[i]? with
  | none=>rw[J] at u;cases u
  | some ops=>
   rw[J] at u;simp only[cB,aD] at u;subst u;exact IH (c:=DT true i ops) rfl (F ops (aG J)) (λz h=>by cases h) rfl
end
end Go.En
