/- Library, part I. -/
import Derived.Test.YtcepckpfhbcobaaGreatDoorXH
set_option maxRecDepth 100000
set_option linter.defProp false
namespace Go.En
variable {h h0 h':Hp} {F:Fp} {R:Value->Hp->Prop} {L:List km} {B B':Bs}
def Zm {a:Option Nat} {es:List (Int × Option Nat)} (H:(a=none/\es=[])\/Mp .i64 mM h (.map a) es) (k:Int):Pa (.int .i64) (.map none) false (.map a) (.int .i64 k) h=some (.map ((kD es k).getD none)):=by
 rcases H with ⟨rfl,rfl⟩| m
 ·rfl
 ·rw[m.look];cases kD es k with
  | none=>rfl
  | some x=>rfl
section
variable {n b t i:Nat} {y:LV} {l:Lj}
def UU (E:B.p h) (H:Wk B y l) (k:KZ n b l) (Q:1<=t/\t<=8) (hi:i<n) (hR:∀y',Rt B h (λB=>Wk B y' (l.zw t i)) λh'=>R (.tuple #[Pn y',.int .i64 0]) h'):S.C 90 [(Pn y),(.int .i64 t),(.int .i64 i)] h R:=by
 refine zZ.2 ?_;obtain⟨us,h1,h2,h3⟩:=H.lo.lg;obtain⟨es,A1,A2,U⟩:=H.lx;obtain⟨ps,P1,P3,P2⟩:=U t;have hl:=(k.k none).lg;have hle:=(k.k none).le;have hl:l.lg.length=(n+7) / 8:=hl;have h2:us.length=l.lg.length:=h2;have V:i / 8<us.length:=by omega
 have hu:=aB (l:=us) (i:=i / 8) V;have hg:l.lg[i / 8]?=some (l.lg.getD (i / 8) ([],0)):=by
  rw[aI,aB (by omega)];rfl
 obtain⟨e2,s1⟩:=h3 _ _ _ hu hg;have aS:=(k.k none).len _ (aG hg);generalize us[i / 8]=u at hu e2 s1;obtain⟨u,kp⟩:=u;dsimp only at e2 s1;have J:((i:Int)) / 8=((i / 8:Nat):Int):=by omega
 have G:∀{O:Hp},Gr h O->Pa (.int .i64) (.map none) false (.map y.a) (.int .i64 t) O=some (.map ((kD es t).getD none)):=λg=>Zm (A1 _ (B.up E g)) t;have fin:∀(q k2:Nat) (h':Hp),Cx (λ_=>False) h h' [Gk .i64 mI (.map (some q)) (qY ps (i / 8:Nat) ((l.lg.getD (i / 8) ([],0)).1.length:Nat)),Gk .i64 mM (.map (some k2)) (qY es t (some q))]->R (.tuple #[Pn ⟨y.f,y.l,some k2⟩,.int .i64 0]) h':=λq k2 h' c=>by
  refine hR ⟨y.f,y.l,some k2⟩ [Gk .i64 mI (.map (some q)) (qY ps (i / 8:Nat) ((l.lg.getD (i / 8) ([],0)).1.length:Nat)),Gk .i64 mM (.map (some k2)) (qY es t (some q))] h' (Cx.pack (L:=[]) c) ⟨⟨H.lo.fst.le (Bs.jX _ _),(H.lo.le (Bs.jX _ _)).lg,rfl⟩,qY es t (some q),(On.mp (i:=1) rfl).imp λ_ m=>.inr m,Ao _ _ A2,λX=>?_⟩;rw[xk];by_cases Z:X=t
  ·subst Z;rw[if_pos rfl];refine⟨_,(On.mp (i:=0) rfl).imp λ_ m=>.inr m,Ao _ _ P3,λM=>?_⟩;rw[xk,<-P2 M];show(if (t:Int)=t/\M=(i / 8:Nat) then _ else _)=_;by_cases T:M=(i / 8:Nat)
   ·rw[if_pos ⟨rfl,T⟩,if_pos T]
   ·rw[if_neg (λx=>T x.2),if_neg T]
  ·rw[if_neg Z];obtain⟨qs,q1,q2⟩:=U X;refine⟨qs,q1.le (Bs.jX _ _),q2.1,λM=>?_⟩;show(if X=t/\M=(i / 8:Nat) then _ else _)=_;rw[if_neg (λx=>Z x.1)];exact q2.2 M
 obtain⟨yf,yl,ya⟩:=y;dsimp only at h1 A1 U G fin;generalize (kD es t).getD none=o at P1 G;rcases P1 _ E with ⟨rfl,rfl⟩| mi
 ·rcases A1 _ E with ⟨rfl,rfl⟩| mo
  ·skip
   have c:=Cx.jQ h;refine c.v3 λ_ _ c=>c.v3 λ_ _ c=>?_;refine rG Q λ_ g=>have c:=c.more g;vx (v:=.bool false) (rfl)<|j7<|c.rl 0 ?_;refine JN (B.up E c.gr) H.lo (k.k _) hi λ_ g=>have c:=c.more g;vx (v:=.bool false) (rfl)<|j7<|jS<|c.rc 0 ?_;refine vx (G c.gr)<|GZ ?_;refine .here<|vx (v:=.bool true) (rfl)<|kV<|c.MB .i64 mI λq _ c=>have c:=c.n3;vx (FC ⟨by omega,by omega⟩ (by decide)) ?_;rw[J];refine jS<|c.rc 0 ?_;obtain⟨r,oo,el,K,_⟩:=(h1 _ (B.up E c.gr)).ix hu (n:=2) rfl (k:=.i64) (z:=((i / 8:Nat):Int)) rfl;refine vx el<|vx (oi _ _ _)<|vx (K.mH (j:=0) rfl)<|vx (s1 _ (B.up E c.gr)).ln<|c.B9 2 rfl (i / 8:Nat) ((l.lg.getD (i / 8) ([],0)).1.length:Nat) rfl λ_ c=>have c:=c.n3;jS<|c.rc 0 ?_;refine CA ?_;refine jS<|c.q3 0 λ_ c=>?_;refine .here<|jS<|c.rc 0 ?_;refine vx (v:=.bool true) (rfl)<|kV<|c.MB .i64 mM λk2 _ c=>have c:=c.n4;jS<|c.q3 0 λ_ c=>?_;refine jS<|c.rc 0 ?_;refine c.B9 3 rfl t (some q) rfl λ_ c=>have c:=c.n4;c.rl 0 ?_;refine c.w3 1 λ_ c=>?_;refine c.rl 1 ?_;exact fin q k2 _ (c.pick [2,3])
  ·skip
   have c:=Cx.jQ h;refine c.v3 λ_ _ c=>c.v3 λ_ _ c=>?_;refine rG Q λ_ g=>have c:=c.more g;vx (v:=.bool false) (rfl)<|j7<|c.rl 0 ?_;refine JN (B.up E c.gr) H.lo (k.k _) hi λ_ g=>have c:=c.more g;vx (v:=.bool false) (rfl)<|j7<|jS<|c.rc 0 ?_;refine vx (G c.gr)<|GZ ?_;refine .here<|vx (v:=.bool true) (rfl)<|kV<|c.MB .i64 mI λq _ c=>have c:=c.n3;vx (FC ⟨by omega,by omega⟩ (by decide)) ?_;rw[J];refine jS<|c.rc 0 ?_;obtain⟨r,oo,el,K,_⟩:=(h1 _ (B.up E c.gr)).ix hu (n:=2) rfl (k:=.i64) (z:=((i / 8:Nat):Int)) rfl;refine vx el<|vx (oi _ _ _)<|vx (K.mH (j:=0) rfl)<|vx (s1 _ (B.up E c.gr)).ln<|c.B9 2 rfl (i / 8:Nat) ((l.lg.getD (i / 8) ([],0)).1.length:Nat) rfl λ_ c=>have c:=c.n3;jS<|c.rc 0 ?_;refine BX (mo.gr c.gr) λk2 _ d=>have c:=c.jT d;have c:=c.n4;jS<|c.q3 0 λ_ c=>?_;refine .here<|jS<|c.rc 0 ?_;refine vx (v:=.bool false) (rfl)<|j7<|jS<|c.rc 0 ?_;refine c.B9 3 rfl t (some q) rfl λ_ c=>have c:=c.n4;c.rl 0 ?_;refine c.w3 1 λ_ c=>?_;refine c.rl 1 ?_;exact fin q k2 _ (c.pick [2,3])
 ·rcases A1 _ E with ⟨rfl,rfl⟩| mo
  ·skip
   have c:=Cx.jQ h;refine c.v3 λ_ _ c=>c.v3 λ_ _ c=>?_;refine rG Q λ_ g=>have c:=c.more g;vx (v:=.bool false) (rfl)<|j7<|c.rl 0 ?_;refine JN (B.up E c.gr) H.lo (k.k _) hi λ_ g=>have c:=c.more g;vx (v:=.bool false) (rfl)<|j7<|jS<|c.rc 0 ?_;refine vx (G c.gr)<|Jb (mi.gr c.gr) λq _ d=>have c:=c.jT d;have c:=c.n3;.here<|vx (v:=.bool false) (rfl)<|j7<|vx (FC ⟨by omega,by omega⟩ (by decide)) ?_;rw[J];refine jS<|c.rc 0 ?_;obtain⟨r,oo,el,K,_⟩:=(h1 _ (B.up E c.gr)).ix hu (n:=2) rfl (k:=.i64) (z:=((i / 8:Nat):Int)) rfl;refine vx el<|vx (oi _ _ _)<|vx (K.mH (j:=0) rfl)<|vx (s1 _ (B.up E c.gr)).ln<|c.B9 2 rfl (i / 8:Nat) ((l.lg.getD (i / 8) ([],0)).1.length:Nat) rfl λ_ c=>have c:=c.n3;jS<|c.rc 0 ?_;refine CA ?_;refine jS<|c.q3 0 λ_ c=>?_;refine .here<|jS<|c.rc 0 ?_;refine vx (v:=.bool true) (rfl)<|kV<|c.MB .i64 mM λk2 _ c=>have c:=c.n4;jS<|c.q3 0 λ_ c=>?_;refine jS<|c.rc 0 ?_;refine c.B9 3 rfl t (some q) rfl λ_ c=>have c:=c.n4;c.rl 0 ?_;refine c.w3 1 λ_ c=>?_;refine c.rl 1 ?_;exact fin q k2 _ (c.pick [2,3])
  ·skip
   have c:=Cx.jQ h;refine c.v3 λ_ _ c=>c.v3 λ_ _ c=>?_;refine rG Q λ_ g=>have c:=c.more g;vx (v:=.bool false) (rfl)<|j7<|c.rl 0 ?_;refine JN (B.up E c.gr) H.lo (k.k _) hi λ_ g=>have c:=c.more g;vx (v:=.bool false) (rfl)<|j7<|jS<|c.rc 0 ?_;refine vx (G c.gr)<|Jb (mi.gr c.gr) λq _ d=>have c:=c.jT d;have c:=c.n3;.here<|vx (v:=.bool false) (rfl)<|j7<|vx (FC ⟨by omega,by omega⟩ (by decide)) ?_;rw[J];refine jS<|c.rc 0 ?_;obtain⟨r,oo,el,K,_⟩:=(h1 _ (B.up E c.gr)).ix hu (n:=2) rfl (k:=.i64) (z:=((i / 8:Nat):Int)) rfl;refine vx el<|vx (oi _ _ _)<|vx (K.mH (j:=0) rfl)<|vx (s1 _ (B.up E c.gr)).ln<|c.B9 2 rfl (i / 8:Nat) ((l.lg.getD (i / 8) ([],0)).1.length:Nat) rfl λ_ c=>have c:=c.n3;jS<|c.rc 0 ?_;refine BX (mo.gr c.gr) λk2 _ d=>have c:=c.jT d;have c:=c.n4;jS<|c.q3 0 λ_ c=>?_;refine .here<|jS<|c.rc 0 ?_;refine vx (v:=.bool false) (rfl)<|j7<|jS<|c.rc 0 ?_;refine c.B9 3 rfl t (some q) rfl λ_ c=>have c:=c.n4;c.rl 0 ?_;refine c.w3 1 λ_ c=>?_;refine c.rl 1 ?_;exact fin q k2 _ (c.pick [2,3])
end
section
variable {n b t i:Nat} {y:LV} {l:Lj}
def W9 (b0:B.p h) (H:Wk B y l) (k:KZ n b l) (ht:1<=t/\t<=8) (hR:∀y',Rt B h (λB=>Wk B y' (l.sS t)) λh'=>R (.tuple #[Pn y',.int .i64 0]) h'):S.C 91 [(Pn y),(.int .i64 t)] h R:=by
 refine Bz.2 ?_;obtain⟨us,h1,h2,h3⟩:=H.lo.lg;obtain⟨es,A1,A2,A3⟩:=H.lx;obtain⟨ps,P1,P3,P2⟩:=A3 t;have hl:=(k.k none).lg;have hle:=(k.k none).le;have hl:l.lg.length=(n+7) / 8:=hl;have h2:us.length=l.lg.length:=h2;have K:∀{tO:Hp},Gr h tO->Pa (.int .i64) (.map none) false (.map y.a) (.int .i64 t) tO=some (.map ((kD es t).getD none)):=λg=>Zm (A1 _ (B.up b0 g)) t;have E:∀(ls:SH) (a':Option Nat) (M:List km) (G:List (SH × Int)) (h':Hp),Cx (λ_=>False) h h' [jR M]->(On (B.and M) λh=>Sl Ql h (jY ls) G)->(∀(j:Nat) (u:SH × Int),us[j]?=some u->G[j]?=some (u.1,max u.2 ((kD ps j).getD u.2)))->G.length=us.length->
   (On (B.and M) λh=>(a'=none/\A8 es t=[])\/Mp .i64 mM h (.map a') (A8 es t))->R (.tuple #[Pn ⟨y.f,ls,a'⟩,.int .i64 0]) h':=λls a' M G h' c q1 q2 q3 q4=>by
  refine hR ⟨y.f,ls,a'⟩ M h' c ⟨⟨H.lo.fst.le (Bs.jX _ _),⟨G,q1,?_,λj u g hu hg=>?_⟩,rfl⟩,A8 es t,q4,MR A2,λt'=>?_⟩
  ·show G.length=(l.lg.mapIdx _).length;rw[dB,q3,h2]
  ·have hg:(l.lg.mapIdx (λn g=>(g.1,max g.2 ((l.lx t n).getD g.2))))[j]?=some g:=hg;rw[cT] at hg;cases V:l.lg[j]? with
   | none=>rw[V] at hg;cases hg
   | some g0=>
    rw[V] at hg;simp only[cB,aD] at hg;have hj:=(aC.1 V).1;have iS:=aB (l:=us) (i:=j) (by omega);generalize us[j]'(by omega)=u0 at iS;rw[q2 j u0 iS] at hu;injection hu with hu;subst hu hg;obtain⟨r1,r2⟩:=h3 j u0 g0 iS V;refine⟨?_,r2.le (Bs.jX _ _)⟩;dsimp only;rw[r1,<-P2]
  ·rw[EJ A2];by_cases ct:t'=t
   ·subst ct;rw[if_pos rfl];exact⟨[],λ_ _=>.inl ⟨rfl,rfl⟩,gN,λn'=>if_pos rfl⟩
   ·rw[if_neg ct];obtain⟨qs,r1,r2,r3⟩:=A3 t';exact⟨qs,r1.le (Bs.jX _ _),r2,λn'=>(if_neg ct).trans (r3 n')⟩
 obtain⟨yf,yl,ya⟩:=y;dsimp only at h1 A1 A3 K E;rcases A1 _ b0 with ⟨rfl,rfl⟩| mo
 ·obtain rfl:ps=[]:=by
   rcases P1 _ b0 with ⟨_,e⟩| m
   ·exact e
   ·exact absurd m (λ⟨_,_,_,e,_⟩=>by cases e)
  have c:=Cx.jQ h;refine c.v3 λ_ _ c=>c.v3 λ_ _ c=>?_;refine rG ht λ_ g=>have c:=c.more g;vx (v:=.bool false) (rfl)<|j7<|jS<|c.rc 0 ?_;refine BV (h1 _ (B.up b0 c.gr)) (by omega) λX _ d=>have c:=c.jT d;have c:=c.n3;jS<|c.q3 0 λ_ c=>?_;refine jS<|c.rc 0 ?_;refine vx (K c.gr)<|En.eb (v:=kC _) (h':=_) (by exact rfl) ?_;have c:=c.more (Ch.push _ (.mapIter none 0 #[] 0));replace c:=c.n3;refine KW.by (λ(_:Unit) h'=>h'=_) (λ_=>0) () rfl ?_;rintro _ h5 rfl again _;refine⟨_,rfl,.inl ⟨0,#[],0,by simp,?_⟩⟩;refine vx (v:=.bool false) (rfl)<|j7<|jS<|c.rc 0 ?_;refine CA ?_;refine jS<|c.q3 0 λ_ c=>?_;refine jS<|c.rc 0 ?_;refine En.eb (v:=.tuple #[]) (by exact rfl) ?_;refine c.rl 0 ?_;refine c.w3 1 λ_ c=>?_;refine c.rl 1 ?_;exact E X none _ us _ (Cx.pack (L:=[]) (M:=[_]) (c.pick [2])) (On.sl (i:=0) rfl) (λj u e=>by rw[e]; simp[kD]) rfl λ_ _=>.inl ⟨rfl,rfl⟩
 ·generalize ho:(kD es t).getD none=o at P1 K;rcases P1 _ b0 with ⟨rfl,rfl⟩| mi
  ·skip
   have c:=Cx.jQ h;refine c.v3 λ_ _ c=>c.v3 λ_ _ c=>?_;refine rG ht λ_ g=>have c:=c.more g;vx (v:=.bool false) (rfl)<|j7<|jS<|c.rc 0 ?_;refine BV (h1 _ (B.up b0 c.gr)) (by omega) λX _ d=>have c:=c.jT d;have c:=c.n3;jS<|c.q3 0 λ_ c=>?_;refine jS<|c.rc 0 ?_;refine vx (K c.gr)<|En.eb (v:=kC _) (h':=_) (by exact rfl) ?_;have c:=c.more (Ch.push _ (.mapIter none 0 #[] 0));replace c:=c.n3;refine KW.by (λ(_:Unit) h'=>h'=_) (λ_=>0) () rfl ?_;rintro _ h5 rfl again _;refine⟨_,rfl,.inl ⟨0,#[],0,by simp,?_⟩⟩;refine vx (v:=.bool false) (rfl)<|j7<|jS<|c.rc 0 ?_;refine BX (mo.gr c.gr) λk2 _ d=>have c:=c.jT d;have c:=c.n4;jS<|c.q3 0 λ_ c=>?_;refine jS<|c.rc 0 ?_;refine c.LL 3 rfl t λ_ c=>have c:=c.n4;c.rl 0 ?_;refine c.w3 1 λ_ c=>?_;refine c.rl 1 ?_;exact E X (some k2) _ us _ (Cx.pack (L:=[]) (M:=[_,_]) (c.pick [2,3])) (On.sl (i:=0) rfl) (λj u e=>by rw[e]; simp[kD]) rfl λh b=>.inr ((On.mp (B:=B) (i:=1) rfl) h b)
  ·skip
   have c:=Cx.jQ h;refine c.v3 λuS _ c=>c.v3 λv4_ _ c=>?_;refine rG ht λ_ g=>have c:=c.more g;vx (v:=.bool false) (rfl)<|j7<|jS<|c.rc 0 ?_;refine BV (h1 _ (B.up b0 c.gr)) (by omega) λX _ d=>have c:=c.jT d;have c:=c.n3;jS<|c.vq 0 rfl (vs:=[_]) (ds:=[_,_,_]) (by exact rfl) (by exact rfl) (by exact rfl) (by exact rfl) (by exact rfl) λh6' c=>?_;replace c:=c.n3;refine jS<|c.rc 0 ?_;refine vx (K c.gr) ?_;obtain⟨mb,Z,clock,e,hh,he⟩:=mi;injection e with e;subst e;have aS:∀{h5:Hp} {L:List km},Cx (λ_=>False) h h5 L->h5[mb]?=some (.map Z clock):=λc=>by
    rw[c.gr.same mb (aZ.mp hh).1 λe=>e];exact hh
   refine En.eb (v:=kC _) (h':=_) (by simp only[Tg,yj,aS c]; rfl) ?_;have hs4:=c.gr.size;have c:=c.DV (.mapIter (some mb) clock #[] clock);obtain⟨J,hO⟩:∃J:List Nat->Obj,J=λD=>.mapIter (some mb) clock (D.map λi=>((Z.toList[i]?).map (·.born)).getD 0).toArray clock:=⟨_,rfl⟩;rw[show Obj.mapIter (some mb) clock #[] clock=J [] from by rw[hO]; rfl] at c⊢;replace c:=c.n4;obtain⟨r,hr,hne⟩:∃r,r=Array.size h6'/\r≠mb:=⟨_,rfl,λe=>by
    have h9:=(aZ.mp hh).1;omega⟩
   rw[<-hr] at c⊢;refine KW.by (λ(z:List Nat × List (SH × Int)) h'=>Cx (λ_=>False) h h' [rV uS [jY yf,jY X,.map ya],rV v4_ [.slice none 0 0,.slice none 0 0,.map none],kz Ql (jY X) z.2,ub r (J z.1)]/\z.1.Nodup/\(∀i∈z.1,i<ps.length)/\z.2.length=us.length/\∀(j:Nat) (u:SH × Int),us[j]?=some u->∃q,z.2[j]?=some (u.1,q)/\((∃i∈z.1,∃p,ps[i]?=some p/\p.1=j)->q=max u.2 ((kD ps j).getD u.2))/\((∀i∈z.1,∀p,ps[i]?=some p->p.1≠j)->q=u.2)) (λz=>ps.length - z.1.length) ([],us) ⟨c,gN,(λi hi=>by cases hi),rfl,λj u e=>⟨u.2,e,(λ⟨i,hi,_⟩=>by cases hi),λ_=>rfl⟩⟩ ?_;clear c hr;rintro⟨D,zs⟩ h6 ⟨c,hnd,hlt,hzl,oF⟩ again aT;dsimp only at *;have iF:=c.obj (i:=3) rfl;rw[hO] at iF;have it:It .i64 mI h6 r mb ps D:=⟨⟨Z,clock,aS c,he,iF⟩,hnd,hlt,hne⟩;refine it.next (λhall=>?_) λj p h7 bY hjD dO ch hent=>?_
   ·have hfin:∀(j:Nat) (u:SH × Int),us[j]?=some u->zs[j]?=some (u.1,max u.2 ((kD ps j).getD u.2)):=λj u hu=>by
     obtain⟨q,q1,q2,q3⟩:=oF j u hu;rw[q1];cases oR:kD ps j with
     | none=>
      rw[q3 λi hi p O e=>by
       have:(p.1,p.2)∈ps:=aG O;rw[Cs P3,e,oR] at this;cases this]
      simp
     | some x=>
      have:=(Cs P3).2 oR;obtain⟨i,hi,e⟩:=List.getElem_of_mem this;rw[q2 ⟨i,hall i hi,_,aB hi,by rw[e]⟩,oR]
    refine vx rfl<|j7<|jS<|c.rc 0 ?_;refine BX (mo.gr c.gr) λk2 _ d=>have c:=c.jT d;have c:=c.n5;jS<|c.q3 0 λ_ c=>?_;refine jS<|c.rc 0 ?_;refine c.LL 4 rfl t λ_ c=>have c:=c.n5;c.rl 0 ?_;refine c.w3 1 λ_ c=>?_;refine c.rl 1 ?_;exact E X (some k2) _ zs _ (Cx.pack (L:=[]) (M:=[_,_]) (c.pick [2,4])) (On.sl (i:=0) rfl) hfin hzl λh b=>.inr ((On.mp (B:=B) (i:=1) rfl) h b)
   ·obtain⟨es2,clock2,e1,e2,e3⟩:=dO.ex;have c:Cx (λ_=>False) h h7 [rV uS [jY yf,jY X,.map ya],rV v4_ [.slice none 0 0,.slice none 0 0,.map none],kz Ql (jY X) zs,ub r (J (D++[j]))]:=by
     obtain⟨F,⟨o,hf⟩,up⟩:=c.Ob (i:=3) rfl;have eQ:h7[mb]?=some (.map Z clock):=by
      rw[ch.same mb (aZ.mp (aS c)).1 λe=>hne e.symm];exact aS c
     rw[e1] at eQ;injection eQ with eQ;injection eQ with q1 q2;subst q1;subst q2;exact up (B:=ub r (J (D++[j]))) (F':=F) ⟨by rw[hO]; exact e3,hf⟩ (qV (ch.mono λq _ e=>(hf q).2 e))
    obtain⟨pk,T⟩:=p;have iN:kD ps pk=some T:=(Cs P3).1 (aG bY);obtain⟨hk1,hk2⟩:=k.lx t pk T (by rw[P2]; exact iN);obtain⟨U,rfl⟩:∃U:Nat,pk=U:=⟨pk.toNat,by omega⟩;have hu:=aB (l:=us) (i:=U) (by omega);generalize us[U]'(by omega)=u at hu;obtain⟨q,Za,Zz,hz3⟩:=oF U u hu;have hq:q=u.2:=hz3 λi hi p O e=>hjD (by
     have h1:i<ps.length:=hlt i hi;have hmm:(ps.map (·.1))[i]?=some (U:Int):=by rw[bU,O];exact congrArg some e
     have hm2:(ps.map (·.1))[j]?=some (U:Int):=by rw[bU,bY];rfl
     have:=(List.getElem?_inj (l:=ps.map (·.1)) (by rw[bE]; exact h1) P3).1 (hmm.trans hm2.symm);rw[<-this];exact hi)
    refine vx rfl<|kV<|vx hent<|vx rfl<|vx rfl<|jS<|c.rc 0 ?_;refine jS<|c.rc 0 ?_;obtain⟨r9,o9,e9,row9,_⟩:=(c.sl (i:=2) rfl).sl.ix Za (n:=2) rfl (k:=.i64) (z:=(U:Int)) rfl;refine vx e9<|vx (oi _ _ _)<|vx (row9.mH (j:=1) rfl)<|En.vb (v:=.int .i64 (max q T)) (by
     show some (Value.int .i64 (if T > q then T else q))=_;rw[show(if T > q then T else q)=max q T from by split <;> omega]) ?_
    refine c.Dw 2 rfl Za (u.1,max q T) rfl rfl rfl (by decide) rfl λ_ c=>?_;replace c:=c.n4;have hDl:(D++[j]).length<=ps.length:=dO.len;refine aT (D++[j],zs.set U (u.1,max q T)) _ ⟨c,dO.nodup,dO.lt,by rw[aV]; exact hzl,λj' u' Q=>?_⟩ (by dsimp only; rw[aF,aE] at *; omega);dsimp only;rw[bH];by_cases ej:U=j'
    ·subst ej;rw[if_pos rfl,if_pos (by omega)];rw[hu] at Q;injection Q with Q;subst Q;exact⟨_,rfl,(λ_=>by rw[iN,hq]; rfl),λrW=>absurd rfl (rW j (by simp) _ bY)⟩
    ·rw[if_neg ej];obtain⟨q',a1,a2,a3⟩:=oF j' u' Q;refine⟨q',a1,λ⟨i,hi,p,O,e⟩=>?_,λrW=>a3 λi hi p O=>rW i (eF _ hi) p O⟩;rcases bB.1 hi with hi | hi
     ·exact a2 ⟨i,hi,p,O,e⟩
     ·rw[aN] at hi;subst hi;rw[bY] at O;injection O with O;subst O;exact absurd (jI.1 e) ej
end
structure Mj where
 me:Me
 li:Lj
structure Ab (B:Bs) (T:Nat) (v:MV) (m:Mj):Prop where
 me:MO B v.x m.me
 li:Wk B v.y m.li
 st:∃ss:List Int,(On B λh=>Sl rI h (jY v.s) ss)/\ss.length=T
def Ab.le {T:Nat} {v:MV} {m:Mj} (H:Ab B T v m) (l:B.le B'):Ab B' T v m:=let⟨a,b,ss,c,d⟩:=H; ⟨a.le l,b.le l,ss,c.le l,d⟩
structure Ce (T n b:Nat) (m:Mj):Prop where
 me:Mk T n b m.me
 li:KZ n b m.li
def Ab.mc {T:Nat} {v:MV} {m:Mj} (_:Ab B T v m):Mc:=⟨m.me,⟨m.li.fst,m.li.lg,v.y.a⟩⟩
def Ab.ko {T:Nat} {v:MV} {m:Mj} (H:Ab B T v m):KO B T v H.mc:=⟨H.me,H.li.lo,H.st⟩
def Ce.kk {T n b:Nat} {v:MV} {m:Mj} (k:Ce T n b m) (H:Ab B T v m):Kk T n b H.mc:=⟨k.me,k.li.k _⟩
inductive Bw (m:Mj) (t:Nat):Ac->Mj->lA->Prop where
 | look (i:Nat) (o n:W3):i<m.me.hs.length->Bw m t ⟨5,i,o,n⟩ {m with me:=m.me.qy t i ((m.me.at i).length - 1) (m.me.top i) true} ⟨(m.me.top i).w,true⟩
 | load (i q:Nat) (x:AM) (o n:W3):i<m.me.hs.length->(m.me.at i)[q]?=some x->m.me.view t i<=q->Bw m t ⟨1,i,o,n⟩ {m with me:=m.me.qy t i q x false} ⟨x.w,true⟩
 | put (i:Nat) (o w:W3) (wl:Bool):i<m.me.hs.length->Bw m t ⟨if wl then 4 else 3,i,o,w⟩ ⟨m.me.add t i w wl,m.li.kq i w⟩ ⟨W0,true⟩
 | swap (i:Nat) (old new:W3):i<m.me.hs.length->Bw m t ⟨6,i,old,new⟩ ⟨m.me.GC t i old new,if (m.me.top i).w=old then m.li.kq i new else m.li⟩ ⟨(m.me.top i).w,decide ((m.me.top i).w=old)⟩
 | flush (i:Nat) (o n:W3):i<m.me.hs.length->Bw m t ⟨7,i,o,n⟩ {m with li:=m.li.zw t i} ⟨W0,true⟩
 | sync (p:Int) (o n:W3):Bw m t ⟨8,p,o,n⟩ {m with li:=m.li.sS t} ⟨W0,true⟩
section
variable {T n b t i:Nat} {v:MV} {m:Mj} {w:W3} {z:Int}
def Ab.of {u:MV} {mc:Mc} (H:Ab B T v m) (q:KO B' T u mc) (l:B.le B') (e:mc.li.lx=v.y.a):Ab B' T u ⟨mc.me,⟨mc.li.fst,mc.li.lg,m.li.lx⟩⟩:=by
 have E:u.y.a=v.y.a:=q.li.lx.trans e;refine⟨q.me,⟨?_,?_⟩,q.st⟩
 ·have:=q.li;rw[E];rw[show(⟨mc.li.fst,mc.li.lg,v.y.a⟩:Li)=mc.li from by rw[<-e]];exact this
 ·rw[E];exact H.li.lx.le l
def TZ (G:B.p h) (H:Ab B T v m) (k:Ce T n b m) (J:b<=1000000) (K:1<=t/\t<=T) (hi:i<n) (hv:m.me.view t i<=((m.me.at i).length - 1:Nat)) {O Q:W3}
  (U:∀(q:Nat) (am:AM) u,(m.me.at i)[q]?=some am->m.me.view t i<=q->Rt B h (λB=>Ab B T u {m with me:=m.me.qy t i q am false}) λh'=>R (.tuple #[CW u,mU ⟨am.w,true⟩]) h'):ou.1 (CW v) (.int .i64 t) (qZ ⟨1,i,O,Q⟩) (.int .i64 z) h R:=by
 have c:=Cx.jQ h;refine c.v7 λ_ _ c=>c.v8 λ_ _ c=>c.v7 λ_ _ c=>c.v4 λ_ _ c=>c.v3 λ_ _ c=>?_;refine .here<|jS<|c.rc 1 ?_;refine vx (v:=.bool false) rfl<|j7<|jS<|vx (c.vp (i:=0) (ds:=[_,_]) rfl rfl rfl)<|jS<|c.rc 1 ?_;refine jS<|c.rc 1 ?_;refine vx (v:=.bool false) rfl<|Xx (x:=v.x) (jn:=false) (B.up G c.gr) H.me k.me J K hi hv λq am V X Z M _ d ok=>have c:=c.jT d;have c:=c.n6;vx rfl<|vx rfl<|vx rfl<|jS<|c.vq 0 rfl (vs:=[_,_]) (ds:=[_,_,_,_,_,_,_]) (by exact rfl) (by exact rfl) (by exact rfl) (by exact rfl) (by exact rfl) λ_ c=>?_;replace c:=c.n6;refine c.w3 4 λ_ c=>?_;refine c.rl 0 ?_;refine c.rl 4 ?_;refine vx (jU (ds:=[_,_,_,_]) rfl)<|c.w7 2 λ_ c=>?_;refine c.al 4<|c.w4 3 λ_ c=>?_;refine c.rl 2 ?_;refine c.rl 3 ?_;exact U q am {v with x:=V} X Z M _ (c.pick [5]) (let E:=H.le (Bs.jX B M); ⟨ok,E.li,E.st⟩)
end
section
variable {T n b t i:Nat} {v:MV} {m:Mj} {w:W3} {z:Int}
def Xg (E:B.p h) (H:Ab B T v m) (k:Ce T n b m) (U:b<=1000000) (K:1<=t/\t<=T) (hi:i<n) (hv:m.me.view t i<=((m.me.at i).length - 1:Nat)) {G J:W3}
  (V:∀(q:Nat) (am:AM) u,(m.me.at i)[q]?=some am->m.me.view t i<=q->Rt B h (λB=>Ab B T u {m with me:=m.me.qy t i q am false}) λh'=>R (.tuple #[CW u,mU ⟨am.w,true⟩,.int .i64 0]) h'):lE.1 (CW v) (.int .i64 t) (qZ ⟨1,i,G,J⟩) (.int .i64 z) h R:=by
 have hle:=k.me.le;have et:((t:Nat):Int) - 1=((t - 1:Nat):Int):=by omega
 have c:=Cx.jQ h;refine c.v7 λ_ _ c=>c.v8 λ_ _ c=>c.v7 λ_ _ c=>c.v4 λ_ _ c=>?_;refine c.rl 0 ?_;refine c.rl 1 ?_;refine tM (v:=v) (a:=⟨1,i,G,J⟩) (B.up E c.gr) H.ko (k.kk H) K ⟨by dsimp only; decide,by dsimp only; decide⟩ (λ_ _=>⟨bL i,dU.2 hi⟩) λ_ g=>have c:=c.more g;vx (v:=.bool false) rfl<|j7<|vx (jU (ds:=[_,_,_,_]) rfl)<|c.v4 λ_ _ c=>?_;refine c.w4 4 λ_ c=>?_;refine .here<|c.rl 1 ?_;refine Ad (a:=⟨1,i,G,J⟩) (r:=false) rfl λ_ g=>have c:=c.more g;j7<|jS<|c.rc 1 ?_;refine vx (v:=.bool false) rfl<|j7<|jS<|c.rc 1 ?_;refine vx (v:=.bool false) rfl<|j7<|jS<|c.rc 1 ?_;refine vx (v:=.bool true) rfl<|kV<|c.rl 0 ?_;refine c.rl 1 ?_;refine ou.2 (TZ (v:=v) (B.up E c.gr) H k U K hi hv λq am u X Z M _ d ok=>?_);have c:=c.jT d;obtain⟨ss,hs,hl⟩:=ok.st;have O:=aB (l:=ss) (i:=t - 1) (by omega);generalize ss[t - 1]'(by omega)=y at O;replace c:=c.n6;refine vx rfl<|vx rfl<|c.w7 0 λ_ c=>?_;refine c.w4 4 λ_ c=>?_;refine jS<|c.rc 0 ?_;refine sA (hs _ ⟨B.up E c.gr,c.get (i:=5) rfl⟩) (by omega) λs' _ d=>have c:=c.jT d;have c:=c.n7;jS<|c.q7 0 λ_ c=>?_;refine jS<|c.rc 0 ?_;refine vx (nu ⟨by omega,by omega⟩) ?_;rw[et];obtain⟨r,o,cap,el,ei,row⟩:=(c.sl (i:=6) rfl).ix O (n:=1) rfl (k:=.i64) (z:=((t - 1:Nat):Int)) rfl;refine vx ei<|vx (row.yK rfl)<|vx (ni _ _)<|c.Bp 6 rfl (j:=t - 1) (by omega) (tG (y+1)) rfl rfl rfl λ_ c=>have c:=c.n7;c.rl 0 ?_;refine c.rl 4 ?_;refine c.w7 2 λ_ c=>?_;refine c.al 4<|c.w4 3 λ_ c=>?_;refine c.rl 2 ?_;refine c.rl 3 ?_;exact V q am {u with s:=s'} X Z [jR M,kz rI (jY s') (ss.set (t - 1) (tG (y+1)))] _ (Cx.pack (L:=[]) (c.pick [5,6])) (let Q:=ok.le (B':=B.and [jR M,kz rI (jY s') (ss.set (t - 1) (tG (y+1)))]) λh b=>⟨b.1,Bs.star b (i:=0) rfl⟩; ⟨Q.me,Q.li,_,On.sl (i:=1) rfl,by rw[aV]; exact hl⟩)
def Xm (q:B.p h) (H:Ab B T v m) (k:Ce T n b m) (G:1<=t/\t<=T) (hi:i<n) {u E:W3} {ch:Value}
  (O:∀J,Rt B h (λB=>Ab B T J {m with li:=m.li.zw t i}) λh'=>R (.tuple #[CW J,mU ⟨W0,true⟩,.int .i64 0]) h'):lE.1 (CW v) (.int .i64 t) (qZ ⟨7,i,u,E⟩) ch h R:=by
 have hle:=k.me.le;obtain⟨ss,hs,Q⟩:=H.st;have K:=aB (l:=ss) (i:=t - 1) (by omega);generalize ss[t - 1]'(by omega)=y at K;have et:((t:Nat):Int) - 1=((t - 1:Nat):Int):=by omega
 have c:=Cx.jQ h;refine c.v7 λ_ _ c=>c.v8 λ_ _ c=>c.v7 λ_ _ c=>c.v4 λ_ _ c=>?_;refine c.rl 0 ?_;refine c.rl 1 ?_;refine tM (v:=v) (a:=⟨7,i,u,E⟩) (B.up q c.gr) H.ko (k.kk H) G ⟨by dsimp only; decide,by dsimp only; decide⟩ (λ_ _=>⟨bL i,dU.2 hi⟩) λ_ g=>have c:=c.more g;vx (v:=.bool false) rfl<|j7<|vx (jU (ds:=[_,_,_,_]) rfl)<|c.v4 λ_ _ c=>?_;refine c.w4 4 λ_ c=>?_;refine .here<|c.rl 1 ?_;refine Ad (a:=⟨7,i,u,E⟩) (r:=false) rfl λ_ g=>have c:=c.more g;j7<|jS<|c.rc 1 ?_;refine vx (v:=.bool true) rfl<|kV<|jS<|vx (c.vp (i:=0) (ds:=[_,_,_]) rfl rfl rfl)<|jS<|c.rc 1 ?_;refine UU (y:=v.y) (B.up q c.gr) H.li k.li ⟨G.1,by omega⟩ hi λU M _ d ok=>have c:=c.jT d;have c:=c.n6;vx rfl<|vx rfl<|jS<|c.vq 0 rfl (vs:=[_,_,_]) (ds:=[_,_,_,_,_,_,_]) (by exact rfl) (by exact rfl) (by exact rfl) (by exact rfl) (by exact rfl) λ_ c=>?_;replace c:=c.n6;refine jS<|c.rc 0 ?_;refine sA (hs _ (B.up q c.gr)) (by omega) λs' _ d=>have c:=c.jT d;have c:=c.n7;jS<|c.q7 0 λ_ c=>?_;refine jS<|c.rc 0 ?_;refine vx (nu ⟨by omega,by omega⟩) ?_;rw[et];obtain⟨r,o,cap,el,V,row⟩:=(c.sl (i:=6) rfl).ix K (n:=1) rfl (k:=.i64) (z:=((t - 1:Nat):Int)) rfl;refine vx V<|vx (row.yK rfl)<|vx (ni _ _)<|c.Bp 6 rfl (j:=t - 1) (by omega) (tG (y+1)) rfl rfl rfl λ_ c=>have c:=c.n7;c.rl 0 ?_;refine c.rl 4 ?_;refine c.w7 2 λ_ c=>?_;refine c.al 4<|c.w4 3 λ_ c=>?_;refine c.rl 2 ?_;refine c.rl 3 ?_;exact O {v with y:=U,s:=s'} [jR M,kz rI (jY s') (ss.set (t - 1) (tG (y+1)))] _ (Cx.pack (L:=[]) (c.pick [5,6])) ⟨H.me.le (Bs.jX _ _),ok.le (λh b=>⟨b.1,Bs.star b (i:=0) rfl⟩),_,On.sl (i:=1) rfl,by rw[aV]; exact Q⟩
def XE (q:B.p h) (H:Ab B T v m) (k:Ce T n b m) (G:1<=t/\t<=T) {u E:W3} {ch:Value} {p:Int}
  (O:∀J,Rt B h (λB=>Ab B T J {m with li:=m.li.sS t}) λh'=>R (.tuple #[CW J,mU ⟨W0,true⟩,.int .i64 0]) h'):lE.1 (CW v) (.int .i64 t) (qZ ⟨8,p,u,E⟩) ch h R:=by
 have hle:=k.me.le;obtain⟨ss,hs,Q⟩:=H.st;have K:=aB (l:=ss) (i:=t - 1) (by omega);generalize ss[t - 1]'(by omega)=y at K;have et:((t:Nat):Int) - 1=((t - 1:Nat):Int):=by omega
 have c:=Cx.jQ h;refine c.v7 λ_ _ c=>c.v8 λ_ _ c=>c.v7 λ_ _ c=>c.v4 λ_ _ c=>?_;refine c.rl 0 ?_;refine c.rl 1 ?_;refine tM (v:=v) (a:=⟨8,p,u,E⟩) (B.up q c.gr) H.ko (k.kk H) G ⟨by dsimp only; decide,by dsimp only; decide⟩ (λ_ e=>absurd rfl e) λ_ g=>have c:=c.more g;vx (v:=.bool false) rfl<|j7<|vx (jU (ds:=[_,_,_,_]) rfl)<|c.v4 λ_ _ c=>?_;refine c.w4 4 λ_ c=>?_;refine .here<|c.rl 1 ?_;refine Ad (a:=⟨8,p,u,E⟩) (r:=false) rfl λ_ g=>have c:=c.more g;j7<|jS<|c.rc 1 ?_;refine vx (v:=.bool false) rfl<|j7<|jS<|c.rc 1 ?_;refine vx (v:=.bool true) rfl<|kV<|jS<|vx (c.vp (i:=0) (ds:=[_,_,_]) rfl rfl rfl)<|W9 (y:=v.y) (B.up q c.gr) H.li k.li ⟨G.1,by omega⟩ λU M _ d ok=>have c:=c.jT d;have c:=c.n6;vx rfl<|vx rfl<|jS<|c.vq 0 rfl (vs:=[_,_,_]) (ds:=[_,_,_,_,_,_,_]) (by exact rfl) (by exact rfl) (by exact rfl) (by exact rfl) (by exact rfl) λ_ c=>?_;replace c:=c.n6;refine jS<|c.rc 0 ?_;refine sA (hs _ (B.up q c.gr)) (by omega) λs' _ d=>have c:=c.jT d;have c:=c.n7;jS<|c.q7 0 λ_ c=>?_;refine jS<|c.rc 0 ?_;refine vx (nu ⟨by omega,by omega⟩) ?_;rw[et];obtain⟨r,o,cap,el,V,row⟩:=(c.sl (i:=6) rfl).ix K (n:=1) rfl (k:=.i64) (z:=((t - 1:Nat):Int)) rfl;refine vx V<|vx (row.yK rfl)<|vx (ni _ _)<|c.Bp 6 rfl (j:=t - 1) (by omega) (tG (y+1)) rfl rfl rfl λ_ c=>have c:=c.n7;c.rl 0 ?_;refine c.rl 4 ?_;refine c.w7 2 λ_ c=>?_;refine c.al 4<|c.w4 3 λ_ c=>?_;refine c.rl 2 ?_;refine c.rl 3 ?_;exact O {v with y:=U,s:=s'} [jR M,kz rI (jY s') (ss.set (t - 1) (tG (y+1)))] _ (Cx.pack (L:=[]) (c.pick [5,6])) ⟨H.me.le (Bs.jX _ _),ok.le (λh b=>⟨b.1,Bs.star b (i:=0) rfl⟩),_,On.sl (i:=1) rfl,by rw[aV]; exact Q⟩
def Kv (n:Nat) (a:Ac):Prop:=a.op=8\/((a.op=1\/a.op=3\/a.op=4\/a.op=5\/a.op=6\/a.op=7)/\0<=a.at'/\a.at'<n)
def Wq (J:B.p h) (H:Ab B T v m) (k:Ce T n b m) (U:b<=900000) (K:1<=t/\t<=T) {a:Ac} (V:Kv n a) (G:a.op=5\/a.op=3\/a.op=4->a.old=W0) (Q:a.op=5->a.new=W0) (hv:a.op=1->∀i:Nat,a.at'=i->m.me.view t i<=((m.me.at i).length - 1:Nat))
  (O:∀m' g u,Bw m t a m' g->Rt B h (λB=>Ab B T u m') λh'=>R (.tuple #[CW u,mU g,.int .i64 0]) h'):S.C 60 [CW v,.int .i64 t,qZ a,.int .i64 z] h R:=by
 obtain⟨op,at',old,new⟩:=a;dsimp only[Kv] at V;dsimp only at G Q hv;have hn:=k.me.hs;rcases V with rfl | ⟨V,X,Z⟩
 ·exact lE.2 (XE J H k K λu=>O _ _ u (.sync at' old new))
 ·obtain⟨i,rfl⟩:∃i:Nat,at'=i:=⟨at'.toNat,by omega⟩;have hi:i<n:=by omega
  have E:i<m.me.hs.length:=by omega
  rcases V with rfl | rfl | rfl | rfl | rfl | rfl
  ·exact lE.2 (Xg J H k (by omega) K hi (hv rfl i rfl) λq am u e1 e2=>O _ _ u (.load i q am old new E e1 e2))
  ·obtain rfl:=G (.inr (.inl rfl));exact NP (a:=.put i new false) J H.ko (k.kk H) U K hi λu M h' c ok=>O _ _ u (.put i W0 new false E) M h' c (H.of ok (Bs.jX _ _) rfl)
  ·obtain rfl:=G (.inr (.inr rfl));exact NP (a:=.put i new true) J H.ko (k.kk H) U K hi λu M h' c ok=>O _ _ u (.put i W0 new true E) M h' c (H.of ok (Bs.jX _ _) rfl)
  ·obtain rfl:=G (.inl rfl);obtain rfl:=Q rfl;exact NP (a:=.look i) J H.ko (k.kk H) U K hi λu M h' c ok=>O _ _ u (.look i W0 W0 E) M h' c (H.of ok (Bs.jX _ _) rfl)
  ·refine NP (a:=.swap i old new) J H.ko (k.kk H) U K hi λu M h' c ok=>O _ _ u (.swap i old new E) M h' c ?_;have:=H.of ok (Bs.jX _ _) (by unfold Mc.act Mc.swap; dsimp only; split <;> rfl);unfold Mc.act Mc.swap at this;dsimp only at this;by_cases e:(m.me.top i).w=old
   ·rw[if_pos e];rw[if_pos (show(H.mc.me.top i).w=old from e)] at this;exact this
   ·rw[if_neg e];rw[if_neg (show ¬(H.mc.me.top i).w=old from e)] at this;exact this
  ·exact lE.2 (Xm J H k K hi λu=>O _ _ u (.flush i old new E))
end
def P0 (B:Bs) (W:km) (f:Nat) (t:TypeId) (v:Value) (g:lA) (Q:Bs->km->Value->Ac->Bool->Prop):Prop:=
 ∀h F (R:Value->Hp->Prop),Cx F h h [W]->(∀h',Ch F h h'->B.p h')->(∀q u d E M h',Cx F h h' [E,jR M]->Q (B.and M) E q u d->R (.tuple #[.iface t q,qZ u,.bool d]) h')->S.C f [v,mU g] h R
def Cx.FM (c:Cx F h0 h L) (E:∀h',Ch F h0 h'->B.p h') {i j:Nat} {A:km} {M:List km} (hi:L[i]?=some A) (G:L[j]?=some (jR M)) (u:i≠j) :
  ∃F',Cx F' h h [A]/\(∀q,Ch F' h q->(B.and M).p q)/\∀{h':Hp} {A':km} {M':List km},Cx F' h h' (A'::M')->Cx F h0 h' (L.set i A'++M'):=by
 obtain⟨F',H,J,up⟩:=c.sB hi;refine⟨F',H,λq ch=>?_,up⟩;have K:=up (A':=jR []) (M:=[]) (h':=q) (Cx.TQ ch);refine⟨E _ (J _ ch),K.get (i:=j) ?_⟩;rw[cX,bH,if_neg u];exact G
section
variable {W:km} {t:TypeId} {v:Value} {d:Bool} {a:Ac} {s:SH} {x:Tk} {gs:List lA} {g:lA} {f:Nat} {Q:Bs->km->Value->Ac->Bool->Prop}
def Px (c:Cx F h h [W]) (J:∀h',Ch F h h'->B.p h') (K:I.mt t "Next"=some f) (O:P0 B W f t v qa Q)
  (U:∀q u d E M h',Cx F h h' [E,jR M]->Q (B.and M) E q u d->R (PZ ⟨t,q,d,if d then o8 else u,(none,0,0)⟩) h'):Bx.1 (.iface t v) h R:=by
 have fin:∀q u d E M h',Cx F h h' [E,jR M]->Q (B.and M) E q u d->R (PZ ⟨t,q,d,if d then o8 else u,(none,0,0)⟩) h':=U;replace c:Cx _ _ _ [_]:=c;refine c.v11 λ_ _ c=>?_;refine vx (v:=.bool false) (rfl)<|j7<|vx (jU (ds:=[_,_,_,_,_,_,_,_,_,_,_]) rfl)<|vx (jU (ds:=[_,_,_,_]) rfl) ?_;obtain⟨F',V,X,up⟩:=c.sB (i:=0) rfl;refine⟨_,_,_,rfl,K,O _ F' _ V (λG ch=>J G (X _ ch)) λq u d E M _ dd ok=>?_⟩;have c:=up dd;replace c:=c.n3;refine vx rfl<|vx rfl<|vx rfl<|Ty λ_ g=>?_;have c:=c.more g;have H:(PZ ⟨t,q,d,if d then o8 else u,(none,0,0)⟩).cells.toList=SZ ⟨t,q,d,if d then o8 else u,(none,0,0)⟩:=rfl;refine c.vw 1 rfl (vs:=SZ ⟨t,q,d,if d then o8 else u,(none,0,0)⟩) H (cG.2 λx Z=>JA.one ⟨t,q,d,if d then o8 else u,(none,0,0)⟩ x Z) rfl rfl λ_ c=>have c:=c.n3;c.rl 1 ?_;exact fin q u d E M _ (c.pick [0,2]) ok
def Q3 (c:Cx F h h [W]) (K:∀h',Ch F h h'->B.p h') (hf:I.mt t "Next"=some f) (hs:On B λh=>Sl Tm h (jY s) gs) (hl:gs.length<=1000000) (hN:P0 B W f t v g Q) (hQ:∀{B B':Bs},B.le B'->∀{W v a d},Q B W v a d->Q B' W v a d)
  (hR:∀u E d s' G M h',Cx F h h' [G,jR M]->Q (B.and M) G u E d->(On (B.and M) λh=>Sl Tm h (jY s') (gs++[g]))->R (PZ ⟨t,u,d,if d then o8 else E,s'⟩) h'):vX.1 (PZ ⟨t,v,false,a,s⟩) (mU g) h R:=by
 obtain⟨ac,O,_⟩:=(hs h (K _ (.refl _ _))).Ea (n:=4) rfl;have Hc:∀h',Ch F h h'->Sl Tm h' (.slice ac gs.length gs.length) gs:=λh' ch=>by
  obtain⟨aS,H,U⟩:=(hs h' (K _ ch)).Ea (n:=4) rfl;rw[O] at H;injection H with H;rw[H];exact U
 have fin:∀u E d s' G M h',Cx F h h' [G,jR M,kz Tm (jY s') (gs++[g])]->Q (B.and M) G u E d->R (PZ ⟨t,u,d,if d then o8 else E,s'⟩) h':=λu E d s' G M h' c q=>hR u E d s' G [jR M,kz Tm (jY s') (gs++[g])] h' (Cx.pack (L:=[_]) c) (hQ (Bs.mO (i:=0) rfl) q) (On.sl (i:=1) rfl);replace c:Cx _ _ _ [_]:=c;refine c.v11 λ_ _ c=>c.v4 λ_ _ c=>c.v11 λ_ _ c=>?_;refine c.rl 1 ?_;refine zm λ_ gr=>have c:=c.more gr;j7<|jS<|c.rc 1 ?_;refine .here<|jS<|c.rc 1 ?_;refine c.rl 2 ?_;refine⟨?_,?_⟩
 ·refine N1 (hs _ (K _ c.gr)) O ?_;refine c.al 2<|c.lW Tm g rfl rfl λqW _ c=>have c:=c.n5;c.S9 (Hc _ c.gr) (c.sl (i:=4) rfl).sl (by simp) rfl rfl (by rw[aE]; omega) (by rw[aE]; omega) λAg _ c=>?_;obtain⟨s',rfl⟩:=(c.sl (i:=5) rfl).tW;replace c:=c.n6;refine jS<|c.Qm 1 λ_ c=>?_;refine c.rl 1 ?_;refine c.rl 2 ?_;obtain⟨F',V,X,up⟩:=c.sB (i:=0) rfl;refine .inr ⟨_,_,rfl,_,_,_,rfl,hf,hN _ F' _ V (λJ ch=>K J (X _ ch)) λu E d G M _ dd ok=>?_⟩;have c:=up dd;replace c:=c.n7;refine c.al 1<|vx rfl<|vx rfl<|vx rfl<|Rl (t:=t) (v:=v) (a:=a) (s:=s') λ_ gr=>have c:=c.more gr;c.vw 3 rfl (vs:=SZ ⟨t,u,d,if d then o8 else E,s'⟩) rfl (cG.2 λx Z=>JA.one ⟨t,u,d,if d then o8 else E,s'⟩ x Z) rfl rfl λ_ c=>have c:=c.n7;c.rl 3 ?_;exact fin u E d s' G M _ (c.pick [0,6,5]) ok
 ·refine c.lW Tm g rfl rfl λqW _ c=>have c:=c.n5;c.ac 1<|N1 (hs _ (K _ c.gr)) O ?_;refine c.S9 (Hc _ c.gr) (c.sl (i:=4) rfl).sl (by simp) rfl rfl (by rw[aE]; omega) (by rw[aE]; omega) λAg _ c=>?_;obtain⟨s',rfl⟩:=(c.sl (i:=5) rfl).tW;replace c:=c.n6;refine jS<|c.Qm 1 λ_ c=>?_;refine c.rl 1 ?_;refine c.rl 2 ?_;obtain⟨F',V,X,up⟩:=c.sB (i:=0) rfl;refine .inr ⟨_,_,rfl,_,_,_,rfl,hf,hN _ F' _ V (λJ ch=>K J (X _ ch)) λu E d G M _ dd ok=>?_⟩;have c:=up dd;replace c:=c.n7;refine c.al 1<|vx rfl<|vx rfl<|vx rfl<|Rl (t:=t) (v:=v) (a:=a) (s:=s') λ_ gr=>have c:=c.more gr;c.vw 3 rfl (vs:=SZ ⟨t,u,d,if d then o8 else E,s'⟩) rfl (cG.2 λx Z=>JA.one ⟨t,u,d,if d then o8 else E,s'⟩ x Z) rfl rfl λ_ c=>have c:=c.n7;c.rl 3 ?_;exact fin u E d s' G M _ (c.pick [0,6,5]) ok
end
structure Ef (B:Bs) (T:Nat) (w:WV) (m:Mj) (tks:List Tk) (gss:List (List lA)) (sts:List Bool):Prop where
 ko:Ab B T w.m m
 ts:On B λh=>Sl JA h (jY w.ts) tks
 st:On B λh=>Sl VM h (jY w.st) sts
 sl:sts.length=tks.length
 gl:gss.length=tks.length
 gs:∀(i:Nat) (tk:Tk) (gs:List lA),tks[i]?=some tk->gss[i]?=some gs->On B λh=>Sl Tm h (jY tk.s) gs
def Ef.le {T:Nat} {w:WV} {m:Mj} {tks:List Tk} {gss:List (List lA)} {sts:List Bool} (H:Ef B T w m tks gss sts) (l:B.le B'):Ef B' T w m tks gss sts:=
 ⟨H.ko.le l,H.ts.le l,H.st.le l,H.sl,H.gl,λi tk gs h1 h2=>(H.gs i tk gs h1 h2).le l⟩
section
variable {W:km} {T n b t:Nat} {w:WV} {m:Mj} {tks:List Tk} {gss:List (List lA)} {sts:List Bool} {tk:Tk} {gs:List lA} {z:Int}
def D9 (q:B.p h) (H:Ef B T w m tks gss sts) (k:Ce T n b m) (E:1<=T) (u:∀h',Gr h h'->R (.bool false) h'):nG.1 (xT w) h R:=by
 have c:=Cx.jQ h;refine c.v9 λ_ _ c=>?_;refine jS<|vx (c.vp (i:=0) (ds:=[_,_,_,_,_,_,_]) rfl rfl rfl)<|BE (v:=w.m) (B.up q c.gr) H.ko.ko (k.kk H.ko) λ_ g=>have c:=c.more g;vx rfl<|vx rfl<|vx (m6 (by omega))<|u _ c.gr
def Aj (E:B.p h) (H:Ef B T w m tks gss sts) {i:Nat} {q:Bool} (G:sts[i]?=some q) (J:∀h',Gr h h'->R (.bool q) h'):nD.1 (xT w) (.int .i64 i) h R:=by
 have K:=(aC.1 G).1;have c:=Cx.jQ h;refine c.v9 λ_ _ c=>?_;refine .here<|jS<|c.rc 0 ?_;refine vx (H.st h E).ln<|vx (vF (by omega))<|kV<|jS<|c.rc 0 ?_;refine(H.st _ (B.up E c.gr)).one rfl G rfl (u:=.bool q) rfl ?_;exact J _ c.gr
def B3 (u:B.p h) (H:Ef B T w m tks gss sts) (M:tks.length<=8) (O:1<=t) (E:tks[t - 1]?=some tk) {q:Bool} (G:sts[t - 1]?=some q) (J:∀h',Gr h h'->R (.bool (!q&&!tk.dn)) h'):lR.1 (xT w) (.int .i64 t) h R:=by
 have K:=(aC.1 E).1;have et:((t:Nat):Int) - 1=((t - 1:Nat):Int):=by omega
 cases q with
 | true=>
  have c:=Cx.jQ h;refine c.v9 λ_ _ c=>?_;refine .here<|vx (s0 (by omega))<|kV<|jS<|c.rc 0 ?_;refine vx (H.ts h u).ln<|vx (G7 (by omega))<|kV<|c.rl 0 ?_;refine vx (nu ⟨by omega,by omega⟩) ?_;rw[et];refine nD.2 (Aj (w:=w) (B.up u c.gr) H G λ_ g=>?_);have c:=c.more g;exact vx (v:=.bool false) (rfl)<|j7<|J _ c.gr
 | false=>
  have c:=Cx.jQ h;refine c.v9 λ_ _ c=>?_;refine .here<|vx (s0 (by omega))<|kV<|jS<|c.rc 0 ?_;refine vx (H.ts h u).ln<|vx (G7 (by omega))<|kV<|c.rl 0 ?_;refine vx (nu ⟨by omega,by omega⟩) ?_;rw[et];refine nD.2 (Aj (w:=w) (B.up u c.gr) H G λ_ g=>?_);have c:=c.more g;refine vx (v:=.bool true) (rfl)<|kV<|jS<|c.rc 0 ?_;refine vx (nu ⟨by omega,by omega⟩) ?_;rw[et];refine(H.ts _ (B.up u c.gr)).whole rfl E rfl ?_;refine zm (x:=tk) λ_ g=>have c:=c.more g;vx rfl<|J _ c.gr
def L3 (u:B.p h) (H:Ef B T w m tks gss sts) (E:¬(1<=z/\z<=tks.length)) (q:∀h',Gr h h'->R (.bool false) h'):lR.1 (xT w) (.int .i64 z) h R:=by
 by_cases h1:1<=z
 ·have c:=Cx.jQ h;refine c.v9 λ_ _ c=>?_;refine .here<|vx (s0 h1)<|kV<|jS<|c.rc 0 ?_;exact vx (H.ts h u).ln<|vx (RP (by omega))<|j7<|q _ c.gr
 ·have c:=Cx.jQ h;refine c.v9 λ_ _ c=>?_;exact .here<|vx (oV h1)<|j7<|q _ c.gr
def QC (c:Cx F h h [W]) (O:∀h',Ch F h h'->B.p h') (H:Ef B T w m tks gss sts) (k:Ce T n b m) (hb:b<=900000) (hl:tks.length<=T) (ht:1<=t) (U:tks[t - 1]?=some tk) (hg:gss[t - 1]?=some gs) (eQ:gs.length<=900000) (hd:tk.dn=false)
  (ha:Kv n tk.act) (J:tk.act.op=5\/tk.act.op=3\/tk.act.op=4->tk.act.old=W0) (K:tk.act.op=5->tk.act.new=W0) (hv:tk.act.op=1->∀i:Nat,tk.act.at'=i->m.me.view t i<=((m.me.at i).length - 1:Nat))
  {f:Nat} (hf:I.mt tk.t "Next"=some f) {Q:Mj->lA->Bs->km->Value->Ac->Bool->Prop} (hQ:∀{m' g} {B B':Bs},B.le B'->∀{W v a d},Q m' g B W v a d->Q m' g B' W v a d) (hN:∀m' g,Bw m t tk.act m' g->∀B',B.le B'->P0 B' W f tk.t tk.v g (Q m' g)) {ch:Int}
  (hR:∀m' g w' q u d s' V M h',Bw m t tk.act m' g->Cx F h h' [V,jR M]->Q m' g (B.and M) V q u d->Ef (B.and M) T w' m' (tks.set (t - 1) ⟨tk.t,q,d,if d then o8 else u,s'⟩) (gss.set (t - 1) (gs++[g])) sts->R (xT w') h'):uE.1 (xT w) (.int .i64 t) (.int .i64 ch) h R:=by
 have X:=(aC.1 U).1;have hT:=k.me.le.1;have et:((t:Nat):Int) - 1=((t - 1:Nat):Int):=by omega
 obtain⟨E,tv,td,ta,ts⟩:=tk;dsimp only at hd ha J K hv hf hN hR;subst hd;replace c:Cx _ _ _ [_]:=c;refine c.v9 λ_ _ c=>c.v9 λ_ _ c=>?_;refine jS<|c.rc 1 ?_;refine vx (nu ⟨by omega,by omega⟩) ?_;rw[et];refine(H.ts _ (O _ c.gr)).whole rfl U rfl ?_;refine Xr (x:=⟨E,tv,false,ta,ts⟩) λ_ g=>have c:=c.more g;vx rfl<|vx rfl<|c.v8 λ_ _ c=>?_;refine c.w8 3 λ_ c=>?_;refine jS<|vx (c.vp (i:=1) (ds:=[_,_,_,_,_,_,_]) rfl rfl rfl)<|c.rl 3 ?_;refine Wq (v:=w.m) (O _ c.gr) H.ko k hb ⟨ht,by omega⟩ ha J K hv λm' g v1 G M _ d ok=>have c:=c.jT d;have c:=c.n5;vx rfl<|vx rfl<|vx rfl<|c.v7 λ_ _ c=>?_;refine c.v4 λ_ _ c=>?_;refine c.w7 5 λ_ c=>?_;refine c.w4 6 λ_ c=>?_;refine .here<|vx (v:=.bool false) rfl<|j7<|c.rl 5 ?_;refine jS<|c.vq 1 rfl (vs:=[_,_,_,_,_,_,_]) (ds:=[_,_,_,_,_,_,_,_,_]) (by exact rfl) (by exact rfl) (by exact rfl) (by exact rfl) (by exact rfl) λ_ c=>?_;replace c:=c.n7;refine jS<|c.rc 1 ?_;refine RK (H.ts _ (O _ c.gr)) (by omega) λs' _ d=>have c:=c.jT d;have c:=c.n8;jS<|c.q9 1 λ_ c=>?_;refine jS<|c.rc 1 ?_;refine vx (nu ⟨by omega,by omega⟩) ?_;rw[et];refine jS<|c.rc 1 ?_;refine vx (nu ⟨by omega,by omega⟩) ?_;rw[et];refine(c.sl (i:=7) rfl).sl.whole rfl U rfl ?_;refine c.rl 6 ?_;obtain⟨F',d',hM,up⟩:=c.FM O (i:=0) (j:=4) rfl rfl (by decide);refine vX.2 (Q3 (B:=B.and M) (t:=E) (v:=tv) (a:=ta) (s:=ts) (g:=g) d' hM hf ((H.gs _ _ _ U hg).le (Bs.jX _ _)) (by omega) (hN m' g G _ (Bs.jX _ _)) hQ λq u d s2 V N _ dd Z aS=>?_);have c:=up dd;replace c:=c.n9;refine c.ac 1<|c.Bp 7 rfl (j:=t - 1) X ⟨E,q,d,if d then o8 else u,s2⟩ rfl rfl rfl λ_ c=>have c:=c.n9;c.rl 1 ?_;refine c.w9 2 λ_ c=>?_;refine c.rl 2 ?_;refine hR m' g ⟨v1,s',w.st⟩ q u d s2 V [jR M,kz JA (jY s') (tks.set (t - 1) ⟨E,q,d,if d then o8 else u,s2⟩),jR N] _ G (Cx.pack (L:=[_]) (c.pick [0,4,7,8])) ?_ ?_
 ·exact hQ (B:=(B.and M).and N) (B':=B.and [jR M,kz JA (jY s') (tks.set (t - 1) ⟨E,q,d,if d then o8 else u,s2⟩),jR N]) (λh b=>⟨⟨b.1,Bs.star b (i:=0) rfl⟩,Bs.star b (i:=2) rfl⟩) Z
 have l1:(B.and M).le (B.and [jR M,kz JA (jY s') (tks.set (t - 1) ⟨E,q,d,if d then o8 else u,s2⟩),jR N]):=Bs.mO (i:=0) rfl;have l2:((B.and M).and N).le (B.and [jR M,kz JA (jY s') (tks.set (t - 1) ⟨E,q,d,if d then o8 else u,s2⟩),jR N]):=λh b=>⟨⟨b.1,Bs.star b (i:=0) rfl⟩,Bs.star b (i:=2) rfl⟩;have l0:=Bs.jX B [jR M,kz JA (jY s') (tks.set (t - 1) ⟨E,q,d,if d then o8 else u,s2⟩),jR N];have dO:=H.gl;refine⟨ok.le l1,On.sl (i:=1) rfl,H.st.le l0,by rw[aV]; exact H.sl,by rw[aV,aV]; exact H.gl,λj aT bY h1 h2=>?_⟩;rw[bH] at h1 h2;by_cases ej:t - 1=j
 ·rw[if_pos ej,if_pos (by omega)] at h1 h2;injection h1 with h1;injection h2 with h2;subst h1 h2;exact aS.le l2
 ·rw[if_neg ej] at h1 h2;exact(H.gs j aT bY h1 h2).le l0
end
section
variable {W:km} {T n b t:Nat} {w:WV} {m:Mj} {tks:List Tk} {gss:List (List lA)} {sts:List Bool} {tk:Tk} {gs:List lA} {z:Int}
def CT (u:B.p h) (H:Ef B T w m tks gss sts) (k:Ce T n b m) (K:1<=T) (M:tks.length<=8) {kd:Int} (O:¬kd=2) (E:(∀t:Nat,1<=t->z=t->∃tk q,tks[t - 1]?=some tk/\sts[t - 1]?=some q/\(q=true\/tk.dn=true))\/¬(1<=z/\z<=tks.length)) {ch:Int} (G:∀h',Gr h h'->R (.tuple #[xT w,.bool false]) h'):lK.1 (xT w) (Wg kd z ch) h R:=by
 have Q:∀h R,B.p h->(∀h',Gr h h'->R (.bool false) h')->S.C 35 [xT w,.int .i64 z] h R:=λh R u G=>by
  by_cases Zz:1<=z/\z<=tks.length
  ·rcases E with E | E
   ·obtain⟨t,rfl⟩:∃t:Nat,z=t:=⟨z.toNat,by omega⟩;obtain⟨tk,q,h1,h2,J⟩:=E t (by omega) rfl;refine lR.2 (B3 u H M (by omega) h1 h2 ?_);rcases J with rfl | J
    ·exact G
    ·rw[J,show(!q&&!true)=false from Bool.and_false _];exact G
   ·exact absurd Zz E
  ·exact lR.2 (L3 u H Zz G)
 have c:=Cx.jQ h;refine c.v9 λ_ _ c=>c.v3 λ_ _ c=>c.v9 λ_ _ c=>?_;refine .here<|c.rl 0 ?_;refine nG.2 (D9 (w:=w) (B.up u c.gr) H k K λ_ g=>?_);have c:=c.more g;refine j7<|jS<|c.rc 1 ?_;refine vx (m6 O)<|j7<|c.rl 0 ?_;refine jS<|c.rc 1 ?_;refine Q _ _ (B.up u c.gr) λ_ g=>have c:=c.more g;vx (v:=.bool true) (rfl)<|kV<|c.rl 0 ?_;refine c.w9 2 λ_ c=>?_;refine c.rl 2 ?_;exact G _ c.gr
def N5 (c:Cx F h h [W]) (G:∀h',Ch F h h'->B.p h') (H:Ef B T w m tks gss sts) (k:Ce T n b m) (hb:b<=900000) (hl:tks.length<=T) (ht:1<=t) (J:tks[t - 1]?=some tk) (hs:sts[t - 1]?=some false) (hg:gss[t - 1]?=some gs) (K:gs.length<=900000) (hd:tk.dn=false)
  (ha:Kv n tk.act) (O:tk.act.op=5\/tk.act.op=3\/tk.act.op=4->tk.act.old=W0) (U:tk.act.op=5->tk.act.new=W0) (hv:tk.act.op=1->∀i:Nat,tk.act.at'=i->m.me.view t i<=((m.me.at i).length - 1:Nat))
  {f:Nat} (hf:I.mt tk.t "Next"=some f) {Q:Mj->lA->Bs->km->Value->Ac->Bool->Prop} (hQ:∀{m' g} {B B':Bs},B.le B'->∀{W v a d},Q m' g B W v a d->Q m' g B' W v a d) (hN:∀m' g,Bw m t tk.act m' g->∀B',B.le B'->P0 B' W f tk.t tk.v g (Q m' g)) {ch:Int}
  (hR:∀m' g w' q u d s' E M h',Bw m t tk.act m' g->Cx F h h' [E,jR M]->Q m' g (B.and M) E q u d->Ef (B.and M) T w' m' (tks.set (t - 1) ⟨tk.t,q,d,if d then o8 else u,s'⟩) (gss.set (t - 1) (gs++[g])) sts->R (.tuple #[xT w',.bool true]) h'):lK.1 (xT w) (Wg 0 t ch) h R:=by
 have hT:=k.me.le.1;have aS:=(aC.1 J).1;replace c:Cx _ _ _ [_]:=c;refine c.v9 λ_ _ c=>c.v3 λ_ _ c=>c.v9 λ_ _ c=>?_;refine .here<|c.rl 1 ?_;refine nG.2 (D9 (w:=w) (G _ c.gr) H k (by omega) λ_ g=>?_);have c:=c.more g;refine j7<|jS<|c.rc 2 ?_;refine vx (v:=.bool false) rfl<|j7<|c.rl 1 ?_;refine jS<|c.rc 2 ?_;refine lR.2 (B3 (G _ c.gr) H (by omega) ht J hs λ_ g=>?_);rw[hd];have c:=c.more g;refine vx (v:=.bool false) (rfl)<|j7<|jS<|c.rc 2 ?_;refine vx (v:=.bool true) rfl<|kV<|c.rl 1 ?_;refine jS<|c.rc 2 ?_;refine jS<|c.rc 2 ?_;obtain⟨F',d',hF,up⟩:=c.sB (i:=0) rfl;refine uE.2 (QC (Q:=Q) d' (λV ch=>G V (hF _ ch)) H k hb hl ht J hg K hd ha O U hv hf hQ hN λm' g w' q u d s' E M _ X dd ok Z=>?_);have c:=up dd;replace c:=c.n5;refine c.w9 3 λ_ c=>?_;refine c.rl 3 ?_;exact hR m' g w' q u d s' E M _ X (c.pick [0,4]) ok Z
def Q9 {J:Type} {done:J->Bool} {rk:J->Nat} {P:Bs->km->WV->J->Prop} (hP:∀{B B':Bs},B.le B'->∀{W w s},P B W w s->P B' W w s) {k:Nat} (hk:k<=1000000) (ht:1<=t)
  (K:∀{B:Bs} {W w s},P B W w s->∃T mj tks gss sts tk,Ef B T w mj tks gss sts/\tks.length<=8/\tks[t - 1]?=some tk/\sts[t - 1]?=some false/\tk.dn=done s)
  (O:∀{B:Bs} {W w s} h F R,Cx F h h [W]->(∀h',Ch F h h'->B.p h')->P B W w s->done s=false->(∀w' s' u M h',Cx F h h' [u,jR M]->P (B.and M) u w' s'->rk s'<rk s->R (.tuple #[xT w',.bool true]) h')->S.C 9 [xT w,Wg 0 t 0] h R)
  (aS:∀{B:Bs} {W w s} h R,B.p h->P B W w s->done s=true->(∀h',Gr h h'->R (.tuple #[xT w,.bool false]) h')->S.C 9 [xT w,Wg 0 t 0] h R)
  (hz:∀{B:Bs} {W w s},P B W w s->rk s=0->done s=true)
  {s:J} (c:Cx F h h [W]) (Q:∀h',Ch F h h'->B.p h') (H:P B W w s) (aT:rk s<=k) (hR:∀w' s' u M h',Cx F h h' [u,jR M]->P (B.and M) u w' s'->done s'=true->R (.tuple #[xT w',.bool true]) h'):qh.1 (xT w) (.int .i64 t) (.int .i64 k) h R:=by
 obtain⟨T,mc,tks,gss,sts,tk,X,hl,hx,hs,hd⟩:=K H;have uS:=(aC.1 hx).1;have et:((t:Nat):Int) - 1=((t - 1:Nat):Int):=by omega
 have fin:∀(w':WV) s' u M U Z h',Cx F h h' [rV U (Nq w'),rV Z [.slice none 0 0,.slice none 0 0,.slice none 0 0,.slice none 0 0,.map none,.slice none 0 0,.int .i64 0,.slice none 0 0,.slice none 0 0],u,jR M]->P (B.and M) u w' s'->done s'=true->
  Vb (kc 9 (kC U) h') λV=>Vb (fa 7 (kC U)) λbY=>Vb (mH bY h') λdO=>Vb (bin .sub (.int .i64 t) (.int .i64 1)) λeQ=>Vb (sL 11 dO eQ) λiF=>Vb (kc 11 iF h') λiN=>S.C 11 [iN] h' λiS h6=>kc 9 (kC U) h6=some V/\Sb (kq 9 (kC Z) V h6) λh7=>Vb (kc 9 (kC Z) h7) λr0=>R (.tuple #[r0,iS]) h7:=λw' s' u M U Z h' c q e=>by
  obtain⟨T,mc,tks,gss,sts,tk,X,hl,hx,hs,hd⟩:=K q;refine En.vb (c.vl (i:=0) rfl rfl) ?_;refine En.vb (oi _ _ _) ?_;refine En.vb (c.vc (i:=0) rfl rfl) ?_;refine En.vb (nu ⟨by omega,by omega⟩) ?_;rw[et];refine(X.ts _ ⟨Q _ c.gr,c.get (i:=3) rfl⟩).whole rfl hx rfl ?_;refine zm (x:=tk) λ_ g=>have c:=c.more g;aQ (c.vl (i:=0) rfl rfl) ?_;refine c.vw 1 rfl (vs:=[_,_,_,_,_,_,_,_,_]) (by exact rfl) (by exact rfl) (by exact rfl) (by exact rfl) λ_ c=>?_;refine En.vb (c.vl (i:=1) rfl rfl) ?_;rw[hd,e];exact hR w' s' u M _ (c.pick [2,3]) q e
 replace c:Cx _ _ _ [_]:=c;refine c.v9 λoF _ c=>c.v9 λoR _ c=>?_;refine .here<|vx (lL (by omega))<|j7<|jS<|c.rc 1 ?_;refine vx (X.ts h (Q _ (.refl _ _))).ln<|vx (pW (by omega))<|j7<|c.rl 1 ?_;refine vx (nu ⟨by omega,by omega⟩) ?_;rw[et];refine nD.2 (Aj (w:=w) (Q _ c.gr) X hs λ_ g=>?_);have c:=c.more g;refine j7 ?_;refine .here<|En.vb (v:=.int .i64 k) (by
  show some (Value.int .i64 (if (0:Int) > k then 0 else k))=_;rw[if_neg (by omega)]) ?_
 refine sO.by (λ(z:Nat × J) x h'=>x=.int .i64 z.1/\z.1<=k/\rk z.2+z.1<=k/\∃w' u M,Cx F h h' [rV oF (Nq w'),rV oR [.slice none 0 0,.slice none 0 0,.slice none 0 0,.slice none 0 0,.map none,.slice none 0 0,.int .i64 0,.slice none 0 0,.slice none 0 0],u,jR M]/\P (B.and M) u w' z.2) (λz=>k - z.1) (0,s) ⟨rfl,aO _,aT,w,W,[],Cx.pack (L:=[_,_,_]) (M:=[]) (c.pick [1,2,0]),hP (Bs.jX _ _) H⟩ ?_;rintro⟨i,s'⟩ _ h8 ⟨rfl,hi,rW,w',u,M,c,q⟩ again E;dsimp only at hi rW q E;replace c:=c.n4;refine vx j9<|lV (λtO=>?_) λtO=>?_
 ·refine c.rl 0 ?_;refine vx (jU (ds:=[_,_,_]) rfl) ?_;by_cases G:done s'=true
  ·refine aS (B:=B.and M) _ _ ⟨Q _ c.gr,c.get (i:=3) rfl⟩ q G λ_ g=>have c:=c.more g;En.vb rfl (En.vb rfl ?_);refine c.nv (cs:=[_,_,_,_,_,_,_,_,_]) rfl rfl λ_ _ c=>?_;refine c.vw 4 rfl (vs:=[_,_,_,_,_,_,_,_,_]) (by exact rfl) (by exact rfl) (by exact rfl) (by exact rfl) λ_ c=>?_;exact vx rfl<|kV<|fin w' s' u M _ _ _ (c.pick [0,1,2,3]) q G
  have G:done s'=false:=by simpa using G
  obtain⟨F',d',hM,up⟩:=c.FM Q (i:=2) (j:=3) rfl rfl (by decide);refine O (B:=B.and M) _ F' _ d' hM q G λw2 s2 W2 N _ d ok hrs=>have c:=up d;have c:=c.n5;vx rfl<|vx rfl<|c.v9 λ_ _ c=>?_;refine c.w9 5 λ_ c=>?_;refine vx (v:=.bool false) (rfl)<|j7<|c.rl 5 ?_;refine c.w9 0 λ_ c=>?_;refine vx (inc (by omega))<|E (i+1,s2) _ _ ⟨rfl,by dsimp only; omega,by dsimp only; omega,w2,W2,[jR M,jR N],Cx.pack (L:=[_,_,_]) (c.pick [0,1,2,3,4]),hP Bs.FW ok⟩ (by dsimp only; omega)
 ·exact fin w' s' u M _ _ _ (c.pick [0,1,2,3]) q (hz q (by omega))
end
def Cx.snoc {q:km} {u:List km} (c:Cx F h0 h (L++[q,jR u])):Cx F h0 h (L++[jR (u++[q])]):=by
 have c:Cx F h0 h ((L++[q])++[jR u]):=by rw[cY];exact c
 have c:=Cx.unpack c;rw[cY] at c;exact Cx.pack (c.perm (fO L (fN (l₁:=[q]) (l₂:=u))))
def Cx.ws {W:km} {q M:List km} {i:Nat} (c:Cx F h0 h [jR M,jR q]) (K:∀h',Ch F h0 h'->B.p h') (hi:q[i]?=some W) :
  ∃F',Cx F' h h [W]/\(∀E,Ch F' h E->(B.and M).p E)/\∀{h':Hp} {u:km} {N:List km},Cx F' h h' [u,jR N]->Cx F h0 h' [jR [jR M,jR N],jR (q.set i u)]:=by
 have c2:Cx F h0 h ([jR M]++q):=Cx.unpack (L:=[jR M]) c;have G:([jR M]++q)[i+1]?=some W:=by simpa using hi
 obtain⟨F',O,Q,up⟩:=c2.FM K (i:=i+1) (j:=0) G rfl (by omega);refine⟨F',O,Q,λ{h' u N} dd=>?_⟩;have J:=up dd;have e:([jR M]++q).set (i+1) u++[jR N]=[jR M]++(q.set i u++[jR N]):=by simp
 rw[e] at J;have H:Cx F h0 h' ([jR M]++([jR N]++q.set i u)):=J.perm (fO _ fN);have U:Cx F h0 h' ([jR M,jR N]++[jR (q.set i u)]):=by
  have H:Cx F h0 h' ([jR M,jR N]++q.set i u):=H;exact Cx.pack H
 have V:Cx F h0 h' ([jR (q.set i u)]++[jR M,jR N]):=U.perm fN;exact(Cx.pack V).pick [1,0]
section
variable {T n b t:Nat} {w:WV} {m:Mj} {v:MV} {s:SH} {cds:List (TypeId × Value)}
def RX (Q:Nat->Bs->km->Value->Ac->Bool->Prop) (B:Bs) (cds:List (TypeId × Value)) (q:List Tk) (u:List km):Prop:=
 ∀(j:Nat) (tk:Tk) (W:km),q[j]?=some tk->u[j]?=some W->∃a c,cds[j]?=some c/\tk.t=c.1/\Q j B W tk.v a tk.dn/\tk.act=(if tk.dn then o8 else a)/\tk.s=(none,0,0)
def U3 (U:B.p h) (H:Ab B T v m) (k:Ce T n b m) (hs:On B λh=>Sl VE h (jY s) cds) (hl:cds.length<=T) {Q:Nat->Bs->km->Value->Ac->Bool->Prop} (hQ:∀{j} {B B':Bs},B.le B'->∀{W v a d},Q j B W v a d->Q j B' W v a d)
  (hN:∀(j:Nat) (c:TypeId × Value),cds[j]?=some c->∃f,I.mt c.1 "Next"=some f/\∀B',B.le B'->P0 B' (jR []) f c.1 c.2 qa (Q j))
  (hR:∀w q E M h',q.length=cds.length->E.length=cds.length->Cx (λ_=>False) h h' [jR M,jR E]->RX Q (B.and M) cds q E->Ef (B.and M) T w m q (List.replicate cds.length []) (List.replicate cds.length false)->R (.tuple #[xT w,.int .i64 0]) h'):Df.1 (CW v) (jY s) h R:=by
 have hT:=k.me.le.1;have c:=Cx.jQ h;refine c.v7 λX _ c=>c.v9 λZ _ c=>?_;refine c.rl 0 ?_;refine BE (v:=v) (B.up U c.gr) H.ko (k.kk H) λ_ g=>have c:=c.more g;vx rfl<|vx rfl<|vx (hs h U).ln<|vx (pW (by omega))<|j7<|sV.at (λz h'=>∃(r3:Nat) (u:SH),z=kC r3/\Cx (λ_=>False) h h' [rV X (ZT v),rV Z [.slice none 0 0,.slice none 0 0,.slice none 0 0,.slice none 0 0,.map none,.slice none 0 0,.int .i64 0,.slice none 0 0,.slice none 0 0],rV r3 (Nq ⟨v,(none,0,0),u⟩),kz VM (jY u) (List.replicate cds.length false)]) ?_ ?_
 ·refine c.rl 0 ?_;refine vx (hs h U).ln<|⟨?_,?_⟩
  ·refine c.Fl VM false rfl rfl rfl (by omega) (by decide) λad _ c=>?_;obtain⟨u,hu⟩:∃l:SH,jY l=.slice (some ad) cds.length cds.length:=⟨(some ad,cds.length,cds.length),rfl⟩;rw[<-hu] at c⊢;replace c:=c.n3;refine c.al 0<|vx (jU (ds:=[_,_,_,_,_,_,_,_,_]) rfl)<|c.v9 λ_ _ c=>?_;refine c.al 0<|c.w9 3 λ_ c=>?_;exact⟨_,u,rfl,c.pick [0,1,3,2]⟩
  ·refine c.v9 λ_ _ c=>?_;refine c.al 0<|c.Fl VM false rfl rfl rfl (by omega) (by decide) λad _ c=>?_;obtain⟨u,hu⟩:∃l:SH,jY l=.slice (some ad) cds.length cds.length:=⟨(some ad,cds.length,cds.length),rfl⟩;rw[<-hu] at c⊢;replace c:=c.n4;refine c.al 0<|vx (jU (ds:=[_,_,_,_,_,_,_,_,_]) rfl)<|c.w9 2 λ_ c=>?_;exact⟨_,u,rfl,c.pick [0,1,2,3]⟩
 ·rintro _ V ⟨r3,u,rfl,c⟩;replace c:=c.n4;refine vx (hs h U).ln<|sO.by (λ(i:Nat) z h'=>z=.int .i64 i/\i<=cds.length/\∃(p:SH) (q:List Tk) (M E:List km),q.length=i/\E.length=i/\Cx (λ_=>False) h h' [rV X (ZT v),rV Z [.slice none 0 0,.slice none 0 0,.slice none 0 0,.slice none 0 0,.map none,.slice none 0 0,.int .i64 0,.slice none 0 0,.slice none 0 0],rV r3 (Nq ⟨v,p,u⟩),kz VM (jY u) (List.replicate cds.length false),kz JA (jY p) q,jR M,jR E]/\RX Q (B.and M) cds q E) (λi=>cds.length - i) 0 ⟨rfl,aO _,(none,0,0),([]:List Tk),([]:List km),([]:List km),rfl,rfl,Cx.BO (L:=[_,_,_,_,_,_]) (Cx.BO (L:=[_,_,_,_,_]) ((c.nil JA).pick [0,1,2,3,4])),λj tk W G=>HV G⟩ ?_;rintro i _ h8 ⟨rfl,hi,p,q,M,E,hlen,aS,c,hM⟩ again J;replace c:=c.n7;refine vx j9<|lV (λbY=>?_) λbY=>?_
  ·obtain⟨K,O⟩:∃K,cds[i]?=some K:=⟨_,aB (by omega)⟩;obtain⟨f,hf,dO⟩:=hN i K O;refine(hs _ (B.up U c.gr)).one rfl O rfl (u:=.iface K.1 K.2) rfl ?_;refine jS<|c.rc 2 ?_;refine Bx.2 (Px (B:=B) (G0 (F:=B1)) (λh' ch=>B.up U (Gr.trans c.gr ch)) hf (dO B (Bs.le_refl B)) λv' a' d W N _ dd ok=>?_);have c:=c.jT dd;replace c:=c.n9;refine c.ac 2<|c.lW JA ⟨K.1,v',d,if d then o8 else a',(none,0,0)⟩ rfl rfl λeQ _ c=>have c:=c.Ut;c.ac 2<|c.ap 4 rfl (c.sl (i:=9) rfl).sl rfl rfl (by simp only[aE]; omega) (by simp only[aE]; omega) λiF _ c=>?_;obtain⟨p2,rfl⟩:=(c.sl (i:=4) rfl).tW;replace c:=c.Ut;refine jS<|c.q9 2 λ_ c=>?_;refine vx (inc (by omega)) ?_;have c:=Cx.pack (L:=[_,_,_,_,_,_,_]) (M:=[_,_]) (c.pick [0,1,2,3,4,7,6,5,8]);have c:=Cx.snoc (L:=[_,_,_,_,_,_]) (c.pick [0,1,2,3,4,7,5,6]);refine J (i+1) _ _ ⟨rfl,by omega,p2,q++[(⟨K.1,v',d,if d then o8 else a',(none,0,0)⟩:Tk)],[jR M,jR N],E++[W],by rw[aF,aE,hlen],by rw[aF,aE,aS],c,λj tk W' G hw=>?_⟩ (by omega);by_cases aT:j<q.length
   ·rw[aY aT] at G;rw[aY (by omega)] at hw;obtain⟨a,cc,h1,h2,h3,h4,V⟩:=hM j tk W' G hw;exact⟨a,cc,h1,h2,hQ (Bs.mO (i:=0) rfl) h3,h4,V⟩
   ·rw[bD (by omega)] at G hw;have e:j - q.length=0:=by
     have:=(aC.1 G).1;rw[aE] at this;omega
    rw[e] at G;rw[show j - E.length=0 by omega] at hw;simp only[aX,aD] at G hw;subst G hw;obtain rfl:j=i:=by omega
    exact⟨a',K,O,rfl,hQ (Bs.mO (i:=1) rfl) ok,rfl,rfl⟩
  ·refine c.rl 2 ?_;refine c.w9 1 λ_ c=>?_;refine c.rl 1 ?_;have hi:i=cds.length:=by omega
   subst hi;have c:=Cx.pack (L:=[_]) (M:=[_,_,_]) (c.pick [6,4,3,5]);refine hR ⟨v,p,u⟩ q E [kz JA (jY p) q,kz VM (jY u) (List.replicate cds.length false),jR M] _ hlen aS (c.pick [1,0]) (λj tk W G hw=>?_) ⟨H.le (Bs.jX _ _),On.sl (i:=0) rfl,On.sl (i:=1) rfl,by rw[bR,hlen],by rw[bR,hlen],λj tk gs h1 h2=>?_⟩
   ·obtain⟨a,cc,h1,h2,h3,h4,V⟩:=hM j tk W G hw;exact⟨a,cc,h1,h2,hQ (Bs.mO (i:=2) rfl) h3,h4,V⟩
   ·have aT:=(aC.1 h1).1;obtain⟨a,cc,_,_,_,_,V⟩:=hM j tk _ h1 (aB (by omega));rw[dJ] at h2;split at h2
    ·injection h2 with h2;subst h2;rw[V];exact λh b=>⟨none,0,rfl,aP _,(λ_=>rfl),λi x hx=>HV hx⟩
    ·cases h2
end
def XU:pT Int:={n:=1,c:=λi=>[.int .i8 i],len:=λ_=>rfl,one:=λa v h=>by simp only[aN] at h; subst h; rfl}
structure FU (G:Nat->W3) (ws:List W3):Prop where
 len:ws.length=512
 at':∀i,i<512->ws[i]?=some (G i)
def FU.set {G:Nat->W3} {ws:List W3} (H:FU G ws) {p:Nat} (q:p<512) (w:W3):FU (λj=>if j=p then w else G j) (ws.set p w):=by
 refine⟨by rw[aV]; exact H.len,λi hi=>?_⟩;have:=H.len;rw[bH];by_cases e:p=i
 ·subst e;rw[if_pos rfl,if_pos (by omega),if_pos rfl]
 ·rw[if_neg e,if_neg (λx=>e x.symm)];exact H.at' i hi
def FU.ext {G q:Nat->W3} {ws:List W3} (H:FU G ws) (e:∀i,i<512->G i=q i):FU q ws:=⟨H.len,λi hi=>by rw[H.at' i hi,e i hi]⟩
def S5 (t:Nat) (j:Nat):W3:=if 64<=j/\j<64+104*t/\(j - 64) % 104=0 then⟨2,0,0⟩ else if j=1 then⟨1,0,0⟩ else W0
def UT (i:Nat) (j:Nat):W3:=if 384<=j/\j<384+32*i/\(j - 384) % 32=0 then⟨2,0,0⟩ else S5 3 j
def xN (first:List Int) (i:Nat) (j:Nat):W3:=if 56<=j/\j<56+i then⟨first.getD (j - 56) 0,0,0⟩ else UT 4 j
def FU.start:FU (S5 0) ((List.replicate 512 W0).set 1 ⟨1,0,0⟩):=by
 have:FU (λ_=>W0) (List.replicate 512 W0):=⟨bR,λi hi=>by rw[dJ,if_pos hi]⟩;refine(this.set (p:=1) (by decide) ⟨1,0,0⟩).ext λi _=>(if_neg (by omega)).symm
section
def wE (q:∀h',Gr h h'->R vL h'):S.C 22 [] h R:=by
 refine wY.2<|have c:=Cx.jQ h;c.v3 λ_ _ c=>?_;refine vx (jU (ds:=[_,_,_]) rfl)<|c.w3 0 λ_ c=>?_;refine c.rl 0 ?_;exact q _ c.gr
def LI:Pz 50 [vL] (.int .i64 512):=λh R Z k=>pp.2 (RO Z k)
def Ma:Pz 51 [vL] (.int .i64 1):=λh R Z k=>s4.2 (YL Z k)
def Qx (Z:Zs h) (T:∀u ws h',FU (UT 4) ws->Cx (λ_=>False) h h' [kz EW (jY u) ws]->R (jY u) h'):S.C 29 [vL] h R:=by
 refine xG.2 ?_;have h1:(List.replicate 512 W0)[1]?=some W0:=by rw[dJ,if_pos (by decide)]
 have c:=Cx.jQ h;refine c.v3 λG _ c=>?_;refine c.rl 0 ?_;refine qj _ _ (Z.gr c.gr) λ_ g=>have c:=c.more g;vx (v:=.bool false) (rfl)<|j7<|c.rl 0 ?_;refine LI _ _ (Z.gr c.gr) λ_ g=>have c:=c.more g;c.Fl EW W0 (n:=512) rfl rfl rfl (by decide) (by decide) λO _ c=>?_;obtain⟨u,hu⟩:∃u:SH,jY u=.slice (some O) 512 512:=⟨(some O,512,512),rfl⟩;rw[<-hu] at c⊢;replace c:=c.n2;refine c.rl 0 ?_;refine Ma _ _ (Z.gr c.gr) λ_ g=>have c:=c.more g;c.Dw 1 rfl (p:=1) h1 ⟨1,0,0⟩ rfl rfl (j:=0) rfl (by decide) rfl λ_ c=>have c:=c.n2;sO.by (λ(i:Nat) z h'=>z=.int .i64 ((i+1:Nat):Int)/\i<=3/\∃ws,FU (S5 i) ws/\Cx (λ_=>False) h h' [rV G [.int .i64 3,.int .i64 6,.int .i64 4],kz EW (jY u) ws]) (λi=>3 - i) 0 ⟨rfl,by decide,_,FU.start,c⟩ ?_;rintro i _ X ⟨rfl,hi,ws,E,c⟩ again q;refine jS<|c.rc 0 ?_;refine vx zn<|lV (λJ=>?_) λJ=>?_
 ·refine c.rl 0 ?_;refine pE (t:=((i+1:Nat):Int)) (by omega) _ _ (Z.gr c.gr) λ_ g=>?_;have c:=c.more g;have U:=E.len;have K:=E.at' (64+104*i) (by omega);rw[show mR ((i+1:Nat):Int)=((64+104*i:Nat):Int) by unfold mR; rw[if_pos (by omega)]; omega];refine c.Dw 1 rfl K ⟨2,0,0⟩ rfl rfl (j:=0) rfl (by decide) (by unfold S5; rw[if_neg (by omega),if_neg (by omega)]; rfl) λ_ c=>have c:=c.n2;vx (inc (by omega))<|q (i+1) _ _ ⟨rfl,by omega,_,(E.set (p:=64+104*i) (by omega) ⟨2,0,0⟩).ext λj Q=>?_,c⟩ (by omega);unfold S5;by_cases e:j=64+104*i
  ·rw[if_pos e,if_pos (by omega)]
  ·rw[if_neg e];by_cases H:64<=j/\j<64+104*i/\(j - 64) % 104=0
   ·rw[if_pos H,if_pos (by omega)]
   ·exact(if_neg H).trans (if_neg (by omega)).symm
 ·refine jS<|c.rc 0 ?_;obtain rfl:i=3:=by omega
  refine sO.by (λ(i:Nat) z h'=>z=.int .i64 i/\i<=4/\∃ws,FU (UT i) ws/\Cx (λ_=>False) h h' [rV G [.int .i64 3,.int .i64 6,.int .i64 4],kz EW (jY u) ws]) (λi=>4 - i) 0 ⟨rfl,by decide,ws,E.ext λj Q=>(if_neg (by omega)).symm,c⟩ ?_;clear E c;rintro i _ V ⟨rfl,hi,ws,E,c⟩ again q;refine vx j9<|lV (λM=>?_) λM=>?_
  ·refine c.rl 0 ?_;refine rS (i:=(i:Int)) _ _ (Z.gr c.gr) λ_ g=>?_;have c:=c.more g;have K:=E.at' (384+32*i) (by omega);rw[show lC (i:Int)=((384+32*i:Nat):Int) by unfold lC; rw[if_pos (by omega)]; omega];refine c.Dw 1 rfl K ⟨2,0,0⟩ rfl rfl (j:=0) rfl (by decide) (by unfold UT S5; rw[if_neg (by omega),if_neg (by omega),if_neg (by omega)]; rfl) λ_ c=>have c:=c.n2;vx (inc (by omega))<|q (i+1) _ _ ⟨rfl,by omega,_,(E.set (p:=384+32*i) (by omega) ⟨2,0,0⟩).ext λj Q=>?_,c⟩ (by omega);unfold UT;by_cases e:j=384+32*i
   ·rw[if_pos e,if_pos (by omega)]
   ·rw[if_neg e];by_cases H:384<=j/\j<384+32*i/\(j - 384) % 32=0
    ·rw[if_pos H,if_pos (by omega)]
    ·exact(if_neg H).trans (if_neg (by omega)).symm
  ·obtain rfl:i=4:=by omega
   exact T u ws _ E (c.pick [1])
end
def Mj.new (T:Nat) (ws:List W3):Mj:=⟨Me.new T ws,⟨ws,List.replicate ((ws.length+7) / 8) ([],0),λ_ _=>none⟩⟩
def Ab.new {T:Nat} {v:MV} {ws:List W3} (H:KO B T v ⟨Me.new T ws,Li.new ws⟩):Ab B T v (Mj.new T ws):=by
 have e:v.y.a=none:=H.li.lx;refine⟨H.me,⟨?_,?_⟩,H.st⟩
 ·rw[e];exact H.li
 ·rw[e];exact⟨[],λ_ _=>.inl ⟨rfl,rfl⟩,gN,λt=>⟨[],λ_ _=>.inl ⟨rfl,rfl⟩,gN,λ_=>rfl⟩⟩
def Ce.new {T:Nat} {ws:List W3} (u:T<=8) (hw:ws.length<=4096):Ce T ws.length 1 (Mj.new T ws):=by
 have k:=Kk.new (ws:=ws) u hw;exact⟨k.me,λa=>⟨k.li.fst,k.li.lg,k.li.le,k.li.len⟩,λt j q h=>by cases h⟩
def DT (du:Bool) (i:Nat) (ops:List ng):Cn:=⟨i+1,0,du,ops,[],none,[],[],false⟩
def YO (du:Bool) (i:Nat) (u:SH):Cc:=⟨((i+1:Nat):Int),0,du,u,(none,0,0),.nilIface,(none,0,0),(none,0,0),(none,0,0),false⟩
def zC (du:Bool) (us:List SH):List (TypeId × Value):=us.mapIdx λi u=>(89,AN (YO du i u))
def qC (du:Bool) (opss:List (List ng)) (j:Nat) (B:Bs) (W:km) (v:Value) (a:Ac) (d:Bool):Prop:=
 ∃ops,opss[j]?=some ops/\a=(ll (DT du j ops) qa).2.1/\d=(ll (DT du j ops) qa).2.2/\Le B W v (ll (DT du j ops) qa).1
def qC.le {du:Bool} {opss:List (List ng)} {j:Nat} {W:km} {v:Value} {a:Ac} {d:Bool} (l:B.le B') (H:qC du opss j B W v a d):qC du opss j B' W v a d:=let⟨o,h1,h2,q,u⟩:=H; ⟨o,h1,h2,q,u.le l⟩
section
variable {first:List Int} {du:Bool} {us:List SH} {opss:List (List ng)} {vf vo:Value}
def zU:I.mt 89 "Next"=some 196:=by kernel_rfl
def TD (G:On B Zs) (ho:∀(i:Nat) u ops,us[i]?=some u->opss[i]?=some ops->sT B u ops) (O:us.length=opss.length) (H:∀(i:Nat) ops,opss[i]?=some ops->UB (DT du i ops) qa) :
  ∀(j:Nat) (c:TypeId × Value),(zC du us)[j]?=some c->∃f,I.mt c.1 "Next"=some f/\∀B',B.le B'->P0 B' (jR []) f c.1 c.2 qa (qC du opss j):=by
 intro j c E;unfold zC at E;rw[cT] at E;cases hu:us[j]? with
 | none=>rw[hu] at E;cases E
 | some u=>
  rw[hu] at E;simp only[cB,aD] at E;subst E;have Q:=(aC.1 hu).1;have q:=aB (l:=opss) (i:=j) (by omega);generalize opss[j]'(by omega)=ops at q;refine⟨_,zU,λB' l h F R c J K=>ky.2 (MC (c':=DT du j ops) (G.le l) (W:=jR []) ⟨YO du j u,rfl,⟨rfl,rfl,rfl,(ho j u ops hu q).le l,λ_ _=>Sl.nil,λ_ _=>Sl.nil,λ_ _=>Sl.nil,rfl⟩,rfl,rfl⟩ (H j ops q) ⟨⟨by decide,by decide⟩,⟨by decide,by decide⟩,⟨by decide,by decide⟩⟩ c J λv W M h' c2 ok=>?_)⟩;exact K v _ _ W M h' c2 ⟨ops,q,rfl,rfl,ok⟩
def HH (K:B.p h) (hZ:On B Zs) (hf:On B λh=>Sl XU h vf first) (iN:∀z∈first,-128<=z/\z<=127) (hfl:first.length<=9223372036854775807) (hv:On B λh=>Sl EH1 h vo us) (hl3:us.length<=3) (hl:us.length=opss.length) (ho:∀(i:Nat) u ops,us[i]?=some u->opss[i]?=some ops->sT B u ops) (hk:∀(i:Nat) ops,opss[i]?=some ops->UB (DT du i ops) qa)
  (hR:∀ws w q Ws M h',FU (xN first (min first.length 6)) ws->q.length=us.length->Ws.length=us.length->Cx (λ_=>False) h h' [jR M,jR Ws]->RX (qC du opss) (B.and M) (zC du us) q Ws->Ef (B.and M) 3 w (Mj.new 3 ws) q (List.replicate us.length []) (List.replicate us.length false)->R (.tuple #[xT w,.bool true]) h'):og.1 vf (.bool du) vo h R:=by
 have c:=Cx.jQ h;refine c.v9 λX _ c=>?_;refine wE λ_ g=>have c:=c.more g;c.v3 λZ _ c=>?_;refine c.w3 1 λ_ c=>?_;refine c.rl 1 ?_;refine Qx (hZ _ (B.up K c.gr)) λu iS _ O d=>have c:=c.jT d;have c:=c.n3;sO.by (λ(i:Nat) z h'=>z=.int .i64 i/\i<=min first.length 6/\∃ws,FU (xN first i) ws/\Cx (λ_=>False) h h' [rV X B2.toList,rV Z [.int .i64 3,.int .i64 6,.int .i64 4],kz EW (jY u) ws]) (λi=>6 - i) 0 ⟨rfl,aO _,iS,O.ext λj hj=>(if_neg (by omega)).symm,c⟩ ?_;clear O c;rintro i _ h6 ⟨rfl,hi,ws,O,c⟩ again G;refine sV.at (λv h'=>v=.bool (decide (i<min first.length 6))/\Cx (λ_=>False) h h' [rV X B2.toList,rV Z [.int .i64 3,.int .i64 6,.int .i64 4],kz EW (jY u) ws]) ?_ ?_
 ·refine vx (hf _ (B.up K c.gr)).ln<|vx j9<|lV (λoF=>?_) λoF=>?_
  ·refine jS<|c.rc 1 ?_;refine vx j9<|lV (λoR=>?_) λoR=>?_
   ·refine vx (c.sl (i:=2) rfl).sl.ln ?_;have hlen:=O.len;refine vx (FL (by omega)) ?_;first | exact⟨by rw[decide_eq_true (show i<min first.length 6 by omega)],c⟩| exact⟨by rw[decide_eq_false (show ¬i<min first.length 6 by omega)],c⟩
   ·first | exact⟨by rw[decide_eq_true (show i<min first.length 6 by omega)],c⟩| exact⟨by rw[decide_eq_false (show ¬i<min first.length 6 by omega)],c⟩
  ·first | exact⟨by rw[decide_eq_true (show i<min first.length 6 by omega)],c⟩| exact⟨by rw[decide_eq_false (show ¬i<min first.length 6 by omega)],c⟩
 ·rintro _ h7 ⟨rfl,c⟩;replace c:=c.n3;refine lV (λrW=>?_) λrW=>?_
  ·refine c.rl 1 ?_;have J:=aB (l:=first) (i:=i) (by omega);have aS:first.getD i 0=first[i]'(by omega):=by rw[aI,J];rfl
   generalize first[i]'(by omega)=z at J aS
   have hz:=iN z (aG J);obtain⟨r5,o5,e5,aT,_⟩:=(hf _ (B.up K c.gr)).ix J (n:=1) rfl (k:=.i64) (z:=(i:Int)) rfl;refine vx e5<|vx (aT.yK rfl)<|vx (Tw (a:=z) ⟨by omega,by omega⟩)<|nH (i:=(i:Int)) _ _ (hZ _ (B.up K c.gr)) λ_ g=>?_;have c:=c.more g;rw[show sy (i:Int)=((56+i:Nat):Int) by unfold sy; rw[if_pos (by omega)]; omega];have tO:=O.at' (56+i) (by omega);obtain⟨r6,o6,U,V,_⟩:=(hf _ (B.up K c.gr)).ix J (n:=1) rfl (k:=.i64) (z:=(i:Int)) rfl;rw[e5] at U;injection U with U;injection U with U;injection U with U;injection U with e7 e8;subst e7;rw[<-e8] at V;refine aQ (V.yK rfl) ?_;refine c.Dw 2 rfl tO ⟨z,0,0⟩ rfl rfl (j:=0) rfl (by decide) (by unfold xN UT S5; rw[if_neg (by omega),if_neg (by omega),if_neg (by omega),if_neg (by omega)]; rfl) λ_ c=>have c:=c.n3;vx (inc (by omega))<|G (i+1) _ _ ⟨rfl,by omega,_,(O.set (p:=56+i) (by omega) ⟨z,0,0⟩).ext λj hj=>?_,c⟩ (by omega);unfold xN;by_cases e:j=56+i
   ·rw[if_pos e,if_pos (by omega),show j - 56=i by omega,aS]
   ·rw[if_neg e];by_cases e2:56<=j/\j<56+i
    ·rw[if_pos e2,if_pos (by omega)]
    ·exact(if_neg e2).trans (if_neg (by omega)).symm
  ·refine jS<|c.rc 1 ?_;obtain rfl:i=min first.length 6:=by omega
   have hlen:=O.len;refine Qv (T:=3) (c.sl (i:=2) rfl).sl ⟨by decide,by decide⟩ ⟨by omega,by omega⟩ λv M _ d uS=>have c:=c.jT d;have c:=c.n4;vx rfl<|vx rfl<|c.v7 λbY _ c=>?_;refine c.w7 4 λ_ c=>?_;refine vx (hv _ (B.up K c.gr)).ln<|z5.by (λ(i:Nat) x z h'=>z=.int .i64 i/\i<=us.length/\Cx (λ_=>False) h h' [rV X B2.toList,rV Z [.int .i64 3,.int .i64 6,.int .i64 4],kz EW (jY u) ws,jR M,rV bY (ZT v),kz VE x ((zC du us).take i)]) (λi=>us.length - i) 0 ⟨rfl,aO _,c.nil VE⟩ ?_;rintro j x _ h13' ⟨rfl,hj,c⟩ iF E;have hcl:(zC du us).length=us.length:=by unfold zC;rw[dB]
   replace c:=c.n6;refine vx j9<|lV (λe59=>?_) λe59=>?_
   ·have J:=aB (l:=us) (i:=j) (by omega);have dO:(zC du us).take (j+1)=(zC du us).take j++[(89,AN (YO du j (us[j]'(by omega))))]:=by
     rw[bN];congr 1;unfold zC;rw[cT,J];rfl
    generalize us[j]'(by omega)=uj at J dO;refine(hv _ (B.up K c.gr)).one rfl J rfl (u:=jY uj) rfl ?_;refine c.rl 1 ?_;refine vx (oC ⟨by omega,by omega⟩)<|vx (jU (ds:=[_,_,_,_,_,_,_,_,_,_,_,_,_]) rfl)<|vx rfl<|c.lW VE (89,AN (YO du j uj)) rfl rfl λv71 _ c=>have c:=c.n7;c.ap 5 rfl (c.sl (i:=6) rfl).sl rfl rfl (by simp only[aR,aH,aJ]; omega) (by simp only[aR,aH,aJ]; omega) λv72 _ c=>?_;rw[<-dO] at c;replace c:=c.n7;exact vx (inc (by omega))<|E (j+1) _ _ _ ⟨rfl,by omega,c.pick [0,1,2,3,4,5]⟩ (by omega)
   ·refine c.rl 4 ?_;obtain rfl:j=us.length:=by omega
    rw[aW (by omega)] at c;obtain⟨cd,rfl⟩:=(c.sl (i:=5) rfl).tW;have c:=Cx.pack (L:=[_,_]) (M:=[jR M,kz VE (jY cd) (zC du us)]) (c.pick [0,4,3,5]);have l0:=Bs.jX B [jR M,kz VE (jY cd) (zC du us)];have hko:Ab (B.and [jR M,kz VE (jY cd) (zC du us)]) 3 v (Mj.new 3 ws):=(Ab.new (uS B)).le λh b=>⟨b.1,Bs.star b (i:=0) rfl⟩;have hkk:=Ce.new (T:=3) (ws:=ws) (by decide) (by omega);refine Df.2 (U3 (B:=B.and [jR M,kz VE (jY cd) (zC du us)]) (v:=v) ⟨B.up K c.gr,c.get (i:=2) rfl⟩ hko hkk (On.sl (i:=1) rfl) (by omega) (Q:=qC du opss) (λ{j B B'} l {W v a d} (H:qC du opss j B W v a d)=>qC.le l H) (λj c hc=>?_) λw q Ws N _ ht hw d ok1 eQ=>?_)
    ·obtain⟨f,hf1,hf2⟩:=TD hZ ho hl hk j c hc;exact⟨f,hf1,λB' l=>hf2 B' (l0.trans l)⟩
    have c:=c.jT d;replace c:=c.n5;refine vx rfl<|vx rfl<|c.v9 λ_ _ c=>?_;refine c.w9 5 λ_ c=>?_;refine .here<|c.rl 5 ?_;refine vx (v:=.bool true) rfl<|kV<|vx (v:=.bool true) rfl<|c.w9 0 λ_ c=>?_;refine c.rl 0 ?_;have c:=Cx.pack (L:=[_]) (M:=[_,_]) (c.pick [4,2,3]);rw[hcl] at eQ ht hw;exact hR ws w q Ws _ _ O ht hw (c.pick [1,0]) (λj tk W h1 h2=>let⟨a,cc,q1,q2,q3,q4,q5⟩:=ok1 j tk W h1 h2; ⟨a,cc,q1,q2,q3.le Bs.FW,q4,q5⟩) (eQ.le Bs.FW)
end
def Mj.words (m:Mj):List W3:=(List.range m.me.hs.length).map λi=>(m.me.top i).w
def Mj.tq {m:Mj}:m.words.length=m.me.hs.length:=by unfold Mj.words; rw[bE,dV]
def Mj.BD {m:Mj} {i:Nat} (hi:i<m.me.hs.length):m.words[i]?=some (m.me.top i).w:=by
 unfold Mj.words;rw[bU,fD hi];rfl
section
variable {T n b:Nat} {v:MV} {m:Mj} {i:Nat}
def D1 (K:B.p h) (H:Ab B T v m) (k:Ce T n b m) (M:b<=1000000) (O:∀u h',Cx (λ_=>False) h h' [kz EW (jY u) m.words]->R (jY u) h'):lU.1 (CW v) h R:=by
 have X:=k.me.hs;have hle:=k.me.le;have c:=Cx.jQ h;refine c.v7 λE _ c=>?_;refine c.rl 0 ?_;refine BE (v:=v) (B.up K c.gr) H.ko (k.kk H) λ_ g=>have c:=c.more g;vx rfl<|vx rfl<|z5.by (λ(i:Nat) x z h'=>z=.int .i64 i/\i<=n/\Cx (λ_=>False) h h' [rV E (ZT v),kz EW x (m.words.take i)]) (λi=>n - i) 0 ⟨rfl,aO _,c.nil EW⟩ ?_;rintro i x _ Q ⟨rfl,hi,c⟩ again q;replace c:=c.n2;refine vx j9<|lV (λG=>?_) λG=>?_
 ·refine c.rl 0 ?_;refine(tm (v:=v) (B.up K c.gr) H.ko (k.kk H) M (i:=i) (by omega) λ_ g=>?_);have c:=c.more g;have J:m.words.take (i+1)=m.words.take i++[(m.me.top i).w]:=by rw[bN,Mj.BD (by omega)];rfl
  refine vx rfl<|vx rfl<|c.v3 λ_ _ c=>?_;refine c.w3 2 λ_ c=>?_;refine c.rl 2 ?_;refine c.lW EW (m.me.top i).w rfl rfl λU _ c=>have c:=c.n4;c.ap 1 rfl (c.sl (i:=3) rfl).sl rfl rfl (by simp only[aR,aH,aJ]; omega) (by simp only[aR,aH,aJ]; omega) λV _ c=>?_;rw[<-J] at c;replace c:=c.n4;exact vx (inc (by omega))<|q (i+1) _ _ _ ⟨rfl,by omega,c.pick [0,1]⟩ (by omega)
 ·obtain⟨u,rfl⟩:=(c.sl (i:=1) rfl).tW;rw[aW (by rw[Mj.tq]; omega)] at c;exact O u _ (c.pick [1])
def yS:Pz 50 [vL] (.int .i64 512):=λh R Z k=>pp.2 (RO Z k)
end
section
variable {ws:List W3} {vw vu:Value}
def Xc (u:B.p h) (hw:On B λh=>Sl EW h vw ws) (hu:On B λh=>Sl EW h vu ws) (K:ws.length<=1000000) (H:∀h',Gr h h'->R (.bool true) h'):rq.1 vw vu h R:=by
 have c:=Cx.jQ h;refine vx (hw _ (B.up u c.gr)).ln<|vx (hu _ (B.up u c.gr)).ln<|vx (v:=.bool false) (by rw[mh,decide_eq_false (λh=>h rfl)])<|j7<|sO.by (λ(i:Nat) z h'=>z=.int .i64 i/\i<=ws.length/\Cx (λ_=>False) h h' []) (λi=>ws.length - i) 0 ⟨rfl,aO _,c⟩ ?_;rintro i _ J ⟨rfl,hi,c⟩ again q;refine vx (hw _ (B.up u c.gr)).ln<|vx j9<|lV (λE=>?_) λE=>?_
 ·have G:=aB (l:=ws) (i:=i) (by omega);generalize ws[i]'(by omega)=x at G;refine(hw _ (B.up u c.gr)).whole rfl G rfl ?_;refine(hu _ (B.up u c.gr)).whole rfl G rfl ?_;exact vx (v:=.bool false) ((RI x x).trans (by rw[decide_eq_false (λh=>h rfl)]))<|j7<|vx (inc (by omega))<|q (i+1) _ _ ⟨rfl,by omega,c⟩ (by omega)
 ·exact H _ c.gr
def Oj {x:Cc} {d:Bool} {a:Ac} {s:SH} (q:∀h',Gr h h'->R (.tuple #[AN x,.bool true]) h') (E:x.now.oneCell'=true):pb.1 (PZ ⟨89,AN x,d,a,s⟩) h R:=by
 obtain⟨t,seq,du,ops,u,now,uX,dn,sm,br⟩:=x;dsimp only at E;cases d with
 | true=>
  have c:=Cx.jQ h;refine c.v11 λ_ _ c=>c.K9 λ_ _ c=>?_;refine c.rl 0 ?_;refine Ol (x:=⟨89,_,true,a,s⟩) λ_ g=>have c:=c.more g;vx (v:=.tuple #[AN ⟨t,seq,du,ops,u,now,uX,dn,sm,br⟩,.bool true]) (by simp[FV])<|vx rfl<|vx rfl<|c.K9 λ_ _ c=>?_;refine c.Tf 2 λ_ c=>?_;refine c.rl 2 ?_;refine c.Tf 1 λ_ c=>?_;refine c.rl 1 ?_;exact q _ c.gr
 | false=>
  have c:=Cx.jQ h;refine c.v11 λ_ _ c=>c.K9 λ_ _ c=>?_;refine c.rl 0 ?_;refine Ol (x:=⟨89,_,false,a,s⟩) λ_ g=>have c:=c.more g;vx (v:=.tuple #[AN ⟨t,seq,du,ops,u,now,uX,dn,sm,br⟩,.bool true]) (by simp[FV])<|vx rfl<|vx rfl<|c.K9 λ_ _ c=>?_;refine c.Tf 2 λ_ c=>?_;refine c.rl 2 ?_;refine c.Tf 1 λ_ c=>?_;refine c.rl 1 ?_;exact q _ c.gr
end
def JS (M:Nat->W3) (i:Nat) (w:W3):Nat->W3:=λj=>if j=i then w else M j
def U9 {M:Nat->W3} {i j:Nat} {w:W3} (h:¬j=i):JS M i w j=M j:=if_neg h
def exec (M:Nat->W3) (a:Ac):(Nat->W3) × lA:=
 if a.op=5\/a.op=1 then(M,⟨M a.at'.toNat,true⟩)
 else if a.op=3\/a.op=4 then(JS M a.at'.toNat a.new,⟨W0,true⟩)
 else if a.op=6 then(if M a.at'.toNat=a.old then(JS M a.at'.toNat a.new,⟨M a.at'.toNat,true⟩) else(M,⟨M a.at'.toNat,false⟩))
 else(M,⟨W0,true⟩)
structure oY (a:Ac):Prop where
 ok:Kv 512 a
 old:a.op=5\/a.op=3\/a.op=4->a.old=W0
 nw:a.op=5->a.new=W0
 w:a.op=3\/a.op=4\/a.op=6->Ww a.new
inductive Ends (post:Cn->(Nat->W3)->Prop):Nat->CR->(Nat->W3)->Prop
 | done {k:Nat} {c:Cn} {a:Ac} {M:Nat->W3}:post c M->Ends post k (c,a,true) M
 | step {k:Nat} {c:Cn} {a:Ac} {M:Nat->W3}:oY a->UB c (exec M a).2->Ends post k (ll c (exec M a).2) (exec M a).1->Ends post (k+1) (c,a,false) M
structure SV (m:Mj) (M:Nat->W3):Prop where
 vs:1<=m.me.vs.length
 hs:m.me.hs.length=512
 ne:∀i,i<512->1<=(m.me.at i).length
 top:∀i,i<512->(m.me.top i).w=M i
 ww:∀i,Ww (M i)
 vw:∀i:Nat,i<512->m.me.view 1 i=((m.me.at i).length - 1:Nat)
 ms:∀(i:Nat) (x:AM),i<512->x∈m.me.at i->∀l:Nat,l<512->x.f l<=((m.me.at l).length - 1:Nat)
section
variable {m m':Mj} {M:Nat->W3} {a:Ac} {g:lA} {i:Nat}
def Me.we {m:Me} {i n:Nat} {x:AM} {j:Bool} (h:1<=m.vs.length):(m.qy 1 i n x j).view 1=if j then Ep (nm (m.view 1) i n) x.f else nm (m.view 1) i n:=by
 show(m.vs.set 0 _).getD 0 _=_;rw[aI,fI (by omega)];rfl
def Me.tC {m:Me} {t i:Nat} {w:W3} {b:Bool} (k:Nat) (h:i<m.hs.length):(m.add t i w b).at k=if k=i then m.at i++[⟨w,if b then nm (m.view t) i (m.at i).length else nm (λ_=>0) i (m.at i).length⟩] else m.at k:=by
 show(m.hs.set i _).getD k []=_;rw[aI];by_cases e:k=i
 ·subst e;rw[fI h,if_pos rfl];rfl
 ·rw[List.getElem?_set_ne (λx=>e x.symm),if_neg e,<-aI];rfl
def Me.Bf {m:Me} {i:Nat} {w:W3} {b:Bool} (h:1<=m.vs.length):(m.add 1 i w b).view 1=nm (m.view 1) i (m.at i).length:=by
 show(m.vs.set 0 _).getD 0 _=_;rw[aI,fI (by omega)];rfl
def Me.zb {m:Me} {i:Nat} (h:1<=(m.at i).length):m.top i∈m.at i:=by
 unfold Me.top;have q:m.at i≠[]:=λe=>by rw[e] at h;simp at h
 rw[gQ q];exact List.getLast_mem q
def SV.qy (H:SV m M) {q:Nat} {x:AM} {j:Bool} (hi:i<512) (B:x∈m.me.at i) (E:q=(m.me.at i).length - 1):SV {m with me:=m.me.qy 1 i q x j} M:=by
 refine⟨by show 1<=(m.me.vs.set _ _).length; rw[aV]; exact H.vs,H.hs,H.ne,H.top,H.ww,λl h=>?_,H.ms⟩;have h1:=H.vw l h;have h2:=H.ms i x hi B l h;show(m.me.qy 1 i q x j).view 1 l=((m.me.at l).length - 1:Nat);rw[Me.we H.vs];have u:nm (m.me.view 1) i q l=((m.me.at l).length - 1:Nat):=by
  unfold nm;by_cases e:(l:Int)=i
  ·rw[if_pos e];obtain rfl:l=i:=by omega
   omega
  ·rw[if_neg e];exact h1
 cases j with
 | true=>simp only[if_true,Ep];rw[u];omega
 | false=>simp only[cC,if_false];exact u
def SV.add (H:SV m M) {w:W3} {b:Bool} (hi:i<512) (hw:Ww w) {l:Lj}:SV ⟨m.me.add 1 i w b,l⟩ (JS M i w):=by
 have u:i<m.me.hs.length:=by rw[H.hs];exact hi
 have hlen:∀k,k<512->((m.me.add 1 i w b).at k).length=(m.me.at k).length+if k=i then 1 else 0:=λk h=>by
  rw[Me.tC k u];by_cases e:k=i
  ·subst e;rw[if_pos rfl,if_pos rfl,aF,aE]
  ·rw[if_neg e,if_neg e];rfl
 refine⟨by show 1<=(m.me.vs.set _ _).length; rw[aV]; exact H.vs,by show(m.me.hs.set _ _).length=_; rw[aV]; exact H.hs,λk h=>?_,λk h=>?_,λk=>?_,λk h=>?_,λk x h q l B=>?_⟩
 ·show 1<=((m.me.add 1 i w b).at k).length;have:=H.ne k h;rw[hlen k h];omega
 ·show((m.me.add 1 i w b).top k).w=_;unfold Me.top;rw[Me.tC k u];by_cases e:k=i
  ·subst e;rw[if_pos rfl,List.getLast?_append];simp[JS]
  ·rw[if_neg e,U9 e];exact H.top k h
 ·unfold JS;split
  ·exact hw
  ·exact H.ww k
 ·show(m.me.add 1 i w b).view 1 k=((((m.me.add 1 i w b).at k).length - 1:Nat):Int);rw[Me.Bf H.vs,hlen k h];have h1:=H.vw k h;have h2:=H.ne k h;unfold nm;by_cases e:k=i
  ·subst e;rw[if_pos rfl,if_pos rfl];omega
  ·rw[if_neg (by omega),if_neg e];omega
 ·show x.f l<=((((m.me.add 1 i w b).at l).length - 1:Nat):Int);have q:x∈(m.me.add 1 i w b).at k:=q;rw[Me.tC k u] at q;have h2:=H.ne l B;have F:=H.vw l B;rw[hlen l B];by_cases e:k=i
  ·subst e;rw[if_pos rfl] at q;rcases bB.1 q with q | q
   ·have:=H.ms k x h q l B;split <;> omega
   ·rw[aN] at q;subst q;show(if b=true then nm (m.me.view 1) k (m.me.at k).length else nm (λ_=>0) k (m.me.at k).length) l<=_;by_cases E:l=k
    ·subst E;rw[if_pos rfl];cases b with
     | true=>simp only[if_true,nm];omega
     | false=>simp only[cC,if_false,nm,if_true];omega
    ·rw[if_neg E];cases b with
     | true=>simp only[if_true,nm];rw[if_neg (by omega)];omega
     | false=>simp only[cC,if_false,nm];rw[if_neg (by omega)];omega
  ·rw[if_neg e] at q;have:=H.ms k x h q l B;split <;> omega
def SV.step (H:SV m M) (hs:Bw m 1 a m' g) (F:oY a):g=(exec M a).2/\SV m' (exec M a).1:=by
 cases hs with
 | look i o n h=>
  have hi:i<512:=by rw[<-H.hs];exact h
  have e:exec M ⟨5,i,o,n⟩=(M,⟨M i,true⟩):=by unfold exec;rw[if_pos (.inl rfl)];rfl
  rw[e];exact⟨by rw[H.top i hi],H.qy hi (Me.zb (H.ne i hi)) rfl⟩
 | load i q x o n h E hv=>
  have hi:i<512:=by rw[<-H.hs];exact h
  have e:exec M ⟨1,i,o,n⟩=(M,⟨M i,true⟩):=by unfold exec;rw[if_pos (.inr rfl)];rfl
  have G:=(aC.1 E).1;have h1:=H.vw i hi;have h2:=H.ne i hi;obtain rfl:q=(m.me.at i).length - 1:=by omega
  have B:m.me.top i=x:=by
   unfold Me.top;rw[bG,E];rfl
  rw[e];exact⟨by rw[<-B,H.top i hi],H.qy hi (aG E) rfl⟩
 | put i o w wl h=>
  have hi:i<512:=by rw[<-H.hs];exact h
  have hw:Ww w:=F.w (by cases wl <;> simp);have e:exec M ⟨if wl then 4 else 3,i,o,w⟩=(JS M i w,⟨W0,true⟩):=by
   cases wl <;> (unfold exec; dsimp only; rw[if_neg (by decide),if_pos (by decide)]; rfl)
  rw[e];exact⟨rfl,H.add hi hw⟩
 | swap i old new h=>
  have hi:i<512:=by rw[<-H.hs];exact h
  have hw:Ww new:=F.w (.inr (.inr rfl));have e:exec M ⟨6,i,old,new⟩=if M i=old then(JS M i new,⟨M i,true⟩) else(M,⟨M i,false⟩):=by
   unfold exec;dsimp only;rw[if_neg (by decide),if_neg (by decide),if_pos rfl];rfl
  have u:=H.qy (j:=true) (q:=(m.me.at i).length - 1) hi (Me.zb (H.ne i hi)) rfl;have B:=H.top i hi;rw[e];by_cases c:M i=old
  ·rw[if_pos c];refine⟨by rw[B,decide_eq_true c],?_⟩;have:Me.GC m.me 1 i old new=(m.me.qy 1 i ((m.me.at i).length - 1) (m.me.top i) true).add 1 i new true:=if_pos (B.trans c);rw[this];exact u.add hi hw
  ·rw[if_neg c];refine⟨by rw[B,decide_eq_false c],?_⟩;have:Me.GC m.me 1 i old new=m.me.qy 1 i ((m.me.at i).length - 1) (m.me.top i) true:=if_neg (λx=>c (B.symm.trans x));rw[this];exact⟨u.vs,u.hs,u.ne,u.top,u.ww,u.vw,u.ms⟩
 | flush i o n h=>
  have e:exec M ⟨7,i,o,n⟩=(M,⟨W0,true⟩):=by unfold exec;dsimp only;rw[if_neg (by decide),if_neg (by decide),if_neg (by decide)]
  rw[e];exact⟨rfl,H.vs,H.hs,H.ne,H.top,H.ww,H.vw,H.ms⟩
 | sync p o n=>
  have e:exec M ⟨8,p,o,n⟩=(M,⟨W0,true⟩):=by unfold exec;dsimp only;rw[if_neg (by decide),if_neg (by decide),if_neg (by decide)]
  rw[e];exact⟨rfl,H.vs,H.hs,H.ne,H.top,H.ww,H.vw,H.ms⟩
def SV.new {ws:List W3} {G:Nat->W3} (H:FU G ws) (hw:∀i,Ww (G i)):SV (Mj.new 3 ws) G:=by
 have hlen:=H.len;have h:∀i,i<512->(Mj.new 3 ws).me.at i=[⟨G i,λ_=>0⟩]:=λi hi=>by
  show(ws.map λw=>[(⟨w,λ_=>0⟩:AM)]).getD i []=_;rw[aI,bU,H.at' i hi];rfl
 refine⟨cD (by decide:1<=3) (Nat.le_of_eq (bR).symm),by show(ws.map _).length=_; rw[bE,hlen],λi hi=>by rw[h i hi]; exact aP 1,λi hi=>?_,hw,λi hi=>?_,λi x hi q l u=>?_⟩
 ·unfold Me.top;rw[h i hi];rfl
 ·rw[h i hi];rfl
 ·rw[h i hi,aN] at q;subst q;rw[h l u];exact bA _
end
abbrev Sg:Type:=CR × (Nat->W3) × Nat
def Ul (post:Cn->(Nat->W3)->Prop) (B:Bs) (W:km) (w:WV) (s:Sg):Prop:=
 ∃(m:Mj) (v:Value) (sp:SH) (gs:List lA) (b:Nat),Ef B 3 w m [⟨89,v,s.1.2.2,if s.1.2.2 then o8 else s.1.2.1,sp⟩] [gs] [false]/\Le B W v s.1.1/\SV m s.2.1/\Ce 3 512 b m/\b+s.2.2<=800000/\gs.length+s.2.2<=800000/\Ends post s.2.2 s.1 s.2.1
def Ul.le {post:Cn->(Nat->W3)->Prop} {W:km} {w:WV} {s:Sg} (l:B.le B') (H:Ul post B W w s):Ul post B' W w s:=by
 obtain⟨m,v,sp,gs,b,h1,h2,q⟩:=H;exact⟨m,v,sp,gs,b,h1.le l,h2.le l,q⟩
def Ce.step {m m':Mj} {t n b T:Nat} {a:Ac} {g:lA} (k:Ce T n b m) (h:Bw m t a m' g):Ce T n (b+1) m':=by
 have u:=k.me.hs;cases h with
 | look i o n h=>exact⟨(k.me.qy _ _).up (eM _),k.li.up (eM _)⟩
 | load i q x o n h E hv=>exact⟨(k.me.qy _ _).up (eM _),k.li.up (eM _)⟩
 | put i o w wl h=>exact⟨k.me.add (by omega),k.li.kq (by omega)⟩
 | swap i old new h=>
  refine⟨?_,?_⟩
  ·show Mk T n (b+1) (Me.GC _ _ _ _ _);unfold Me.GC;split
   ·exact(k.me.qy _ _).add (by omega)
   ·exact(k.me.qy _ _).up (eM _)
  ·show KZ n (b+1) (if _ then _ else _);split
   ·exact k.li.kq (by omega)
   ·exact k.li.up (eM _)
 | flush i o n h=>exact⟨k.me.up (eM _),(k.li.zw (by omega)).up (eM _)⟩
 | sync p o n=>exact⟨k.me.up (eM _),k.li.sS.up (eM _)⟩
section
variable {post:Cn->(Nat->W3)->Prop} {W:km} {w:WV} {s:Sg}
def Xk (hZ:On B Zs) {k:Nat} (hk:k<=100000) (c:Cx F h h [W]) (T:∀h',Ch F h h'->B.p h') (H:Ul post B W w s) (hs:s.2.2<=k)
  (E:∀w' s' u M h',Cx F h h' [u,jR M]->Ul post (B.and M) u w' s'->s'.1.2.2=true->R (.tuple #[xT w',.bool true]) h'):qh.1 (xT w) (.int .i64 1) (.int .i64 k) h R:=by
 refine Q9 (t:=1) (P:=λB W w s=>On B Zs/\Ul post B W w s) (done:=λs=>s.1.2.2) (rk:=λs=>s.2.2) (λ{B B'} l {W w s} H=>⟨H.1.le l,H.2.le l⟩) (by omega) (aP 1) (λH=>?_) (λ{B W w s} h F R c T H J E=>?_) (λ{B W w s} h R b0 H J E=>?_) (λ{B W w s} H hz=>?_) c T ⟨hZ,H⟩ hs λw' s' u M h' c' H' J=>E w' s' u M h' c' H'.2 J
 ·obtain⟨_,m,v,sp,gs,b,h1,h2,q⟩:=H;exact⟨3,m,_,_,_,_,h1,by simp,rfl,rfl,rfl⟩
 ·obtain⟨hZ,m,v,sp,gs,b,h1,h2,q,U,V,h6,K⟩:=H;obtain⟨⟨O,a,d⟩,M,n⟩:=s;dsimp only at J h1 h2 q V h6 K;subst J;cases K with
  | step X hc he=>
   rename_i k';refine lK.2 (N5 (t:=1) (n:=512) (b:=b) (tk:=⟨89,v,false,a,sp⟩) (gs:=gs) (Q:=λm' g B W Z a' d'=>g=(exec M a).2/\SV m' (exec M a).1/\Ce 3 512 (b+1) m'/\a'=(ll O (exec M a).2).2.1/\d'=(ll O (exec M a).2).2.2/\Le B W Z (ll O (exec M a).2).1) c T h1 U (by omega) (show 1<=3 by decide) (aP 1) rfl rfl rfl (by omega) rfl X.ok X.old X.nw (λV i hi=>?_) zU (λ{m' g B B'} l {W v a d} H=>⟨H.1,H.2.1,H.2.2.1,H.2.2.2.1,H.2.2.2.2.1,H.2.2.2.2.2.le l⟩) (λm' g G B' l=>?_) λm' g w' Z a' d' s' u N h' G c' hq aS=>?_)
   ·have V:a.op=1:=V;have hi:a.at'=i:=hi;rcases X.ok with e | ⟨_,e1,e2⟩
    ·omega
    ·rw[q.vw i (by omega)];exact bA _
   ·obtain⟨eg,aT⟩:=q.step G X;subst eg;refine λh F R c T E=>ky.2 (MC (hZ.le l) (h2.le l) hc ?_ c T λZ u N h' c' ok=>?_)
    ·unfold exec;have w0:Ww W0:=⟨⟨by decide,by decide⟩,⟨by decide,by decide⟩,⟨by decide,by decide⟩⟩;split
     ·exact q.ww _
     ·split
      ·exact w0
      ·split
       ·split
        ·exact q.ww _
        ·exact q.ww _
       ·exact w0
    ·exact E Z _ _ u N h' c' ⟨rfl,aT,U.step G,rfl,rfl,ok⟩
   ·obtain⟨q1,q2,q3,q4,q5,q6⟩:=hq;subst q1 q4 q5;refine E w' (ll O (exec M a).2,(exec M a).1,k') u N h' c' ⟨hZ.le (Bs.jX _ _),m',Z,s',gs++[(exec M a).2],b+1,aS,q6,q2,q3,by dsimp only; omega,by rw[aF,aE]; dsimp only; omega,he⟩ (iM _)
 ·obtain⟨_,m,v,sp,gs,b,h1,h2,q,U,_⟩:=H;refine lK.2 (CT (z:=1) (n:=512) (b:=b) b0 h1 U (by decide) (by simp) (by decide) (.inl λt ht e=>?_) E);obtain rfl:t=1:=by omega
  exact⟨_,_,rfl,rfl,.inr J⟩
 ·obtain⟨_,m,v,sp,gs,b,h1,h2,q,U,V,h6,K⟩:=H;obtain⟨⟨O,a,d⟩,M,n⟩:=s;have hz:n=0:=hz;subst hz;have K:Ends post 0 (O,a,d) M:=K;cases K with
  | done=>rfl
end
section
variable {opss:List (List ng)} {us:List SH} {vo:Value} {w:SH} {np:Nat}
def Lu (G:B.p h) (hv:On B λh=>Sl EH1 h vo us) (hl:us.length=opss.length) (ho:∀(i:Nat) u ops,us[i]?=some u->opss[i]?=some ops->sT B u ops) (hw:∀h,B.p h->Ej (jY w)=some (.int .i64 np))
  (J:∀b,(b=false->opss.length<=3/\(∀ops∈opss,ops.length<=8)/\np<=400)->∀h',Gr h h'->R (.bool b) h'):nT.1 vo (jY w) h R:=by
 dsimp only[nT,lZ];have c:=Cx.jQ h;refine z5.by (λ(i:Nat) x z h'=>z=.int .i64 i/\i<=opss.length/\i<=4/\(∃y:Int,x=.int .i64 y)/\(∀ops∈opss.take i,ops.length<=8)/\Cx (λ_=>False) h h' []) (λi=>4 - i) 0 ⟨rfl,aO _,by decide,⟨0,rfl⟩,(λops h=>by simp at h),c⟩ ?_;rintro i _ _ iF ⟨rfl,hi,iN,⟨y,rfl⟩,q,c⟩ again H;refine sV.at (λv h'=>v=.bool (decide (i<opss.length/\i<4))/\Cx (λ_=>False) h h' []) ?_ ?_
 ·refine vx (hv _ (B.up G c.gr)).ln<|vx j9<|lV (λX=>?_) λX=>?_
  ·refine vx j9 ?_;first | exact⟨congrArg Value.bool (decide_eq_decide.2 ⟨λe=>⟨by omega,by omega⟩,λe=>by omega⟩),c⟩| exact⟨by rw[decide_eq_false (show ¬(i<opss.length/\i<4) by omega)],c⟩
  ·first | exact⟨congrArg Value.bool (decide_eq_decide.2 ⟨λe=>⟨by omega,by omega⟩,λe=>by omega⟩),c⟩| exact⟨by rw[decide_eq_false (show ¬(i<opss.length/\i<4) by omega)],c⟩
 ·rintro _ h7 ⟨rfl,c⟩;replace c:=c.n0;refine lV (λZ=>?_) λZ=>?_
  ·have U:=aB (l:=us) (i:=i) (by omega);have hy:=aB (l:=opss) (i:=i) (by omega);have M:opss.take (i+1)=opss.take i++[opss[i]'(by omega)]:=by rw[bN,hy];rfl
   generalize us[i]'(by omega)=u at U;generalize opss[i]'(by omega)=ops at hy M;have hO:=ho i u ops U hy;refine(hv _ (B.up G c.gr)).one rfl U rfl (u:=jY u) rfl ?_;refine vx (hO.ln (B.up G c.gr))<|vx mV<|lV (λaS=>?_) λaS=>?_
   ·exact J true (λh=>by cases h) _ c.gr
   ·refine(hv _ (B.up G c.gr)).one rfl U rfl (u:=jY u) rfl ?_;refine vx (hO.ln (B.up G c.gr)) ?_;obtain⟨O,a1,a2,a3⟩:=hO;refine z5.by (λ(j:Nat) x z h'=>z=.int .i64 j/\j<=ops.length/\(∃y:Int,x=.int .i64 y)/\Cx (λ_=>False) h h' []) (λj=>ops.length - j) 0 ⟨rfl,aO _,⟨_,rfl⟩,c⟩ ?_;rintro j _ _ iS ⟨rfl,hj,⟨y2,rfl⟩,c⟩ V E;refine vx j9<|lV (λaT=>?_) λaT=>?_
    ·have K:=aB (l:=O) (i:=j) (by omega);have Q:=aB (l:=ops) (i:=j) (by omega);generalize O[j]'(by omega)=e2 at K;generalize ops[j]'(by omega)=o at Q;obtain⟨d2,p2⟩:=e2;have bY:=(a3 j _ o K Q).2;refine(a1 _ (B.up G c.gr)).whole rfl K rfl ?_;refine c.v2 λ_ _ c=>?_;refine c.w2 0 λ_ c=>?_;refine jS<|c.rc 0 ?_;exact vx (bY _ (B.up G c.gr)).ln<|vx (ni _ _)<|vx (ni _ _)<|vx (inc (by omega))<|E (j+1) _ _ _ ⟨rfl,by omega,⟨_,rfl⟩,c.pick []⟩ (by omega)
    ·refine vx (inc (by omega))<|H (i+1) _ _ _ ⟨rfl,by omega,by omega,⟨_,rfl⟩,λT h=>?_,c⟩ (by omega);rw[M] at h;rcases bB.1 h with h | h
     ·exact q T h
     ·rw[aN] at h;subst h;omega
  ·refine .here<|vx (hv _ (B.up G c.gr)).ln<|vx mV<|lV (λdO=>?_) λdO=>?_
   ·first | exact J true (λh=>by cases h) _ c.gr | exact J _ (λe=>⟨by omega,(λops h=>q ops (by rw[aW (by omega)]; exact h)),by have:=of_decide_eq_false e; omega⟩) _ c.gr
   ·refine vx mV<|lV (λeQ=>?_) λeQ=>?_
    ·first | exact J true (λh=>by cases h) _ c.gr | exact J _ (λe=>⟨by omega,(λops h=>q ops (by rw[aW (by omega)]; exact h)),by have:=of_decide_eq_false e; omega⟩) _ c.gr
    ·refine vx (hw _ (B.up G c.gr))<|vx mV ?_;first | exact J true (λh=>by cases h) _ c.gr | exact J _ (λe=>⟨by omega,(λops h=>q ops (by rw[aW (by omega)]; exact h)),by have:=of_decide_eq_false e; omega⟩) _ c.gr
end
def Ul.make {post:Cn->(Nat->W3)->Prop} {du:Bool} {u:SH} {ops:List ng} {q:List Tk} {O:List km} {w:WV} {ws:List W3} {G:Nat->W3} {k:Nat} (E:RX (qC du [ops]) B (zC du [u]) q O) (H:Ef B 3 w (Mj.new 3 ws) q [[]] [false]) (Z:q.length=1) (hw:O.length=1) (Q:FU G ws) (hG:∀i,Ww (G i)) (he:Ends post k (ll (DT du 0 ops) qa) G) (hk:k<=700000) :
  ∃W,O=[W]/\Ul post B W w (ll (DT du 0 ops) qa,G,k):=by
 obtain⟨tk,rfl⟩:=fJ.1 Z;obtain⟨W,rfl⟩:=fJ.1 hw;refine⟨W,rfl,?_⟩;obtain⟨a,cc,J,q2,⟨K,M,p2,V,p4⟩,q4,X⟩:=E 0 tk W rfl rfl;obtain⟨tt,tv,td,ta,ts⟩:=tk;dsimp only at q2 V p4 q4 X;have M:some ops=some K:=M;injection M with M;subst M p2 V X;have U:=q4;clear q4;have J:some (89,AN (YO du 0 u))=some cc:=J;injection J with J;subst J q2;have kk:=Ce.new (T:=3) (ws:=ws) (by decide) (by rw[Q.len]; decide);rw[Q.len] at kk;refine⟨_,tv,(none,0,0),[],1,?_,p4,SV.new Q hG,kk,by dsimp only; omega,by dsimp only[List.length_nil]; omega,he⟩;rw[U] at H;exact H
section
def Yd:List Pt:=[⟨0,-1,true⟩,⟨1,1,true⟩]
def Qe:List ng:=[⟨1,Yd⟩]
def L8 (H:Zs h) (hk:UB (DT false 0 Qe) qa) (he:Ends (λ_ M=>M 56=⟨4,1,0⟩/\M 57=⟨1,1,0⟩) 500 (ll (DT false 0 Qe) qa) (xN [5,0] 2)) (hG:∀i,Ww (xN [5,0] 2 i))
  (hR:∀h',Gr h h'->R (.bool true) h'):qo.1 h R:=by
 have c:=Cx.jQ h;refine c.Uu XU [5,0] [.int .i8 5,.int .i8 0] rfl rfl rfl (λu hu=>by simp only[aU,bF,or_false] at hu; rcases hu with rfl | rfl <;> rfl) rfl λad _ c=>?_;obtain⟨uf,aS⟩:∃u:SH,jY u=.slice (some ad) 2 2:=⟨(some ad,2,2),rfl⟩;rw[<-aS] at c⊢;replace c:=c.n1;refine vx (jU (ds:=[_,_,_]) rfl)<|vx (jU (ds:=[_,_,_]) rfl)<|c.Uu xx Yd [.agg ⟨xx.c ⟨0,-1,true⟩⟩,.agg ⟨xx.c ⟨1,1,true⟩⟩] rfl rfl rfl (λu hu=>by simp only[aU,bF,or_false] at hu; rcases hu with rfl | rfl <;> rfl) rfl λO _ c=>?_;obtain⟨up,aT⟩:∃u:SH,jY u=.slice (some O) 2 2:=⟨(some O,2,2),rfl⟩;rw[<-aT] at c⊢;replace c:=c.n2;refine vx (jU (ds:=[_,_]) rfl)<|c.lW IU (1,up) rfl rfl λqW _ c=>?_;obtain⟨J,rfl⟩:=(c.sl (i:=2) rfl).tW;replace c:=c.n3;refine c.lW EH1 J rfl rfl λAg _ c=>?_;obtain⟨ul,rfl⟩:=(c.sl (i:=3) rfl).tW;replace c:=c.n4;have c:=Cx.pack (L:=[]) (M:=[kz XU (jY uf) [5,0],kz xx (jY up) Yd,kz IU (jY J) [((1:Int),up)],kz EH1 (jY ul) [J]]) c;generalize Z:[kz XU (jY uf) [5,0],kz xx (jY up) Yd,kz IU (jY J) [((1:Int),up)],kz EH1 (jY ul) [J]]=A at c;have b1:((Bs.of h).and A).p _:=⟨c.gr,c.get (i:=0) rfl⟩;have Q:sT ((Bs.of h).and A) J Qe:=⟨[((1:Int),up)],by rw[<-Z]; exact On.sl (i:=2) rfl,rfl,λi a o h1 h2=>by
  have hi:=(aC.1 h1).1;obtain rfl:i=0:=by simp at hi;exact hi
  simp only[aX,aD,Qe] at h1 h2;subst h1 h2;exact⟨rfl,by rw[<-Z]; exact On.sl (i:=1) rfl⟩⟩
 refine og.2 (HH (B:=(Bs.of h).and A) (first:=[5,0]) (du:=false) (us:=[J]) (opss:=[Qe]) b1 (λh' b=>H.gr b.1) (by rw[<-Z]; exact On.sl (i:=0) rfl) (by decide) (by decide) (by rw[<-Z]; exact On.sl (i:=3) rfl) (show 1<=3 by decide) rfl (λi u ops h1 h2=>by
  have hi:=(aC.1 h1).1;obtain rfl:i=0:=by simp at hi;exact hi
  simp only[aX,aD] at h1 h2;subst h1 h2;exact Q) (λi ops h2=>by
  have hi:=(aC.1 h2).1;obtain rfl:i=0:=by simp at hi;exact hi
  simp only[aX,aD] at h2;subst h2;exact hk) λws w iF Ws M _ hF ht hw d T bY=>?_)
 have c:=c.jT d;obtain⟨W,rfl,hS⟩:=Ul.make (k:=500) T bY ht hw hF hG he (by decide);have c:=Cx.unpack (L:=[_,_]) c;have c:=Cx.pack (L:=[_]) (M:=[jR A,jR M]) (c.pick [2,0,1]);replace c:=c.n2;refine vx rfl<|vx (v:=.bool true) (rfl)<|c.v9 λU _ c=>?_;refine c.w9 2 λ_ c=>?_;refine c.rl 2 ?_;obtain⟨F',d',hM,dO⟩:=c.FM (B:=Bs.of h) (i:=0) (j:=1) (λiN g=>g) rfl rfl (by decide);refine qh.2 (Xk (k:=500) (B:=(Bs.of h).and [jR A,jR M]) (λh' b=>H.gr b.1) (by decide) d' hM (hS.le Bs.FW) (aP _) λw' s' W' N _ dd eQ hd=>?_);have c:=dO dd;obtain⟨m,v,sp,gs,b,q,iS,V,E,oF,oR,K⟩:=eQ;have G:s'.2.1 56=⟨4,1,0⟩/\s'.2.1 57=⟨1,1,0⟩:=by
  obtain⟨⟨cn,a,d⟩,M',n⟩:=s';have hd:d=true:=hd;subst hd;have K:Ends (λ_ M=>M 56=⟨4,1,0⟩/\M 57=⟨1,1,0⟩) n (cn,a,true) M':=K;cases K with
  | done hp=>exact hp
 have t56:=(V.top 56 (by decide)).trans G.1;have t57:=(V.top 57 (by decide)).trans G.2;replace c:=c.n4;refine vx rfl<|vx (v:=.bool true) (rfl)<|c.v9 λX _ c=>?_;refine c.w9 4 λ_ c=>?_;refine sV.at (λv h'=>∃ra,v=kC ra/\Cx (λ_=>False) h h' [W',jR [jR A,jR M],rV U (Nq w),jR N,rV X (Nq w'),rV ra (cW ⟨4,1,0⟩)]) ?_ ?_
 ·refine jS<|vx (c.vp (i:=4) (ds:=[_,_,_,_,_,_,_]) rfl rfl rfl)<|⟨?_,?_⟩
  ·refine wE λ_ g=>have c:=c.more g;aQ (c.vp (i:=4) (ds:=[_,_,_,_,_,_,_]) rfl rfl rfl) ?_;refine⟨?_,?_⟩
   ·refine nH (i:=0) _ _ (H.gr c.gr) λ_ g=>?_;have c:=c.more g;rw[show sy 0=((56:Nat):Int) from rfl];refine aQ (c.vp (i:=4) (ds:=[_,_,_,_,_,_,_]) rfl rfl rfl) ?_;refine⟨?_,?_⟩
    ·refine(tm (B:=((Bs.of h).and [jR A,jR M]).and N) (v:=w'.m) ⟨⟨c.gr,c.get (i:=1) rfl⟩,c.get (i:=3) rfl⟩ q.ko.ko (E.kk q.ko) (by omega) (i:=56) (by decide) λ_ g=>?_);have c:=c.more g;rw[show(q.ko.mc.me.top 56).w=⟨4,1,0⟩ from t56];refine vx rfl<|vx rfl<|c.v3 λ_ _ c=>?_;refine c.w3 5 λ_ c=>?_;exact⟨_,rfl,c.pick [0,1,2,3,4,5]⟩
    ·refine c.v3 λ_ _ c=>?_;refine aQ (c.vp (i:=4) (ds:=[_,_,_,_,_,_,_]) rfl rfl rfl) ?_;refine(tm (B:=((Bs.of h).and [jR A,jR M]).and N) (v:=w'.m) ⟨⟨c.gr,c.get (i:=1) rfl⟩,c.get (i:=3) rfl⟩ q.ko.ko (E.kk q.ko) (by omega) (i:=56) (by decide) λ_ g=>?_);have c:=c.more g;rw[show(q.ko.mc.me.top 56).w=⟨4,1,0⟩ from t56];refine vx rfl<|vx rfl<|c.w3 5 λ_ c=>?_;exact⟨_,rfl,c.pick [0,1,2,3,4,5]⟩
   ·refine c.v3 λ_ _ c=>?_;refine aQ (c.vp (i:=4) (ds:=[_,_,_,_,_,_,_]) rfl rfl rfl) ?_;refine nH (i:=0) _ _ (H.gr c.gr) λ_ g=>?_;have c:=c.more g;rw[show sy 0=((56:Nat):Int) from rfl];refine aQ (c.vp (i:=4) (ds:=[_,_,_,_,_,_,_]) rfl rfl rfl) ?_;refine(tm (B:=((Bs.of h).and [jR A,jR M]).and N) (v:=w'.m) ⟨⟨c.gr,c.get (i:=1) rfl⟩,c.get (i:=3) rfl⟩ q.ko.ko (E.kk q.ko) (by omega) (i:=56) (by decide) λ_ g=>?_);have c:=c.more g;rw[show(q.ko.mc.me.top 56).w=⟨4,1,0⟩ from t56];refine vx rfl<|vx rfl<|c.w3 5 λ_ c=>?_;exact⟨_,rfl,c.pick [0,1,2,3,4,5]⟩
  ·refine c.v3 λ_ _ c=>?_;refine aQ (c.vp (i:=4) (ds:=[_,_,_,_,_,_,_]) rfl rfl rfl) ?_;refine wE λ_ g=>have c:=c.more g;aQ (c.vp (i:=4) (ds:=[_,_,_,_,_,_,_]) rfl rfl rfl) ?_;refine nH (i:=0) _ _ (H.gr c.gr) λ_ g=>?_;have c:=c.more g;rw[show sy 0=((56:Nat):Int) from rfl];refine aQ (c.vp (i:=4) (ds:=[_,_,_,_,_,_,_]) rfl rfl rfl) ?_;refine(tm (B:=((Bs.of h).and [jR A,jR M]).and N) (v:=w'.m) ⟨⟨c.gr,c.get (i:=1) rfl⟩,c.get (i:=3) rfl⟩ q.ko.ko (E.kk q.ko) (by omega) (i:=56) (by decide) λ_ g=>?_);have c:=c.more g;rw[show(q.ko.mc.me.top 56).w=⟨4,1,0⟩ from t56];refine vx rfl<|vx rfl<|c.w3 5 λ_ c=>?_;exact⟨_,rfl,c.pick [0,1,2,3,4,5]⟩
 ·rintro _ rW ⟨ra,rfl,c⟩;replace c:=c.n6;refine sV.at (λv h'=>∃rb,v=kC rb/\Cx (λ_=>False) h h' [W',jR [jR A,jR M],rV U (Nq w),jR N,rV X (Nq w'),rV ra (cW ⟨4,1,0⟩),rV rb (cW ⟨1,1,0⟩)]) ?_ ?_
  ·refine jS<|vx (c.vp (i:=4) (ds:=[_,_,_,_,_,_,_]) rfl rfl rfl)<|⟨?_,?_⟩
   ·refine wE λ_ g=>have c:=c.more g;aQ (c.vp (i:=4) (ds:=[_,_,_,_,_,_,_]) rfl rfl rfl) ?_;refine⟨?_,?_⟩
    ·refine nH (i:=1) _ _ (H.gr c.gr) λ_ g=>?_;have c:=c.more g;rw[show sy 1=((57:Nat):Int) from rfl];refine aQ (c.vp (i:=4) (ds:=[_,_,_,_,_,_,_]) rfl rfl rfl) ?_;refine⟨?_,?_⟩
     ·refine(tm (B:=((Bs.of h).and [jR A,jR M]).and N) (v:=w'.m) ⟨⟨c.gr,c.get (i:=1) rfl⟩,c.get (i:=3) rfl⟩ q.ko.ko (E.kk q.ko) (by omega) (i:=57) (by decide) λ_ g=>?_);have c:=c.more g;rw[show(q.ko.mc.me.top 57).w=⟨1,1,0⟩ from t57];refine vx rfl<|vx rfl<|c.v3 λ_ _ c=>?_;refine c.w3 6 λ_ c=>?_;exact⟨_,rfl,c.pick [0,1,2,3,4,5,6]⟩
     ·refine c.v3 λ_ _ c=>?_;refine aQ (c.vp (i:=4) (ds:=[_,_,_,_,_,_,_]) rfl rfl rfl) ?_;refine(tm (B:=((Bs.of h).and [jR A,jR M]).and N) (v:=w'.m) ⟨⟨c.gr,c.get (i:=1) rfl⟩,c.get (i:=3) rfl⟩ q.ko.ko (E.kk q.ko) (by omega) (i:=57) (by decide) λ_ g=>?_);have c:=c.more g;rw[show(q.ko.mc.me.top 57).w=⟨1,1,0⟩ from t57];refine vx rfl<|vx rfl<|c.w3 6 λ_ c=>?_;exact⟨_,rfl,c.pick [0,1,2,3,4,5,6]⟩
    ·refine c.v3 λ_ _ c=>?_;refine aQ (c.vp (i:=4) (ds:=[_,_,_,_,_,_,_]) rfl rfl rfl) ?_;refine nH (i:=1) _ _ (H.gr c.gr) λ_ g=>?_;have c:=c.more g;rw[show sy 1=((57:Nat):Int) from rfl];refine aQ (c.vp (i:=4) (ds:=[_,_,_,_,_,_,_]) rfl rfl rfl) ?_;refine(tm (B:=((Bs.of h).and [jR A,jR M]).and N) (v:=w'.m) ⟨⟨c.gr,c.get (i:=1) rfl⟩,c.get (i:=3) rfl⟩ q.ko.ko (E.kk q.ko) (by omega) (i:=57) (by decide) λ_ g=>?_);have c:=c.more g;rw[show(q.ko.mc.me.top 57).w=⟨1,1,0⟩ from t57];refine vx rfl<|vx rfl<|c.w3 6 λ_ c=>?_;exact⟨_,rfl,c.pick [0,1,2,3,4,5,6]⟩
   ·refine c.v3 λ_ _ c=>?_;refine aQ (c.vp (i:=4) (ds:=[_,_,_,_,_,_,_]) rfl rfl rfl) ?_;refine wE λ_ g=>have c:=c.more g;aQ (c.vp (i:=4) (ds:=[_,_,_,_,_,_,_]) rfl rfl rfl) ?_;refine nH (i:=1) _ _ (H.gr c.gr) λ_ g=>?_;have c:=c.more g;rw[show sy 1=((57:Nat):Int) from rfl];refine aQ (c.vp (i:=4) (ds:=[_,_,_,_,_,_,_]) rfl rfl rfl) ?_;refine(tm (B:=((Bs.of h).and [jR A,jR M]).and N) (v:=w'.m) ⟨⟨c.gr,c.get (i:=1) rfl⟩,c.get (i:=3) rfl⟩ q.ko.ko (E.kk q.ko) (by omega) (i:=57) (by decide) λ_ g=>?_);have c:=c.more g;rw[show(q.ko.mc.me.top 57).w=⟨1,1,0⟩ from t57];refine vx rfl<|vx rfl<|c.w3 6 λ_ c=>?_;exact⟨_,rfl,c.pick [0,1,2,3,4,5,6]⟩
  ·rintro _ tO ⟨rb,rfl,c⟩;replace c:=c.n7;refine .here<|kV<|kV<|c.rl 5 ?_;refine vx (jU (ds:=[_,_,_]) rfl)<|vx (KV rfl)<|kV<|c.rl 6 ?_;exact vx (jU (ds:=[_,_,_]) rfl)<|vx (KV rfl)<|hR _ c.gr
end
section
variable {T n b t:Nat} {w:WV} {m:Mj} {tks:List Tk} {gss:List (List lA)} {sts:List Bool} {tk:Tk} {gs:List lA}
def UC (u:B.p h) (H:Ef B T w m tks gss sts) (J:tks.length<=8) (K:1<=t) (E:t<=tks.length) (G:∀w',Rt B h (λB=>Ef B T w' m tks gss (sts.set (t - 1) true)) λh'=>R (xT w') h'):uL.1 (xT w) (.int .i64 t) h R:=by
 have q:=H.sl;have et:((t:Nat):Int) - 1=((t - 1:Nat):Int):=by omega
 have c:=Cx.jQ h;refine c.v9 λ_ _ c=>c.v9 λ_ _ c=>?_;refine jS<|c.rc 0 ?_;refine vx (H.ts _ (B.up u c.gr)).ln ?_;rw[show((tks.length:Nat):Int)=((sts.length:Nat):Int) by rw[q]];refine c.Fl VM false rfl rfl rfl (by omega) (by decide) λa _ c=>have c:=c.n3;jS<|c.rc 0 ?_;refine c.Ib 2 rfl (H.st _ (B.up u c.gr)) (by rw[bR]) rfl λ_ c=>have c:=c.n3;vx (nu ⟨by omega,by omega⟩) ?_;rw[et];refine c.Bp 2 rfl (j:=t - 1) (by omega) true rfl rfl rfl λ_ c=>have c:=c.n3;jS<|c.q9 0 λ_ c=>?_;refine c.rl 0 ?_;refine c.w9 1 λ_ c=>?_;refine c.rl 1 ?_;exact G ⟨w.m,w.ts,(some a,sts.length,sts.length)⟩ [kz VM (jY (some a,sts.length,sts.length)) (sts.set (t - 1) true)] _ (Cx.pack (L:=[]) (c.pick [2])) ⟨H.ko.le (Bs.jX _ _),H.ts.le (Bs.jX _ _),On.sl (i:=0) rfl,by rw[aV]; exact q,H.gl,λi tk gs h1 h2=>(H.gs i tk gs h1 h2).le (Bs.jX _ _)⟩
def Kq (q:B.p h) (H:Ef B T w m tks gss sts) (k:Ce T n b m) (J:1<=T) (u:tks.length<=8) (E:1<=t) (G:tks[t - 1]?=some tk) (hs:sts[t - 1]?=some false) (K:tk.dn=false) {ch:Int} (O:∀w',Rt B h (λB=>Ef B T w' m tks gss (sts.set (t - 1) true)) λh'=>R (.tuple #[xT w',.bool true]) h'):lK.1 (xT w) (Wg 1 t ch) h R:=by
 have Q:=(aC.1 G).1;have c:=Cx.jQ h;refine c.v9 λ_ _ c=>c.v3 λ_ _ c=>c.v9 λ_ _ c=>?_;refine .here<|c.rl 0 ?_;refine nG.2 (D9 (w:=w) (B.up q c.gr) H k J λ_ g=>?_);have c:=c.more g;refine j7<|jS<|c.rc 1 ?_;refine vx (v:=.bool false) rfl<|j7<|c.rl 0 ?_;refine jS<|c.rc 1 ?_;refine lR.2 (B3 (B.up q c.gr) H u E G hs λ_ g=>?_);rw[K];have c:=c.more g;refine vx (v:=.bool false) (rfl)<|j7<|jS<|c.rc 1 ?_;refine vx (v:=.bool false) rfl<|j7<|jS<|c.rc 1 ?_;refine vx (v:=.bool true) rfl<|kV<|c.rl 0 ?_;refine jS<|c.rc 1 ?_;refine uL.2 (UC (B.up q c.gr) H u E (by omega) λw' M _ d ok=>?_);have c:=c.jT d;replace c:=c.n4;refine c.w9 2 λ_ c=>?_;refine c.rl 2 ?_;exact O w' M _ (c.pick [3]) ok
def Mx (q:B.p h) (H:Ef B T w m tks gss sts) (k:Ce T n b m) (u:1<=T) (E:tks.length<=8) (G:1<=t) (J:tks[t - 1]?=some tk) (hs:sts[t - 1]?=some false) (K:tk.dn=false) {kd:Int} (h0:¬kd=0) (h1:¬kd=1) (h2:¬kd=2) {ch:Int} (M:∀h',Gr h h'->R (.tuple #[xT w,.bool false]) h'):lK.1 (xT w) (Wg kd t ch) h R:=by
 have c:=Cx.jQ h;refine c.v9 λ_ _ c=>c.v3 λ_ _ c=>c.v9 λ_ _ c=>?_;refine .here<|c.rl 0 ?_;refine nG.2 (D9 (w:=w) (B.up q c.gr) H k u λ_ g=>?_);have c:=c.more g;refine j7<|jS<|c.rc 1 ?_;refine vx (m6 h2)<|j7<|c.rl 0 ?_;refine jS<|c.rc 1 ?_;refine lR.2 (B3 (B.up q c.gr) H E G J hs λ_ g=>?_);rw[K];have c:=c.more g;refine vx (v:=.bool false) (rfl)<|j7<|jS<|c.rc 1 ?_;refine vx (m6 h0)<|j7<|jS<|c.rc 1 ?_;refine vx (m6 h1)<|j7<|c.rl 0 ?_;refine c.w9 2 λ_ c=>?_;refine c.rl 2 ?_;exact M _ c.gr
end
abbrev vD (who q st:Int) (e:SH):Value:=.agg #[.int .i64 who,.int .i64 q,.int .i64 st,jY e]
def P6 (who q:Int) (es:List Et):Bool:=decide (1<=q/\q<=16777215)&&(decide (m4 es=0)&&(mK es&&(es.all (λe=>oG e.at')&&decide ((es.length:Int)<=lu who))))
section
variable {who q st:Int} {e:SH} {es:List Et} {a b:Et}
def XB (u:C5 (a.at' - b.at')) (E:∀h',Gr h h'->R (.int .i64 (a.at' - b.at')) h'):sU.1 (vE a) (vE b) h R:=by
 have c:=Cx.jQ h;refine c.v6 λ_ _ c=>c.v6 λ_ _ c=>?_;refine jS<|c.rc 0 ?_;refine jS<|c.rc 1 ?_;exact vx (nu u)<|E _ c.gr
def pX:∀{who:Int},-1000<=who/\who<=1000->Pz 106 [vL,.int .i64 who] (.tuple #[.int .i64 (jP who),.int .i64 (lu who)]):=λhw h R Z k=>oO.2 (N0 Z hw k)
def Sq (V:Zs h) (hs:Sl EE h (jY e) es) (hw : -1000<=who/\who<=1000) (hm:¬lu who=0) (eQ:0<=st/\st<=3) (hl:es.length<=40) (he:∀e∈es,(0<=e.at'/\e.at'<4096)/\Ww e.old) (u:∀z h',Gr h h'->decide (z=0)=P6 who q es->R (.int .i64 z) h'):uM.1 (vD who q st e) vL h R:=by
 unfold P6 at u;have c:=Cx.jQ h;refine c.v4 λQ _ c=>c.v3 λT _ c=>?_;refine c.rl 1 ?_;refine lM _ _ (V.gr c.gr) λ_ g=>have c:=c.more g;vx (v:=.bool false) rfl<|j7<|c.rl 1 ?_;refine jS<|c.rc 0 ?_;refine pX hw _ _ (V.gr c.gr) λ_ g=>have c:=c.more g;vx rfl<|vx rfl<|vx (m6 hm)<|j7<|sV.at (λv h'=>v=.bool (!decide (1<=q/\q<=16777215))/\Cx (λ_=>False) h h' [rV Q [.int .i64 who,.int .i64 q,.int .i64 st,jY e],rV T [.int .i64 3,.int .i64 6,.int .i64 4]]) ?_ ?_
 ·refine jS<|c.rc 0 ?_;refine vx j9<|lV (λX=>?_) λX=>?_
  ·first | exact⟨by rw[decide_eq_false (show ¬(1<=q/\q<=16777215) by omega)]; rfl,c⟩| (refine⟨?_,c⟩; congr 1; by_cases x:q<=16777215; rw[decide_eq_false (show ¬16777215<q by omega),decide_eq_true (show 1<=q/\q<=16777215 by omega)]; rfl; rw[decide_eq_true (show 16777215<q by omega),decide_eq_false (show ¬(1<=q/\q<=16777215) by omega)]; rfl)
  ·refine jS<|c.rc 0 ?_;refine vx mV ?_;first | exact⟨by rw[decide_eq_false (show ¬(1<=q/\q<=16777215) by omega)]; rfl,c⟩| (refine⟨?_,c⟩; congr 1; by_cases x:q<=16777215; rw[decide_eq_false (show ¬16777215<q by omega),decide_eq_true (show 1<=q/\q<=16777215 by omega)]; rfl; rw[decide_eq_true (show 16777215<q by omega),decide_eq_false (show ¬(1<=q/\q<=16777215) by omega)]; rfl)
 ·rintro _ iF ⟨rfl,c⟩;replace c:=c.n2;refine En.br (λH=>?_) λH=>?_
  ·exact u 3 _ c.gr (by rw[show decide (1<=q/\q<=16777215)=false from by rw[<-dI]; exact H]; rfl)
  ·refine .here<|jS<|c.rc 0 ?_;refine vx (lL (by omega))<|j7<|jS<|c.rc 0 ?_;refine vx (pW (show ¬(3:Int)<st by omega))<|j7<|jS<|c.rc 0 ?_;rw[show decide (1<=q/\q<=16777215)=true from by rw[<-iA]; exact H,fP] at u;refine yy (hs.gr c.gr) (λx J=>(he x J).2) (by omega) λ_ g=>have c:=c.more g;vx mh<|lV (λK=>?_) λK=>?_
   ·exact u _ _ c.gr (by rw[decide_eq_false K]; rfl)
   ·refine jS<|c.rc 0 ?_;rw[decide_eq_true (show m4 es=0 from dN.1 K),fP] at u;refine Fv (hs.gr c.gr) (λh' a b R g ha hb u=>.inl (.inl ⟨133,#[],#[],rfl,sU.2 (XB (by have:=(he a ha).1; have:=(he b hb).1; constructor <;> omega) u)⟩)) (by omega) λ_ g=>have c:=c.more g;vx rfl<|En.br (λM=>?_) λM=>?_
    ·exact u 12 _ c.gr (by rw[show mK es=false from by simpa using M]; rfl)
    ·refine jS<|c.rc 0 ?_;rw[show mK es=true from by simpa using M,fP] at u;refine vx (hs.gr c.gr).ln<|sO.by (λ(i:Nat) v h'=>v=.int .i64 i/\i<=es.length/\(∀y∈es.take i,(!oG y.at')=false)/\Cx (λ_=>False) h h' [rV Q [.int .i64 who,.int .i64 q,.int .i64 st,jY e],rV T [.int .i64 3,.int .i64 6,.int .i64 4]]) (λi=>es.length - i) 0 ⟨rfl,aO _,(λy Z=>by simp at Z),c⟩ ?_;rintro i _ iN ⟨rfl,hi,E,c⟩ again G;refine vx j9<|lV (λaS=>?_) λaS=>?_
     ·have J:=aB (l:=es) (i:=i) (by omega);generalize es[i]'(by omega)=x at J;have aT:=he x (aG J);have bY:=aG J;have U:=λhz=>ES (p:=λy:Et=>!oG y.at') J E hz;obtain⟨xa,⟨xv,xq,xr⟩,xn,xb⟩:=x;dsimp only at aT U;refine(hs.gr c.gr).whole rfl J rfl ?_;refine c.v6 λ_ _ c=>?_;refine c.w6 2 λ_ c=>?_;refine c.rl 1 ?_;refine jS<|c.rc 2 ?_;refine o7 (a:=xa) ⟨by omega,by omega⟩ _ _ (V.gr c.gr) λ_ g=>have c:=c.more g;vx rfl<|En.br (λO=>?_) λO=>?_
      ·exact u 10 _ c.gr (by rw[show es.all (λe=>oG e.at')=false from List.all_eq_false.2 ⟨_,bY,by simpa using O⟩]; rfl)
      ·exact vx (inc (by omega))<|G (i+1) _ _ ⟨rfl,by omega,U (by simpa using O),c.pick [0,1]⟩ (by omega)
     ·refine jS<|c.rc 0 ?_;obtain rfl:i=es.length:=by omega
      rw[dD] at E;rw[show es.all (λe=>oG e.at')=true from cG.2 λy Z=>by simpa using E y Z,fP] at u;refine vx (hs.gr c.gr).ln<|vx mV<|lV (λdO=>?_) λdO=>?_
      ·first | exact u 15 _ c.gr (by rw[decide_eq_false (show ¬((es.length:Nat):Int)<=lu who by omega)]; rfl) | exact u 0 _ c.gr (by rw[decide_eq_true (show((es.length:Nat):Int)<=lu who by omega)]; rfl)
      ·first | exact u 15 _ c.gr (by rw[decide_eq_false (show ¬((es.length:Nat):Int)<=lu who by omega)]; rfl) | exact u 0 _ c.gr (by rw[decide_eq_true (show((es.length:Nat):Int)<=lu who by omega)]; rfl)
end
def Qi (W:Int->W3) (p:Int):Nat->Nat->Option (List Et)
 | 0,_=>some []
 | n+1,i=>
  let a:=W (p+2+3*i);let b:=W (p+2+3*i+1);let c:=W (p+2+3*i+2);if KY a b c=true then match Qi W p n (i+1) with
   | some l=>some (Ds a b c::l)
   | none=>none
  else none
def GJ (W:Int->W3) (who:Int):Option (Int × Int × List Et):=
 let p:=jP who;let st:=W p;let q:=W (p+1);if lu who=0 then none
 else if st.v<0\/3<st.v\/¬st.ref=0\/q.v<1\/lu who<q.v\/¬q=⟨q.v,0,0⟩ then none
 else match Qi W p q.v.toNat 0 with
  | some es=>if P6 who st.j8 es=true then some (st.v,st.j8,es) else none
  | none=>none
def CO (es:List Et) (c:Int):Option Et:=es.find? λe=>decide (e.at'=c)&&e.wr
def ve (W:Int->W3) (c:Int):W3:=
 let x:=W c;if kj x.ref=0 then⟨x.v,x.j8,0⟩
 else match GJ W (kj x.ref) with
  | some (st,q,es)=>if q=oN x.ref/\st=1 then match CO es c with
   | some e=>⟨e.new,(x.j8+1) % 4294967296,0⟩
   | none=>⟨x.v,x.j8,0⟩
   else⟨x.v,x.j8,0⟩
  | none=>⟨x.v,x.j8,0⟩
def lF (ws:List W3) (p:Int):W3:=if 0<=p then ws.getD p.toNat W0 else W0
def An {ws:List W3} {p:Int} {x:W3} (h:0<=p) (q:ws[p.toNat]?=some x):lF ws p=x:=by
 unfold lF;rw[if_pos h,aI,q];rfl
def zl {ws:List W3} {p:Int} (h:0<=p/\p<ws.length):∃n:Nat,p=n/\n<ws.length/\ws[n]?=some (lF ws p):=by
 obtain⟨n,rfl⟩:∃n:Nat,p=n:=⟨p.toNat,by omega⟩;have q:=aB (l:=ws) (i:=n) (by omega);exact⟨n,rfl,by omega,by rw[An (x:=ws[n]'(by omega)) h.1 (by rw[bQ]; exact q)]; exact q⟩
def SD {who:Int} (h:¬lu who=0):(64<=jP who/\jP who+2+3*lu who<=512)/\(lu who=10\/lu who=32):=by
 unfold lu jP mR lC at *
 (repeat' split at h) <;> (repeat' split) <;> omega
def UX {ws:List W3} {k:Nat} {a b c:W3} {r:List W3} (h:ws.drop k=a::b::c::r):ws[k]?=some a/\ws[k+1]?=some b/\ws[k+2]?=some c:=by
 have e:∀j:Nat,ws[k+j]?=(a::b::c::r)[j]?:=λj=>by rw[<-h,fL]
 exact⟨e 0,e 1,e 2⟩
section
variable {who:Int} {vw:Value} {ws:List W3}
def Tl (Z:Zs h) (hs:Sl EW h vw ws) (hl:ws.length=512) (hW:∀w∈ws,Ww w) (hw : -1000<=who/\who<=1000)
  (h1:∀st q es u h',GJ (lF ws) who=some (st,q,es)->Cx (λ_=>False) h h' [kz EE (jY u) es]->R (.tuple #[vD who q st u,.int .i64 0]) h')
  (h0:∀z h',GJ (lF ws) who=none->¬z=0->Gr h h'->R (.tuple #[vD 0 0 0 (none,0,0),.int .i64 z]) h'):uJ.1 vL vw (.int .i64 who) h R:=by
 by_cases hm:lu who=0
 ·have hn:GJ (lF ws) who=none:=by unfold GJ;dsimp only;rw[if_pos hm]
  have c:=Cx.jQ h;refine c.v3 λ_ _ c=>c.v4 λ_ _ c=>?_;refine .here<|c.rl 0 ?_;refine lM _ _ (Z.gr c.gr) λ_ g=>have c:=c.more g;vx (v:=.bool false) rfl<|j7<|vx (hs.gr c.gr).ln<|c.rl 0 ?_;refine yS _ _ (Z.gr c.gr) λ_ g=>have c:=c.more g;vx (lL (by omega))<|j7<|c.rl 0 ?_;refine pX hw _ _ (Z.gr c.gr) λ_ g=>have c:=c.more g;vx rfl<|vx rfl<|vx (pN hm)<|kV<|vx (jU (ds:=[_,_,_,_]) rfl)<|c.w4 1 λ_ c=>?_;refine c.rl 1 ?_;exact h0 3 _ hn (by decide) c.gr
 have hp:=SD hm;obtain⟨p,ep,hp1,hx⟩:=zl (ws:=ws) (p:=jP who) (by omega);obtain⟨p2,oF,hp2,hy⟩:=zl (ws:=ws) (p:=jP who+1) (by omega);have eQ:=hW _ (aG hx);have oR:=hW _ (aG hy);have G:GJ (lF ws) who=if (lF ws (jP who)).v<0\/3<(lF ws (jP who)).v\/¬(lF ws (jP who)).ref=0\/(lF ws (jP who+1)).v<1\/lu who<(lF ws (jP who+1)).v\/¬(lF ws (jP who+1))=⟨(lF ws (jP who+1)).v,0,0⟩ then none
   else match Qi (lF ws) (jP who) (lF ws (jP who+1)).v.toNat 0 with
    | some es=>if P6 who (lF ws (jP who)).j8 es=true then some ((lF ws (jP who)).v,(lF ws (jP who)).j8,es) else none
    | none=>none:=by unfold GJ;dsimp only;rw[if_neg hm]
 generalize lF ws (jP who)=st at hx eQ G;generalize lF ws (jP who+1)=E at hy oR G;obtain⟨rA,oA,eA,iF,_⟩:=hs.ix hx (n:=3) rfl (k:=.i64) (z:=jP who) ep;obtain⟨rB,oB,eB,SJ,_⟩:=hs.ix hy (n:=3) rfl (k:=.i64) (z:=jP who+1) oF;have M:∀{h'},Gr h h'->kc 3 (.pointer (some ⟨rA,oA,none⟩)) h'=some (mW st):=λg=>(iF.ch g λe=>e).kc rfl;have H:∀{h'},Gr h h'->kc 3 (.pointer (some ⟨rB,oB,none⟩)) h'=some (mW E):=λg=>(SJ.ch g λe=>e).kc rfl;have c:=Cx.jQ h;refine c.v3 λaS _ c=>c.v4 λaT _ c=>?_;refine .here<|c.rl 0 ?_;refine lM _ _ (Z.gr c.gr) λ_ g=>have c:=c.more g;vx (v:=.bool false) rfl<|j7<|vx (hs.gr c.gr).ln<|c.rl 0 ?_;refine yS _ _ (Z.gr c.gr) λ_ g=>have c:=c.more g;vx (lL (by omega))<|j7<|c.rl 0 ?_;refine pX hw _ _ (Z.gr c.gr) λ_ g=>have c:=c.more g;vx rfl<|vx rfl<|vx (m6 hm)<|j7<|JU.at (λx y h'=>∃r1 r2,x=kC r1/\y=kC r2/\Cx (λ_=>False) h h' [rV aS [.int .i64 3,.int .i64 6,.int .i64 4],rV aT [.int .i64 0,.int .i64 0,.int .i64 0,.slice none 0 0],rV r1 (cW st),rV r2 (cW E)]) ?_ ?_
 ·refine vx eA<|vx (M c.gr)<|vx (oC ⟨by omega,by omega⟩)<|vx eB<|vx (H c.gr)<|⟨?_,?_⟩
  ·refine c.v3 λ_ _ c=>?_;refine aQ (H c.gr) ?_;refine aQ (M c.gr) ?_;refine c.v3 λ_ _ c=>?_;refine aQ (H c.gr) ?_;refine aQ (M c.gr) ?_;refine c.w3 2 λ_ c=>?_;refine aQ (H c.gr) ?_;refine c.w3 3 λ_ c=>?_;first | exact⟨_,_,rfl,rfl,c⟩| exact⟨_,_,rfl,rfl,c.pick [0,1,3,2]⟩
  ·refine c.v3 λ_ _ c=>?_;refine aQ (H c.gr) ?_;refine aQ (M c.gr) ?_;refine c.v3 λ_ _ c=>?_;refine aQ (H c.gr) ?_;refine aQ (M c.gr) ?_;refine c.w3 3 λ_ c=>?_;refine aQ (H c.gr) ?_;refine c.w3 2 λ_ c=>?_;first | exact⟨_,_,rfl,rfl,c⟩| exact⟨_,_,rfl,rfl,c.pick [0,1,3,2]⟩
 ·rintro _ _ h7' ⟨r1,r2,rfl,rfl,c⟩;replace c:=c.n4;refine sV.at (λv h'=>v=.bool (decide (st.v<0\/3<st.v\/¬st.ref=0\/E.v<1\/lu who<E.v\/¬E=⟨E.v,0,0⟩))/\Cx (λ_=>False) h h' [rV aS [.int .i64 3,.int .i64 6,.int .i64 4],rV aT [.int .i64 0,.int .i64 0,.int .i64 0,.slice none 0 0],rV r1 (cW st),rV r2 (cW E)]) ?_ ?_
  ·refine jS<|c.rc 2 ?_;refine vx j9<|lV (λrW=>?_) λrW=>?_
   ·first | exact⟨congrArg Value.bool (decide_eq_true (by omega)).symm,c⟩| exact⟨congrArg Value.bool (decide_eq_decide.2 ⟨λe=>.inr (.inr (.inr (.inr (.inr e)))),λe O=>by rcases e with e | e | e | e | e | e <;> first | exact e O | omega⟩),c⟩
   ·refine jS<|c.rc 2 ?_;refine vx mV<|lV (λtO=>?_) λtO=>?_
    ·first | exact⟨congrArg Value.bool (decide_eq_true (by omega)).symm,c⟩| exact⟨congrArg Value.bool (decide_eq_decide.2 ⟨λe=>.inr (.inr (.inr (.inr (.inr e)))),λe O=>by rcases e with e | e | e | e | e | e <;> first | exact e O | omega⟩),c⟩
    ·refine jS<|c.rc 2 ?_;refine vx mh<|lV (λuS=>?_) λuS=>?_
     ·first | exact⟨congrArg Value.bool (decide_eq_true (by omega)).symm,c⟩| exact⟨congrArg Value.bool (decide_eq_decide.2 ⟨λe=>.inr (.inr (.inr (.inr (.inr e)))),λe O=>by rcases e with e | e | e | e | e | e <;> first | exact e O | omega⟩),c⟩
     ·refine jS<|c.rc 3 ?_;refine vx j9<|lV (λe62=>?_) λe62=>?_
      ·first | exact⟨congrArg Value.bool (decide_eq_true (by omega)).symm,c⟩| exact⟨congrArg Value.bool (decide_eq_decide.2 ⟨λe=>.inr (.inr (.inr (.inr (.inr e)))),λe O=>by rcases e with e | e | e | e | e | e <;> first | exact e O | omega⟩),c⟩
      ·refine jS<|c.rc 3 ?_;refine vx mV<|lV (λe68=>?_) λe68=>?_
       ·first | exact⟨congrArg Value.bool (decide_eq_true (by omega)).symm,c⟩| exact⟨congrArg Value.bool (decide_eq_decide.2 ⟨λe=>.inr (.inr (.inr (.inr (.inr e)))),λe O=>by rcases e with e | e | e | e | e | e <;> first | exact e O | omega⟩),c⟩
       ·refine c.rl 3 ?_;refine jS<|c.rc 3 ?_;refine vx (jU (ds:=[_,_,_]) rfl)<|vx (RI E ⟨E.v,0,0⟩) ?_;first | exact⟨congrArg Value.bool (decide_eq_true (by omega)).symm,c⟩| exact⟨congrArg Value.bool (decide_eq_decide.2 ⟨λe=>.inr (.inr (.inr (.inr (.inr e)))),λe O=>by rcases e with e | e | e | e | e | e <;> first | exact e O | omega⟩),c⟩
  ·rintro _ h8' ⟨rfl,c⟩;replace c:=c.n4;refine lV (λV=>?_) λV=>?_
   ·refine vx (jU (ds:=[_,_,_,_]) rfl)<|c.w4 1 λ_ c=>?_;refine c.rl 1 ?_;exact h0 5 _ (G.trans (if_pos V)) (by decide) c.gr
   ·refine jS<|c.rc 2 ?_;rw[if_neg V] at G;have hb:(0<=st.v/\st.v<=3)/\1<=E.v/\E.v<=lu who:=by omega
    clear V;have hsq:=eQ.j8;refine vx (Tw (a:=st.j8) ⟨by omega,by omega⟩)<|jS<|c.rc 2 ?_;refine vx (jU (ds:=[_,_,_,_]) rfl)<|c.v4 λiN _ c=>?_;refine c.w4 4 λ_ c=>?_;refine jS ?_;have hct:((E.v.toNat:Nat):Int)=E.v:=fW (by omega);refine c.rc 3 ?_;refine sO.by (λ(z:Nat × List Et) v h'=>v=.int .i64 z.1/\z.1<=E.v.toNat/\z.2.length=z.1/\(∀e∈z.2,(0<=e.at'/\e.at'<4096)/\Ww e.old)/\Qi (lF ws) (jP who) E.v.toNat 0=(Qi (lF ws) (jP who) (E.v.toNat - z.1) z.1).map (z.2++·)/\∃u,Cx (λ_=>False) h h' [rV aS [.int .i64 3,.int .i64 6,.int .i64 4],rV aT [.int .i64 0,.int .i64 0,.int .i64 0,.slice none 0 0],rV iN [.int .i64 who,.int .i64 st.j8,.int .i64 st.v,jY u],kz EE (jY u) z.2]) (λz=>E.v.toNat - z.1) (0,[]) ⟨rfl,aO _,rfl,(λe he=>by cases he),by cases Qi (lF ws) (jP who) E.v.toNat 0 <;> rfl,(none,0,0),(c.nil EE).pick [0,1,4,5]⟩ ?_;rintro⟨k,es⟩ _ h12' ⟨rfl,hk,iS,bY,K,u,c⟩ again J;dsimp only at hk iS bY K J c;replace c:=c.n4;refine vx j9<|lV (λe88=>?_) λe88=>?_
    ·refine vx (oC ⟨by omega,by omega⟩)<|vx (Gi ⟨by omega,by omega⟩)<|vx (oC ⟨by omega,by omega⟩)<|vx (oC ⟨by omega,by omega⟩) ?_;obtain⟨a,b,U,r,hd⟩:=VX (ws:=ws) (k:=p+2+3*k) (by omega);obtain⟨ga,gb,gc⟩:=UX hd;have wa:=hW _ (aG ga);have wb:=hW _ (aG gb);refine(hs.gr c.gr).YQ hd (by omega) (by omega) ?_;have fa:lF ws (jP who+2+3*k)=a:=An (by omega) (by rw[show(jP who+2+3*(k:Int)).toNat=p+2+3*k by omega]; exact ga);have fb:lF ws (jP who+2+3*k+1)=b:=An (by omega) (by rw[show(jP who+2+3*(k:Int)+1).toNat=p+2+3*k+1 by omega]; exact gb);have fc:lF ws (jP who+2+3*k+2)=U:=An (by omega) (by rw[show(jP who+2+3*(k:Int)+2).toNat=p+2+3*k+2 by omega]; exact gc);have dO:Qi (lF ws) (jP who) (E.v.toNat - k) k=if KY a b U=true then match Qi (lF ws) (jP who) (E.v.toNat - (k+1)) (k+1) with
       | some l=>some (Ds a b U::l)
       | none=>none
      else none:=by
      rw[show E.v.toNat - k=E.v.toNat - (k+1)+1 by omega];show(if KY (lF ws (jP who+2+3*k)) (lF ws (jP who+2+3*k+1)) (lF ws (jP who+2+3*k+2))=true then _ else _)=_;rw[fa,fb,fc]
     refine JY λ_ g=>?_;obtain⟨x,X⟩:∃x,(if KY a b U=true then Ds a b U else K5)=x:=⟨_,rfl⟩;obtain⟨q,hq⟩:∃q,KY a b U=q:=⟨_,rfl⟩;rw[X,hq];have c:=c.more g;obtain⟨xa,⟨xv,xq,xr⟩,xn,xb⟩:=x;refine vx rfl<|vx rfl<|c.v6 λ_ _ c=>?_;refine c.w6 4 λ_ c=>?_;refine vx (v:=.bool (!q)) rfl<|En.br (λQ=>?_) λQ=>?_
     ·refine vx (jU (ds:=[_,_,_,_]) rfl)<|c.w4 1 λ_ c=>?_;refine c.rl 1 ?_;exact h0 5 _ (by rw[G,K,dO,if_neg (by rw[hq]; simpa using Q)]; rfl) (by decide) c.gr
     ·refine jS<|c.rc 2 ?_;have q1:KY a b U=true:=by rw[hq];simpa using Q
      rw[if_pos q1] at X dO;have hx2:((0<=xa/\xa<4096)/\Ww ⟨xv,xq,xr⟩):=by
       have h2:Ds a b U=⟨xa,⟨xv,xq,xr⟩,xn,xb⟩:=X;have h3:(Ds a b U).at'=a.v:=rfl;have h4:(Ds a b U).old=b:=rfl;rw[h2] at h3 h4;dsimp only at h3 h4;rw[h3,h4];exact⟨(of_decide_eq_true q1).1,wb⟩
      refine c.rl 4 ?_;refine c.lW EE ⟨xa,⟨xv,xq,xr⟩,xn,xb⟩ rfl rfl λv112 _ c=>have c:=c.n6;c.ap 3 rfl (c.sl (i:=5) rfl).sl rfl rfl (by simp only[aE]; omega) (by simp only[aE]; omega) λv113 _ c=>?_;obtain⟨u2,rfl⟩:=(c.sl (i:=3) rfl).tW;replace c:=c.n6;refine jS<|c.q4 2 λ_ c=>?_;refine vx (inc (by omega))<|J (k+1,es++[(⟨xa,⟨xv,xq,xr⟩,xn,xb⟩:Et)]) _ _ ⟨rfl,by dsimp only; omega,by dsimp only; rw[aF,aE,iS],λe he=>?_,?_,u2,c.pick [0,1,2,3]⟩ (by dsimp only; omega)
      ·rcases bB.1 he with he | he
       ·exact bY e he
       ·rw[aN.1 he];exact hx2
      ·dsimp only;rw[K,dO,X];cases Qi (lF ws) (jP who) (E.v.toNat - (k+1)) (k+1) with
       | none=>rfl
       | some l=>exact congrArg some (cY es [_] l).symm
    ·refine c.rl 2 ?_;refine c.rl 0 ?_;obtain rfl:k=E.v.toNat:=by omega
     have K:Qi (lF ws) (jP who) E.v.toNat 0=some es:=by rw[K,fA];show some (es++[])=_;rw[cX]
     rw[K] at G;dsimp only at G;refine uM.2 (Sq (Z.gr c.gr) (c.sl (i:=3) rfl).sl hw hm (by omega) (by omega) bY λz _ g hz=>?_);have c:=c.more g;refine vx mh<|lV (λT=>?_) λT=>?_
     ·refine vx (jU (ds:=[_,_,_,_]) rfl)<|c.w4 1 λ_ c=>?_;refine c.rl 1 ?_;exact h0 5 _ (by rw[G,if_neg (by rw[<-hz,decide_eq_false T]; decide)]) (by decide) c.gr
     ·refine c.rl 2 ?_;refine c.w4 1 λ_ c=>?_;refine c.rl 1 ?_;exact h1 st.v st.j8 es u _ (by rw[G,if_pos (by rw[<-hz,decide_eq_true (dN.1 T)])]) (c.pick [3])
def RdR (r:Option (Int × Int × List Et)) (q st z:Int) (es:List Et):Prop:=match r with
 | some x=>z=0/\st=x.1/\q=x.2.1/\es=x.2.2
 | none=>¬z=0
def Vd {W:Int->W3} {x:Int × Int × List Et} (h:GJ W who=some x):x.2.2.length<=32:=by
 unfold GJ at h;dsimp only at h;split at h
 ·cases h
 ·rename_i hm;have:=SD hm;split at h
  ·cases h
  ·split at h
   ·split at h
    ·rename_i q;cases h
     unfold P6 at q;simp only[bO,decide_eq_true_eq] at q;dsimp only;omega
    ·cases h
   ·cases h
def Wf (G:Zs h) (hs:Sl EW h vw ws) (H:ws.length=512) (J:∀w∈ws,Ww w) (hw : -1000<=who/\who<=1000)
  (E:∀w q st z u es h',RdR (GJ (lF ws) who) q st z es->es.length<=32->Cx (λ_=>False) h h' [kz EE (jY u) es]->R (.tuple #[vD w q st u,.int .i64 z]) h'):uJ.1 vL vw (.int .i64 who) h R:=
 Tl G hs H J hw (λst q es u h' e c=>E _ _ _ _ u es h' (by rw[e]; exact⟨rfl,rfl,rfl,rfl⟩) (Vd e) c) λz h' e K g=>E _ _ _ _ _ [] h' (by rw[e]; exact K) (aO _) (((Cx.jQ h).more g).nil EE)
end
def lwR {α:Type} {q st z s:Int} {es:List Et} {f:List Et->α} {a:α} (r:Option (Int × Int × List Et)):RdR r q st z es->(match r with
  | some (st,q,es)=>if q=s/\st=1 then f es else a
  | none=>a)=if z=0/\q=s/\st=1 then f es else a:=by
 intro h;cases r with
 | none=>
  have h:¬z=0:=h;rw[if_neg λe=>h e.1]
 | some x=>
  obtain⟨u,E,G⟩:=x;obtain⟨h1,h2,H,J⟩:=(show z=0/\st=u/\q=E/\es=G from h);subst h1 h2 H J;dsimp only;by_cases c:q=s/\st=1
  ·rw[if_pos c,if_pos ⟨rfl,c⟩]
  ·rw[if_neg c,if_neg λe=>c e.2]
section
variable {vw:Value} {ws:List W3} {i:Nat}
def WU (Q:B.p h) (hZ:On B Zs) (hw:On B λh=>Sl EW h vw ws) (hl:ws.length=512) (hW:∀w∈ws,Ww w) (hi:i<512) (hm:oG i=true) (H:∀h',Gr h h'->R (.tuple #[mW (ve (lF ws) i),.int .i64 0]) h'):yB.1 vL vw (.int .i64 i) h R:=by
 obtain⟨n,en,hn,hx⟩:=zl (ws:=ws) (p:=(i:Int)) (by omega);obtain rfl:n=i:=by omega
 have T:=hW _ (aG hx);have aT:ve (lF ws) n=if kj (lF ws n).ref=0 then⟨(lF ws n).v,(lF ws n).j8,0⟩ else match GJ (lF ws) (kj (lF ws n).ref) with
  | some (st,q,es)=>if q=oN (lF ws n).ref/\st=1 then match CO es n with
   | some e=>⟨e.new,((lF ws n).j8+1) % 4294967296,0⟩
   | none=>⟨(lF ws n).v,(lF ws n).j8,0⟩
   else⟨(lF ws n).v,(lF ws n).j8,0⟩
  | none=>⟨(lF ws n).v,(lF ws n).j8,0⟩:=rfl
 rw[aT] at H;generalize lF ws n=x at hx T H;obtain⟨xv,xq,xr⟩:=x;dsimp only at H T;have bY:=B8 xr;have c:=Cx.jQ h;refine c.v3 λU _ c=>c.v3 λV _ c=>?_;refine .here<|c.rl 0 ?_;refine lM _ _ (hZ _ (B.up Q c.gr)) λ_ g=>have c:=c.more g;vx (v:=.bool false) rfl<|j7<|vx (hw _ (B.up Q c.gr)).ln<|c.rl 0 ?_;refine yS _ _ (hZ _ (B.up Q c.gr)) λ_ g=>have c:=c.more g;vx (lL (by omega))<|j7<|c.rl 0 ?_;refine o7 (a:=(n:Int)) ⟨by omega,by omega⟩ _ _ (hZ _ (B.up Q c.gr)) λ_ g=>?_;have c:=c.more g;rw[hm];refine vx (v:=.bool false) (rfl)<|j7<|(hw _ (B.up Q c.gr)).whole rfl hx rfl ?_;refine c.v3 λX _ c=>?_;refine c.w3 2 λ_ c=>?_;refine jS<|c.rc 2 ?_;refine xo (r:=xr) T.ref λ_ g=>have c:=c.more g;vx rfl<|vx rfl<|jS<|c.rc 2 ?_;refine jS<|c.rc 2 ?_;refine vx (jU (ds:=[_,_,_]) rfl)<|c.v3 λE _ c=>?_;refine c.w3 3 λ_ c=>?_;refine vx kU<|lV (λZ=>?_) λZ=>?_
 ·refine c.rl 3 ?_;refine c.w3 1 λ_ c=>?_;refine c.rl 1 ?_;rw[if_pos Z] at H;exact H _ c.gr
 ·refine c.rl 0 ?_;rw[if_neg Z] at H;refine uJ.2 (Wf (hZ _ (B.up Q c.gr)) (hw _ (B.up Q c.gr)) hl hW (by omega) λw q st z u es _ dO hel d=>?_);have c:=c.jT d;rw[lwR _ dO] at H;clear bY aT dO;replace c:=c.n5;refine vx rfl<|vx rfl<|c.v4 λJ _ c=>?_;refine c.w4 5 λ_ c=>?_;refine sV.at (λv h'=>v=.bool (!decide (z=0/\q=oN xr/\st=1))/\Cx (λ_=>False) h h' [rV U [.int .i64 3,.int .i64 6,.int .i64 4],rV V (cW W0),rV X (cW ⟨xv,xq,xr⟩),rV E (cW ⟨xv,xq,0⟩),kz EE (jY u) es,rV J [.int .i64 w,.int .i64 q,.int .i64 st,jY u]]) ?_ ?_
  ·refine vx mh<|lV (λiS=>?_) λiS=>?_
   ·first | exact⟨congrArg Value.bool (by rw[decide_eq_false (by omega)]; rfl),c⟩| exact⟨congrArg Value.bool (by rw[<-decide_not]; exact decide_eq_decide.2 (by omega)),c⟩
   ·refine jS<|c.rc 5 ?_;refine vx mh<|lV (λoF=>?_) λoF=>?_
    ·first | exact⟨congrArg Value.bool (by rw[decide_eq_false (by omega)]; rfl),c⟩| exact⟨congrArg Value.bool (by rw[<-decide_not]; exact decide_eq_decide.2 (by omega)),c⟩
    ·refine jS<|c.rc 5 ?_;refine vx mh ?_;first | exact⟨congrArg Value.bool (by rw[decide_eq_false (by omega)]; rfl),c⟩| exact⟨congrArg Value.bool (by rw[<-decide_not]; exact decide_eq_decide.2 (by omega)),c⟩
  ·rintro _ rW ⟨rfl,c⟩;replace c:=c.n6;refine En.br (λM=>?_) λM=>?_
   ·refine c.rl 3 ?_;refine c.w3 1 λ_ c=>?_;refine c.rl 1 ?_;rw[if_neg (λe=>by rw[decide_eq_true e] at M; cases M)] at H;exact H _ c.gr
   ·refine jS<|c.rc 5 ?_;rw[if_pos (by simpa using M)] at H;refine vx (c.sl (i:=4) rfl).sl.ln<|sO.by (λ(k:Nat) v h'=>v=.int .i64 k/\k<=es.length/\CO es n=CO (es.drop k) n/\Cx (λ_=>False) h h' [rV U [.int .i64 3,.int .i64 6,.int .i64 4],rV V (cW W0),rV X (cW ⟨xv,xq,xr⟩),rV E (cW ⟨xv,xq,0⟩),kz EE (jY u) es,rV J [.int .i64 w,.int .i64 q,.int .i64 st,jY u]]) (λk=>es.length - k) 0 ⟨rfl,aO _,rfl,c⟩ ?_;rintro k _ tO ⟨rfl,hk,G,c⟩ again O;refine vx j9<|lV (λoR=>?_) λoR=>?_
    ·have eQ:=aB (l:=es) (i:=k) (by omega);have iF:es.drop k=es[k]'(by omega)::es.drop (k+1):=bP (by omega);generalize es[k]'(by omega)=y at eQ iF;rw[iF] at G;obtain⟨ya,⟨yv,yq,yr⟩,yn,yb⟩:=y;refine(c.sl (i:=4) rfl).sl.whole rfl eQ rfl ?_;refine c.v6 λiN _ c=>?_;refine c.w6 6 λ_ c=>?_;refine sV.at (λv h'=>v=.bool (decide (ya=n)&&yb)/\Cx (λ_=>False) h h' [rV U [.int .i64 3,.int .i64 6,.int .i64 4],rV V (cW W0),rV X (cW ⟨xv,xq,xr⟩),rV E (cW ⟨xv,xq,0⟩),kz EE (jY u) es,rV J [.int .i64 w,.int .i64 q,.int .i64 st,jY u],rV iN (cE ⟨ya,⟨yv,yq,yr⟩,yn,yb⟩)]) ?_ ?_
     ·refine jS<|c.rc 6 ?_;refine vx kU<|lV (λK=>?_) λK=>?_
      ·refine jS<|c.rc 6 ?_;first | exact⟨by rw[decide_eq_true K]; rfl,c⟩| exact⟨by rw[decide_eq_false K]; rfl,c⟩
      ·first | exact⟨by rw[decide_eq_true K]; rfl,c⟩| exact⟨by rw[decide_eq_false K]; rfl,c⟩
     ·rintro _ uS ⟨rfl,c⟩;replace c:=c.n7;refine En.br (λaS=>?_) λaS=>?_
      ·refine jS<|c.rc 6 ?_;refine jS<|c.rc 2 ?_;have G:CO es n=some ⟨ya,⟨yv,yq,yr⟩,yn,yb⟩:=G.trans (cL (p:=λe:Et=>decide (e.at'=n)&&e.wr) aS);rw[G] at H;refine vx Fz<|vx (jU (ds:=[_,_,_]) rfl)<|c.w3 1 λ_ c=>?_;refine c.rl 1 ?_;exact H _ c.gr
      ·have G:CO es n=CO (es.drop (k+1)) n:=G.trans (bX (p:=λe:Et=>decide (e.at'=n)&&e.wr) (by rw[aS]; decide));exact vx (inc (by omega))<|O (k+1) _ _ ⟨rfl,by omega,G,c.pick [0,1,2,3,4,5]⟩ (by omega)
    ·refine c.rl 3 ?_;refine c.w3 1 λ_ c=>?_;refine c.rl 1 ?_;rw[eO (by omega)] at G;rw[G] at H;exact H _ c.gr
end
def uC (ws:List W3):List W3:=ws.mapIdx λi _=>if oG i=true then ve (lF ws) i else W0
def rT {ws:List W3}:(uC ws).length=ws.length:=by unfold uC; rw[dB]
def tS {ws:List W3} {i:Nat} (h:i<ws.length):(uC ws)[i]?=some (if oG i=true then ve (lF ws) i else W0):=by
 unfold uC;rw[cT,aB h];rfl
def Qj (l:List W3) (e:Et):List W3:=if e.wr=true then l.set e.at'.toNat ⟨e.new,(e.old.j8+1) % 4294967296,0⟩ else l
def zQ (es:List Et) (ws:List W3):List W3:=es.foldl Qj ws
def OB {l:List W3} {e:Et}:(Qj l e).length=l.length:=by unfold Qj; split <;> simp
def GG:∀{es:List Et} {ws:List W3},(zQ es ws).length=ws.length
 | [],_=>rfl
 | e::r,ws=>(GG (es:=r) (ws:=Qj ws e)).trans OB
section
variable {vw vu:Value} {ws:List W3} {es:List Et}
def LB (H:B.p h) (O:On B Zs) (hw:On B λh=>Sl EW h vw ws) (Q:ws.length=512) (U:∀w∈ws,Ww w) (V:∀u h',Cx (λ_=>False) h h' [kz EW (jY u) (uC ws)]->R (jY u) h'):mJ.1 vL vw h R:=by
 have c:=Cx.jQ h;refine c.v3 λJ _ c=>?_;refine c.Fy EW λv7 _ c=>have c:=c.n2;c.ap 1 rfl (hw _ (B.up H c.gr)) rfl rfl (by simp only[aJ]; omega) (by simp only[aJ]; omega) λv9 _ c=>?_;obtain⟨u,rfl⟩:=(c.sl (i:=1) rfl).tW;replace c:=c.n2;refine sO.by (λ(i:Nat) z h'=>z=.int .i64 i/\i<=512/\Cx (λ_=>False) h h' [rV J [.int .i64 3,.int .i64 6,.int .i64 4],kz EW (jY u) ((uC ws).take i++ws.drop i)]) (λi=>512 - i) 0 ⟨rfl,aO _,c⟩ ?_;rintro i _ X ⟨rfl,hi,c⟩ again q;have Z:(uC ws).length=512:=rT.trans Q;refine vx (hw _ (B.up H c.gr)).ln<|vx j9<|lV (λK=>?_) λK=>?_
 ·refine .here<|c.rl 0 ?_;refine o7 (a:=(i:Int)) ⟨by omega,by omega⟩ _ _ (O _ (B.up H c.gr)) λ_ g=>?_;have c:=c.more g;have M:=tS (ws:=ws) (i:=i) (by omega);have hd:ws.drop i=ws[i]'(by omega)::ws.drop (i+1):=bP (by omega);have T:(uC ws).take (i+1)=(uC ws).take i++[if oG i=true then ve (lF ws) i else W0]:=by rw[bN,M];rfl
  have G:∀y,((uC ws).take i++ws.drop i).set i y=((uC ws).take i++[y])++ws.drop (i+1):=λy=>by
   rw[hd,List.set_append_right _ _ (by rw[aR]; omega),aR,show i - min i (uC ws).length=0 by omega,List.set_cons_zero,cY];rfl
  refine En.br (λE=>?_) λE=>?_
  ·refine c.rl 0 ?_;refine yB.2 (WU (B.up H c.gr) O hw Q U (by omega) E λ_ g=>?_);have c:=c.more g;refine vx rfl<|vx rfl<|c.Bp 1 rfl (j:=i) (by rw[aF,aR,cI]; omega) (ve (lF ws) i) rfl rfl rfl λ_ c=>?_;rw[G,show ve (lF ws) i=(if oG i=true then ve (lF ws) i else W0) from(if_pos E).symm,<-T] at c;replace c:=c.n2;exact vx (inc (by omega))<|q (i+1) _ _ ⟨rfl,by omega,c.pick [0,1]⟩ (by omega)
  ·refine vx (jU (ds:=[_,_,_]) rfl)<|c.Bp 1 rfl (j:=i) (by rw[aF,aR,cI]; omega) W0 rfl rfl rfl λ_ c=>?_;rw[G,show W0=(if oG i=true then ve (lF ws) i else W0) from(if_neg (by rw[E]; decide)).symm,<-T] at c;replace c:=c.n2;exact vx (inc (by omega))<|q (i+1) _ _ ⟨rfl,by omega,c.pick [0,1]⟩ (by omega)
 ·obtain rfl:i=512:=by omega
  rw[aW (by omega),eO (by omega),cX] at c;exact V u _ (c.pick [1])
def Ug (G:B.p h) (hw:On B λh=>Sl EW h vw ws) (he:On B λh=>Sl EE h vu es) (X:es.length<=1000) (hs:∀e∈es,0<=e.at'/\∃x,ws[e.at'.toNat]?=some x/\x.v=e.old.v/\x.j8=e.old.j8) (T:∀h',Gr h h'->R (.bool true) h'):oD.1 vw vu h R:=by
 dsimp only[oD,lZ];have c:=Cx.jQ h;refine sO.by (λ(i:Nat) z h'=>z=.int .i64 i/\i<=es.length/\Cx (λ_=>False) h h' []) (λi=>es.length - i) 0 ⟨rfl,aO _,c⟩ ?_;rintro i _ U ⟨rfl,hi,c⟩ again q;refine vx (he _ (B.up G c.gr)).ln<|vx j9<|lV (λJ=>?_) λJ=>?_
 ·have K:=aB (l:=es) (i:=i) (by omega);generalize es[i]'(by omega)=e at K;obtain⟨V,y,H,O,Q⟩:=hs e (aG K);have M:=(aC.1 H).1;obtain⟨E,⟨ev,eq,Z⟩,en,eb⟩:=e;dsimp only at V H O Q M;refine(he _ (B.up G c.gr)).whole rfl K rfl ?_;refine c.v6 λ_ _ c=>?_;refine c.w6 0 λ_ c=>?_;refine .here<|jS<|c.rc 0 ?_;refine vx (lL ((show ¬E<0 by omega)))<|j7<|jS<|c.rc 0 ?_;refine vx (hw _ (B.up G c.gr)).ln<|vx (oV ((show ¬(ws.length:Int)<=E by omega)))<|j7<|jS<|c.rc 0 ?_;refine(hw _ (B.up G c.gr)).sN (j:=0) rfl H (show E=((E.toNat:Nat):Int) by omega) (u:=.int .i64 y.v) rfl ?_;refine jS<|jS<|c.rc 0 ?_;refine vx (BM O)<|j7<|jS<|c.rc 0 ?_;refine(hw _ (B.up G c.gr)).sN (j:=1) rfl H (show E=((E.toNat:Nat):Int) by omega) (u:=.int .u32 y.j8) rfl ?_;refine jS<|jS<|c.rc 0 ?_;exact vx (BM Q)<|j7<|vx (inc (by omega))<|q (i+1) _ _ ⟨rfl,by omega,c.pick []⟩ (by omega)
 ·exact T _ c.gr
def Uq (J:B.p h) (hw:On B λh=>Sl EW h vw ws) (he:On B λh=>Sl EE h vu es) (hl:es.length<=1000) (Z:ws.length<=1000) (hs:∀e∈es,0<=e.at'/\e.at'<ws.length) (U:∀u h',Cx (λ_=>False) h h' [kz EW (jY u) (zQ es ws)]->R (jY u) h'):rz.1 vw vu h R:=by
 have c:=Cx.jQ h;refine c.Fy EW λv7 _ c=>have c:=c.n1;c.ap 0 rfl (hw _ (B.up J c.gr)) rfl rfl (by simp only[aJ]; omega) (by simp only[aJ]; omega) λv9 _ c=>?_;obtain⟨u,rfl⟩:=(c.sl (i:=0) rfl).tW;replace c:=c.n1;refine sO.by (λ(i:Nat) z h'=>z=.int .i64 i/\i<=es.length/\∃l:List W3,l.length=ws.length/\zQ es ws=zQ (es.drop i) l/\Cx (λ_=>False) h h' [kz EW (jY u) l]) (λi=>es.length - i) 0 ⟨rfl,aO _,ws,rfl,rfl,c⟩ ?_;rintro i _ aS ⟨rfl,hi,l,G,q,c⟩ again E;refine vx (he _ (B.up J c.gr)).ln<|vx j9<|lV (λQ=>?_) λQ=>?_
 ·refine .here ?_;have K:=aB (l:=es) (i:=i) (by omega);have V:es.drop i=es[i]'(by omega)::es.drop (i+1):=bP (by omega);generalize es[i]'(by omega)=e at K V;obtain⟨e1,e2⟩:=hs e (aG K);obtain⟨M,⟨ev,eq,X⟩,en,eb⟩:=e;dsimp only at e1 e2;rw[V] at q;have q:zQ es ws=zQ (es.drop (i+1)) (Qj l ⟨M,⟨ev,eq,X⟩,en,eb⟩):=q;refine(he _ (B.up J c.gr)).sN (j:=5) rfl K rfl (u:=.bool eb) rfl ?_;refine En.br (λH=>?_) λH=>?_
  ·rw[show Qj l ⟨M,⟨ev,eq,X⟩,en,eb⟩=l.set M.toNat ⟨en,(eq+1) % 4294967296,0⟩ from if_pos H] at q;refine(he _ (B.up J c.gr)).sN (j:=0) rfl K rfl (u:=.int .i64 M) rfl ?_;refine(he _ (B.up J c.gr)).sN (j:=4) rfl K rfl (u:=.int .i64 en) rfl ?_;obtain⟨r9,o9,e9,O,_⟩:=(he _ (B.up J c.gr)).ix K (n:=6) rfl (k:=.i64) (z:=(i:Int)) rfl;refine vx e9<|vx (oi _ _ _)<|vx (oi _ _ _)<|vx (O.mH (j:=2) (v:=.int .u32 eq) rfl)<|vx Fz<|vx (jU (ds:=[_,_,_]) rfl)<|c.Bp 0 rfl (j:=M.toNat) (by omega) (⟨en,(eq+1) % 4294967296,0⟩:W3) rfl (by omega) rfl λ_ c=>have c:=c.n1;vx (inc (by omega))<|E (i+1) _ _ ⟨rfl,by omega,_,by first | exact(aV ..).trans G | exact G,by first | exact q | exact q.trans (congrArg _ (if_neg λT:eb=true=>Bool.noConfusion (H.symm.trans T))),c.pick [0]⟩ (by omega)
  ·exact vx (inc (by omega))<|E (i+1) _ _ ⟨rfl,by omega,_,by first | exact(aV ..).trans G | exact G,by first | exact q | exact q.trans (congrArg _ (if_neg λT:eb=true=>Bool.noConfusion (H.symm.trans T))),c.pick [0]⟩ (by omega)
 ·rw[eO (by omega)] at q;rw[q] at U;exact U u _ c
end
def vh (bs lx:Int->W3) (who:Int):Bool:=decide (0<=jP who/\(bs (jP who)).v=0/\(lx (jP who)).v=1/\(bs (jP who)).j8=(lx (jP who)).j8)
def Zb (who:Int):jP who<512:=by
 unfold jP mR lC
 (repeat' split) <;> omega
section
variable {va vb vw vn:Value} {bs lx ws ns:List W3} {uu q0:Int} {es0:List Et}
def GV {who:Nat} (hw:who<=13) (hb:Sl EW h vb bs) (ha:Sl EW h va lx) (iF:bs.length=512) (iN:lx.length=512) {J:Value->Hp->Prop} (E:J (.bool (vh (lF bs) (lF lx) who)) h) :
  Vb (bin .geq (.int .i64 (jP who)) (.int .i64 0)) λG=>
  Br G (
   Vb (sL 3 vb (.int .i64 (jP who))) λH=>
   Vb (fa 0 H) λK=>
   Vb (mH K h) λM=>
   Vb (bin .eql M (Value.int IntKind.i64 0)) λO=>
   Br O (
    Vb (sL 3 va (.int .i64 (jP who))) λQ=>
    Vb (fa 0 Q) λT=>
    Vb (mH T h) λU=>
    Vb (bin .eql U (Value.int IntKind.i64 1)) λV=>
    Br V (
     Vb (sL 3 vb (.int .i64 (jP who))) λX=>
     Vb (fa 1 X) λZ=>
     Vb (mH Z h) λaS=>
     Vb (sL 3 va (.int .i64 (jP who))) λaT=>
     Vb (fa 1 aT) λbY=>
     Vb (mH bY h) λdO=>
     Vb (bin .eql aS dO) λeQ=>
     J eQ h) (
     J (Value.bool false) h)) (
    J (Value.bool false) h)) (
   J (Value.bool false) h):=by
 have no:¬vh (lF bs) (lF lx) who=true->J (.bool false) h:=λe=>by
  rw[show vh (lF bs) (lF lx) who=false by simpa using e] at E;exact E
 have hp:=Zb who;refine En.vb qf (lV (λe1=>?_) λe1=>no λe=>e1 (of_decide_eq_true e).1);obtain⟨n,en,_,hx⟩:=zl (ws:=bs) (p:=jP who) (by omega);obtain⟨n2,q,_,hy⟩:=zl (ws:=lx) (p:=jP who) (by omega);refine hb.sN (j:=0) rfl hx en (u:=.int .i64 (lF bs (jP who)).v) rfl (En.vb kU (lV (λe2=>?_) λe2=>no λe=>e2 (of_decide_eq_true e).2.1));refine ha.sN (j:=0) rfl hy q (u:=.int .i64 (lF lx (jP who)).v) rfl (En.vb kU (lV (λe3=>?_) λe3=>no λe=>e3 (of_decide_eq_true e).2.2.1));refine hb.sN (j:=1) rfl hx en (u:=.int .u32 (lF bs (jP who)).j8) rfl (ha.sN (j:=1) rfl hy q (u:=.int .u32 (lF lx (jP who)).j8) rfl (En.vb kU ?_));rw[show vh (lF bs) (lF lx) who=decide ((lF bs (jP who)).j8=(lF lx (jP who)).j8) from decide_eq_decide.2 ⟨λe=>e.2.2.2,λe=>⟨e1,e2,e3,e⟩⟩] at E;exact E
def ON (K:B.p h) (V:On B Zs) (hb:On B λh=>Sl EW h vb bs) (X:On B λh=>Sl EW h va lx) (O:bs.length=512) (M:lx.length=512) (hW:∀w∈lx,Ww w) {uu:Nat} (h0:1<=uu/\uu<=12)
  (hd:vh (lF bs) (lF lx) uu=true) (hn:∀w:Nat,1<=w->w<uu->vh (lF bs) (lF lx) w=false) (Q:GJ (lF lx) uu=some (1,q0,es0)) (hR:∀u h',Cx (λ_=>False) h h' [kz EE (jY u) es0]->R (.tuple #[jY u,.bool true]) h'):mu.1 vL vb va vw vn h R:=by
 have c:=Cx.jQ h;refine c.v3 λH _ c=>?_;refine sO.by (λ(i:Nat) z h'=>z=.int .i64 i/\1<=i/\i<=uu/\Cx (λ_=>False) h h' [rV H [.int .i64 3,.int .i64 6,.int .i64 4]]) (λi=>13 - i) 1 ⟨rfl,aP _,h0.1,c⟩ ?_;rintro i _ aS ⟨rfl,T,hi,c⟩ again G;refine jS<|c.rc 0 ?_;refine vx (oC ⟨by omega,by omega⟩)<|vx (G7 (show(i:Int)<=8+4 by omega))<|kV<|c.rl 0 ?_;refine pX (who:=(i:Int)) (by omega) _ _ (V _ (B.up K c.gr)) λ_ g=>have c:=c.more g;vx rfl<|vx rfl<|sV.at (λv h'=>v=.bool (vh (lF bs) (lF lx) i)/\Cx (λ_=>False) h h' [rV H [.int .i64 3,.int .i64 6,.int .i64 4]]) ?_ ?_
 ·exact GV (J:=λv h'=>v=.bool (vh (lF bs) (lF lx) i)/\Cx (λ_=>False) h h' [rV H [.int .i64 3,.int .i64 6,.int .i64 4]]) (by omega) (hb _ (B.up K c.gr)) (X _ (B.up K c.gr)) O M ⟨rfl,c⟩
 ·rintro _ aT ⟨rfl,c⟩;replace c:=c.n1;refine En.br (λE=>?_) λE=>?_
  ·refine c.rl 0 ?_;obtain rfl:i=uu:=bC λU=>by rw[hn i T (by omega)] at E;cases E
   refine uJ.2 (Wf (V _ (B.up K c.gr)) (X _ (B.up K c.gr)) M hW (by omega) λw q st z u es _ Z _ d=>?_);have c:=c.jT d;rw[Q] at Z;obtain⟨_,_,_,rfl⟩:=(show z=0/\st=1/\q=q0/\es=es0 from Z);replace c:=c.n2;refine vx rfl<|vx rfl<|c.v4 λ_ _ c=>?_;refine c.w4 2 λ_ c=>?_;refine jS<|c.rc 2 ?_;exact hR u _ (c.pick [1])
  ·have U:¬i=uu:=λe=>by rw[e,hd] at E;cases E
   exact vx (inc (by omega))<|G (i+1) _ _ ⟨rfl,by omega,by omega,c.pick [0]⟩ (by omega)
def Hj (H:B.p h) (hZ:On B Zs) (hb:On B λh=>Sl EW h vb bs) (ha:On B λh=>Sl EW h va lx) (hw:On B λh=>Sl EW h vw ws) (hv:On B λh=>Sl EW h vn ns) (V:bs.length=512) (X:lx.length=512) (aT:ws.length=512) (bY:ns.length=512)
  (hn:∀w:Nat,1<=w->w<=12->vh (lF bs) (lF lx) w=false)
  (h1:∀(i:Nat) x y u h',ws[i]?=some x->ns[i]?=some y->¬x=y->Cx (λ_=>False) h h' [kz EE (jY u) [⟨i,x,y.v,true⟩]]->R (.tuple #[jY u,.bool true]) h')
  (h2:∀h',ws=ns->Gr h h'->R (.tuple #[.slice none 0 0,.bool false]) h'):mu.1 vL vb va vw vn h R:=by
 have c:=Cx.jQ h;refine c.v3 λE _ c=>?_;refine sO.by (λ(i:Nat) z h'=>z=.int .i64 i/\1<=i/\i<=13/\Cx (λ_=>False) h h' [rV E [.int .i64 3,.int .i64 6,.int .i64 4]]) (λi=>13 - i) 1 ⟨rfl,aP _,by decide,c⟩ ?_;rintro i _ dO ⟨rfl,Z,hi,c⟩ again G;refine jS<|c.rc 0 ?_;refine vx (oC ⟨by omega,by omega⟩)<|vx zn<|lV (λM=>?_) λM=>?_
 ·refine c.rl 0 ?_;have M:(i:Int)<=12:=M;refine pX (who:=(i:Int)) (by omega) _ _ (hZ _ (B.up H c.gr)) λ_ g=>have c:=c.more g;vx rfl<|vx rfl<|sV.at (λv h'=>v=.bool (vh (lF bs) (lF lx) i)/\Cx (λ_=>False) h h' [rV E [.int .i64 3,.int .i64 6,.int .i64 4]]) ?_ ?_
  ·exact GV (J:=λv h'=>v=.bool (vh (lF bs) (lF lx) i)/\Cx (λ_=>False) h h' [rV E [.int .i64 3,.int .i64 6,.int .i64 4]]) (by omega) (hb _ (B.up H c.gr)) (ha _ (B.up H c.gr)) V X ⟨rfl,c⟩
  ·rintro _ eQ ⟨rfl,c⟩;rw[hn i Z (by omega)];replace c:=c.n1;exact j7<|vx (inc (by omega))<|G (i+1) _ _ ⟨rfl,by omega,by omega,c.pick [0]⟩ (by omega)
 ·refine vx (hv _ (B.up H c.gr)).ln<|sO.by (λ(j:Nat) z h'=>z=.int .i64 j/\j<=ns.length/\(∀k,k<j->ws[k]?=ns[k]?)/\Cx (λ_=>False) h h' [rV E [.int .i64 3,.int .i64 6,.int .i64 4]]) (λj=>ns.length - j) 0 ⟨rfl,aO _,(λk hk=>by omega),c⟩ ?_;rintro j _ iF ⟨rfl,hj,K,c⟩ U q;refine vx j9<|lV (λaS=>?_) λaS=>?_
  ·have Q:=aB (l:=ns) (i:=j) (by omega);have T:=aB (l:=ws) (i:=j) (by omega);generalize ns[j]'(by omega)=y at Q;generalize ws[j]'(by omega)=x at T;refine(hv _ (B.up H c.gr)).whole rfl Q rfl ?_;refine(hw _ (B.up H c.gr)).whole rfl T rfl ?_;refine vx (RI y x)<|lV (λO=>?_) λO=>?_
   ·refine(hw _ (B.up H c.gr)).whole rfl T rfl ?_;refine(hv _ (B.up H c.gr)).sN (j:=0) rfl Q rfl (u:=.int .i64 y.v) rfl ?_;refine vx (jU (ds:=[_,_,_,_,_,_]) rfl)<|c.lW EE ⟨j,x,y.v,true⟩ rfl rfl λiN _ c=>?_;obtain⟨u,rfl⟩:=(c.sl (i:=1) rfl).tW;replace c:=c.n2;exact h1 j x y u _ T Q (λe=>O e.symm) (c.pick [1])
   ·refine vx (inc (by omega))<|q (j+1) _ _ ⟨rfl,by omega,λk hk=>?_,c⟩ (by omega);by_cases e:k=j
    ·rw[e,Q,T,dN.1 O]
    ·exact K k (by omega)
  ·exact h2 _ (gK λk=>by
    by_cases e:k<512
    ·exact K k (by omega)
    ·rw[bW (by omega),bW (by omega)]) c.gr
end
structure Good (es:List Et):Prop where
 len:1<=es.length/\es.length<=6
 pl:∀e∈es,56<=e.at'/\e.at'<62
 Gm:∀(i j:Nat) (a b:Et),i<j->es[i]?=some a->es[j]?=some b->a.at'<b.at'
 ref:∀e∈es,e.old.ref=0
 j8:∀e∈es,0<=e.old.j8/\e.old.j8<16777216
 val:∀e∈es,C5 e.old.v/\C5 e.new
 kp:∀e∈es,e.wr=false->e.new=e.old.v
def kO (es:List Et):(kh es).length=1+3*es.length:=by
 have:(es.flatMap λe=>[DJ e,DI e,Ee e]).length=3*es.length:=by
  induction es with
  | nil=>rfl
  | cons e r h=>rw[dE,aF,h];show 3+_=3*(_+1);omega
 rw[kh,aH,this];omega
def Good.up {es:List Et} (g:Good es) {e:Et} (he:e∈es):KY (DJ e) (DI e) (Ee e)=true/\Ds (DJ e) (DI e) (Ee e)=e:=by
 have u:=g.pl e he;have h:=g.ref e he;obtain⟨a,⟨v,q,r⟩,n,b⟩:=e;dsimp only at u h;subst h;have:Ds (DJ ⟨a,⟨v,q,0⟩,n,b⟩) (DI ⟨a,⟨v,q,0⟩,n,b⟩) (Ee ⟨a,⟨v,q,0⟩,n,b⟩)=⟨a,⟨v,q,0⟩,n,b⟩:=by
  cases b <;> rfl
 refine⟨decide_eq_true ⟨by show 0<=a/\a<4096; omega,?_⟩,this⟩;rw[this];exact⟨rfl,rfl,rfl⟩
def Good.YS {es:List Et} (g:Good es) {e:Et} (he:e∈es):xP e=0:=by
 have h1:=g.pl e he;have h2:=g.ref e he;have q:=g.j8 e he;have h:=g.kp e he;unfold xP xw;rw[if_neg (by omega),if_pos h2,if_neg (by omega),if_neg (by omega),if_neg (λx=>x.2 (h x.1))]
def Good.VB {es:List Et} (g:Good es):∀(n i:Nat),es.length - i=n->Gg (es.take i) (es.drop i)=0
 | 0,i,h=>by rw[dH (by omega)];rfl
 | n+1,i,h=>by
  have hi:i<es.length:=by omega
  rw[bP hi,Gg,if_neg (by rw[g.YS (dM hi)]; simp),if_neg]
  ·have:=g.VB n (i+1) (by omega);rwa [bN,aB hi] at this
  ·rw[fF,iG];intro y q;obtain⟨j,u,rfl⟩:=bK.1 q;rw[aR] at u;have:=g.Gm j i _ _ (by omega) (aB (by omega:j<es.length)) (aB hi);rw[List.getElem_take];simp only[decide_eq_true_eq];omega
def Good.check {es:List Et} (g:Good es):m4 es=0:=by
 have:=g.len;unfold m4;rw[if_neg (by omega),if_neg (by omega)];exact g.VB _ 0 rfl
abbrev qp (es:List Et):List W3:=es.flatMap λe=>[DJ e,DI e,Ee e]
def Good.may {es:List Et} (g:Good es) {e:Et} (he:e∈es):oG e.at'=true:=decide_eq_true (.inl (g.pl e he))
def Good.unp {es:List Et} (g:Good es):∀(n i:Nat),es.length - i=n->i<=es.length->vi (qp (es.drop i)) (es.take i)=some es
 | 0,i,h,hi=>by
  rw[dH (by omega),aW (by omega)];show(if m4 es=0 then some es else none)=_;rw[if_pos g.check]
 | n+1,i,h,_=>by
  have hi:i<es.length:=by omega
  have hm:=dM hi;rw[bP hi];show vi (DJ es[i]::DI es[i]::Ee es[i]::qp (es.drop (i+1))) (es.take i)=_;have q:∀l,(es.take i).getLast?=some l->l.at'<es[i].at':=λl u=>by
   rw[bG,aR,iV (by omega)] at u;have B:i - 1<i:=by
    rcases gA i with e | e
    ·subst e;simp at u
    ·omega
   rw[dZ B] at u;exact g.Gm (i - 1) i l _ B u (aB hi)
  rw[vi,(g.up hm).2,if_pos ⟨(g.up hm).1,g.may hm,q⟩];have:=g.unp n (i+1) (by omega) (by omega);rwa [bN,aB hi] at this
def Good.unpack {es:List Et} (g:Good es):vi (qp es) []=some es:=g.unp _ 0 rfl (aO _)
def wL (es:List Et):kh es=⟨es.length,0,0⟩::qp es:=rfl
def yY (es:List Et):(qp es).length=3*es.length:=by
 have:=kO es;rw[wL,aH] at this;omega
abbrev Mem:=Nat->W3
def RE {p:Nat} (h:p<512):oY ⟨5,p,W0,W0⟩:=⟨.inr ⟨.inr (.inr (.inr (.inl rfl))),bL _,dU.2 h⟩,λ_=>rfl,λ_=>rfl,λh=>by dsimp only at h; omega⟩
def RF {p:Nat} (h:p<512):oY ⟨1,p,W0,W0⟩:=⟨.inr ⟨.inl rfl,bL _,dU.2 h⟩,λ_=>rfl,λ_=>rfl,λh=>by dsimp only at h; omega⟩
def Rp {p:Nat} {o n:W3} (h:p<512) (q:Ww n):oY ⟨6,p,o,n⟩:=⟨.inr ⟨.inr (.inr (.inr (.inr (.inl rfl)))),bL _,dU.2 h⟩,λh=>by dsimp only at h; omega,λh=>by dsimp only at h; omega,λ_=>q⟩
def DU {p:Nat} {n:W3} {op:Int} (q:op=3\/op=4) (h:p<512) (u:Ww n):oY ⟨op,p,W0,n⟩:=⟨.inr ⟨by dsimp only; omega,bL _,dU.2 h⟩,λ_=>rfl,λh=>by dsimp only at h; omega,λ_=>u⟩
def N2 {p:Nat} (h:p<512):oY ⟨7,p,W0,W0⟩:=⟨.inr ⟨.inr (.inr (.inr (.inr (.inr rfl)))),bL _,dU.2 h⟩,λ_=>rfl,λ_=>rfl,λh=>by dsimp only at h; omega⟩
def xf:oY ⟨8,0,W0,W0⟩:=⟨.inl rfl,λ_=>rfl,λ_=>rfl,λh=>by dsimp only at h; omega⟩
section
variable {s:Hs} {r:Int} {du:Bool} {es:List Et}
structure Hr (r:Int) (du:Bool) (n:Nat) (s:Hs):Prop where
 ref:s.ref=r
 kY:s.kY=du
 en:s.ended=false
 es:s.es=[]
 i:s.i=0
 many:s.many=n
 ws:∀x∈s.ws,Ww x
 met:Ww s.met
end
section
variable {es:List Et}
def FG {s:Sw} {l:List Int} (h:∀p∈l,0<=p/\p<512):∀a∈od s l,oY a:=by
 unfold od;split
 ·intro a u;rcases bB.1 u with u | u
  ·obtain⟨p,B,rfl⟩:=dC.1 u;obtain⟨n,rfl⟩:∃n:Nat,p=n:=⟨p.toNat,by have:=h p B; omega⟩;exact N2 (by have:=h _ B; omega)
  ·rw[aN] at u;subst u;exact xf
 ·intro a u;cases u
def EG:∀(f:List W3) (p:Nat),(∀w∈f,Ww w)->p+f.length<=512->∀a∈mm f p,oY a
 | [],_,_,_,a,h=>by cases h
 | w::f,p,hw,u,a,h=>by
  have h:a∈(⟨3,p,W0,w⟩:Ac)::mm f ((p:Int)+1):=h;rcases aU.1 h with rfl | h
  ·exact DU (.inl rfl) (by simp only[aH] at u; omega) (hw w aM)
  ·rw[show((p:Int)+1)=((p+1:Nat):Int) by omega] at h;exact EG f (p+1) (λx B=>hw x (aL _ B)) (by simp only[aH] at u; omega) a h
def Ww.qp (g:Good es):∀w∈qp es,Ww w:=λw hw=>by
 obtain⟨e,he,hw⟩:=iL.1 hw;have h:=g.pl e he;have h1:=g.j8 e he;have h2:=g.val e he;simp only[aU,bF,or_false] at hw;rcases hw with rfl | rfl | rfl
 ·refine⟨⟨by show -9223372036854775808<=e.at'; omega,by show e.at'<=9223372036854775807; omega⟩,?_,⟨bA 0,(by decide:(0:Int)<4294967296)⟩⟩;show 0<=(if e.wr=true then(1:Int) else 0)/\(if e.wr=true then(1:Int) else 0)<4294967296;split <;> omega
 ·exact⟨h2.1,by show 0<=e.old.j8/\e.old.j8<_; omega,⟨bA 0,(by decide:(0:Int)<4294967296)⟩⟩
 ·exact⟨h2.2,⟨bA 0,(by decide:(0:Int)<4294967296)⟩,⟨bA 0,(by decide:(0:Int)<4294967296)⟩⟩
end
def Zl (M:Mem) (q:Int):Prop:=(q=0/\M 64=⟨2,0,0⟩)\/(1<=q/\∃h,Good h/\M 64=⟨1,q,0⟩/\M 65=⟨h.length,0,0⟩/\∀(j:Nat) w,(qp h)[j]?=some w->M (66+j)=w)
def Sz {ps:List Pt}:∀{n:Nat},∀p∈xF ps n,p.cell % 6<n
 | 0,p,h=>by unfold xF at h;simp at h
 | n+1,p,h=>by
  rw[yO] at h;rcases bB.1 h with h | h
  ·have:=Sz p h;omega
  ·rw[Option.mem_toList] at h;have:=eY h;simp only[beq_iff_eq] at this;omega
def NG {ps:List Pt}:∀{n:Nat} (i j:Nat) (a b:Pt),i<j->(xF ps n)[i]?=some a->(xF ps n)[j]?=some b->a.cell % 6<b.cell % 6
 | 0,i,j,a,b,_,h,_=>by unfold xF at h;simp at h
 | n+1,i,j,a,b,q,h1,h2=>by
  rw[yO] at h1 h2;by_cases c:j<(xF ps n).length
  ·rw[aY (by omega)] at h1;rw[aY c] at h2;exact NG i j a b q h1 h2
  ·rw[bD (by omega)] at h2;cases u:ps.find? λp=>p.cell % 6 == n with
   | none=>rw[u] at h2;simp at h2
   | some y=>
    rw[u] at h1 h2;have B:=eY u;simp only[beq_iff_eq] at B;have e:j - (xF ps n).length=0:=by
     have:=(aC.1 h2).1;simp only[eS,aE] at this;omega
    rw[e] at h2;simp only[eS,aX,aD] at h2;subst h2;by_cases c2:i<(xF ps n).length
    ·rw[aY c2] at h1;have:=Sz a (aG h1);omega
    ·omega
def Lz {ps:List Pt} (h:¬ps=[]):1<=(xF ps 6).length:=by
 cases ps with
 | nil=>exact absurd rfl h
 | cons p l=>
  have hm:((p::l).find? λy=>y.cell % 6 == p.cell % 6)=some p:=by rw[cL (by simp)]
  have:p∈xF (p::l) 6:=by
   unfold xF;exact gD.2 ⟨p.cell % 6,dP.2 (by omega),hm⟩
  exact iR this
def Zh (z:Int):C5 (tG z):=XS z
def rH (p:Pt):56<=kM p/\kM p<62:=by unfold kM; omega
structure Xs (M:Mem) (n:Nat):Prop where
 ref:∀j,56<=j->j<62->(M j).ref=0
 j8:∀j,56<=j->j<62->(M j).j8<=n
 ww:∀i,Ww (M i)
def Good.ZD {es:List Et} (g:Good es):NE es:=
 ⟨g.check,by have:=g.len; omega,λi a b h1 h2=>g.Gm i (i+1) a b (by omega) h1 h2,λe he=>g.may he,λe he=>⟨(g.val e he).1,by have:=g.j8 e he; omega,by rw[g.ref e he]; decide⟩⟩
structure MI (M:Mem) (q qb:Int) (n:Nat):Prop where
 slot:Zl M q
 bits:M 376=W0
 kZ:∃v,M 384=⟨v,qb,0⟩
 cel:Xs M n
 qr:0<=q/\q<=n
 qb:0<=qb/\qb<=n
def tZ {o:ng} {r:List ng}:∀{l:List ng},nM l=o::r->¬o.ps=[]
 | [],h=>by cases h
 | x::l,h=>by
  by_cases c:x.ps=[]
  ·rw[wI c] at h;exact tZ h
  ·rw[qg c] at h;injection h with h1 h2;subst h1;exact c
def z7 {c:Cn} {g:lA} {o:ng} {r:List ng} (u:nM c.ops=o::r) (B:c.broken=false) (E:¬o.d % 4=3) (h:(kg c g).length<(jZ o).length):lX c g=({c with ops:=o::r,seen:=kg c g++[W0]},⟨5,((jZ o).map kM).getD (kg c g).length 0,W0,W0⟩,false):=by
 unfold lX;rw[u];dsimp only;rw[if_neg (by rw[B]; decide),if_neg E];exact if_pos (show(kg c g).length<_ from h)
def sD {c c2:Cn} {a:Ac} {g:lA} {o:ng} {r:List ng} (B:nM c.ops=o::r) (E:c.broken=false) (F:¬o.d % 4=3) (h:¬(kg c g).length<(jZ o).length) (u:pB {c with ops:=o::r} o (jZ o) (kg c g)=(some c2,a)):lX c g=(c2,a,false):=by
 unfold lX;rw[B];dsimp only;rw[if_neg (by rw[E]; decide),if_neg F];refine(if_neg (show ¬(kg c g).length<_ from h)).trans ?_;unfold kg at u;rw[u]
def Cu {c:Cn} {g:lA} (h:nM c.ops=[]):lX c g=({c with ops:=[]},o8,true):=by
 unfold lX;rw[h]
def nz (l:List ng):Nat:=(l.filter λo=>!o.ps.isEmpty).length
def MI.start {first:List Int} {i:Nat} (hi:i<=6) (B:∀z∈first,-128<=z/\z<=127):MI (xN first i) 0 0 0/\(∀j,Ww (xN first i j))/\∀j,(xN first i j).ref=0:=by
 have E:∀k,C5 (first.getD k 0):=λk=>by
  rw[aI];cases h:first[k]? with
  | none=>exact⟨by decide,by decide⟩
  | some z=>
   have:=B z (aG h);exact⟨by show -9223372036854775808<=z; omega,by show z<=9223372036854775807; omega⟩
 have u:(0:Int)<=0/\(0:Int)<4294967296:=⟨by decide,by decide⟩;have key:∀j,Ww (xN first i j)/\(xN first i j).ref=0/\(xN first i j).j8=0:=λj=>by
  unfold xN;split
  ·exact⟨⟨E _,u,u⟩,rfl,rfl⟩
  ·unfold UT;split
   ·exact⟨⟨⟨by decide,by decide⟩,u,u⟩,rfl,rfl⟩
   ·unfold S5;split
    ·exact⟨⟨⟨by decide,by decide⟩,u,u⟩,rfl,rfl⟩
    ·split
     ·exact⟨⟨⟨by decide,by decide⟩,u,u⟩,rfl,rfl⟩
     ·exact⟨⟨⟨by decide,by decide⟩,u,u⟩,rfl,rfl⟩
 refine⟨⟨.inl ⟨rfl,?_⟩,?_,⟨2,?_⟩,⟨λj _ _=>(key j).2.1,λj _ _=>by rw[(key j).2.2]; exact bA 0,λj=>(key j).1⟩,⟨by decide,by decide⟩,⟨by decide,by decide⟩⟩,λj=>(key j).1,λj=>(key j).2.1⟩
 ·unfold xN;rw[if_neg (by omega)];rfl
 ·unfold xN;rw[if_neg (by omega)];rfl
 ·unfold xN;rw[if_neg (by omega)];rfl
structure Sh where
 W:Int->W3
 n:Int->Int
 v:Nat->Int->Int
 tv:Int->Int->Int
def Sh.quiet (s s':Sh):Prop:=(∀p,s'.W p=s.W p)/\(∀p,s'.n p=s.n p)/\(∀p j,s'.tv p j=s.tv p j)
inductive s5 (t:Nat) (s s':Sh):Ac->lA->Prop where
 | look (p:Int) (o n:W3):s.quiet s'->(∀t j,s.v t j<=s'.v t j)->(∀j,s.tv p j<=s'.v t j)->s5 t s s' ⟨5,p,o,n⟩ ⟨s.W p,true⟩
 | load (p:Int) (o n w:W3):s.quiet s'->(∀t j,s.v t j<=s'.v t j)->(s.n p - 1<=s.v t p->w=s.W p)->s5 t s s' ⟨1,p,o,n⟩ ⟨w,true⟩
 | put (op p:Int) (o w:W3):op=3\/op=4->(∀j,s'.W j=if j=p then w else s.W j)->(∀j,s'.n j=if j=p then s.n p+1 else s.n j)->(∀k j,¬k=p->s'.tv k j=s.tv k j)->
   (∀t j,s.v t j<=s'.v t j)->s.n p<=s'.v t p->(op=4->∀j,s.v t j<=s'.tv p j)->s5 t s s' ⟨op,p,o,w⟩ ⟨W0,true⟩
 | swapT (p:Int) (w:W3):(∀j,s'.W j=if j=p then w else s.W j)->(∀j,s'.n j=if j=p then s.n p+1 else s.n j)->(∀k j,¬k=p->s'.tv k j=s.tv k j)->
   (∀t j,s.v t j<=s'.v t j)->(∀j,s.tv p j<=s'.tv p j)->s5 t s s' ⟨6,p,s.W p,w⟩ ⟨s.W p,true⟩
 | RL (p:Int) (o w:W3):¬s.W p=o->s.quiet s'->(∀t j,s.v t j<=s'.v t j)->(∀j,s.tv p j<=s'.v t j)->s5 t s s' ⟨6,p,o,w⟩ ⟨s.W p,false⟩
 | lQ (op p:Int) (o n:W3):op=7\/op=8->s.quiet s'->(∀t j,s.v t j<=s'.v t j)->s5 t s s' ⟨op,p,o,n⟩ ⟨W0,true⟩
abbrev Dg:Type:=Int->Option (List Et)
abbrev Vg:Type:=Int->Int
def ke (w:Int):Prop:=(1<=w/\w<=3)\/(9<=w/\w<=12)
def kS (s:Sh) (r:Int) (e:Et):Prop:=s.W e.at'=⟨e.old.v,e.old.j8,r⟩
def Live (s:Sh) (r:Int):Prop:=∃v,(0<=v/\v<=2)/\s.W (jP (kj r))=⟨v,oN r,0⟩
def qX (s:Sh) (e:Et):Prop:=e.old.j8<(s.W e.at').j8
def ql (s:Sh) (p:Int) (l:List W3):Prop:=∀(k:Nat) (w:W3),l[k]?=some w->s.W (p+1+k)=w
def AD (f:Int->Int) (s:Sh) (p:Int) (l:List W3):Prop:=∀(k:Nat) (w:W3),l[k]?=some w->s.n (p+1+k) - 1<=f (p+1+k)
structure Td (D:Dg) (V:Vg) (N:Int) (s:Sh) (who:Int) (v q:Int):Prop where
 eq:s.W (jP who)=⟨v,q,0⟩
 vr:0<=v/\v<=3
 qr:0<=q/\q<=N
 z:q=0->v=2
 op:1<=q->v<=2->∃es,D (kJ who q)=some es/\V (kJ who q)=v/\ql s (jP who) (kh es)/\AD (s.tv (jP who)) s (jP who) (kh es)
 known:∀q',1<=q'/\q'<1000000->∀es,D (kJ who q')=some es->q'<=q/\(q'=q->v<=2)
structure SI (D:Dg) (V:Vg) (N:Int) (s:Sh):Prop where
 st:∀who,ke who->∃v q,Td D V N s who v q
 ok:∀r es,D r=some es->Good es/\∃who q,ke who/\(1<=q/\q<=N)/\r=kJ who q
 dec:∀r es,D r=some es->¬Live s r->V r=1\/V r=2
 cell:∀c,56<=c->c<62->¬(s.W c).ref=0->∃es e,D (s.W c).ref=some es/\e∈es/\e.at'=c/\kS s (s.W c).ref e
 ord:∀r es,D r=some es->V r=0->∀(i j:Nat) (a b:Et),i<j->es[i]?=some a->es[j]?=some b->kS s r b->kS s r a
 done:∀r es,D r=some es->V r=1->∀e∈es,e.wr=true->(kS s r e/\Live s r)\/qX s e
 j8:∀c,56<=c->c<62->0<=(s.W c).j8/\(s.W c).j8<=N
 nN:N<1000000
 val:∀c,56<=c->c<62->C5 (s.W c).v
structure Gs (D:Dg) (V:Vg) (s:Sh) (D':Dg) (V':Vg) (s':Sh):Prop where
 dd:∀r es,D r=some es->D' r=some es
 vv:∀r es,D r=some es->¬V r=0->V' r=V r
 j8:∀c,56<=c->c<62->(s.W c).j8<=(s'.W c).j8
 live:∀r es,D r=some es->Live s' r->Live s r
 sN:∀r es,D r=some es->Live s' r->∀(k:Nat) (w:W3),(kh es)[k]?=some w->s'.W (jP (kj r)+1+k)=s.W (jP (kj r)+1+k)/\s'.n (jP (kj r)+1+k)=s.n (jP (kj r)+1+k)
 held:∀r es,D r=some es->V' r=0->∀e∈es,(s.W e.at').ref=r->s'.W e.at'=s.W e.at'
 vw:∀t j,s.v t j<=s'.v t j
def kR {w:Int} (h:ke w):(1<=w/\w<=3/\jP w=104*w - 40)\/(9<=w/\w<=12/\jP w=384+32*(w - 9)):=by
 rcases h with h | h
 ·left;refine⟨h.1,h.2,?_⟩;unfold jP mR;rw[if_neg (by omega),if_pos h]
 ·right;refine⟨h.1,h.2,?_⟩;unfold jP lC;rw[if_pos h.1,if_pos (by omega)]
def SX {w q:Int} (h:ke w) (u:1<=q/\q<1000000):K4 w q=true:=by
 unfold K4 ke at *;exact decide_eq_true (by omega)
def zr {w q:Int} (h:ke w) (u:1<=q/\q<1000000):kJ w q / 16777216=w/\kJ w q % 16777216=q:=by
 unfold kJ ke at *;omega
def DG {w q:Int} (h:ke w) (u:1<=q/\q<1000000):kj (kJ w q)=w:=by
 unfold kj;rw[(zr h u).1,(zr h u).2,if_pos (SX h u)]
def T8 {w q:Int} (h:ke w) (u:1<=q/\q<1000000):oN (kJ w q)=q:=by
 unfold oN;rw[(zr h u).1,(zr h u).2,if_pos (SX h u)]
def AV {w q w' u:Int} (h:ke w) (E:1<=q/\q<1000000) (h':ke w') (B:1<=u/\u<1000000) (e:kJ w q=kJ w' u):w=w'/\q=u:=by
 unfold kJ ke at *;omega
def TV {w q:Int} (h:ke w) (u:1<=q/\q<1000000):16777216<kJ w q:=by
 unfold kJ ke at *;omega
section
variable {D:Dg} {V:Vg} {N:Int} {s s':Sh} {r:Int} {es:List Et} {e:Et}
structure Rf (who q:Int) (r:Int):Prop where
 wh:ke who
 qr:1<=q/\q<1000000
 eq:r=kJ who q
def SI.rf (H:SI D V N s) (h:D r=some es):∃who q,Rf who q r/\q<=N/\Good es:=by
 obtain⟨g,who,q,h1,h2,u⟩:=H.ok r es h;exact⟨who,q,⟨h1,⟨h2.1,by have:=H.nN; omega⟩,u⟩,h2.2,g⟩
def Rf.w {who q:Int} (h:Rf who q r):kj r=who:=by rw[h.eq]; exact DG h.wh h.qr
def Rf.sq {who q:Int} (h:Rf who q r):oN r=q:=by rw[h.eq]; exact T8 h.wh h.qr
def Rf.pos {who q:Int} (h:Rf who q r):16777216<r:=by rw[h.eq]; exact TV h.wh h.qr
def SI.pos (H:SI D V N s) (h:D r=some es):16777216<r:=let⟨_,_,f,_⟩:=H.rf h; f.pos
def Rf.live {who q:Int} (h:Rf who q r):Live s r↔∃v,(0<=v/\v<=2)/\s.W (jP who)=⟨v,q,0⟩:=by
 unfold Live;rw[h.w,h.sq]
def SI.live (H:SI D V N s) {who q:Int} (f:Rf who q r) (h:D r=some es) (l:Live s r):Td D V N s who (V r) q/\0<=V r/\V r<=2/\ql s (jP who) (kh es)/\AD (s.tv (jP who)) s (jP who) (kh es):=by
 obtain⟨v,hv,e⟩:=f.live.1 l;obtain⟨F,G,I⟩:=H.st who f.wh;have:=I.eq.symm.trans e;simp only[W3.mk.injEq] at this;obtain⟨rfl,rfl,_⟩:=this;obtain⟨u,h1,h2,B,E⟩:=I.op f.qr.1 hv.2;rw[<-f.eq,h] at h1;cases h1
 rw[<-f.eq] at h2;exact⟨h2▸I,h2▸hv.1,h2▸hv.2,B,E⟩
def SI.aav (H:SI D V N s) (h:D r=some es):V r=0\/V r=1\/V r=2:=by
 obtain⟨who,q,f,_,_⟩:=H.rf h;by_cases l:Live s r
 ·have:=H.live f h l;omega
 ·exact .inr (H.dec r es h l)
def SI.Jk (H:SI D V N s) (h:D r=some es) (v:V r=0):Live s r:=by
 by_cases l:Live s r
 ·exact l
 ·have:=H.dec r es h l;omega
def Good.inj (g:Good es) {a b:Et} (u:a∈es) (B:b∈es) (e:a.at'=b.at'):a=b:=by
 obtain⟨i,hi,rfl⟩:=bK.1 u;obtain⟨j,q,rfl⟩:=bK.1 B;rcases gL i j with h | h | h
 ·have:=g.Gm i j _ _ h (aB hi) (aB q);omega
 ·subst h;rfl
 ·have:=g.Gm j i _ _ h (aB q) (aB hi);omega
def SI.II (H:SI D V N s) (h:D r=some es) (he:e∈es) (q:(s.W e.at').ref=r):kS s r e:=by
 obtain⟨_,_,f,_,g⟩:=H.rf h;have F:=f.pos;obtain⟨B,e',h1,h2,E,u⟩:=H.cell e.at' (g.pl e he).1 (g.pl e he).2 (by omega);rw[q,h] at h1;cases h1
 obtain rfl:=g.inj h2 he E;rw[q] at u;exact u
def SI.mono (H:SI D V N s) {M:Int} (h:N<=M) (u:M<1000000):SI D V M s:=by
 refine⟨λwho hw=>?_,λr es B=>?_,H.dec,H.cell,H.ord,H.done,λc h1 h2=>?_,u,H.val⟩
 ·obtain⟨v,q,I⟩:=H.st who hw;exact⟨v,q,I.eq,I.vr,⟨I.qr.1,by have:=I.qr.2; omega⟩,I.z,I.op,I.known⟩
 ·obtain⟨g,w,q,h1,h2,E⟩:=H.ok r es B;exact⟨g,w,q,h1,⟨h2.1,by omega⟩,E⟩
 ·have:=H.j8 c h1 h2;omega
def SI.quiet (H:SI D V N s) (h:s.quiet s') (hv:∀t j,s.v t j<=s'.v t j):SI D V N s'/\Gs D V s D V s':=by
 obtain⟨K,M,O⟩:=h;have u:s'.W=s.W:=funext K;have en:s'.n=s.n:=funext M;have et:s'.tv=s.tv:=funext λp=>funext λj=>O p j;have F:∀r,Live s' r↔Live s r:=λr=>by unfold Live;rw[u]
 have B:∀r e,kS s' r e↔kS s r e:=λr e=>by unfold kS;rw[u]
 refine⟨⟨λwho hw=>?_,H.ok,λr es h l=>H.dec r es h (λx=>l ((F r).2 x)),?_,?_,?_,?_,H.nN,λc h1 h2=>by rw[u]; exact H.val c h1 h2⟩,⟨λ_ _ h=>h,λ_ _ _ _=>rfl,λc _ _=>by rw[u]; exact bA _,λr _ _ l=>(F r).1 l,λ_ _ _ _ k w _=>by rw[u,en]; exact⟨rfl,rfl⟩,λ_ _ _ _ e _ _=>by rw[u],hv⟩⟩
 ·obtain⟨v,q,I⟩:=H.st who hw;refine⟨v,q,⟨by rw[u]; exact I.eq,I.vr,I.qr,I.z,λa b=>?_,I.known⟩⟩;obtain⟨es,h1,h2,E,Q⟩:=I.op a b;exact⟨es,h1,h2,λk w G=>by rw[u]; exact E k w G,λk w G=>by rw[en,et]; exact Q k w G⟩
 ·intro c h1 h2 E;rw[u] at E⊢;obtain⟨es,e,a,b,d,f⟩:=H.cell c h1 h2 E;exact⟨es,e,a,b,d,(B _ _).2 f⟩
 ·intro r es h v i j a b J R T U;exact(B _ _).2 (H.ord r es h v i j a b J R T ((B _ _).1 U))
 ·intro r es h v e he hw;rcases H.done r es h v e he hw with ⟨a,b⟩| a
  ·exact .inl ⟨(B _ _).2 a,(F _).2 b⟩
  ·right;unfold qX at *;rw[u];exact a
 ·intro c h1 h2;rw[u];exact H.j8 c h1 h2
structure Wr (s s':Sh) (p:Int) (w:W3):Prop where
 W:∀j,s'.W j=if j=p then w else s.W j
 n:∀j,s'.n j=if j=p then s.n p+1 else s.n j
 tv:∀k j,¬k=p->s'.tv k j=s.tv k j
 v:∀t j,s.v t j<=s'.v t j
def Wr.ne {p:Int} {w:W3} (h:Wr s s' p w) {j:Int} (e:¬j=p):s'.W j=s.W j:=by rw[h.W,if_neg e]
def Wr.self {p:Int} {w:W3} (h:Wr s s' p w):s'.W p=w:=by rw[h.W,if_pos rfl]
def Wr.PY {p:Int} {w:W3} (h:Wr s s' p w) {j:Int} (e:¬j=p):s'.n j=s.n j:=by rw[h.n,if_neg e]
section
variable {c:Int} {w:W3}
def Wr.live (h:Wr s s' c w) (u:56<=c/\c<62) {who q:Int} (f:Rf who q r):Live s' r↔Live s r:=by
 rw[f.live,f.live,h.ne (by have:=kR f.wh; omega)]
def Td.cell (h:Wr s s' c w) (F:56<=c/\c<62) {who v q:Int} (hw:ke who) (I:Td D V N s who v q):Td D V N s' who v q:=by
 have G:=kR hw;refine⟨by rw[h.ne (by omega)]; exact I.eq,I.vr,I.qr,I.z,λa b=>?_,I.known⟩;obtain⟨es,h1,h2,B,E⟩:=I.op a b;exact⟨es,h1,h2,λk x u=>by rw[h.ne (by omega)]; exact B k x u,λk x u=>by rw[h.PY (by omega),h.tv _ _ (by omega)]; exact E k x u⟩
def Wr.sN (h:Wr s s' c w) (u:56<=c/\c<62) (H:SI D V N s) (hD:D r=some es):∀(k:Nat) (x:W3),(kh es)[k]?=some x->s'.W (jP (kj r)+1+k)=s.W (jP (kj r)+1+k)/\s'.n (jP (kj r)+1+k)=s.n (jP (kj r)+1+k):=λk x _=>by
 obtain⟨who,q,f,_⟩:=H.rf hD;rw[f.w];have:=kR f.wh;exact⟨h.ne (by omega),h.PY (by omega)⟩
def SI.SQ (H:SI D V N s) (h:Wr s s' c w) (hc:56<=c/\c<62) (hN:N+1<1000000)
  (K:(s.W c).j8<=w.j8/\w.j8<=N+1) (O:C5 w.v)
  (F:¬w.ref=0->∃es e,D w.ref=some es/\e∈es/\e.at'=c/\w=⟨e.old.v,e.old.j8,w.ref⟩)
  (Q:∀r es,D r=some es->V r=0->w.ref=r->∀(i j:Nat) (a b:Et),i<j->es[i]?=some a->es[j]?=some b->b.at'=c->kS s r a)
  (B:∀r es,D r=some es->V r=0->∀e∈es,e.at'=c->¬(s.W c).ref=r)
  (G:∀r es,D r=some es->V r=1->∀e∈es,e.wr=true->e.at'=c->kS s r e->Live s r->e.old.j8<w.j8) :
  SI D V (N+1) s'/\Gs D V s D V s':=by
 have hl:∀{r es},D r=some es->(Live s' r↔Live s r):=λhD=>let⟨_,_,f,_⟩:=H.rf hD;h.live hc f;refine⟨⟨λwho hw=>?_,λr es hD=>?_,λr es hD l=>H.dec r es hD λx=>l ((hl hD).2 x),λc' h1 h2 X=>?_,λr es hD hv i j a b R ha hb Z=>?_,λr es hD hv e he hw=>?_,λc' h1 h2=>?_,hN,λc' h1 h2=>by
  by_cases u:c'=c
  ·subst u;rw[h.self];exact O
  ·rw[h.ne u];exact H.val c' h1 h2⟩,⟨λ_ _ h=>h,λ_ _ _ _=>rfl,λc' h1 h2=>?_,λr es hD l=>(hl hD).1 l,λr es hD _=>h.sN hc H hD,λr es hD hv e he hr=>?_,h.v⟩⟩
 ·obtain⟨v,q,I⟩:=(H.mono (M:=N+1) (by omega) hN).st who hw;exact⟨v,q,I.cell h hc hw⟩
 ·exact(H.mono (M:=N+1) (by omega) hN).ok r es hD
 ·by_cases u:c'=c
  ·subst u;rw[h.self] at X⊢;obtain⟨es,e,E,J,T,a4⟩:=F X;refine⟨es,e,E,J,T,?_⟩;unfold kS;rw[T,h.self];exact a4
  ·rw[h.ne u] at X⊢;obtain⟨es,e,E,J,T,a4⟩:=H.cell c' h1 h2 X;refine⟨es,e,E,J,T,?_⟩;unfold kS at *;rw[T] at a4⊢;rw[h.ne u];exact a4
 ·obtain⟨_,_,f,_,g⟩:=H.rf hD;have hp:=f.pos;have lQ:∀x∈es,kS s r x->kS s' r x:=λx hx hX=>by
   unfold kS at *;rw[h.ne];exact hX;intro u;exact B r es hD hv x hx u (by rw[<-u,hX])
  have U:=aG ha;by_cases u:b.at'=c
  ·have e2:w.ref=r:=by
    unfold kS at Z;rw[u,h.self] at Z;rw[Z]
   exact lQ a U (Q r es hD hv e2 i j a b R ha hb u)
  ·have aS:kS s r b:=by unfold kS at *;rwa [h.ne u] at Z
   exact lQ a U (H.ord r es hD hv i j a b R ha hb aS)
 ·rcases H.done r es hD hv e he hw with ⟨E,J⟩| E
  ·by_cases u:e.at'=c
   ·right;unfold qX;rw[u,h.self];exact G r es hD hv e he hw u E J
   ·left;exact⟨by unfold kS at *; rw[h.ne u]; exact E,(hl hD).2 J⟩
  ·right;unfold qX at *;by_cases u:e.at'=c
   ·rw[u,h.self];rw[u] at E;omega
   ·rw[h.ne u];exact E
 ·by_cases u:c'=c
  ·subst u;rw[h.self];have:=H.j8 c' h1 h2;omega
  ·rw[h.ne u];have:=H.j8 c' h1 h2;omega
 ·by_cases u:c'=c
  ·subst u;rw[h.self];exact K.1
  ·rw[h.ne u];exact bA _
 ·rw[h.ne];intro u;exact B r es hD hv e he u (by rw[<-u]; exact hr)
def SI.zh (H:SI D V N s) (T:N+1<1000000) (hD:D r=some es) {i:Nat} (he:es[i]?=some e) (h:Wr s s' e.at' ⟨e.old.v,e.old.j8,r⟩) (hw:s.W e.at'=e.old)
  (U:V r=0->∀j a,j<i->es[j]?=some a->kS s r a):SI D V (N+1) s'/\Gs D V s D V s':=by
 obtain⟨_,_,f,_,g⟩:=H.rf hD;have hm:=aG he;have O:=f.pos;have Q:(s.W e.at').ref=0:=by rw[hw];exact g.ref e hm
 refine H.SQ h (g.pl e hm) T ⟨by rw[hw]; exact bA _,?_⟩ (g.val e hm).1 (λ_=>⟨es,e,hD,hm,rfl,rfl⟩) (λF u q hv R X j a b G Z E J=>?_) (λF u q hv e' K B R=>?_) λF u q hv e' K aS B M _=>?_
 ·have:=H.j8 e.at' (g.pl e hm).1 (g.pl e hm).2;rw[hw] at this;show e.old.j8<=N+1;omega
 ·obtain rfl:r=F:=R;rw[hD] at q;cases q
  obtain rfl:=g.inj (aG E) hm J;have:j=i:=by
   obtain⟨hj,e1⟩:=aC.1 E;obtain⟨hi,e2⟩:=aC.1 he;rcases gL j i with x | x | x
   ·have:=g.Gm j i _ _ x E he;omega
   ·exact x
   ·have:=g.Gm i j _ _ x he E;omega
  subst this;exact U hv X a G Z
 ·have:=H.pos q;omega
 ·have:=H.pos q;unfold kS at M;rw[B] at M;rw[M] at Q;dsimp only at Q;omega
def SI.free (H:SI D V N s) (R:N+1<1000000) (hD:D r=some es) (he:e∈es) {w:W3} (h:Wr s s' e.at' w) (hw:kS s r e) (T:¬V r=0)
  (J:(w=⟨e.old.v,e.old.j8,0⟩/\(V r=1->e.wr=true->¬Live s r))\/(w=⟨e.new,e.old.j8+1,0⟩)):SI D V (N+1) s'/\Gs D V s D V s':=by
 obtain⟨_,_,f,_,g⟩:=H.rf hD;have B:=H.j8 e.at' (g.pl e he).1 (g.pl e he).2;have u:s.W e.at'=⟨e.old.v,e.old.j8,r⟩:=hw;rw[u] at B;dsimp only at B;have w0:w.ref=0:=by rcases J with ⟨rfl,_⟩| rfl <;> rfl
 refine H.SQ h (g.pl e he) R ?_ (by rcases J with ⟨rfl,_⟩| rfl; exact(g.val e he).1; exact(g.val e he).2) (λx=>absurd w0 x) (λM F q hv O=>?_) (λM F q hv e' G E O=>?_) λM F q hv e' G Q E K U=>?_
 ·rw[u];rcases J with ⟨rfl,_⟩| rfl <;> (dsimp only; omega)
 ·have:=H.pos q;omega
 ·rw[u] at O;exact T (by rw[show r=M from O]; exact hv)
 ·unfold kS at K;rw[E,u] at K;simp only[W3.mk.injEq] at K;obtain⟨_,h2,rfl⟩:=K;rw[hD] at q;cases q
  obtain rfl:=g.inj he G E.symm;rcases J with ⟨rfl,x⟩| rfl
  ·exact absurd U (x hv Q)
  ·dsimp only;omega
def SI.Xu (H:SI D V N s) (Q:N+1<1000000) {v:Int} (u:C5 v) (G:56<=c/\c<62) (h:Wr s s' c ⟨v,(s.W c).j8+1,0⟩) (F:(s.W c).ref=0):SI D V (N+1) s'/\Gs D V s D V s':=by
 have M:=H.j8 c G.1 G.2;refine H.SQ h G Q ⟨by dsimp only; omega,by dsimp only; omega⟩ u (λx=>absurd rfl x) (λO B q hv F=>?_) (λO B q hv e' J E R=>?_) λO B q hv e' J T E K U=>?_
 ·have:=H.pos q;dsimp only at F;omega
 ·have:=H.pos q;omega
 ·unfold kS at K;rw[E] at K;rw[K] at F;have:=H.pos q;dsimp only at F;omega
end
end
section
variable {D D':Dg} {V V':Vg} {N:Int} {s s':Sh} {r:Int} {es:List Et} {e:Et} {p:Int} {w:W3}
def SI.out (H:SI D V N s) {E:Int} (hN:N<=E) (O:E<1000000) (u:∀c,56<=c->c<62->s'.W c=s.W c) (hv:∀t j,s.v t j<=s'.v t j)
  (dd:∀r es,D r=some es->D' r=some es) (vv:∀r es,D r=some es->¬V r=0->V' r=V r)
  (Q:∀who,ke who->∃v q,Td D' V' E s' who v q)
  (h:∀r es,D' r=some es->Good es/\∃who q,ke who/\(1<=q/\q<=E)/\r=kJ who q)
  (F:∀r es,D' r=some es->¬Live s' r->V' r=1\/V' r=2)
  (G:∀r es,D' r=some es->V' r=0->(D r=some es/\V r=0)\/∀c,56<=c->c<62->¬(s.W c).ref=r)
  (B:∀r es,D' r=some es->V' r=1->∀e∈es,e.wr=true->(kS s r e/\Live s' r)\/qX s e)
  (hl:∀r es,D r=some es->Live s' r->Live s r)
  (hf:∀r es,D r=some es->Live s' r->∀(k:Nat) (w:W3),(kh es)[k]?=some w->s'.W (jP (kj r)+1+k)=s.W (jP (kj r)+1+k)/\s'.n (jP (kj r)+1+k)=s.n (jP (kj r)+1+k)) :
  SI D' V' E s'/\Gs D V s D' V' s':=by
 have J:∀{r es e},D' r=some es->e∈es->(kS s' r e↔kS s r e):=λ{r es e} hD he=>by
  have g:=(h r es hD).1.pl e he;unfold kS;rw[u _ g.1 g.2]
 refine⟨⟨Q,h,F,λc h1 h2 T=>?_,λr es hD hv i j a b R U M X=>?_,λr es hD hv e he hw=>?_,λc h1 h2=>?_,O,λc h1 h2=>by rw[u c h1 h2]; exact H.val c h1 h2⟩,⟨dd,vv,λc h1 h2=>by rw[u c h1 h2]; exact bA _,hl,hf,λr es hD hv e he hr=>?_,hv⟩⟩
 ·rw[u c h1 h2] at T⊢;obtain⟨es,e,Z,a2,a3,a4⟩:=H.cell c h1 h2 T;exact⟨es,e,dd _ _ Z,a2,a3,(J (dd _ _ Z) a2).2 a4⟩
 ·rcases G r es hD hv with ⟨x,y⟩| x
  ·exact(J hD (aG U)).2 (H.ord r es x y i j a b R U M ((J hD (aG M)).1 X))
  ·have K:=(J hD (aG M)).1 X;have g:=(h r es hD).1.pl b (aG M);unfold kS at K;exact absurd (by rw[K]) (x b.at' g.1 g.2)
 ·rcases B r es hD hv e he hw with ⟨x,y⟩| x
  ·exact .inl ⟨(J hD he).2 x,y⟩
  ·right;have g:=(h r es hD).1.pl e he;unfold qX at *;rw[u _ g.1 g.2];exact x
 ·rw[u c h1 h2];have:=H.j8 c h1 h2;omega
 ·have g:=(H.ok r es hD).1.pl e he;exact u _ g.1 g.2
def kW {a b:Int} (q:ke a) (u:ke b) (h:¬a=b):jP a+32<=jP b\/jP b+32<=jP a:=by
 have:=kR q;have:=kR u;omega
def Td.other (H:SI D V N s) (h:Wr s s' p w) {who a v q:Int} (K:ke a) (hw:ke who) (G:¬who=a) (R:jP a<=p/\p<jP a+32) (I:Td D V N s who v q)
  (E:∀u,1<=u/\u<1000000->(D' (kJ who u)=D (kJ who u)/\V' (kJ who u)=V (kJ who u))) {J:Int} (T:N<=J):Td D' V' J s' who v q:=by
 have M:=kW hw K G;have:=kR hw;have U:=I.qr;have X:=H.nN;refine⟨by rw[h.ne (by omega)]; exact I.eq,I.vr,⟨I.qr.1,by omega⟩,I.z,λa b=>?_,λu h1 es h2=>?_⟩
 ·obtain⟨es,h1,h2,O,Q⟩:=I.op a b;have Z:=kO es;have g:=(H.ok _ _ h1).1.len;have F:∀(k:Nat) (x:W3),(kh es)[k]?=some x->k<19:=λk x B=>by have:=(aC.1 B).1;omega
  have e:=E q ⟨a,by omega⟩;refine⟨es,e.1.trans h1,e.2.trans h2,?_,?_⟩
  ·intro k x B;have:=F k x B;rw[h.ne (by omega)];exact O k x B
  ·intro k x B;have:=F k x B;rw[h.PY (by omega),h.tv _ _ (by omega)];exact Q k x B
 ·have e:=E u h1;exact I.known u h1 es (e.1▸h2)
def Wr.Nk (h:Wr s s' p w) {who q a:Int} (f:Rf who q r) (B:ke a) (u:¬who=a) (F:jP a<=p/\p<jP a+32):Live s' r↔Live s r:=by
 have E:=kW f.wh B u;rw[f.live,f.live,h.ne (by omega)]
def Wr.Wz (h:Wr s s' p w) {who q a:Int} (f:Rf who q r) (B:ke a) (u:¬who=a) (G:jP a<=p/\p<jP a+32) (g:Good es) (k:Nat) (x:W3) (E:(kh es)[k]?=some x) :
  s'.W (jP (kj r)+1+k)=s.W (jP (kj r)+1+k)/\s'.n (jP (kj r)+1+k)=s.n (jP (kj r)+1+k):=by
 have F:=kW f.wh B u;have H:=kO es;have g:=g.len;have:=(aC.1 E).1;rw[f.w];exact⟨h.ne (by omega),h.PY (by omega)⟩
def La (V:Vg) (r z:Int):Vg:=λx=>if x=r then z else V x
def TC (D:Dg) (r:Int) (es:List Et):Dg:=λx=>if x=r then some es else D x
def SI.decide (H:SI D V N s) (hN:N+1<1000000) {who q z:Int} (f:Rf who q r) (hD:D r=some es) (hs:s.W (jP who)=⟨0,q,0⟩) (hz:z=1\/z=2) (h:Wr s s' (jP who) ⟨z,q,0⟩) (ht:∀j,s.tv (jP who) j<=s'.tv (jP who) j)
  (R:z=1->∀e∈es,kS s r e):SI D (La V r z) (N+1) s'/\Gs D V s D (La V r z) s':=by
 have eQ:=kR f.wh;have lr:Live s r:=f.live.2 ⟨0,by omega,hs⟩;have aS:Live s' r:=f.live.2 ⟨z,by omega,h.self⟩;obtain⟨I,_,_,_,_⟩:=H.live f hD lr;have T:V r=0:=by
  have:=I.eq.symm.trans hs;simp only[W3.mk.injEq] at this;exact this.1
 rw[T] at I;have U:∀F,¬F=r->La V r z F=V F:=λF e=>if_neg e;have O:La V r z r=z:=if_pos rfl;have X:∀u,ke u->¬u=who->∀K,1<=K/\K<1000000->¬kJ u K=r:=λu J aT K bY e=>by
  rw[f.eq] at e;exact aT (AV J bY f.wh f.qr e).1
 have G:∀{F E},D F=some E->(Live s' F↔Live s F):=λ{F E} B=>by
  obtain⟨u,K,Q,_,_⟩:=H.rf B;by_cases e:u=who
  ·subst e;rw[Q.live,Q.live,h.self,hs];simp only[W3.mk.injEq,and_true];constructor <;> rintro⟨v,hv,_,rfl⟩
   ·exact⟨0,by omega,rfl,rfl⟩
   ·exact⟨z,by omega,rfl,rfl⟩
  ·exact h.Nk Q f.wh e (by omega)
 refine H.out (by omega) hN (λc h1 h2=>h.ne (by omega)) h.v (λ_ _ x=>x) (λF E B hv=>U F λe=>hv (e▸T)) (λu J=>?_) (λF E B=>?_) (λF E B hl=>?_) (λF E B hv=>?_) (λF E B hv e he hw=>?_) (λF E B=>(G B).1) λF E B hl k x Z=>?_
 ·by_cases e:u=who
  ·subst e;refine⟨z,q,h.self,by omega,by have:=I.qr; omega,λx=>by have:=f.qr; omega,λa b=>?_,λK h1 es h2=>⟨(I.known K h1 es h2).1,λ_=>by omega⟩⟩;obtain⟨E,h1,h2,h3,h4⟩:=I.op a (by omega);have hl:=kO E;have g:=(H.ok _ _ h1).1.len;refine⟨E,h1,by rw[<-f.eq]; exact O,λk x Z=>?_,λk x Z=>?_⟩
   ·rw[h.ne (by omega)];exact h3 k x Z
   ·rw[h.PY (by omega)];have:=h4 k x Z;have:=ht (jP u+1+k);omega
  ·obtain⟨v',K,I'⟩:=H.st u J;exact⟨v',K,I'.other H h f.wh J e (by omega) (λdO hq=>⟨rfl,U _ (X u J e dO hq)⟩) (by omega)⟩
 ·exact(H.mono (M:=N+1) (by omega) hN).ok F E B
 ·have:=H.dec F E B λx=>hl ((G B).2 x);rw[U];exact this;intro e;subst e;omega
 ·by_cases e:F=r
  ·subst e;rw[O] at hv;omega
  ·rw[U F e] at hv;exact .inl ⟨B,hv⟩
 ·by_cases e1:F=r
  ·subst e1;rw[hD] at B;cases B
   rw[O] at hv;exact .inl ⟨R hv e he,aS⟩
  ·rw[U F e1] at hv;rcases H.done F E B hv e he hw with ⟨x,y⟩| x
   ·exact .inl ⟨x,(G B).2 y⟩
   ·exact .inr x
 ·obtain⟨u,K,Q,_,g⟩:=H.rf B;rw[Q.w];have hl:=kO E;have g:=g.len;have:=(aC.1 Z).1;have iF:=kR Q.wh;by_cases e:u=who
  ·subst e;exact⟨h.ne (by omega),h.PY (by omega)⟩
  ·have:=kW Q.wh f.wh e;exact⟨h.ne (by omega),h.PY (by omega)⟩
def po (D:Dg) (V:Vg) (s:Sh) (who:Int):Prop:=∀q es,1<=q/\q<1000000->D (kJ who q)=some es->¬V (kJ who q)=0/\(V (kJ who q)=1->∀e∈es,e.wr=true->qX s e)
def SI.TH (H:SI D V N s) (T:N+1<1000000) {who v q K:Int} (hw:ke who) (hs:s.W (jP who)=⟨v,q,0⟩) (Z:q<K/\K<=N+1) (h:Wr s s' (jP who) ⟨3,K,0⟩) (hr:po D V s who) :
  SI D V (N+1) s'/\Gs D V s D V s':=by
 have aS:=kR hw;have aT:0<=q:=by
  obtain⟨U,K,I⟩:=H.st who hw;have:=I.eq.symm.trans hs;simp only[W3.mk.injEq] at this;have:=I.qr;omega
 have G:∀{E B},D E=some B->(Live s' E↔Live s E/\¬kj E=who):=λ{E B} u=>by
  obtain⟨F,K,J,_,_⟩:=H.rf u;rw[J.w];by_cases e:F=who
  ·subst e;rw[J.live,h.self];simp only[W3.mk.injEq,and_true,not_true,and_false,iff_false];rintro⟨v,hv,rfl,_⟩;omega
  ·rw[h.Nk J hw e (by omega)];exact⟨λx=>⟨x,e⟩,λx=>x.1⟩
 have rd:∀{E B},D E=some B->kj E=who->¬V E=0/\(V E=1->∀e∈B,e.wr=true->qX s e):=λ{E B} u e=>by
  obtain⟨F,K,J,_,_⟩:=H.rf u;rw[J.w] at e;subst e;have:=hr K B J.qr (by rw[<-J.eq]; exact u);rwa [<-J.eq] at this
 refine H.out (by omega) T (λc h1 h2=>h.ne (by omega)) h.v (λ_ _ x=>x) (λE B u hv=>rfl) (λF O=>?_) (λE B u=>?_) (λE B u R=>?_) (λE B u hv=>.inl ⟨u,hv⟩) (λE B u hv e he Q=>?_) (λE B u l=>((G u).1 l).1) λE B u R k x hx=>?_
 ·by_cases e:F=who
  ·subst e;refine⟨3,K,h.self,by omega,by omega,λx=>by omega,λa b=>by omega,λq2 h1 es h2=>?_⟩;obtain⟨v0,q0,I⟩:=H.st F O;have:=I.eq.symm.trans hs;simp only[W3.mk.injEq] at this;have:=I.known q2 h1 es h2;exact⟨by omega,λ_=>by omega⟩
  ·obtain⟨U,q2,I'⟩:=H.st F O;exact⟨U,q2,I'.other H h hw O e (by omega) (λbY Z=>⟨rfl,rfl⟩) (by omega)⟩
 ·exact(H.mono (M:=N+1) (by omega) T).ok E B u
 ·by_cases e:kj E=who
  ·have:=rd u e;have:=H.aav u;omega
  ·exact H.dec E B u λx=>R ((G u).2 ⟨x,e⟩)
 ·by_cases X:kj E=who
  ·exact .inr ((rd u X).2 hv e he Q)
  ·rcases H.done E B u hv e he Q with ⟨x,y⟩| x
   ·exact .inl ⟨x,(G u).2 ⟨y,X⟩⟩
   ·exact .inr x
 ·obtain⟨F,K,J,_,g⟩:=H.rf u;have:=((G u).1 R).2;rw[J.w] at this;exact h.Wz J hw this (by omega) g k x hx
def SI.field (H:SI D V N s) (R:N+1<1000000) {who q:Int} (hw:ke who) (hs:s.W (jP who)=⟨3,q,0⟩) (hp:jP who<p/\p<jP who+32) (h:Wr s s' p w):SI D V (N+1) s'/\Gs D V s D V s':=by
 have T:=kR hw;have F:∀{G B},D G=some B->(Live s' G↔Live s G):=λ{G B} u=>by
  obtain⟨E,U,K,_,_⟩:=H.rf u;by_cases e:E=who
  ·subst e;rw[K.live,K.live,h.ne (by omega)]
  ·exact h.Nk K hw e (by omega)
 refine H.out (by omega) R (λc h1 h2=>h.ne (by omega)) h.v (λ_ _ x=>x) (λG B u hv=>rfl) (λE J=>?_) (λG B u=>?_) (λG B u O=>?_) (λG B u hv=>.inl ⟨u,hv⟩) (λG B u hv e he Q=>?_) (λG B u l=>(F u).1 l) λG B u O k x X=>?_
 ·by_cases e:E=who
  ·subst e;obtain⟨v0,Z,I⟩:=H.st E J;have:=I.eq.symm.trans hs;simp only[W3.mk.injEq,and_true] at this;obtain⟨e3,rfl⟩:=this;have:=I.qr;exact⟨3,Z,by rw[h.ne (by omega),hs],by omega,by omega,λx=>by have:=I.z (by omega); omega,λa b=>by omega,λq2 h1 es h2=>by have:=I.known q2 h1 es h2; omega⟩
  ·obtain⟨v',q2,I'⟩:=H.st E J;exact⟨v',q2,I'.other H h hw J e (by omega) (λaS hq=>⟨rfl,rfl⟩) (by omega)⟩
 ·exact(H.mono (M:=N+1) (by omega) R).ok G B u
 ·exact H.dec G B u λx=>O ((F u).2 x)
 ·rcases H.done G B u hv e he Q with ⟨x,y⟩| x
  ·exact .inl ⟨x,(F u).2 y⟩
  ·exact .inr x
 ·obtain⟨E,U,K,_,g⟩:=H.rf u;by_cases e:E=who
  ·subst e;obtain⟨v,hv,x⟩:=K.live.1 ((F u).1 O);rw[hs] at x;simp only[W3.mk.injEq] at x;omega
  ·exact h.Wz K hw e (by omega) g k x X
def SI.opened (H:SI D V N s) (hN:N+1<1000000) {who q:Int} (f:Rf who q r) (hs:s.W (jP who)=⟨3,q,0⟩) (g:Good es) (dO:ql s (jP who) (kh es)) {t:Nat} (eQ:AD (s.v t) s (jP who) (kh es))
  (h:Wr s s' (jP who) ⟨0,q,0⟩) (ht:∀j,s.v t j<=s'.tv (jP who) j):D r=none/\SI (TC D r es) (La V r 0) (N+1) s'/\Gs D V s (TC D r es) (La V r 0) s':=by
 have rW:=kR f.wh;have hlen:=kO es;have oR:=g.len;obtain⟨v0,q0,I⟩:=H.st who f.wh;have e0:=I.eq.symm.trans hs;simp only[W3.mk.injEq,and_true] at e0;obtain⟨rfl,rfl⟩:=e0;have hq:=I.qr;have J:D r=none:=by
  cases O:D r with
  | none=>rfl
  | some E=>
   rw[f.eq] at O;have:=I.known q0 f.qr E O;omega
 have X:∀F,¬F=r->La V r 0 F=V F:=λF e=>if_neg e;have Z:La V r 0 r=0:=if_pos rfl;have T:∀F,¬F=r->TC D r es F=D F:=λF e=>if_neg e;have aS:TC D r es r=some es:=if_pos rfl;have nr:∀{F E},D F=some E->¬F=r:=λu e=>by rw[e,J] at u;cases u
 have iF:Live s' r:=f.live.2 ⟨0,by omega,h.self⟩;have Q:∀B,ke B->¬B=who->∀U,1<=U/\U<1000000->¬kJ B U=r:=λB K iN U iS e=>by
  rw[f.eq] at e;exact iN (AV K iS f.wh f.qr e).1
 have G:∀{F E},D F=some E->(Live s' F↔Live s F):=λ{F E} u=>by
  obtain⟨B,U,R,_,_⟩:=H.rf u;by_cases e:B=who
  ·subst e;rw[R.live,R.live,h.self,hs];simp only[W3.mk.injEq,and_true];constructor <;> rintro⟨v,hv,_,rfl⟩
   ·exact absurd (R.eq.trans f.eq.symm) (nr u)
   ·exact absurd (R.eq.trans f.eq.symm) (nr u)
  ·exact h.Nk R f.wh e (by omega)
 refine⟨J,H.out (by omega) hN (λc h1 h2=>h.ne (by omega)) h.v (λ_ _ x=>by rw[T _ (nr x)]; exact x) (λF E u hv=>X F (nr u)) (λB K=>?_) (λF E u=>?_) (λF E u hl=>?_) (λF E u hv=>?_) (λF E u hv e he oF=>?_) (λF E u l=>(G u).1 l) λF E u hl k x O=>?_⟩
 ·by_cases e:B=who
  ·subst e;refine⟨0,q0,h.self,by omega,by omega,λx=>by have:=f.qr; omega,λa b=>⟨es,by rw[<-f.eq]; exact aS,by rw[<-f.eq]; exact Z,λk x O=>?_,λk x O=>?_⟩,λq2 h1 aT h2=>?_⟩
   ·rw[h.ne (by omega)];exact dO k x O
   ·rw[h.PY (by omega)];have:=eQ k x O;have:=ht (jP B+1+k);omega
   ·by_cases e2:kJ B q2=r
    ·rw[f.eq] at e2;have:=(AV f.wh h1 f.wh f.qr e2).2;omega
    ·rw[T _ e2] at h2;have:=I.known q2 h1 aT h2;omega
  ·obtain⟨v',q2,I'⟩:=H.st B K;exact⟨v',q2,I'.other H h f.wh K e (by omega) (λbY hq=>⟨T _ (Q B K e bY hq),X _ (Q B K e bY hq)⟩) (by omega)⟩
 ·by_cases e:F=r
  ·subst e;rw[aS] at u;cases u
   exact⟨g,who,q0,f.wh,by have:=f.qr; omega,f.eq⟩
  ·rw[T _ e] at u;exact(H.mono (M:=N+1) (by omega) hN).ok F E u
 ·by_cases e:F=r
  ·subst e;exact absurd iF hl
  ·rw[T _ e] at u;rw[X _ e];exact H.dec F E u λx=>hl ((G u).2 x)
 ·by_cases e:F=r
  ·subst e;right;intro c h1 h2 h3;have hp:=f.pos;obtain⟨aT,e2,a1,_⟩:=H.cell c h1 h2 (by omega);rw[h3,J] at a1;cases a1
  ·rw[T _ e] at u;rw[X _ e] at hv;exact .inl ⟨u,hv⟩
 ·by_cases e1:F=r
  ·subst e1;rw[Z] at hv;omega
  ·rw[T _ e1] at u;rw[X _ e1] at hv;rcases H.done F E u hv e he oF with ⟨x,y⟩| x
   ·exact .inl ⟨x,(G u).2 y⟩
   ·exact .inr x
 ·obtain⟨B,U,R,_,g'⟩:=H.rf u;by_cases e:B=who
  ·subst e;obtain⟨v,hv,x⟩:=R.live.1 ((G u).1 hl);rw[hs] at x;simp only[W3.mk.injEq] at x;omega
  ·exact h.Wz R f.wh e (by omega) g' k x O
def SI.bits (H:SI D V N s) (T:N+1<1000000) (h:Wr s s' 376 w):SI D V (N+1) s'/\Gs D V s D V s':=by
 have hw:ke 3:=by unfold ke;omega
 have E:∀{F B},D F=some B->(Live s' F↔Live s F):=λ{F B} u=>by
  obtain⟨G,U,K,_,_⟩:=H.rf u;have:=kR K.wh;rw[K.live,K.live,h.ne (by omega)]
 refine H.out (by omega) T (λc h1 h2=>h.ne (by omega)) h.v (λ_ _ x=>x) (λF B u hv=>rfl) (λG O=>?_) (λF B u=>?_) (λF B u Q=>?_) (λF B u hv=>.inl ⟨u,hv⟩) (λF B u hv e he R=>?_) (λF B u l=>(E u).1 l) λF B u Q k x J=>?_
 ·obtain⟨v,q,I⟩:=H.st G O;have:=kR O;have hq:=I.qr;refine⟨v,q,by rw[h.ne (by omega)]; exact I.eq,I.vr,⟨I.qr.1,by omega⟩,I.z,λa b=>?_,I.known⟩;obtain⟨es,h1,h2,X,Z⟩:=I.op a b;have Q:=kO es;have g:=(H.ok _ _ h1).1.len;refine⟨es,h1,h2,λk x J=>?_,λk x J=>?_⟩
  ·have:=(aC.1 J).1;rw[h.ne (by omega)];exact X k x J
  ·have:=(aC.1 J).1;rw[h.PY (by omega),h.tv _ _ (by omega)];exact Z k x J
 ·exact(H.mono (M:=N+1) (by omega) T).ok F B u
 ·exact H.dec F B u λx=>Q ((E u).2 x)
 ·rcases H.done F B u hv e he R with ⟨x,y⟩| x
  ·exact .inl ⟨x,(E u).2 y⟩
  ·exact .inr x
 ·obtain⟨G,U,K,_,g⟩:=H.rf u;have:=kR K.wh;have Q:=kO B;have g:=g.len;have:=(aC.1 J).1;rw[K.w];exact⟨h.ne (by omega),h.PY (by omega)⟩
end
def qu (es:List Et) (c:Int):Option Et:=es.find? λe=>decide (e.at'=c)
def Z2 (V:Vg) (x:W3) (e:Et):W3:=if V x.ref=1/\e.wr=true then⟨e.new,e.old.j8+1,0⟩ else⟨x.v,x.j8,0⟩
def rX (D:Dg) (V:Vg) (s:Sh) (c:Int):W3:=
 match (D (s.W c).ref).bind λes=>qu es c with
 | some e=>Z2 V (s.W c) e
 | none=>⟨(s.W c).v,(s.W c).j8,0⟩
def Dec (s s':Sh) (who:Int):Prop:=∃q,s.W (jP who)=⟨0,q,0⟩/\s'.W (jP who)=⟨1,q,0⟩
def Hg (s s':Sh):Prop:=∀who,ke who->¬Dec s s' who
def tw (es:List Et) (f:Int->W3) (c:Int):W3:=
 match qu es c with
 | some e=>if e.wr=true then⟨e.new,e.old.j8+1,0⟩ else f c
 | none=>f c
inductive Lg (o:Prop) (D:Dg) (V:Vg) (s:Sh) (D':Dg) (V':Vg) (s':Sh):Prop where
 | same:Hg s s'->(∀c,56<=c->c<62->rX D' V' s' c=rX D V s c)->Lg o D V s D' V' s'
 | swap (who q:Int) (es:List Et):ke who->1<=q->s.W (jP who)=⟨0,q,0⟩->s'.W (jP who)=⟨1,q,0⟩->(∀w,ke w->Dec s s' w->w=who)->Good es->ql s' (jP who) (kh es)->
   (∀e∈es,rX D V s e.at'=⟨e.old.v,e.old.j8,0⟩)->(∀c,56<=c->c<62->rX D' V' s' c=tw es (rX D V s) c)->Lg o D V s D' V' s'
 | one (c0 v:Int):o->56<=c0->c0<62->Hg s s'->rX D' V' s' c0=⟨v,(rX D V s c0).j8+1,0⟩->(∀c,56<=c->c<62->¬c=c0->rX D' V' s' c=rX D V s c)->Lg o D V s D' V' s'
structure Kp (s s':Sh) (who:Int):Prop where
 st:∀v q,s.W (jP who)=⟨v,q,0⟩->∃v',s'.W (jP who)=⟨v',q,0⟩/\(v'=v\/(v=0/\(v'=1\/v'=2)))
 fl:∀k:Int,1<=k->k<32->s'.W (jP who+k)=s.W (jP who+k)/\s'.n (jP who+k)=s.n (jP who+k)
structure ZN (o:Prop) (D:Dg) (V:Vg) (s:Sh) (D':Dg) (V':Vg) (s':Sh):Prop extends Gs D V s D' V' s' where
 lg:Lg o D V s D' V' s'
 kp:∀who,ke who->Kp s s' who
 bt:s'.W 376=s.W 376
 lo:∀p,p<56->s'.W p=s.W p
abbrev Gx (D:Dg) (V:Vg) (s:Sh) (D':Dg) (V':Vg) (s':Sh):Prop:=ZN False D V s D' V' s'
def Lg.up {o q:Prop} {D D':Dg} {V V':Vg} {s s':Sh} (h:o->q) (x:Lg o D V s D' V' s'):Lg q D V s D' V' s':=by
 cases x with
 | same a b=>exact .same a b
 | swap a b c d e f g i j k l m=>exact .swap a b c d e f g i j k l m
 | one a b c d e f g i=>exact .one a b (h c) d e f g i
section
variable {D D':Dg} {V V':Vg} {N:Int} {s s':Sh} {r:Int} {es:List Et} {e:Et} {p c:Int} {w:W3}
def Good.qu (g:Good es) (he:e∈es):qu es e.at'=some e:=by
 unfold En.qu;cases h:es.find? λx=>decide (x.at'=e.at') with
 | none=>
  have:=eC.1 h e he;simp at this
 | some x=>
  have h1:=dK h;have h2:=eY h;rw[g.inj h1 he (of_decide_eq_true h2)]
def tL {x:Et} (h:qu es c=some x):x∈es/\x.at'=c:=by
 unfold qu at h;exact⟨dK h,of_decide_eq_true (eY (p:=λe:Et=>decide (e.at'=c)) h)⟩
def SI.D0 (H:SI D V N s):D 0=none:=by
 cases h:D 0 with
 | none=>rfl
 | some es=>have:=H.pos h;omega
def SI.Yk (H:SI D V N s) (h:(s.W c).ref=0):rX D V s c=⟨(s.W c).v,(s.W c).j8,0⟩:=by
 unfold rX;rw[h,H.D0];rfl
def SI.Ym (H:SI D V N s) (hD:D r=some es) (he:e∈es) (h:kS s r e):rX D V s e.at'=if V r=1/\e.wr=true then⟨e.new,e.old.j8+1,0⟩ else⟨e.old.v,e.old.j8,0⟩:=by
 obtain⟨_,_,_,_,g⟩:=H.rf hD;unfold kS at h;unfold rX;rw[h];dsimp only;rw[hD,dT,g.qu he];rfl
def s9 (h:s'.W c=s.W c) (q:D' (s.W c).ref=D (s.W c).ref) (hv:V' (s.W c).ref=1↔V (s.W c).ref=1):rX D' V' s' c=rX D V s c:=by
 unfold rX;rw[h,q];split
 ·unfold Z2;by_cases x:V (s.W c).ref=1
  ·simp only[x,hv.2 x]
  ·rw[if_neg λy=>x (hv.1 y.1),if_neg λy=>x y.1]
 ·rfl
def Kp.of {who:Int} (u:∀k:Int,0<=k->k<32->s'.W (jP who+k)=s.W (jP who+k)/\s'.n (jP who+k)=s.n (jP who+k)):Kp s s' who:=by
 refine⟨λv q h=>⟨v,?_,.inl rfl⟩,λk h1 h2=>u k (by omega) h2⟩;have:=(u 0 (by omega) (by omega)).1;rw[eI] at this;rw[this,h]
def Wr.kp (h:Wr s s' p w) {who:Int} (q:p<jP who\/jP who+32<=p):Kp s s' who:=Kp.of λk h1 h2=>⟨h.ne (by omega),h.PY (by omega)⟩
def Hg.of (h:∀who,ke who->s'.W (jP who)=s.W (jP who)):Hg s s':=λwho hw ⟨q,a,b⟩=>by
 rw[h who hw,a] at b;cases b
def nk (h:s.quiet s'):s'.W=s.W:=funext h.1
def SI.RD (H:SI D V N s) (h:s.quiet s') (hv:∀t j,s.v t j<=s'.v t j):SI D V N s'/\Gx D V s D V s':=by
 obtain⟨S,G⟩:=H.quiet h hv;exact⟨S,G,.same (.of λwho _=>h.1 _) λc _ _=>s9 (h.1 c) rfl fC,λwho _=>Kp.of λk _ _=>⟨h.1 _,h.2.1 _⟩,h.1 _,λp _=>h.1 p⟩
def Wr.JF (h:Wr s s' c w) (q:56<=c/\c<62):Hg s s'/\∀who,ke who->Kp s s' who:=
 ⟨.of λwho hw=>h.ne (by have:=kR hw; omega),λwho hw=>h.kp (by have:=kR hw; omega)⟩
def Wr.Rc {o:Prop} (h:Wr s s' c w) (q:56<=c/\c<62) (u:rX D V s' c=rX D V s c):Lg o D V s D V s':=
 .same (h.JF q).1 λc' _ _=>by
  by_cases e:c'=c
  ·subst e;exact u
  ·exact s9 (h.ne e) rfl fC
def SI.SB (H:SI D V N s) (B:N+1<1000000) (hD:D r=some es) {i:Nat} (he:es[i]?=some e) (h:Wr s s' e.at' ⟨e.old.v,e.old.j8,r⟩) (hw:s.W e.at'=e.old)
  (q:V r=0->∀j a,j<i->es[j]?=some a->kS s r a):SI D V (N+1) s'/\Gx D V s D V s':=by
 obtain⟨S,G⟩:=H.zh B hD he h hw q;obtain⟨_,_,f,_,g⟩:=H.rf hD;have hm:=aG he;have u:=g.pl e hm;refine⟨S,G,h.Rc u ?_,(h.JF u).2,h.ne (by omega),λp q=>h.ne (by omega)⟩;have E:kS s' r e:=h.self;rw[S.Ym hD hm E,H.Yk (by rw[hw]; exact g.ref e hm),hw,if_neg];rintro⟨v1,wr⟩;rcases H.done r es hD v1 e hm wr with ⟨a,_⟩| a
 ·unfold kS at a;rw[hw] at a;have h1:=g.ref e hm;have h2:=f.pos;rw[a] at h1;dsimp only at h1;omega
 ·unfold qX at a;rw[hw] at a;omega
def SI.SU (H:SI D V N s) (B:N+1<1000000) (hD:D r=some es) (he:e∈es) {w:W3} (h:Wr s s' e.at' w) (hw:kS s r e) (E:¬V r=0)
  (q:(w=⟨e.old.v,e.old.j8,0⟩/\(V r=1->e.wr=true->¬Live s r))\/(w=⟨e.new,e.old.j8+1,0⟩/\V r=1/\e.wr=true)):SI D V (N+1) s'/\Gx D V s D V s':=by
 obtain⟨S,G⟩:=H.free B hD he h hw E (q.imp_right λx=>x.1);obtain⟨_,_,f,_,g⟩:=H.rf hD;have u:=g.pl e he;refine⟨S,G,h.Rc u ?_,(h.JF u).2,h.ne (by omega),λp u=>h.ne (by omega)⟩;rw[S.Yk (by rw[h.self]; rcases q with ⟨rfl,_⟩| ⟨rfl,_⟩ <;> rfl),h.self,H.Ym hD he hw];rcases q with ⟨rfl,x⟩| ⟨rfl,x⟩
 ·rw[if_neg];rintro⟨v1,wr⟩;rcases H.done r es hD v1 e he wr with ⟨_,a⟩| a
  ·exact x v1 wr a
  ·unfold qX at a;unfold kS at hw;rw[hw] at a;dsimp only at a;omega
 ·rw[if_pos x]
def SI.Vf (H:SI D V N s) (E:N+1<1000000) {v:Int} (q:C5 v) (u:56<=c/\c<62) (h:Wr s s' c ⟨v,(s.W c).j8+1,0⟩) (B:(s.W c).ref=0):SI D V (N+1) s'/\ZN True D V s D V s':=by
 obtain⟨S,G⟩:=H.Xu E q u h B;refine⟨S,G,.one c v trivial u.1 u.2 (h.JF u).1 ?_ λc' _ _ e=>s9 (h.ne e) rfl fC,(h.JF u).2,h.ne (by omega),λp F=>h.ne (by omega)⟩;rw[S.Yk (by rw[h.self]),h.self,H.Yk B]
def SI.U0 (H:SI D V N s) (hN:N+1<1000000) {who q z:Int} (f:Rf who q r) (hD:D r=some es) (hs:s.W (jP who)=⟨0,q,0⟩) (M:z=1\/z=2) (h:Wr s s' (jP who) ⟨z,q,0⟩) (ht:∀j,s.tv (jP who) j<=s'.tv (jP who) j)
  (B:z=1->∀e∈es,kS s r e):SI D (La V r z) (N+1) s'/\Gx D V s D (La V r z) s':=by
 obtain⟨S,G⟩:=H.decide hN f hD hs M h ht B;obtain⟨_,_,_,_,g⟩:=H.rf hD;have aS:=kR f.wh;have lr:Live s r:=f.live.2 ⟨0,by omega,hs⟩;obtain⟨I,_,_,fl,_⟩:=H.live f hD lr;have aT:V r=0:=by
  have:=I.eq.symm.trans hs;simp only[W3.mk.injEq] at this;exact this.1
 have hlen:=kO es;have X:=g.len;have O:ql s' (jP who) (kh es):=λk x E=>by
  have:=(aC.1 E).1;rw[h.ne (by omega)];exact fl k x E
 have Z:∀J,¬J=r->La V r z J=V J:=λJ e=>if_neg e;have F:La V r z r=z:=if_pos rfl;have u:∀w,ke w->¬w=who->s'.W (jP w)=s.W (jP w):=λw hw Q=>by
  have:=kW hw f.wh Q;exact h.ne (by omega)
 have R:∀w,ke w->Kp s s' w:=λw hw=>by
  by_cases e:w=who
  ·subst e;refine⟨λv q' hv=>?_,λk h1 h2=>⟨h.ne (by omega),h.PY (by omega)⟩⟩;rw[hs] at hv;simp only[W3.mk.injEq,and_true] at hv;obtain⟨rfl,rfl⟩:=hv;exact⟨z,h.self,.inr ⟨rfl,M⟩⟩
  ·have:=kW hw f.wh e;exact h.kp (by omega)
 have K:∀c,56<=c->c<62->s'.W c=s.W c:=λc h1 h2=>h.ne (by omega);refine⟨S,G,?_,R,h.ne (by omega),λp hp=>h.ne (by omega)⟩;rcases M with rfl | rfl
 ·refine .swap who q es f.wh f.qr.1 hs h.self (λw hw T=>?_) g O (λe he=>?_) λc h1 h2=>?_
  ·obtain⟨q',a,b⟩:=T;by_cases e:w=who
   ·exact e
   ·rw[u w hw e,a] at b;cases b
  ·rw[H.Ym hD he (B rfl e he),if_neg (λx=>by omega)]
  ·unfold tw;cases E:qu es c with
   | some e=>
    obtain⟨he,rfl⟩:=tL E;have hh:=B rfl e he;have U:kS s' r e:=by unfold kS at *;rw[K _ h1 h2];exact hh
    rw[S.Ym hD he U,F];dsimp only;by_cases wr:e.wr=true
    ·rw[if_pos ⟨rfl,wr⟩,if_pos wr]
    ·rw[if_neg (λx=>wr x.2),if_neg wr,H.Ym hD he hh,if_neg (λx=>wr x.2)]
   | none=>
    dsimp only;by_cases e:(s.W c).ref=r
    ·unfold rX;rw[K c h1 h2,e,hD,dT,E]
    ·exact s9 (K c h1 h2) rfl (by rw[Z _ e])
 ·refine .same (λw hw T=>?_) λc h1 h2=>?_
  ·obtain⟨q',a,b⟩:=T;by_cases e:w=who
   ·subst e;rw[h.self] at b;cases b
   ·rw[u w hw e,a] at b;cases b
  ·refine s9 (K c h1 h2) rfl ?_;by_cases e:(s.W c).ref=r
   ·rw[e,F];omega
   ·rw[Z _ e]
end
section
variable (D:Dg) (V:Vg) (s:Sh) (t:Nat)
structure wg (r:Int) (es:List Et) (j8:Int) (i:Nat):Prop where
 vr:(j8=1/\V r=1)\/(j8=2/\V r=2)\/(j8=4/\¬Live s r)
 rel:∀(j:Nat) (a:Et),j<i->es[j]?=some a->a.wr=true->V r=1->qX s a
structure Jd (h:Hs) (es:List Et):Prop where
 Ta:Live s h.ref->AD (s.v t) s h.at' (kh es)
 ws:Live s h.ref->h.many=es.length/\h.ws=(qp es).take h.ws.length
 many:h.many<=32
def KG (r:Int) (es:List Et) (i:Nat):Prop:=∀(j:Nat) (b:Et),j<i->es[j]?=some b->kS s r b\/¬V r=0
structure HS (h:Hs) (e:Et):Prop where
 zd:vY h h.met=true
 known:∃es' e',D h.met.ref=some es'/\e'∈es'/\e'.at'=e.at'/\h.met=⟨e'.old.v,e'.old.j8,h.met.ref⟩
 link:¬V h.met.ref=0\/s.W e.at'=h.met
abbrev Gq (p:Int):Ac:=⟨5,p,W0,W0⟩
abbrev GD:Ac:=⟨8,0,W0,W0⟩
abbrev Az (p:Int):Ac:=⟨7,p,W0,W0⟩
def YX (h:Hs) (es:List Et) (a:Ac):HK->Prop
 | .first=>h.i=0/\h.ws=[]/\a=Gq h.at'
 | .lJ=>h.i=0/\h.ws=[]/\a=⟨1,h.at'+1,W0,W0⟩/\(Live s h.ref->AD (s.v t) s h.at' (kh es))
 | .mP=>h.i=0/\h.ws.length<3*h.many/\a=⟨1,h.at'+2+h.ws.length,W0,W0⟩/\Jd s t h es
 | .checked=>h.i=0/\h.ws.length=3*h.many/\a=Gq h.at'/\Jd s t h es
 | .lB=>h.es=es/\KG V s h.ref es h.i/\∃e,es[h.i]?=some e/\a=⟨6,e.at',e.old,⟨e.old.v,e.old.j8,h.ref⟩⟩
 | .again=>h.es=es/\KG V s h.ref es h.i/\∃e,es[h.i]?=some e/\a=Gq h.at'/\HS D V s h e
 | .kN=>False
 | .begin=>False
 | .lP=>h.es=es/\KG V s h.ref es h.i/\∃e,es[h.i]?=some e/\a=⟨6,e.at',h.met,⟨h.met.v,h.met.j8,0⟩⟩/\HS D V s h e/\¬Live s h.met.ref
 | .lG=>h.es=es/\(∃e,1<=h.i/\es[h.i - 1]?=some e/\a=Az e.at')/\((h.bh=some .settle/\h.j8=1/\KG V s h.ref es es.length)\/(h.bh=some .through/\¬V h.ref=0/\wg V s h.ref es h.j8 es.length))
 | .settle=>h.es=es/\a=GD/\h.j8=1/\KG V s h.ref es es.length
 | .mS=>h.es=es/\a=⟨6,h.at',⟨0,h.seq,0⟩,⟨h.j8,h.seq,0⟩⟩/\((h.j8=1/\KG V s h.ref es es.length)\/h.j8=2)
 | .kH=>h.es=es/\a=Az h.at'/\¬V h.ref=0
 | .kT=>h.es=es/\a=GD/\¬V h.ref=0
 | .known=>h.es=es/\a=Gq h.at'/\¬V h.ref=0
 | .found=>h.es=es/\¬V h.ref=0/\wg V s h.ref es h.j8 h.i/\∃e,es[h.i]?=some e/\a=Gq e.at'
 | .pn=>h.es=es/\¬V h.ref=0/\wg V s h.ref es h.j8 h.i/\∃e,es[h.i]?=some e/\a=⟨6,e.at',⟨e.old.v,e.old.j8,h.ref⟩,if e.wr=true/\h.j8=1 then⟨e.new,e.old.j8+1,0⟩ else⟨e.old.v,e.old.j8,0⟩⟩
 | .through=>h.es=es/\a=GD/\¬V h.ref=0/\wg V s h.ref es h.j8 es.length
def HL (h:Hs) (a:Ac):Prop:=h.ended=false/\∃es,D h.ref=some es/\YX D V s t h es a h.nx
def HW (h:Hs) (r:Int):Prop:=h.ended=false/\h.nx=.kN/\r=h.met.ref/\∃es e,D h.ref=some es/\h.es=es/\KG V s h.ref es h.i/\es[h.i]?=some e/\HS D V s h e
def PQ (h k:Hs):Prop:=(k.nx=.again->V k.ref=0->(hE h).at'<(hE k).at')/\(k.nx=.kN\/k.nx=.lP->(hE h).at'<(hE k).at')
def nY:List Hs->Ac->Prop
 | [],_=>False
 | [h],a=>HL D V s t h a
 | h::k::r,a=>(HW D V s h k.ref/\PQ V h k)/\nY (k::r) a
def HE (h:Hs):Prop:=h.ended=true/\∃es,D h.ref=some es/\¬V h.ref=0/\wg V s h.ref es h.j8 es.length
end
section
variable {D D':Dg} {V V':Vg} {N:Int} {s s':Sh} {t:Nat} {r:Int} {es:List Et} {e:Et} {h:Hs} {a:Ac}
def Gs.Gu (G:Gs D V s D' V' s') (hD:D r=some es) (hv:¬V r=0):¬V' r=0:=by rw[G.vv r es hD hv]; exact hv
def Gs.DF (G:Gs D V s D' V' s') (g:Good es) (he:e∈es) (h:qX s e):qX s' e:=by
 have:=G.j8 e.at' (g.pl e he).1 (g.pl e he).2;unfold qX at *;omega
def Gs.Ze (G:Gs D V s D' V' s') (hD:D r=some es) (he:e∈es) (h:kS s r e\/¬V r=0):kS s' r e\/¬V' r=0:=by
 by_cases hv:V' r=0
 ·left;rcases h with h | h
  ·have:=G.held r es hD hv e he (by unfold kS at h; rw[h]);unfold kS at *;rw[this];exact h
  ·exact absurd hv (G.Gu hD h)
 ·exact .inr hv
def Gs.pre (G:Gs D V s D' V' s') (hD:D r=some es) {i:Nat} (h:KG V s r es i):KG V' s' r es i:=λj b u q=>G.Ze hD (aG q) (h j b u q)
def Gs.free (G:Gs D V s D' V' s') (hD:D r=some es) (g:Good es) (hv:¬V r=0) {j8:Int} {i:Nat} (h:wg V s r es j8 i):wg V' s' r es j8 i:=by
 have e:=G.vv r es hD hv;refine⟨?_,λj a B u hw q=>G.DF g (aG u) (h.rel j a B u hw (by rw[<-e]; exact q))⟩;rw[e];rcases h.vr with x | x | x
 ·exact .inl x
 ·exact .inr (.inl x)
 ·exact .inr (.inr ⟨x.1,λl=>x.2 (G.live r es hD l)⟩)
def Gs.Ta (G:Gs D V s D' V' s') (hD:D h.ref=some es) (c:Live s h.ref->AD (s.v t) s h.at' (kh es)):Live s' h.ref->AD (s'.v t) s' h.at' (kh es):=λl k w q=>by
 have h1:=c (G.live _ _ hD l) k w q;have h2:=(G.sN _ _ hD l k w q).2;have u:=G.vw t (h.at'+1+k);unfold Hs.at' at *;rw[h2];omega
def Gs.load (G:Gs D V s D' V' s') (hD:D h.ref=some es) (l:Jd s t h es):Jd s' t h es:=⟨G.Ta hD l.Ta,λx=>l.ws (G.live _ _ hD x),l.many⟩
def Gs.met (G:Gs D V s D' V' s') (m:HS D V s h e):HS D' V' s' h e:=by
 obtain⟨q,e',h1,h2,u,B⟩:=m.known;refine⟨m.zd,⟨q,e',G.dd _ _ h1,h2,u,B⟩,?_⟩;by_cases hv:V' h.met.ref=0
 ·right;rcases m.link with x | x
  ·exact absurd hv (G.Gu h1 x)
  ·have:=G.held _ _ h1 hv e' h2 (by rw[u,x]);rw[u] at this;rw[this];exact x
 ·exact .inl hv
def YX.mono (H:SI D V N s) (G:Gs D V s D' V' s') (hD:D h.ref=some es) {k:HK} (x:YX D V s t h es a k):YX D' V' s' t h es a k:=by
 obtain⟨_,_,_,_,g⟩:=H.rf hD;cases k
 case first=>exact x
 case lJ=>exact⟨x.1,x.2.1,x.2.2.1,G.Ta hD x.2.2.2⟩
 case mP=>exact⟨x.1,x.2.1,x.2.2.1,G.load hD x.2.2.2⟩
 case checked=>exact⟨x.1,x.2.1,x.2.2.1,G.load hD x.2.2.2⟩
 case lB=>exact⟨x.1,G.pre hD x.2.1,x.2.2⟩
 case again=>obtain⟨E,F,e,J,K,B⟩:=x;exact⟨E,G.pre hD F,e,J,K,G.met B⟩
 case lP=>
  obtain⟨E,F,e,J,K,B,O⟩:=x;obtain⟨Q,e',h1,_⟩:=B.known;exact⟨E,G.pre hD F,e,J,K,G.met B,λl=>O (G.live _ _ h1 l)⟩
 case lG=>
  refine⟨x.1,x.2.1,?_⟩;rcases x.2.2 with ⟨u,q,M⟩| ⟨u,q,M⟩
  ·exact .inl ⟨u,q,G.pre hD M⟩
  ·exact .inr ⟨u,G.Gu hD q,G.free hD g q M⟩
 case settle=>exact⟨x.1,x.2.1,x.2.2.1,G.pre hD x.2.2.2⟩
 case mS=>
  refine⟨x.1,x.2.1,?_⟩;rcases x.2.2 with ⟨u,q⟩| y
  ·exact .inl ⟨u,G.pre hD q⟩
  ·exact .inr y
 case kH=>exact⟨x.1,x.2.1,G.Gu hD x.2.2⟩
 case kT=>exact⟨x.1,x.2.1,G.Gu hD x.2.2⟩
 case known=>exact⟨x.1,x.2.1,G.Gu hD x.2.2⟩
 case found=>exact⟨x.1,G.Gu hD x.2.1,G.free hD g x.2.1 x.2.2.1,x.2.2.2⟩
 case pn=>exact⟨x.1,G.Gu hD x.2.1,G.free hD g x.2.1 x.2.2.1,x.2.2.2⟩
 case through=>exact⟨x.1,x.2.1,G.Gu hD x.2.2.1,G.free hD g x.2.2.1 x.2.2.2⟩
 case kN=>exact x
 case begin=>exact x
def HL.mono (H:SI D V N s) (G:Gs D V s D' V' s') (x:HL D V s t h a):HL D' V' s' t h a:=let⟨u,es,q,B⟩:=x; ⟨u,es,G.dd _ _ q,B.mono H G q⟩
def HW.mono (G:Gs D V s D' V' s') (x:HW D V s h r):HW D' V' s' h r:=by
 obtain⟨u,B,E,es,e,q,F,H,J,K⟩:=x;exact⟨u,B,E,es,e,G.dd _ _ q,F,G.pre q H,J,G.met K⟩
def nY.known:∀{l:List Hs} {k:Hs},nY D V s t (k::l) a->∃es,D k.ref=some es
 | [],k,x=>let⟨_,es,h,_⟩:=(show HL D V s t k a from x);⟨es,h⟩
 | k2::l,k,x=>let⟨_,_,_,es,_,h,_⟩:=x.1.1;⟨es,h⟩
def PQ.mono (G:Gs D V s D' V' s') {k:Hs} (hD:D k.ref=some es) (x:PQ V h k):PQ V' h k:=
 ⟨λe v=>x.1 e (bC λn=>n ((G.vv _ _ hD n)▸v)),x.2⟩
def nY.mono (H:SI D V N s) (G:Gs D V s D' V' s'):∀{hs:List Hs},nY D V s t hs a->nY D' V' s' t hs a
 | [],x=>x
 | [h],x=>HL.mono H G x
 | h::k::r,x=>let⟨_,hD⟩:=x.2.known;⟨⟨HW.mono G x.1.1,x.1.2.mono G hD⟩,nY.mono H G x.2⟩
end
section
variable {D:Dg} {V V':Vg} {N:Int} {s s':Sh} {t:Nat} {r:Int} {es:List Et} {e:Et} {h:Hs} {a:Ac}
def Out (D:Dg) (V:Vg) (s:Sh) (t:Nat) (r:Int):HR->Prop
 | (h,a,false)=>h.ref=r/\HL D V s t h a
 | (h,_,true)=>h.ref=r/\HE D V s h
def rj (h1:h.es=es) {i:Nat} (hi:h.i=i) (he:es[i]?=some e):hE h=e:=by
 unfold hE;rw[h1,hi,aI,he];rfl
def uN {k:HK} (hD:D h.ref=some es) (u:h.ended=false) (h1:h.es=es) (hi:h.i<=es.length) (E:h.bh=some k)
  (B:(k=.settle/\h.j8=1/\KG V s h.ref es es.length)\/(k=.through/\¬V h.ref=0/\wg V s h.ref es h.j8 es.length)):Out D V s t h.ref (kB h):=by
 unfold kB;rw[h1,E];by_cases e:h.i=es.length
 ·rw[if_pos e];refine⟨rfl,u,es,hD,?_⟩;rcases B with ⟨rfl,y,z⟩| ⟨rfl,y,z⟩
  ·exact⟨h1,rfl,y,z⟩
  ·exact⟨h1,rfl,y,z⟩
 ·rw[if_neg e];have q:h.i<es.length:=by omega
  refine⟨rfl,u,es,hD,rfl,⟨es[h.i],by show 1<=h.i+1; omega,by show es[h.i+1 - 1]?=_; rw[Nat.add_sub_cancel]; exact aB q,by rw[rj h1 rfl (aB q)]⟩,?_⟩;rcases B with ⟨rfl,y,z⟩| ⟨rfl,y,z⟩
  ·exact .inl ⟨rfl,y,z⟩
  ·exact .inr ⟨rfl,y,z⟩
def EF (hD:D h.ref=some es) (u:h.ended=false) (h1:h.es=es) (hi:h.i<=es.length) (hv:¬V h.ref=0) (q:wg V s h.ref es h.j8 h.i):Out D V s t h.ref (oS h):=by
 unfold oS;rw[h1];by_cases e:h.i<es.length
 ·rw[if_pos e,rj h1 rfl (aB e)];exact⟨rfl,u,es,hD,h1,hv,q,_,aB e,rfl⟩
 ·have B:h.i=es.length:=by omega
  rw[if_neg e];rw[B] at q;by_cases d:h.kY=true
  ·rw[if_pos d];exact uN (h:={h with i:=0,bh:=some .through}) hD u h1 (aO _) rfl (.inr ⟨rfl,hv,q⟩)
  ·rw[if_neg d];exact⟨rfl,rfl,es,hD,hv,q⟩
def yI (hD:D h.ref=some es) (q:h.ended=false) (h1:h.es=es) (hv:¬V h.ref=0):Out D V s t h.ref (ku h):=by
 unfold ku;by_cases d:h.kY=true
 ·rw[if_pos d];exact⟨rfl,q,es,hD,h1,rfl,hv⟩
 ·rw[if_neg d];exact⟨rfl,q,es,hD,h1,rfl,hv⟩
def E3 (hD:D h.ref=some es) (q:h.ended=false) (h1:h.es=es) (u:(h.j8=1/\KG V s h.ref es es.length)\/h.j8=2):Out D V s t h.ref (oX h):=
 ⟨rfl,q,es,hD,h1,rfl,u⟩
def Ey {z:Int} (hD:D h.ref=some es) (q:h.ended=false) (h1:h.es=es) (u:(z=1/\KG V s h.ref es es.length)\/z=2):Out D V s t h.ref (lh h z):=by
 unfold lh;by_cases d:z=1/\h.kY=true
 ·rw[if_pos d];obtain⟨rfl,_⟩:=d;refine uN (h:={h with j8:=1,i:=0,bh:=some .settle}) hD q h1 (aO _) rfl (.inl ⟨rfl,rfl,?_⟩);rcases u with x | x
  ·exact x.2
  ·omega
 ·rw[if_neg d];exact E3 (h:={h with j8:=z}) hD q h1 u
def uQ (hD:D h.ref=some es) (u:h.ended=false) (h1:h.es=es) (hi:h.i<=es.length) (B:KG V s h.ref es h.i):Out D V s t h.ref (ki h):=by
 unfold ki;rw[h1];by_cases e:h.i=es.length
 ·rw[if_pos e];exact Ey hD u h1 (.inl ⟨rfl,by rw[<-e]; exact B⟩)
 ·rw[if_neg e];have q:h.i<es.length:=by omega
  refine⟨rfl,u,es,hD,h1,B,_,aB q,?_⟩;unfold xp;rw[rj h1 rfl (aB q)]
def Kb (hD:D h.ref=some es) (q:h.ended=false) (hi:h.i=0) (hw:h.ws.length<=3*h.many) (l:Jd s t h es):Out D V s t h.ref (nc h):=by
 unfold nc;by_cases e:h.ws.length=3*h.many
 ·rw[if_pos e];exact⟨rfl,q,es,hD,hi,e,rfl,l.Ta,l.ws,l.many⟩
 ·rw[if_neg e];refine⟨rfl,q,es,hD,hi,by show h.ws.length<3*h.many; omega,?_,l.Ta,l.ws,l.many⟩;show Ac.mk 1 (jP (kj h.ref)+(2+3*(h.ws.length / 3:Nat)+(h.ws.length % 3:Nat))) W0 W0=⟨1,jP (kj h.ref)+2+h.ws.length,W0,W0⟩;congr 1;omega
def zj {w:W3} (h:Hs):tU h w=true↔¬∃v,(0<=v/\v<=2)/\w=⟨v,h.seq,0⟩:=by
 unfold tU;rw[decide_eq_true_eq];obtain⟨v,q,r⟩:=w;simp only[W3.mk.injEq];constructor
 ·rintro x ⟨u,hu,rfl,rfl,rfl⟩;omega
 ·intro x;by_cases h1:q=h.seq
  ·by_cases h2:r=0
   ·right;right;by_cases B:0<=v/\v<=2
    ·exact absurd ⟨v,B,rfl,h1,h2⟩ x
    ·omega
   ·exact .inr (.inl h2)
  ·exact .inl h1
def AQ {w:W3} (e:s.W h.at'=w):Live s h.ref↔∃v,(0<=v/\v<=2)/\w=⟨v,h.seq,0⟩:=by
 unfold Live Hs.at' Hs.seq at *;rw[<-e]
def SI.gone (H:SI D V N s) (hD:D r=some es) (l:¬Live s r):¬V r=0/\wg V s r es 4 es.length:=by
 have:=H.dec r es hD l;refine⟨by omega,.inr (.inr ⟨rfl,l⟩),λj a u q hw hv=>?_⟩;rcases H.done r es hD hv a (aG q) hw with x | x
 ·exact absurd x.2 l
 ·exact x
def Co (H:SI D V N s) (hD:D h.ref=some es) (l:¬Live s h.ref):Out D V s t h.ref (ur h 4):=⟨rfl,rfl,es,hD,(H.gone hD l).1,(H.gone hD l).2⟩
def s5.mono {g:lA} {a:Ac} (E:s5 t s s' a g):∀t j,s.v t j<=s'.v t j:=by
 cases E <;> assumption
def s5.kD {p:Int} {o n:W3} {g:lA} (E:s5 t s s' ⟨5,p,o,n⟩ g):s.quiet s'/\(∀j,s.tv p j<=s'.v t j)/\g=⟨s.W p,true⟩:=by
 cases E with
 | look _ _ _ h1 h2 q=>exact⟨h1,q,rfl⟩
 | put _ _ _ _ h=>omega
 | lQ _ _ _ _ h=>omega
def s5.NN {p:Int} {o n:W3} {g:lA} (E:s5 t s s' ⟨1,p,o,n⟩ g):s.quiet s'/\(s.n p - 1<=s.v t p->g.w=s.W p):=by
 cases E with
 | load _ _ _ _ h1 h2 q=>exact⟨h1,q⟩
 | put _ _ _ _ h=>omega
 | lQ _ _ _ _ h=>omega
def s5.mF {op p:Int} {o n:W3} {g:lA} (E:s5 t s s' ⟨op,p,o,n⟩ g) (h:op=7\/op=8):s.quiet s':=by
 cases E with
 | lQ _ _ _ _ h1 h2 q=>exact h2
 | put _ _ _ _ h=>omega
 | _=>omega
def s5.p7 {p:Int} {o n:W3} {g:lA} (E:s5 t s s' ⟨6,p,o,n⟩ g):(s.W p=o/\g=⟨o,true⟩/\Wr s s' p n/\∀j,s.tv p j<=s'.tv p j)\/(¬s.W p=o/\g=⟨s.W p,false⟩/\s.quiet s'):=by
 cases E with
 | swapT _ _ h1 h2 q u B=>exact .inl ⟨rfl,rfl,⟨h1,h2,q,u⟩,B⟩
 | RL _ _ _ h1 h2 q u=>exact .inr ⟨h1,rfl,h2⟩
 | put _ _ _ _ h=>omega
 | lQ _ _ _ _ h=>omega
def Sh.quiet.W {s s':Sh} (h:s.quiet s') (p:Int):s'.W p=s.W p:=h.1 p
def GO (H:SI D V N s) (hD:D r=some es) {v q:Int}:xw ⟨v,q,r⟩=1:=by
 obtain⟨who,u,f,_,_⟩:=H.rf hD;have:=f.pos;have h1:=f.w;have h2:=kR f.wh;unfold xw;rw[if_neg (by show ¬r=0; omega),if_pos (by show 0<kj r; omega)]
def HL.step (H:SI D V N s) (hN:N+1<1000000) (x:HL D V s t h a) {g:lA} (E:s5 t s s' a g) :
    ∃V',SI D V' (N+1) s'/\Gx D V s D V' s'/\
      ((h.nx=.again/\g.w=⟨0,h.seq,0⟩/\∃es e,D h.ref=some es/\h.es=es/\KG V' s' h.ref es h.i/\es[h.i]?=some e/\HS D V' s' h e)\/
       ((h.nx=.again->¬g.w=⟨0,h.seq,0⟩)/\Out D V' s' t h.ref (lS h g))):=by
  obtain⟨O,es,hD,x⟩:=x;obtain⟨who,q,f,oR,gd⟩:=H.rf hD;have K:h.at'=jP who:=by unfold Hs.at';rw[f.w]
  have X:h.seq=q:=f.sq;have rW:=kR f.wh;have eQ:¬jP who<0:=by omega
  have Q:s.quiet s'->SI D V (N+1) s'/\Gx D V s D V s':=λq=>let⟨a,b⟩:=H.RD q E.mono;⟨a.mono (by omega) hN,b⟩;have lk:Live s h.ref↔∃v,(0<=v/\v<=2)/\s.W (jP who)=⟨v,q,0⟩:=f.live;cases F:h.nx with
  | kN=>rw[F] at x;exact x.elim
  | begin=>rw[F] at x;exact x.elim
  | first=>
    rw[F] at x;obtain⟨B,u,rfl⟩:=x;obtain⟨T,q2,rfl⟩:=E.kD;obtain⟨S,G⟩:=Q T;refine⟨V,S,G,.inr ⟨(λe=>by cases e),?_⟩⟩;unfold lS;rw[F];dsimp only;by_cases l:tU h (s.W h.at')=true
    · rw[if_pos l]
      have nl:¬Live s' h.ref:=λy=>(zj h).1 l ((AQ (T.W _)).1 y);exact Co S hD nl
    · rw[if_neg l]
      refine⟨rfl,O,es,hD,B,u,rfl,λy=>?_⟩;have y':=G.live _ _ hD y;obtain⟨_,_,_,_,c⟩:=H.live f hD y';intro k w hw;have c1:=c k w hw;have c2:=q2 (h.at'+1+k);show s'.n (jP (kj h.ref)+1+k) - 1<=s'.v t (jP (kj h.ref)+1+k);rw[f.w,T.2.1];have c3:=E.mono;have c2:=q2 (jP who+1+k);rw[K] at c2;omega
  | lJ=>
    rw[F] at x;obtain⟨B,u,rfl,J⟩:=x;obtain⟨T,q2⟩:=E.NN;obtain⟨S,G⟩:=Q T;refine⟨V,S,G,.inr ⟨(λe=>by cases e),?_⟩⟩;unfold lS;rw[F];dsimp only;have hl:Live s' h.ref->g.w=⟨es.length,0,0⟩:=λy=>by
      have y':=G.live _ _ hD y;obtain⟨_,_,_,fl,_⟩:=H.live f hD y';have c:=J y' 0 ⟨es.length,0,0⟩ rfl;have f0:=fl 0 ⟨es.length,0,0⟩ rfl;rw[K] at c;rw[gR,eI] at c f0;rw[q2 (by rw[K]; exact c),K,f0]
    unfold pz;have iF:h.sC=10\/h.sC=32:=by
      unfold Hs.sC lu;rw[f.w,if_neg eQ];split
      · exact .inl rfl
      · exact .inr rfl
    have gl:=gd.len;by_cases c:g.w.v<1\/h.sC<g.w.v\/¬g.w=⟨g.w.v,0,0⟩
    · rw[if_pos c]
      refine Co S hD λy=>?_;have:=hl y;rw[this] at c;dsimp only at c;rcases c with c | c | c
      · omega
      · omega
      · exact c rfl
    · rw[if_neg c]
      refine Kb (h:={h with many:=g.w.v.toNat}) hD O B (by show h.ws.length<=_; rw[u]; exact aO _) ⟨G.Ta (h:=h) hD J,λy=>?_,?_⟩
      · have:=hl y
        refine⟨by show g.w.v.toNat=_; rw[this]; exact bQ _,?_⟩;show h.ws=_;rw[u];rfl
      · show g.w.v.toNat<=32
        omega
  | mP=>
    rw[F] at x;obtain⟨B,u,rfl,J⟩:=x;obtain⟨T,q2⟩:=E.NN;obtain⟨S,G⟩:=Q T;refine⟨V,S,G,.inr ⟨(λe=>by cases e),?_⟩⟩;unfold lS;rw[F];dsimp only;refine Kb (h:={h with ws:=h.ws++[g.w]}) hD O B (by show(h.ws++[g.w]).length<=_; rw[aF,aE]; exact u) ⟨G.Ta (h:=h) hD J.Ta,λy=>?_,J.many⟩;have y':=G.live _ _ hD y;obtain⟨_,_,_,fl,_⟩:=H.live f hD y';obtain⟨w1,w2⟩:=J.ws y';refine⟨w1,?_⟩;show h.ws++[g.w]=(qp es).take (h.ws++[g.w]).length;have iN:=yY es;have aS:h.ws.length<(qp es).length:=by omega
    have hx:(kh es)[h.ws.length+1]?=some ((qp es)[h.ws.length]):=by
      rw[wL,cR];exact aB aS
    have c:=J.Ta y' _ _ hx;have f0:=fl _ _ hx;rw[K] at c;have e1:jP who+1+((h.ws.length+1:Nat):Int)=jP who+2+(h.ws.length:Int):=by omega
    rw[e1] at c f0;rw[aF,aE,bN,aB aS,<-w2,q2 (by rw[K]; exact c),K,f0];rfl
  | checked=>
    rw[F] at x;obtain⟨B,u,rfl,J⟩:=x;obtain⟨T,q2,rfl⟩:=E.kD;obtain⟨S,G⟩:=Q T;refine⟨V,S,G,.inr ⟨(λe=>by cases e),?_⟩⟩;unfold lS;rw[F];dsimp only;unfold nB;by_cases l:tU h (s.W h.at')=true
    · rw[if_pos l]
      exact Co S hD λy=>(zj h).1 l ((AQ (T.W _)).1 y)
    · rw[if_neg l]
      have ly:Live s h.ref:=by
        rw[AQ rfl];exact dN.1 λy=>l ((zj h).2 y)
      obtain⟨w1,w2⟩:=J.ws ly;have iN:=yY es;rw[aW (by omega)] at w2;rw[w2,gd.unpack];dsimp only;obtain⟨I,_⟩:=H.live f hD ly;by_cases z:¬(s.W h.at').v=0
      · rw[if_pos z]
        refine yI (h:={h with es:=es,ws:=qp es}) hD O rfl ?_;rw[K,I.eq] at z;exact z
      · rw[if_neg z]
        exact uQ (h:={h with es:=es,ws:=qp es}) hD O rfl (by show h.i<=_; omega) λj b U=>by
          have:j<h.i:=U;omega
  | lB=>
    rw[F] at x;obtain⟨B,u,e,J,rfl⟩:=x;have hm:=aG J;have hi:=(aC.1 J).1;have hh:xp h=⟨e.old.v,e.old.j8,h.ref⟩:=by unfold xp;rw[rj B rfl J]
    have aT:∀{V'},SI D V' (N+1) s'->Gx D V s D V' s'->kS s' h.ref e->Out D V' s' t h.ref (ki {h with i:=h.i+1}):=λ{V'} S G hh=>by
      refine uQ (h:={h with i:=h.i+1}) hD O B hi λj b U Z=>?_;by_cases e1:j=h.i
      · subst e1
        rw[J] at Z;cases Z
        exact .inl hh
      · exact G.pre hD u j b (by have:j<h.i+1:=U; omega) Z
    rcases E.p7 with ⟨R,rfl,M,_⟩| ⟨R,rfl,M⟩
    · obtain⟨S,G⟩:=H.SB hN hD J M R λhv j a U ha=>(u j a U ha).resolve_right λz=>z hv
      refine⟨V,S,G,.inr ⟨(λe=>by cases e),?_⟩⟩;unfold lS mZ;rw[F];dsimp only;rw[if_pos (.inl rfl)];exact aT S G M.self
    · obtain⟨S,G⟩:=Q M
      refine⟨V,S,G,.inr ⟨(λe=>by cases e),?_⟩⟩;unfold lS mZ;rw[F];dsimp only;rw[hh];by_cases z:s.W e.at'=⟨e.old.v,e.old.j8,h.ref⟩
      · rw[if_pos (.inr z)]
        exact aT S G ((M.W _).trans z)
      · rw[if_neg (λw=>w.elim (λw=>by cases w) z)]
        by_cases fo:vY h (s.W e.at')=true
        · rw[if_pos fo]
          refine⟨rfl,O,es,hD,B,G.pre hD u,e,J,rfl,⟨fo,?_,.inr (M.W _)⟩⟩;have iS:=of_decide_eq_true fo;have oF:¬(s.W e.at').ref=0:=λe0=>iS.2.1 (by rw[e0]; rfl);obtain⟨bY,e',a1,a2,a3,a4⟩:=H.cell e.at' (gd.pl e hm).1 (gd.pl e hm).2 oF;refine⟨bY,e',a1,a2,a3,?_⟩;unfold kS at a4;rw[a3] at a4;exact a4
        · rw[if_neg fo]
          exact Ey hD O B (.inr rfl)
  | again=>
    rw[F] at x;obtain⟨B,u,e,J,rfl,x4⟩:=x;obtain⟨T,q2,rfl⟩:=E.kD;obtain⟨S,G⟩:=Q T;refine⟨V,S,G,?_⟩;by_cases z:s.W h.at'=⟨0,h.seq,0⟩
    · exact .inl ⟨rfl,z,es,e,hD,B,G.pre hD u,J,G.met x4⟩
    · refine .inr ⟨λ_=>z,?_⟩
      unfold lS;rw[F];dsimp only;refine yI hD O B λv0=>z ?_;obtain⟨I,_⟩:=H.live f hD (H.Jk hD v0);rw[K,X,I.eq,v0]
  | lP=>
    rw[F] at x;obtain⟨B,u,e,J,rfl,x4,x5⟩:=x;have hi:=(aC.1 J).1;obtain⟨bY,e',a1,a2,a3,a4⟩:=x4.known;have fin:∀{V'},SI D V' (N+1) s'->Gx D V s D V' s'->Out D V' s' t h.ref (lS h g):=λ{V'} S G=>by
      unfold lS;rw[F];dsimp only;exact uQ hD O B (by omega) (G.pre hD u)
    rcases E.p7 with ⟨R,hg,M,_⟩| ⟨R,hg,M⟩
    · rw[<-a3] at R M
      have hH:kS s h.met.ref e':=R.trans a4;have dO:h.met.v=e'.old.v/\h.met.j8=e'.old.j8:=by rw[a4];exact⟨rfl,rfl⟩
      obtain⟨S,G⟩:=H.SU hN a1 a2 M hH (H.gone a1 x5).1 (.inl ⟨by rw[dO.1,dO.2],λ_ _=>x5⟩);exact⟨V,S,G,.inr ⟨(λe=>by cases e),fin S G⟩⟩
    · obtain⟨S,G⟩:=Q M
      exact⟨V,S,G,.inr ⟨(λe=>by cases e),fin S G⟩⟩
  | lG=>
    rw[F] at x;obtain⟨B,⟨e,R,M,rfl⟩,J⟩:=x;obtain⟨S,G⟩:=Q (E.mF (.inl rfl));refine⟨V,S,G,.inr ⟨(λe=>by cases e),?_⟩⟩;unfold lS;rw[F];dsimp only;have hi:=(aC.1 M).1;rcases J with ⟨z1,z2,z3⟩| ⟨z1,z2,z3⟩
    · exact uN hD O B (by omega) z1 (.inl ⟨rfl,z2,G.pre hD z3⟩)
    · exact uN hD O B (by omega) z1 (.inr ⟨rfl,G.Gu hD z2,G.free hD gd z2 z3⟩)
  | settle=>
    rw[F] at x;obtain⟨B,rfl,u,J⟩:=x;obtain⟨S,G⟩:=Q (E.mF (.inr rfl));refine⟨V,S,G,.inr ⟨(λe=>by cases e),?_⟩⟩;unfold lS;rw[F];dsimp only;exact E3 hD O B (.inl ⟨u,G.pre hD J⟩)
  | mS=>
    rw[F] at x;obtain⟨B,rfl,u⟩:=x;have fin:∀{V'},SI D V' (N+1) s'->¬V' h.ref=0->Out D V' s' t h.ref (lS h g):=λ{V'} S hv=>by
      unfold lS;rw[F];dsimp only;exact yI hD O B hv
    rcases E.p7 with ⟨R,_,M,y3⟩| ⟨R,_,M⟩
    · rw[K,X] at R
      have lv:Live s h.ref:=lk.2 ⟨0,by omega,R⟩;obtain⟨I,_⟩:=H.live f hD lv;have v0:V h.ref=0:=by
        have:=I.eq.symm.trans R;simp only[W3.mk.injEq] at this;exact this.1
      rw[K,X] at M;rw[K] at y3;obtain⟨S,G⟩:=H.U0 hN f hD R (z:=h.j8) (by omega) M y3 λhz b Z=>by
        rcases u with ⟨_,u⟩| u
        · obtain⟨j,U,rfl⟩:=bK.1 Z
          exact(u j _ U (aB U)).resolve_right λz=>z v0
        · omega
      refine⟨_,S,G,.inr ⟨(λe=>by cases e),fin S ?_⟩⟩;show ¬(if h.ref=h.ref then h.j8 else V h.ref)=0;rw[if_pos rfl];omega
    · obtain⟨S,G⟩:=Q M
      refine⟨_,S,G,.inr ⟨(λe=>by cases e),fin S λv0=>R ?_⟩⟩;obtain⟨I,_⟩:=H.live f hD (H.Jk hD v0);rw[K,X,I.eq,v0]
  | kH=>
    rw[F] at x;obtain⟨B,rfl,u⟩:=x;obtain⟨S,G⟩:=Q (E.mF (.inl rfl));refine⟨V,S,G,.inr ⟨(λe=>by cases e),?_⟩⟩;unfold lS;rw[F];exact⟨rfl,O,es,hD,B,rfl,G.Gu hD u⟩
  | kT=>
    rw[F] at x;obtain⟨B,rfl,u⟩:=x;obtain⟨S,G⟩:=Q (E.mF (.inr rfl));refine⟨V,S,G,.inr ⟨(λe=>by cases e),?_⟩⟩;unfold lS;rw[F];exact⟨rfl,O,es,hD,B,rfl,G.Gu hD u⟩
  | known=>
    rw[F] at x;obtain⟨B,rfl,u⟩:=x;obtain⟨T,q2,rfl⟩:=E.kD;obtain⟨S,G⟩:=Q T;refine⟨V,S,G,.inr ⟨(λe=>by cases e),?_⟩⟩;unfold lS xX;rw[F];dsimp only;have v2:=G.Gu hD u;refine EF (h:={h with j8:=if s.W h.at'=⟨1,h.seq,0⟩\/s.W h.at'=⟨2,h.seq,0⟩ then(s.W h.at').v else 4,i:=0,nx:=.known}) hD O B (aO _) v2 ⟨?_,λj a U=>absurd U (iT _)⟩;dsimp only;by_cases l:Live s h.ref
    · obtain⟨I,b1,b2,_⟩:=H.live f hD l
      rw[K,X,I.eq];simp only[W3.mk.injEq,and_true];by_cases b3:V h.ref=1
      · rw[if_pos (.inl b3)];exact .inl ⟨b3,b3⟩
      · have b4:V h.ref=2:=by omega
        rw[if_pos (.inr b4)];exact .inr (.inl ⟨b4,b4⟩)
    · rw[if_neg]
      · exact .inr (.inr ⟨rfl,λy=>l (G.live _ _ hD y)⟩)
      · rw[K,X]
        rintro(y | y)
        · exact l (lk.2 ⟨1,by omega,y⟩)
        · exact l (lk.2 ⟨2,by omega,y⟩)
  | found=>
    rw[F] at x;obtain⟨B,u,J,e,x4,rfl⟩:=x;obtain⟨T,q2,rfl⟩:=E.kD;obtain⟨S,G⟩:=Q T;refine⟨V,S,G,.inr ⟨(λe=>by cases e),?_⟩⟩;have hm:=aG x4;have hi:=(aC.1 x4).1;unfold lS tQ;rw[F];dsimp only;rw[rj B rfl x4];have F':=G.free hD gd u J;have gv:=gd.j8 e hm;by_cases c:(s.W e.at').ref=h.ref
    · have hw:=H.II hD hm c
      unfold kS at hw;have hr:zx (s.W e.at') e.new (e.wr&&decide (h.j8=1))=(if e.wr=true/\h.j8=1 then⟨e.new,e.old.j8+1,0⟩ else⟨e.old.v,e.old.j8,0⟩,0):=by
        rw[hw];unfold zx;rw[if_neg (by rw[GO H hD]; simp),if_neg (by dsimp only; omega)];by_cases w1:e.wr=true <;> by_cases w2:h.j8=1 <;> simp[w1,w2]
      rw[if_pos ⟨c,by rw[hr]⟩,hr,hw];exact⟨rfl,O,es,hD,B,G.Gu hD u,F',e,x4,rfl⟩
    · rw[if_neg (λy=>c y.1)]
      unfold rQ;refine EF (h:={h with i:=h.i+1}) hD O B hi (G.Gu hD u) ⟨F'.vr,λj b U Z hw hv=>?_⟩;by_cases e1:j=h.i
      · subst e1
        rw[x4] at Z;cases Z
        rcases S.done _ _ hD hv e hm hw with y | y
        · have:=y.1
          unfold kS at this;rw[T.W] at this;exact absurd (by rw[this]) c
        · exact y
      · exact F'.rel j b (by have:j<h.i+1:=U; omega) Z hw hv
  | pn=>
    rw[F] at x;obtain⟨B,u,J,e,x4,rfl⟩:=x;have hm:=aG x4;have hi:=(aC.1 x4).1;have fin:∀{V'},SI D V' (N+1) s'->Gx D V s D V' s'->(e.wr=true->V' h.ref=1->qX s' e)->Out D V' s' t h.ref (lS h g):=λ{V'} S G hp=>by
      unfold lS rQ;rw[F];dsimp only;have F':=G.free hD gd u J;refine EF (h:={h with i:=h.i+1,nx:=.pn}) hD O B hi (G.Gu hD u) ⟨F'.vr,λj b U Z hw hv=>?_⟩;by_cases e1:j=h.i
      · subst e1
        rw[x4] at Z;cases Z
        exact hp hw hv
      · exact F'.rel j b (by have:j<h.i+1:=U; omega) Z hw hv
    rcases E.p7 with ⟨R,_,M,y3⟩| ⟨R,_,M⟩
    · have hc:((if e.wr=true/\h.j8=1 then(⟨e.new,e.old.j8+1,0⟩:W3) else⟨e.old.v,e.old.j8,0⟩)=⟨e.old.v,e.old.j8,0⟩/\(V h.ref=1->e.wr=true->¬Live s h.ref))\/((if e.wr=true/\h.j8=1 then(⟨e.new,e.old.j8+1,0⟩:W3) else⟨e.old.v,e.old.j8,0⟩)=⟨e.new,e.old.j8+1,0⟩/\V h.ref=1/\e.wr=true):=by
        by_cases c:e.wr=true/\h.j8=1
        · rw[if_pos c]
          refine .inr ⟨rfl,?_,c.1⟩;rcases J.vr with z | z | z
          · exact z.2
          · omega
          · omega
        · rw[if_neg c]
          refine .inl ⟨rfl,λv1 w=>?_⟩;rcases J.vr with z | z | z
          · exact absurd ⟨w,z.1⟩ c
          · omega
          · exact z.2
      obtain⟨S,G⟩:=H.SU hN hD hm M R u hc;refine⟨V,S,G,.inr ⟨(λe=>by cases e),fin S G λhw hv=>?_⟩⟩;rcases J.vr with z | z | z
      · unfold qX
        rw[M.self,if_pos ⟨hw,z.1⟩];show e.old.j8<e.old.j8+1;omega
      · omega
      · rcases H.done _ _ hD hv e hm hw with y | y
        · exact absurd y.2 z.2
        · exact G.DF gd hm y
    · obtain⟨S,G⟩:=Q M
      refine⟨V,S,G,.inr ⟨(λe=>by cases e),fin S G λhw hv=>?_⟩⟩;rcases H.done _ _ hD hv e hm hw with y | y
      · exact absurd y.1 R
      · exact G.DF gd hm y
  | through=>
    rw[F] at x;obtain⟨B,rfl,u,J⟩:=x;obtain⟨S,G⟩:=Q (E.mF (.inr rfl));refine⟨V,S,G,.inr ⟨(λe=>by cases e),?_⟩⟩;unfold lS;rw[F];exact⟨rfl,rfl,es,hD,G.Gu hD u,G.free hD gd u J⟩
end
section
variable {D D':Dg} {V V':Vg} {N:Int} {s s':Sh} {t:Nat} {r:Int} {es:List Et} {e:Et} {h:Hs} {a:Ac}
def HS.nx (m:HS D V s h e) (k:HK):HS D V s {h with nx:=k} e:=⟨m.zd,m.known,m.link⟩
def Rd (r:Int) (hs:List Hs):Prop:=∃h l,hs=h::l/\h.ref=r
def rN (D:Dg) (V:Vg) (s:Sh) (t:Nat) (r:Int):List Hs × Ac × Bool->Prop
 | (hs,a,false)=>Rd r hs/\nY D V s t hs a
 | (hs,_,true)=>∃h,hs=[h]/\h.ref=r/\HE D V s h
def Out.row {x:Hs × Ac × Bool} (o:Out D V s t r x):rN D V s t r ([x.1],x.2):=by
 obtain⟨h,a,d⟩:=x;cases d with
 | false=>exact⟨⟨h,[],rfl,o.1⟩,o.2⟩
 | true=>exact⟨h,rfl,o.1,o.2⟩
def qnB:HK->Bool
 | .again | .kN | .lP=>false
 | _=>true
def Qn (k:HK):Prop:=qnB k=true
def Qn.ne {k:HK} (h:Qn k):¬k=.again/\¬k=.kN/\¬k=.lP:=
 ⟨λe=>(by subst e; cases h),λe=>(by subst e; cases h),λe=>(by subst e; cases h)⟩
def wP {h:Hs}:Qn (ku h).1.nx:=by
 unfold ku nL l6;split <;> exact rfl
def xd {h:Hs} (q:h.bh=some .settle\/h.bh=some .through):Qn (kB h).1.nx:=by
 unfold kB l6;split
 ·rcases q with e | e <;> rw[e] <;> exact rfl
 ·exact rfl
def HG {h:Hs} {z:Int}:Qn (lh h z).1.nx:=by
 unfold lh;split
 ·exact xd (h:={h with j8:=z,i:=0,bh:=some .settle}) (.inl rfl)
 ·exact rfl
def wS {h:Hs}:Qn (ki h).1.nx:=by
 unfold ki;split
 ·exact HG
 ·exact rfl
def Ox {h:Hs}:Qn (nc h).1.nx:=by
 unfold nc nL l6;split <;> exact rfl
def Iy {h:Hs} (q:Qn h.nx):Qn (oS h).1.nx:=by
 unfold oS;split
 ·exact rfl
 ·split
  ·exact xd (h:={h with i:=0,bh:=some .through}) (.inr rfl)
  ·exact q
def HL.leads {g:lA} (x:HL D V s t h a):Qn (lS h g).1.nx\/(h.nx=.lB/\¬g.w=xp h/\vY h g.w=true/\(lS h g).1={h with met:=g.w,nx:=.again}):=by
 obtain⟨_,es,_,x⟩:=x;unfold lS;cases q:h.nx <;> rw[q] at x <;> dsimp only
 case first=>
  left;split
  ·show Qn h.nx;rw[q];rfl
  ·exact rfl
 case lJ=>
  left;unfold pz;split
  ·show Qn h.nx;rw[q];rfl
  ·exact Ox
 case mP=>left;exact Ox
 case checked=>
  left;unfold nB;split
  ·show Qn h.nx;rw[q];rfl
  ·split
   ·show Qn h.nx;rw[q];rfl
   ·split
    ·exact wP
    ·exact wS
 case lB=>
  unfold mZ;split
  ·left;exact wS
  ·rename_i z;split
   ·rename_i u;exact .inr ⟨rfl,λe=>z (.inr e),u,rfl⟩
   ·left;exact HG
 case again=>left;exact wP
 case kN=>exact x.elim
 case begin=>exact x.elim
 case lP=>left;exact wS
 case lG=>
  left;rcases x.2.2 with y | y
  ·exact xd (.inl y.1)
  ·exact xd (.inr y.1)
 case settle=>left;rfl
 case mS=>left;exact wP
 case kH=>left;rfl
 case kT=>left;rfl
 case known=>
  left;unfold xX;exact Iy (by show Qn h.nx; rw[q]; rfl)
 case found=>
  left;unfold tQ;split
  ·exact rfl
  ·exact Iy (by show Qn h.nx; rw[q]; rfl)
 case pn=>
  left;unfold rQ;exact Iy (by show Qn h.nx; rw[q]; rfl)
 case through=>left;show Qn h.nx;rw[q];rfl
def PQ.qn {k:Hs} (q:Qn k.nx):PQ V h k:=⟨λe=>absurd e q.ne.1,λe=>e.elim (λe=>absurd e q.ne.2.1) λe=>absurd e q.ne.2.2⟩
def PQ.out (H:SI D V N s) (G:Gs D V s D' V' s') {g:lA} {k:Hs} (w:HW D V s h k.ref) (x:HL D V s t k a) (E:s5 t s s' a g):PQ V' h (lS k g).1:=by
 rcases x.leads (g:=g) with q | ⟨hk,z,fo,e⟩
 ·exact .qn q
 ·rw[e];refine⟨λ_ v0=>?_,λe=>e.elim (λe=>by cases e) λe=>by cases e⟩;obtain⟨k0,es,hD,x⟩:=x;rw[hk] at x;obtain⟨Q,x2,e',B,rfl⟩:=x;obtain⟨w1,w2,w3,aS,e1,w4,w5,w6,w7,w8⟩:=w;have v0:V' k.ref=0:=v0;have v0:V k.ref=0:=bC λn=>n ((G.vv _ _ hD n)▸v0);obtain⟨aT,e2,F,a2,R,T⟩:=w8.known;rw[<-w3] at F T;rw[hD] at F;cases F
  have U:kS s k.ref e2:=by
   rcases w8.link with y | y
   ·rw[<-w3] at y;exact absurd v0 y
   ·unfold kS;rw[R,y];exact T
  have J:hE h=e1:=rj w5 rfl w7;have K:hE {k with met:=g.w,nx:=.again}=e':=rj (h:={k with met:=g.w,nx:=.again}) Q rfl B;rw[J,K,<-R];have X:¬kS s k.ref e':=λy=>by
   rcases E.p7 with ⟨M,Z,_⟩| ⟨M,Z,_⟩
   ·obtain⟨_,_,f,_,O⟩:=H.rf hD;have h1:=O.ref e' (aG B);have h2:=f.pos;unfold kS at y;rw[y] at M;rw[<-M] at h1;dsimp only at h1;omega
   ·apply z;rw[Z];unfold xp;rw[rj Q rfl B];exact y
  obtain⟨j,hj,rfl⟩:=bK.1 a2;have u:=aB (l:=es) hj;obtain⟨_,_,_,_,O⟩:=H.rf hD;rcases gL j k.i with c | c | c
  ·exact O.Gm j k.i _ _ c u B
  ·subst c;rw[B] at u;cases u
   exact absurd U X
  ·exact absurd (H.ord k.ref es hD v0 k.i j _ _ c B u U) X
def PQ.row (H:SI D V N s) (G:Gs D V s D' V' s') {g:lA} (E:s5 t s s' a g) {l:List Hs} {k:Hs} (w:HW D V s h k.ref) (c:PQ V h k) (x:nY D V s t (k::l) a) {k':Hs} {K:List Hs} {M:Ac} (he:kQ (k::l) g=(k'::K,M,false)):PQ V' h k':=by
 cases l with
 | nil=>
  have x:HL D V s t k a:=x;have J:=x.1;have O:¬k.nx=.kN:=λe=>by
   obtain⟨_,es,_,z⟩:=x;rw[e] at z;exact z
  by_cases u:k.nx=.again
  ·rw[nE J u] at he;split at he
   ·injection he with he;injection he with he;rw[<-he];exact .qn wP
   ·rename_i z;have z:g.w=⟨0,k.seq,0⟩:=dN.1 z;injection he with he _;injection he with he _;rw[<-he];obtain⟨_,es,hD,x⟩:=x;rw[u] at x;obtain⟨Q,R,e',T,rfl,U⟩:=x;obtain⟨_,_,rfl⟩:=E.kD;have v0:V k.ref=0:=by
     obtain⟨who,q,f,_,_⟩:=H.rf hD;have B:k.at'=jP who:=by unfold Hs.at';rw[f.w]
     have F:k.seq=q:=f.sq;have z:s.W k.at'=⟨0,k.seq,0⟩:=z;rw[B,F] at z;obtain⟨I,_⟩:=H.live f hD (f.live.2 ⟨0,by omega,z⟩);have:=I.eq.symm.trans z;simp only[W3.mk.injEq] at this;exact this.1
    exact⟨λe=>(by cases e),λ_=>c.1 u v0⟩
  ·rw[qw J u [] (.inl rfl)] at he;injection he with he;injection he with he;rw[<-he];exact PQ.out H G w x E
 | cons k2 l=>
  obtain⟨⟨w2,_⟩,_⟩:=x;rw[ot w2.1 w2.2.1] at he;split at he
  ·injection he with he _;injection he with he _;rw[<-he];exact⟨λe=>(by cases e),λ_=>c.2 (.inl w2.2.1)⟩
  ·split at he
   ·split at he
    ·injection he with he _;injection he with he _;rw[<-he];exact .qn wS
    ·injection he with he _;injection he with he _;rw[<-he];exact⟨λe=>(by cases e),λ_=>c.2 (.inl w2.2.1)⟩
   ·simp at he
def nY.step (H:SI D V N s) (M:N+1<1000000) {g:lA} (E:s5 t s s' a g):∀{l:List Hs} {h:Hs},nY D V s t (h::l) a->
  ∃V',SI D V' (N+1) s'/\Gx D V s D V' s'/\rN D V' s' t h.ref (kQ (h::l) g)
 | [],h,x=>by
  have x:HL D V s t h a:=x;obtain⟨V',S,G,y⟩:=x.step H M E;have u:=x.1;refine⟨V',S,G,?_⟩;have hn:¬h.nx=.kN:=λe=>by
   obtain⟨_,es,_,z⟩:=x;rw[e] at z;exact z
  rcases y with ⟨e,T,es,e',hD,U,X,Z,O⟩| ⟨e,y⟩
  ·rw[nE u e,if_neg (λz=>z T)];obtain⟨J,B,a1,a2,a3,a4⟩:=O.known;refine⟨⟨_,_,rfl,rfl⟩,⟨⟨u,rfl,rfl,es,e',hD,U,X,Z,O.nx _⟩,.qn rfl⟩,rfl,J,a1,rfl,rfl,rfl⟩
  ·by_cases F:h.nx=.again
   ·rw[nE u F,if_pos (e F)];have K:=y.row;unfold lS at K;rw[F] at K;exact K
   ·rw[qw u F [] (.inl rfl)];exact y.row
 | k::l,h,x=>by
  obtain⟨⟨w,Gm⟩,x⟩:=x;obtain⟨V',S,G,y⟩:=nY.step H M E x;refine⟨V',S,G,?_⟩;have w':=w.mono G.toGs;have ar:=@PQ.row D D V V' N s s' t h a H G.toGs g E l k w Gm x;rw[ot w.1 w.2.1];cases Q:kQ (k::l) g with
  | mk r' q=>
   obtain⟨a',d⟩:=q;rw[Q] at y;cases d with
   | false=>
    obtain⟨⟨h2,l2,rfl,B⟩,y⟩:=y;refine⟨⟨_,_,rfl,rfl⟩,⟨?_,ar Q⟩,y⟩;rw[B];obtain⟨w1,w2,w3,es,e,w4,w5,w6,w7,w8⟩:=w';exact⟨w1,rfl,w3,es,e,w4,w5,w6,w7,w8.nx _⟩
   | true=>
    obtain⟨h2,rfl,B,y⟩:=y;dsimp only;obtain⟨w1,w2,w3,es,e,w4,w5,w6,w7,w8⟩:=w';have hi:=(aC.1 w7).1;by_cases R:h2.j8=4
    ·rw[if_neg (λz=>z R)];refine⟨⟨_,_,rfl,rfl⟩,w1,es,w4,w5,w6,e,w7,?_,w8.nx _,?_⟩
     ·rw[rj w5 rfl w7]
     ·obtain⟨_,aS,z1,z2,z3⟩:=y;show ¬Live s' h.met.ref;rw[<-w3,<-B];rcases z3.vr with z | z | z
      ·omega
      ·omega
      ·exact z.2
    ·rw[if_pos R];exact(uQ w4 w1 w5 (by omega) w6).row
end
abbrev wB:Type:=Nat->Nat
def Tc (O:wB) (t:Nat) (who:Int):Prop:=who=t\/∃i:Nat,i<4/\who=9+i/\O i=t
structure BI (D:Dg) (V:Vg) (O:wB) (s:Sh):Prop where
 bw:∃b j8,s.W 376=⟨b,j8,0⟩/\(0<=b/\b<16)/\∀i,i<4->(sM b (2 ^ i)=0↔O i=0)
 rd:∀i:Nat,i<4->O i=0->po D V s (9+i)
 le:∀i,i<4->O i<=3
 inj:∀i j,i<4->j<4->¬O i=0->O i=O j->i=j
structure Dr (t:Nat) (D:Dg) (V:Vg) (O:wB) (s:Sh) (D':Dg) (V':Vg) (O':wB) (s':Sh):Prop extends Gs D V s D' V' s' where
 kp:∀who,ke who->Tc O t who->Kp s s' who/\∀q,1<=q/\q<1000000->D' (kJ who q)=D (kJ who q)
 ow:∀i,i<4->(O' i=t↔O i=t)
structure Sx (A:Int->Prop) (t:Nat) (D:Dg) (V:Vg) (O:wB) (N:Int) (s:Sh) (D':Dg) (V':Vg) (O':wB) (s':Sh):Prop where
 si:SI D' V' (N+1) s'
 gs:Gs D V s D' V' s'
 lg:Lg (A 0) D V s D' V' s'
 bi:BI D' V' O' s'
 kp:∀who,ke who->¬A who->Kp s s' who/\∀q,1<=q/\q<1000000->D' (kJ who q)=D (kJ who q)
 own:∀who,ke who->A who->Tc O t who
 ow:∀i u,i<4->¬u=t->¬u=0->(O' i=u↔O i=u)
 lo:∀p,p<56->s'.W p=s.W p
 nd:∀r es,D' r=some es->D r=some es\/(D r=none/\V' r=0/\Live s' r)
 sq:∀who,ke who->(s.W (jP who)).j8<=(s'.W (jP who)).j8
 vd:∀r es,D r=some es->¬V' r=V r->s.W (jP (kj r))=⟨0,oN r,0⟩/\s'.W (jP (kj r))=⟨V' r,oN r,0⟩
section
variable {D D':Dg} {V V':Vg} {O O':wB} {N:Int} {s s':Sh} {t u:Nat} {r:Int} {es:List Et} {e:Et} {p c who q:Int} {w:W3}
def Sx.rl {A:Int->Prop} (h:Sx A t D V O N s D' V' O' s') (hu:¬u=t) (h1:1<=u/\u<=3) (G:1<=t/\t<=3):Dr u D V O s D' V' O' s':=by
 refine {h.gs with kp:=λwho hw ho=>h.kp who hw λE=>?_,ow:=λi hi=>h.ow i u hi hu (by omega)};have B:=h.own who hw E;rcases ho with e | ⟨i,hi,e,H⟩ <;> rcases B with e' | ⟨j,J,e',F⟩
 ·omega
 ·omega
 ·omega
 ·have:i=j:=by omega
  subst this;omega
def po.mono (H:SI D V N s) (hD:∀q,1<=q/\q<1000000->D' (kJ who q)=D (kJ who q)) (G:Gs D V s D' V' s') (h:po D V s who):po D' V' s' who:=λq es E he=>by
 rw[hD q E] at he;obtain⟨a,b⟩:=h q es E he;obtain⟨_,_,_,_,g⟩:=H.rf he;exact⟨G.Gu he a,λv e' B wr=>G.DF g B (b (by rw[<-G.vv _ _ he a]; exact v) e' B wr)⟩
def WC (D:Dg) (V:Vg) (s:Sh) (who h:Int):Prop:=∀q es,1<=q/\q<1000000->¬q=h->D (kJ who q)=some es->¬V (kJ who q)=0/\(V (kJ who q)=1->∀e∈es,e.wr=true->qX s e)
def WC.mono (H:SI D V N s) (hD:∀q,1<=q/\q<1000000->D' (kJ who q)=D (kJ who q)) (G:Gs D V s D' V' s') {E:Int} (h:WC D V s who E):WC D' V' s' who E:=λq es F J he=>by
 rw[hD q F] at he;obtain⟨a,b⟩:=h q es F J he;obtain⟨_,_,_,_,g⟩:=H.rf he;exact⟨G.Gu he a,λv e' B wr=>G.DF g B (b (by rw[<-G.vv _ _ he a]; exact v) e' B wr)⟩
def BI.mono (B:BI D V O s) (H:SI D V N s) (hD:∀i:Nat,i<4->O i=0->∀q,1<=q/\q<1000000->D' (kJ (9+i) q)=D (kJ (9+i) q)) (G:Gs D V s D' V' s') (E:s'.W 376=s.W 376):BI D' V' O s':=
 ⟨by rw[E]; exact B.bw,λi hi h=>(B.rd i hi h).mono H (hD i hi h) G,B.le,B.inj⟩
def Kp.sq (H:SI D V N s) (hw:ke who) (k:Kp s s' who):(s.W (jP who)).j8<=(s'.W (jP who)).j8:=by
 obtain⟨v,q,I⟩:=H.st who hw;obtain⟨h,e,_⟩:=k.st v q I.eq;rw[I.eq,e];exact bA _
def Kp.vd (H:SI D V N s) (B:SI D' V' (N+1) s') (G:Gs D V s D' V' s') (k:∀who,ke who->Kp s s' who) (hD:D r=some es) (E:¬V' r=V r):s.W (jP (kj r))=⟨0,oN r,0⟩/\s'.W (jP (kj r))=⟨V' r,oN r,0⟩:=by
 obtain⟨who,q,f,_,_⟩:=H.rf hD;have v0:V r=0:=bC λh=>E (G.vv r es hD h);have l:Live s r:=bC λh=>by
  rcases H.dec r es hD h with y | y <;> omega
 obtain⟨I,_⟩:=H.live f hD l;have e:=I.eq;rw[v0] at e;obtain⟨F,e',hv⟩:=(k who f.wh).st 0 q e;obtain⟨J,_⟩:=B.live f (G.dd _ _ hD) (f.live.2 ⟨F,by omega,e'⟩);rw[f.w,f.sq];exact⟨e,J.eq⟩
def ZN.sx0 {o:Prop} (G:ZN o D V s D V' s') (S:SI D V' (N+1) s') (H:SI D V N s) (B:BI D V O s):Sx (·=0) t D V O N s D V' O s':=
 ⟨S,G.toGs,G.lg.up λ_=>rfl,B.mono H (λ_ _ _ _ _=>rfl) G.toGs G.bt,λwho hw _=>⟨G.kp who hw,λ_ _=>rfl⟩,λwho hw h=>by subst h; unfold ke at hw; omega,λ_ _ _ _ _=>fC,G.lo,λ_ _ h=>.inl h,λwho hw=>(G.kp who hw).sq H hw,λ_ _ hD E=>Kp.vd H S G.toGs G.kp hD E⟩
def Sx.Vw (X:Sx (λ_=>False) t D V O N s D' V' O' s'):Sx (·=0) t D V O N s D' V' O' s':=
 ⟨X.si,X.gs,X.lg.up λh=>h.elim,X.bi,λwho hw _=>X.kp who hw λh=>h,λwho hw h=>by subst h; unfold ke at hw; omega,X.ow,X.lo,X.nd,X.sq,X.vd⟩
def Gx.sx (G:Gx D V s D V' s') (S:SI D V' (N+1) s') (H:SI D V N s) (B:BI D V O s):Sx (λ_=>False) t D V O N s D V' O s':=
 ⟨S,G.toGs,G.lg,B.mono H (λ_ _ _ _ _=>rfl) G.toGs G.bt,λwho hw _=>⟨G.kp who hw,λ_ _=>rfl⟩,λ_ _ h=>h.elim,λ_ _ _ _ _=>fC,G.lo,λ_ _ h=>.inl h,λwho hw=>(G.kp who hw).sq H hw,λ_ _ hD E=>Kp.vd H S G.toGs G.kp hD E⟩
structure Claim (D:Dg) (V:Vg) (s:Sh) (who q:Int):Prop where
 st:∃v q0,s.W (jP who)=⟨v,q0,0⟩/\q0<q/\(q=q0+1\/q<=1000)
 rd:po D V s who
structure IV (D:Dg) (V:Vg) (s:Sh) (t:Nat) (who q:Int) (es:List Et) (k:Nat):Prop where
 st:s.W (jP who)=⟨3,q,0⟩
 rd:po D V s who
 fl:∀(j:Nat) (w:W3),j<k->(kh es)[j]?=some w->s.W (jP who+1+j)=w/\s.n (jP who+1+j) - 1<=s.v t (jP who+1+j)
def Kp.bk (h:Kp s s' who) {v q:Int} (hv:¬v=0) (e:s.W (jP who)=⟨v,q,0⟩):s'.W (jP who)=⟨v,q,0⟩:=by
 obtain⟨B,a,b⟩:=h.st v q e;rcases b with rfl | ⟨rfl,_⟩
 ·exact a
 ·exact absurd rfl hv
def Claim.mono (H:SI D V N s) (R:Dr t D V O s D' V' O' s') (hw:ke who) (ho:Tc O t who) (h:Claim D V s who q):Claim D' V' s' who q:=by
 obtain⟨k,d⟩:=R.kp who hw ho;obtain⟨v,B,a,b⟩:=h.st;obtain⟨E,F,_⟩:=k.st v B a;exact⟨⟨E,B,F,b⟩,h.rd.mono H d R.toGs⟩
def IV.mono (H:SI D V N s) (R:Dr t D V O s D' V' O' s') (hw:ke who) (ho:Tc O t who) {k:Nat} (g:es.length<=6) (h:IV D V s t who q es k):IV D' V' s' t who q es k:=by
 obtain⟨kp,d⟩:=R.kp who hw ho;refine⟨kp.bk (by omega) h.st,h.rd.mono H d R.toGs,λj w G B=>?_⟩;obtain⟨a,b⟩:=h.fl j w G B;have J:=kO es;have:=(aC.1 B).1;obtain⟨E,F⟩:=kp.fl (1+j) (by omega) (by omega);have hv:=R.vw t (jP who+1+j);rw[<-gW] at E F;rw[E,F];exact⟨a,by omega⟩
def s5.Dz {op p:Int} {o n:W3} {g:lA} (E:s5 t s s' ⟨op,p,o,n⟩ g) (h:op=3\/op=4):Wr s s' p n/\s.n p<=s'.v t p/\(op=4->∀j,s.v t j<=s'.tv p j):=by
 cases E with
 | put _ _ _ _ h1 h2 B F G H J=>exact⟨⟨h2,B,F,G⟩,H,J⟩
 | lQ _ _ _ _ h1=>omega
 | _=>omega
def IR (h:∀c,56<=c->c<62->s'.W c=s.W c):∀c,56<=c->c<62->rX D V s' c=rX D V s c:=λc h1 h2=>s9 (h c h1 h2) rfl fC
def Claim.fill (H:SI D V N s) (R:N+1<1000000) (T:1000<=N) (B:BI D V O s) (hw:ke who) (ho:Tc O t who) (C:Claim D V s who q) (h:Wr s s' (jP who) ⟨3,q,0⟩):Sx (·=who) t D V O N s D V O s'/\IV D V s' t who q es 0:=by
 obtain⟨⟨v,M,e,h1,h2⟩,rd⟩:=C;have U:0<=M/\M<=N:=by
  obtain⟨v',X,I⟩:=H.st who hw;have:=I.eq.symm.trans e;simp only[W3.mk.injEq] at this;have:=I.qr;omega
 obtain⟨S,G⟩:=H.TH R hw e ⟨h1,by omega⟩ h rd;have Z:=kR hw;have F:∀w,ke w->¬w=who->Kp s s' w:=λw E J=>by
  have:=kW E hw J;exact h.kp (by omega)
 refine⟨⟨S,G,.same (λw E ⟨X,a,b⟩=>?_) (IR λc _ _=>h.ne (by omega)),B.mono H (λ_ _ _ _ _=>rfl) G (h.ne (by omega)),λw E K=>⟨F w E K,λ_ _=>rfl⟩,λw _ e=>e▸ho,λ_ _ _ _ _=>fC,λp hp=>h.ne (by omega),λ_ _ h=>.inl h,λw E=>?_,λ_ _ _ h=>absurd rfl h⟩,h.self,rd.mono H (λ_ _=>rfl) G,λj w hj=>by omega⟩;by_cases x:w=who
 ·subst x;rw[h.self] at b;cases b
 ·have:=kW E hw x;rw[h.ne (by omega),a] at b;cases b
 ·by_cases Q:w=who
  ·subst Q;rw[h.self,e];exact iW h1
  ·have:=kW E hw Q;rw[h.ne (by omega)];exact bA _
def IV.store (H:SI D V N s) (T:N+1<1000000) (B:BI D V O s) (hw:ke who) (ho:Tc O t who) {k:Nat} (g:es.length<=6) (F:IV D V s t who q es k) {x:W3} (R:(kh es)[k]?=some x) (h:Wr s s' (jP who+1+k) x) (hv:s.n (jP who+1+k)<=s'.v t (jP who+1+k)) :
  Sx (·=who) t D V O N s D V O s'/\IV D V s' t who q es (k+1):=by
 have X:=kO es;have Z:=(aC.1 R).1;have U:=kR hw;obtain⟨S,G⟩:=H.field T hw F.st (p:=jP who+1+k) ⟨by omega,by omega⟩ h;have K:∀w,ke w->¬w=who->Kp s s' w:=λw E M=>by
  have:=kW E hw M;exact h.kp (by omega)
 refine⟨⟨S,G,.same (.of λw E=>?_) (IR λc _ _=>h.ne (by omega)),B.mono H (λ_ _ _ _ _=>rfl) G (h.ne (by omega)),λw E Q=>⟨K w E Q,λ_ _=>rfl⟩,λw _ e=>e▸ho,λ_ _ _ _ _=>fC,λp hp=>h.ne (by omega),λ_ _ h=>.inl h,λw E=>?_,λ_ _ _ h=>absurd rfl h⟩,?_,F.rd.mono H (λ_ _=>rfl) G,λj w hj J=>?_⟩
 ·by_cases x:w=who
  ·subst x;exact h.ne (by omega)
  ·have:=kW E hw x;exact h.ne (by omega)
 ·by_cases e:w=who
  ·subst e;rw[h.ne (by omega)];exact bA _
  ·have:=kW E hw e;rw[h.ne (by omega)];exact bA _
 ·rw[h.ne (by omega)];exact F.st
 ·by_cases e:j=k
  ·subst e;rw[R] at J;cases J
   refine⟨h.self,?_⟩;rw[h.n,if_pos rfl];omega
  ·obtain⟨a,b⟩:=F.fl j w (by omega) J;have:=h.v t (jP who+1+j);rw[h.ne (by omega),h.PY (by omega)];exact⟨a,by omega⟩
def tE (H:SI D V N s) (E:N+1<1000000) (B:BI D V O s) (h:s.quiet s') (hv:∀t j,s.v t j<=s'.v t j):Sx (λ_=>False) t D V O N s D V O s'/\Dr t D V O s D V O s':=by
 obtain⟨S,G⟩:=H.RD h hv;exact⟨G.sx (S.mono (by omega) E) H B,{G.toGs with kp:=λwho hw _=>⟨G.kp who hw,λ_ _=>rfl⟩,ow:=λ_ _=>fC}⟩
def IV.opened (H:SI D V N s) (hN:N+1<1000000) (B:BI D V O s) (f:Rf who q r) (ho:Tc O t who) (ht:1<=t/\t<=3) (g:Good es) (F:IV D V s t who q es (1+3*es.length)) (h:Wr s s' (jP who) ⟨0,q,0⟩) (hv:∀j,s.v t j<=s'.tv (jP who) j) :
  Sx (·=who) t D V O N s (TC D r es) (La V r 0) O s'/\TC D r es r=some es/\WC (TC D r es) (La V r 0) s' who q:=by
 have hl:=kO es;have bY:=kR f.wh;obtain⟨K,S,G⟩:=H.opened hN f F.st g (λk w Z=>(F.fl k w (by have:=(aC.1 Z).1; omega) Z).1) (λk w Z=>(F.fl k w (by have:=(aC.1 Z).1; omega) Z).2) h hv;have eD:∀R,¬R=r->TC D r es R=D R:=λR e=>if_neg e;have eV:∀R,¬R=r->La V r 0 R=V R:=λR e=>if_neg e;have U:∀Q,ke Q->¬Q=who->∀T,1<=T/\T<1000000->¬kJ Q T=r:=λQ E M T J e=>by
  rw[f.eq] at e;exact M (AV E J f.wh f.qr e).1
 have hW:∀c,56<=c->c<62->s'.W c=s.W c:=λc h1 h2=>h.ne (by omega);have aS:∀c,56<=c->c<62->¬(s.W c).ref=r:=λc h1 h2 e=>by
  have hp:=f.pos;obtain⟨dO,e2,a1,_⟩:=H.cell c h1 h2 (by omega);rw[e,K] at a1;cases a1
 refine⟨⟨S,G,.same (λw E ⟨T,a,b⟩=>?_) λc h1 h2=>s9 (hW c h1 h2) (eD _ (aS c h1 h2)) (by rw[eV _ (aS c h1 h2)]),B.mono H (λi hi h0 T J=>eD _ (U _ ?_ ?_ T J)) G (h.ne (by omega)),λw E M=>?_,λw _ e=>e▸ho,λ_ _ _ _ _=>fC,λp hp=>h.ne (by omega),λR X hr=>?_,λw E=>?_,λR X hr hn=>absurd (eV R λe=>by rw[e,K] at hr; cases hr) hn⟩,if_pos rfl,λT X J hn he=>?_⟩
 ·by_cases x:w=who
  ·subst x;rw[h.self] at b;cases b
  ·have:=kW E f.wh x;rw[h.ne (by omega),a] at b;cases b
 ·unfold ke;omega
 ·intro e;rcases ho with e2 | ⟨j,hj,e2,e3⟩
  ·omega
  ·have:i=j:=by omega
   subst this;omega
 ·have:=kW E f.wh M;exact⟨h.kp (by omega),λT J=>eD _ (U w E M T J)⟩
 ·by_cases e:R=r
  ·subst e;exact .inr ⟨K,if_pos rfl,f.live.2 ⟨0,by decide,h.self⟩⟩
  ·rw[eD _ e] at hr;exact .inl hr
 ·by_cases e:w=who
  ·subst e;rw[h.self,F.st];exact bA _
  ·have:=kW E f.wh e;rw[h.ne (by omega)];exact bA _
 ·have M:¬kJ who T=r:=λe=>by
   rw[f.eq] at e;exact hn (AV f.wh J f.wh f.qr e).2
  rw[eD _ M] at he;obtain⟨a,b⟩:=F.rd T X J he;obtain⟨_,_,_,_,g'⟩:=H.rf he;rw[eV _ M];exact⟨a,λv e' aT wr=>G.DF g' aT (b v e' aT wr)⟩
def WC.ready (S:SI D V N s) (f:Rf who q r) (hD:D r=some es) {h:Hs} (J:h.ref=r) (hE:HE D V s h) (X:WC D V s who q):po D V s who:=λG B E he=>by
 by_cases e:G=q
 ·subst e;rw[<-f.eq] at he⊢;obtain⟨_,K,a,b,c⟩:=hE;rw[J] at a b c;rw[hD] at a;cases a
  rw[hD] at he;cases he
  exact⟨b,λv e' F wr=>by
   obtain⟨j,H,rfl⟩:=bK.1 F;exact c.rel j _ H (aB H) wr v⟩
 ·exact X G B E e he
end
def Se (b:Fin 16) (i j:Fin 4):Bool:=
 let x:Int:=b.val;let p:Int:=2 ^ i.val;let q:Int:=2 ^ j.val;decide (0<=K8 x p/\K8 x p<16)&&decide (0<=Ns x p/\Ns x p<16)&&(decide (sM (K8 x p) q=0) == (decide (¬j=i)&&decide (sM x q=0)))&&(decide (sM (Ns x p) q=0) == (decide (j=i)||decide (sM x q=0)))
def UZ:∀(b:Fin 16) (i j:Fin 4),Se b i j=true:=by decide +kernel
def H5 {b:Int} (E:0<=b/\b<16) {i j:Nat} (hi:i<4) (q:j<4) :
  (0<=K8 b (2 ^ i)/\K8 b (2 ^ i)<16)/\(0<=Ns b (2 ^ i)/\Ns b (2 ^ i)<16)/\(sM (K8 b (2 ^ i)) (2 ^ j)=0↔¬j=i/\sM b (2 ^ j)=0)/\(sM (Ns b (2 ^ i)) (2 ^ j)=0↔j=i\/sM b (2 ^ j)=0):=by
 obtain⟨n,rfl⟩:∃n:Nat,b=n:=⟨b.toNat,by omega⟩;have h:=UZ ⟨n,by omega⟩ ⟨i,hi⟩ ⟨j,q⟩;unfold Se at h;simp only[bO,decide_eq_true_eq,Fin.mk.injEq,beq_iff_eq] at h;obtain⟨⟨⟨h1,h2⟩,u⟩,B⟩:=h;refine⟨h1,h2,?_,?_⟩
 ·rw[<-decide_eq_true_iff (p:=sM (K8 (n:Int) (2 ^ i)) (2 ^ j)=0),u];simp
 ·rw[<-decide_eq_true_iff (p:=sM (Ns (n:Int) (2 ^ i)) (2 ^ j)=0),B];simp
def sf (O:wB) (t:Nat):Prop:=∀i,i<4->¬O i=t
def wA (O:wB) (t b:Nat):Prop:=b<4/\∀i,i<4->(O i=t↔i=b)
def VU (O:wB) (i t:Nat):wB:=λj=>if j=i then t else O j
section
variable {D D':Dg} {V V':Vg} {O O':wB} {N:Int} {s s':Sh} {t:Nat} {w:W3}
def sf.mono (h:sf O t) (R:Dr t D V O s D' V' O' s'):sf O' t:=λi hi e=>h i hi ((R.ow i hi).1 e)
def wA.mono {b:Nat} (h:wA O t b) (R:Dr t D V O s D' V' O' s'):wA O' t b:=⟨h.1,λi hi=>(R.ow i hi).trans (h.2 i hi)⟩
def wA.own {b:Nat} (h:wA O t b):Tc O t (9+b):=.inr ⟨b,h.1,rfl,(h.2 b h.1).2 rfl⟩
def wA.who {b:Nat} (h:wA O t b):ke (9+b):=by have:=h.1; unfold ke; omega
def Wr.CF (h:Wr s s' 376 w):Hg s s'/\∀who,ke who->Kp s s' who:=
 ⟨.of λwho hw=>h.ne (by have:=kR hw; omega),λwho hw=>h.kp (by have:=kR hw; omega)⟩
def SI.take (H:SI D V N s) (hN:N+1<1000000) (B:BI D V O s) (ht:1<=t/\t<=3) (M:sf O t) {i:Nat} (hi:i<4) (Q:sM (s.W 376).v (2 ^ i)=0) (h:Wr s s' 376 ⟨K8 (s.W 376).v (2 ^ i),(s.W 376).j8,(s.W 376).ref⟩) :
  Sx (λ_=>False) t D V O N s D V (VU O i t) s'/\wA (VU O i t) t i/\po D V s' (9+i):=by
 obtain⟨b,j8,e,R,T⟩:=B.bw;rw[e] at Q h;dsimp only at Q h;have U:O i=0:=(T i hi).1 Q;obtain⟨S,G⟩:=H.bits hN h;have J:VU O i t i=t:=if_pos rfl;have en:∀j,¬j=i->VU O i t j=O j:=λj E=>if_neg E;have F:∀who,po D V s who->po D V s' who:=λwho hR=>hR.mono H (λ_ _=>rfl) G;refine⟨⟨S,G,.same h.CF.1 (IR λc _ _=>h.ne (by omega)),⟨⟨_,_,h.self,(H5 R hi hi).1,λj E=>?_⟩,λj E K=>?_,λj E=>?_,λj k E X Z q=>?_⟩,λwho hw _=>⟨h.CF.2 who hw,λ_ _=>rfl⟩,λ_ _ h=>h.elim,λj u E hu aS=>?_,λp hp=>h.ne (by omega),λ_ _ h=>.inl h,λwho hw=>(h.CF.2 who hw).sq H hw,λ_ _ _ h=>absurd rfl h⟩,⟨hi,λj E=>?_⟩,F _ (B.rd i hi U)⟩
 ·rw[(H5 R hi E).2.2.1,T j E];by_cases x:j=i
  ·subst x;rw[J];omega
  ·rw[en j x];exact⟨λy=>y.2,λy=>⟨x,y⟩⟩
 ·by_cases x:j=i
  ·subst x;rw[J] at K;omega
  ·rw[en j x] at K;exact F _ (B.rd j E K)
 ·by_cases x:j=i
  ·subst x;rw[J];exact ht.2
  ·rw[en j x];exact B.le j E
 ·by_cases x:j=i <;> by_cases y:k=i
  ·omega
  ·subst x;rw[J,en k y] at q;exact absurd q.symm (M k X)
  ·subst y;rw[J,en j x] at q;exact absurd q (M j E)
  ·rw[en j x] at Z q;rw[en k y] at q;exact B.inj j k E X Z q
 ·by_cases x:j=i
  ·subst x;rw[J,U];omega
  ·rw[en j x]
 ·by_cases x:j=i
  ·subst x;rw[J];exact⟨λ_=>rfl,λ_=>rfl⟩
  ·rw[en j x];exact⟨λy=>absurd y (M j E),λy=>absurd y x⟩
def SI.pR (H:SI D V N s) (U:N+1<1000000) (B:BI D V O s) (ht:1<=t/\t<=3) {i:Nat} (M:wA O t i) (R:po D V s (9+i)) (h:Wr s s' 376 ⟨Ns (s.W 376).v (2 ^ i),(s.W 376).j8,(s.W 376).ref⟩) :
  Sx (λ_=>False) t D V O N s D V (VU O i 0) s'/\sf (VU O i 0) t:=by
 obtain⟨b,j8,e,T,X⟩:=B.bw;obtain⟨hi,M⟩:=M;rw[e] at h;dsimp only at h;obtain⟨S,G⟩:=H.bits U h;have J:VU O i 0 i=0:=if_pos rfl;have en:∀j,¬j=i->VU O i 0 j=O j:=λj q=>if_neg q;have E:∀who,po D V s who->po D V s' who:=λwho R=>R.mono H (λ_ _=>rfl) G;refine⟨⟨S,G,.same h.CF.1 (IR λc _ _=>h.ne (by omega)),⟨⟨_,_,h.self,(H5 T hi hi).2.1,λj q=>?_⟩,λj q K=>?_,λj q=>?_,λj k q Z Q F=>?_⟩,λwho hw _=>⟨h.CF.2 who hw,λ_ _=>rfl⟩,λ_ _ h=>h.elim,λj u q hu aS=>?_,λp hp=>h.ne (by omega),λ_ _ h=>.inl h,λwho hw=>(h.CF.2 who hw).sq H hw,λ_ _ _ h=>absurd rfl h⟩,λj q e=>?_⟩
 ·rw[(H5 T hi q).2.2.2,X j q];by_cases x:j=i
  ·subst x;rw[J];exact⟨λ_=>rfl,λ_=>.inl rfl⟩
  ·rw[en j x];exact⟨λy=>y.resolve_left x,λy=>.inr y⟩
 ·by_cases x:j=i
  ·subst x;exact E _ R
  ·rw[en j x] at K;exact E _ (B.rd j q K)
 ·by_cases x:j=i
  ·subst x;rw[J];exact aO _
  ·rw[en j x];exact B.le j q
 ·by_cases x:j=i
  ·subst x;exact absurd J Q
  ·by_cases y:k=i
   ·subst y;rw[J] at F;exact absurd F Q
   ·rw[en j x] at Q F;rw[en k y] at F;exact B.inj j k q Z Q F
 ·by_cases x:j=i
  ·subst x;rw[J];have:=(M j q).2 rfl;omega
  ·rw[en j x]
 ·by_cases x:j=i
  ·subst x;rw[J] at e;omega
  ·rw[en j x] at e;exact x ((M j q).1 e)
def BI.some (B:BI D V O s) (H:1<=t/\t<=3) (h:sf O t):∃i,i<4/\O i=0:=by
 refine bC λx=>?_;have q:∀i,i<4->¬O i=0:=λi hi e=>x ⟨i,hi,e⟩;have u:=q 0 (by omega);have E:=q 1 (by omega);have J:=q 2 (by omega);have K:=q 3 (by omega);have M:=B.le 0 (by omega);have Q:=B.le 1 (by omega);have R:=B.le 2 (by omega);have T:=B.le 3 (by omega);have U:=h 0 (by omega);have X:=h 1 (by omega);have c2:=h 2 (by omega);have Z:=h 3 (by omega);have F:¬O 0=O 1:=λe=>by have:=B.inj 0 1 (by omega) (by omega) u e;omega
 have G:¬O 0=O 2:=λe=>by have:=B.inj 0 2 (by omega) (by omega) u e;omega
 have d12:¬O 1=O 2:=λe=>by have:=B.inj 1 2 (by omega) (by omega) E e;omega
 omega
def ud (B:BI D V O s) (h:1<=t/\t<=3) (q:sf O t):∀(k i:Nat),k+i=4->(∀j,j<i->¬O j=0)->∃j,j<4/\sM (s.W 376).v (2 ^ j)=0/\kX (s.W 376) k i=(.swap j (s.W 376),⟨6,mG,s.W 376,⟨K8 (s.W 376).v (2 ^ j),(s.W 376).j8,(s.W 376).ref⟩⟩,false)
 | 0,i,u,hi=>by
  obtain⟨j,E,e⟩:=B.some h q;exact absurd e (hi j (by omega))
 | k+1,i,u,hi=>by
  obtain⟨b,j8,e,G,F⟩:=B.bw;unfold kX;by_cases x:sM (s.W 376).v (2 ^ i)=0
  ·rw[if_pos x];exact⟨i,by omega,x,rfl⟩
  ·rw[if_neg x];refine ud B h q k (i+1) (by omega) λj E=>?_;by_cases y:j=i
   ·subst y;rw[e] at x;exact λz=>x ((F j (by omega)).2 z)
   ·exact hi j (by omega)
end
def tD (D:Dg) (V:Vg) (s:Sh) (t:Nat) (r:Int) (hs:List Hs) (a:Ac):Prop:=Rd r hs/\nY D V s t hs a
structure Ou (D:Dg) (V:Vg) (s:Sh) (who q:Int) (es:List Et):Prop where
 hD:D (kJ who q)=some es
 rd:WC D V s who q
 st:∃v,s.W (jP who)=⟨v,q,0⟩
section
variable {D D':Dg} {V V':Vg} {O O':wB} {N:Int} {s s':Sh} {t:Nat} {r who q:Int} {es:List Et} {e:Et} {a:Ac} {g:lA} {hs:List Hs}
def tD.mono (H:SI D V N s) (G:Gs D V s D' V' s') (x:tD D V s t r hs a):tD D' V' s' t r hs a:=⟨x.1,nY.mono H G x.2⟩
def tD.step (H:SI D V N s) (u:N+1<1000000) (E:s5 t s s' a g) (x:tD D V s t r hs a):∃V',SI D V' (N+1) s'/\Gx D V s D V' s'/\rN D V' s' t r (kQ hs g):=by
 obtain⟨⟨h,l,rfl,rfl⟩,y⟩:=x;exact nY.step H u E y
def tD.new (hD:D r=some es) (kY:Bool):tD D V s t r [{Hs.new r kY with nx:=.first}] (Gq (jP (kj r))):=
 ⟨⟨_,[],rfl,rfl⟩,rfl,es,hD,rfl,rfl,rfl⟩
def Ou.mono (H:SI D V N s) (R:Dr t D V O s D' V' O' s') (hw:ke who) (ho:Tc O t who) (x:Ou D V s who q es):Ou D' V' s' who q es:=
 ⟨R.dd _ _ x.hD,x.rd.mono H (R.kp who hw ho).2 R.toGs,let⟨v,e⟩:=x.st; let⟨h,e',_⟩:=(R.kp who hw ho).1.st v q e; ⟨h,e'⟩⟩
def Ou.gx (H:SI D V N s) (G:Gx D V s D V' s') (hw:ke who) (x:Ou D V s who q es):Ou D V' s' who q es:=
 ⟨x.hD,x.rd.mono H (λ_ _=>rfl) G.toGs,let⟨v,e⟩:=x.st; let⟨h,e',_⟩:=(G.kp who hw).st v q e; ⟨h,e'⟩⟩
def vQ:∀(es:List Et) (k:Nat),(qp es)[k]?=(es[k / 3]?).map λe=>if k % 3=0 then DJ e else if k % 3=1 then DI e else Ee e
 | [],k=>rfl
 | e::r,0=>rfl
 | e::r,1=>rfl
 | e::r,2=>rfl
 | e::r,k+3=>by
  show(qp r)[k]?=_;rw[vQ r k,show(k+3) / 3=k / 3+1 by omega,show(k+3) % 3=k % 3 by omega,cR]
def GP {b:Bk} {k:Nat} (u:k<mg b):(kh b.es)[k]?=some (H8 b k):=by
 unfold mg at u;unfold H8;rw[wL];cases k with
 | zero=>rfl
 | succ k=>
  rw[if_neg (by omega),cR,Nat.add_sub_cancel,vQ];have h:k / 3<b.es.length:=by omega
  rw[aI,aB h];rfl
structure D4 (D:Dg) (V:Vg) (O:wB) (s:Sh) (t:Nat) (b:Bk):Prop where
 g:Good b.es
 bad:b.bad=0
 o:wA O t b.kZ
 sq:1<=b.seq/\b.seq<1000000
def Eu (D:Dg) (V:Vg) (O:wB) (s:Sh) (t:Nat) (b:Bk) (a:Ac):Prop:=
 match b.ph with
 | .take .look=>Good b.es/\b.bad=0/\sf O t/\b.i=0/\a=Gq mG
 | .take (.swap i w)=>Good b.es/\b.bad=0/\sf O t/\b.i=0/\i<4/\sM w.v (2 ^ i)=0/\a=⟨6,mG,w,⟨K8 w.v (2 ^ i),w.j8,w.ref⟩⟩
 | .take _=>False
 | .looked=>Good b.es/\b.bad=0/\wA O t b.kZ/\b.i=0/\a=Gq (lC b.kZ)/\po D V s (9+b.kZ)
 | .rel false=>D4 D V O s t b/\b.i=0/\a=⟨4,b.at',W0,⟨3,b.seq,0⟩⟩/\Claim D V s (9+b.kZ) b.seq
 | .rel true=>D4 D V O s t b/\a=⟨4,b.at',W0,⟨0,b.seq,0⟩⟩/\IV D V s t (9+b.kZ) b.seq b.es (mg b)
 | .zw false=>D4 D V O s t b/\b.i=0/\a=Az b.at'/\IV D V s t (9+b.kZ) b.seq b.es 0
 | .zw true=>D4 D V O s t b/\a=Az b.at'/\Ou D V s (9+b.kZ) b.seq b.es
 | .sS false=>D4 D V O s t b/\b.i=0/\a=GD/\IV D V s t (9+b.kZ) b.seq b.es 0
 | .sS true=>D4 D V O s t b/\a=GD/\Ou D V s (9+b.kZ) b.seq b.es
 | .fill=>D4 D V O s t b/\∃k,b.i=k+1/\k<mg b/\a=⟨3,b.at'+1+k,W0,H8 b k⟩/\IV D V s t (9+b.kZ) b.seq b.es k
 | .lQ=>D4 D V O s t b/\(∃p,a=Az p)/\IV D V s t (9+b.kZ) b.seq b.es (mg b)
 | .zq=>D4 D V O s t b/\a=GD/\IV D V s t (9+b.kZ) b.seq b.es (mg b)
 | .mQ hs=>D4 D V O s t b/\Ou D V s (9+b.kZ) b.seq b.es/\tD D V s t (kJ (9+b.kZ) b.seq) hs a
 | .pR h k=>D4 D V O s t b/\h=b.kZ/\po D V s (9+b.kZ)/\(match k with
  | .look=>a=Gq mG
  | .swap w=>¬sM w.v (2 ^ b.kZ)=0/\a=⟨6,mG,w,⟨Ns w.v (2 ^ b.kZ),w.j8,w.ref⟩⟩
  | .done _=>False)
 | .over=>False
def HF (D:Dg) (V:Vg) (O:wB) (s:Sh) (t:Nat) (es:List Et):BR->Prop
 | (b,a,false)=>b.es=es/\Eu D V O s t b a
 | (b,_,true)=>b.es=es/\b.bad=0/\sf O t
def D4.mono (R:Dr t D V O s D' V' O' s') {b:Bk} (x:D4 D V O s t b):D4 D' V' O' s' t b:=⟨x.g,x.bad,x.o.mono R,x.sq⟩
def D4.ZE (R:Dr t D V O s D' V' O' s') {b h:Bk} (x:D4 D V O s t b) (u:h.es=b.es:=by rfl) (B:h.bad=b.bad:=by rfl) (E:h.kZ=b.kZ:=by rfl) (F:h.seq=b.seq:=by rfl):D4 D' V' O' s' t h:=
 ⟨u▸x.g,B▸x.bad,E▸x.o.mono R,F▸x.sq⟩
def Eu.mono (H:SI D V N s) (R:Dr t D V O s D' V' O' s') {b:Bk} (x:Eu D V O s t b a):Eu D' V' O' s' t b a:=by
 obtain⟨du,es,kZ,seq,i,dn,bad,ph⟩:=b;have F:wA O t kZ->po D V s (9+kZ)->po D' V' s' (9+kZ):=λo y=>y.mono H (R.kp _ o.who o.own).2 R.toGs;cases ph with
 | take k=>
  cases k with
  | look=>obtain⟨h,B,u,E⟩:=x;exact⟨h,B,u.mono R,E⟩
  | swap i w=>obtain⟨h,B,u,E⟩:=x;exact⟨h,B,u.mono R,E⟩
  | done i=>exact x
  | full=>exact x
 | looked=>obtain⟨h,B,u,E,G,J⟩:=x;exact⟨h,B,u.mono R,E,G,F u J⟩
 | rel op=>
  cases op with
  | false=>obtain⟨h,B,u,E⟩:=x;exact⟨h.mono R,B,u,E.mono H R h.o.who h.o.own⟩
  | true=>obtain⟨h,B,u⟩:=x;exact⟨h.mono R,B,u.mono H R h.o.who h.o.own h.g.len.2⟩
 | zw op=>
  cases op with
  | false=>obtain⟨h,B,u,E⟩:=x;exact⟨h.mono R,B,u,E.mono H R h.o.who h.o.own h.g.len.2⟩
  | true=>obtain⟨h,B,u⟩:=x;exact⟨h.mono R,B,u.mono H R h.o.who h.o.own⟩
 | sS op=>
  cases op with
  | false=>obtain⟨h,B,u,E⟩:=x;exact⟨h.mono R,B,u,E.mono H R h.o.who h.o.own h.g.len.2⟩
  | true=>obtain⟨h,B,u⟩:=x;exact⟨h.mono R,B,u.mono H R h.o.who h.o.own⟩
 | fill=>obtain⟨h,k,B,u,E,G⟩:=x;exact⟨h.mono R,k,B,u,E,G.mono H R h.o.who h.o.own h.g.len.2⟩
 | lQ=>obtain⟨h,B,u⟩:=x;exact⟨h.mono R,B,u.mono H R h.o.who h.o.own h.g.len.2⟩
 | zq=>obtain⟨h,B,u⟩:=x;exact⟨h.mono R,B,u.mono H R h.o.who h.o.own h.g.len.2⟩
 | mQ hs=>obtain⟨h,B,u⟩:=x;exact⟨h.mono R,B.mono H R h.o.who h.o.own,u.mono H R.toGs⟩
 | pR K k=>obtain⟨h,B,u,E⟩:=x;exact⟨h.mono R,B,F h.o u,E⟩
 | over=>exact x
def zo (b:Bk):jP (9+b.kZ)=b.at':=by
 unfold jP Bk.at';rw[if_pos (by omega)];congr 1;omega
section
variable {b:Bk}
def GU (x:D4 D V O s t b) (F:IV D V s t (9+b.kZ) b.seq b.es (mg b)):HF D V O s t b.es (KN b):=⟨rfl,⟨x.g,x.bad,x.o,x.sq⟩,rfl,F⟩
def Hb (x:D4 D V O s t b) (F:IV D V s t (9+b.kZ) b.seq b.es (mg b)):HF D V O s t b.es (qk b):=by
 unfold qk;dsimp only;split
 ·exact⟨rfl,⟨x.g,x.bad,x.o,x.sq⟩,rfl,F⟩
 ·exact⟨rfl,⟨x.g,x.bad,x.o,x.sq⟩,⟨_,rfl⟩,F⟩
def CU (x:D4 D V O s t b) (hi:b.i<=mg b) (F:IV D V s t (9+b.kZ) b.seq b.es b.i):HF D V O s t b.es (rh b):=by
 unfold rh;by_cases e:b.i<mg b
 ·rw[if_pos e];exact⟨rfl,⟨x.g,x.bad,x.o,x.sq⟩,b.i,rfl,e,rfl,F⟩
 ·rw[if_neg e];have h:b.i=mg b:=by omega
  rw[h] at F;by_cases d:b.kY=true
  ·rw[if_pos d];exact Hb (b:={b with i:=0}) ⟨x.g,x.bad,x.o,x.sq⟩ F
  ·rw[if_neg d];exact GU x F
def GL (x:D4 D V O s t b) (P:Ou D V s (9+b.kZ) b.seq b.es):HF D V O s t b.es (Jx b):=by
 refine⟨rfl,⟨x.g,x.bad,x.o,x.sq⟩,P,?_⟩;have h:=tD.new (D:=D) (V:=V) (s:=s) (t:=t) P.hD b.kY;rwa [DG x.o.who x.sq,zo] at h
def O1 (x:D4 D V O s t b) (h:po D V s (9+b.kZ)):HF D V O s t b.es (Be b):=⟨rfl,⟨x.g,x.bad,x.o,x.sq⟩,rfl,h,rfl⟩
end
def Eu.step {b:Bk} (H:SI D V N s) (hN:N+1<1000000) (bY:1000<=N) (B:BI D V O s) (ht:1<=t/\t<=3) (x:Eu D V O s t b a) (E:s5 t s s' a g) :
  ∃D' V' O' A,Sx A t D V O N s D' V' O' s'/\(∀who,A who->who=9+b.kZ)/\HF D' V' O' s' t b.es (kr b g):=by
 obtain⟨du,es,kZ,seq,i,dn,bad,ph⟩:=b;have Q:s.quiet s'->Sx (λ_=>False) t D V O N s D V O s'/\Dr t D V O s D V O s':=λq=>tE H hN B q E.mono;have M:jP (9+(kZ:Int))=Bk.at' ⟨du,es,kZ,seq,i,dn,bad,ph⟩:=zo ⟨du,es,kZ,seq,i,dn,bad,ph⟩;cases ph with
 | take k=>
  cases k with
  | look=>
   obtain⟨u,K,J,x0,rfl⟩:=x;obtain⟨q1,_,rfl⟩:=E.kD;obtain⟨X,R⟩:=Q q1;refine⟨D,V,O,_,X,λ_ h=>h.elim,?_⟩;obtain⟨j,hj,h1,h2⟩:=ud B ht J 4 0 rfl λj hj=>by omega
   unfold kr mC;dsimp only;rw[h2];exact⟨rfl,u,K,J,x0,hj,h1,rfl⟩
  | swap j w=>
   obtain⟨u,K,J,x0,x4,x5,rfl⟩:=x;rcases E.p7 with ⟨U,rfl,Z,_⟩| ⟨U,rfl,Z⟩
   ·subst U;obtain⟨X,o,rd⟩:=H.take hN B ht J x4 x5 Z;refine⟨D,V,_,_,X,λ_ h=>h.elim,?_⟩;unfold kr mC;exact⟨rfl,u,K,o,x0,rfl,rd⟩
   ·obtain⟨X,R⟩:=Q Z;refine⟨D,V,O,_,X,λ_ h=>h.elim,?_⟩;obtain⟨j,hj,h1,h2⟩:=ud B ht J 4 0 rfl λj hj=>by omega
    unfold kr mC;dsimp only;rw[if_neg (by simp),h2];exact⟨rfl,u,K,J,x0,hj,h1,rfl⟩
  | done i=>exact x.elim
  | full=>exact x.elim
 | looked=>
  obtain⟨u,K,J,x4,rfl,x5⟩:=x;obtain⟨q1,_,rfl⟩:=E.kD;obtain⟨X,R⟩:=Q q1;refine⟨D,V,O,_,X,λ_ h=>h.elim,?_⟩;dsimp only at u K J x4 x5;obtain⟨v,q,I⟩:=H.st _ J.who;have hq:=I.qr;have hw:s.W (lC kZ)=⟨v,q,0⟩:=by
   have:=I.eq;rw[M] at this;exact this
  unfold kr r7;dsimp only;rw[hw,if_neg (by dsimp only; have:=H.nN; omega)];refine⟨rfl,⟨u,K,J,by dsimp only; have:=H.nN; omega⟩,x4,rfl,⟨v,q,by rw[q1.1,I.eq],by dsimp only; omega,.inl rfl⟩,x5.mono H (λ_ _=>rfl) R.toGs⟩
 | rel op=>
  cases op with
  | false=>
   obtain⟨u,K,rfl,J⟩:=x;obtain⟨U,Z,_⟩:=E.Dz (.inr rfl);obtain⟨X,F⟩:=J.fill (es:=es) H hN bY B u.o.who u.o.own (by rw[M]; exact U);refine⟨D,V,O,_,X,λ_ h=>h,?_⟩;unfold kr;dsimp only at K⊢;by_cases d:du=true
   ·rw[if_pos d];exact⟨rfl,⟨u.g,u.bad,u.o,u.sq⟩,K,rfl,F⟩
   ·rw[if_neg d];unfold my;rw[if_neg (by simp)];exact CU (b:=⟨du,es,kZ,seq,i,dn,bad,.rel false⟩) ⟨u.g,u.bad,u.o,u.sq⟩ (by dsimp only; omega) (by dsimp only; rw[K]; exact F)
  | true=>
   obtain⟨u,rfl,J⟩:=x;obtain⟨U,_,Z⟩:=E.Dz (.inr rfl);have f:Rf (9+(kZ:Int)) seq (kJ (9+kZ) seq):=⟨u.o.who,u.sq,rfl⟩;obtain⟨X,hD,rd⟩:=J.opened H hN B f u.o.own ht u.g (by rw[M]; exact U) (by rw[M]; exact Z rfl);have P:Ou (TC D (kJ (9+kZ) seq) es) (La V (kJ (9+kZ) seq) 0) s' (9+kZ) seq es:=⟨hD,rd,0,by rw[M]; exact U.self⟩;refine⟨_,_,O,_,X,λ_ h=>h,?_⟩;unfold kr;dsimp only;by_cases d:du=true
   ·rw[if_pos d];exact⟨rfl,⟨u.g,u.bad,u.o,u.sq⟩,rfl,P⟩
   ·rw[if_neg d];unfold my;rw[if_pos rfl];exact GL (b:=⟨du,es,kZ,seq,i,dn,bad,.rel true⟩) ⟨u.g,u.bad,u.o,u.sq⟩ P
 | zw op=>
  cases op with
  | false=>
   obtain⟨u,K,rfl,J⟩:=x;obtain⟨X,R⟩:=Q (E.mF (.inl rfl));refine⟨D,V,O,_,X,λ_ h=>h.elim,?_⟩;exact⟨rfl,u.ZE R,K,rfl,J.mono H R u.o.who u.o.own u.g.len.2⟩
  | true=>
   obtain⟨u,rfl,J⟩:=x;obtain⟨X,R⟩:=Q (E.mF (.inl rfl));refine⟨D,V,O,_,X,λ_ h=>h.elim,?_⟩;exact⟨rfl,u.ZE R,rfl,J.mono H R u.o.who u.o.own⟩
 | sS op=>
  cases op with
  | false=>
   obtain⟨u,K,rfl,J⟩:=x;obtain⟨X,R⟩:=Q (E.mF (.inr rfl));refine⟨D,V,O,_,X,λ_ h=>h.elim,?_⟩;unfold kr my;dsimp only at K⊢;rw[if_neg (by simp)];exact CU (b:=⟨du,es,kZ,seq,i,dn,bad,.sS false⟩) (u.mono R) (by dsimp only; omega) (by dsimp only; rw[K]; exact J.mono H R u.o.who u.o.own u.g.len.2)
  | true=>
   obtain⟨u,rfl,J⟩:=x;obtain⟨X,R⟩:=Q (E.mF (.inr rfl));refine⟨D,V,O,_,X,λ_ h=>h.elim,?_⟩;unfold kr my;dsimp only;rw[if_pos rfl];exact GL (b:=⟨du,es,kZ,seq,i,dn,bad,.sS true⟩) (u.mono R) (J.mono H R u.o.who u.o.own)
 | fill=>
  obtain⟨u,k,K,J,rfl,x4⟩:=x;obtain⟨U,Z,_⟩:=E.Dz (.inl rfl);obtain⟨X,F⟩:=x4.store H hN B u.o.who u.o.own u.g.len.2 (GP J) (by rw[M]; exact U) (by rw[M]; exact Z);refine⟨D,V,O,_,X,λ_ h=>h,?_⟩;exact CU (b:=⟨du,es,kZ,seq,i,dn,bad,.fill⟩) ⟨u.g,u.bad,u.o,u.sq⟩ (by dsimp only at K⊢; rw[K]; exact J) (by dsimp only at K⊢; rw[K]; exact F)
 | lQ=>
  obtain⟨u,⟨p,rfl⟩,J⟩:=x;obtain⟨X,R⟩:=Q (E.mF (.inl rfl));refine⟨D,V,O,_,X,λ_ h=>h.elim,?_⟩;exact Hb (b:=⟨du,es,kZ,seq,i,dn,bad,.lQ⟩) (u.mono R) (J.mono H R u.o.who u.o.own u.g.len.2)
 | zq=>
  obtain⟨u,rfl,J⟩:=x;obtain⟨X,R⟩:=Q (E.mF (.inr rfl));refine⟨D,V,O,_,X,λ_ h=>h.elim,?_⟩;exact GU (b:=⟨du,es,kZ,seq,i,dn,bad,.zq⟩) (u.mono R) (J.mono H R u.o.who u.o.own u.g.len.2)
 | mQ hs=>
  obtain⟨u,K,J⟩:=x;obtain⟨V',S,G,y⟩:=J.step H hN E;refine⟨D,V',O,_,G.sx S H B,λ_ h=>h.elim,?_⟩;have aS:=K.gx H G u.o.who;unfold kr;dsimp only;cases hq:kQ hs g with
  | mk dO q=>
   obtain⟨a',d⟩:=q;rw[hq] at y;cases d with
   | false=>exact⟨rfl,⟨u.g,u.bad,u.o,u.sq⟩,aS,y⟩
   | true=>
    obtain⟨h,rfl,e,hE⟩:=y;have f:Rf (9+(kZ:Int)) seq (kJ (9+kZ) seq):=⟨u.o.who,u.sq,rfl⟩;exact O1 (b:={(⟨du,es,kZ,seq,i,dn,bad,.mQ hs⟩:Bk) with done:=decide (h.j8=1)}) ⟨u.g,u.bad,u.o,u.sq⟩ (aS.rd.ready S f aS.hD e hE)
 | pR bb k=>
  obtain⟨u,eb,J,x4⟩:=x;have eb:kZ=bb:=eb.symm;subst eb;dsimp only at J;have T:¬sM (s.W 376).v (2 ^ kZ)=0:=by
   obtain⟨c,j8,e,hr,hx⟩:=B.bw;rw[e];intro z;have:=(hx kZ u.o.1).1 z;have:=(u.o.2 kZ u.o.1).2 rfl;omega
  have aT:Dr t D V O s D V O s'->po D V s' (9+kZ):=λR=>J.mono H (λ_ _=>rfl) R.toGs;cases k with
  | look=>
   obtain rfl:=x4;obtain⟨q1,_,rfl⟩:=E.kD;obtain⟨X,R⟩:=Q q1;refine⟨D,V,O,_,X,λ_ h=>h.elim,?_⟩;unfold kr m3 lO;dsimp only;rw[if_neg T];exact⟨rfl,u.ZE R,rfl,aT R,T,rfl⟩
  | swap w=>
   obtain⟨x4,rfl⟩:=x4;rcases E.p7 with ⟨U,rfl,Z,_⟩| ⟨U,rfl,Z⟩
   ·subst U;obtain⟨X,o⟩:=H.pR hN B ht u.o J Z;refine⟨D,V,_,_,X,λ_ h=>h.elim,?_⟩;exact⟨rfl,u.bad,o⟩
   ·obtain⟨X,R⟩:=Q Z;refine⟨D,V,O,_,X,λ_ h=>h.elim,?_⟩;unfold kr m3 lO;dsimp only;rw[if_neg (by simp),if_neg T];exact⟨rfl,u.ZE R,rfl,aT R,T,rfl⟩
  | done z=>exact x4.elim
 | over=>exact x.elim
end
def vC (l:List Ac):Prop:=∀x∈l,x.op=7\/x.op=8
abbrev aaE (p q:Int):Ac:=⟨4,p,W0,⟨3,q,0⟩⟩
abbrev L5 (p q:Int):Ac:=⟨4,p,W0,⟨0,q,0⟩⟩
section
variable (D:Dg) (V:Vg) (s:Sh) (t:Nat)
inductive sQ (w:Sw):List Ac->Prop where
 | yQ (K0 K1 K2:List Ac):Claim D V s t w.seq->vC K0->vC K1->vC K2->sQ w (aaE (jP t) w.seq::(K0++(mm (kh w.es) (jP t+1)++(K1++L5 (jP t) w.seq::K2))))
 | Oq (k:Nat) (K K1 K2:List Ac):IV D V s t t w.seq w.es k->k<=(kh w.es).length->vC K->vC K1->vC K2->sQ w (K++(mm ((kh w.es).drop k) (jP t+1+k)++(K1++L5 (jP t) w.seq::K2)))
 | zq (K2:List Ac):Ou D V s t w.seq w.es->vC K2->sQ w K2
structure Yv (w:Sw):Prop where
 g:Good w.es
 t:w.t=t
 sq:1<=w.seq/\w.seq<=1000
def I8 (w:Sw) (a:Ac):Prop:=
 Yv t w/\match w.ph with
 | .pO=>Claim D V s t w.seq/\a=Gq (mR t)
 | .last hs=>Claim D V s t w.seq/\∃r,tD D V s t r hs a
 | .qx l=>sQ D V s t w (a::l)/\l.length<=45
 | .own hs=>Ou D V s t w.seq w.es/\tD D V s t (kJ t w.seq) hs a
 | _=>False
structure OC (q1:Int):Prop where
 rd:po D V s t
 st:∃v q,s.W (jP t)=⟨v,q,0⟩/\q<=q1
def Sf (es:List Et) (q1:Int):SR->Prop
 | (w,a,false)=>w.es=es/\w.seq=q1/\I8 D V s t w a
 | (w,_,true)=>w.es=es/\OC D V s t q1
def BT (c:Int) (x:W3):Prop:=∃es e,D x.ref=some es/\e∈es/\e.at'=c/\x=⟨e.old.v,e.old.j8,x.ref⟩
def Bg (w:Sw) (a:Ac):Prop:=
 ∃e,w.es=[e]/\(56<=e.at'/\e.at'<62)/\C5 e.new/\e.old.ref=0/\match w.ph with
 | .rE=>a=Gq e.at'
 | .pK x hs=>BT D e.at' x/\tD D V s t x.ref hs a
 | .qv=>∃x,BT D e.at' x/\a=⟨6,e.at',x,⟨x.v,x.j8,0⟩⟩/\¬Live s x.ref
 | .sv=>a=⟨6,e.at',e.old,⟨e.new,(e.old.j8+1) % 4294967296,0⟩⟩
 | .send l ok=>vC (a::l)/\l.length<=2
 | _=>False
def IB (es:List Et):SR->Prop
 | (w,a,false)=>w.es=es/\Bg D V s t w a
 | (w,_,true)=>w.es=es
def I7 (p:Pk) (a:Ac):Prop:=
 ((∀c∈p.at',56<=c/\c<62)/\p.at'.length<=6)/\match p.ph with
 | .found=>(p.i<p.at'.length/\p.now.length=p.i)/\a=Gq (vg p)
 | .mQ hs=>(p.i<p.at'.length/\p.now.length=p.i)/\BT D (vg p) p.held/\tD D V s t p.held.ref hs a
 | .back=>(p.i<p.at'.length/\p.now.length=p.i)/\BT D (vg p) p.held/\a=⟨6,vg p,p.held,⟨p.held.v,p.held.j8,0⟩⟩/\¬Live s p.held.ref
 | .flush=>a.op=7
 | .last=>a.op=8
 | .over=>False
def Nn (l:List Int):PR->Prop
 | (p,a,false)=>p.at'=l/\I7 D V s t p a
 | (p,_,true)=>p.at'=l
end
section
variable {D D':Dg} {V V':Vg} {O O':wB} {N:Int} {s s':Sh} {t:Nat} {r who q q1 c:Int} {es:List Et} {e:Et} {a:Ac} {g:lA} {hs:List Hs} {x:W3} {w:Sw}
def l8 (h:1<=t/\t<=3):ke t:=by unfold ke; omega
def m7:Tc O t t:=.inl rfl
def s8 (h:1<=t/\t<=3):jP t=mR t:=by unfold jP; rw[if_neg (by omega)]
def sQ.mono (H:SI D V N s) (R:Dr t D V O s D' V' O' s') (h:1<=t/\t<=3) (g:w.es.length<=6) {l:List Ac} (x:sQ D V s t w l):sQ D' V' s' t w l:=by
 cases x with
 | yQ G u B h1 h2 E F=>exact .yQ G u B (h1.mono H R (l8 h) m7) h2 E F
 | Oq k K u B h1 h2 E F J=>exact .Oq k K u B (h1.mono H R (l8 h) m7 g) h2 E F J
 | zq _ h1 h2=>exact .zq _ (h1.mono H R (l8 h) m7) h2
def I8.mono (H:SI D V N s) (R:Dr t D V O s D' V' O' s') (u:1<=t/\t<=3) (x:I8 D V s t w a):I8 D' V' s' t w a:=by
 obtain⟨h,x⟩:=x;refine⟨h,?_⟩;cases B:w.ph <;> rw[B] at x
 case pO=>exact⟨x.1.mono H R (l8 u) m7,x.2⟩
 case last hs=>obtain⟨E,r,F⟩:=x;exact⟨E.mono H R (l8 u) m7,r,F.mono H R.toGs⟩
 case qx l=>exact⟨sQ.mono H R u h.g.len.2 x.1,x.2⟩
 case own hs=>exact⟨x.1.mono H R (l8 u) m7,x.2.mono H R.toGs⟩
 all_goals exact x
def OC.mono (H:SI D V N s) (R:Dr t D V O s D' V' O' s') (u:1<=t/\t<=3) (x:OC D V s t q1):OC D' V' s' t q1:=by
 obtain⟨k,d⟩:=R.kp t (l8 u) m7;obtain⟨v,q,e,h⟩:=x.st;obtain⟨B,e',_⟩:=k.st v q e;exact⟨x.rd.mono H d R.toGs,B,q,e',h⟩
def OC.kept {A:Int->Prop} (H:SI D V N s) (X:Sx A t D V O N s D' V' O' s') (u:¬A t) (B:1<=t/\t<=3) (x:OC D V s t q1):OC D' V' s' t q1:=by
 obtain⟨k,d⟩:=X.kp t (l8 B) u;obtain⟨v,q,e,h⟩:=x.st;obtain⟨E,e',_⟩:=k.st v q e;exact⟨x.rd.mono H d X.gs,E,q,e',h⟩
def BT.mono (G:Gs D V s D' V' s') (h:BT D c x):BT D' c x:=let⟨es,e,h1,h2⟩:=h; ⟨es,e,G.dd _ _ h1,h2⟩
def BT.live (G:Gs D V s D' V' s') (h:BT D c x) (l:¬Live s x.ref):¬Live s' x.ref:=let⟨es,e,h1,_⟩:=h; λy=>l (G.live _ _ h1 y)
def Bg.mono (H:SI D V N s) (G:Gs D V s D' V' s') (x:Bg D V s t w a):Bg D' V' s' t w a:=by
 obtain⟨e,h1,h2,u,B,x⟩:=x;refine⟨e,h1,h2,u,B,?_⟩;cases E:w.ph <;> rw[E] at x
 case pK y hs=>exact⟨x.1.mono G,x.2.mono H G⟩
 case qv=>obtain⟨y,h,F,J⟩:=x;exact⟨y,h.mono G,F,h.live G J⟩
 all_goals exact x
def I7.mono (H:SI D V N s) (G:Gs D V s D' V' s') {p:Pk} (x:I7 D V s t p a):I7 D' V' s' t p a:=by
 obtain⟨h1,x⟩:=x;refine⟨h1,?_⟩;cases h:p.ph <;> rw[h] at x
 case mQ hs=>exact⟨x.1,x.2.1.mono G,x.2.2.mono H G⟩
 case back=>exact⟨x.1,x.2.1.mono G,x.2.2.1,x.2.1.live G x.2.2.2⟩
 all_goals exact x
def SI.met (H:SI D V N s) (h1:56<=c) (h2:c<62) (h:¬(s.W c).ref=0):BT D c (s.W c)/\∃es,D (s.W c).ref=some es:=by
 obtain⟨es,e,a,b,d,f⟩:=H.cell c h1 h2 h;refine⟨⟨es,e,a,b,d,?_⟩,es,a⟩;unfold kS at f;rw[d] at f;exact f
def uu {r:Int} (h:¬kj r=0):¬r=0:=λe=>h (by rw[e]; rfl)
def BT.back (H:SI D V N s) (u:N+1<1000000) (B:BI D V O s) (m:BT D c x) (l:¬Live s x.ref) (E:s5 t s s' ⟨6,c,x,⟨x.v,x.j8,0⟩⟩ g):Sx (λ_=>False) t D V O N s D V O s':=by
 obtain⟨es,e,h1,h2,rfl,F⟩:=m;rcases E.p7 with ⟨J,_,h,_⟩| ⟨J,_,h⟩
 ·have M:kS s x.ref e:=J.trans F;have K:x.v=e.old.v/\x.j8=e.old.j8:=by rw[F];exact⟨rfl,rfl⟩
  obtain⟨S,G⟩:=H.SU u h1 h2 h M (H.gone h1 l).1 (.inl ⟨by rw[K.1,K.2],λ_ _=>l⟩);exact G.sx S H B
 ·exact(tE H u B h E.mono).1
def sQ.step (H:SI D V N s) (hN:N+1<1000000) (aS:1000<=N) (B:BI D V O s) (ht:1<=t/\t<=3) (h:Yv t w) {l:List Ac} (x:sQ D V s t w (a::l)) (E:s5 t s s' a g) :
  ∃D' V' A,Sx A t D V O N s D' V' O s'/\(∀who,A who->who=t)/\sQ D' V' s' t w l:=by
 have hw:=l8 ht;have Q:(a.op=7\/a.op=8)->Sx (λ_=>False) t D V O N s D V O s'/\Dr t D V O s D V O s':=λo=>by
  obtain⟨op,p,old,new⟩:=a;exact tE H hN B (E.mF o) E.mono
 have aT:1<=w.seq/\w.seq<1000000:=by have:=h.sq;omega
 generalize u:a::l=L at x;cases x with
 | yQ K0 G J h1 h2 M T=>
  obtain⟨rfl,rfl⟩:=cK u;obtain⟨U,_,_⟩:=E.Dz (.inr rfl);obtain⟨X,F⟩:=h1.fill (es:=w.es) H hN aS B hw m7 U;refine⟨D,V,_,X,λ_ h=>h,?_⟩;have:=sQ.Oq 0 K0 G J F (aO _) h2 M T;rwa [dW,gR,eI] at this
 | Oq k K G J F hk h2 M T=>
  cases K with
  | cons y K=>
   obtain⟨rfl,rfl⟩:=cK u;obtain⟨X,R⟩:=Q (h2 a aM);exact⟨D,V,_,X,λ_ h=>h.elim,.Oq k K G J (F.mono H R hw m7 h.g.len.2) hk (λy Z=>h2 y (aL _ Z)) M T⟩
  | nil=>
   rw[eK] at u;by_cases e:k<(kh w.es).length
   ·rw[bP e] at u;obtain⟨rfl,rfl⟩:=cK u;obtain⟨U,y2,_⟩:=E.Dz (.inl rfl);obtain⟨X,F'⟩:=F.store H hN B hw m7 h.g.len.2 (aB e) U y2;refine⟨D,V,_,X,λ_ h=>h,?_⟩;have:=sQ.Oq (k+1) [] G J F' e (λ_ h=>by cases h) M T;rw[eK] at this;rwa [show jP t+1+(k:Int)+1=jP t+1+((k+1:Nat):Int) by omega]
   ·have ek:k=(kh w.es).length:=by omega
    rw[dH (by omega)] at u;have u:a::l=G++L5 (jP t) w.seq::J:=u;cases G with
    | cons y G=>
     obtain⟨rfl,rfl⟩:=cK u;obtain⟨X,R⟩:=Q (M a aM);refine⟨D,V,_,X,λ_ h=>h.elim,?_⟩;have:=sQ.Oq k [] G J (F.mono H R hw m7 h.g.len.2) hk (λ_ h=>by cases h) (λy Z=>M y (aL _ Z)) T;rwa [dH (by omega)] at this
    | nil=>
     obtain⟨rfl,rfl⟩:=cK u;obtain⟨U,_,y2⟩:=E.Dz (.inr rfl);have f:Rf (t:Int) w.seq (kJ t w.seq):=⟨hw,aT,rfl⟩;rw[ek,kO] at F;obtain⟨X,hD,rd⟩:=F.opened H hN B f m7 ht h.g U (y2 rfl);exact⟨_,_,_,X,λ_ h=>h,.zq _ ⟨hD,rd,0,U.self⟩ T⟩
 | zq _ h1 h2=>
  subst u;obtain⟨X,R⟩:=Q (h2 a aM);exact⟨D,V,_,X,λ_ h=>h.elim,.zq l (h1.mono H R hw m7) λy Z=>h2 y (aL _ Z)⟩
def vO (w:Sw) (l:List Int):vC (od w l):=λy u=>by
 unfold od at u;split at u
 ·rcases bB.1 u with h | h
  ·obtain⟨p,_,rfl⟩:=dC.1 h;exact .inl rfl
  ·rw[aN] at h;subst h;exact .inr rfl
 ·cases u
def sQ.nil (x:sQ D V s t w []):Ou D V s t w.seq w.es:=by
 generalize h:([]:List Ac)=L at x;cases x with
 | yQ=>cases h
 | Oq k K u B=>
  have:=congrArg List.length h;simp only[aF,aH,aJ] at this;omega
 | zq _ h1 _=>exact h1
def Hf (G:1<=t/\t<=3) (h:Yv t w) {l:List Ac} (x:sQ D V s t w l) (H:l.length<=46):Sf D V s t w.es w.seq (BJ w l):=by
 cases l with
 | nil=>
  have P:=x.nil;refine⟨rfl,rfl,⟨h.g,h.t,h.sq⟩,P,?_⟩;have y:=tD.new (D:=D) (V:=V) (s:=s) (t:=t) P.hD w.kY;rw[DG (l8 G) (by have:=h.sq; omega)] at y;rw[h.t];exact y
 | cons a l=>
  refine⟨rfl,rfl,⟨h.g,h.t,h.sq⟩,?_,by rw[aH] at H; omega⟩;generalize Q:a::l=L at x;show sQ D V s t {w with ph:=.qx l} L;cases x with
  | yQ J u B h1 h2 E F=>exact .yQ J u B h1 h2 E F
  | Oq k K u B h1 h2 E F M=>exact .Oq k K u B h1 h2 E F M
  | zq _ h1 h2=>exact .zq _ h1 h2
def wk (w:Sw) (l:List Int):(od w l).length<=l.length+1:=by
 unfold od;split
 ·rw[aF,bE];exact aP _
 ·exact aO _
def FF:∀(l:List W3) (p:Int),(mm l p).length=l.length
 | [],_=>rfl
 | _::r,p=>by show(mm r (p+1)).length+1=r.length+1;rw[FF r]
def EA (g:w.es.length<=6):(mX w).length<=45:=by
 have h1:=wk w [Dk w];have h2:=wk w (mf (Dk w) (kh w.es).length);have h:(mf (Dk w) (kh w.es).length).length<=(kh w.es).length:=by
  unfold mf;refine cD (iY _ _) ?_;rw[bE,dV];exact aP _
 have u:=kO w.es;have B:=FF (kh w.es) (Dk w+1);unfold mX;dsimp only;simp only[aF,aH,aJ] at h1⊢;omega
def Hx (u:1<=t/\t<=3) (h:Yv t w) (x:Claim D V s t w.seq):Sf D V s t w.es w.seq (vT w):=by
 refine Hf u h ?_ (by have:=EA h.g.len.2; omega);have y:=sQ.yQ (w:=w) (od w [jP t]) (od w (mf (jP t) (kh w.es).length)) (od w [jP t]) x (vO _ _) (vO _ _) (vO _ _);unfold mX Dk;dsimp only;rw[h.t,<-s8 u];simpa only[cY,dL,eK] using y
def I8.step (H:SI D V N s) (T:N+1<1000000) (U:1000<=N) (B:BI D V O s) (F:1<=t/\t<=3) (x:I8 D V s t w a) (E:s5 t s s' a g) :
  ∃D' V' A,Sx A t D V O N s D' V' O s'/\(∀who,A who->who=t)/\Sf D' V' s' t w.es w.seq (kP w g):=by
 have hw:=l8 F;obtain⟨h,x⟩:=x;have Z:1<=w.seq/\w.seq<1000000:=by have:=h.sq;omega
 have Q:s.quiet s'->Sx (λ_=>False) t D V O N s D V O s'/\Dr t D V O s D V O s':=λq=>tE H T B q E.mono;cases M:w.ph <;> rw[M] at x
 case pO=>
  obtain⟨J,rfl⟩:=x;obtain⟨q1,_,rfl⟩:=E.kD;obtain⟨X,R⟩:=Q q1;refine⟨D,V,_,X,λ_ h=>h.elim,?_⟩;have u:=J.mono H R hw m7;obtain⟨v,q,e,h1,h2⟩:=J.st;rw[s8 F] at e;unfold kP;rw[M];dsimp only;unfold ug;rw[e];dsimp only;rw[if_neg (by omega),h.t];split
  ·exact Hx F h u
  ·rename_i z;have z1:K4 t q=true:=bC λy=>z (.inl (by simpa using y));have z2:v=0\/v=1:=bC λy=>z (.inr y);obtain⟨v',q',I⟩:=H.st _ hw;have e':=I.eq;rw[s8 F,e] at e';simp only[W3.mk.injEq,and_true] at e';obtain⟨rfl,rfl⟩:=e';have K:1<=q/\q<1000000:=by
    unfold K4 at z1;have:=of_decide_eq_true z1;have:=I.qr;have:=H.nN;omega
   obtain⟨es,hD,_⟩:=I.op K.1 (by omega);have y:=tD.new (D:=D) (V:=V) (s:=s') (t:=t) hD w.kY;rw[DG hw K] at y;exact⟨rfl,rfl,⟨h.g,rfl,h.sq⟩,u,_,y⟩
 case last hs=>
  obtain⟨J,r,x2⟩:=x;obtain⟨V',S,G,y⟩:=x2.step H T E;have X:=G.sx (t:=t) S H B;have R:Dr t D V O s D V' O s':={G.toGs with kp:=λwho hw _=>⟨G.kp who hw,λ_ _=>rfl⟩,ow:=λ_ _=>fC};refine⟨D,V',_,X,λ_ h=>h.elim,?_⟩;have u:=J.mono H R hw m7;unfold kP;rw[M];dsimp only;cases K:kQ hs g with
  | mk aS q=>
   obtain⟨a',d⟩:=q;rw[K] at y;cases d with
   | false=>exact⟨rfl,rfl,⟨h.g,h.t,h.sq⟩,u,r,y⟩
   | true=>exact Hx F h u
 case qx l=>
  obtain⟨D',V',A,X,hA,y⟩:=sQ.step H T U B F h x.1 E;refine⟨D',V',A,X,hA,?_⟩;unfold kP;rw[M];exact Hf F h y (by have:=x.2; omega)
 case own hs=>
  obtain⟨J,x2⟩:=x;obtain⟨V',S,G,y⟩:=x2.step H T E;have X:=G.sx (t:=t) S H B;refine⟨D,V',_,X,λ_ h=>h.elim,?_⟩;have u:=J.gx H G hw;unfold kP;rw[M];dsimp only;cases K:kQ hs g with
  | mk aS q=>
   obtain⟨a',d⟩:=q;rw[K] at y;cases d with
   | false=>exact⟨rfl,rfl,⟨h.g,h.t,h.sq⟩,u,y⟩
   | true=>
    obtain⟨k,rfl,e,hE⟩:=y;have f:Rf (t:Int) w.seq (kJ t w.seq):=⟨hw,Z,rfl⟩;obtain⟨v',e'⟩:=u.st;exact⟨rfl,u.rd.ready S f u.hD e hE,v',_,e',bA _⟩
 all_goals exact x.elim
end
section
variable {D:Dg} {V V':Vg} {O:wB} {N:Int} {s s':Sh} {t:Nat} {q q1 c:Int} {es:List Et} {e:Et} {a:Ac} {g:lA} {hs:List Hs} {x:W3} {w:Sw} {p:Pk}
def CZ (h:w.es=[e]):sE w=e:=by unfold sE; rw[h]; rfl
def CJ {l:List Ac} {ok:Bool} (h1:w.es=[e]) (h2:56<=e.at'/\e.at'<62) (h:C5 e.new) (u:e.old.ref=0) (B:vC l) (E:l.length<=3):IB D V s t w.es (uO w ok l):=by
 cases l with
 | nil=>exact rfl
 | cons y l=>exact⟨rfl,e,h1,h2,h,u,B,by rw[aH] at E; omega⟩
def Hv (h1:w.es=[e]) (h2:56<=e.at'/\e.at'<62) (h:C5 e.new) (u:e.old.ref=0):IB D V s t w.es (zS w):=
 ⟨rfl,e,h1,h2,h,u,by show Ac.mk 5 (sE w).at' W0 W0=_; rw[CZ h1]⟩
def Kj (H:SI D V N s) (h1:w.es=[e]) (h2:56<=e.at'/\e.at'<62) (h:C5 e.new) (u:e.old.ref=0):IB D V s t w.es (yH w (s.W e.at')):=by
 unfold yH;rw[CZ h1];split
 ·rename_i z;obtain⟨m,B,hD⟩:=H.met h2.1 h2.2 (uu z.1);exact⟨rfl,e,h1,h2,h,u,m,tD.new hD w.kY⟩
 ·split
  ·exact CJ h1 h2 h u (vO _ _) (cD (wk _ _) (eM 2))
  ·rename_i z;have z:s.W e.at'=e.old:=dN.1 z;refine⟨rfl,e,h1,h2,h,u,?_⟩;show Ac.mk 6 e.at' (s.W e.at') ⟨e.new,((s.W e.at').j8+1) % 4294967296,0⟩=_;rw[z]
def Bg.step (H:SI D V N s) (F:N+1<1000000) (B:BI D V O s) (x:Bg D V s t w a) (E:s5 t s s' a g) :
  ∃V',Sx (·=0) t D V O N s D V' O s'/\IB D V' s' t w.es (kP w g):=by
 obtain⟨e,h1,h2,h,u,x⟩:=x;have Q:s.quiet s'->Sx (·=0) t D V O N s D V O s'/\Dr t D V O s D V O s':=λq=>let⟨X,R⟩:=tE H F B q E.mono;⟨X.Vw,R⟩;unfold kP;cases T:w.ph <;> rw[T] at x
 case rE=>
  obtain rfl:=x;obtain⟨q1,_,rfl⟩:=E.kD;obtain⟨X,R⟩:=Q q1;refine⟨V,X,?_⟩;dsimp only;rw[<-q1.1 e.at'];exact Kj X.si h1 h2 h u
 case pK y hs=>
  obtain⟨J,U⟩:=x;obtain⟨V',S,G,z⟩:=U.step H F E;refine⟨V',G.sx0 S H B,?_⟩;dsimp only;cases Z:kQ hs g with
  | mk aS q=>
   obtain⟨a',d⟩:=q;rw[Z] at z;cases d with
   | false=>exact⟨rfl,e,h1,h2,h,u,J.mono G.toGs,z⟩
   | true=>
    obtain⟨k,rfl,ek,hE⟩:=z;dsimp only;by_cases v4:¬HM [k]=4
    ·rw[if_pos v4];exact Hv h1 h2 h u
    ·rw[if_neg v4];refine⟨rfl,e,h1,h2,h,u,y,J.mono G.toGs,by rw[CZ h1],?_⟩;have v4:k.j8=4:=dN.1 v4;obtain⟨_,aT,z1,z2,z3⟩:=hE;rw[<-ek];rcases z3.vr with y | y | y
     ·omega
     ·omega
     ·exact y.2
 case qv=>
  obtain⟨y,J,rfl,x3⟩:=x;exact⟨V,(J.back H F B x3 E).Vw,Hv h1 h2 h u⟩
 case sv=>
  obtain rfl:=x;dsimp only;rcases E.p7 with ⟨K,rfl,M,_⟩| ⟨K,rfl,M⟩
  ·have hv:=H.j8 e.at' h2.1 h2.2;rw[K] at hv;obtain⟨S,G⟩:=H.Vf F h h2 (by
    rw[show((s.W e.at').j8+1)=(e.old.j8+1) % 4294967296 by rw[K]; have:=H.nN; omega];exact M) (by rw[K];exact u)
   refine⟨V,G.sx0 S H B,?_⟩;rw[if_pos rfl];exact CJ h1 h2 h u (vO _ _) (cD (wk _ _) (eM 2))
  ·obtain⟨X,R⟩:=Q M;refine⟨V,X,?_⟩;rw[if_neg (by simp)];dsimp only;rw[<-M.1 e.at'];exact Kj X.si h1 h2 h u
 case send l ok=>
  obtain⟨X,R⟩:=Q (by
   obtain⟨op,p,o,n⟩:=a;exact E.mF (x.1 _ aM))
  exact⟨V,X,CJ h1 h2 h u (λy hy=>x.1 y (aL _ hy)) (by have:=x.2; omega)⟩
 all_goals exact x.elim
def ze (h1:(∀c∈p.at',56<=c/\c<62)/\p.at'.length<=6) (hi:p.i<p.at'.length/\p.now.length=p.i):Nn D V s t p.at' (uF p):=⟨rfl,h1,hi,rfl⟩
def Fx (h1:(∀c∈p.at',56<=c/\c<62)/\p.at'.length<=6):Nn D V s t p.at' (oQ p):=by
 unfold oQ;split
 ·exact⟨rfl,h1,rfl⟩
 ·exact⟨rfl,h1,rfl⟩
def LX (h1:(∀c∈p.at',56<=c/\c<62)/\p.at'.length<=6) (hi:0<p.at'.length):Nn D V s t p.at' (qR p):=by
 unfold qR;dsimp only;split
 ·exact ze (p:={p with rounds:=p.rounds+1,pC:=p.now,now:=[],i:=0}) h1 ⟨hi,rfl⟩
 ·split
  ·exact Fx (p:={p with rounds:=p.rounds+1,i:=0}) h1
  ·exact rfl
def y9 (h1:∀c∈p.at',56<=c/\c<62) (hi:p.i<p.at'.length):56<=vg p/\vg p<62:=by
 unfold vg;rw[aI,aB hi];exact h1 _ (dM hi)
def I7.step (H:SI D V N s) (u:N+1<1000000) (B:BI D V O s) (x:I7 D V s t p a) (E:s5 t s s' a g) :
  ∃V',Sx (λ_=>False) t D V O N s D V' O s'/\Nn D V' s' t p.at' (nO p g):=by
 obtain⟨h1,x⟩:=x;have Q:s.quiet s'->Sx (λ_=>False) t D V O N s D V O s'/\Dr t D V O s D V O s':=λq=>tE H u B q E.mono;unfold nO;cases J:p.ph <;> rw[J] at x
 case found=>
  obtain⟨hi,rfl⟩:=x;obtain⟨q1,_,rfl⟩:=E.kD;obtain⟨X,R⟩:=Q q1;refine⟨V,X,?_⟩;have F:=y9 h1.1 hi.1;dsimp only;rw[<-q1.1 (vg p)];unfold uq;split
  ·rename_i z;obtain⟨m,K,hD⟩:=X.si.met F.1 F.2 (uu (by omega));exact⟨rfl,h1,hi,m,tD.new hD p.kY⟩
  ·dsimp only;split
   ·rename_i z;exact ze (p:={p with now:=p.now++[s'.W (vg p)],i:=p.i+1}) h1 ⟨z,by dsimp only; rw[aF,aE,hi.2]⟩
   ·exact LX (p:={p with now:=p.now++[s'.W (vg p)],i:=p.i+1}) h1 (by have:=hi.1; dsimp only; omega)
 case mQ hs=>
  obtain⟨hi,h,M⟩:=x;obtain⟨V',S,G,z⟩:=M.step H u E;refine⟨V',G.sx S H B,?_⟩;dsimp only;cases T:kQ hs g with
  | mk U q=>
   obtain⟨a',d⟩:=q;rw[T] at z;cases d with
   | false=>exact⟨rfl,h1,hi,h.mono G.toGs,z⟩
   | true=>
    obtain⟨k,rfl,Z,hE⟩:=z;dsimp only;by_cases v4:¬HM [k]=4
    ·rw[if_pos v4];exact ze h1 hi
    ·rw[if_neg v4];refine⟨rfl,h1,hi,h.mono G.toGs,rfl,?_⟩;have v4:k.j8=4:=dN.1 v4;obtain⟨_,aS,z1,z2,z3⟩:=hE;show ¬Live s' p.held.ref;rw[<-Z];rcases z3.vr with y | y | y
     ·omega
     ·omega
     ·exact y.2
 case back=>
  obtain⟨hi,h,rfl,x3⟩:=x;exact⟨V,h.back H u B x3 E,ze h1 hi⟩
 case flush=>
  obtain⟨X,R⟩:=Q (by
   obtain⟨op,p,o,n⟩:=a;exact E.mF (.inl x))
  exact⟨V,X,Fx h1⟩
 case last=>
  obtain⟨X,R⟩:=Q (by
   obtain⟨op,p,o,n⟩:=a;exact E.mF (.inr x))
  exact⟨V,X,rfl⟩
 case over=>exact x.elim
end
def Yn (w:W3):Prop:=C5 w.v/\0<=w.j8/\w.j8<16777216
section
variable {o:ng} {l:List W3}
def rO (h:¬o.ps=[]):1<=(jZ o).length/\(jZ o).length<=6:=by
 have h1:=Lz h;have h2:=Ic o.ps 6;by_cases q:o.d % 4=2
 ·unfold jZ;rw[if_pos q,aR];change 1<=min 1 (xF o.ps 6).length/\min 1 (xF o.ps 6).length<=6;omega
 ·rw[Bq q];exact⟨h1,h2⟩
def GY (i j:Nat) (a b:Pt) (q:i<j) (u:(jZ o)[i]?=some a) (h:(jZ o)[j]?=some b):kM a<kM b:=by
 by_cases B:o.d % 4=2
 ·exfalso;unfold jZ at h;rw[if_pos B] at h;have:=(aC.1 h).1;rw[aR] at this;omega
 ·rw[Bq B] at u h;have:=NG i j a b q u h;unfold kM;omega
def Bl (E:¬o.ps=[]) (H:l.length=(jZ o).length) (hw:∀w∈l,Yn w):Good (kx (jZ o) l):=by
 have h1:=rO E;have hlen:(kx (jZ o) l).length=(jZ o).length:=by unfold kx;rw[bE,jA];omega
 have q:∀e∈kx (jZ o) l,∃p w,e=nU p w/\Yn w:=λe he=>by
  unfold kx at he;obtain⟨x,G,rfl⟩:=dC.1 he;exact⟨x.1,x.2,rfl,hw _ (List.of_mem_zip (a:=x.1) (b:=x.2) G).2⟩
 refine⟨by rw[hlen]; exact h1,λe he=>?_,λi j a b F u B=>?_,λe he=>?_,λe he=>?_,λe he=>?_,λe he=>?_⟩
 ·obtain⟨p,w,rfl,_⟩:=q e he;exact rH p
 ·unfold kx at u B;rw[bU] at u B;cases h1:((jZ o).zip l)[i]? with
  | none=>rw[h1] at u;cases u
  | some x=>
   cases h2:((jZ o).zip l)[j]? with
   | none=>rw[h2] at B;cases B
   | some y=>
    rw[h1] at u;rw[h2] at B;simp only[cB,aD] at u B;subst u B;exact GY i j _ _ F (eU.1 h1).1 (eU.1 h2).1
 ·obtain⟨p,w,rfl,_⟩:=q e he;rfl
 ·obtain⟨p,w,rfl,h⟩:=q e he;exact h.2
 ·obtain⟨p,w,rfl,h⟩:=q e he;refine⟨h.1,?_⟩;show C5 (if p.wr=true then tG _ else w.v);split
  ·exact Zh _
  ·exact h.1
 ·obtain⟨p,w,rfl,_⟩:=q e he;intro h;have h:p.wr=false:=h;show(if p.wr=true then tG _ else w.v)=w.v;rw[h,if_neg (λx=>Bool.noConfusion x)]
end
section
variable (D:Dg) (V:Vg) (O:wB) (s:Sh) (t:Nat)
structure V3 (c:Cn) (k:Int):Prop where
 t:c.t=t
 br:c.broken=false
 ops:∀o∈c.ops,Hk o
 sq:0<=c.seq/\c.seq+c.ops.length<=k
 h8:c.ops.length<=8
def tN (c:Cn) (a:Ac):Prop:=
 match c.now with
 | none=>V3 t c 100/\OC D V s t c.seq/\sf O t/\∃o r k,c.ops=o::r/\¬o.ps=[]/\¬o.d % 4=3/\c.seen.length=k+1/\k<(jZ o).length/\a=Gq (((jZ o).map kM).getD k 0)/\∀w∈c.seen,Yn w
 | some d=>V3 t c 101/\c.seen=[]/\¬c.ops=[]/\(match d with
  | .sw w=>sf O t/\((I8 D V s t w a/\w.seq=c.seq)\/(Bg D V s t w a/\OC D V s t c.seq/\c.seq+c.ops.length<=100))
  | .bl b=>Eu D V O s t b a/\OC D V s t c.seq/\c.seq+c.ops.length<=100
  | .pk p=>I7 D V s t p a/\OC D V s t c.seq/\sf O t/\c.seq+c.ops.length<=100)
structure Yj (c:Cn):Prop where
 b:V3 t c 100
 sl:OC D V s t c.seq
 no:sf O t
def JR:CR->Prop
 | (c,a,false)=>tN D V O s t c a
 | (c,_,true)=>Yj D V O s t c
end
section
variable {D D':Dg} {V V':Vg} {O O':wB} {N:Int} {s s':Sh} {t:Nat} {a:Ac} {g:lA} {c:Cn}
def tN.mono (H:SI D V N s) (R:Dr t D V O s D' V' O' s') (q:1<=t/\t<=3) (x:tN D V O s t c a):tN D' V' O' s' t c a:=by
 unfold tN at *;cases u:c.now with
 | none=>
  rw[u] at x;exact⟨x.1,x.2.1.mono H R q,x.2.2.1.mono R,x.2.2.2⟩
 | some d=>
  rw[u] at x;obtain⟨B,E,F,h⟩:=x;refine⟨B,E,F,?_⟩;cases d with
  | sw w=>
   obtain⟨y,z⟩:=h;exact⟨y.mono R,z.imp (λz=>⟨z.1.mono H R q,z.2⟩) λz=>⟨z.1.mono H R.toGs,z.2.1.mono H R q,z.2.2⟩⟩
  | bl b=>exact⟨h.1.mono H R,h.2.1.mono H R q,h.2.2⟩
  | pk p=>exact⟨h.1.mono H R.toGs,h.2.1.mono H R q,h.2.2.1.mono R,h.2.2.2⟩
def Yj.mono (H:SI D V N s) (R:Dr t D V O s D' V' O' s') (h:1<=t/\t<=3) (x:Yj D V O s t c):Yj D' V' O' s' t c:=⟨x.b,x.sl.mono H R h,x.no.mono R⟩
def wx {o:ng} {r:List ng}:∀{l:List ng},nM l=o::r->(o::r).length<=l.length
 | [],h=>by cases h
 | x::l,h=>by
  by_cases e:x.ps=[]
  ·rw[wI e] at h;have:=wx h;simp only[aH] at this⊢;omega
  ·rw[qg e] at h;rw[h];exact aP _
def GX {o:ng} {r:List ng}:∀{l:List ng},nM l=o::r->∀x∈o::r,x∈l
 | [],h=>by cases h
 | x::l,h=>by
  by_cases e:x.ps=[]
  ·rw[wI e] at h;exact λy q=>aL _ (GX h y q)
  ·rw[qg e] at h;rw[h];exact λy q=>q
def aaO:Yn W0:=⟨by decide,by decide,by decide⟩
def E6 (u:V3 t c 100) (ht:1<=t/\t<=3) (hn:c.now=none) (K:OC D V s t c.seq) (U:sf O t) (hw:∀w∈kg c g,Yn w)
  (hl:c.seen=[]\/∃o r,c.ops=o::r/\¬o.ps=[]/\¬o.d % 4=3/\c.seen.length<=(jZ o).length):JR D V O s t (lX c g):=by
 have F:=u.sq;cases B:nM c.ops with
 | nil=>
  rw[Cu B];exact⟨⟨u.t,u.br,(λo h=>by cases h),(by dsimp only[List.length_nil]; omega),aO _⟩,K,U⟩
 | cons o r=>
  have G:=tZ B;have hlen:=wx B;have J:=GX B;have aT:=rO G;have H:∀(q k:Int),0<=q->q+(o::r).length<=k->∀{now seen},V3 t {c with ops:=o::r,now:=now,seen:=seen,seq:=q} k:=λq k h0 h1 {_ _}=>⟨u.t,u.br,λx M=>u.ops x (J x M),⟨h0,h1⟩,cD hlen u.h8⟩;have iS:(kg c g).length<=(jZ o).length:=by
   unfold kg;rcases hl with e | ⟨o',r',e1,e2,e3,e4⟩
   ·rw[if_pos e];exact aO _
   ·rw[e1,qg e2] at B;injection B with h1 h2;subst h1;split
    ·exact aO _
    ·rename_i z;have hc:1<=c.seen.length:=by
      cases hs:c.seen with
      | nil=>exact absurd hs z
      | cons x y=>rw[aH];omega
     rw[aF,bT,aE];omega
  by_cases Q:o.d % 4=3
  ·have bY:c.seen=[]:=by
    rcases hl with e | ⟨o',r',e1,e2,e3,e4⟩
    ·exact e
    ·rw[e1,qg e2] at B;injection B with h1 h2;subst h1;exact absurd Q e3
   unfold lX;rw[B];dsimp only;rw[if_neg (by rw[u.br]; simp),if_pos Q];refine⟨H c.seq 101 F.1 (by omega),bY,List.cons_ne_nil _ _,⟨⟨λx M=>?_,?_⟩,⟨?_,rfl⟩,rfl⟩,K,U,?_⟩
   ·obtain⟨p,_,rfl⟩:=dC.1 M;exact rH p
   ·show((jZ o).map kM).length<=6;rw[bE];exact aT.2
   ·show 0<((jZ o).map kM).length;rw[bE];omega
   ·show c.seq+((o::r).length:Nat)<=100;omega
  ·by_cases X:(kg c g).length<(jZ o).length
   ·rw[z7 B u.br Q X];show tN D V O s t _ _;unfold tN;dsimp only;rw[hn];refine⟨?_,K,U,o,r,(kg c g).length,rfl,G,Q,by rw[aF,aE],X,rfl,λw M=>?_⟩
    ·exact⟨u.t,u.br,λx M=>u.ops x (J x M),⟨F.1,by show c.seq+((o::r).length:Nat)<=100; omega⟩,cD hlen u.h8⟩
    ·rcases bB.1 M with h | h
     ·exact hw w h
     ·rw[aN.1 h];exact aaO
   ·have E:=Bl (l:=kg c g) G (by omega) hw;have R:¬o::r=[]:=λe=>by cases e
    have Z:c.seq+((o::r).length:Nat)<=100:=by omega
    by_cases h1:o.d % 4=1
    ·rw[sD (c2:={c with ops:=o::r,seen:=[],now:=some (.bl (Mw c.kY (kx (jZ o) (kg c g))))}) (a:=Gq mG) B u.br Q X (by
      unfold pB;dsimp only;rw[if_pos h1,if_pos E.ZD.bw])]
     exact⟨H c.seq 101 F.1 (by omega),rfl,R,⟨E,rfl,U,rfl,rfl⟩,K,Z⟩
    ·by_cases h2:o.d % 4=2/\((jZ o).getD 0 ⟨0,0,false⟩).wr=true
     ·have dO:(jZ o).length=1:=by
       have:jZ o=(xF o.ps 6).take 1:=by unfold jZ;rw[if_pos h2.1];rfl
       rw[this,aR];have:=Lz G;omega
      obtain⟨p,hp⟩:∃p,jZ o=[p]:=fJ.1 dO;obtain⟨w,eQ⟩:∃w,kg c g=[w]:=fJ.1 (by omega);have aS:kx (jZ o) (kg c g)=[nU p w]:=by rw[hp,eQ];rfl
      have iF:(kx (jZ o) (kg c g)).getD 0 K5=nU p w:=by rw[aS];rfl
      rw[aS] at E;have hm:nU p w∈[nU p w]:=aN.2 rfl;have iN:p.wr=true:=by have:=h2.2;rw[hp] at this;exact this
      rw[sD (c2:={c with ops:=o::r,seen:=[],now:=some (.sw (uT c.kY (nU p w)))}) (a:=Gq (nU p w).at') B u.br Q X (by
       unfold pB;dsimp only;rw[if_neg h1,if_pos h2,iF];have:tl (nU p w)=0:=by
        unfold tl;rw[if_neg (by rw[E.check]; simp),if_neg (by show ¬p.wr=false; rw[iN]; simp),if_neg (by rw[E.may hm]; simp)]
       rw[if_pos this])]
      exact⟨H c.seq 101 F.1 (by omega),rfl,R,U,.inr ⟨⟨nU p w,rfl,E.pl _ hm,(E.val _ hm).2,E.ref _ hm,rfl⟩,K,Z⟩⟩
     ·have T:=u.t;rw[sD (c2:={c with ops:=o::r,seen:=[],seq:=c.seq+1,now:=some (.sw (Ub c.t (c.seq+1) c.kY (kx (jZ o) (kg c g))))}) (a:=Gq (mR c.t)) B u.br Q X (by
       unfold pB;dsimp only;rw[if_neg h1,if_neg h2,if_pos (E.ZD.sw (by rw[T]; exact ht) (by omega))])]
      refine⟨H (c.seq+1) 101 (by omega) (by omega),rfl,R,U,.inl ⟨⟨⟨E,T,by show 1<=c.seq+1/\c.seq+1<=1000; omega⟩,⟨?_,K.rd⟩,by rw[T]⟩,rfl⟩⟩;obtain⟨v,q,e,hq⟩:=K.st;exact⟨v,q,e,by show q<c.seq+1; omega,.inr (by show c.seq+1<=1000; omega)⟩
def VY (c:Cn):Prop:=∀w,c.now=some (.sw w)->match w.ph with
 | .pO=>True
 | .last _=>True
 | .qx _=>True
 | .own _=>True
 | _=>False
def tN.step (H:SI D V N s) (Z:N+1<1000000) (aS:1000<=N) (B:BI D V O s) (T:1<=t/\t<=3) (x:tN D V O s t c a) (E:s5 t s s' a g) :
  ∃D' V' O' A,Sx A t D V O N s D' V' O' s'/\(VY c->¬A 0)/\JR D' V' O' s' t (ll c g):=by
 have nA:∀{A:Int->Prop} {b:Nat},(∀who,A who->who=9+(b:Int))->¬A t:=λh h'=>by have:=h _ h';omega
 unfold tN at x;unfold ll;cases hn:c.now with
 | none=>
  rw[hn] at x;obtain⟨u,Q,K,o,r,k,e1,e2,e3,e4,e5,rfl,hw⟩:=x;obtain⟨q1,_,rfl⟩:=E.kD;obtain⟨X,R⟩:=tE (t:=t) H Z B q1 E.mono;refine⟨D,V,O,_,X,λ_ h=>h,?_⟩;refine E6 u T hn (Q.mono H R T) (K.mono R) (λw hx=>?_) (.inr ⟨o,r,e1,e2,e3,by omega⟩);unfold kg at hx;split at hx
  ·cases hx
  ·rcases bB.1 hx with h | h
   ·exact hw w ((jB _).subset h)
   ·rw[aN.1 h];have aT:k<(jZ o).length:=e5;have hc:56<=((jZ o).map kM).getD k 0/\((jZ o).map kM).getD k 0<62:=by
     rw[aI,bU,aB aT];exact rH _
    have h1:=H.val _ hc.1 hc.2;have h2:=H.j8 _ hc.1 hc.2;have h3:=H.nN;exact⟨h1,by dsimp only; omega,by dsimp only; omega⟩
 | some d=>
  rw[hn] at x;obtain⟨u,J,M,x⟩:=x;have bY:=u.sq;have fin:∀{D' V' O'} (d':Cd),OC D' V' s' t c.seq->sf O' t->JR D' V' O' s' t (lX {c with done:=c.done++[wK d'],pQ:=c.pQ++A7 d',ops:=c.ops.tail,now:=none} qa):=λ{D' V' O'} d' Q K=>by
   have aT:c.ops.tail.length+1=c.ops.length:=by
    cases ho:c.ops with
    | nil=>exact absurd ho M
    | cons a b=>rfl
   refine E6 ⟨u.t,u.br,λo ho=>u.ops o (fV ho),⟨bY.1,by show c.seq+(c.ops.tail.length:Nat)<=100; omega⟩,(by have:=u.h8; show c.ops.tail.length<=8; omega)⟩ T rfl Q K (λw hw=>?_) (.inl J);unfold kg at hw;rw[if_pos (show c.seen=[] from J)] at hw;cases hw
  dsimp only;unfold yG lD;cases d with
  | sw w=>
   obtain⟨K,x⟩:=x;dsimp only;rcases x with ⟨x,eq⟩| ⟨x,Q,F⟩
   ·obtain⟨D',V',A,X,hA,y⟩:=x.step H Z aS B T E;refine⟨D',V',O,A,X,λ_ h=>(by have:=hA 0 h; omega),?_⟩;cases U:kP w g with
    | mk w' q=>
     obtain⟨a',dd⟩:=q;rw[U] at y;cases dd with
     | false=>exact⟨⟨u.t,u.br,u.ops,u.sq,u.h8⟩,J,M,K,.inl ⟨y.2.2,y.2.1.trans eq⟩⟩
     | true=>exact fin (.sw w') (eq▸y.2) K
   ·have x0:=x;obtain⟨V',X,y⟩:=x.step H Z B E;have G:=Q.kept H X (λh=>by have h:(t:Int)=0:=h; omega) T;refine⟨D,V',O,_,X,λh=>(?_:False).elim,?_⟩
    ·have h:=h w hn;obtain⟨_,_,_,_,_,x⟩:=x0;cases hp:w.ph <;> rw[hp] at x h <;> first | exact x | exact h
    cases U:kP w g with
    | mk w' q=>
     obtain⟨a',dd⟩:=q;rw[U] at y;cases dd with
     | false=>exact⟨⟨u.t,u.br,u.ops,u.sq,u.h8⟩,J,M,K,.inr ⟨y.2,G,F⟩⟩
     | true=>exact fin (.sw w') G K
  | bl b=>
   obtain⟨x,Q,F⟩:=x;obtain⟨D',V',O',A,X,hA,y⟩:=x.step H Z aS B T E;have G:=Q.kept H X (nA hA) T;refine⟨D',V',O',A,X,λ_ h=>(by have:=hA 0 h; omega),?_⟩;dsimp only;cases U:kr b g with
   | mk b' q=>
    obtain⟨a',dd⟩:=q;rw[U] at y;cases dd with
    | false=>exact⟨⟨u.t,u.br,u.ops,u.sq,u.h8⟩,J,M,y.2,G,F⟩
    | true=>exact fin (.bl b') G y.2.2
  | pk p=>
   obtain⟨x,Q,K,F⟩:=x;obtain⟨V',X,y⟩:=x.step H Z B E;have G:=Q.kept H X (λh=>h) T;refine⟨D,V',O,_,X,λ_ h=>h,?_⟩;dsimp only;cases U:nO p g with
   | mk p' q=>
    obtain⟨a',dd⟩:=q;rw[U] at y;cases dd with
    | false=>exact⟨⟨u.t,u.br,u.ops,u.sq,u.h8⟩,J,M,y.2,G,K,F⟩
    | true=>exact fin (.pk p') G K
end
def sh (m:Me):Sh where
 W:=λp=>if 0<=p then(m.top p.toNat).w else W0
 n:=λp=>if 0<=p then((m.at p.toNat).length:Int) else 0
 v:=λt p=>m.view t p
 tv:=λp j=>if 0<=p then(m.top p.toNat).f j else 0
structure Lc (n:Nat) (m:Me):Prop where
 vs:m.vs.length=3
 hs:m.hs.length=n
 ne:∀i,i<n->1<=(m.at i).length
 vb:∀f∈m.vs,∀i:Nat,i<n->f i<=((m.at i).length - 1:Nat)
 mb:∀k,k<n->∀x∈m.at k,∀i:Nat,i<n->x.f i<=((m.at i).length - 1:Nat)
section
variable {m:Me} {n t u i k q:Nat} {x:AM} {w:W3} {jn wl:Bool}
def we (h:t - 1<m.vs.length):(m.qy t i q x jn).view u=if u - 1=t - 1 then(if jn then Ep (nm (m.view t) i q) x.f else nm (m.view t) i q) else m.view u:=by
 unfold Me.view Me.qy;dsimp only;rw[aI,bH];by_cases e:t - 1=u - 1
 ·rw[if_pos e,if_pos h,if_pos e.symm];rfl
 ·rw[if_neg e,if_neg (λx=>e x.symm),<-aI]
def tC (h:i<m.hs.length):(m.add t i w wl).at k=if k=i then m.at i++[⟨w,if wl then nm (m.view t) i (m.at i).length else nm (λ_=>0) i (m.at i).length⟩] else m.at k:=by
 unfold Me.at Me.add;dsimp only;rw[aI,bH];by_cases e:i=k
 ·subst e;rw[if_pos rfl,if_pos h,if_pos rfl];rfl
 ·rw[if_neg e,if_neg (λx=>e x.symm),<-aI]
def D7 (h:i<m.hs.length):(m.add t i w wl).top k=if k=i then⟨w,if wl then nm (m.view t) i (m.at i).length else nm (λ_=>0) i (m.at i).length⟩ else m.top k:=by
 unfold Me.top;rw[tC h];by_cases e:k=i
 ·rw[if_pos e,if_pos e,List.getLast?_append];rfl
 ·rw[if_neg e,if_neg e]
def Bf (h:t - 1<m.vs.length):(m.add t i w wl).view u=if u - 1=t - 1 then nm (m.view t) i (m.at i).length else m.view u:=by
 unfold Me.view Me.add;dsimp only;rw[aI,bH];by_cases e:t - 1=u - 1
 ·rw[if_pos e,if_pos h,if_pos e.symm];rfl
 ·rw[if_neg e,if_neg (λx=>e x.symm),<-aI]
def DN (f:Int->Int) (l n j:Int):f j<=nm f l n j:=by unfold nm; split <;> omega
def SE (e:u - 1=t - 1):m.view u=m.view t:=by unfold Me.view; rw[e]
def Ny:(sh m).W i=(m.top i).w:=by unfold sh; dsimp only; rw[if_pos (by omega),bQ]
def shn:(sh m).n i=((m.at i).length:Int):=by unfold sh; dsimp only; rw[if_pos (by omega),bQ]
def Tp {j:Int}:(sh m).tv i j=(m.top i).f j:=by unfold sh; dsimp only; rw[if_pos (by omega),bQ]
def MW:(sh m).quiet (sh (m.qy t i q x jn)):=⟨λ_=>rfl,λ_=>rfl,λ_ _=>rfl⟩
def zg (h:t - 1<m.vs.length) (u:Nat) (j:Int):(sh m).v u j<=(sh (m.qy t i q x jn)).v u j:=by
 show m.view u j<=(m.qy t i q x jn).view u j;rw[we h];by_cases e:u - 1=t - 1
 ·rw[if_pos e,SE e];have:=DN (m.view t) i q j;cases jn with
  | true=>show m.view t j<=max (nm (m.view t) i q j) (x.f j);omega
  | false=>exact this
 ·rw[if_neg e];exact bA _
def JZ (h:t - 1<m.vs.length) (u:Nat) (j:Int):(sh m).v u j<=(sh (m.add t i w wl)).v u j:=by
 show m.view u j<=(m.add t i w wl).view u j;rw[Bf h];by_cases e:u - 1=t - 1
 ·rw[if_pos e,SE e];exact DN _ _ _ _
 ·rw[if_neg e];exact bA _
def toNat_eq {p:Int} (h:0<=p):p.toNat=i↔p=i:=by omega
def VP (hi:i<m.hs.length) (p:Int):(sh (m.add t i w wl)).W p=if p=i then w else(sh m).W p:=by
 unfold sh;dsimp only;by_cases h:0<=p
 ·rw[if_pos h,if_pos h,D7 hi];by_cases e:p=i
  ·rw[if_pos ((toNat_eq h).2 e),if_pos e]
  ·rw[if_neg (λy=>e ((toNat_eq h).1 y)),if_neg e]
 ·rw[if_neg h,if_neg h,if_neg (by omega)]
def V8 (hi:i<m.hs.length) (p:Int):(sh (m.add t i w wl)).n p=if p=i then(sh m).n i+1 else(sh m).n p:=by
 unfold sh;dsimp only;by_cases h:0<=p
 ·rw[if_pos h,if_pos h,tC hi];by_cases e:p=i
  ·rw[if_pos ((toNat_eq h).2 e),if_pos e,if_pos (bL i),bQ,aF,aE];omega
  ·rw[if_neg (λy=>e ((toNat_eq h).1 y)),if_neg e]
 ·rw[if_neg h,if_neg h,if_neg (by omega)]
def Sk (hi:i<m.hs.length) (p j:Int) (e:¬p=i):(sh (m.add t i w wl)).tv p j=(sh m).tv p j:=by
 unfold sh;dsimp only;by_cases h:0<=p
 ·rw[if_pos h,if_pos h,D7 hi,if_neg (λy=>e ((toNat_eq h).1 y))]
 ·rw[if_neg h,if_neg h]
def Oy (hi:i<m.hs.length) (j:Int):(sh (m.add t i w true)).tv i j=nm (m.view t) i (m.at i).length j:=by
 rw[Tp,D7 hi,if_pos rfl];rfl
def Bw.ZQ {m m':Mj} {a:Ac} {g:lA} (K:Lc n m.me) (O:1<=t/\t<=3) (h:Bw m t a m' g):s5 t (sh m.me) (sh m'.me) a g:=by
 have hv:t - 1<m.me.vs.length:=by rw[K.vs];omega
 cases h with
 | look i o n hi=>
  rw[<-Ny];refine .look _ o n MW (zg hv) λj=>?_;rw[Tp];show _<=(m.me.qy t i _ _ true).view t j;rw[we hv,if_pos rfl];show _<=max _ _;omega
 | load i q x o n hi G H=>
  refine .load _ o n x.w MW (zg hv) λE=>?_;rw[shn] at E;rw[Ny];have h1:m.me.view t i<=q:=H;have h2:=(aC.1 G).1;have E:((m.me.at i).length:Int) - 1<=m.me.view t i:=E;have J:q=(m.me.at i).length - 1:=by omega
  unfold Me.top;rw[bG,<-J,G];rfl
 | put i o w wl hi=>
  refine .put _ _ o w (by cases wl <;> simp) (λj=>VP hi j) (λj=>V8 hi j) (λk j e=>Sk hi k j e) (JZ hv) ?_ λM j=>?_
  ·rw[shn];show _<=(m.me.add t i w wl).view t i;rw[Bf hv,if_pos rfl];unfold nm;rw[if_pos rfl];omega
  ·cases wl with
   | false=>simp at M
   | true=>rw[Oy hi];exact DN _ _ _ _
 | swap i o w hi=>
  by_cases e:(m.me.top i).w=o
  ·have B:m.me.GC t i o w=(m.me.qy t i ((m.me.at i).length - 1) (m.me.top i) true).add t i w true:=by unfold Me.GC;rw[if_pos e]
   subst e;have F:t - 1<(m.me.qy t i ((m.me.at i).length - 1) (m.me.top i) true).vs.length:=by unfold Me.qy;dsimp only;rw[aV];exact hv
   have hs:=s5.swapT (t:=t) (s:=sh m.me) (s':=sh (m.me.GC t i (m.me.top i).w w)) (i:Int) w (λj=>by rw[B,VP (m:=m.me.qy t i _ _ true) hi]; rfl) (λj=>by rw[B,V8 (m:=m.me.qy t i _ _ true) hi]; rfl)
    (λk j ne=>by rw[B,Sk (m:=m.me.qy t i _ _ true) hi k j ne]; rfl)
    (λu j=>by
     rw[B];exact iX (zg hv u j) (JZ F u j))
    (λj=>by
     rw[B,Oy (m:=m.me.qy t i _ _ true) hi,Tp];refine iX ?_ (DN _ _ _ _);rw[we hv,if_pos rfl];show _<=max _ _;omega)
   rw[Ny] at hs;rw[decide_eq_true rfl];exact hs
  ·have B:m.me.GC t i o w=m.me.qy t i ((m.me.at i).length - 1) (m.me.top i) true:=by unfold Me.GC;rw[if_neg e]
   rw[decide_eq_false e,<-Ny,B];refine .RL _ o w (by rw[Ny]; exact e) MW (zg hv) λj=>?_;rw[Tp];show _<=(m.me.qy t i _ _ true).view t j;rw[we hv,if_pos rfl];show _<=max _ _;omega
 | flush i o n hi=>exact .lQ _ _ o n (.inl rfl) ⟨λ_=>rfl,λ_=>rfl,λ_ _=>rfl⟩ λ_ _=>bA _
 | sync p o n=>exact .lQ _ _ o n (.inr rfl) ⟨λ_=>rfl,λ_=>rfl,λ_ _=>rfl⟩ λ_ _=>bA _
def Lc.view (K:Lc n m) (u:Nat) (hi:i<n):m.view u i<=((m.at i).length - 1:Nat):=by
 unfold Me.view;rw[aI];cases h:m.vs[u - 1]? with
 | none=>show(0:Int)<=_;omega
 | some f=>exact K.vb f (aG h) i hi
def zb (h:1<=(m.at i).length):m.top i∈m.at i:=by
 unfold Me.top;rw[bG,aB (by omega)];exact dM _
def Lc.qy (K:Lc n m) (hi:i<n) (G:q<=(m.at i).length - 1) (E:x∈m.at i):Lc n (m.qy t i q x jn):=by
 refine⟨by unfold Me.qy; dsimp only; rw[aV]; exact K.vs,K.hs,K.ne,λf F j B=>?_,K.mb⟩;show f j<=((m.at j).length - 1:Nat);rcases cJ F with h | h
 ·exact K.vb f h j B
 ·have h1:=K.view t B;have h2:nm (m.view t) i q j<=((m.at j).length - 1:Nat):=by
   unfold nm;split
   ·rename_i e;have:j=i:=by omega
    subst this;omega
   ·exact h1
  subst h;cases jn with
  | true=>
   show max _ _<=_;have:=K.mb i hi x E j B;omega
  | false=>exact h2
def Lc.add (K:Lc n m) (hi:i<n):Lc n (m.add t i w wl):=by
 have E:i<m.hs.length:=by rw[K.hs];exact hi
 have hle:∀j,((m.at j).length - 1:Nat)<=(((m.add t i w wl).at j).length - 1:Nat):=λj=>by
  rw[tC E];split
  ·rename_i e;subst e;rw[aF,aE];omega
  ·exact aP _
 have hv:∀f:Int->Int,(∀j:Nat,j<n->f j<=((m.at j).length - 1:Nat))->∀j:Nat,j<n->nm f i (m.at i).length j<=(((m.add t i w wl).at j).length - 1:Nat):=λf G j B=>by
  have h1:=G j B;have h2:=hle j;unfold nm;split
  ·rename_i e;have:j=i:=by omega
   subst this;have H:(m.add t j w wl).at j=m.at j++[⟨w,if wl then nm (m.view t) j (m.at j).length else nm (λ_=>0) j (m.at j).length⟩]:=by rw[tC E,if_pos rfl]
   rw[H,aF,aE];omega
  ·omega
 refine⟨by unfold Me.add; dsimp only; rw[aV]; exact K.vs,by unfold Me.add; dsimp only; rw[aV]; exact K.hs,λj B=>?_,λf G j B=>?_,λk J x F j B=>?_⟩
 ·have:=K.ne j B;rw[tC E];split
  ·rw[aF,aE];omega
  ·exact this
 ·rcases cJ (show f∈m.vs.set (t - 1) _ from G) with h | h
  ·have:=K.vb f h j B;have:=hle j;omega
  ·subst h;exact hv _ (λj B=>K.view t B) j B
 ·have old:∀y∈m.at k,y.f j<=(((m.add t i w wl).at j).length - 1:Nat):=λy M=>by
   have:=K.mb k J y M j B;have:=hle j;omega
  rw[tC E] at F;split at F
  ·rename_i e;subst e;rcases bB.1 F with h | h
   ·exact old x h
   ·rw[aN.1 h];cases wl with
    | true=>exact hv _ (λj B=>K.view t B) j B
    | false=>exact hv (λ_=>0) (λj B=>by omega) j B
  ·exact old x F
def Bw.mew {m m':Mj} {a:Ac} {g:lA} (K:Lc n m.me) (h:Bw m t a m' g):Lc n m'.me:=by
 have hs:=K.hs;cases h with
 | look i o n hi=>exact K.qy (by omega) (aP _) (zb (K.ne _ (by omega)))
 | load i q x o n hi B F=>exact K.qy (by omega) (by have:=(aC.1 B).1; omega) (aG B)
 | put i o w wl hi=>exact K.add (by omega)
 | swap i o w hi=>
  have E:=K.qy (t:=t) (i:=i) (jn:=true) (by omega) (aP _) (zb (K.ne _ (by omega)));show Lc n (m.me.GC t i o w);unfold Me.GC;split
  ·exact E.add (by omega)
  ·exact E
 | flush i o n hi=>exact K
 | sync p o n=>exact K
end
end Go.En
