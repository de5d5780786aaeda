/-
  Own library for the claim, packed by program: the engine, the clean texts, contracts, the plain law. (Part D.)
-/
import Derived.Test.YtcepckpfhbcobaaGreatDoorXC
set_option maxRecDepth 100000
set_option linter.defProp false
namespace Go.En
variable {h h0 h':Hp} {F F0:Fp} {R:Value->Hp->Prop} {L:List aX} {B B':Bs}
def VF:HK->Value->Value->Hp->(Value->Hp->Prop)->Prop
 | .begin=>qk.1
 | .first=>qv.1
 | .dE=>nC.1
 | .fA=>o7.1
 | .checked=>nn.1
 | .cU=>lU.1
 | .again=>p7.1
 | .bR=>pi.1
 | .dH=>pg.1
 | .dX=>lh.1
 | .settle=>l6.1
 | .gC=>nQ.1
 | .bQ=>jC.1
 | .cJ=>ll.1
 | .known=>qa.1
 | .found=>qz.1
 | .through=>nL.1
 | .kS=>ng.1
def QZ (s:Hs):HK->Prop
 | .dE=>s.ws=[]
 | .fA=>Uv s/\s.ws.length<3*s.many
 | .checked=>s.ws.length=3*s.many/\s.many<=32/\s.i=0
 | .cU=>s.i<s.es.length
 | .again=>¬aZ s.met.ref=0/\0<=aC (aZ s.met.ref)
 | .bR=>False
 | .dH=>s.i<=s.es.length
 | .dX=>s.i<=s.es.length/\¬s.bh=none
 | .found=>s.i<s.es.length
 | .kS=>s.i<=1000
 | _=>True
structure QX (s:Hs):Prop where
 ended:s.ended=false
 es:s.es.length<=1000
 at':0<=aC (aZ s.ref)
 ws:∀x∈s.ws,Ww x
 met:Ww s.met
 ph:QZ s s.nx
structure Vl (s:Hs):Prop where
 ended:s.ended=false
 es:s.i<s.es.length/\s.es.length<=1000
 nx:s.nx=.bR
def yi:List Hs->Prop
 | []=>False
 | [s]=>QX s
 | s::k::r=>Vl s/\yi (k::r)
def vj (B:Bs):List Hs->Value->Prop
 | [],_=>False
 | [s],v=>∃w e,v=j7 (bK s w e .nilIface)/\(On B λh=>Sl EW h (aK w) s.ws)/\On B λh=>Sl EE h (aK e) s.es
 | s::k::r,v=>∃w e q,v=j7 (bK s w e (.iface 376 q))/\(On B λh=>Sl EW h (aK w) s.ws)/\(On B λh=>Sl EE h (aK e) s.es)/\vj B (k::r) q
def vj.le (l:B.le B'):∀{hs:List Hs} {v:Value},vj B hs v->vj B' hs v
 | [],_,x=>x
 | [_],_,⟨w,e,a,b,c⟩=>⟨w,e,a,b.le l,c.le l⟩
 | _::_::_,_,⟨w,e,q,a,b,c,d⟩=>⟨w,e,q,a,b.le l,c.le l,vj.le l d⟩
def Ij (B:Bs) (v:Value) (g:cP) (out:List Hs × Ac × Bool):Prop:=
 ∀h (R:Value->Hp->Prop),B.p h->(∀q,Rt B h (λB=>vj B out.1 q) λh'=>R (.tuple #[.iface 376 q,lD out.2.1,.bool out.2.2]) h')->S.C 343 [v,eI g] h R
section
variable {s:Hs} {w e:SH} {g:cP} {z:Int} {r:Int} {d:Bool}
def jK (Z:Zs h) (A:0<=r/\r<4294967296) (q:∀h',Gr h h'->R (if ¬aZ r=0/\0<=aC (aZ r) then .tuple #[.iface 376 (j7 (bK (Hs.new r d) (none,0,0) (none,0,0) .nilIface)),.int .i64 0] else .tuple #[.nilIface,.int .i64 3]) h'):S.C 232 [vL,(.int .u32 r),(.bool d)] h R:=by
 refine F9.2 ?_;have E:=uI r;by_cases u:aZ r=0
 ·rw[if_neg (λx=>x.1 u)] at q;have c:=Cx.aB h;refine c.v3 λ_ _ c=>?_;refine c.rl 0 ?_;refine cS _ _ (Z.gr c.gr) λ_ g=>?_;have c:=c.more g;refine vx (v:=.bool false) rfl<|aN<|qE A λ_ g=>?_;have c:=c.more g;refine vx rfl<|vx rfl<|c.rl 0 ?_;refine kX (who:=aZ r) ⟨by omega,by omega⟩ _ _ (Z.gr c.gr) λ_ g=>?_;have c:=c.more g;refine vx rfl<|vx rfl ?_;exact .here<|vx (jO u)<|bU<|bU<|q _ c.gr
 by_cases c2:0<=aC (aZ r)
 ·rw[if_pos ⟨u,c2⟩] at q;have c:=Cx.aB h;refine c.v3 λ_ _ c=>?_;refine c.rl 0 ?_;refine cS _ _ (Z.gr c.gr) λ_ g=>?_;have c:=c.more g;refine vx (v:=.bool false) rfl<|aN<|qE A λ_ g=>?_;have c:=c.more g;refine vx rfl<|vx rfl<|c.rl 0 ?_;refine kX (who:=aZ r) ⟨by omega,by omega⟩ _ _ (Z.gr c.gr) λ_ g=>?_;have c:=c.more g;refine vx rfl<|vx rfl ?_;refine .here<|vx (fG u)<|aN<|vx (dA (Int.not_lt.2 c2))<|aN<|c.rl 0 ?_;exact vx (v:=j7 (bK (Hs.new r d) (none,0,0) (none,0,0) .nilIface)) (by kernel_rfl)<|vx rfl<|q _ c.gr
 ·rw[if_neg (λx=>c2 x.2)] at q;have c:=Cx.aB h;refine c.v3 λ_ _ c=>?_;refine c.rl 0 ?_;refine cS _ _ (Z.gr c.gr) λ_ g=>?_;have c:=c.more g;refine vx (v:=.bool false) rfl<|aN<|qE A λ_ g=>?_;have c:=c.more g;refine vx rfl<|vx rfl<|c.rl 0 ?_;refine kX (who:=aZ r) ⟨by omega,by omega⟩ _ _ (Z.gr c.gr) λ_ g=>?_;have c:=c.more g;refine vx rfl<|vx rfl ?_;exact .here<|vx (fG u)<|aN<|vx (qA (by omega))<|bU<|q _ c.gr
def py {v:Value} (hs:vj B [s] v) (he:s.ended=true) (q:∀h',Gr h h'->R (.tuple #[.int .i64 s.aO,.bool true]) h'):S.C 258 [(.iface 376 v)] h R:=by
 refine AJ.2 ?_;obtain⟨w,e,rfl,_,_⟩:=hs;obtain⟨rf,du,ws,mn,es,i,vr,mt,en,nx,bh⟩:=s;dsimp only at he;subst he;have u:=bZ bh;have c:=Cx.aB h;refine vx (v:=.tuple #[j7 (bK ⟨rf,du,ws,mn,es,i,vr,mt,true,nx,bh⟩ w e .nilIface),.bool true]) (by simp[Az])<|vx rfl<|vx rfl<|c.dJ λ_ _ c=>?_;refine c.Tj 0 λ_ c=>?_;refine .here<|vx (v:=.bool false) (rfl)<|aN<|aE<|c.rc 0 ?_;refine vx rfl<|aN<|aE<|c.rc 0 ?_;exact q _ c.gr
def qe:∀k {x g:Value} {h R},VF k x g h R->S.C (kI k) [x,g] h R:=λk {x g h R} H=>match k,H with | .begin,H=>qk.2 H | .first,H=>qv.2 H | .dE,H=>nC.2 H | .fA,H=>o7.2 H | .checked,H=>nn.2 H | .cU,H=>lU.2 H | .again,H=>p7.2 H | .bR,H=>pi.2 H | .dH,H=>pg.2 H | .dX,H=>lh.2 H | .settle,H=>l6.2 H | .gC,H=>nQ.2 H | .bQ,H=>jC.2 H | .cJ,H=>ll.2 H | .known,H=>qa.2 H | .found,H=>qz.2 H | .through,H=>nL.2 H | .kS,H=>ng.2 H
def Mf (A:B.p h) (Q:On B Zs) (hw:On B λh=>Sl EW h (aK w) s.ws) (he:On B λh=>Sl EE h (aK e) s.es) (o:QX s) (T:¬s.nx=.again) (O:Ww g.w)
  (J:∀w' G,Rt B h (λB=>(On B λh=>Sl EW h (aK w') (dG s g).1.ws)/\On B λh=>Sl EE h (aK G) (dG s g).1.es) λh'=>R (hv (dG s g) w' G) h') :
  S.C (kI s.nx) [j7 (bK s w e .nilIface),eI g] h R:=by
 obtain⟨o1,E,U,V,o5,u⟩:=o;have same:∀x:HR,dG s g=x->x.1.ws=s.ws->x.1.es=s.es->∀h',Gr h h'->R (hv x w e) h':=λx K h1 h2 h' gr=>by
  have:=(J w e).nil (h':=h') ⟨by rw[K,h1]; exact hw.le (Bs.aJ _ _),by rw[K,h2]; exact he.le (Bs.aJ _ _)⟩ gr;rwa [K] at this
 have Z:=Q h A;refine qe s.nx ?_;have X:∀k,(eX s k).1.ws=s.ws/\(eX s k).1.es=s.es:=λk=>by unfold eX bG eF; split <;> exact⟨rfl,rfl⟩
 cases q:s.nx with
 | bR=>rw[q] at u; exact u.elim
 | again=>exact absurd q T
 | begin=>exact La (s:=s) (same _ (by unfold dG; rw[q]) rfl rfl)
 | first=>
  refine Kh (s:=s) ⟨by show -1000<=aC (aZ s.ref); omega,?_⟩ (same _ (by unfold dG; rw[q]) ?_ ?_)
  ·have:=uI s.ref;unfold Hs.at' aC cK eN;split <;> split <;> omega
  ·split <;> rfl
  ·split <;> rfl
 | dE=>
  rw[q] at u;refine FU (s:=s) Z (hw h A) u U (same _ (by unfold dG; rw[q]) ?_ ?_)
  ·unfold j9 fM gP eF nM; split <;> (try split) <;> rfl
  ·unfold j9 fM gP eF nM; split <;> (try split) <;> rfl
 | fA=>
  rw[q] at u;have N:dG s g=fM {s with ws:=s.ws++[g.w]}:=by unfold dG; rw[q]
  have H:(fM {s with ws:=s.ws++[g.w]}).1.ws=s.ws++[g.w]/\(fM {s with ws:=s.ws++[g.w]}).1.es=s.es:=by unfold fM gP eF; split <;> exact⟨rfl,rfl⟩
  refine JH (s:=s) Z (hw h A) u.1 u.2 λw' h' c=>?_;have:=J w' e [bJ EW (aK w') (s.ws++[g.w])] h' (Cx.pack (L:=[]) c);rw[N,H.1,H.2] at this;exact this ⟨On.sl (i:=0) rfl,he.le (Bs.aJ _ _)⟩
 | checked=>
  rw[q] at u;have N:dG s g=gJ s g.w:=by unfold dG; rw[q]
  have H:(gJ s g.w).1.ws=s.ws:=by
   unfold gJ bD aW cD eX bG iM gP eF nM;repeat' split
   all_goals rfl
  refine Gj (s:=s) A Z (hw h A) he u.1 u.2.1 V u.2.2 λG M h' c hs=>?_;have:=J w G M h' c;rw[N,H] at this;exact this ⟨hw.le (Bs.aJ _ _),hs⟩
 | cU=>
  rw[q] at u;refine CN (s:=s) Z (he h A) ⟨u,E⟩ O (same _ (by unfold dG; rw[q]) ?_ ?_)
  ·unfold fJ aW cD eX bG iM gP eF; repeat' split
   all_goals rfl
  ·unfold fJ aW cD eX bG iM gP eF; repeat' split
   all_goals rfl
 | dH=>
  rw[q] at u;refine JU (s:=s) (he h A) ⟨u,E⟩ (same _ (by unfold dG; rw[q]) ?_ ?_)
  ·unfold aW cD eX bG iM eF; repeat' split
   all_goals rfl
  ·unfold aW cD eX bG iM eF; repeat' split
   all_goals rfl
 | dX=>
  rw[q] at u;refine xY (s:=s) (he h A) ⟨u.1,E⟩ u.2 (same _ (by unfold dG; rw[q]) ?_ ?_)
  ·unfold bG eF; split <;> rfl
  ·unfold bG eF; split <;> rfl
 | settle=>exact zI (s:=s) (gD _) (same _ (by unfold dG; rw[q]) rfl rfl)
 | gC=>
  refine Gu (s:=s) (same _ (by unfold dG; rw[q]) ?_ ?_)
  ·unfold bD gP eF; split <;> rfl
  ·unfold bD gP eF; split <;> rfl
 | bQ=>exact wS (s:=s) (same _ (by unfold dG; rw[q]) rfl rfl)
 | cJ=>exact AA (s:=s) (same _ (by unfold dG; rw[q]) rfl rfl)
 | known=>
  refine Kz (s:=s) (he h A) E (same _ (by unfold dG; rw[q]) ?_ ?_)
  ·unfold rY ke eX bG nM eF; repeat' split
   all_goals rfl
  ·unfold rY ke eX bG nM eF; repeat' split
   all_goals rfl
 | found=>
  rw[q] at u;refine LB (s:=s) (he h A) ⟨u,E⟩ O (same _ (by unfold dG; rw[q]) ?_ ?_)
  ·unfold pj lV ke eX bG nM eF; repeat' split
   all_goals rfl
  ·unfold pj lV ke eX bG nM eF; repeat' split
   all_goals rfl
 | through=>exact GS (s:=s) (same _ (by unfold dG; rw[q]) rfl rfl)
 | kS=>
  rw[q] at u;refine Bi (s:=s) (he h A) ⟨E,u⟩ (same _ (by unfold dG; rw[q]) ?_ ?_)
  ·unfold lV ke eX bG nM eF; repeat' split
   all_goals rfl
  ·unfold lV ke eX bG nM eF; repeat' split
   all_goals rfl
end
def ot (s:Hs):List Hs × Ac × Bool->List Hs × Ac × Bool
 | (q,a,false)=>({s with nx:=.bR}::q,a,false)
 | (q,_,true)=>match q with
  | u::_=>if ¬u.aO=4 then([(aW s).1],(aW s).2) else([{s with nx:=.dH}],⟨6,(hE s).at',s.met,⟨s.met.v,s.met.aO,0⟩⟩,false)
  | []=>([],jG,true)
def jM (s:Hs):(aW s).1.ws=s.ws/\(aW s).1.es=s.es/\(aW s).2.2=false:=by
 unfold aW cD eX bG iM eF;repeat' split
 all_goals exact⟨rfl,rfl,rfl⟩
def lq (s:Hs):(bD s).1.ws=s.ws/\(bD s).1.es=s.es/\(bD s).2.2=false:=by
 unfold bD gP eF;split <;> exact⟨rfl,rfl,rfl⟩
def Bx (x:List Hs × Ac × Bool):Prop:=x.2.2=true->∃t,x.1=[t]/\t.ended=true
def FP {s:Hs} {g:cP}:(dG s g).2.2=true->(dG s g).1.ended=true:=by
 have F:∀x:Hs,(bG x).2.2=false:=λx=>by unfold bG eF; split <;> rfl
 have E:∀x:Hs,(ke x).2.2=true->(ke x).1.ended=true:=λx=>by
  unfold ke;split
  ·intro h; cases h
  ·split
   ·intro h; rw[show(eX x .through).2.2=false from F _] at h; cases h
   ·intro _; rfl
 have L:∀x:Hs,(fM x).2.2=false:=λx=>by unfold fM gP eF; split <;> rfl
 have q:∀(x:Hs) (z:Int),(cD x z).2.2=false:=λx z=>by
  unfold cD;split
  ·exact F _
  ·rfl
 unfold dG;cases s.nx <;> dsimp only
 case begin=>intro h; cases h
 case first=>
  split
  ·intro _; rfl
  ·intro h; cases h
 case dE=>
  unfold j9;split
  ·intro _; rfl
  ·intro h; rw[L] at h; cases h
 case fA=>intro h; rw[L] at h; cases h
 case checked=>
  unfold gJ;split
  ·intro _; rfl
  ·split
   ·intro _; rfl
   ·split
    ·intro h; rw[(lq _).2.2] at h; cases h
    ·intro h; rw[(jM _).2.2] at h; cases h
 case cU=>
  unfold fJ;split
  ·intro h; rw[(jM _).2.2] at h; cases h
  ·split
   ·intro h; cases h
   ·intro h; rw[q] at h; cases h
 case again=>intro h; rw[(lq _).2.2] at h; cases h
 case bR=>intro h; rw[(jM _).2.2] at h; cases h
 case dH=>intro h; rw[(jM _).2.2] at h; cases h
 case dX=>intro h; rw[F] at h; cases h
 case settle=>intro h; cases h
 case gC=>intro h; rw[(lq _).2.2] at h; cases h
 case bQ=>intro h; cases h
 case cJ=>intro h; cases h
 case known=>exact E _
 case found=>
  unfold pj;split
  ·intro h; cases h
  ·exact E _
 case through=>intro _; rfl
 case kS=>exact E _
def iV {g:cP}:∀{hs:List Hs},yi hs->Bx (bV hs g)
 | [],o=>o.elim
 | [s],o=>by
  have o:QX s:=o;intro h;by_cases e:s.nx=.again
  ·rw[gL o.ended e] at h;split at h
   ·rw[(lq s).2.2] at h; cases h
   ·cases h
  ·rw[lS o.ended e [] (.inl rfl)] at h⊢;exact⟨_,rfl,FP h⟩
 | s::k::r,o=>by
  intro h;rw[jI o.1.ended o.1.nx] at h;cases u:bV (k::r) g with
  | mk E q=>
   obtain⟨G,d⟩:=q;rw[u] at h;cases d with
   | false=>cases h
   | true=>
    obtain⟨t,A,_⟩:=iV o.2 (g:=g) (by rw[u]);rw[u] at A;dsimp only at A;subst A;dsimp only at h;split at h
    ·rw[(jM s).2.2] at h; cases h
    ·cases h
section
variable {s:Hs} {w e:SH} {g:cP} {out:List Hs × Ac × Bool} {v':Value}
def vj.cons {k:Hs} {l:List Hs} (hw:On B λh=>Sl EW h (aK w) s.ws) (he:On B λh=>Sl EE h (aK e) s.es) (hv:vj B (k::l) v'):vj B (s::k::l) (j7 (bK s w e (.iface 376 v'))):=⟨w,e,v',rfl,hw,he,hv⟩
def vj.head {hs:List Hs} (hv:vj B hs v'):∃k l,hs=k::l:=by
 cases hs with
 | nil=>exact hv.elim
 | cons k l=>exact⟨k,l,rfl⟩
def kQ:I.mt 376 "Next"=some 343:=by kernel_rfl
def A4 (G:B.p h) (hw:On B λh=>Sl EW h (aK w) s.ws) (he:On B λh=>Sl EE h (aK e) s.es) (hi:s.i<s.es.length/\s.es.length<=1000) (O:Ij B v' g out) (H:Bx out)
  (J:∀A,Rt B h (λB=>vj B (ot s out).1 A) λh'=>R (.tuple #[A,lD (ot s out).2.1,.bool (ot s out).2.2]) h') :
  pi.1 (j7 (bK s w e (.iface 376 v'))) (eI g) h R:=by
 obtain⟨rf,du,ws,mn,es,i,vr,⟨q,u,E⟩,en,nx,bh⟩:=s;obtain⟨⟨X,Z,gr⟩,gk⟩:=g;obtain⟨row,a,d⟩:=out;have U:=bZ bh;dsimp only at hw he hi;have V:=E7 (s:=⟨rf,du,ws,mn,es,i,vr,⟨q,u,E⟩,en,nx,bh⟩) hi.1;cases d with
 | false=>
  have c:=Cx.aB h;refine c.dJ λ_ _ c=>?_;refine c.v4 λ_ _ c=>?_;refine c.dJ λ_ _ c=>?_;refine c.v8 λ_ _ c=>?_;refine aE<|c.rc 0 ?_;refine c.rl 1 ?_;refine⟨_,_,_,rfl,kQ,O _ _ (B.up G c.gr) λA M _ dd ok=>?_⟩;have c:=c.aF dd;replace c:=c.n5;refine vx rfl<|vx rfl<|vx rfl<|c.v8 λ_ _ c=>?_;refine c.w8 5 λ_ c=>?_;refine aE<|c.tH 0 λ_ c=>?_;refine vx (v:=.bool true) (rfl)<|bU<|c.rl 0 ?_;refine c.rl 5 ?_;refine lp (x:=bK ⟨rf,du,ws,mn,es,i,vr,⟨q,u,E⟩,en,nx,bh⟩ w e (.iface 376 A)) (a:=a) ⟨rfl,rfl,U⟩ rfl λ_ g=>?_;have c:=c.more g;refine c.bX 2 3 λ_ c=>?_;obtain⟨k,l,rfl⟩:=ok.head;exact J (j7 (bK ⟨rf,du,ws,mn,es,i,vr,⟨q,u,E⟩,en,.bR,bh⟩ w e (.iface 376 A))) M _ (c.pick [4]) (vj.cons (hw.le (Bs.aJ _ _)) (he.le (Bs.aJ _ _)) ok)
 | true=>
  obtain⟨t,T,K⟩:=H rfl;dsimp only at T;subst T;by_cases N:t.aO=4
  ·have Q:ot ⟨rf,du,ws,mn,es,i,vr,⟨q,u,E⟩,en,nx,bh⟩ ([t],a,true)=([⟨rf,du,ws,mn,es,i,vr,⟨q,u,E⟩,en,.dH,bh⟩],⟨6,(hE ⟨rf,du,ws,mn,es,i,vr,⟨q,u,E⟩,en,nx,bh⟩).at',⟨q,u,E⟩,⟨q,u,0⟩⟩,false):=by
    unfold ot;dsimp only;rw[if_neg (λx=>x N)]
   rw[Q] at J;have c:=Cx.aB h;refine c.dJ λ_ _ c=>?_;refine c.v4 λ_ _ c=>?_;refine c.dJ λ_ _ c=>?_;refine c.v8 λ_ _ c=>?_;refine aE<|c.rc 0 ?_;refine c.rl 1 ?_;refine⟨_,_,_,rfl,kQ,O _ _ (B.up G c.gr) λA M _ dd ok=>?_⟩;have c:=c.aF dd;replace c:=c.n5;refine vx rfl<|vx rfl<|vx rfl<|c.v8 λ_ _ c=>?_;refine c.w8 5 λ_ c=>?_;refine aE<|c.tH 0 λ_ c=>?_;refine vx (v:=.bool false) (rfl)<|aN<|aE<|c.tH 0 λ_ c=>?_;refine py (v:=A) ok K λ_ g=>?_;have c:=c.more g;refine vx rfl<|vx rfl<|vx (uQ N)<|aN<|c.rl 0 ?_;refine c.rl 0 ?_;refine aE<|vx (c.vp (i:=0) (ds:=[_,_,_]) rfl rfl rfl)<|aE<|aE<|c.rc 0 ?_;refine aE<|aE<|c.rc 0 ?_;refine vx (aG (ds:=[_,_,_]) rfl)<|ve (x:=bK ⟨rf,du,ws,mn,es,i,vr,⟨q,u,E⟩,en,nx,bh⟩ w e .nilIface) (ho _ w e) (he _ (B.up G c.gr)) rfl V λ_ g=>?_;have c:=c.more g;refine c.ac 0 ?_;refine c.ac 0 ?_;refine And.intro (c.vp (i:=0) (ds:=[_,_,_]) rfl rfl rfl) ?_;refine c.al 0 ?_;refine vx (aG (ds:=[_,_,_,_,_,_,_,_]) rfl)<|lp (x:=bK ⟨rf,du,ws,mn,es,i,vr,⟨q,u,E⟩,en,nx,bh⟩ w e .nilIface) (a:=⟨6,(hE ⟨rf,du,ws,mn,es,i,vr,⟨q,u,E⟩,en,nx,bh⟩).at',⟨q,u,E⟩,⟨q,u,0⟩⟩) (ho _ w e) rfl λ_ g=>?_;have c:=c.more g;refine c.bX 2 3 λ_ c=>?_;exact J (j7 (bK ⟨rf,du,ws,mn,es,i,vr,⟨q,u,E⟩,en,.dH,bh⟩ w e .nilIface)) M _ (c.pick [4]) ⟨w,e,rfl,hw.le (Bs.aJ _ _),he.le (Bs.aJ _ _)⟩
  ·have Q:ot ⟨rf,du,ws,mn,es,i,vr,⟨q,u,E⟩,en,nx,bh⟩ ([t],a,true)=([(aW ⟨rf,du,ws,mn,es,i,vr,⟨q,u,E⟩,en,nx,bh⟩).1],(aW ⟨rf,du,ws,mn,es,i,vr,⟨q,u,E⟩,en,nx,bh⟩).2):=by
    unfold ot;dsimp only;rw[if_pos N]
   rw[Q] at J;have sm:=jM ⟨rf,du,ws,mn,es,i,vr,⟨q,u,E⟩,en,nx,bh⟩;have c:=Cx.aB h;refine c.dJ λ_ _ c=>?_;refine c.v4 λ_ _ c=>?_;refine c.dJ λ_ _ c=>?_;refine c.v8 λ_ _ c=>?_;refine aE<|c.rc 0 ?_;refine c.rl 1 ?_;refine⟨_,_,_,rfl,kQ,O _ _ (B.up G c.gr) λA M _ dd ok=>?_⟩;have c:=c.aF dd;replace c:=c.n5;refine vx rfl<|vx rfl<|vx rfl<|c.v8 λ_ _ c=>?_;refine c.w8 5 λ_ c=>?_;refine aE<|c.tH 0 λ_ c=>?_;refine vx (v:=.bool false) (rfl)<|aN<|aE<|c.tH 0 λ_ c=>?_;refine py (v:=A) ok K λ_ g=>?_;have c:=c.more g;refine vx rfl<|vx rfl<|vx (zZ N)<|bU<|c.rl 0 ?_;refine nD (s:=⟨rf,du,ws,mn,es,i,vr,⟨q,u,E⟩,en,nx,bh⟩) (w:=w) (e:=e) (he _ (B.up G c.gr)) ⟨Nat.le_of_lt hi.1,hi.2⟩ λ_ g=>?_;have c:=c.more g;refine c.bX 2 3 λ_ c=>?_;exact J (j7 (bK (aW ⟨rf,du,ws,mn,es,i,vr,⟨q,u,E⟩,en,nx,bh⟩).1 w e .nilIface)) M _ (c.pick [4]) ⟨w,e,rfl,by rw[sm.1]; exact hw.le (Bs.aJ _ _),by rw[sm.2.1]; exact he.le (Bs.aJ _ _)⟩
end
def J7:Ww W0:=⟨⟨by decide,by decide⟩,⟨by decide,by decide⟩,⟨by decide,by decide⟩⟩
section
variable {s:Hs} {w e:SH} {g:cP} {v v':Value}
def zy {dU:Value} (aT:dU.oneCell'=true) (u:s.ended=false) {Q:Bs->Value->Hs->Prop} {out:List Hs × Ac × Bool} (b0:B.p h)
  (hC:∀h R,B.p h->(∀q,Rt B h (λB=>vj B out.1 q) λh'=>R (.tuple #[q,lD out.2.1,.bool out.2.2]) h')->S.C (kI s.nx) [j7 (bK s w e dU),eI g] h R)
  (hR:∀v',Rt B h (λB=>vj B out.1 v') λh'=>R (.tuple #[.iface 376 v',lD out.2.1,.bool out.2.2]) h') :
  gR.1 (j7 (bK s w e dU)) (eI g) h R:=by
 obtain⟨rf,du,ws,mn,es,i,vr,mt,en,nx,bh⟩:=s;obtain⟨⟨gv,gq,gr⟩,gk⟩:=g;have hb:=bZ bh;dsimp only at u;subst u;obtain⟨row,a,d⟩:=out;have c:=Cx.aB h;refine c.dJ λ_ _ c=>?_;refine c.v4 λ_ _ c=>?_;refine c.v8 λ_ _ c=>?_;refine aE<|c.rc 0 ?_;refine aN<|aE<|c.rc 0 ?_;refine c.rl 0 ?_;refine c.rl 1 ?_;refine .inl (.inl ⟨kI nx,#[],#[],rfl,hC _ _ (B.up b0 c.gr) λq M _ dd ok=>?_⟩);have c:=c.aF dd;obtain⟨k,l,A⟩:=ok.head;dsimp only at A;subst A;obtain⟨x,hx,H⟩:∃x,q=j7 x/\Ho x:=by
  cases l with
  | nil=>obtain⟨w2,U,y,_⟩:=ok; exact⟨_,y,ho k w2 U⟩
  | cons k2 l2=>obtain⟨w2,U,v3,y,_⟩:=ok; exact⟨_,y,rfl,rfl,bZ k.bh⟩
 subst hx;obtain⟨xr,bY,V,X,J,Z,dO,K,eQ,xi,aS,⟨xv,xq,iF⟩,E,G,iN,iS⟩:=x;obtain⟨N,O,T⟩:=H;dsimp only at N O T;replace c:=c.n4;refine vx rfl<|vx rfl<|vx rfl<|c.dJ λ_ _ c=>?_;refine c.v8 λ_ _ c=>?_;refine c.Tj 4 λ_ c=>?_;refine c.w8 5 λ_ c=>?_;refine c.rl 4 ?_;refine vx rfl<|c.rl 5 ?_;refine c.w8 2 λ_ c=>?_;refine c.rl 2 ?_;exact hR _ M _ (c.pick [3]) ok
def LP (T:B.p h) (U:On B Zs) (hw:On B λh=>Sl EW h (aK w) s.ws) (he:On B λh=>Sl EE h (aK e) s.es) (hi:s.i<s.es.length/\s.es.length<=1000) (E:0<=s.met.ref/\s.met.ref<4294967296) (hm:¬aZ s.met.ref=0/\0<=aC (aZ s.met.ref))
  {out:List Hs × Ac × Bool} (ho:out=if ¬g.w=⟨0,s.seq,0⟩ then([(bD s).1],(bD s).2) else([{s with nx:=.bR},{Hs.new s.met.ref s.cH with nx:=.first}],⟨5,aC (aZ s.met.ref),W0,W0⟩,false))
  (A:∀u,Rt B h (λB=>vj B out.1 u) λh'=>R (.tuple #[u,lD out.2.1,.bool out.2.2]) h') :
  p7.1 (j7 (bK s w e .nilIface)) (eI g) h R:=by
 obtain⟨rf,du,ws,mn,es,i,vr,⟨G,H,q⟩,en,nx,bh⟩:=s;obtain⟨⟨K,N,gr⟩,gk⟩:=g;have hb:=bZ bh;dsimp only at hw he hi hm ho E;by_cases J:(⟨K,N,gr⟩:W3)=⟨0,lB rf,0⟩
 ·have ho:out=_:=ho.trans (if_neg λx=>x J);subst ho;have V:∀B',B.le B'->Ij B' (j7 (bK (Hs.new q du) (none,0,0) (none,0,0) .nilIface)) kq ([{Hs.new q du with nx:=.first}],⟨5,aC (aZ q),W0,W0⟩,false):=λB' l h R b A=>by
   refine gR.2 (zy (s:=Hs.new q du) rfl rfl (Q:=λ_ _ _=>True) b (λh R b A=>?_) A);refine Mf (s:=Hs.new q du) b (U.le l) (λ_ _=>Sl.nil) (λ_ _=>Sl.nil) ⟨rfl,Nat.zero_le _,hm.2,λx O=>(List.not_mem_nil O).elim,J7,trivial⟩ (λx=>by cases x) J7 λw' X M h' c ok=>?_;exact A _ M h' c ⟨w',X,rfl,ok.1,ok.2⟩
  have c:=Cx.aB h;refine c.dJ λ_ _ c=>?_;refine c.v4 λ_ _ c=>?_;refine c.dJ λ_ _ c=>?_;refine c.v8 λ_ _ c=>?_;refine aE<|vx (c.vp (i:=1) (ds:=[_,_,_]) rfl rfl rfl)<|aE<|c.rc 0 ?_;refine gH (gD rf) λ_ g=>?_;have c:=c.more g;refine And.intro (c.vp (i:=1) (ds:=[_,_,_]) rfl rfl rfl) ?_;refine vx (PH (a:=⟨K,N,gr⟩) (b:=⟨0,lB rf,0⟩) J)<|aN<|aE<|vx (c.vp (i:=0) (ds:=[_,_,_]) rfl rfl rfl)<|aE<|aE<|c.rc 0 ?_;refine aE<|c.rc 0 ?_;refine jK (U _ (B.up T c.gr)) E λ_ g=>?_;have c:=c.more g;rw[if_pos hm];refine vx rfl<|vx rfl<|aE<|c.tH 0 λ_ c=>?_;refine c.rl 0 ?_;refine vx (aG (ds:=[_,_,_,_]) rfl)<|qe .bR (A4 (s:=⟨rf,du,ws,mn,es,i,vr,⟨G,H,q⟩,en,nx,bh⟩) (g:=kq) (B.up T c.gr) hw he hi (V B (Bs.le_refl B)) (λx=>by cases x) λu M _ d ok=>?_);have c:=c.aF d;obtain⟨w2,e2,v3,O,Z⟩:=id ok;subst O;replace c:=c.n5;refine c.bX 2 3 λ_ c=>?_;exact A _ M _ (c.pick [4]) ok
 ·have ho:out=_:=ho.trans (if_pos J);subst ho;have sm:=lq ⟨rf,du,ws,mn,es,i,vr,⟨G,H,q⟩,en,nx,bh⟩;have c:=Cx.aB h;refine c.dJ λ_ _ c=>?_;refine c.v4 λ_ _ c=>?_;refine c.dJ λ_ _ c=>?_;refine c.v8 λ_ _ c=>?_;refine aE<|vx (c.vp (i:=1) (ds:=[_,_,_]) rfl rfl rfl)<|aE<|c.rc 0 ?_;refine gH (gD rf) λ_ g=>?_;have c:=c.more g;refine And.intro (c.vp (i:=1) (ds:=[_,_,_]) rfl rfl rfl) ?_;refine vx (Pe (a:=⟨K,N,gr⟩) (b:=⟨0,lB rf,0⟩) J)<|bU<|c.rl 0 ?_;refine uh (s:=⟨rf,du,ws,mn,es,i,vr,⟨G,H,q⟩,en,nx,bh⟩) (w:=w) (e:=e) λ_ g=>?_;have c:=c.more g;refine c.bX 2 3 λ_ c=>?_;exact(A (j7 (bK (bD ⟨rf,du,ws,mn,es,i,vr,⟨G,H,q⟩,en,nx,bh⟩).1 w e .nilIface))).nil ⟨w,e,rfl,by rw[sm.1]; exact hw.le (Bs.aJ _ _),by rw[sm.2.1]; exact he.le (Bs.aJ _ _)⟩ c.gr
def Ij.all (G:On B Zs) (J:Ww g.w):∀{hs:List Hs} {v:Value},vj B hs v->yi hs->(∀s∈hs,s.nx=.again->s.i<s.es.length)->Ij B v g (bV hs g)
 | [],_,hv,_,_=>hv.elim
 | [s],v,hv,o,A=>by
  have o:QX s:=o;obtain⟨w,e,rfl,hw,he⟩:=hv;intro h R u q;refine gR.2 (zy (Q:=λ_ _ _=>True) rfl o.ended u (λh R u q=>?_) q);by_cases E:s.nx=.again
  ·have op:=o.ph;rw[E] at op;have:=qe .again (LP u G hw he ⟨A s (List.mem_cons_self ..) E,o.es⟩ o.met.ref op (g:=g) (gL o.ended E []) q);rw[E];exact this
  ·have H:=lS (g:=g) o.ended E [] (.inl rfl);rw[H] at q;refine Mf u G hw he o E J λw' K M h' c ok=>?_;exact q _ M h' c ⟨w',K,rfl,ok.1,ok.2⟩
 | s::k::r,v,hv,o,A=>by
  obtain⟨w,e,v',rfl,hw,he,hv⟩:=hv;intro h R u q;have N:=Ij.all G J hv o.2 λs hs=>A s (List.mem_cons_of_mem _ hs);refine gR.2 (zy (Q:=λ_ _ _=>True) rfl o.1.ended u (λh R u q=>?_) q);rw[o.1.nx];have H:bV (s::k::r) g=ot s (bV (k::r) g):=jI o.1.ended o.1.nx r;rw[H] at q;exact qe .bR (A4 u hw he o.1.es N (iV o.2) q)
end
def mR (a b:Int):Int:=((BitVec.ofInt 64 a&&& BitVec.ofInt 64 b).toInt)
def Fl (a b:Int):Int:=((BitVec.ofInt 64 a||| BitVec.ofInt 64 b).toInt)
def Iv (a b:Int):Int:=((BitVec.ofInt 64 a&&& ~~~ BitVec.ofInt 64 b).toInt)
abbrev eT:Int:=376
inductive Gf where
 | look
 | swap (i:Nat) (w:W3)
 | done (i:Nat)
 | full
abbrev Fc:Type:=Gf × Ac × Bool
def cF (w:W3):Nat->Nat->Fc
 | 0,_=>(.full,jG,true)
 | k+1,i=>if mR w.v (2 ^ i)=0 then(.swap i w,⟨6,eT,w,⟨Fl w.v (2 ^ i),w.aO,w.ref⟩⟩,false) else cF w k (i+1)
def eO:Gf->cP->Fc
 | .look,g=>cF g.w 4 0
 | .swap i _,g=>if g.ok=true then(.done i,jG,true) else cF g.w 4 0
 | .done i,_=>(.done i,jG,true)
 | .full,_=>(.full,jG,true)
inductive MN where
 | look
 | swap (w:W3)
 | done (bad:Bool)
abbrev Kb:Type:=MN × Ac × Bool
def dF (b:Nat) (w:W3):Kb:=
 if mR w.v (2 ^ b)=0 then(.done true,jG,true) else(.swap w,⟨6,eT,w,⟨Iv w.v (2 ^ b),w.aO,w.ref⟩⟩,false)
def fC (b:Nat):MN->cP->Kb
 | .look,g=>dF b g.w
 | .swap _,g=>if g.ok=true then(.done false,jG,true) else dF b g.w
 | .done x,_=>(.done x,jG,true)
inductive BP where
 | take (k:Gf)
 | looked
 | rel (op:Bool)
 | xU (op:Bool)
 | uC (op:Bool)
 | fill
 | fP
 | xg
 | fZ (hs:List Hs)
 | lX (b:Nat) (k:MN)
 | over
structure Bk where
 cH:Bool
 es:List Et
 cL:Nat
 seq:Int
 i:Nat
 done:Bool
 bad:Int
 ph:BP
abbrev BR:Type:=Bk × Ac × Bool
def Bk.who (s:Bk):Int:=9+s.cL
def Bk.at' (s:Bk):Int:=cK s.cL
def GR (s:Bk):BR:=({s with ph:=.over},jG,true)
def vJ (s:Bk):BR:=({s with ph:=.lX s.cL .look},⟨5,eT,W0,W0⟩,false)
def Ic (s:Bk) (z:Int) (op:Bool):BR:=({s with ph:=.rel op},⟨4,s.at',W0,⟨z,s.seq,0⟩⟩,false)
def Cr (s:Bk) (i:Nat):W3:=
 if i=0 then⟨s.es.length,0,0⟩ else
  let e:=s.es.getD ((i - 1) / 3) Fj;if (i - 1) % 3=0 then yy e else if (i - 1) % 3=1 then yD e else yG e
def dY (s:Bk):Nat:=1+3*s.es.length
def DJ (s:Bk):BR:=Ic s 0 true
def nW (s:Bk):BR:=
 let a:=s.at' / 8*8+s.i*8;if s.at'+dY s<a then({s with ph:=.xg},⟨8,0,W0,W0⟩,false)
 else({s with i:=s.i+1,ph:=.fP},⟨7,max a (s.at'+1),W0,W0⟩,false)
def pL (s:Bk):BR:=
 if s.i<dY s then({s with i:=s.i+1,ph:=.fill},⟨3,s.at'+1+s.i,W0,Cr s s.i⟩,false)
 else if s.cH=true then nW {s with i:=0} else DJ s
def Dw (s:Bk):BR:=({s with ph:=.fZ [{Hs.new (bT s.who s.seq) s.cH with nx:=.first}]},⟨5,s.at',W0,W0⟩,false)
def fB (s:Bk) (op:Bool):BR:=if op=true then Dw s else pL s
def om (s:Bk) (w:W3):BR:=
 if 16777215<=w.aO then vJ {s with bad:=9} else Ic {s with seq:=w.aO+1} 3 false
def bP (s:Bk) (g:cP):BR:=
 match s.ph with
 | .take k=>match eO k g with
  | (.done i,_,true)=>({s with cL:=i,ph:=.looked},⟨5,cK i,W0,W0⟩,false)
  | (_,_,true)=>GR {s with bad:=9}
  | (k,a,false)=>({s with ph:=.take k},a,false)
 | .looked=>om s g.w
 | .rel op=>if s.cH=true then({s with ph:=.xU op},⟨7,s.at',W0,W0⟩,false) else fB s op
 | .xU op=>({s with ph:=.uC op},⟨8,0,W0,W0⟩,false)
 | .uC op=>fB s op
 | .fill=>pL s
 | .fP=>nW s
 | .xg=>DJ s
 | .fZ hs=>match bV hs g with
  | (hs,a,false)=>({s with ph:=.fZ hs},a,false)
  | (hs,_,true)=>vJ {s with done:=match hs with | h::_=>decide (h.aO=1) | []=>false}
 | .lX b k=>match fC b k g with
  | (k,a,false)=>({s with ph:=.lX b k},a,false)
  | (_,_,true)=>GR s
 | .over=>(s,jG,true)
def GV (cH:Bool) (es:List Et):Bk:=⟨cH,es,0,0,0,false,0,.take .look⟩
inductive SP where
 | lI
 | last (hs:List Hs)
 | mO (l:List Ac)
 | own (hs:List Hs)
 | lM
 | jS (w:W3) (hs:List Hs)
 | kC
 | mG
 | send (l:List Ac) (ok:Bool)
 | over (ok:Bool)
structure Sw where
 t:Nat
 seq:Int
 cH:Bool
 es:List Et
 ph:SP
abbrev SR:Type:=Sw × Ac × Bool
def Fq (s:Sw) (ok:Bool):SR:=({s with ph:=.over ok},jG,true)
def gM (s:Sw) (l:List Int):List Ac:=if s.cH=true then l.map (λp=>⟨7,p,W0,W0⟩)++[⟨8,0,W0,W0⟩] else []
def aY (es:List Et):List W3:=⟨es.length,0,0⟩::es.flatMap λe=>[yy e,yD e,yG e]
def eZ:List W3->Int->List Ac
 | [],_=>[]
 | w::r,p=>⟨3,p,W0,w⟩::eZ r (p+1)
def dP (a:Int) (n:Nat):List Int:=((List.range n).map λ(i:Nat)=>a+1+(i:Int)).filter λp=>decide (p=a+1\/p % 8=0)
def xG (s:Sw):Int:=eN s.t
def eJ (s:Sw):List Ac:=
 let a:=xG s;let f:=aY s.es
 ⟨4,a,W0,⟨3,s.seq,0⟩⟩::gM s [a]++eZ f (a+1)++gM s (dP a f.length)++[⟨4,a,W0,⟨0,s.seq,0⟩⟩]++gM s [a]
def Qt (s:Sw):SR:=({s with ph:=.own [{Hs.new (bT s.t s.seq) s.cH with nx:=.first}]},⟨5,aC s.t,W0,W0⟩,false)
def xM (s:Sw):List Ac->SR
 | []=>Qt s
 | a::l=>({s with ph:=.mO l},a,false)
def qB (s:Sw):SR:=xM s (eJ s)
def pq (s:Sw) (w:W3):SR:=
 if s.seq<=w.aO then Fq s false
 else if Fw s.t w.aO=false\/¬(w.v=0\/w.v=1) then qB s
 else({s with ph:=.last [{Hs.new (bT s.t w.aO) s.cH with nx:=.first}]},⟨5,aC s.t,W0,W0⟩,false)
def sE (s:Sw):Et:=s.es.getD 0 Fj
def s9 (s:Sw):SR:=({s with ph:=.lM},⟨5,(sE s).at',W0,W0⟩,false)
def oO (s:Sw) (ok:Bool):List Ac->SR
 | []=>Fq s ok
 | a::l=>({s with ph:=.send l ok},a,false)
def r8 (s:Sw) (w:W3):SR:=
 if ¬aZ w.ref=0/\0<=aC (aZ w.ref) then({s with ph:=.jS w [{Hs.new w.ref s.cH with nx:=.first}]},⟨5,aC (aZ w.ref),W0,W0⟩,false)
 else if ¬w=(sE s).old then oO s false (gM s [(sE s).at'])
 else({s with ph:=.mG},⟨6,(sE s).at',w,⟨(sE s).new,(w.aO+1) % 4294967296,0⟩⟩,false)
def Dj (hs:List Hs):Int:=match hs with | h::_=>h.aO | []=>0
def bS (s:Sw) (g:cP):SR:=
 match s.ph with
 | .lI=>pq s g.w
 | .last hs=>match bV hs g with
  | (hs,a,false)=>({s with ph:=.last hs},a,false)
  | (_,_,true)=>qB s
 | .mO l=>xM s l
 | .own hs=>match bV hs g with
  | (hs,a,false)=>({s with ph:=.own hs},a,false)
  | (hs,_,true)=>Fq s (decide (Dj hs=1))
 | .lM=>r8 s g.w
 | .jS w hs=>match bV hs g with
  | (hs,a,false)=>({s with ph:=.jS w hs},a,false)
  | (hs,_,true)=>if ¬Dj hs=4 then s9 s else({s with ph:=.kC},⟨6,(sE s).at',w,⟨w.v,w.aO,0⟩⟩,false)
 | .kC=>s9 s
 | .mG=>if g.ok=true then oO s true (gM s [(sE s).at']) else r8 s g.w
 | .send l ok=>oO s ok l
 | .over ok=>(s,jG,true)
def Om (t:Nat) (seq:Int) (cH:Bool) (es:List Et):Sw:=⟨t,seq,cH,es,.lI⟩
def oQ (cH:Bool) (e:Et):Sw:=⟨0,0,cH,[e],.lM⟩
inductive PP where
 | found
 | fZ (hs:List Hs)
 | back
 | flush
 | last
 | over
structure Pk where
 cH:Bool
 at':List Int
 i:Nat
 rounds:Nat
 now:List W3
 ki:List W3
 held:W3
 ph:PP
abbrev PR:Type:=Pk × Ac × Bool
def s7 (s:Pk):Int:=s.at'.getD s.i 0
def pW (s:Pk):PR:=({s with ph:=.found},⟨5,s7 s,W0,W0⟩,false)
def jW (s:Pk):PR:=
 if s.i<s.at'.length then({s with i:=s.i+1,ph:=.flush},⟨7,s7 s,W0,W0⟩,false)
 else({s with ph:=.last},⟨8,0,W0,W0⟩,false)
def Qr (s:Pk):PR:=({s with ph:=.over},jG,true)
def kx (a b:List W3):Bool:=(a.zip b).all λx=>decide (x.1=x.2)
def mQ (s:Pk):PR:=
 let s:={s with rounds:=s.rounds+1};if s.rounds<2\/kx s.ki s.now=false then pW {s with ki:=s.now,now:=[],i:=0}
 else if s.cH=true then jW {s with i:=0} else Qr s
def oY (s:Pk) (w:W3):PR:=
 if 0<aZ w.ref/\0<=aC (aZ w.ref) then({s with held:=w,ph:=.fZ [{Hs.new w.ref s.cH with nx:=.first}]},⟨5,aC (aZ w.ref),W0,W0⟩,false)
 else
  let s:={s with now:=s.now++[w],i:=s.i+1};if s.i<s.at'.length then pW s else mQ s
def iC (s:Pk) (g:cP):PR:=
 match s.ph with
 | .found=>oY s g.w
 | .fZ hs=>match bV hs g with
  | (hs,a,false)=>({s with ph:=.fZ hs},a,false)
  | (hs,_,true)=>if ¬Dj hs=4 then pW s else({s with ph:=.back},⟨6,s7 s,s.held,⟨s.held.v,s.held.aO,0⟩⟩,false)
 | .back=>pW s
 | .flush=>jW s
 | .last=>Qr s
 | .over=>(s,jG,true)
def C1 (cH:Bool) (l:List Int):Pk:=⟨cH,l,0,0,[],[],W0,.found⟩
structure Pt where
 cell:Nat
 more:Int
 wr:Bool
structure iZ where
 d:Nat
 ps:List Pt
inductive Cd where
 | sw (s:Sw)
 | bl (s:Bk)
 | pk (s:Pk)
structure Cn where
 t:Nat
 seq:Int
 cH:Bool
 ops:List iZ
 seen:List W3
 now:Option Cd
 done:List Bool
 pn:List Int
 broken:Bool
abbrev CR:Type:=Cn × Ac × Bool
def U0 (ps:List Pt):List Pt:=(List.range 6).filterMap λi=>ps.find? λp=>p.cell % 6 == i
def aL (o:iZ):List Pt:=if o.d % 4=2 then(U0 o.ps).take 1 else U0 o.ps
def bO (p:Pt):Int:=56+((p.cell % 6:Nat):Int)
def kO (p:Pt) (w:W3):Et:=⟨bO p,⟨w.v,w.aO,0⟩,if p.wr=true then uA (w.v+p.more) else w.v,p.wr⟩
def bB (l:List Pt) (seen:List W3):List Et:=(l.zip seen).map λx=>kO x.1 x.2
def cR:Cd->cP->Cd × Ac × Bool
 | .sw s,g=>let r:=bS s g; (.sw r.1,r.2)
 | .bl s,g=>let r:=bP s g; (.bl r.1,r.2)
 | .pk s,g=>let r:=iC s g; (.pk r.1,r.2)
def rE:Cd->Bool
 | .sw s=>match s.ph with | .over ok=>ok | _=>false
 | .bl s=>s.done
 | .pk _=>false
def yY:Cd->List Int
 | .pk s=>[s.now.foldl (λn w=>uA (n+w.v)) 0]
 | _=>[]
def MY:List Et->Bool
 | a::b::r=>decide (a.at'<b.at')&&MY (b::r)
 | _=>true
def G6 (es:List Et):Int:=
 if ¬eP es=0 then eP es else if 10<es.length then 15 else if MY es=false then 12 else if es.all (λe=>gX e.at')=false then 10 else 0
def F6 (t:Nat) (seq:Int) (es:List Et):Int:=
 if t<1\/3<t\/seq<1\/16777215<seq then 3 else if ¬eP es=0 then eP es else if eC es=false then 12 else if es.any (λe=>!gX e.at')=true then 10 else 0
def nc (e:Et):Int:=if ¬eP [e]=0 then eP [e] else if e.wr=false then 2 else if gX e.at'=false then 10 else 0
def jT (c:Cn) (o:iZ) (l:List Pt) (seen:List W3):Option Cn × Ac:=
 let es:=bB l seen;let c:={c with seen:=[]};if o.d % 4=1 then(if G6 es=0 then some {c with now:=some (.bl (GV c.cH es))} else none,⟨5,eT,W0,W0⟩)
 else if o.d % 4=2/\(l.getD 0 ⟨0,0,false⟩).wr=true then(if nc (es.getD 0 Fj)=0 then some {c with now:=some (.sw (oQ c.cH (es.getD 0 Fj)))} else none,⟨5,(es.getD 0 Fj).at',W0,W0⟩)
 else(if F6 c.t (c.seq+1) es=0 then some {c with seq:=c.seq+1,now:=some (.sw (Om c.t (c.seq+1) c.cH es))} else none,⟨5,eN c.t,W0,W0⟩)
def iA:List iZ->List iZ
 | []=>[]
 | o::r=>if o.ps=[] then iA r else o::r
def dR (c:Cn) (g:cP):CR:=
 match iA c.ops with
 | []=>({c with ops:=[]},jG,true)
 | o::r=>
  let c:={c with ops:=o::r};if c.broken=true then(c,jG,true) else
  let l:=aL o;if o.d % 4=3 then({c with now:=some (.pk (C1 c.cH (l.map bO)))},⟨5,(l.map bO).getD 0 0,W0,W0⟩,false)
  else
   let seen:=if c.seen=[] then [] else c.seen.dropLast++[g.w]
   if seen.length<l.length then({c with seen:=seen++[W0]},⟨5,(l.map bO).getD seen.length 0,W0,W0⟩,false)
   else match jT c o l seen with
    | (some c,a)=>(c,a,false)
    | (none,_)=>({c with broken:=true},jG,true)
def vm (c:Cn) (d:Cd) (g:cP):CR:=
 match cR d g with
 | (d,a,false)=>({c with now:=some d},a,false)
 | (d,_,true)=>dR {c with done:=c.done++[rE d],pn:=c.pn++yY d,ops:=c.ops.tail,now:=none} kq
def cO (c:Cn) (g:cP):CR:=
 match c.now with
 | some d=>vm c d g
 | none=>dR c g
def Re (a b:Int):bin .and (.int .i64 a) (.int .i64 b)=some (.int .i64 (mR a b)):=by
 show some (Value.int .i64 (IntKind.i64.wrap (((BitVec.ofInt 64 a&&& BitVec.ofInt 64 b).toNat:Nat):Int)))=_;congr 2;unfold mR;rw[BitVec.toInt_eq_toNat_bmod,IntKind.wrap_i64,Int.bmod_def];have:=(BitVec.ofInt 64 a&&& BitVec.ofInt 64 b).isLt;split <;> omega
def Vx (a b:Int):bin .or (.int .i64 a) (.int .i64 b)=some (.int .i64 (Fl a b)):=by
 show some (Value.int .i64 (IntKind.i64.wrap (((BitVec.ofInt 64 a||| BitVec.ofInt 64 b).toNat:Nat):Int)))=_;congr 2;unfold Fl;rw[BitVec.toInt_eq_toNat_bmod,IntKind.wrap_i64,Int.bmod_def];have:=(BitVec.ofInt 64 a||| BitVec.ofInt 64 b).isLt;split <;> omega
def VC (a b:Int):bin .andNot (.int .i64 a) (.int .i64 b)=some (.int .i64 (Iv a b)):=by
 show some (Value.int .i64 (IntKind.i64.wrap (((BitVec.ofInt 64 a&&& ~~~ BitVec.ofInt 64 b).toNat:Nat):Int)))=_;congr 2;unfold Iv;rw[BitVec.toInt_eq_toNat_bmod,IntKind.wrap_i64,Int.bmod_def];have:=(BitVec.ofInt 64 a&&& ~~~ BitVec.ofInt 64 b).isLt;split <;> omega
abbrev iE (f r:Nat):Value:=.func (.func f) #[] #[bE r]
abbrev xH (p:SH) (b e:Int) (d:Bool) (n:Value):List Value:=[.int .i64 3,.int .i64 6,.int .i64 4,aK p,.int .i64 b,.int .i64 e,.bool d,n]
def Dx (B:Bs) (W:aX) (v:Value):Gf->Prop
 | .look=>W=aD []/\∃p b r n q,v=.agg ⟨xH p b 0 false q⟩/\q=iE 264 r/\(On B λh=>Sl CA h (aK p) [((0:Int),(4:Int))])/\(On B λh=>∃F,(rV r (xH p b 0 false n)).P h F)
 | .swap i _=>i<4/\∃p r,v=.agg ⟨xH p i 0 false (iE 276 r)⟩/\W=rV r (xH p i 0 false (iE 276 r))/\(On B λh=>Sl CA h (aK p) [((0:Int),(4:Int))])
 | .done i=>i<4/\W=aD []/\∃p n,v=.agg ⟨xH p i 0 true n⟩/\n.oneCell'=true
 | .full=>W=aD []/\∃p b n,v=.agg ⟨xH p b 9 true n⟩/\n.oneCell'=true
def Cx.wj (c:Cx F0 h0 h L):Cx F0 h0 h (L++[aD []]):=(Cx.pack (L:=L) (M:=[]) (by rw[List.append_nil]; exact c))
section
variable {p:SH} {b:Int} {n:Value} {w:W3} {g:cP}
def kP:∀{i:Nat},i<4->Pz 263 [vL,.int .i64 i] (.tuple #[.int .i64 376,.int .i64 (2 ^ i)]):=λhi h R Z k=>mB.2 (Q5 Z hi k)
def E6 (Z:Zs h) {ps:List (Int × Int)} (q:ps=[(0,4)]\/ps=[]) (G:n.oneCell'=true) (A:Sl CA h (aK p) ps)
  (h1:ps=[(0,4)]->∀r h',Cx (λ_=>False) h h' [rV r (xH p b 0 false (iE 264 r))]->R (.tuple #[.iface 362 (.agg ⟨xH p b 0 false (iE 264 r)⟩),lD ⟨5,eT,W0,W0⟩,.bool false]) h')
  (h2:ps=[]->∀h',Gr h h'->R (.tuple #[.iface 362 (.agg ⟨xH p b 9 true n⟩),lD jG,.bool true]) h'):S.C 241 [(.agg ⟨xH p b 0 false n⟩)] h R:=by
 refine vT.2 ?_;rcases q with rfl | rfl
 ·have E:([((0:Int),(4:Int))]:List (Int × Int))[0]?=some (0,4):=rfl;have c:=Cx.aB h;refine c.v8 λ_ _ c=>?_;refine c.v8 λ_ _ c=>?_;refine aE<|c.rc 0 ?_;refine vx (A.gr c.gr).ln<|vx (fG (by decide))<|aN<|aE<|vx (c.vp (i:=0) (ds:=[_,_,_]) rfl rfl rfl)<|aE<|c.rc 0 ?_;refine(A.gr c.gr).oW (j:=0) rfl E rfl (u:=.int .i64 0) rfl ?_;refine kP (i:=0) (by decide) _ _ (Z.gr c.gr) λ_ g=>?_;have c:=c.more g;refine vx rfl<|vx rfl<|vx rfl<|aE<|c.q8 0 λ_ c=>?_;refine c.rl 0 ?_;refine vx rfl<|vx (aG (ds:=[_,_,_,_,_,_,_,_]) rfl)<|c.w8 1 λ_ c=>?_;refine c.rl 1 ?_;exact h1 rfl _ _ (c.pick [0])
 ·have c:=Cx.aB h;refine c.v8 λ_ _ c=>?_;refine c.v8 λ_ _ c=>?_;refine aE<|c.rc 0 ?_;refine vx (A.gr c.gr).ln<|vx (jO rfl)<|bU<|aE<|c.q8 0 λ_ c=>?_;refine aE<|c.q8 0 λ_ c=>?_;refine c.rl 0 ?_;refine vx rfl<|vx (aG (ds:=[_,_,_,_,_,_,_,_]) rfl)<|c.w8 1 λ_ c=>?_;refine c.rl 1 ?_;exact h2 rfl _ c.gr
end
def xD (t:TypeId) (F:Fp) (h:Hp) (B:Bs) (V:Bs->aX->Value->Prop) (a:Ac) (d:Bool) (R:Value->Hp->Prop):Prop:=
 ∀v W M h',Cx F h h' [W,aD M]->V (B.and M) W v->R (.tuple #[.iface t v,lD a,.bool d]) h'
abbrev uH:Fp:=λ_=>False
section
variable {p:SH} {b:Int} {n:Value} {w:W3} {g:cP}
def G3 {w:W3} {i:Nat} (h:i<4):cF w (4 - i) i=if mR w.v (2 ^ i)=0 then(.swap i w,⟨6,eT,w,⟨Fl w.v (2 ^ i),w.aO,w.ref⟩⟩,false) else cF w (4 - (i+1)) (i+1):=by
 rw[show 4 - i=(4 - (i+1))+1 by omega,cF]
def B0 (M:B.p h) (X:On B Zs) (Z:n.oneCell'=true) (O:On B λh=>Sl CA h (aK p) [((0:Int),(4:Int))])
  (Q:xD 362 uH h B (λB W v=>Dx B W v (cF w 4 0).1) (cF w 4 0).2.1 (cF w 4 0).2.2 R):S.C 265 [(.agg ⟨xH p b 0 false n⟩),(mW w)] h R:=by
 refine uq.2 ?_;obtain⟨E,G,wr⟩:=w;have hx:([((0:Int),(4:Int))]:List (Int × Int))[0]?=some (0,4):=rfl;have pw:∀{i:Nat},i<4->xB (2 ^ i):=λ{i} hi=>by
  match i,hi with
  | 0,_=>exact⟨by decide,by decide⟩
  | 1,_=>exact⟨by decide,by decide⟩
  | 2,_=>exact⟨by decide,by decide⟩
  | 3,_=>exact⟨by decide,by decide⟩
  | i+4,h=>omega
 obtain⟨u,eu,Hu,_⟩:=(O h M).sub (n:=2) rfl (lo:=some (.int .i64 1)) (hi:=none) (l:=1) (u:=1) (.inr ⟨_,_,rfl,rfl⟩) (.inl ⟨rfl,rfl⟩) (Nat.le_refl _) (Nat.le_refl _);obtain⟨p2,rfl⟩:∃p2:SH,u=aK p2:=by
  obtain⟨a,cap,e,_⟩:=Hu;exact⟨(a,_,cap),e⟩
 have c:=Cx.aB h;refine c.v8 λq _ c=>?_;refine c.v3 λT _ c=>?_;refine c.v8 λU _ c=>?_;refine aE<|c.rc 0 ?_;refine(O _ (B.up M c.gr)).oW (j:=0) rfl hx rfl (u:=.int .i64 0) rfl ?_;refine oP.by (λ(i:Nat) z h'=>z=.int .i64 i/\i<=4/\cF ⟨E,G,wr⟩ 4 0=cF ⟨E,G,wr⟩ (4 - i) i/\Cx (λ_=>False) h h' [rV q (xH p b 0 false n),rV T [.int .i64 E,.int .u32 G,.int .u32 wr],rV U [_,_,_,_,_,_,_,_]]) (λi=>4 - i) 0 ⟨rfl,Nat.zero_le _,rfl,c⟩ ?_;rintro i _ h4 ⟨rfl,hi,N,c⟩ again A;refine aE<|c.rc 0 ?_;refine(O _ (B.up M c.gr)).oW (j:=1) rfl hx rfl (u:=.int .i64 4) rfl ?_;refine vx aV<|dW (λV=>?_) λV=>?_
 ·refine aE<|vx (c.vp (i:=0) (ds:=[_,_,_]) rfl rfl rfl) ?_;have J:i<4:=by omega
  refine kP (i:=i) J _ _ (X _ (B.up M c.gr)) λ_ g=>?_;have c:=c.more g;have H:=N.trans (G3 J);refine vx rfl<|vx rfl<|aE<|c.rc 1 ?_;refine vx (Re _ _)<|vx dZ<|dW (λK=>?_) λK=>?_
  ·refine vx (inc (by omega))<|A (i+1) _ _ ⟨rfl,by omega,?_,c⟩ (by omega);rw[H,if_neg K]
  ·refine aE<|c.q8 0 λ_ c=>?_;refine vx rfl<|aE<|c.q8 0 λ_ c=>?_;refine c.rl 0 ?_;refine vx rfl<|c.rl 1 ?_;refine aE<|c.rc 1 ?_;refine vx (Vx _ _)<|aE<|c.rc 1 ?_;refine aE<|c.rc 1 ?_;refine vx (aG (ds:=[_,_,_]) rfl)<|vx (aG (ds:=[_,_,_,_,_,_,_,_]) rfl)<|c.w8 2 λ_ c=>?_;refine c.rl 2 ?_;have e:cF ⟨E,G,wr⟩ 4 0=(.swap i ⟨E,G,wr⟩,⟨6,eT,⟨E,G,wr⟩,⟨Fl E (2 ^ i),G,wr⟩⟩,false):=by rw[H,if_pos (Decidable.not_not.1 K)]
   rw[e] at Q;exact Q _ (rV q (xH p i 0 false (iE 276 q))) [] _ ((c.pick [0]).wj) ⟨J,p,q,rfl,rfl,O.le (Bs.aJ _ _)⟩
 ·refine aE<|c.rc 0 ?_;obtain rfl:i=4:=by omega
  refine vx eu<|aE<|c.q8 0 λ_ c=>?_;refine c.rl 0 ?_;refine E6 (p:=p2) (b:=b) (n:=n) (X _ (B.up M c.gr)) (ps:=[]) (.inr rfl) Z ?_ (λx=>by cases x) λ_ _ g=>?_
  ·exact Hu.gr c.gr
  have c:=c.more g;refine c.t8 2 λ_ c=>?_;have e:cF ⟨E,G,wr⟩ 4 0=(.full,jG,true):=N;rw[e] at Q;exact Q _ (aD []) [] _ (Cx.wj (L:=[aD []]) (Cx.wj (L:=[]) (c.pick []))) ⟨rfl,p2,b,n,rfl,Z⟩
end
def SS (f:Nat) (t:TypeId) (B:Bs) (W:aX) (v:Value) (g:cP) (V:Bs->aX->Value->Prop) (a:Ac) (d:Bool):Prop:=
 ∀h F (R:Value->Hp->Prop),Cx F h h [W]->(∀h',Ch F h h'->B.p h')->xD t F h B V a d R->S.C f [v,eI g] h R
def Fr (B:Bs) (r:Nat) (cs:List Value):Prop:=On B λh=>∃F,(rV r cs).P h F
def Fr.le {r:Nat} {cs:List Value} (H:Fr B r cs) (l:B.le B'):Fr B' r cs:=On.le H l
def rV.ld {r n:Nat} {cs:List Value} {F:Fp} (p:(rV r cs).P h F) (q:n=cs.length):aP n (bE r) h=some (.agg ⟨cs⟩):=let⟨⟨_,v⟩,_⟩:=p; v.whole q
def rV.lc {r o:Nat} {cs:List Value} {F:Fp} {u:Value} (p:(rV r cs).P h F) (hu:cs[o]?=some u):eH (.pointer (some ⟨r,o,none⟩)) h=some u:=by
 obtain⟨⟨_,v⟩,_⟩:=p;have:=v.row.eH (j:=o) hu;rwa [Nat.zero_add] at this
def Fr.ld {r n:Nat} {cs:List Value} (H:Fr B r cs) (b:B.p h) (q:n=cs.length):aP n (bE r) h=some (.agg ⟨cs⟩):=let⟨_,p⟩:=H h b; rV.ld p q
def Fr.of {M:List aX} {r:Nat} {cs:List Value} {i:Nat} (hi:M[i]?=some (rV r cs)):Fr (B.and M) r cs:=On.of hi
def Dx.le (l:B.le B') {W:aX} {v:Value}:∀{k:Gf},Dx B W v k->Dx B' W v k
 | .look,⟨a,p,b,r,n,q,c,d,e,f⟩=>⟨a,p,b,r,n,q,c,d,On.le e l,On.le f l⟩
 | .swap _ _,⟨a,p,r,b,c,d⟩=>⟨a,p,r,b,c,On.le d l⟩
 | .done _,x=>x
 | .full,x=>x
def xD.Vu {t:TypeId} {V:Bs->aX->Value->Prop} {a:Ac} {d:Bool} {h1:Hp} {R:Value->Hp->Prop} (c:Cx F h h1 L) (H:xD t F h B V a d R):xD t uH h1 B V a d R:=λv W M h' c' ok=>
 H v W M h' ((c.aF c').perm List.perm_append_comm |>.drop) ok
def Cx.lR (c:Cx F h0 h L) {i:Nat} {A:aX} (hi:L[i]?=some A):∃F',Cx F' h h [A]/\(∀h2,Ch F' h h2->Ch F h0 h2)/\∀{h':Hp} {A':aX} {M:List aX},Cx F' h h' (A'::M)->Cx F h0 h' (L.set i A'++M):=by
 obtain⟨F',E,G,_,up⟩:=c.Kd hi;refine⟨F',E,λh2 ch=>⟨Nat.le_trans c.gr.size ch.size,λr q u=>?_⟩,up⟩;rw[ch.same r (Nat.lt_of_lt_of_le q c.gr.size) (λe=>(G r e).elim u (λx=>by omega)),c.gr.same r q u]
section
variable {p:SH} {b:Int} {n:Value} {w:W3} {g:cP}
def B2 (Z:Zs h) (u:0<=b/\b<4) (q:∀h',Gr h h'->R (.int .i64 0) h'):S.C 238 [vL,(.int .i64 b)] h R:=by
 refine AF.2 ?_;have c:=Cx.aB h;refine c.v3 λ_ _ c=>?_;refine c.rl 0 ?_;refine cS _ _ (Z.gr c.gr) λ_ g=>?_;have c:=c.more g;refine vx (v:=.bool false) rfl<|aN ?_;refine .here<|vx (dA (by omega))<|aN<|aE<|c.rc 0 ?_;exact vx (iO (show ¬(4:Int)<=b by omega))<|aN<|q _ c.gr
def BG (V:∀p h',Cx (λ_=>False) h h' [bJ CA (aK p) [((0:Int),(4:Int))]]->R (aK p) h'):S.C 239 [(.int .i64 4),(.int .i64 0)] h R:=by
 refine tf.2 ?_;have H:∀(p:SH) h',Cx (λ_=>False) h h' [bJ CA (aK p) [((0:Int),(4:Int))]]->wA (aK p) (.int .i64 0) h' λq at8 J A=>
   Vb (bin .lss at8 (.int .i64 0)) λK=>Br K (
   Vb (bin .quo at8 (Value.int IntKind.i64 32)) λM=>
   Vb (bin .add M (Value.int IntKind.i64 1)) λN=>
   Vb (bin .mul N (Value.int IntKind.i64 32)) λO=>
   Vb (mn (.int .i64 0) O) λG=>
   Vb (fV [(0,1),(1,1)] #[Value.int IntKind.i64 0,Value.int IntKind.i64 0] [(0,at8),(1,G)]) λQ=>
   Eb (zO #[Value.int IntKind.i64 0,Value.int IntKind.i64 0] 2 1 379 [(0,Q)] J) λT X=>
   Ap 379 #[Value.int IntKind.i64 0,Value.int IntKind.i64 0] 2 16 q T X λU Z=>
   A U G Z) (
   R q J):=λp h' c=>by
  refine wA.by (λ(_:Unit) u v h'=>u=aK p/\v=.int .i64 0/\Cx (λ_=>False) h h' [bJ CA (aK p) [((0:Int),(4:Int))]]) (λ_=>0) () ⟨rfl,rfl,c⟩ ?_;rintro _ _ _ J ⟨rfl,rfl,c⟩ again _;refine En.vb (v:=.bool false) rfl ?_;refine aN ?_;exact V p _ c
 dsimp only[tf,dL];have c:=Cx.aB h;refine wA.by (λ(i:Nat) u v h'=>(i=0/\v=.int .i64 0/\Cx (λ_=>False) h h' [bJ CA u []])\/(i=1/\v=.int .i64 4/\Cx (λ_=>False) h h' [bJ CA u [((0:Int),(4:Int))]])) (λi=>1 - i) 0 (.inl ⟨rfl,rfl,c.nil CA⟩) ?_;rintro i u v h1 hh again E;rcases hh with ⟨rfl,rfl,c⟩| ⟨rfl,rfl,c⟩
 rotate_left
 ·refine vx (v:=.bool false) rfl<|aN ?_;obtain⟨p,rfl⟩:=(c.sl (i:=0) rfl).ol;exact H p _ c
 refine vx (v:=.bool true) rfl ?_;replace c:=c.n1;refine bU<|vx (v:=.int .i64 0) rfl<|vx (v:=.int .i64 1) rfl<|vx (v:=.int .i64 32) rfl<|vx (v:=.int .i64 4) rfl<|vx (aG (ds:=[_,_]) rfl)<|c.dN CA ((0:Int),(4:Int)) rfl rfl λaS _ c=>?_;replace c:=c.n2;refine c.ap 0 rfl (c.sl (i:=1) rfl).sl rfl rfl (by decide) (by decide) λaT _ c=>?_;replace c:=c.n2;exact E 1 _ _ _ (.inr ⟨rfl,rfl,c.pick [0]⟩) (by decide)
def Ml (Z:Zs h) (q:∀p r h',Cx (λ_=>False) h h' [bJ CA (aK p) [((0:Int),(4:Int))],rV r (xH p 0 0 false (iE 240 r))]->R (.tuple #[.iface 362 (.agg ⟨xH p 0 0 false (iE 240 r)⟩),.int .i64 0]) h'):S.C 224 [vL,(.int .i64 0)] h R:=by
 refine Dh.2 ?_;have c:=Cx.aB h;refine c.v3 λ_ _ c=>?_;refine c.rl 0 ?_;refine B2 (Z.gr c.gr) ⟨by decide,by decide⟩ λ_ g=>?_;have c:=c.more g;refine vx (v:=.bool false) rfl<|aN ?_;refine .here<|c.rl 0 ?_;refine aE<|c.rc 0 ?_;refine⟨?_,?_⟩
 ·refine BG λp _ d=>?_;have c:=c.aF d;replace c:=c.n2;refine c.al 0 ?_;refine vx (aG (ds:=[_,_,_,_,_,_,_,_]) rfl)<|c.v8 λ_ _ c=>?_;refine c.al 0 ?_;refine c.w8 2 λ_ c=>?_;refine vx rfl<|aE<|c.q8 2 λ_ c=>?_;refine c.rl 2 ?_;exact vx rfl<|q p _ _ (c.pick [1,2])
 ·refine c.v8 λ_ _ c=>?_;refine c.ac 0 ?_;refine c.al 0 ?_;refine BG λp _ d=>?_;have c:=c.aF d;replace c:=c.n3;refine c.al 0 ?_;refine vx (aG (ds:=[_,_,_,_,_,_,_,_]) rfl)<|c.w8 1 λ_ c=>?_;refine vx rfl<|aE<|c.q8 1 λ_ c=>?_;refine c.rl 1 ?_;exact vx rfl<|q p _ _ (c.pick [2,1])
def Jt (q:B.p h) (E:On B Zs) {r:Nat} (G:n.oneCell'=true) (A:On B λh=>Sl CA h (aK p) [((0:Int),(4:Int))]) (H:Fr B r (xH p b 0 false n))
  (J:xD 362 uH h B (λB W v=>Dx B W v .look) ⟨5,eT,W0,W0⟩ false R):S.C 240 [(eI g),(bE r)] h R:=by
 refine zg.2 ?_;have c:=Cx.aB h;refine c.v4 λ_ _ c=>?_;refine c.v8 λ_ _ c=>?_;refine vx (H.ld (B.up q c.gr) rfl)<|E6 (p:=p) (b:=b) (n:=n) (E _ (B.up q c.gr)) (.inl rfl) G (A _ (B.up q c.gr)) (λ_ u _ d=>?_) λx=>by cases x
 have c:=c.aF d;replace c:=c.n3;refine c.t8 1 λ_ c=>?_;exact J _ (aD []) [rV u (xH p b 0 false (iE 264 u))] _ (Cx.pack (L:=[aD []]) ((c.pick [2]).wj.perm (List.Perm.swap ..))) ⟨rfl,p,b,u,_,_,rfl,rfl,A.le (Bs.aJ _ _),Fr.of (i:=0) rfl⟩
def IL (q:B.p h) (u:On B Zs) {r:Nat} (A:n.oneCell'=true) (E:On B λh=>Sl CA h (aK p) [((0:Int),(4:Int))]) (G:Fr B r (xH p b 0 false n))
  (H:xD 362 uH h B (λB W v=>Dx B W v (cF g.w 4 0).1) (cF g.w 4 0).2.1 (cF g.w 4 0).2.2 R):mU.1 (eI g) (bE r) h R:=by
 obtain⟨⟨J,K,gr⟩,N⟩:=g;have c:=Cx.aB h;refine c.v4 λ_ _ c=>?_;refine c.v8 λ_ _ c=>?_;refine vx (G.ld (B.up q c.gr) rfl)<|aE<|vx (c.vp (i:=0) (ds:=[_,_,_]) rfl rfl rfl)<|B0 (p:=p) (b:=b) (n:=n) (w:=⟨J,K,gr⟩) (B.up q c.gr) u A E λv W M _ d ok=>?_;have c:=c.aF d;replace c:=c.n4;refine c.t8 1 λ_ c=>?_;exact H v W M _ (c.pick [2,3]) ok
def Gw (E:∀h',Ch F h h'->B.p h') (G:On B Zs) {r i:Nat} (hi:i<4) (H:On B λh=>Sl CA h (aK p) [((0:Int),(4:Int))]) (c:Cx F h h [rV r (xH p i 0 false (iE 276 r))])
  (q:xD 362 F h B (λB W v=>Dx B W v (eO (.swap i w) g).1) (eO (.swap i w) g).2.1 (eO (.swap i w) g).2.2 R):mA.1 (eI g) (bE r) h R:=by
 obtain⟨⟨u,A,gr⟩,J⟩:=g;cases J with
 | true=>
  have e:eO (.swap i w) ⟨⟨u,A,gr⟩,true⟩=(.done i,jG,true):=by unfold eO; exact if_pos rfl
  rw[e] at q;replace c:Cx _ _ _ [_]:=c;refine c.v4 λ_ _ c=>?_;refine c.v8 λ_ _ c=>?_;refine aE<|c.rc 1 ?_;refine bU<|aE<|c.q8 0 λ_ c=>?_;refine c.rl 0 ?_;refine vx rfl<|vx (aG (ds:=[_,_,_,_,_,_,_,_]) rfl)<|c.w8 2 λ_ c=>?_;refine c.rl 2 ?_;exact q _ (aD []) [] _ (Cx.wj (L:=[aD []]) (Cx.wj (L:=[]) (c.pick []))) ⟨hi,rfl,p,_,rfl,rfl⟩
 | false=>
  have e:eO (.swap i w) ⟨⟨u,A,gr⟩,false⟩=cF ⟨u,A,gr⟩ 4 0:=by unfold eO; exact if_neg Bool.false_ne_true
  rw[e] at q;replace c:Cx _ _ _ [_]:=c;refine c.v4 λ_ _ c=>?_;refine c.v8 λ_ _ c=>?_;refine aE<|c.rc 1 ?_;refine aN<|c.rl 0 ?_;refine aE<|vx (c.vp (i:=1) (ds:=[_,_,_]) rfl rfl rfl)<|B0 (p:=p) (b:=i) (n:=iE 276 r) (w:=⟨u,A,gr⟩) (E _ c.gr) G rfl H λv W M _ d ok=>?_;have c:=c.aF d;replace c:=c.n5;refine c.t8 2 λ_ c=>?_;exact q v W M _ (c.pick [3,4]) ok
def Fc.live:Gf->Prop
 | .look=>True
 | .swap _ _=>True
 | _=>False
def BX {F:Fp}:Cx F h h [aD []]:=(Cx.wj (L:=[]) ⟨[],.nil,.refl _ _,λG q=>by cases q⟩)
def KI (q:∀h',Ch F h h'->B.p h') (E:On B Zs) {k:Gf} {W:aX} {v:Value} (hv:Dx B W v k) (G:Fc.live k) (c:Cx F h h [W])
  (H:xD 362 F h B (λB W v=>Dx B W v (eO k g).1) (eO k g).2.1 (eO k g).2.2 R):iP.1 v (eI g) h R:=by
 obtain⟨⟨J,K,gr⟩,N⟩:=g;cases k with
 | done i=>exact G.elim
 | full=>exact G.elim
 | look=>
  obtain⟨rfl,p,b,r,n,U,rfl,rfl,u,O⟩:=hv;have Q:n.oneCell'=true:=by
   obtain⟨_,⟨ho,_⟩,_⟩:=O _ (q h (.refl _ _));exact nu ho n (by simp)
  replace c:Cx _ _ _ [_]:=c;refine c.v8 λ_ _ c=>?_;refine c.v4 λ_ _ c=>?_;refine c.v8 λ_ _ c=>?_;refine aE<|c.rc 1 ?_;refine aN<|aE<|c.rc 1 ?_;refine c.rl 2 ?_;refine .inl (.inl ⟨264,#[],#[bE r],rfl,mU.2 (IL (g:=⟨⟨J,K,gr⟩,N⟩) (p:=p) (b:=b) (n:=n) (q _ c.gr) E Q u O λv W M _ d ok=>?_)⟩);have c:=c.aF d;replace c:=c.n6;refine c.t8 3 λ_ c=>?_;exact H v W M _ (c.pick [4,5]) ok
 | swap i w=>
  obtain⟨hi,p,r,rfl,rfl,u⟩:=hv;replace c:Cx _ _ _ [_]:=c;refine c.v8 λ_ _ c=>?_;refine c.v4 λ_ _ c=>?_;refine c.v8 λ_ _ c=>?_;refine aE<|c.rc 1 ?_;refine aN<|aE<|c.rc 1 ?_;refine c.rl 2 ?_;refine .inl (.inl ⟨276,#[],#[bE r],rfl,mA.2 ?_⟩);obtain⟨F',c',T,up⟩:=c.lR (i:=0) rfl;refine Gw (g:=⟨⟨J,K,gr⟩,N⟩) (B:=B) (F:=F') (w:=w) (λA ch=>q A (T _ ch)) E hi u c' λv W M _ d ok=>?_;have c:=up d;replace c:=c.n5;refine c.t8 3 λ_ c=>?_;exact H v W M _ (c.pick [0,4]) ok
end
abbrev yS (b e:Int) (d:Bool) (n:Value):List Value:=[.int .i64 3,.int .i64 6,.int .i64 4,.int .i64 b,.int .i64 e,.bool d,n]
def J6 (B:Bs) (W:aX) (v:Value) (b:Nat):MN->Prop
 | .look=>W=aD []/\∃r n,v=.agg ⟨yS b 0 false (iE 290 r)⟩/\Fr B r (yS b 0 false n)
 | .swap _=>∃r,v=.agg ⟨yS b 0 false (iE 295 r)⟩/\W=rV r (yS b 0 false (iE 295 r))
 | .done bad=>W=aD []/\∃n,v=.agg ⟨yS b (if bad then 13 else 0) true n⟩/\n.oneCell'=true
def J6.le (l:B.le B') {W:aX} {v:Value} {b:Nat}:∀{k:MN},J6 B W v b k->J6 B' W v b k
 | .look,⟨a,r,n,c,d⟩=>⟨a,r,n,c,d.le l⟩
 | .swap _,x=>x
 | .done _,x=>x
section
variable {p:SH} {b:Nat} {n:Value} {w:W3} {g:cP}
def Bl (H:B.p h) (J:On B Zs) (K:b<4) (M:n.oneCell'=true)
  (E:xD 383 uH h B (λB W v=>J6 B W v b (dF b w).1) (dF b w).2.1 (dF b w).2.2 R):S.C 291 [(.agg ⟨yS b 0 false n⟩),(mW w)] h R:=by
 refine tD.2 ?_;obtain⟨u,A,wr⟩:=w;by_cases e:mR u (2 ^ b)=0
 ·have G:dF b ⟨u,A,wr⟩=(.done true,jG,true):=by unfold dF; exact if_pos e
  rw[G] at E;have c:=Cx.aB h;refine c.v7 λ_ _ c=>?_;refine c.v3 λ_ _ c=>?_;refine c.v8 λ_ _ c=>?_;refine aE<|vx (c.vp (i:=0) (ds:=[_,_,_]) rfl rfl rfl)<|aE<|c.rc 0 ?_;refine kP (i:=b) K _ _ (J _ (B.up H c.gr)) λ_ g=>?_;have c:=c.more g;refine vx rfl<|vx rfl<|aE<|c.rc 1 ?_;refine vx (Re _ _)<|vx (jO e)<|bU<|aE<|c.q7 0 λ_ c=>?_;refine aE<|c.q7 0 λ_ c=>?_;refine c.rl 0 ?_;refine vx rfl<|vx (aG (ds:=[_,_,_,_,_,_,_,_]) rfl)<|c.w8 2 λ_ c=>?_;refine c.rl 2 ?_;exact E _ (aD []) [] _ (Cx.wj (L:=[aD []]) (Cx.wj (L:=[]) (c.pick []))) ⟨rfl,n,rfl,M⟩
 ·have G:dF b ⟨u,A,wr⟩=(.swap ⟨u,A,wr⟩,⟨6,eT,⟨u,A,wr⟩,⟨Iv u (2 ^ b),A,wr⟩⟩,false):=by unfold dF; exact if_neg e
  rw[G] at E;have c:=Cx.aB h;refine c.v7 λq _ c=>?_;refine c.v3 λ_ _ c=>?_;refine c.v8 λ_ _ c=>?_;refine aE<|vx (c.vp (i:=0) (ds:=[_,_,_]) rfl rfl rfl)<|aE<|c.rc 0 ?_;refine kP (i:=b) K _ _ (J _ (B.up H c.gr)) λ_ g=>?_;have c:=c.more g;refine vx rfl<|vx rfl<|aE<|c.rc 1 ?_;refine vx (Re _ _)<|vx (fG e)<|aN<|vx rfl<|aE<|c.q7 0 λ_ c=>?_;refine c.rl 0 ?_;refine vx rfl<|c.rl 1 ?_;refine aE<|c.rc 1 ?_;refine vx (VC _ _)<|aE<|c.rc 1 ?_;refine aE<|c.rc 1 ?_;refine vx (aG (ds:=[_,_,_]) rfl)<|vx (aG (ds:=[_,_,_,_,_,_,_,_]) rfl)<|c.w8 2 λ_ c=>?_;refine c.rl 2 ?_;exact E _ (rV q (yS b 0 false (iE 295 q))) [] _ ((c.pick [0]).wj) ⟨q,rfl,rfl⟩
def KT (Z:Zs h) (u:b<4) (A:∀r q h',Cx (λ_=>False) h h' [rV r (yS b 0 false (.func (.func 289) #[] #[bE r,bE q])),rV q [.int .i64 eT]]->R (.tuple #[.iface 383 (.agg ⟨yS b 0 false (.func (.func 289) #[] #[bE r,bE q])⟩),.int .i64 0]) h'):S.C 277 [vL,(.int .i64 b)] h R:=by
 refine Cg.2 ?_;have c:=Cx.aB h;refine c.v3 λ_ _ c=>?_;refine c.rl 0 ?_;refine B2 (b:=b) (Z.gr c.gr) ⟨by omega,by omega⟩ λ_ g=>?_;have c:=c.more g;refine vx (v:=.bool false) rfl<|aN<|c.rl 0 ?_;refine vx (aG (ds:=[_,_,_,_,_,_,_]) rfl)<|c.v7 λ_ _ c=>?_;refine c.w7 1 λ_ c=>?_;refine c.rl 0 ?_;refine kP (i:=b) u _ _ (Z.gr c.gr) λ_ g=>?_;have c:=c.more g;refine vx rfl<|vx rfl<|c.v1 λ_ _ c=>?_;refine c.w1 2 λ_ c=>?_;refine vx rfl<|aE<|c.q7 1 λ_ c=>?_;refine c.rl 1 ?_;exact vx rfl<|A _ _ _ (c.pick [1,2])
def Jx {r q:Nat} (c:Cx F h h [aD [rV r (yS b 0 false n),rV q [.int .i64 eT]]]) (A:n.oneCell'=true)
  (u:∀r M h',Cx F h h' [aD M]->Fr (B.and M) r (yS b 0 false (iE 290 r))->R (.tuple #[.iface 383 (.agg ⟨yS b 0 false (iE 290 r)⟩),lD ⟨5,eT,W0,W0⟩,.bool false]) h'):rZ.1 (eI g) (bE r) (bE q) h R:=by
 obtain⟨⟨E,G,gr⟩,H⟩:=g;have c:=Cx.unpack (L:=[]) c;replace c:Cx _ _ _ [_,_]:=c;refine c.v4 λ_ _ c=>?_;refine c.v8 λ_ _ c=>?_;refine vx rfl<|aE<|c.q7 0 λ_ c=>?_;refine c.rl 0 ?_;refine vx rfl<|c.rc 1 ?_;refine vx (aG (ds:=[_,_,_,_,_,_,_,_]) rfl)<|c.w8 3 λ_ c=>?_;refine c.rl 3 ?_;exact u r [rV r (yS b 0 false (iE 290 r))] _ (Cx.pack (L:=[]) (c.pick [0])) (Fr.of (i:=0) rfl)
def FF (q:B.p h) (u:On B Zs) (A:b<4) {r:Nat} (E:n.oneCell'=true) (G:Fr B r (yS b 0 false n))
  (H:xD 383 uH h B (λB W v=>J6 B W v b (dF b g.w).1) (dF b g.w).2.1 (dF b g.w).2.2 R):pU.1 (eI g) (bE r) h R:=by
 obtain⟨⟨J,K,gr⟩,N⟩:=g;have c:=Cx.aB h;refine c.v4 λ_ _ c=>?_;refine c.v8 λ_ _ c=>?_;refine vx (G.ld (B.up q c.gr) rfl)<|aE<|vx (c.vp (i:=0) (ds:=[_,_,_]) rfl rfl rfl)<|Bl (n:=n) (w:=⟨J,K,gr⟩) (B.up q c.gr) u A E λv W M _ d ok=>?_;have c:=c.aF d;replace c:=c.n4;refine c.t8 1 λ_ c=>?_;exact H v W M _ (c.pick [2,3]) ok
def GN (E:∀h',Ch F h h'->B.p h') (G:On B Zs) (H:b<4) {r:Nat} (c:Cx F h h [rV r (yS b 0 false (iE 295 r))])
  (q:xD 383 F h B (λB W v=>J6 B W v b (fC b (.swap w) g).1) (fC b (.swap w) g).2.1 (fC b (.swap w) g).2.2 R):mm.1 (eI g) (bE r) h R:=by
 obtain⟨⟨u,A,gr⟩,J⟩:=g;cases J with
 | true=>
  have e:fC b (.swap w) ⟨⟨u,A,gr⟩,true⟩=(.done false,jG,true):=by unfold fC; exact if_pos rfl
  rw[e] at q;replace c:Cx _ _ _ [_]:=c;refine c.v4 λ_ _ c=>?_;refine c.v8 λ_ _ c=>?_;refine aE<|c.rc 1 ?_;refine bU<|aE<|c.q7 0 λ_ c=>?_;refine c.rl 0 ?_;refine vx rfl<|vx (aG (ds:=[_,_,_,_,_,_,_,_]) rfl)<|c.w8 2 λ_ c=>?_;refine c.rl 2 ?_;exact q _ (aD []) [] _ (Cx.wj (L:=[aD []]) (Cx.wj (L:=[]) (c.pick []))) ⟨rfl,_,rfl,rfl⟩
 | false=>
  have e:fC b (.swap w) ⟨⟨u,A,gr⟩,false⟩=dF b ⟨u,A,gr⟩:=by unfold fC; exact if_neg Bool.false_ne_true
  rw[e] at q;replace c:Cx _ _ _ [_]:=c;refine c.v4 λ_ _ c=>?_;refine c.v8 λ_ _ c=>?_;refine aE<|c.rc 1 ?_;refine aN<|c.rl 0 ?_;refine aE<|vx (c.vp (i:=1) (ds:=[_,_,_]) rfl rfl rfl)<|Bl (n:=iE 295 r) (w:=⟨u,A,gr⟩) (E _ c.gr) G H rfl λv W M _ d ok=>?_;have c:=c.aF d;replace c:=c.n5;refine c.t8 2 λ_ c=>?_;exact q v W M _ (c.pick [3,4]) ok
def Kb.live:MN->Prop
 | .done _=>False
 | _=>True
def Lc (q:∀h',Ch F h h'->B.p h') (A:On B Zs) (E:b<4) {k:MN} {W:aX} {v:Value} (hv:J6 B W v b k) (O:Kb.live k) (c:Cx F h h [W])
  (G:xD 383 F h B (λB W v=>J6 B W v b (fC b k g).1) (fC b k g).2.1 (fC b k g).2.2 R):iL.1 v (eI g) h R:=by
 obtain⟨⟨H,J,gr⟩,K⟩:=g;cases k with
 | done i=>exact O.elim
 | look=>
  obtain⟨rfl,r,n,rfl,N⟩:=hv;have Q:n.oneCell'=true:=by
   obtain⟨_,⟨ho,_⟩,_⟩:=N _ (q h (.refl _ _));exact nu ho n (by simp)
  replace c:Cx _ _ _ [_]:=c;refine c.v7 λ_ _ c=>?_;refine c.v4 λ_ _ c=>?_;refine c.v8 λ_ _ c=>?_;refine aE<|c.rc 1 ?_;refine aN<|aE<|c.rc 1 ?_;refine c.rl 2 ?_;refine .inl (.inl ⟨290,#[],#[bE r],rfl,pU.2 (FF (g:=⟨⟨H,J,gr⟩,K⟩) (n:=n) (q _ c.gr) A E Q N λv W M _ d ok=>?_)⟩);have c:=c.aF d;replace c:=c.n6;refine c.t8 3 λ_ c=>?_;exact G v W M _ (c.pick [4,5]) ok
 | swap w=>
  obtain⟨r,rfl,rfl⟩:=hv;replace c:Cx _ _ _ [_]:=c;refine c.v7 λ_ _ c=>?_;refine c.v4 λ_ _ c=>?_;refine c.v8 λ_ _ c=>?_;refine aE<|c.rc 1 ?_;refine aN<|aE<|c.rc 1 ?_;refine c.rl 2 ?_;refine .inl (.inl ⟨295,#[],#[bE r],rfl,mm.2 ?_⟩);obtain⟨F',c',T,up⟩:=c.lR (i:=0) rfl;refine GN (g:=⟨⟨H,J,gr⟩,K⟩) (B:=B) (F:=F') (w:=w) (λu ch=>q u (T _ ch)) A E c' λv W M _ d ok=>?_;have c:=up d;replace c:=c.n5;refine c.t8 3 λ_ c=>?_;exact G v W M _ (c.pick [0,4]) ok
def IH {r q:Nat} (c:Cx F h h [aD [rV r (yS b 0 false (.func (.func 289) #[] #[bE r,bE q])),rV q [.int .i64 eT]]])
  (u:∀r M h',Cx F h h' [aD M]->Fr (B.and M) r (yS b 0 false (iE 290 r))->R (.tuple #[.iface 383 (.agg ⟨yS b 0 false (iE 290 r)⟩),lD ⟨5,eT,W0,W0⟩,.bool false]) h'):iL.1 (.agg ⟨yS b 0 false (.func (.func 289) #[] #[bE r,bE q])⟩) (eI g) h R:=by
 obtain⟨⟨A,E,gr⟩,G⟩:=g;replace c:Cx _ _ _ [_]:=c;refine c.v7 λ_ _ c=>?_;refine c.v4 λ_ _ c=>?_;refine c.v8 λ_ _ c=>?_;refine aE<|c.rc 1 ?_;refine aN<|aE<|c.rc 1 ?_;refine c.rl 2 ?_;refine .inl (.inl ⟨289,#[],#[bE r,bE q],rfl,rZ.2 ?_⟩);obtain⟨F',c',H,up⟩:=c.lR (i:=0) rfl;refine Jx (B:=B) (g:=⟨⟨A,E,gr⟩,G⟩) c' rfl λr M _ d ok=>?_;have c:=up (A':=aD M) (M:=[]) d;replace c:Cx _ _ _ [_,_,_,_]:=c;replace c:=c.n4;refine c.t8 3 λ_ c=>?_;exact u r M _ (c.pick [0]) ok
def JI {W:aX} {v:Value} {k:Gf} (hv:Dx B W v k) (q:¬Fc.live k) (A:¬383=362) (u:∀h',Gr h h'->R (match k with | .done i=>.tuple #[.int .i64 i,.int .i64 0,.bool true] | _=>.tuple #[.int .i64 0,.int .i64 9,.bool true]) h'):l9.1 (.iface 362 v) h R:=by
 cases k with
 | look=>exact absurd trivial q
 | swap i w=>exact absurd trivial q
 | done i=>
  obtain⟨hi,rfl,p,n,rfl,E⟩:=hv;dsimp only[l9,iJ];have c:=Cx.aB h;refine .here<|vx (v:=.tuple #[.agg ⟨xH p i 0 true n⟩,.bool true]) (by simp[Az])<|vx (v:=.bool true) (rfl)<|vx rfl<|bU<|c.v8 λ_ _ c=>?_;refine c.w8 0 λ_ c=>?_;refine aE<|c.rc 0 ?_;refine vx (v:=.bool false) (rfl)<|aN<|aE<|c.rc 0 ?_;refine vx (v:=.bool false) rfl<|aN<|aE<|c.rc 0 ?_;exact u _ c.gr
 | full=>
  obtain⟨rfl,p,b,n,rfl,E⟩:=hv;dsimp only[l9,iJ];have c:=Cx.aB h;refine .here<|vx (v:=.tuple #[.agg ⟨xH p b 9 true n⟩,.bool true]) (by simp[Az])<|vx (v:=.bool true) (rfl)<|vx rfl<|bU<|c.v8 λ_ _ c=>?_;refine c.w8 0 λ_ c=>?_;refine aE<|c.rc 0 ?_;refine vx (v:=.bool false) (rfl)<|aN<|aE<|c.rc 0 ?_;refine vx (v:=.bool true) rfl<|bU<|aE<|c.rc 0 ?_;exact u _ c.gr
end
structure Bc where
 du:Bool
 e:SH
 who:Int
 seq:Int
 at':Int
 i:Nat
 dU:Value
 dn:Bool
 bad:Int
 th:Bool
 nx:Value
 bh:Value
abbrev Vj (x:Bc):List Value:=[.int .i64 3,.int .i64 6,.int .i64 4,.bool x.du,aK x.e,.int .i64 x.who,.int .i64 x.seq,.int .i64 x.at',.int .i64 x.i,x.dU,.bool x.dn,.int .i64 x.bad,.bool x.th,x.nx,x.bh]
abbrev oU (x:Bc):Value:=.agg ⟨Vj x⟩
structure Bo (x:Bc):Prop where
 dU:x.dU.oneCell'=true
 nx:x.nx.oneCell'=true
 bh:x.bh.oneCell'=true
section
variable {x:Bc} {n:Value} {a:Ac} {z:Int} {g:cP} {es:List Et}
def sg (o:Bo x) (E:n.oneCell'=true) (q:∀h',Gr h h'->R (.tuple #[oU {x with nx:=n},lD a,.bool false]) h'):S.C 245 [(oU x),(lD a),n] h R:=by
 refine sY.2 ?_;obtain⟨du,e,who,seq,bE,i,dU,dn,bad,th,nx,bh⟩:=x;obtain⟨hi,u,A⟩:=o;dsimp only at hi u A;have c:=Cx.aB h;refine c.lA λ_ _ c=>?_;refine c.v8 λ_ _ c=>?_;refine c.lA λ_ _ c=>?_;refine c.v8 λ_ _ c=>?_;refine aE<|c.Dp 0 λ_ c=>?_;refine c.rl 0 ?_;refine c.rl 1 ?_;refine c.SF 2 λ_ c=>?_;refine c.al 1 ?_;refine c.w8 3 λ_ c=>?_;refine c.rl 2 ?_;refine c.rl 3 ?_;exact q _ c.gr
def Kr (o:Bo x) (q:∀h',Gr h h'->R (.tuple #[oU {x with th:=true,dU:=.nilIface},lD jG,.bool true]) h'):S.C 244 [(oU x)] h R:=by
 refine s5.2 ?_;obtain⟨du,e,who,seq,bE,i,dU,dn,bad,th,nx,bh⟩:=x;obtain⟨hi,u,A⟩:=o;dsimp only at hi u A;have c:=Cx.aB h;refine c.lA λ_ _ c=>?_;refine c.lA λ_ _ c=>?_;refine c.v8 λ_ _ c=>?_;refine aE<|c.Dp 0 λ_ c=>?_;refine aE<|c.Dp 0 λ_ c=>?_;refine c.rl 0 ?_;refine vx (aG (ds:=[_,_,_,_,_,_,_,_]) rfl)<|c.SF 1 λ_ c=>?_;refine c.w8 2 λ_ c=>?_;refine c.rl 1 ?_;refine c.rl 2 ?_;exact q _ c.gr
def px (o:Bo x) (he:Sl EE h (aK x.e) es) (E:es.length<=1000) (q:∀h',Gr h h'->R (.int .i64 (1+3*es.length)) h'):S.C 280 [(oU x)] h R:=by
 refine qh.2 ?_;obtain⟨du,e,who,seq,bE,i,dU,dn,bad,th,nx,bh⟩:=x;obtain⟨hi,u,A⟩:=o;dsimp only at hi u A he;have c:=Cx.aB h;refine c.lA λ_ _ c=>?_;refine aE<|c.rc 0 ?_;exact vx (he.gr c.gr).ln<|vx (Ec (a:=3) (b:=es.length) ⟨by omega,by omega⟩)<|vx (iQ (a:=1) (b:=3*es.length) ⟨by omega,by omega⟩)<|q _ c.gr
def Oz (es:List Et) (i:Nat):W3:=if i=0 then⟨es.length,0,0⟩ else
  let e:=es.getD ((i - 1) / 3) Fj;if (i - 1) % 3=0 then yy e else if (i - 1) % 3=1 then yD e else yG e
def Md (o:Bo x) (he:Sl EE h (aK x.e) es) {i:Nat} (hi:i<1+3*es.length) (T:es.length<=1000) (G:∀h',Gr h h'->R (mW (Oz es i)) h'):S.C 281 [(oU x),(.int .i64 i)] h R:=by
 refine qO.2 ?_;obtain⟨du,e,who,seq,bE,i0,dU,dn,bad,th,nx,bh⟩:=x;obtain⟨K,O,Q⟩:=o;dsimp only at K O Q he;unfold Oz at G;by_cases M:i=0
 ·subst M;rw[if_pos rfl] at G;have c:=Cx.aB h;refine c.lA λ_ _ c=>?_;refine c.v3 λ_ _ c=>?_;refine vx (jO rfl)<|bU<|aE<|c.rc 0 ?_;refine vx (he.gr c.gr).ln<|vx (aG (ds:=[_,_,_]) rfl)<|c.w3 1 λ_ c=>?_;refine c.rl 1 ?_;exact G _ c.gr
 ·rw[if_neg M] at G;have N:(i - 1) / 3<es.length:=by omega
  have H:es[(i - 1) / 3]?=some (es.getD ((i - 1) / 3) Fj):=by rw[List.getD_eq_getElem?_getD,List.getElem?_eq_getElem N]; rfl
  generalize es.getD ((i - 1) / 3) Fj=et at G H;obtain⟨q,⟨ev,eq,u⟩,A,eb⟩:=et;have J:(i - 1) % 3=0\/(i - 1) % 3=1\/(i - 1) % 3=2:=by omega
  have E:O2 3 3 (vP (yy ⟨q,⟨ev,eq,u⟩,A,eb⟩) (yD ⟨q,⟨ev,eq,u⟩,A,eb⟩) (yG ⟨q,⟨ev,eq,u⟩,A,eb⟩)) (.int .i64 (((i - 1) % 3:Nat):Int))=some (mW (if (i - 1) % 3=0 then yy ⟨q,⟨ev,eq,u⟩,A,eb⟩ else if (i - 1) % 3=1 then yD ⟨q,⟨ev,eq,u⟩,A,eb⟩ else yG ⟨q,⟨ev,eq,u⟩,A,eb⟩)):=by
   rcases J with J | J | J <;> rw[J] <;> kernel_rfl
  generalize (if (i - 1) % 3=0 then yy ⟨q,⟨ev,eq,u⟩,A,eb⟩ else if (i - 1) % 3=1 then yD ⟨q,⟨ev,eq,u⟩,A,eb⟩ else yG ⟨q,⟨ev,eq,u⟩,A,eb⟩)=wd at G E;obtain⟨U,V,wr⟩:=wd;have c:=Cx.aB h;refine c.lA λ_ _ c=>?_;refine c.v3 λ_ _ c=>?_;refine vx (fG (λh=>M (by omega)))<|aN<|aE<|c.rc 0 ?_;refine vx (fT ⟨by omega,by omega⟩)<|vx (zl ⟨by omega,by omega⟩ (by decide)) ?_;rw[show((i:Int) - 1) / 3=(((i - 1) / 3:Nat):Int) by omega];refine(he.gr c.gr).whole rfl H rfl ?_;refine Cj (e:=⟨q,⟨ev,eq,u⟩,A,eb⟩) λ_ g=>?_;have c:=c.more g;refine vx (fT ⟨by omega,by omega⟩)<|vx (AQ (by omega) (by decide)) ?_;rw[show((i:Int) - 1) % 3=(((i - 1) % 3:Nat):Int) by omega];refine vx E<|c.w3 1 λ_ c=>?_;refine c.rl 1 ?_;exact G _ c.gr
def Bm (o:Bo x) (A:n.oneCell'=true) (q:0<=x.seq/\x.seq<4294967296) (E:∀h',Gr h h'->R (.tuple #[oU {x with bh:=n,nx:=kB 279},lD ⟨4,x.at',W0,⟨z,x.seq,0⟩⟩,.bool false]) h'):S.C 267 [(oU x),(.int .i64 z),n] h R:=by
 refine qg.2 ?_;obtain⟨du,e,who,seq,bE,i,dU,dn,bad,th,nx,bh⟩:=x;obtain⟨hi,u,G⟩:=o;dsimp only at hi u G q;have c:=Cx.aB h;refine c.lA λ_ _ c=>?_;refine c.lA λ_ _ c=>?_;refine c.v8 λ_ _ c=>?_;refine aE<|c.Dp 0 λ_ c=>?_;refine c.rl 0 ?_;refine aE<|c.rc 0 ?_;refine aE<|c.rc 0 ?_;refine gH q λ_ g=>?_;have c:=c.more g;refine c.ac 0 ?_;refine c.al 0 ?_;refine vx (aG (ds:=[_,_,_,_,_,_,_,_]) rfl)<|sg (x:=⟨du,e,who,seq,bE,i,dU,dn,bad,th,nx,n⟩) (a:=⟨4,bE,W0,⟨z,seq,0⟩⟩) ⟨hi,u,A⟩ rfl λ_ g=>?_;have c:=c.more g;refine c.jP 1 2 λ_ c=>?_;exact E _ c.gr
def HN (o:Bo x) (q:0<=x.seq/\x.seq<4294967296) (u:∀h',Gr h h'->R (.tuple #[oU {x with bh:=kB 293,nx:=kB 279},lD ⟨4,x.at',W0,⟨0,x.seq,0⟩⟩,.bool false]) h'):S.C 282 [(oU x),(eI g)] h R:=by
 refine rh.2 ?_;obtain⟨du,e,who,seq,bE,i,dU,dn,bad,th,nx,bh⟩:=x;have A:=o;obtain⟨hi,E,G⟩:=o;dsimp only at hi E G q;have c:=Cx.aB h;refine c.lA λ_ _ c=>?_;refine c.v4 λ_ _ c=>?_;refine c.lA λ_ _ c=>?_;refine c.v8 λ_ _ c=>?_;refine c.rl 0 ?_;refine Bm (x:=⟨du,e,who,seq,bE,i,dU,dn,bad,th,nx,bh⟩) A rfl q λ_ g=>?_;have c:=c.more g;refine c.jP 2 3 λ_ c=>?_;exact u _ c.gr
def Vf {a b:Int}:mx (.int .i64 a) (.int .i64 b)=some (.int .i64 (max a b)):=by
 show some (Value.int .i64 (if b > a then b else a))=_;congr 2;omega
def Hk (o:Bo x) (he:Sl EE h (aK x.e) es) (G:es.length<=1000) (K:0<=x.at'/\x.at'<=4096) (hi:x.i<=1000)
  (q:∀h',Gr h h'->R (if x.at'+(1+3*es.length)<x.at' / 8*8+x.i*8 then .tuple #[oU {x with nx:=kB 282},lD ⟨8,0,W0,W0⟩,.bool false] else .tuple #[oU {x with i:=x.i+1,nx:=kB 283},lD ⟨7,max (x.at' / 8*8+x.i*8) (x.at'+1),W0,W0⟩,.bool false]) h'):S.C 283 [(oU x),(eI g)] h R:=by
 refine qX.2 ?_;obtain⟨du,e,who,seq,bE,i,dU,dn,bad,th,nx,bh⟩:=x;have E:=o;obtain⟨u,H,J⟩:=o;dsimp only at u H J he K hi q;by_cases A:bE+(1+3*(es.length:Int))<bE / 8*8+i*8
 ·rw[if_pos A] at q;have c:=Cx.aB h;refine c.lA λ_ _ c=>?_;refine c.v4 λ_ _ c=>?_;refine c.lA λ_ _ c=>?_;refine c.v8 λ_ _ c=>?_;refine aE<|c.rc 0 ?_;refine vx (zl (a:=bE) ⟨by omega,by omega⟩ (by decide))<|vx (Ec (a:=bE / 8) (b:=8) ⟨by omega,by omega⟩)<|aE<|c.rc 0 ?_;refine vx (Ec (a:=i) (b:=8) ⟨by omega,by omega⟩)<|vx (iQ (a:=bE / 8*8) (b:=(i:Int)*8) ⟨by omega,by omega⟩)<|aE<|c.rc 0 ?_;refine c.rl 0 ?_;refine px (x:=⟨du,e,who,seq,bE,i,dU,dn,bad,th,nx,bh⟩) E (he.gr c.gr) G λ_ g=>?_;have c:=c.more g;refine c.ac 0 ?_;refine vx (iQ (a:=bE) (b:=1+3*(es.length:Int)) ⟨by omega,by omega⟩)<|vx (zH A)<|bU<|c.rl 0 ?_;refine vx (aG (ds:=[_,_,_,_,_,_,_,_]) rfl)<|sg (x:=⟨du,e,who,seq,bE,i,dU,dn,bad,th,nx,bh⟩) (a:=⟨8,0,W0,W0⟩) E rfl λ_ g=>?_;have c:=c.more g;refine c.jP 2 3 λ_ c=>?_;exact q _ c.gr
 ·rw[if_neg A] at q;have c:=Cx.aB h;refine c.lA λ_ _ c=>?_;refine c.v4 λ_ _ c=>?_;refine c.lA λ_ _ c=>?_;refine c.v8 λ_ _ c=>?_;refine aE<|c.rc 0 ?_;refine vx (zl (a:=bE) ⟨by omega,by omega⟩ (by decide))<|vx (Ec (a:=bE / 8) (b:=8) ⟨by omega,by omega⟩)<|aE<|c.rc 0 ?_;refine vx (Ec (a:=i) (b:=8) ⟨by omega,by omega⟩)<|vx (iQ (a:=bE / 8*8) (b:=(i:Int)*8) ⟨by omega,by omega⟩)<|aE<|c.rc 0 ?_;refine c.rl 0 ?_;refine px (x:=⟨du,e,who,seq,bE,i,dU,dn,bad,th,nx,bh⟩) E (he.gr c.gr) G λ_ g=>?_;have c:=c.more g;refine c.ac 0 ?_;refine vx (iQ (a:=bE) (b:=1+3*(es.length:Int)) ⟨by omega,by omega⟩)<|vx (ka A)<|aN<|aE<|c.rc 0 ?_;refine vx (inc (n:=i) (by omega))<|aE<|c.Dp 0 λ_ c=>?_;refine c.rl 0 ?_;refine aE<|c.rc 0 ?_;refine vx (iQ (a:=bE) (b:=1) ⟨by omega,by omega⟩)<|vx Vf<|vx (aG (ds:=[_,_,_,_,_,_,_,_]) rfl)<|sg (x:=⟨du,e,who,seq,bE,i+1,dU,dn,bad,th,nx,bh⟩) (a:=⟨7,max (bE / 8*8+i*8) (bE+1),W0,W0⟩) ⟨u,H,J⟩ rfl λ_ g=>?_;have c:=c.more g;refine c.jP 2 3 λ_ c=>?_;exact q _ c.gr
def LM (o:Bo x) (he:Sl EE h (aK x.e) es) (M:es.length<=300) (H:0<=x.at'/\x.at'<=4096) (hi:x.i<1+3*es.length)
  (u:∀h',Gr h h'->R (.tuple #[oU {x with i:=x.i+1,nx:=kB 268},lD ⟨3,x.at'+1+x.i,W0,Oz es x.i⟩,.bool false]) h'):iT.1 (oU x) (eI g) h R:=by
 obtain⟨du,e,who,seq,bE,i,dU,dn,bad,th,nx,bh⟩:=x;have A:=o;obtain⟨q,E,G⟩:=o;dsimp only at q E G he H hi u;generalize hw:Oz es i=wd at u;obtain⟨J,K,wr⟩:=wd;have c:=Cx.aB h;refine c.lA λ_ _ c=>?_;refine c.v4 λ_ _ c=>?_;refine c.lA λ_ _ c=>?_;refine c.v8 λ_ _ c=>?_;refine aE<|c.rc 0 ?_;refine c.rl 0 ?_;refine px (x:=⟨du,e,who,seq,bE,i,dU,dn,bad,th,nx,bh⟩) A (he.gr c.gr) (by omega) λ_ g=>?_;have c:=c.more g;refine c.ac 0 ?_;refine vx (qA (show(i:Int)<1+3*(es.length:Int) by omega))<|bU<|aE<|c.rc 0 ?_;refine vx (iQ (a:=bE) (b:=1) ⟨by omega,by omega⟩)<|aE<|c.rc 0 ?_;refine vx (iQ (a:=bE+1) (b:=i) ⟨by omega,by omega⟩)<|c.rl 0 ?_;refine vx rfl<|aE<|c.rc 0 ?_;refine .inl (.inl ⟨281,#[_],#[],rfl,?_⟩);refine Md (x:=⟨du,e,who,seq,bE,i,dU,dn,bad,th,nx,bh⟩) (i:=i) A (he.gr c.gr) hi (by omega) λ_ g=>?_;have c:=c.more g;rw[hw];refine c.v3 λ_ _ c=>?_;refine c.w3 4 λ_ c=>?_;refine aE<|c.rc 0 ?_;refine vx (inc (n:=i) (by omega))<|aE<|c.Dp 0 λ_ c=>?_;refine c.rl 0 ?_;refine c.rl 4 ?_;refine vx (aG (ds:=[_,_,_,_,_,_,_,_]) rfl)<|sg (x:=⟨du,e,who,seq,bE,i+1,dU,dn,bad,th,nx,bh⟩) (a:=⟨3,bE+1+i,W0,⟨J,K,wr⟩⟩) ⟨q,E,G⟩ rfl λ_ g=>?_;have c:=c.more g;refine c.jP 2 3 λ_ c=>?_;exact u _ c.gr
def Lq (o:Bo x) (he:Sl EE h (aK x.e) es) (M:es.length<=300) (G:0<=x.at'/\x.at'<=4096) (hi:¬x.i<1+3*es.length) (H:0<=x.seq/\x.seq<4294967296)
  (u:∀h',Gr h h'->R (if x.du=true then(if x.at'+(1+3*es.length)<x.at' / 8*8+((0:Nat):Int)*8 then .tuple #[oU {x with i:=0,nx:=kB 282},lD ⟨8,0,W0,W0⟩,.bool false] else .tuple #[oU {x with i:=0+1,nx:=kB 283},lD ⟨7,max (x.at' / 8*8+((0:Nat):Int)*8) (x.at'+1),W0,W0⟩,.bool false])
   else .tuple #[oU {x with bh:=kB 293,nx:=kB 279},lD ⟨4,x.at',W0,⟨0,x.seq,0⟩⟩,.bool false]) h'):iT.1 (oU x) (eI g) h R:=by
 obtain⟨du,e,who,seq,bE,i,dU,dn,bad,th,nx,bh⟩:=x;have E:=o;obtain⟨A,J,K⟩:=o;dsimp only at A J K he G hi u H;cases du with
 | false=>
  rw[if_neg Bool.false_ne_true] at u;have c:=Cx.aB h;refine c.lA λ_ _ c=>?_;refine c.v4 λ_ _ c=>?_;refine c.lA λ_ _ c=>?_;refine c.v8 λ_ _ c=>?_;refine aE<|c.rc 0 ?_;refine c.rl 0 ?_;refine px (x:=⟨false,e,who,seq,bE,i,dU,dn,bad,th,nx,bh⟩) E (he.gr c.gr) (by omega) λ_ g=>?_;have c:=c.more g;refine c.ac 0 ?_;refine vx (dA (show ¬(i:Int)<1+3*(es.length:Int) by omega))<|aN<|aE<|c.rc 0 ?_;refine vx (v:=.bool true) (rfl)<|bU<|c.rl 0 ?_;refine vx (aG (ds:=[_,_,_,_]) rfl)<|HN (x:=⟨false,e,who,seq,bE,i,dU,dn,bad,th,nx,bh⟩) (g:=kq) E H λ_ g=>?_;have c:=c.more g;refine c.jP 2 3 λ_ c=>?_;exact u _ c.gr
 | true=>
  rw[if_pos rfl] at u;have q:¬bE+(1+3*(es.length:Int))<bE / 8*8+((0:Nat):Int)*8:=by omega
  rw[if_neg q] at u;have c:=Cx.aB h;refine c.lA λ_ _ c=>?_;refine c.v4 λ_ _ c=>?_;refine c.lA λ_ _ c=>?_;refine c.v8 λ_ _ c=>?_;refine aE<|c.rc 0 ?_;refine c.rl 0 ?_;refine px (x:=⟨true,e,who,seq,bE,i,dU,dn,bad,th,nx,bh⟩) E (he.gr c.gr) (by omega) λ_ g=>?_;have c:=c.more g;refine c.ac 0 ?_;refine vx (dA (show ¬(i:Int)<1+3*(es.length:Int) by omega))<|aN<|aE<|c.rc 0 ?_;refine vx (v:=.bool false) (rfl)<|aN<|aE<|c.Dp 0 λ_ c=>?_;refine c.rl 0 ?_;refine vx (aG (ds:=[_,_,_,_]) rfl)<|Hk (x:=⟨true,e,who,seq,bE,0,dU,dn,bad,th,nx,bh⟩) (g:=kq) ⟨A,J,K⟩ (he.gr c.gr) (by omega) G (Nat.zero_le _) λ_ g=>?_;have c:=c.more g;dsimp only;rw[if_neg q];refine c.jP 2 3 λ_ c=>?_;exact u _ c.gr
end
def Pb (op:Bool):Value:=if op then kB 293 else kB 268
structure Pj (B:Bs) (s:Bk) (x:Bc):Prop where
 o:Bo x
 du:x.du=s.cH
 e:On B λh=>Sl EE h (aK x.e) s.es
 dn:x.dn=s.done
 bad:x.bad=s.bad
 th:x.th=false
structure PQ (B:Bs) (s:Bk) (x:Bc):Prop extends Pj B s x where
 who:x.who=s.who
 at':x.at'=s.at'
structure G7 (B:Bs) (s:Bk) (x:Bc):Prop extends PQ B s x where
 seq:x.seq=s.seq
 i:x.i=s.i
def MF (B:Bs) (W:aX) (s:Bk) (x:Bc):BP->Prop
 | .take k=>Pj B s x/\x.i=s.i/\x.nx=kB 242/\x.bh=kB 226/\∃v,x.dU=.iface 362 v/\Dx B W v k
 | .looked=>PQ B s x/\x.i=s.i/\W=aD []/\x.nx=kB 246
 | .rel op=>G7 B s x/\W=aD []/\x.nx=kB 279/\x.bh=Pb op
 | .xU op=>G7 B s x/\W=aD []/\x.nx=kB 292/\x.bh=Pb op
 | .uC op=>G7 B s x/\W=aD []/\x.nx=Pb op
 | .fill=>G7 B s x/\W=aD []/\x.nx=kB 268
 | .fP=>G7 B s x/\W=aD []/\x.nx=kB 283
 | .xg=>G7 B s x/\W=aD []/\x.nx=kB 282
 | .fZ hs=>G7 B s x/\W=aD []/\x.nx=kB 242/\x.bh=kB 296/\∃v,x.dU=.iface 376 v/\vj B hs v
 | .lX b k=>Pj B s x/\x.nx=kB 242/\x.bh=kB 278/\∃v,x.dU=.iface 383 v/\J6 B W v b k
 | .over=>W=aD []/\x.th=true/\x.dn=s.done/\x.bad=s.bad/\Bo x
def OY (B:Bs) (W:aX) (v:Value) (s:Bk):Prop:=∃x,v=oU x/\MF B W s x s.ph
def Pj.le {s:Bk} {x:Bc} (l:B.le B') (H:Pj B s x):Pj B' s x:=⟨H.o,H.du,H.e.le l,H.dn,H.bad,H.th⟩
def PQ.le {s:Bk} {x:Bc} (l:B.le B') (H:PQ B s x):PQ B' s x:=⟨H.toPj.le l,H.who,H.at'⟩
def G7.le {s:Bk} {x:Bc} (l:B.le B') (H:G7 B s x):G7 B' s x:=⟨H.toPQ.le l,H.seq,H.i⟩
def MF.le {W:aX} {x:Bc} {s:Bk} (l:B.le B'):∀{p:BP},MF B W s x p->MF B' W s x p
 | .take _,⟨a,b,c,d,v,e,f⟩=>⟨a.le l,b,c,d,v,e,f.le l⟩
 | .looked,H=>⟨H.1.le l,H.2⟩
 | .rel _,H=>⟨H.1.le l,H.2⟩
 | .xU _,H=>⟨H.1.le l,H.2⟩
 | .uC _,H=>⟨H.1.le l,H.2⟩
 | .fill,H=>⟨H.1.le l,H.2⟩
 | .fP,H=>⟨H.1.le l,H.2⟩
 | .xg,H=>⟨H.1.le l,H.2⟩
 | .fZ _,⟨a,b,c,d,v,e,f⟩=>⟨a.le l,b,c,d,v,e,vj.le l f⟩
 | .lX _ _,⟨a,c,d,v,e,f⟩=>⟨a.le l,c,d,v,e,f.le l⟩
 | .over,H=>H
def MF.o {W:aX} {x:Bc} {s:Bk}:∀{p:BP},MF B W s x p->Bo x
 | .take _,H=>H.1.o
 | .looked,H=>H.1.o
 | .rel _,H=>H.1.o
 | .xU _,H=>H.1.o
 | .uC _,H=>H.1.o
 | .fill,H=>H.1.o
 | .fP,H=>H.1.o
 | .xg,H=>H.1.o
 | .fZ _,H=>H.1.o
 | .lX _ _,H=>H.1.o
 | .over,H=>H.2.2.2.2
def tj (F:Fp) (h:Hp) (B:Bs) (out:BR) (R:Value->Hp->Prop):Prop:=
 ∀x W M h',Cx F h h' [W,aD M]->MF (B.and M) W out.1 x out.1.ph->R (.tuple #[oU x,lD out.2.1,.bool out.2.2]) h'
def tj.flat {s:Bk} {x:Bc} {a:Ac} {d:Bool} (H:tj uH h B (s,a,d) R) (q:∀M,MF (B.and M) (aD []) s x s.ph) {h':Hp} (g:Gr h h'):R (.tuple #[oU x,lD a,.bool d]) h':=
 H x (aD []) [] h' (Cx.wj (L:=[aD []]) (Cx.wj (L:=[]) ((Cx.aB h).more g))) (q [])
section
variable {x:Bc} {n:Value} {a:Ac} {z:Int} {g:cP} {es:List Et} {s:Bk}
def sJ {f:Nat} {t:TypeId} {W:aX} {v:Value} {V:Bs->aX->Value->Prop} {d:Bool} {out:BR} (N:∀h',Ch F h h'->B.p h') (o:Bo x) (H:x.dU=.iface t v) (X:I.mt t "Next"=some f) (c:Cx F h h [W])
  (Z:SS f t B W v g V a d)
  (q:d=false->∀A E M,V (B.and M) E A->MF (B.and M) E out.1 {x with dU:=.iface t A,nx:=kB 242} out.1.ph/\out.2=(a,false))
  (u:d=true->∀A E M h1 K,(B.and M).p h1->V (B.and M) E A->tj uH h1 (B.and M) out K->Cw S.C S.Y I.mt x.bh [oU {x with dU:=.iface t A},eI kq] h1 K)
  (hR:tj F h B out R):dI.1 (oU x) (eI g) h R:=by
 obtain⟨du,e,who,seq,bE,i,dU,dn,bad,th,nx,bh⟩:=x;have o':=o;obtain⟨hi,hx,hb⟩:=o;dsimp only at hi hx hb H q u;subst H;obtain⟨⟨gv,gq,gr⟩,gk⟩:=g;cases d with
 | false=>
  replace c:Cx _ _ _ [_]:=c;refine c.lA λ_ _ c=>?_;refine c.v4 λ_ _ c=>?_;refine c.lA λ_ _ c=>?_;refine c.v8 λ_ _ c=>?_;refine aE<|c.rc 1 ?_;refine c.rl 2 ?_;refine⟨_,_,_,rfl,X,?_⟩;obtain⟨F',c',O,up⟩:=c.lR (i:=0) rfl;refine Z _ F' _ c' (λG ch=>N G (O _ ch)) λA E M _ d ok=>?_;have c:=up d;replace c:=c.n6;refine vx rfl<|vx rfl<|vx rfl<|c.v8 λ_ _ c=>?_;refine c.w8 6 λ_ c=>?_;refine aE<|c.Dp 1 λ_ c=>?_;refine vx (v:=.bool true) (rfl)<|bU<|c.rl 1 ?_;refine c.rl 6 ?_;refine sg (x:=⟨du,e,who,seq,bE,i,.iface t A,dn,bad,th,nx,bh⟩) (a:=a) ⟨rfl,hx,hb⟩ rfl λ_ g=>?_;have c:=c.more g;refine c.jP 3 4 λ_ c=>?_;obtain⟨y1,y2⟩:=q rfl A E M ok;have:=hR _ E M _ (c.pick [0,5]) y1;rw[y2] at this;exact this
 | true=>
  replace c:Cx _ _ _ [_]:=c;refine c.lA λ_ _ c=>?_;refine c.v4 λ_ _ c=>?_;refine c.lA λ_ _ c=>?_;refine c.v8 λ_ _ c=>?_;refine aE<|c.rc 1 ?_;refine c.rl 2 ?_;refine⟨_,_,_,rfl,X,?_⟩;obtain⟨F',c',O,up⟩:=c.lR (i:=0) rfl;refine Z _ F' _ c' (λG ch=>N G (O _ ch)) λA E M _ d ok=>?_;have c:=up d;replace c:=c.n6;refine vx rfl<|vx rfl<|vx rfl<|c.v8 λ_ _ c=>?_;refine c.w8 6 λ_ c=>?_;refine aE<|c.Dp 1 λ_ c=>?_;refine vx (v:=.bool false) (rfl)<|aN<|aE<|c.rc 1 ?_;refine c.rl 1 ?_;refine vx (aG (ds:=[_,_,_,_]) rfl)<|u rfl A E M _ _ ⟨N _ c.gr,c.get (i:=5) rfl⟩ ok λx2 W2 M2 _ d2 J=>?_;have c:=c.aF d2;have oo:=J.o;obtain⟨eQ,e2,aS,aT,iF,i2,bY,iN,dO,iS,oF,oR⟩:=x2;obtain⟨Q,T,U⟩:=oo;dsimp only at Q T U;replace c:=c.n9;refine c.jP 3 4 λ_ c=>?_;have c:=Cx.pack (L:=[_]) (M:=[aD M,aD M2]) (c.pick [7,5,8]);exact hR _ W2 [aD M,aD M2] _ c (J.le Bs.Ay)
def Ft {f:Nat} {t:TypeId} {W:aX} {v:Value} {V:Bs->aX->Value->Prop} {d:Bool} {out:BR} (U:∀h',Ch F h h'->B.p h') (o:Bo x) (X:n.oneCell'=true) (Z:I.mt t "Next"=some f) (c:Cx F h h [W])
  (hN:SS f t B W v kq V a d)
  (q:d=false->∀H J M,V (B.and M) J H->MF (B.and M) J out.1 {x with dU:=.iface t H,nx:=kB 242,bh:=n} out.1.ph/\out.2=(a,false)) (hd:d=false)
  (hR:tj F h B out R):gE.1 (oU x) (.iface t v) n h R:=by
 obtain⟨du,e,who,seq,bE,i,dU,dn,bad,th,nx,bh⟩:=x;obtain⟨hi,K,hb⟩:=o;dsimp only at hi K hb q;replace c:Cx _ _ _ [_]:=c;refine c.lA λ_ _ c=>?_;refine c.lA λ_ _ c=>?_;refine c.v8 λ_ _ c=>?_;refine aE<|c.Dp 1 λ_ c=>?_;refine aE<|c.Dp 1 λ_ c=>?_;refine c.rl 1 ?_;refine vx (aG (ds:=[_,_,_,_]) rfl)<|dI.2 ?_;obtain⟨F',c',hF,up⟩:=c.lR (i:=0) rfl;refine sJ (x:=⟨du,e,who,seq,bE,i,.iface t v,dn,bad,th,nx,n⟩) (g:=kq) (B:=B) (F:=F') (λu ch=>U u (hF _ ch)) ⟨rfl,K,X⟩ rfl Z c' hN q (λx=>by rw[hd] at x; cases x) λx2 W2 M _ d2 ok=>?_;have c:=up d2;have oo:=ok.o;obtain⟨aS,e2,N,O,aT,i2,Q,bY,T,dO,eQ,iF⟩:=x2;obtain⟨A,E,G⟩:=oo;dsimp only at A E G;replace c:=c.n5;refine c.jP 2 3 λ_ c=>?_;exact hR _ W2 M _ (c.pick [0,4]) ok
def zr:I.mt 383 "Next"=some 344:=by kernel_rfl
def AX:∀{F:Fp} {b r q:Nat} {g:cP} {h} {R:Value->Hp->Prop},Cx F h h [aD [rV r (yS b 0 false (.func (.func 289) #[] #[bE r,bE q])),rV q [.int .i64 eT]]]->
  (∀r M h',Cx F h h' [aD M]->(∀B:Bs,Fr (B.and M) r (yS b 0 false (iE 290 r)))->R (.tuple #[.iface 383 (.agg ⟨yS b 0 false (iE 290 r)⟩),lD ⟨5,eT,W0,W0⟩,.bool false]) h')->S.C 344 [.agg ⟨yS b 0 false (.func (.func 289) #[] #[bE r,bE q])⟩,eI g] h R:=λc k=>iL.2 (IH (B:=⟨λ_=>True,λ_ _=>trivial⟩) c λr M h' c' f=>k r M h' c' λB=>f.le λ_ b=>⟨trivial,b.2⟩)
def Iu (N:B.p h) (hZ:On B Zs) (hs:PQ B s x) (u:s.cL<4) (A:tj uH h B (vJ s) R):iU.1 (oU x) h R:=by
 obtain⟨du,e,who,seq,E,i,dU,dn,bad,th,nx,bh⟩:=x;have eQ:=hs;obtain⟨⟨⟨hi,O,Q⟩,h2,T,U,X,Z⟩,G,h8⟩:=hs;dsimp only at hi O Q G h2 T U X Z h8;unfold Bk.who at G;subst G;have c:=Cx.aB h;refine c.lA λ_ _ c=>?_;refine c.lA λ_ _ c=>?_;refine c.v8 λ_ _ c=>?_;refine aE<|vx (c.vp (i:=0) (ds:=[_,_,_]) rfl rfl rfl)<|aE<|c.rc 0 ?_;refine vx (v:=.int .i64 s.cL) ((fT (a:=9+(s.cL:Int)) (b:=9) ⟨by omega,by omega⟩).trans (congrArg (λz=>some (Value.int .i64 z)) (by omega)))<|KT (hZ _ (B.up N c.gr)) u λr q _ d=>?_;have c:=c.aF d;replace c:=c.n5;refine vx rfl<|vx rfl<|aE<|c.Dp 0 λ_ c=>?_;refine c.rl 0 ?_;refine gE.2 ?_;have c:=Cx.pack (L:=[_,_,_]) (M:=[_,_]) c;obtain⟨F',c',hF,up⟩:=c.lR (i:=3) rfl;refine Ft (x:=⟨du,e,0,seq,E,i,dU,dn,bad,th,nx,bh⟩) (B:=B) (F:=F') (t:=383) (W:=aD [rV r (yS s.cL 0 false (.func (.func 289) #[] #[bE r,bE q])),rV q [.int .i64 eT]]) (V:=λB W v=>J6 B W v s.cL .look) (a:=⟨5,eT,W0,W0⟩) (d:=false) (out:=vJ s) (λiF ch=>B.up N (hF _ ch)) ⟨hi,O,Q⟩ rfl zr c' (λh F R c hB A=>?_) (λ_ v' W' M ok=>?_) rfl λx2 W2 M _ d2 ok=>?_
 ·refine AX c λr M h' c' fr=>?_;exact A _ (aD []) M h' ((Cx.wj (L:=[aD M]) c').perm (List.Perm.swap ..)) ⟨rfl,r,_,rfl,fr B⟩
 ·refine⟨⟨⟨⟨rfl,rfl,rfl⟩,h2,T.le (Bs.aJ _ _),U,X,Z⟩,rfl,rfl,v',rfl,ok⟩,rfl⟩
 have c:=up d2;have oo:=ok.o;obtain⟨iN,e2,aS,aT,iS,i2,bY,oF,dO,oR,rW,tO⟩:=x2;obtain⟨H,J,K⟩:=oo;dsimp only at H J K;have c:=c.pick [0,1,2,3,4];replace c:=c.n5;refine c.jP 1 2 λ_ c=>?_;exact A _ W2 M _ (c.pick [3,4]) ok
end
section
variable {x:Bc} {n:Value} {a:Ac} {z:Int} {g:cP} {es:List Et} {s:Bk}
def Ld (o:Bo x) (h1:x.dn=s.done) (h2:x.bad=s.bad) (E:tj uH h B (GR s) R):lL.1 (oU x) (eI g) h R:=by
 obtain⟨du,e,who,seq,q,i,dU,dn,bad,th,nx,bh⟩:=x;have G:=o;obtain⟨hi,u,A⟩:=o;dsimp only at hi u A h1 h2;have c:=Cx.aB h;refine c.lA λ_ _ c=>?_;refine c.v4 λ_ _ c=>?_;refine c.lA λ_ _ c=>?_;refine c.v8 λ_ _ c=>?_;refine c.rl 0 ?_;refine Kr (x:=⟨du,e,who,seq,q,i,dU,dn,bad,th,nx,bh⟩) G λ_ g=>?_;have c:=c.more g;refine c.jP 2 3 λ_ c=>?_;exact tj.flat E (λM=>⟨rfl,rfl,h1,h2,⟨rfl,u,A⟩⟩) c.gr
def I8 (b0:B.p h) (hZ:On B Zs) (hs:G7 B s x) (q:s.cL<4) {v:Value} {t:Hs} (hv:x.dU=.iface 376 v) (ht:vj B [t] v) (u:t.ended=true)
  (hR:tj uH h B (vJ {s with done:=decide (t.aO=1)}) R):lj.1 (oU x) (eI g) h R:=by
 obtain⟨du,e,who,seq,A,i,dU,dn,bad,th,nx,bh⟩:=x;obtain⟨⟨⟨⟨hi,J,K⟩,h2,N,h4,O,Q⟩,T,h8⟩,h9,aS⟩:=hs;dsimp only at hi J K h2 N h4 O Q T h8 hv;subst hv;have c:=Cx.aB h;refine c.lA λ_ _ c=>?_;refine c.v4 λ_ _ c=>?_;refine c.lA λ_ _ c=>?_;refine c.v8 λ_ _ c=>?_;refine aE<|c.rc 0 ?_;refine py ht u λ_ g=>?_;have c:=c.more g;refine vx rfl<|vx rfl<|vx bW<|aE<|c.Dp 0 λ_ c=>?_;refine c.rl 0 ?_;refine iU.2 (Iu (s:={s with done:=decide (t.aO=1)}) (x:=⟨du,e,who,seq,A,i,.iface 376 v,decide (t.aO=1),bad,th,nx,bh⟩) (B.up b0 c.gr) hZ ⟨⟨⟨rfl,J,K⟩,h2,N,rfl,O,Q⟩,T,h8⟩ q λx2 W M _ d ok=>?_);have c:=c.aF d;have oo:=ok.o;obtain⟨aT,e2,U,V,bY,i2,X,dO,Z,eQ,iF,iN⟩:=x2;obtain⟨E,G,H⟩:=oo;dsimp only at E G H;replace c:=c.n6;refine c.jP 2 3 λ_ c=>?_;exact hR _ W M _ (c.pick [4,5]) ok
def ry (r:Int) (d:Bool):bV [Hs.new r d] kq=([{Hs.new r d with nx:=.first}],⟨5,aC (aZ r),W0,W0⟩,false):=by
 rw[lS rfl (by simp[Hs.new]) [] (.inl rfl)];rfl
def fX:∀{B:Bs} {g:cP} {hs:List Hs} {v:Value},On B Zs->Ww g.w->vj B hs v->yi hs->(∀s∈hs,s.nx=.again->s.i<s.es.length)->Ij B v g (bV hs g):=λa b c d e=>Ij.all a b c d e
def NW (u:On B Zs) {r:Int} {d:Bool} (A:0<=aC (aZ r)):SS 343 376 B (aD []) (j7 (bK (Hs.new r d) (none,0,0) (none,0,0) .nilIface)) kq (λB W v=>W=aD []/\vj B [{Hs.new r d with nx:=.first}] v) ⟨5,aC (aZ r),W0,W0⟩ false:=by
 intro h F R c E G;have q:=fX (B:=B) (g:=kq) (hs:=[Hs.new r d]) (v:=j7 (bK (Hs.new r d) (none,0,0) (none,0,0) .nilIface)) u J7 ⟨_,_,rfl,λ_ _=>Sl.nil,λ_ _=>Sl.nil⟩ ⟨rfl,Nat.zero_le _,A,λx H=>(List.not_mem_nil H).elim,J7,trivial⟩ λs hs J=>by
  obtain rfl:=List.mem_singleton.1 hs;cases J
 rw[ry] at q;refine q h R (E h (.refl _ _)) λK M h' c' ok=>?_;exact G K (aD []) M h' (c.aF c') ⟨rfl,ok⟩
def N7 (Q:B.p h) (T:On B Zs) (hs:G7 B s x) (eQ:s.cL<4) (hq:1<=s.seq/\s.seq<=16777215) (hR:tj uH h B (Dw s) R):mK.1 (oU x) (eI g) h R:=by
 obtain⟨du,e,who,seq,iF,i,dU,dn,bad,th,nx,bh⟩:=x;obtain⟨⟨⟨⟨hi,U,X⟩,h2,Z,h4,h5,h6⟩,h7,h8⟩,h9,G⟩:=hs;dsimp only at hi U X h2 Z h4 h5 h6 h7 h8 h9 G;subst h2 h7 h8 h9;have A:Fw s.who s.seq=true:=decide_eq_true (by unfold Bk.who; omega);have H:bT s.who s.seq / 16777216=s.who/\bT s.who s.seq % 16777216=s.seq:=by unfold bT Bk.who; omega
 have q:aZ (bT s.who s.seq)=s.who:=by unfold aZ; rw[H.1,H.2,if_pos A]
 have E:aC s.who=s.at':=by
  unfold aC Bk.at' Bk.who;rw[if_pos (by omega)];congr 1;omega
 have u:0<=s.at':=by unfold Bk.at' cK; split <;> omega
 have J:0<=bT s.who s.seq/\bT s.who s.seq<4294967296:=by unfold bT Bk.who; omega
 have c:=Cx.aB h;refine c.lA λ_ _ c=>?_;refine c.v4 λ_ _ c=>?_;refine c.lA λ_ _ c=>?_;refine c.v8 λ_ _ c=>?_;refine aE<|c.rc 0 ?_;refine aE<|c.rc 0 ?_;refine zX λ_ g=>?_;have c:=c.more g;rw[if_pos A,if_pos A];refine vx rfl<|vx rfl<|aE<|vx (c.vp (i:=0) (ds:=[_,_,_]) rfl rfl rfl)<|aE<|c.rc 0 ?_;refine jK (T _ (B.up Q c.gr)) J λ_ g=>?_;have c:=c.more g;rw[if_pos ⟨by rw[q]; unfold Bk.who; omega,by rw[q,E]; exact u⟩];refine vx rfl<|vx rfl<|c.rl 0 ?_;refine gE.2 ?_;have c:=Cx.wj c;obtain⟨F',c',hF,up⟩:=c.lR (i:=4) rfl;refine Ft (n:=kB 296) (x:=⟨s.cH,e,s.who,s.seq,s.at',i,dU,dn,bad,th,nx,bh⟩) (B:=B) (F:=F') (t:=376) (V:=λB W v=>W=aD []/\vj B [{Hs.new (bT s.who s.seq) s.cH with nx:=.first}] v) (a:=⟨5,s.at',W0,W0⟩) (d:=false) (out:=Dw s) (λiN ch=>B.up Q (hF _ ch)) ⟨hi,U,X⟩ rfl kQ c' ?_ (λ_ v' W' M ok=>?_) rfl λx2 W2 M _ d2 ok=>?_
 ·have:=NW T (r:=bT s.who s.seq) (d:=s.cH) (by rw[q,E]; exact u);rwa [q,E] at this
 ·exact⟨⟨⟨⟨⟨⟨rfl,rfl,rfl⟩,rfl,Z.le (Bs.aJ _ _),h4,h5,h6⟩,rfl,rfl⟩,rfl,G⟩,ok.1,rfl,rfl,v',rfl,ok.2⟩,rfl⟩
 have c:=up d2;have oo:=ok.o;obtain⟨iS,e2,aS,aT,oF,i2,bY,oR,dO,rW,tO,uS⟩:=x2;obtain⟨K,N,O⟩:=oo;dsimp only at K N O;replace c:=c.n6;refine c.jP 2 3 λ_ c=>?_;exact hR _ W2 M _ (c.pick [4,5]) ok
def wR (Q:B.p h) (hZ:On B Zs) (hs:G7 B s x) (T:s.cL<4) (hq:1<=s.seq/\s.seq<=16777215) (V:s.es.length<=300) (op:Bool) (q:tj uH h B (fB s op) R):Cw S.C S.Y I.mt (Pb op) [oU x,eI g] h R:=by
 cases op with
 | true=>
  exact .inl (.inl ⟨_,#[],#[],rfl,mK.2 (N7 Q hZ hs T hq q)⟩)
 | false=>
  refine .inl (.inl ⟨_,#[],#[],rfl,iT.2 ?_⟩);have u:0<=s.at'/\s.at'<=4096:=by unfold Bk.at' cK; split <;> omega
  obtain⟨du,e,who,seq,aS,i,dU,dn,bad,th,nx,bh⟩:=x;have aT:=hs;obtain⟨⟨⟨⟨hi,U,E⟩,h2,A,J,K,N⟩,X,h8⟩,Z,G⟩:=hs;dsimp only at hi U E h2 A J K N X h8 Z G;subst h2 X h8 Z G;have q:tj uH h B (pL s) R:=q;unfold pL dY at q;by_cases O:s.i<1+3*s.es.length
  ·rw[if_pos O] at q;refine LM (x:=⟨s.cH,e,s.who,s.seq,s.at',s.i,dU,dn,bad,th,nx,bh⟩) ⟨hi,U,E⟩ (A h Q) V u O λh' g=>?_;exact tj.flat q (λM=>⟨⟨⟨⟨⟨hi,rfl,E⟩,rfl,A.le (Bs.aJ _ _),J,K,N⟩,rfl,rfl⟩,rfl,rfl⟩,rfl,rfl⟩) g
  ·rw[if_neg O] at q;refine Lq (x:=⟨s.cH,e,s.who,s.seq,s.at',s.i,dU,dn,bad,th,nx,bh⟩) ⟨hi,U,E⟩ (A h Q) V u O ⟨by show 0<=s.seq; omega,by show s.seq<4294967296; omega⟩ λh' g=>?_;dsimp only;by_cases e2:s.cH=true
   ·rw[if_pos e2] at q⊢;unfold nW dY at q;dsimp only at q;have e3:(Bk.at' {s with i:=0})=s.at':=rfl;rw[e3] at q;have H:¬s.at'+((1+3*s.es.length:Nat):Int)<s.at' / 8*8+((0:Nat):Int)*8:=by omega
    rw[if_neg H] at q;rw[if_neg (by omega)];exact tj.flat q (λM=>⟨⟨⟨⟨⟨hi,rfl,E⟩,rfl,A.le (Bs.aJ _ _),J,K,N⟩,rfl,rfl⟩,rfl,rfl⟩,rfl,rfl⟩) g
   ·rw[if_neg e2] at q⊢;exact tj.flat q (λM=>⟨⟨⟨⟨⟨hi,rfl,rfl⟩,rfl,A.le (Bs.aJ _ _),J,K,N⟩,rfl,rfl⟩,rfl,rfl⟩,rfl,rfl,rfl⟩) g
def DF {op:Bool} (b0:B.p h) (hZ:On B Zs) (hs:G7 B s x) (q:x.bh=Pb op) (E:s.cL<4) (hq:1<=s.seq/\s.seq<=16777215) (hl:s.es.length<=300)
  (A:tj uH h B (if s.cH=true then({s with ph:=.xU op},⟨7,s.at',W0,W0⟩,false) else fB s op) R):kc.1 (oU x) (eI g) h R:=by
 obtain⟨du,e,who,seq,eQ,i,dU,dn,bad,th,nx,bh⟩:=x;have G:=hs;obtain⟨⟨⟨⟨hi,O,H⟩,h2,Q,T,U,V⟩,X,h8⟩,Z,u⟩:=hs;dsimp only at hi O H h2 Q T U V X h8 Z u q;subst q;obtain⟨⟨gv,gq,gr⟩,gk⟩:=g;cases du with
 | false=>
  rw[<-h2,if_neg Bool.false_ne_true] at A;have c:=Cx.aB h;refine c.lA λ_ _ c=>?_;refine c.v4 λ_ _ c=>?_;refine c.lA λ_ _ c=>?_;refine c.v8 λ_ _ c=>?_;refine aE<|c.rc 0 ?_;refine vx (v:=.bool true) (rfl)<|bU<|aE<|c.rc 0 ?_;refine c.rl 0 ?_;refine c.rl 1 ?_;refine wR (g:=⟨⟨gv,gq,gr⟩,gk⟩) (B.up b0 c.gr) hZ G E hq hl op λx2 W M _ d ok=>?_;have c:=c.aF d;have oo:=ok.o;obtain⟨iF,e2,aS,aT,iN,i2,bY,iS,dO,oF,oR,rW⟩:=x2;obtain⟨J,K,N⟩:=oo;dsimp only at J K N;replace c:=c.n6;refine c.jP 2 3 λ_ c=>?_;exact A _ W M _ (c.pick [4,5]) ok
 | true=>
  rw[<-h2,if_pos rfl] at A;subst h8;have c:=Cx.aB h;refine c.lA λ_ _ c=>?_;refine c.v4 λ_ _ c=>?_;refine c.lA λ_ _ c=>?_;refine c.v8 λ_ _ c=>?_;refine aE<|c.rc 0 ?_;refine vx (v:=.bool false) (rfl)<|aN<|c.rl 0 ?_;refine aE<|c.rc 0 ?_;refine vx (aG (ds:=[_,_,_,_,_,_,_,_]) rfl)<|sg (x:=⟨true,e,who,seq,s.at',i,dU,dn,bad,th,nx,Pb op⟩) (a:=⟨7,s.at',W0,W0⟩) ⟨hi,O,H⟩ rfl λ_ g=>?_;have c:=c.more g;refine c.jP 2 3 λ_ c=>?_;exact tj.flat A (λM=>⟨⟨⟨⟨⟨hi,rfl,H⟩,rfl,Q.le (Bs.aJ _ _),T,U,V⟩,X,rfl⟩,Z,u⟩,rfl,rfl,rfl⟩) c.gr
def F5 {op:Bool} (hs:G7 B s x) (q:x.bh=Pb op) (T:tj uH h B ({s with ph:=.uC op},⟨8,0,W0,W0⟩,false) R):kJ.1 (oU x) (eI g) h R:=by
 obtain⟨du,e,who,seq,E,i,dU,dn,bad,th,nx,bh⟩:=x;obtain⟨⟨⟨⟨hi,G,u⟩,h2,H,J,K,N⟩,O,h8⟩,Q,A⟩:=hs;dsimp only at hi G u h2 H J K N O h8 Q A q;subst q;have c:=Cx.aB h;refine c.lA λ_ _ c=>?_;refine c.v4 λ_ _ c=>?_;refine c.lA λ_ _ c=>?_;refine c.v8 λ_ _ c=>?_;refine c.rl 0 ?_;refine vx (aG (ds:=[_,_,_,_,_,_,_,_]) rfl)<|aE<|c.rc 0 ?_;refine sg (x:=⟨du,e,who,seq,E,i,dU,dn,bad,th,nx,Pb op⟩) (a:=⟨8,0,W0,W0⟩) ⟨hi,G,u⟩ u λ_ g=>?_;have c:=c.more g;refine c.jP 2 3 λ_ c=>?_;exact tj.flat T (λM=>⟨⟨⟨⟨⟨hi,u,u⟩,h2,H.le (Bs.aJ _ _),J,K,N⟩,O,h8⟩,Q,A⟩,rfl,rfl⟩) c.gr
def Je (b0:B.p h) (hZ:On B Zs) (hs:PQ B s x) (A:x.i=s.i) (G:s.cL<4) (hg:Ww g.w) (u:tj uH h B (om s g.w) R):kT.1 (oU x) (eI g) h R:=by
 obtain⟨du,e,who,seq,H,i,dU,dn,bad,th,nx,bh⟩:=x;have iN:=hs;obtain⟨⟨⟨hi,J,K⟩,h2,N,O,h5,Q⟩,T,h8⟩:=hs;dsimp only at hi J K h2 N O h5 Q T h8 A;obtain⟨⟨gv,q,gr⟩,gk⟩:=g;obtain⟨U,V,X⟩:=hg;dsimp only at U V X;unfold om at u;dsimp only at u;by_cases E:16777215<=q
 ·rw[if_pos E] at u;have c:=Cx.aB h;refine c.lA λ_ _ c=>?_;refine c.v4 λ_ _ c=>?_;refine c.lA λ_ _ c=>?_;refine c.v8 λ_ _ c=>?_;refine aE<|aE<|c.rc 1 ?_;refine vx (ny E)<|bU<|aE<|c.Dp 0 λ_ c=>?_;refine c.rl 0 ?_;refine iU.2 (Iu (s:={s with bad:=9}) (x:=⟨du,e,who,seq,H,i,dU,dn,9,th,nx,bh⟩) (B.up b0 c.gr) hZ ⟨⟨⟨hi,J,K⟩,h2,N,O,rfl,Q⟩,T,h8⟩ G λx2 W M _ d ok=>?_);have c:=c.aF d;have oo:=ok.o;obtain⟨iS,e2,bY,dO,oF,i2,eQ,oR,iF,rW,tO,uS⟩:=x2;obtain⟨Z,aS,aT⟩:=oo;dsimp only at Z aS aT;replace c:=c.n6;refine c.jP 2 3 λ_ c=>?_;exact u _ W M _ (c.pick [4,5]) ok
 ·rw[if_neg E] at u;subst h8;have c:=Cx.aB h;refine c.lA λ_ _ c=>?_;refine c.v4 λ_ _ c=>?_;refine c.lA λ_ _ c=>?_;refine c.v8 λ_ _ c=>?_;refine aE<|aE<|c.rc 1 ?_;refine vx (iO E)<|aN<|aE<|aE<|c.rc 1 ?_;refine vx (v:=.int .i64 q) ?_ ?_
  ·show some (Value.int .i64 (IntKind.i64.wrap q))=_;rw[zb ⟨by omega,by omega⟩]
  refine vx (iQ (a:=q) (b:=1) ⟨by omega,by omega⟩)<|aE<|c.Dp 0 λ_ c=>?_;refine c.rl 0 ?_;refine Bm (x:=⟨du,e,who,q+1,s.at',i,dU,dn,bad,th,nx,bh⟩) ⟨hi,J,K⟩ rfl ⟨by show 0<=q+1; omega,by show q+1<_; omega⟩ λ_ g=>?_;have c:=c.more g;refine c.jP 2 3 λ_ c=>?_;exact tj.flat u (λM=>⟨⟨⟨⟨⟨hi,rfl,rfl⟩,h2,N.le (Bs.aJ _ _),O,h5,Q⟩,T,rfl⟩,rfl,A⟩,rfl,rfl,rfl⟩) c.gr
end
def Cx.Oh (ch:Ch F h h'):Cx F h h' [aD []]:=by
 refine⟨[λ_=>False],.cons ⟨[],.nil,λq=>⟨λe=>e.elim,λ⟨G,u,_⟩=>by cases u⟩⟩ (λ_ u=>by cases u) .nil,ch,λG u r A=>?_⟩;rcases List.mem_cons.1 u with rfl | u
 ·exact A.elim
 ·cases u
section
variable {x:Bc} {n:Value} {a:Ac} {z:Int} {g:cP} {es:List Et} {s:Bk}
def Ei (s:Bk):Gf->BR
 | .done i=>({s with cL:=i,ph:=.looked},⟨5,cK i,W0,W0⟩,false)
 | _=>GR {s with bad:=9}
def tn:∀{B:Bs} {W:aX} {v:Value} {k:Gf} {h} {R:Value->Hp->Prop},Dx B W v k->¬Fc.live k->(∀h',Gr h h'->R (match k with | .done i=>.tuple #[.int .i64 i,.int .i64 0,.bool true] | _=>.tuple #[.int .i64 0,.int .i64 9,.bool true]) h')->S.C 243 [.iface 362 v] h R:=@λ_ _ _ tk _ _ a b k=>l9.2 (JI a b (by decide) λh' g=>by cases tk <;> exact k h' g)
def K6 (U:B.p h) (V:On B Zs) {W:aX} {v:Value} {k:Gf} (hs:Pj B s x) (u:x.i=s.i) (hv:x.dU=.iface 362 v) (G:Dx B W v k) (q:¬Fc.live k)
  (K:tj uH h B (Ei s k) R):lQ.1 (oU x) (eI g) h R:=by
 obtain⟨du,e,who,seq,H,i,dU,dn,bad,th,nx,bh⟩:=x;obtain⟨⟨hi,E,A⟩,h2,N,J,O,Q⟩:=hs;dsimp only at hi E A h2 N J O Q hv u;subst hv;cases k with
 | look=>exact absurd trivial q
 | swap i w=>exact absurd trivial q
 | done b=>
  have X:b<4:=G.1;have T:0<=cK b/\cK b<=4096:=by unfold cK; split <;> omega
  have c:=Cx.aB h;refine c.lA λ_ _ c=>?_;refine c.v4 λ_ _ c=>?_;refine c.lA λ_ _ c=>?_;refine c.v8 λ_ _ c=>?_;refine aE<|c.rc 0 ?_;refine tn G q λ_ g=>?_;have c:=c.more g;refine vx rfl<|vx rfl<|vx rfl<|vx (v:=.bool false) rfl<|aN<|vx (iQ (a:=9) (b:=b) ⟨by omega,by omega⟩)<|aE<|c.Dp 0 λ_ c=>?_;refine aE<|vx (c.vp (i:=0) (ds:=[_,_,_]) rfl rfl rfl)<|l8 (i:=b) _ _ (V _ (B.up U c.gr)) λ_ g=>?_;have c:=c.more g;refine aE<|c.Dp 0 λ_ c=>?_;refine c.rl 0 ?_;refine aE<|c.rc 0 ?_;refine vx (aG (ds:=[_,_,_,_,_,_,_,_]) rfl)<|sg (x:=⟨du,e,9+b,seq,cK b,i,.iface 362 v,dn,bad,th,nx,bh⟩) (a:=⟨5,cK b,W0,W0⟩) ⟨rfl,E,A⟩ rfl λ_ g=>?_;have c:=c.more g;refine c.jP 2 3 λ_ c=>?_;exact tj.flat K (λM=>⟨⟨⟨⟨rfl,rfl,A⟩,h2,N.le (Bs.aJ _ _),J,O,Q⟩,rfl,rfl⟩,u,rfl,rfl⟩) c.gr
 | full=>
  have c:=Cx.aB h;refine c.lA λ_ _ c=>?_;refine c.v4 λ_ _ c=>?_;refine c.lA λ_ _ c=>?_;refine c.v8 λ_ _ c=>?_;refine aE<|c.rc 0 ?_;refine tn G q λ_ g=>?_;have c:=c.more g;refine vx rfl<|vx rfl<|vx rfl<|vx (v:=.bool true) rfl<|bU<|aE<|c.Dp 0 λ_ c=>?_;refine c.rl 0 ?_;refine Kr (x:=⟨du,e,who,seq,H,i,.iface 362 v,dn,9,th,nx,bh⟩) ⟨rfl,E,A⟩ λ_ g=>?_;have c:=c.more g;refine c.jP 2 3 λ_ c=>?_;exact tj.flat K (λM=>⟨rfl,rfl,J,rfl,⟨rfl,E,A⟩⟩) c.gr
def I3 (q:B.p h) (u:On B Zs) {p:SH} {b:Int} {r:Nat} {n:Value} (A:On B λh=>Sl CA h (aK p) [((0:Int),(4:Int))]) (E:Fr B r (xH p b 0 false n)) (G:n.oneCell'=true)
  (H:xD 362 uH h B (λB W v=>Dx B W v .look) ⟨5,eT,W0,W0⟩ false R):iP.1 (.agg ⟨xH p b 0 false (iE 240 r)⟩) (eI kq) h R:=by
 have c:=Cx.aB h;refine c.v8 λ_ _ c=>?_;refine c.v4 λ_ _ c=>?_;refine c.v8 λ_ _ c=>?_;refine aE<|c.rc 0 ?_;refine aN<|aE<|c.rc 0 ?_;refine c.rl 1 ?_;refine .inl (.inl ⟨240,#[],#[bE r],rfl,Jt (B.up q c.gr) u G A E λv W M _ d ok=>?_⟩);have c:=c.aF d;replace c:=c.n5;refine c.t8 2 λ_ c=>?_;exact H v W M _ (c.pick [3,4]) ok
def zn:I.mt 362 "Next"=some 342:=by kernel_rfl
def OC (N:B.p h) (O:On B Zs) (hs:Pj B s x) (u:x.i=s.i) (A:s.ph=.take .look) (E:tj uH h B (s,⟨5,eT,W0,W0⟩,false) R):mu.1 (oU x) (eI g) h R:=by
 obtain⟨du,e,who,seq,G,i,dU,dn,bad,th,nx,bh⟩:=x;obtain⟨⟨hi,Q,T⟩,h2,U,X,Z,h6⟩:=hs;dsimp only at hi Q T h2 U X Z h6 u;have c:=Cx.aB h;refine c.lA λ_ _ c=>?_;refine c.v4 λ_ _ c=>?_;refine c.lA λ_ _ c=>?_;refine c.v8 λ_ _ c=>?_;refine aE<|vx (c.vp (i:=0) (ds:=[_,_,_]) rfl rfl rfl)<|Ml (O _ (B.up N c.gr)) λp r _ d=>?_;have c:=c.aF d;replace c:=c.n6;refine vx rfl<|vx rfl<|c.rl 0 ?_;refine gE.2 ?_;have c:=Cx.pack (L:=[_,_,_,_]) (M:=[_,_]) c;have c:=Cx.wj c;obtain⟨F',c',hF,up⟩:=c.lR (i:=5) rfl;have hM:∀q,Ch F' _ q->(B.and [bJ CA (aK p) [((0:Int),(4:Int))],rV r (xH p 0 0 false (iE 240 r))]).p q:=λq ch=>by
  have cc:=up (A':=aD []) (M:=[]) (h':=q) (Cx.Oh ch);exact⟨B.up N (hF _ ch),cc.get (i:=4) rfl⟩
 refine Ft (n:=kB 226) (x:=⟨du,e,who,seq,G,i,dU,dn,bad,th,nx,bh⟩) (B:=B.and [bJ CA (aK p) [((0:Int),(4:Int))],rV r (xH p 0 0 false (iE 240 r))]) (F:=F') (t:=362) (V:=λB W v=>Dx B W v .look) (a:=⟨5,eT,W0,W0⟩) (d:=false) (out:=(s,⟨5,eT,W0,W0⟩,false)) hM ⟨hi,Q,T⟩ rfl zn c' (λh F R c hB E=>?_) (λ_ v' W' M ok=>?_) rfl λx2 W2 M _ d2 ok=>?_
 ·refine iP.2 (I3 (hB h (.refl _ _)) (O.le (Bs.aJ _ _)) (On.sl (i:=0) rfl) (Fr.of (i:=1) rfl) rfl λv W M h' c2 ok=>?_);exact E v W M h' ((c.aF c2).pick [1,2]) ok
 ·refine⟨?_,rfl⟩;dsimp only;rw[A];exact⟨⟨⟨rfl,rfl,rfl⟩,h2,U.le ((Bs.aJ _ _).trans (Bs.aJ _ _)),X,Z,h6⟩,u,rfl,rfl,v',rfl,ok⟩
 have c:=up d2;have oo:=ok.o;obtain⟨eQ,e2,aS,aT,iF,i2,bY,iN,dO,iS,oF,oR⟩:=x2;obtain⟨H,J,K⟩:=oo;dsimp only at H J K;replace c:=c.n7;refine c.jP 2 3 λ_ c=>?_;exact E _ W2 [_,aD M] _ (Cx.pack (L:=[_]) (M:=[aD [bJ CA (aK p) [((0:Int),(4:Int))],rV r (xH p 0 0 false (iE 240 r))],aD M]) (c.pick [5,4,6])) (ok.le Bs.Ay)
end
def UR (s:Bk):BP->Prop
 | .take k=>Fc.live k
 | .fZ hs=>yi hs/\∀s∈hs,s.nx=.again->s.i<s.es.length
 | .lX b k=>b<4/\Kb.live k
 | .looked=>True
 | .over=>False
 | _=>1<=s.seq/\s.seq<=16777215
structure Ly (s:Bk):Prop where
 ph:UR s s.ph
 cL:s.cL<4
 es:s.es.length<=300
 i:s.i<=1000
section
variable {x:Bc} {n:Value} {a:Ac} {z:Int} {g:cP} {es:List Et} {s:Bk} {W:aX} {v:Value} {out:BR}
def jE (q:x.th=false) (o:Bo x) (c:Cx F h h [W]) (T:∀h',Ch F h h'->B.p h') (U:∀h1 u K,Cx u h1 h1 [W]->(∀h',Ch u h1 h'->B.p h')->tj u h1 B out K->Cw S.C S.Y I.mt x.nx [oU x,eI g] h1 K)
  (V:xD 332 F h B (λB W v=>OY B W v out.1) out.2.1 out.2.2 R):eE.1 (oU x) (eI g) h R:=by
 obtain⟨du,e,who,seq,X,i,dU,dn,bad,th,nx,bh⟩:=x;obtain⟨hi,Z,hb⟩:=o;dsimp only at hi Z hb q;subst q;obtain⟨⟨gv,gq,gr⟩,gk⟩:=g;obtain⟨so,a,d⟩:=out;replace c:Cx _ _ _ [_]:=c;refine c.lA λ_ _ c=>?_;refine c.v4 λ_ _ c=>?_;refine c.v8 λ_ _ c=>?_;refine aE<|c.rc 1 ?_;refine aN<|aE<|c.rc 1 ?_;refine c.rl 1 ?_;refine c.rl 2 ?_;obtain⟨F',c',hF,up⟩:=c.lR (i:=0) rfl;refine U _ F' _ c' (λA ch=>T A (hF _ ch)) λx2 W2 M _ d2 ok=>?_;have c:=up d2;have oo:=ok.o;obtain⟨aS,e2,J,N,aT,i2,O,bY,Q,dO,eQ,iF⟩:=x2;obtain⟨E,G,H⟩:=oo;dsimp only at E G H;replace c:=c.n5;refine vx rfl<|vx rfl<|vx rfl<|c.lA λ_ _ c=>?_;refine c.v8 λ_ _ c=>?_;refine c.SF 5 λ_ c=>?_;refine c.w8 6 λ_ c=>?_;refine c.rl 5 ?_;refine vx rfl<|c.rl 6 ?_;refine c.w8 3 λ_ c=>?_;refine c.rl 3 ?_;exact V _ W2 M _ (c.pick [0,4]) ⟨_,rfl,ok⟩
def tj.PB {h1:Hp} (c:Cx F h1 h1 [W]) (u:W=aD []) (H:tj F h1 B out R):tj uH h1 B out R:=λx q M h' c' ok=>H x q M h' ((c.aF c').pick [1,2]) ok
def EH {k:Gf} {g:cP} (q:Fc.live k):(eO k g).2.2=true↔¬Fc.live (eO k g).1:=by
 have F:∀(w:W3) (k i:Nat),(cF w k i).2.2=true↔¬Fc.live (cF w k i).1:=λw k=>by
  induction k with
  | zero=>intro i; exact⟨λ_=>id,λ_=>rfl⟩
  | succ k u=>
   intro i;rw[cF];split
   ·exact⟨(λh=>by cases h),λh=>absurd trivial h⟩
   ·exact u _
 cases k with
 | look=>exact F _ _ _
 | swap i w=>
  unfold eO;dsimp only;split
  ·exact⟨λ_=>id,λ_=>rfl⟩
  ·exact F _ _ _
 | done i=>exact q.elim
 | full=>exact q.elim
def Eh {b:Nat} {k:MN} {g:cP} (q:Kb.live k):(fC b k g).2.2=true↔¬Kb.live (fC b k g).1:=by
 have F:∀(w:W3),(dF b w).2.2=true↔¬Kb.live (dF b w).1:=λw=>by
  unfold dF;split
  ·exact⟨λ_=>id,λ_=>rfl⟩
  ·exact⟨(λh=>by cases h),λh=>absurd trivial h⟩
 cases k with
 | look=>exact F _
 | swap w=>
  unfold fC;dsimp only;split
  ·exact⟨λ_=>id,λ_=>rfl⟩
  ·exact F _
 | done i=>exact q.elim
def Cy:∀{B:Bs} {k:Gf} {W:aX} {v:Value} {g:cP},On B Zs->Dx B W v k->Fc.live k->SS 342 362 B W v g (λB W v=>Dx B W v (eO k g).1) (eO k g).2.1 (eO k g).2.2:=λa b d h F R c e k=>iP.2 (KI e a b d c k)
def C9:∀{B:Bs} {b:Nat} {k:MN} {W:aX} {v:Value} {g:cP},On B Zs->b<4->J6 B W v b k->Kb.live k->SS 344 383 B W v g (λB W v=>J6 B W v b (fC b k g).1) (fC b k g).2.1 (fC b k g).2.2:=λa b d e h F R c f k=>iL.2 (Lc f a b d e c k)
def Qg (hZ:On B Zs) (hv:OY B W v s) (ok:Ly s) (hg:Ww g.w) (c:Cx F h h [W]) (hB:∀h',Ch F h h'->B.p h')
  (U:xD 332 F h B (λB W v=>OY B W v (bP s g).1) (bP s g).2.1 (bP s g).2.2 R):eE.1 v (eI g) h R:=by
 obtain⟨x,rfl,Q⟩:=hv;obtain⟨E,o2,o3,o4⟩:=ok;have dO:0<=s.at'/\s.at'<=4096:=by unfold Bk.at' cK; split <;> omega
 cases J:s.ph with
 | over=>rw[J] at E; exact E.elim
 | looked=>
  rw[J] at Q E;obtain⟨u,y2,rfl,Z⟩:=Q;have H:bP s g=om s g.w:=by unfold bP; rw[J]
  rw[H] at U;refine jE u.th u.o c hB (λh1 F1 K T A G=>?_) U;rw[Z];exact .inl (.inl ⟨_,#[],#[],rfl,kT.2 (Je (A _ (.refl _ _)) hZ u y2 o2 hg (G.PB T rfl))⟩)
 | rel op=>
  rw[J] at Q E;obtain⟨u,rfl,X,Z⟩:=Q;have H:bP s g=if s.cH=true then({s with ph:=.xU op},⟨7,s.at',W0,W0⟩,false) else fB s op:=by unfold bP; rw[J]
  rw[H] at U;refine jE u.th u.o c hB (λh1 F1 K T A G=>?_) U;rw[X];exact .inl (.inl ⟨_,#[],#[],rfl,kc.2 (DF (A _ (.refl _ _)) hZ u Z o2 E o3 (G.PB T rfl))⟩)
 | xU op=>
  rw[J] at Q E;obtain⟨u,rfl,X,Z⟩:=Q;have H:bP s g=({s with ph:=.uC op},⟨8,0,W0,W0⟩,false):=by unfold bP; rw[J]
  rw[H] at U;refine jE u.th u.o c hB (λh1 F1 K T A G=>?_) U;rw[X];exact .inl (.inl ⟨_,#[],#[],rfl,kJ.2 (F5 u Z (G.PB T rfl))⟩)
 | uC op=>
  rw[J] at Q E;obtain⟨u,rfl,X⟩:=Q;have H:bP s g=fB s op:=by unfold bP; rw[J]
  rw[H] at U;refine jE u.th u.o c hB (λh1 F1 K T A G=>?_) U;rw[X];exact wR (A _ (.refl _ _)) hZ u o2 E o3 op (G.PB T rfl)
 | fill=>
  rw[J] at Q E;obtain⟨u,rfl,X⟩:=Q;have H:bP s g=fB s false:=by unfold bP; rw[J]; rfl
  rw[H] at U;refine jE u.th u.o c hB (λh1 F1 K T A G=>?_) U;rw[X];exact wR (A _ (.refl _ _)) hZ u o2 E o3 false (G.PB T rfl)
 | fP=>
  rw[J] at Q E;obtain⟨u,rfl,X⟩:=Q;have H:bP s g=nW s:=by unfold bP; rw[J]
  rw[H] at U;refine jE u.th u.o c hB (λh1 F1 K T A G=>?_) U;rw[X];refine .inl (.inl ⟨_,#[],#[],rfl,Hk (es:=s.es) u.o (u.e _ (A _ (.refl _ _))) (by omega) (by rw[u.at']; exact dO) (by rw[u.i]; exact o4) λh' gr=>?_⟩);have G:=G.PB T rfl;rw[u.at',u.i];unfold nW dY at G;dsimp only at G;by_cases e2:s.at'+(1+3*(s.es.length:Int))<s.at' / 8*8+s.i*8
  ·rw[if_pos e2];rw[if_pos (by omega)] at G;exact tj.flat (x:={x with at':=s.at',i:=s.i,nx:=kB 282}) G (λM=>⟨⟨⟨⟨⟨u.o.dU,rfl,u.o.bh⟩,u.du,u.e.le (Bs.aJ _ _),u.dn,u.bad,u.th⟩,u.who,rfl⟩,u.seq,rfl⟩,rfl,rfl⟩) gr
  ·rw[if_neg e2];rw[if_neg (by omega)] at G;exact tj.flat (x:={x with at':=s.at',i:=s.i+1,nx:=kB 283}) G (λM=>⟨⟨⟨⟨⟨u.o.dU,rfl,u.o.bh⟩,u.du,u.e.le (Bs.aJ _ _),u.dn,u.bad,u.th⟩,u.who,rfl⟩,u.seq,rfl⟩,rfl,rfl⟩) gr
 | xg=>
  rw[J] at Q E;obtain⟨u,rfl,X⟩:=Q;have H:bP s g=DJ s:=by unfold bP; rw[J]
  rw[H] at U;refine jE u.th u.o c hB (λh1 F1 K T A G=>?_) U;rw[X];have E:1<=s.seq/\s.seq<=16777215:=E;refine .inl (.inl ⟨_,#[],#[],rfl,HN u.o (by rw[u.seq]; omega) λh' gr=>?_⟩);rw[u.at',u.seq];exact tj.flat (x:={x with at':=s.at',seq:=s.seq,bh:=kB 293,nx:=kB 279}) (G.PB T rfl) (λM=>⟨⟨⟨⟨⟨u.o.dU,rfl,rfl⟩,u.du,u.e.le (Bs.aJ _ _),u.dn,u.bad,u.th⟩,u.who,rfl⟩,rfl,u.i⟩,rfl,rfl,rfl⟩) gr
 | take k=>
  rw[J] at Q E;obtain⟨u,y2,X,Z,v',y5,y6⟩:=Q;have E:Fc.live k:=E;have hN:=Cy (g:=g) hZ y6 E;have aS:=EH (g:=g) E;refine jE u.th u.o c hB (λh1 F1 K T A G=>?_) U;rw[X];cases hq:eO k g with
  | mk k' q=>
   obtain⟨a',d⟩:=q;rw[hq] at hN aS;refine .inl (.inl ⟨_,#[],#[],rfl,dI.2 (sJ A u.o y5 zn T hN (λN v2 W2 M ok=>?_) (λN v2 W2 M h2 K2 b2 ok O=>?_) G)⟩)
   ·have N:d=false:=N;subst N;have H:bP s g=({s with ph:=.take k'},a',false):=by
     unfold bP;rw[J];dsimp only;rw[hq];cases k' with
     | look=>rfl
     | swap i w=>rfl
     | done i=>have:=aS.2 id; cases this
     | full=>have:=aS.2 id; cases this
    rw[H];exact⟨⟨⟨⟨rfl,rfl,u.o.bh⟩,u.du,u.e.le (Bs.aJ _ _),u.dn,u.bad,u.th⟩,y2,rfl,Z,v2,rfl,ok⟩,rfl⟩
   ·have N:d=true:=N;subst N;have bY:=aS.1 rfl;have H:bP s g=Ei s k':=by
     unfold bP;rw[J];dsimp only;rw[hq];cases k' with
     | look=>exact absurd trivial bY
     | swap i w=>exact absurd trivial bY
     | done i=>rfl
     | full=>rfl
    rw[H] at O;rw[Z];exact .inl (.inl ⟨_,#[],#[],rfl,lQ.2 (K6 b2 (hZ.le (Bs.aJ _ _)) ⟨⟨rfl,u.o.nx,rfl⟩,u.du,u.e.le (Bs.aJ _ _),u.dn,u.bad,u.th⟩ y2 rfl ok bY O)⟩)
 | lX b k=>
  rw[J] at Q E;obtain⟨u,X,Z,v',y5,y6⟩:=Q;have E:b<4/\Kb.live k:=E;have hN:=C9 (g:=g) hZ E.1 y6 E.2;have aS:=Eh (b:=b) (g:=g) E.2;refine jE u.th u.o c hB (λh1 F1 K T A G=>?_) U;rw[X];cases hq:fC b k g with
  | mk k' q=>
   obtain⟨a',d⟩:=q;rw[hq] at hN aS;refine .inl (.inl ⟨_,#[],#[],rfl,dI.2 (sJ A u.o y5 zr T hN (λN v2 W2 M ok=>?_) (λN v2 W2 M h2 K2 b2 ok O=>?_) G)⟩)
   ·have N:d=false:=N;subst N;have H:bP s g=({s with ph:=.lX b k'},a',false):=by
     unfold bP;rw[J];dsimp only;rw[hq]
    rw[H];exact⟨⟨⟨⟨rfl,rfl,u.o.bh⟩,u.du,u.e.le (Bs.aJ _ _),u.dn,u.bad,u.th⟩,rfl,Z,v2,rfl,ok⟩,rfl⟩
   ·have N:d=true:=N;subst N;have H:bP s g=GR s:=by
     unfold bP;rw[J];dsimp only;rw[hq]
    rw[H] at O;rw[Z];exact .inl (.inl ⟨_,#[],#[],rfl,lL.2 (Ld ⟨rfl,u.o.nx,rfl⟩ u.dn u.bad O)⟩)
 | fZ hs=>
  rw[J] at Q E;obtain⟨u,rfl,X,Z,v',y5,y6⟩:=Q;have E:yi hs/\∀s∈hs,s.nx=.again->s.i<s.es.length:=E;have hN:=fX (g:=g) hZ hg y6 E.1 E.2;have aT:Bx (bV hs g):=iV E.1;refine jE u.th u.o c hB (λh1 F1 K T A G=>?_) U;rw[X];cases hq:bV hs g with
  | mk eQ q=>
   obtain⟨a',d⟩:=q;rw[hq] at hN aT;refine .inl (.inl ⟨_,#[],#[],rfl,dI.2 (sJ (W:=aD []) (V:=λB W v=>W=aD []/\vj B eQ v) (a:=a') (d:=d) A u.o y5 kQ T (λh2 F2 K2 c2 iF O=>?_) (λN v2 W2 M ok=>?_) (λN v2 W2 M h2 K2 b2 ok O=>?_) G)⟩)
   ·exact hN h2 K2 (iF _ (.refl _ _)) λv2 M h3 c3 ok=>O v2 (aD []) M h3 (c2.aF c3) ⟨rfl,ok⟩
   ·have N:d=false:=N;subst N;have H:bP s g=({s with ph:=.fZ eQ},a',false):=by
     unfold bP;rw[J];dsimp only;rw[hq]
    rw[H];exact⟨⟨⟨⟨⟨⟨rfl,rfl,u.o.bh⟩,u.du,u.e.le (Bs.aJ _ _),u.dn,u.bad,u.th⟩,u.who,u.at'⟩,u.seq,u.i⟩,ok.1,rfl,Z,v2,rfl,ok.2⟩,rfl⟩
   ·have N:d=true:=N;subst N;obtain⟨t,ht,iN⟩:=aT rfl;dsimp only at ht;subst ht;have H:bP s g=vJ {s with done:=decide (t.aO=1)}:=by
     unfold bP;rw[J];dsimp only;rw[hq]
    rw[H] at O;rw[Z];exact .inl (.inl ⟨_,#[],#[],rfl,lj.2 (I8 b2 (hZ.le (Bs.aJ _ _)) ⟨⟨⟨⟨rfl,u.o.nx,rfl⟩,u.du,u.e.le (Bs.aJ _ _),u.dn,u.bad,u.th⟩,u.who,u.at'⟩,u.seq,u.i⟩ o2 rfl ok.2 iN O)⟩)
end
structure H7 (es:List Et):Prop where
 OZ:eP es=0
 len:es.length<=10
 B9:∀(i:Nat) (a b:Et),es[i]?=some a->es[i+1]?=some b->a.at'<b.at'
 may:∀e∈es,gX e.at'=true
 old:∀e∈es,Ww e.old
def uN {a:Int} (h:gX a=true):0<=a/\a<=1000:=by
 have:=of_decide_eq_true h;omega
def PX (du:Bool) (e:SH):Bc:=⟨du,e,0,0,0,0,.nilIface,false,0,false,kB 213,.nilFunc⟩
section
variable {v:Value} {es:List Et} {g:cP} {du:Bool}
def Kx (J:Zs h) (hs:Sl EE h v es) (ok:H7 es) (M:∀h',Gr h h'->R (.int .i64 0) h'):ti.1 vL v h R:=by
 have hlen:=ok.len;have c:=Cx.aB h;refine c.v3 λE _ c=>?_;refine c.rl 0 ?_;refine cS _ _ (J.gr c.gr) λ_ g=>?_;have c:=c.more g;refine vx (v:=.bool false) rfl<|aN<|rD (hs.gr c.gr) ok.old (by omega) λ_ g=>?_;have c:=c.more g;rw[ok.OZ];refine vx (v:=.bool false) rfl<|aN<|vx (hs.gr c.gr).ln<|vx (ka (by omega))<|aN<|oP.by (λ(i:Nat) z h'=>z=.int .i64 ((i+1:Nat):Int)/\Cx (λ_=>False) h h' [rV E [.int .i64 3,.int .i64 6,.int .i64 4]]) (λi=>es.length - i) 0 ⟨rfl,c⟩ ?_;rintro i _ N ⟨rfl,c⟩ again q;refine vx (hs.gr c.gr).ln<|vx aV<|dW (λG=>?_) λG=>?_
 ·refine vx (v:=.int .i64 i) ((fT ⟨by omega,by omega⟩).trans (congrArg (λz=>some (Value.int .i64 z)) (by omega))) ?_;have h1:=List.getElem?_eq_getElem (l:=es) (i:=i) (by omega);have h2:=List.getElem?_eq_getElem (l:=es) (i:=i+1) (by omega);have A:=ok.B9 i _ _ h1 h2;generalize es[i]=a at h1 A;generalize es[i+1]=b at h2 A;refine(hs.gr c.gr).oW (j:=0) rfl h1 rfl (u:=.int .i64 a.at') rfl ?_;refine(hs.gr c.gr).oW (j:=0) rfl h2 rfl (u:=.int .i64 b.at') rfl ?_;exact vx (iO (Int.not_le.2 A))<|aN<|vx (inc (by omega))<|q (i+1) _ _ ⟨rfl,c⟩ (by omega)
 ·refine vx (hs.gr c.gr).ln<|oP.by (λ(i:Nat) z h'=>z=.int .i64 i/\i<=es.length/\Cx (λ_=>False) h h' [rV E [.int .i64 3,.int .i64 6,.int .i64 4]]) (λi=>es.length - i) 0 ⟨rfl,Nat.zero_le _,c⟩ ?_;rintro j _ O ⟨rfl,Q,c⟩ again q;refine vx aV<|dW (λH=>?_) λH=>?_
  ·have h1:=List.getElem?_eq_getElem (l:=es) (i:=j) (by omega);have hm:=ok.may _ (List.mem_of_getElem? h1);generalize es[j]=a at h1 hm;obtain⟨K,⟨T,U,V⟩,X,Z⟩:=a;refine(hs.gr c.gr).whole rfl h1 rfl ?_;refine c.v6 λ_ _ c=>?_;refine c.w6 1 λ_ c=>?_;refine c.rl 0 ?_;refine aE<|c.rc 1 ?_;refine iR (a:=K) (by have:=uN hm; dsimp only at this; omega) _ _ (J.gr c.gr) λ_ g=>?_;have c:=c.more g;rw[show gX K=true from hm];exact vx (v:=.bool false) (rfl)<|aN<|vx (inc (by omega))<|q (j+1) _ _ ⟨rfl,by omega,c.pick [0]⟩ (by omega)
  ·refine aE<|c.rc 0 ?_;exact vx (fG (by decide))<|aN<|M _ c.gr
def Qf (q:Zs h) (hs:Sl EE h v es) (ok:H7 es) (hw:∀h R,Zs h->Sl EE h v es->(∀h',Gr h h'->R (.int .i64 0) h')->S.C 212 [vL,v] h R)
  (u:∀e h',Cx (λ_=>False) h h' [bJ EE (aK e) es]->R (.tuple #[.iface 332 (oU (PX du e)),.int .i64 0]) h'):xL.1 vL (.bool du) v h R:=by
 have hlen:=ok.len;have c:=Cx.aB h;refine c.v3 λ_ _ c=>?_;refine c.rl 0 ?_;refine hw _ _ (q.gr c.gr) (hs.gr c.gr) λ_ g=>?_;have c:=c.more g;refine vx (v:=.bool false) rfl<|aN<|c.Aj EE λtJ _ c=>?_;replace c:=c.n2;refine c.ap 1 rfl (hs.gr c.gr) rfl rfl (by simp only[List.length_nil]; omega) (by simp only[List.length_nil]; omega) λA _ c=>?_;obtain⟨e,rfl⟩:=(c.sl (i:=1) rfl).ol;replace c:=c.n2;refine c.rl 0 ?_;exact vx (aG (ds:=[_,_,_,_,_,_,_,_,_,_,_,_,_,_,_]) rfl)<|vx rfl<|u e _ (c.pick [1])
def IT (u:B.p h) (A:On B Zs) {e:SH} (he:On B λh=>Sl EE h (aK e) es)
  (E:xD 332 uH h B (λB W v=>OY B W v (GV du es)) ⟨5,eT,W0,W0⟩ false R):eE.1 (oU (PX du e)) (eI g) h R:=by
 have c:Cx uH h h [aD []]:=BX;refine jE (x:=PX du e) (out:=(GV du es,⟨5,eT,W0,W0⟩,false)) rfl ⟨rfl,rfl,rfl⟩ c (λh' g=>B.up u g) (λh1 J K G q H=>?_) E;exact .inl (.inl ⟨_,#[],#[],rfl,mu.2 (OC (s:=GV du es) (q _ (.refl _ _)) A ⟨⟨rfl,rfl,rfl⟩,rfl,he,rfl,rfl,rfl⟩ rfl rfl (H.PB G rfl))⟩)
def JB {W:aX} {s:Bk} (hv:OY B W v s) (G:s.ph=.over) (A:∀h',Gr h h'->R (.tuple #[.bool s.done,.int .i64 s.bad,.bool true]) h'):iX.1 (.iface 332 v) h R:=by
 obtain⟨x,rfl,q⟩:=hv;rw[G] at q;obtain⟨_,h1,h2,E,hi,q,H⟩:=q;obtain⟨du,e,who,seq,u,i,dU,dn,bad,th,nx,bh⟩:=x;dsimp only at h1 h2 E hi q H;subst h1;rw[<-h2,<-E] at A;have c:=Cx.aB h;refine vx (v:=.tuple #[oU ⟨du,e,who,seq,u,i,dU,dn,bad,true,nx,bh⟩,.bool true]) (by simp[Az])<|vx rfl<|vx rfl<|c.lA λ_ _ c=>?_;refine c.SF 0 λ_ c=>?_;refine .here<|vx (v:=.bool false) (rfl)<|aN<|aE<|c.rc 0 ?_;refine vx rfl<|aN<|aE<|c.rc 0 ?_;refine aE<|c.rc 0 ?_;exact A _ c.gr
def xp {t:TypeId} (q:¬t=332) (u:∀h',Gr h h'->R (.tuple #[.bool false,.int .i64 0,.bool false]) h'):iX.1 (.iface t v) h R:=by
 have c:=Cx.aB h;refine vx (v:=.tuple #[.agg Qx,.bool false]) (by simp[Az,q])<|vx rfl<|vx rfl<|c.lA λ_ _ c=>?_;refine c.SF 0 λ_ c=>?_;exact .here<|vx (v:=.bool true) (rfl)<|bU<|bU<|u _ c.gr
end
abbrev RT (x:Ac):List Value:=[.int .i64 x.op,.int .i64 x.at',.int .i64 x.old.v,.int .u32 x.old.aO,.int .u32 x.old.ref,.int .i64 x.new.v,.int .u32 x.new.aO,.int .u32 x.new.ref]
def NP (x:Ac) (v:Value) (h:v∈RT x):v.oneCell'=true:=by
 simp only[List.mem_cons,List.not_mem_nil,or_false] at h;rcases h with rfl | rfl | rfl | rfl | rfl | rfl | rfl | rfl <;> rfl
def wu:jZ Ac:={n:=8,c:=λx=>RT x,len:=λ_=>rfl,one:=NP}
structure Sc where
 t:Int
 seq:Int
 du:Bool
 e:SH
 nx:Value
 ov:Bool
 ok:Bool
abbrev Ax (x:Sc):List Value:=[.int .i64 3,.int .i64 6,.int .i64 4,.int .i64 x.t,.int .i64 x.seq,.bool x.du,aK x.e,x.nx,.bool x.ov,.bool x.ok]
abbrev kM (x:Sc):Value:=.agg ⟨Ax x⟩
structure wQ (B:Bs) (s:Sw) (x:Sc):Prop where
 t:x.t=s.t
 seq:x.seq=s.seq
 du:x.du=s.cH
 e:On B λh=>Sl EE h (aK x.e) s.es
 nx:x.nx.oneCell'=true
 ov:x.ov=false
 ok:x.ok=false
def wQ.le {s:Sw} {x:Sc} (H:wQ B s x) (l:B.le B'):wQ B' s x:=⟨H.t,H.seq,H.du,H.e.le l,H.nx,H.ov,H.ok⟩
abbrev o8 (f r q:Nat):Value:=.func (.func f) #[] #[bE r,bE q]
def KM (B:Bs) (hs:List Hs) (q k:Value):Prop:=∃u rt A,q=o8 259 u rt/\Fr B u [.iface 376 A]/\vj B hs A/\Fr B rt [k]
def MD (B:Bs) (l:List Ac) (q k:Value):Prop:=∃rl rt u a,q=o8 270 rl rt/\Fr B rl [aK u]/\(On B λh=>Sl wu h (aK u) (a::l))/\Fr B rt [k]
def NH (B:Bs) (s:Sw) (q:Value):SP->Prop
 | .last hs=>KM B hs q (kB 234)
 | .own hs=>KM B hs q (kB 271)
 | .mO l=>MD B l q (kB 256)
 | .lM=>q=kB 228
 | .jS w hs=>∃rw,KM B hs q (iE 248 rw)/\Fr B rw (cW w)
 | .kC=>q=kB 269
 | .mG=>∃u,q=iE 253 u/\Fr B u (cE (sE s))
 | .send l ok=>MD B l q (kB (if ok then 254 else 252))
 | .lI=>False
 | .over _=>False
def MQ (B:Bs) (s:Sw) (v:Value):Prop:=∃x u A y q,v=kM x/\wQ B s x/\x.nx=o8 247 u A/\Fr B u [q]/\Fr B A (Ax y)/\wQ B s y/\NH B s q s.ph
def UA (B:Bs) (s:Sw) (v:Value):SP->Prop
 | .lI=>∃x y,v=kM x/\wQ B s x/\x.nx=.func (.func 219) #[kM y] #[]/\wQ B s y
 | .over ok=>∃x,v=kM x/\x.ov=true/\x.ok=ok/\x.nx.oneCell'=true
 | _=>MQ B s v
def yF (B:Bs) (v:Value) (s:Sw):Prop:=UA B s v s.ph
def KM.le {hs:List Hs} {q k:Value} (l:B.le B'):KM B hs q k->KM B' hs q k:=λ⟨u,rt,A,a,b,c,d⟩=>⟨u,rt,A,a,b.le l,c.le l,d.le l⟩
def MD.le {ls:List Ac} {q k:Value} (l:B.le B'):MD B ls q k->MD B' ls q k:=λ⟨rl,rt,u,a,b,c,d,e⟩=>⟨rl,rt,u,a,b,c.le l,d.le l,e.le l⟩
def NH.le {s:Sw} {q:Value} (l:B.le B'):∀{p:SP},NH B s q p->NH B' s q p
 | .last _,H=>KM.le l H
 | .own _,H=>KM.le l H
 | .mO _,H=>MD.le l H
 | .lM,H=>H
 | .jS _ _,⟨rw,a,b⟩=>⟨rw,a.le l,b.le l⟩
 | .kC,H=>H
 | .mG,⟨u,a,b⟩=>⟨u,a,b.le l⟩
 | .send _ _,H=>MD.le l H
def MQ.le {s:Sw} {v:Value} (l:B.le B'):MQ B s v->MQ B' s v:=λ⟨x,u,A,y,q,a,b,c,d,e,f,g⟩=>⟨x,u,A,y,q,a,b.le l,c,d.le l,e.le l,f.le l,g.le l⟩
def yF.le {s:Sw} {v:Value} (l:B.le B') (H:yF B v s):yF B' v s:=by
 unfold yF at *;cases q:s.ph <;> rw[q] at H
 case lI=>obtain⟨x,y,a,b,c,d⟩:=H; exact⟨x,y,a,b.le l,c,d.le l⟩
 case over ok=>exact H
 all_goals exact MQ.le l H
def qW (h:Hp) (B:Bs) (out:SR) (R:Value->Hp->Prop):Prop:=∀q,Rt B h (λB=>yF B q out.1) λh'=>R (.tuple #[.iface 327 q,lD out.2.1,.bool out.2.2]) h'
section
variable {x:Sc} {n:Value} {a:Ac} {z:Int} {g:cP} {es:List Et} {s:Sw} {b:Bool}
def EA (G:x.nx.oneCell'=true) (u:n.oneCell'=true) (H:∀A E h',Cx (λ_=>False) h h' [rV A [n],rV E (Ax x)]->R (.tuple #[.iface 327 (kM {x with nx:=o8 247 A E}),lD a,.bool false]) h'):S.C 227 [(kM x),(lD a),n] h R:=by
 refine Ai.2 ?_;obtain⟨t,seq,du,e,nx,ov,ok⟩:=x;dsimp only at G;have q:n.cells.toList=[n]:=dK u;have c:=Cx.aB h;refine c.v10 λ_ _ c=>?_;refine c.v8 λ_ _ c=>?_;refine c.nv (cs:=[n]) q (zY u) λ_ _ c=>?_;replace c:=c.n3;refine c.v8 λ_ _ c=>?_;refine c.rl 0 ?_;refine c.v10 λ_ _ c=>?_;refine c.Ri 4 λ_ c=>?_;refine vx rfl<|aE<|c.Pp 0 λ_ c=>?_;refine c.rl 0 ?_;refine vx rfl<|c.rl 1 ?_;refine c.w8 3 λ_ c=>?_;refine c.rl 3 ?_;exact H _ _ _ (c.pick [2,4])
def yE (q:x.nx.oneCell'=true) (u:∀h',Gr h h'->R (.tuple #[.iface 327 (kM {x with nx:=.nilFunc,ov:=true,ok:=b}),lD jG,.bool true]) h'):S.C 230 [(kM x),(.bool b)] h R:=by
 refine yj.2 ?_;obtain⟨t,seq,du,e,nx,ov,ok⟩:=x;dsimp only at q;have c:=Cx.aB h;refine c.v10 λ_ _ c=>?_;refine c.v8 λ_ _ c=>?_;refine aE<|c.Pp 0 λ_ c=>?_;refine aE<|c.Pp 0 λ_ c=>?_;refine aE<|c.Pp 0 λ_ c=>?_;refine c.rl 0 ?_;refine vx rfl<|vx (aG (ds:=[_,_,_,_,_,_,_,_]) rfl)<|c.w8 1 λ_ c=>?_;refine c.rl 1 ?_;exact u _ c.gr
def Hx (Z:Zs h) (u:x.nx.oneCell'=true) (q : -1000<=x.t/\x.t<=1000) (A:∀h',Gr h h'->R (.int .i64 (eN x.t)) h'):S.C 221 [(kM x)] h R:=by
 refine wJ.2 ?_;obtain⟨t,seq,du,e,nx,ov,ok⟩:=x;dsimp only at u q;have c:=Cx.aB h;refine c.v10 λ_ _ c=>?_;refine aE<|vx (c.vp (i:=0) (ds:=[_,_,_]) rfl rfl rfl)<|aE<|c.rc 0 ?_;refine jJ q _ _ (Z.gr c.gr) λ_ g=>?_;have c:=c.more g;exact A _ c.gr
def j6 (du:Bool) (l:List Int):List Ac:=if du=true then l.map (λp=>⟨7,p,W0,W0⟩)++[⟨8,0,W0,W0⟩] else []
def m7 {v:Value} {ls:List Int} (J:x.nx.oneCell'=true) (hv:Sl mf h v ls) (O:ls.length<=1000) (E:∀u h',Cx (λ_=>False) h h' [bJ wu (aK u) (j6 x.du ls)]->R (aK u) h'):S.C 251 [(kM x),v] h R:=by
 refine wW.2 ?_;obtain⟨t,seq,du,e,nx,ov,ok⟩:=x;dsimp only at J E;cases du with
 | false=>
  have c:=Cx.aB h;refine c.v10 λ_ _ c=>?_;refine aE<|c.rc 0 ?_;exact vx (v:=.bool true) (rfl)<|bU<|E (none,0,0) _ ((c.nil wu).pick [1])
 | true=>
  have c:=Cx.aB h;refine c.v10 λG _ c=>?_;refine aE<|c.rc 0 ?_;refine vx (v:=.bool false) (rfl)<|aN<|vx (hv.gr c.gr).ln<|wA.by (λ(i:Nat) u v h'=>v=.int .i64 i/\i<=ls.length/\Cx (λ_=>False) h h' [rV G [_,_,_,_,_,_,_,_,_,_],bJ wu u ((ls.take i).map λp=>⟨7,p,W0,W0⟩)]) (λi=>ls.length - i) 0 ⟨rfl,Nat.zero_le _,c.nil wu⟩ ?_;rintro i u _ h2 ⟨rfl,hi,c⟩ again q;replace c:=c.n2;refine vx aV<|dW (λH=>?_) λH=>?_
  ·have h1:=List.getElem?_eq_getElem (l:=ls) (i:=i) (by omega);have A:ls.take (i+1)=ls.take i++[ls[i]'(by omega)]:=by rw[List.take_add_one,h1]; rfl
   generalize ls[i]'(by omega)=p at h1 A;refine(hv.gr c.gr).one rfl h1 rfl (u:=.int .i64 p) rfl ?_;refine vx (aG (ds:=[_,_,_,_,_,_,_,_]) rfl)<|c.dN wu ⟨7,p,W0,W0⟩ rfl rfl λv20 _ c=>?_;replace c:=c.n3;refine c.ap 1 rfl (c.sl (i:=2) rfl).sl rfl rfl (by simp only[List.length_map,List.length_take,List.length_singleton]; omega) (by simp only[List.length_map,List.length_take,List.length_singleton]; omega) λdJ _ c=>?_;replace c:=c.n3;refine vx (inc (by omega))<|q (i+1) _ _ _ ⟨rfl,by omega,?_⟩ (by omega);rw[A,List.map_append];exact c.pick [0,1]
  ·refine vx (aG (ds:=[_,_,_,_,_,_,_,_]) rfl) ?_;obtain rfl:i=ls.length:=by omega
   rw[List.take_length] at c;refine c.dN wu ⟨8,0,W0,W0⟩ rfl rfl λK _ c=>?_;replace c:=c.n3;refine c.ap 1 rfl (c.sl (i:=2) rfl).sl rfl rfl (by simp only[List.length_map,List.length_singleton]; omega) (by simp only[List.length_map,List.length_singleton]; omega) λM _ c=>?_;obtain⟨N,rfl⟩:=(c.sl (i:=1) rfl).ol;replace c:=c.n3;exact E N _ (c.pick [1])
end
def Fr.lc {r o:Nat} {cs:List Value} {u:Value} (H:Fr B r cs) (b:B.p h) (hu:cs[o]?=some u):eH (.pointer (some ⟨r,o,none⟩)) h=some u:=let⟨_,p⟩:=H h b; rV.lc p hu
section
variable {x:Sc} {n k:Value} {a:Ac} {z:Int} {g:cP} {es:List Et} {s:Sw} {b:Bool} {out:SR}
def C4 (U:B.p h) (hx:wQ B s x) (V:k.oneCell'=true) {u:SH} {l:List Ac} (O:On B λh=>Sl wu h (aK u) l) {p:List Ac->SP}
  (hp:∀B' H r,MD B' r H k->NH B' {s with ph:=p r} H (p r)) (X:∀r B' v,MQ B' {s with ph:=p r} v->yF B' v {s with ph:=p r})
  (J:l=[]->∀h1 K,Gr h h1->qW h1 B out K->Cw S.C S.Y I.mt k [kM x] h1 K) (G:∀a r,l=a::r->out=({s with ph:=p r},a,false))
  (hR:qW h B out R):gY.1 (kM x) (aK u) k h R:=by
 obtain⟨t,seq,du,e,nx,ov,ok⟩:=x;have Z:=hx;obtain⟨h1,h2,h3,h4,hn,h6,h7⟩:=hx;dsimp only at hn h1 h2 h3 h4 h6 h7;have N:k.cells.toList=[k]:=dK V;cases l with
 | nil=>
  have c:=Cx.aB h;refine c.v10 λ_ _ c=>?_;refine c.v1 λ_ _ c=>?_;refine c.nv (cs:=[k]) N (zY V) λ_ _ c=>?_;replace c:=c.n3;refine c.v8 λ_ _ c=>?_;refine c.rc 1 ?_;refine vx ((O _ (B.up U c.gr)).ln)<|vx (jO rfl)<|bU<|c.rc 2 ?_;refine c.rl 0 ?_;refine J rfl _ _ c.gr λv' M _ d aS=>?_;have c:=c.aF d;replace c:=c.n5;refine c.t8 3 λ_ c=>?_;exact hR v' M _ (c.pick [4]) aS
 | cons a r=>
  have e1:=G a r rfl;subst e1;have c:=Cx.aB h;refine c.v10 λ_ _ c=>?_;refine c.v1 λE _ c=>?_;refine c.nv (cs:=[k]) N (zY V) λq _ c=>?_;replace c:=c.n3;refine c.v8 λ_ _ c=>?_;refine c.rc 1 ?_;refine vx ((O _ (B.up U c.gr)).ln)<|vx (fG (by simp only[List.length_cons]; omega))<|aN<|c.rl 0 ?_;refine c.rc 1 ?_;refine(O _ (B.up U c.gr)).whole rfl (i:=0) (x:=a) rfl rfl ?_;refine vx rfl<|EA (x:=⟨t,seq,du,e,nx,ov,ok⟩) (a:=a) hn rfl λQ T _ d=>?_;have c:=c.aF d;replace c:=c.n6;refine c.t8 3 λ_ c=>?_;have c:=Cx.pack (L:=[]) (c.pick [4,5,1,2]);refine hR _ [rV Q [o8 270 E q],rV T (Ax ⟨t,seq,du,e,nx,ov,ok⟩),rV E [aK u],rV q [k]] _ c (X r _ _ ?_);have A:=Z.le (Bs.aJ B [rV Q [o8 270 E q],rV T (Ax ⟨t,seq,du,e,nx,ov,ok⟩),rV E [aK u],rV q [k]]);exact⟨⟨t,seq,du,e,o8 247 Q T,ov,ok⟩,Q,T,⟨t,seq,du,e,nx,ov,ok⟩,_,rfl,⟨A.t,A.seq,A.du,A.e,rfl,A.ov,A.ok⟩,rfl,Fr.of (i:=0) rfl,Fr.of (i:=1) rfl,⟨A.t,A.seq,A.du,A.e,A.nx,A.ov,A.ok⟩,hp _ _ _ ⟨E,q,u,a,rfl,Fr.of (i:=2) rfl,O.le (Bs.aJ _ _),Fr.of (i:=3) rfl⟩⟩
def Hb (J:B.p h) (V:wQ B s x) (Z:k.oneCell'=true) {l:List Ac} {q:Value} (ht:MD B l q k) {p:List Ac->SP}
  (hp:∀B' q r,MD B' r q k->NH B' {s with ph:=p r} q (p r)) (N:∀r B' v,MQ B' {s with ph:=p r} v->yF B' v {s with ph:=p r})
  (G:l=[]->∀h1 K,Gr h h1->qW h1 B out K->Cw S.C S.Y I.mt k [kM x] h1 K) (E:∀a r,l=a::r->out=({s with ph:=p r},a,false))
  (hR:qW h B out R):Cw S.C S.Y I.mt q [kM x,eI g] h R:=by
 obtain⟨rl,rt,u,a,rfl,f1,f2,f3⟩:=ht;refine .inl (.inl ⟨270,#[],#[bE rl,bE rt],rfl,vd.2 ?_⟩);obtain⟨t,seq,du,e,nx,ov,ok⟩:=x;have O:=V;obtain⟨h1,h2,h3,h4,hn,h6,h7⟩:=V;dsimp only at hn;obtain⟨⟨gv,gq,gr⟩,gk⟩:=g;have sub:=λh' Q=>(f2 h' Q).sub (n:=8) rfl (lo:=some (.int .i64 1)) (hi:=none) (l:=1) (u:=(a::l).length) (.inr ⟨_,_,rfl,rfl⟩) (.inl ⟨rfl,rfl⟩) (by simp only[List.length_cons]; omega) (Nat.le_refl _);obtain⟨w,X,Hw,_⟩:=sub h J;obtain⟨T,rfl⟩:∃T:SH,w=aK T:=by
  obtain⟨a2,cap,e2,_⟩:=Hw;exact⟨(a2,_,cap),e2⟩
 have hu:On B λh=>Sl wu h (aK T) l:=λh' Q=>by
  obtain⟨w',A,H,_⟩:=sub h' Q;rw[List.take_length] at H;rw[X] at A;injection A with A;rw[A]; exact H
 have c:=Cx.aB h;refine c.v10 λ_ _ c=>?_;refine c.v4 λ_ _ c=>?_;refine c.v8 λ_ _ c=>?_;refine c.rl 0 ?_;refine vx (f1.lc (B.up J c.gr) (o:=0) rfl)<|vx X<|vx (f3.lc (B.up J c.gr) (o:=0) rfl)<|gY.2 (C4 (x:=⟨t,seq,du,e,nx,ov,ok⟩) (B.up J c.gr) O Z hu hp N (λe h1 K g hK=>G e h1 K (Gr.trans c.gr g) hK) E λv' M _ d U=>?_);have c:=c.aF d;replace c:=c.n4;refine c.t8 2 λ_ c=>?_;exact hR v' M _ (c.pick [3]) U
def pB (X:B.p h) (hx:wQ B s x) (Z:k.oneCell'=true) {v:Value} {ho:List Hs × Ac × Bool} (hN:Ij B v g ho) (O:Bx ho) {p:List Hs->SP}
  (hp:∀B' Q hs,B.le B'->KM B' hs Q k->NH B' {s with ph:=p hs} Q (p hs)) (aS:∀hs B' v,MQ B' {s with ph:=p hs} v->yF B' v {s with ph:=p hs})
  (G:∀t a,ho=([t],a,true)->∀M h1 K,(B.and M).p h1->qW h1 (B.and M) out K->Cw S.C S.Y I.mt k [kM x,.int .i64 t.aO] h1 K) (H:∀hs a,ho=(hs,a,false)->out=({s with ph:=p hs},a,false))
  (hR:qW h B out R):dT.1 (kM x) (.iface 376 v) (eI g) k h R:=by
 obtain⟨t,seq,du,e,nx,ov,ok⟩:=x;have aT:=hx;obtain⟨h1,h2,h3,h4,hn,h6,h7⟩:=hx;dsimp only at hn;have T:k.cells.toList=[k]:=dK Z;obtain⟨⟨gv,gq,gr⟩,gk⟩:=g;obtain⟨hs,a,d⟩:=ho;cases d with
 | true=>
  obtain⟨tt,ht,bY⟩:=O rfl;dsimp only at ht;subst ht;have c:=Cx.aB h;refine c.v10 λ_ _ c=>?_;refine c.v1 λ_ _ c=>?_;refine c.v4 λ_ _ c=>?_;refine c.nv (cs:=[k]) T (zY Z) λ_ _ c=>?_;replace c:=c.n4;refine c.v8 λ_ _ c=>?_;refine c.rc 1 ?_;refine c.rl 2 ?_;refine⟨_,_,_,rfl,kQ,hN _ _ (B.up X c.gr) λE M _ dd J=>?_⟩;have c:=c.aF dd;replace c:=c.n6;refine vx rfl<|vx rfl<|vx (v:=.bool true) (rfl)<|c.v8 λ_ _ c=>?_;refine c.w1 1 λ_ c=>?_;refine c.w8 6 λ_ c=>?_;refine bU<|c.rc 1 ?_;refine py J bY λ_ g=>?_;have c:=c.more g;refine vx rfl<|vx rfl<|c.rc 3 ?_;refine c.rl 0 ?_;refine G tt a rfl M _ _ ⟨B.up X c.gr,c.get (i:=5) rfl⟩ λv3 N _ d3 dO=>?_;have c:=c.aF d3;replace c:=c.n8;refine c.t8 4 λ_ c=>?_;exact hR v3 [aD M,aD N] _ (Cx.pack (L:=[]) (c.pick [5,7])) (yF.le Bs.Ay dO)
 | false=>
  have e1:=H hs a rfl;subst e1;have c:=Cx.aB h;refine c.v10 λ_ _ c=>?_;refine c.v1 λq _ c=>?_;refine c.v4 λ_ _ c=>?_;refine c.nv (cs:=[k]) T (zY Z) λu _ c=>?_;replace c:=c.n4;refine c.v8 λ_ _ c=>?_;refine c.rc 1 ?_;refine c.rl 2 ?_;refine⟨_,_,_,rfl,kQ,hN _ _ (B.up X c.gr) λE M _ dd J=>?_⟩;have c:=c.aF dd;replace c:=c.n6;refine vx rfl<|vx rfl<|vx (v:=.bool false) (rfl)<|c.v8 λ_ _ c=>?_;refine c.w1 1 λ_ c=>?_;refine c.w8 6 λ_ c=>?_;refine aN<|c.rl 0 ?_;refine c.rl 6 ?_;refine vx rfl<|EA (x:=⟨t,seq,du,e,nx,ov,ok⟩) (a:=a) hn rfl λU V _ d=>?_;have c:=c.aF d;replace c:=c.n9;refine c.t8 4 λ_ c=>?_;have c:=Cx.pack (L:=[]) (c.pick [7,8,1,3,5]);refine hR _ [rV U [o8 259 q u],rV V (Ax ⟨t,seq,du,e,nx,ov,ok⟩),rV q [.iface 376 E],rV u [k],aD M] _ c (aS hs _ _ ?_);have A:=aT.le (Bs.aJ B [rV U [o8 259 q u],rV V (Ax ⟨t,seq,du,e,nx,ov,ok⟩),rV q [.iface 376 E],rV u [k],aD M]);exact⟨⟨t,seq,du,e,o8 247 U V,ov,ok⟩,U,V,⟨t,seq,du,e,nx,ov,ok⟩,_,rfl,⟨A.t,A.seq,A.du,A.e,rfl,A.ov,A.ok⟩,rfl,Fr.of (i:=0) rfl,Fr.of (i:=1) rfl,⟨A.t,A.seq,A.du,A.e,A.nx,A.ov,A.ok⟩,hp _ _ _ (Bs.aJ _ _) ⟨q,u,E,rfl,Fr.of (i:=2) rfl,vj.le (Bs.iB (i:=4) rfl) J,Fr.of (i:=3) rfl⟩⟩
def tQ (G:B.p h) (Q:wQ B s x) (T:k.oneCell'=true) {hs:List Hs} {q:Value} (U:KM B hs q k) {ho:List Hs × Ac × Bool} (V:∀v,vj B hs v->Ij B v g ho) (E:Bx ho) {p:List Hs->SP}
  (X:∀B' q hs,B.le B'->KM B' hs q k->NH B' {s with ph:=p hs} q (p hs)) (H:∀hs B' v,MQ B' {s with ph:=p hs} v->yF B' v {s with ph:=p hs})
  (u:∀t a,ho=([t],a,true)->∀M h1 K,(B.and M).p h1->qW h1 (B.and M) out K->Cw S.C S.Y I.mt k [kM x,.int .i64 t.aO] h1 K) (A:∀hs a,ho=(hs,a,false)->out=({s with ph:=p hs},a,false))
  (Z:qW h B out R):Cw S.C S.Y I.mt q [kM x,eI g] h R:=by
 obtain⟨ri,rt,J,rfl,f1,f2,f3⟩:=U;refine .inl (.inl ⟨259,#[],#[bE ri,bE rt],rfl,sj.2 ?_⟩);obtain⟨t,seq,du,e,nx,ov,ok⟩:=x;have N:=Q;obtain⟨h1,h2,h3,h4,hn,h6,h7⟩:=Q;dsimp only at hn;obtain⟨⟨gv,gq,gr⟩,gk⟩:=g;have c:=Cx.aB h;refine c.v10 λ_ _ c=>?_;refine c.v4 λ_ _ c=>?_;refine c.v8 λ_ _ c=>?_;refine c.rl 0 ?_;refine vx (f1.lc (B.up G c.gr) (o:=0) rfl)<|c.rl 1 ?_;refine vx (f3.lc (B.up G c.gr) (o:=0) rfl)<|dT.2 (pB (x:=⟨t,seq,du,e,nx,ov,ok⟩) (g:=⟨⟨gv,gq,gr⟩,gk⟩) (B.up G c.gr) N T (V J f2) E X H u A λJ M _ d O=>?_);have c:=c.aF d;replace c:=c.n4;refine c.t8 2 λ_ c=>?_;exact Z J M _ (c.pick [3]) O
end
def TP (r:Nat):PG 3 3 (bE r) none none none=some (.slice (some ⟨r,0,none⟩) 3 3):=by rfl
def Cx.arr {r i:Nat} {a b d:W3} (c:Cx F0 h0 h L) (hi:L[i]?=some (rV r (cW a++cW b++cW d))):Sl EW h (.slice (some ⟨r,0,none⟩) 3 3) [a,b,d]:=by
 obtain⟨_,v⟩:=c.rv hi;refine⟨some ⟨r,0,none⟩,3,rfl,Nat.le_refl _,(λe=>by cases e),λj x A=>⟨r,0,rfl,λq u hu=>?_⟩⟩;have key:(cW a++cW b++cW d)[j*3+q]?=some u:=by
  match j,A with
  | 0,A=>
   cases A;match q,hu with
   | 0,hu=>exact hu
   | 1,hu=>exact hu
   | 2,hu=>exact hu
   | q+3,hu=>cases hu
  | 1,A=>
   cases A;match q,hu with
   | 0,hu=>exact hu
   | 1,hu=>exact hu
   | 2,hu=>exact hu
   | q+3,hu=>cases hu
  | 2,A=>
   cases A;match q,hu with
   | 0,hu=>exact hu
   | 1,hu=>exact hu
   | 2,hu=>exact hu
   | q+3,hu=>cases hu
  | j+3,A=>cases A
 have:=v.row (j*3+q) u key;show cl h r (0+j*3+q)=some u;rw[Nat.zero_add] at this⊢;exact this
def xI:∀(l:List W3) (w:W3) (p:Int),eZ (l++[w]) p=eZ l p++[⟨3,p+l.length,W0,w⟩]
 | [],w,p=>by show [_]=[_]; simp
 | x::l,w,p=>by
  rw[List.cons_append,eZ,xI l w,eZ,List.cons_append];congr 3;simp only[List.length_cons];congr 1;omega
def DR (a:Int) (n:Nat):dP a (n+1)=dP a n++(if n=0\/(a+1+n) % 8=0 then [a+1+(n:Int)] else []):=by
 unfold dP;rw[List.range_succ,List.map_append,List.filter_append];congr 1;simp only[List.map_cons,List.map_nil];by_cases h:n=0\/(a+1+n) % 8=0
 ·rw[if_pos h,List.filter_cons_of_pos]
  ·rfl
  ·rw[decide_eq_true_eq]; omega
 ·rw[if_neg h,List.filter_cons_of_neg]
  ·rfl
  ·rw[decide_eq_true_eq]; omega
def sf:∀(l:List W3) (p:Int),(eZ l p).length=l.length
 | [],p=>rfl
 | _::l,p=>by rw[eZ,List.length_cons,sf l,List.length_cons]
def GH (a:Int) (n:Nat):(dP a n).length<=n:=by
 unfold dP;refine Nat.le_trans (List.length_filter_le _ _) ?_;rw[List.length_map,List.length_range];exact Nat.le_refl _
def BT (d:Bool) (l:List Int):(j6 d l).length<=l.length+1:=by
 unfold j6;split
 ·rw[List.length_append,List.length_map,List.length_singleton]; exact Nat.le_refl _
 ·exact Nat.zero_le _
section
variable {x:Sc} {n k:Value} {a:Ac} {z:Int} {g:cP} {es:List Et} {s:Sw} {b:Bool} {out:SR}
def Nb (u:wQ B s x) {aO:Int} (A:qW h B (Fq s (decide (aO=1))) R):oK.1 (kM x) (.int .i64 aO) h R:=by
 obtain⟨t,seq,du,e,nx,ov,ok⟩:=x;obtain⟨h1,h2,E,G,q,H,J⟩:=u;dsimp only at q;have c:=Cx.aB h;refine c.v10 λ_ _ c=>?_;refine c.v8 λ_ _ c=>?_;refine c.rl 0 ?_;refine vx bW<|yE (x:=⟨t,seq,du,e,nx,ov,ok⟩) q λ_ g=>?_;have c:=c.more g;refine c.t8 1 λ_ c=>?_;exact(A _).nil ⟨⟨t,seq,du,e,.nilFunc,true,decide (aO=1)⟩,rfl,rfl,rfl,rfl⟩ c.gr
def Qp (Q:B.p h) (T:On B Zs) (J:wQ B s x) (ht:1<=s.t/\s.t<=3) (hq:1<=s.seq/\s.seq<=16777215) (V:qW h B (Qt s) R):qD.1 (kM x) h R:=by
 obtain⟨t,seq,du,e,nx,ov,ok⟩:=x;have K:=J;obtain⟨h1,h2,U,h4,X,h6,h7⟩:=J;dsimp only at X h1 h2 U;subst h1 h2 U;have u:Fw s.t s.seq=true:=decide_eq_true (by omega);have A:bT s.t s.seq / 16777216=s.t/\bT s.t s.seq % 16777216=s.seq:=by unfold bT; omega
 have q:aZ (bT s.t s.seq)=s.t:=by unfold aZ; rw[A.1,A.2,if_pos u]
 have E:0<=aC s.t:=by
  unfold aC eN;rw[if_neg (by omega),if_pos (by omega)];omega
 have N:0<=bT s.t s.seq/\bT s.t s.seq<4294967296:=by unfold bT; omega
 have G:∀B',B.le B'->Ij B' (j7 (bK (Hs.new (bT s.t s.seq) s.cH) (none,0,0) (none,0,0) .nilIface)) kq ([{Hs.new (bT s.t s.seq) s.cH with nx:=.first}],⟨5,aC s.t,W0,W0⟩,false):=λB' l=>by
  have:=fX (B:=B') (g:=kq) (hs:=[Hs.new (bT s.t s.seq) s.cH]) (v:=j7 (bK (Hs.new (bT s.t s.seq) s.cH) (none,0,0) (none,0,0) .nilIface)) (T.le l) J7 ⟨_,_,rfl,λ_ _=>Sl.nil,λ_ _=>Sl.nil⟩ ⟨rfl,Nat.zero_le _,by show 0<=aC (aZ (bT s.t s.seq)); rw[q]; exact E,λx J=>(List.not_mem_nil J).elim,J7,trivial⟩ λs hs Z=>by
   obtain rfl:=List.mem_singleton.1 hs;cases Z
  rw[ry,q] at this;exact this
 have c:=Cx.aB h;refine c.v10 λ_ _ c=>?_;refine c.v8 λ_ _ c=>?_;refine aE<|c.rc 0 ?_;refine aE<|c.rc 0 ?_;refine zX λ_ g=>?_;have c:=c.more g;rw[if_pos u,if_pos u];refine vx rfl<|vx rfl<|aE<|vx (c.vp (i:=0) (ds:=[_,_,_]) rfl rfl rfl)<|aE<|c.rc 0 ?_;refine jK (T _ (B.up Q c.gr)) N λ_ g=>?_;have c:=c.more g;rw[if_pos ⟨by rw[q]; omega,by rw[q]; exact E⟩];refine vx rfl<|vx rfl<|vx (v:=.bool false) rfl<|aN<|c.rl 0 ?_;refine vx (aG (ds:=[_,_,_,_]) rfl)<|dT.2 (pB (s:=s) (x:=⟨s.t,s.seq,s.cH,e,nx,ov,ok⟩) (g:=kq) (p:=λhs=>.own hs) (B.up Q c.gr) K rfl (G B (Bs.le_refl B)) (λx=>by cases x) (λ_ _ _ _ H=>H) (λ_ _ _ H=>H) (λ_ _ e=>by cases e) (λhs a e=>by cases e; rfl) λv' M _ d O=>?_);have c:=c.aF d;replace c:=c.n3;refine c.t8 1 λ_ c=>?_;exact V v' M _ (c.pick [2]) O
def E5 (s:Sw) (l:List Int):gM s l=j6 s.cH l:=rfl
def CX (b0:B.p h) (hZ:On B Zs) (hx:wQ B s x) (ht:1<=s.t/\s.t<=3) (hq:1<=s.seq/\s.seq<=16777215) (hl:s.es.length<=300) (hR:qW h B (qB s) R):jN.1 (kM x) h R:=by
 obtain⟨t,seq,du,e,nx,ov,ok⟩:=x;have iF:=hx;obtain⟨h1,h2,h3,h4,N,h6,h7⟩:=hx;dsimp only at N h1 h2 h3 h4 h6 h7;subst h1 h2 h3 h6 h7;have iN:eN s.t=104*s.t - 40:=by unfold eN; rw[if_pos (by omega)]
 have hf:(aY s.es).length=1+3*s.es.length:=by
  have:(s.es.flatMap λe=>[yy e,yD e,yG e]).length=3*s.es.length:=by
   induction s.es with
   | nil=>rfl
   | cons e r ih=>rw[List.flatMap_cons,List.length_append,ih]; show 3+_=3*(_+1); omega
  rw[aY,List.length_cons,this]; omega
 generalize hA:eN s.t=A at iN;have k1:=BT s.cH [A];rw[List.length_singleton] at k1;have c:=Cx.aB h;refine c.v10 λU _ c=>?_;refine c.v8 λV _ c=>?_;refine c.rl 0 ?_;refine Hx (x:=⟨s.t,s.seq,s.cH,e,nx,false,false⟩) (hZ _ (B.up b0 c.gr)) N ⟨by show -1000<=(s.t:Int); omega,by show(s.t:Int)<=1000; omega⟩ λ_ g=>?_;have c:=c.more g;rw[show eN (Sc.t ⟨s.t,s.seq,s.cH,e,nx,false,false⟩)=A from hA];refine m3.at (λv h'=>Cx (λ_=>False) h h' [rV U (Ax ⟨s.t,s.seq,s.cH,e,nx,false,false⟩),rV V (RT jG),bJ wu v (⟨4,A,W0,⟨3,s.seq,0⟩⟩::j6 s.cH [A])]) ?_ ?_
 ·refine aE<|c.rc 0 ?_;refine c.rl 0 ?_;refine⟨?_,?_⟩
  ·refine gH (seq:=s.seq) ⟨by omega,by omega⟩ λ_ g=>?_;have c:=c.more g;refine c.al 0 ?_;refine vx (aG (ds:=[_,_,_,_,_,_,_,_]) rfl)<|⟨?_,?_⟩
   ·refine c.dN wu ⟨4,A,W0,⟨3,s.seq,0⟩⟩ rfl rfl λO _ c=>?_;replace c:=c.n3;refine c.al 0 ?_;refine c.dN mf A rfl rfl λaT _ c=>?_;replace c:=c.n4;refine c.al 0 ?_;refine m7 (x:=⟨s.t,s.seq,s.cH,e,nx,false,false⟩) (ls:=[A]) N (c.sl (i:=3) rfl).sl (by simp) λkp _ d=>?_;have c:=c.aF d;replace c:=c.n5;refine c.ap 2 rfl (c.sl (i:=4) rfl).sl rfl rfl (by simp only[List.length_singleton]; omega) (by simp only[List.length_singleton]; omega) λQ _ c=>?_;replace c:=c.n5;exact c.pick [0,1,2]
   ·refine c.dN mf A rfl rfl λaT _ c=>?_;replace c:=c.n3;refine c.al 0 ?_;refine⟨?_,?_⟩
    ·refine c.dN wu ⟨4,A,W0,⟨3,s.seq,0⟩⟩ rfl rfl λO _ c=>?_;replace c:=c.n4;refine c.al 0 ?_;refine m7 (x:=⟨s.t,s.seq,s.cH,e,nx,false,false⟩) (ls:=[A]) N (c.sl (i:=2) rfl).sl (by simp) λkp _ d=>?_;have c:=c.aF d;replace c:=c.n5;refine c.ap 3 rfl (c.sl (i:=4) rfl).sl rfl rfl (by simp only[List.length_singleton]; omega) (by simp only[List.length_singleton]; omega) λQ _ c=>?_;replace c:=c.n5;exact c.pick [0,1,3]
    ·refine m7 (x:=⟨s.t,s.seq,s.cH,e,nx,false,false⟩) (ls:=[A]) N (c.sl (i:=2) rfl).sl (by simp) λkp _ d=>?_;have c:=c.aF d;replace c:=c.n4;refine c.dN wu ⟨4,A,W0,⟨3,s.seq,0⟩⟩ rfl rfl λO _ c=>?_;replace c:=c.n5;refine c.ap 4 rfl (c.sl (i:=3) rfl).sl rfl rfl (by simp only[List.length_singleton]; omega) (by simp only[List.length_singleton]; omega) λQ _ c=>?_;replace c:=c.n5;exact c.pick [0,1,4]
  ·refine c.dN mf A rfl rfl λaT _ c=>?_;replace c:=c.n3;refine c.al 0 ?_;refine c.ac 0 ?_;refine gH (seq:=s.seq) ⟨by omega,by omega⟩ λ_ g=>?_;have c:=c.more g;refine c.al 0 ?_;refine vx (aG (ds:=[_,_,_,_,_,_,_,_]) rfl)<|⟨?_,?_⟩
   ·refine c.dN wu ⟨4,A,W0,⟨3,s.seq,0⟩⟩ rfl rfl λO _ c=>?_;replace c:=c.n4;refine c.al 0 ?_;refine m7 (x:=⟨s.t,s.seq,s.cH,e,nx,false,false⟩) (ls:=[A]) N (c.sl (i:=2) rfl).sl (by simp) λkp _ d=>?_;have c:=c.aF d;replace c:=c.n5;refine c.ap 3 rfl (c.sl (i:=4) rfl).sl rfl rfl (by simp only[List.length_singleton]; omega) (by simp only[List.length_singleton]; omega) λQ _ c=>?_;replace c:=c.n5;exact c.pick [0,1,3]
   ·refine m7 (x:=⟨s.t,s.seq,s.cH,e,nx,false,false⟩) (ls:=[A]) N (c.sl (i:=2) rfl).sl (by simp) λkp _ d=>?_;have c:=c.aF d;replace c:=c.n4;refine c.dN wu ⟨4,A,W0,⟨3,s.seq,0⟩⟩ rfl rfl λO _ c=>?_;replace c:=c.n5;refine c.ap 4 rfl (c.sl (i:=3) rfl).sl rfl rfl (by simp only[List.length_singleton]; omega) (by simp only[List.length_singleton]; omega) λQ _ c=>?_;replace c:=c.n5;exact c.pick [0,1,4]
 ·rintro X _ c;replace c:=c.n3;refine aE<|c.rc 0 ?_;refine vx (h4 _ (B.up b0 c.gr)).ln<|vx (aG (ds:=[_,_,_]) rfl)<|c.dN EW ⟨s.es.length,0,0⟩ rfl rfl λv32 _ c=>?_;replace c:=c.n4;refine aE<|c.rc 0 ?_;refine vx (h4 _ (B.up b0 c.gr)).ln<|wA.by (λ(i:Nat) u v h'=>v=.int .i64 i/\i<=s.es.length/\Cx (λ_=>False) h h' [rV U (Ax ⟨s.t,s.seq,s.cH,e,nx,false,false⟩),rV V (RT jG),bJ wu X (⟨4,A,W0,⟨3,s.seq,0⟩⟩::j6 s.cH [A]),bJ EW u (aY (s.es.take i) |>.tail.cons ⟨s.es.length,0,0⟩)]) (λi=>s.es.length - i) 0 ⟨rfl,Nat.zero_le _,c⟩ ?_;rintro i u _ h6 ⟨rfl,hi,c⟩ again q;refine vx aV<|dW (λiS=>?_) λiS=>?_
  ·have J:=List.getElem?_eq_getElem (l:=s.es) (i:=i) (by omega);have T:s.es.take (i+1)=s.es.take i++[s.es[i]'(by omega)]:=by rw[List.take_add_one,J]; rfl
   generalize s.es[i]'(by omega)=et at J T;obtain⟨Z,⟨ev,eq,er⟩,ew,eb⟩:=et;refine(h4 _ (B.up b0 c.gr)).whole rfl J rfl ?_;refine c.v6 λ_ _ c=>?_;refine c.w6 4 λ_ c=>?_;refine c.rl 4 ?_;refine Cj (e:=⟨Z,⟨ev,eq,er⟩,ew,eb⟩) λ_ g=>?_;have c:=c.more g;refine c.v9 λ_ _ c=>?_;refine c.w9 5 λ_ c=>?_;refine vx (TP _) ?_;have oF:(s.es.take i).length<=300:=by rw[List.length_take]; omega
   have bY:((aY (s.es.take i)).tail.cons (⟨s.es.length,0,0⟩:W3)).length<=1000:=by
    have:∀l:List Et,(l.flatMap λe=>[yy e,yD e,yG e]).length=3*l.length:=λl=>by
     induction l with
     | nil=>rfl
     | cons e r ih=>rw[List.flatMap_cons,List.length_append,ih]; show 3+_=3*(_+1); omega
    show((s.es.take i).flatMap λe=>[yy e,yD e,yG e]).length+1<=1000;rw[this]; omega
   refine c.ap 3 rfl (c.arr (i:=5) (a:=yy ⟨Z,⟨ev,eq,er⟩,ew,eb⟩) (b:=yD ⟨Z,⟨ev,eq,er⟩,ew,eb⟩) (d:=yG ⟨Z,⟨ev,eq,er⟩,ew,eb⟩) rfl) rfl rfl (by simp only[List.length_cons,List.length_nil] at bY⊢; omega) (by simp only[List.length_cons,List.length_nil] at bY⊢; omega) λv44 _ c=>?_;replace c:=c.n6;refine vx (inc (by omega))<|q (i+1) _ _ _ ⟨rfl,by omega,?_⟩ (by omega);have c:=c.pick [0,1,2,3];have ee:(aY (s.es.take (i+1))).tail.cons (⟨s.es.length,0,0⟩:W3)=(aY (s.es.take i)).tail.cons ⟨s.es.length,0,0⟩++[yy ⟨Z,⟨ev,eq,er⟩,ew,eb⟩,yD ⟨Z,⟨ev,eq,er⟩,ew,eb⟩,yG ⟨Z,⟨ev,eq,er⟩,ew,eb⟩]:=by
    show⟨s.es.length,0,0⟩::(s.es.take (i+1)).flatMap (λe=>[yy e,yD e,yG e])=⟨s.es.length,0,0⟩::(s.es.take i).flatMap (λe=>[yy e,yD e,yG e])++_;rw[T,List.flatMap_append];rfl
   rw[ee];exact c
  ·obtain rfl:i=s.es.length:=by omega
   rw[List.take_length] at c;have oR:(aY s.es).tail.cons (⟨s.es.length,0,0⟩:W3)=aY s.es:=rfl;rw[oR] at c;generalize rW:aY s.es=f at c hf;refine vx (c.sl (i:=3) rfl).sl.ln<|Km.by (λ(i:Nat) ua l v h'=>v=.int .i64 i/\i<=f.length/\Cx (λ_=>False) h h' [rV U (Ax ⟨s.t,s.seq,s.cH,e,nx,false,false⟩),rV V (RT jG),bJ wu ua ((⟨4,A,W0,⟨3,s.seq,0⟩⟩::j6 s.cH [A])++eZ (f.take i) (A+1)),bJ EW u f,bJ mf l (dP A i)]) (λi=>f.length - i) 0 ⟨rfl,Nat.zero_le _,by rw[List.take_zero]; show Cx _ _ _ [_,_,bJ wu _ ((⟨4,A,W0,⟨3,s.seq,0⟩⟩::j6 s.cH [A])++[]),_,_]; rw[List.append_nil]; exact c.nil mf⟩ ?_;rintro i mO lns _ h13 ⟨rfl,hi,c⟩ again q;have hll:=GH A i;replace c:=c.n5;refine vx aV<|dW (λtO=>?_) λtO=>?_
   ·refine .here ?_;have J:=List.getElem?_eq_getElem (l:=f) (i:=i) (by omega);have T:f.take (i+1)=f.take i++[f[i]'(by omega)]:=by rw[List.take_add_one,J]; rfl
    have dO:eZ (f.take (i+1)) (A+1)=eZ (f.take i) (A+1)++[⟨3,A+1+i,W0,f[i]'(by omega)⟩]:=by
     rw[T,xI,List.length_take,Nat.min_eq_left hi]
    have G:=DR A i;generalize f[i]'(by omega)=wd at J dO;obtain⟨wv,wq,wr⟩:=wd;refine(c.sl (i:=3) rfl).sl.whole rfl J rfl ?_;refine c.v3 λ_ _ c=>?_;refine c.w3 5 λ_ c=>?_;refine vx (iQ (a:=A) (b:=1) ⟨by omega,by omega⟩)<|vx (iQ (a:=A+1) (b:=i) ⟨by omega,by omega⟩)<|c.rl 5 ?_;refine vx (aG (ds:=[_,_,_,_,_,_,_,_]) rfl)<|c.dN wu ⟨3,A+1+i,W0,⟨wv,wq,wr⟩⟩ rfl rfl λv61 _ c=>?_;replace c:=c.n7;have eQ:=sf (f.take i) (A+1);rw[List.length_take] at eQ;refine c.ap 2 rfl (c.sl (i:=6) rfl).sl rfl rfl (by simp only[List.length_append,List.length_cons,List.length_nil]; omega) (by simp only[List.length_append,List.length_cons,List.length_nil]; omega) λv62 _ c=>?_;rw[List.append_assoc,<-dO] at c;replace c:=c.n7;refine .here<|vx bW<|dW (λK=>?_) λK=>?_
    ·refine En.br (λE=>?_) λE=>?_
     ·refine c.dN mf (A+1+i) rfl rfl λuS _ c=>?_;replace c:=c.n8;refine c.ap 4 rfl (c.sl (i:=7) rfl).sl rfl rfl (by simp only[List.length_cons,List.length_nil]; omega) (by simp only[List.length_cons,List.length_nil]; omega) λv73 _ c=>?_;rw[show dP A i++[A+1+(i:Int)]=dP A (i+1) from by rw[G,if_pos (by first | exact .inl (by omega) | exact .inr (of_decide_eq_true E))]] at c;replace c:=c.n8;refine vx (inc (by omega)) ?_;first | exact absurd E (by decide) | exact q (i+1) _ _ _ _ ⟨rfl,by omega,c.pick [0,1,2,3,4]⟩ (by omega) | (have c:=c.pick [0,1,2,3,4]; rw[show dP A i=dP A (i+1) from by rw[G,if_neg (λx=>x.elim (λy=>K (by omega)) (λy=>of_decide_eq_false E y)),List.append_nil]] at c; exact q (i+1) _ _ _ _ ⟨rfl,by omega,c⟩ (by omega))
     ·refine vx (inc (by omega)) ?_;first | exact absurd E (by decide) | exact q (i+1) _ _ _ _ ⟨rfl,by omega,c.pick [0,1,2,3,4]⟩ (by omega) | (have c:=c.pick [0,1,2,3,4]; rw[show dP A i=dP A (i+1) from by rw[G,if_neg (λx=>x.elim (λy=>K (by omega)) (λy=>of_decide_eq_false E y)),List.append_nil]] at c; exact q (i+1) _ _ _ _ ⟨rfl,by omega,c⟩ (by omega))
    ·refine vx (AQ (by omega) (by decide))<|vx bW<|En.br (λE=>?_) λE=>?_
     ·refine c.dN mf (A+1+i) rfl rfl λuS _ c=>?_;replace c:=c.n8;refine c.ap 4 rfl (c.sl (i:=7) rfl).sl rfl rfl (by simp only[List.length_cons,List.length_nil]; omega) (by simp only[List.length_cons,List.length_nil]; omega) λv73 _ c=>?_;rw[show dP A i++[A+1+(i:Int)]=dP A (i+1) from by rw[G,if_pos (by first | exact .inl (by omega) | exact .inr (of_decide_eq_true E))]] at c;replace c:=c.n8;refine vx (inc (by omega)) ?_;first | exact absurd E (by decide) | exact q (i+1) _ _ _ _ ⟨rfl,by omega,c.pick [0,1,2,3,4]⟩ (by omega) | (have c:=c.pick [0,1,2,3,4]; rw[show dP A i=dP A (i+1) from by rw[G,if_neg (λx=>x.elim (λy=>K (by omega)) (λy=>of_decide_eq_false E y)),List.append_nil]] at c; exact q (i+1) _ _ _ _ ⟨rfl,by omega,c⟩ (by omega))
     ·refine vx (inc (by omega)) ?_;first | exact absurd E (by decide) | exact q (i+1) _ _ _ _ ⟨rfl,by omega,c.pick [0,1,2,3,4]⟩ (by omega) | (have c:=c.pick [0,1,2,3,4]; rw[show dP A i=dP A (i+1) from by rw[G,if_neg (λx=>x.elim (λy=>K (by omega)) (λy=>of_decide_eq_false E y)),List.append_nil]] at c; exact q (i+1) _ _ _ _ ⟨rfl,by omega,c⟩ (by omega))
   ·refine c.rl 0 ?_;obtain rfl:i=f.length:=by omega
    rw[List.take_length] at c;have eQ:=sf f (A+1);have hk2:=BT s.cH (dP A f.length);refine m7 (x:=⟨s.t,s.seq,s.cH,e,nx,false,false⟩) (ls:=dP A f.length) N (c.sl (i:=4) rfl).sl (by omega) λkp2 _ d=>?_;have c:=c.aF d;replace c:=c.n6;refine c.ap 2 rfl (c.sl (i:=5) rfl).sl rfl rfl (by simp only[List.length_append,List.length_cons]; omega) (by simp only[List.length_append,List.length_cons]; omega) λv79 _ c=>?_;replace c:=c.n6;refine aE<|c.rc 0 ?_;refine gH (seq:=s.seq) ⟨by omega,by omega⟩ λ_ g=>?_;have c:=c.more g;refine vx (aG (ds:=[_,_,_,_,_,_,_,_]) rfl)<|c.dN wu ⟨4,A,W0,⟨0,s.seq,0⟩⟩ rfl rfl λv86 _ c=>?_;replace c:=c.n7;refine c.ap 2 rfl (c.sl (i:=6) rfl).sl rfl rfl (by simp only[List.length_append,List.length_cons,List.length_nil]; omega) (by simp only[List.length_append,List.length_cons,List.length_nil]; omega) λv87 _ c=>?_;replace c:=c.n7;refine c.rl 0 ?_;refine c.dN mf A rfl rfl λv91 _ c=>?_;replace c:=c.n8;refine m7 (x:=⟨s.t,s.seq,s.cH,e,nx,false,false⟩) (ls:=[A]) N (c.sl (i:=7) rfl).sl (by simp) λkp3 _ d=>?_;have c:=c.aF d;replace c:=c.n9;refine c.ap 2 rfl (c.sl (i:=8) rfl).sl rfl rfl (by simp only[List.length_append,List.length_cons,List.length_nil]; omega) (by simp only[List.length_append,List.length_cons,List.length_nil]; omega) λv93 _ c=>?_;obtain⟨u9,rfl⟩:=(c.sl (i:=2) rfl).ol;replace c:=c.n9;refine c.rl 0 ?_;have aS:((⟨4,A,W0,⟨3,s.seq,0⟩⟩::j6 s.cH [A])++eZ f (A+1)++j6 s.cH (dP A f.length)++[⟨4,A,W0,⟨0,s.seq,0⟩⟩]++j6 s.cH [A]:List Ac)=eJ s:=by
     unfold eJ xG;rw[hA,rW];rfl
    have c:=Cx.pack (L:=[_,_]) (c.pick [0,1,2]);rw[aS] at c;have hb1:=c.get (i:=2) rfl;refine gY.2 (C4 (B:=B.and [bJ wu (aK u9) (eJ s)]) (x:=⟨s.t,s.seq,s.cH,e,nx,false,false⟩) (s:=s) (p:=λl=>.mO l) (out:=qB s) ⟨B.up b0 c.gr,hb1⟩ (iF.le (Bs.aJ _ _)) rfl (On.sl (i:=0) rfl) (λ_ _ _ H=>H) (λ_ _ _ H=>H) (λe=>by unfold eJ at e; cases e) (λa r e=>by unfold qB; rw[e]; rfl) λv' M _ d ok2=>?_);have c:=c.aF d;replace c:=c.n4;refine c.t8 1 λ_ c=>?_;exact hR v' [aD [bJ wu (aK u9) (eJ s)],aD M] _ (Cx.pack (L:=[]) (c.pick [2,3])) (yF.le Bs.Ay ok2)
end
section
variable {x:Sc} {n k:Value} {a:Ac} {z:Int} {g:cP} {es:List Et} {s:Sw} {b:Bool} {out:SR}
def Jm (E:B.p h) (G:On B Zs) (A:wQ B s x) (H:1<=s.t/\s.t<=3) (J:1<=s.seq/\s.seq<=16777215) (K:s.es.length<=300) {v:Value} (N:qW h B (qB s) R):m5.1 (kM x) v h R:=by
 obtain⟨t,seq,du,e,nx,ov,ok⟩:=x;have q:=A;obtain⟨h1,h2,T,U,O,V,X⟩:=A;dsimp only at O;have c:=Cx.aB h;refine c.v10 λ_ _ c=>?_;refine c.v8 λ_ _ c=>?_;refine c.rl 0 ?_;refine jN.2 (CX (x:=⟨t,seq,du,e,nx,ov,ok⟩) (B.up E c.gr) G q H J K λQ M _ d u=>?_);have c:=c.aF d;replace c:=c.n3;refine c.t8 1 λ_ c=>?_;exact N Q M _ (c.pick [2]) u
def KW (Q:B.p h) (U:On B Zs) (hx:wQ B s x) (ht:1<=s.t/\s.t<=3) (hq:1<=s.seq/\s.seq<=16777215) (hl:s.es.length<=300) (hg:Ww g.w) (E:qW h B (pq s g.w) R):oJ.1 (kM x) (eI g) h R:=by
 obtain⟨t,seq,du,e,nx,ov,ok⟩:=x;have G:=hx;obtain⟨h1,h2,h3,h4,hn,h6,h7⟩:=hx;dsimp only at hn h1 h2 h3 h4 h6 h7;obtain⟨⟨gv,u,gr⟩,gk⟩:=g;obtain⟨aT,bY,dO⟩:=hg;dsimp only at aT bY dO;subst h1 h2 h3;unfold pq at E;dsimp only at E;have K:J2 .i64 (.int .u32 u)=some (.int .i64 u):=by
  show some (Value.int .i64 (IntKind.i64.wrap u))=_;rw[zb ⟨by omega,by omega⟩]
 by_cases T:s.seq<=u
 ·rw[if_pos T] at E;have c:=Cx.aB h;refine c.v10 λ_ _ c=>?_;refine c.v4 λ_ _ c=>?_;refine c.v8 λ_ _ c=>?_;refine aE<|vx (c.vp (i:=1) (ds:=[_,_,_]) rfl rfl rfl)<|c.v3 λ_ _ c=>?_;refine c.w3 3 λ_ c=>?_;refine aE<|c.rc 3 ?_;refine aE<|c.rc 0 ?_;refine vx (O1 (a:=s.seq) ⟨by omega,by omega⟩)<|vx (ny T)<|bU<|c.rl 0 ?_;refine yE (x:=⟨s.t,s.seq,s.cH,e,nx,ov,ok⟩) hn λ_ g=>?_;have c:=c.more g;refine c.t8 2 λ_ c=>?_;exact(E _).nil ⟨⟨s.t,s.seq,s.cH,e,.nilFunc,true,false⟩,rfl,rfl,rfl,rfl⟩ c.gr
 rw[if_neg T] at E;by_cases c2:Fw s.t u=true
 ·by_cases V:gv=0\/gv=1
  ·rw[if_neg (λx=>x.elim (λy=>by rw[c2] at y; cases y) λy=>y V)] at E;have iF:=of_decide_eq_true c2;have X:bT s.t u / 16777216=s.t/\bT s.t u % 16777216=u:=by unfold bT; omega
   have q:aZ (bT s.t u)=s.t:=by unfold aZ; rw[X.1,X.2,if_pos c2]
   have N:0<=aC s.t:=by
    unfold aC eN;rw[if_neg (by omega),if_pos (by omega)];omega
   have Z:0<=bT s.t u/\bT s.t u<4294967296:=by unfold bT; omega
   have J:∀B',B.le B'->Ij B' (j7 (bK (Hs.new (bT s.t u) s.cH) (none,0,0) (none,0,0) .nilIface)) kq ([{Hs.new (bT s.t u) s.cH with nx:=.first}],⟨5,aC s.t,W0,W0⟩,false):=λB' l=>by
    have:=fX (B:=B') (g:=kq) (hs:=[Hs.new (bT s.t u) s.cH]) (v:=j7 (bK (Hs.new (bT s.t u) s.cH) (none,0,0) (none,0,0) .nilIface)) (U.le l) J7 ⟨_,_,rfl,λ_ _=>Sl.nil,λ_ _=>Sl.nil⟩ ⟨rfl,Nat.zero_le _,by show 0<=aC (aZ (bT s.t u)); rw[q]; exact N,λx hx=>(List.not_mem_nil hx).elim,J7,trivial⟩ λs hs ha=>by
     obtain rfl:=List.mem_singleton.1 hs;cases ha
    rw[ry,q] at this;exact this
   have c:=Cx.aB h;refine c.v10 λ_ _ c=>?_;refine c.v4 λ_ _ c=>?_;refine c.v8 λ_ _ c=>?_;refine aE<|vx (c.vp (i:=1) (ds:=[_,_,_]) rfl rfl rfl)<|c.v3 λ_ _ c=>?_;refine c.w3 3 λ_ c=>?_;refine aE<|c.rc 3 ?_;refine aE<|c.rc 0 ?_;refine vx (O1 (a:=s.seq) ⟨by omega,by omega⟩)<|vx (iO T)<|aN<|aE<|c.rc 0 ?_;refine aE<|c.rc 3 ?_;refine vx K<|zX λ_ g=>?_;have c:=c.more g;rw[if_pos c2,if_pos c2];refine vx rfl<|vx rfl ?_;refine .here<|vx (v:=.bool false) rfl<|aN<|aE<|c.rc 3 ?_;refine vx dZ<|dW (λaS=>?_) λaS=>?_
   ·refine aE<|c.rc 3 ?_;refine vx (uQ (show gv=1 from V.resolve_left aS))<|aN<|aE<|vx (c.vp (i:=0) (ds:=[_,_,_]) rfl rfl rfl)<|aE<|c.rc 0 ?_;refine jK (U _ (B.up Q c.gr)) Z λ_ g=>?_;have c:=c.more g;rw[if_pos ⟨by rw[q]; omega,by rw[q]; exact N⟩];refine vx rfl<|vx rfl<|vx (v:=.bool false) rfl<|aN<|c.rl 0 ?_;refine vx (aG (ds:=[_,_,_,_]) rfl)<|dT.2 (pB (s:=s) (x:=⟨s.t,s.seq,s.cH,e,nx,ov,ok⟩) (g:=kq) (p:=λhs=>.last hs) (B.up Q c.gr) G rfl (J B (Bs.le_refl B)) (λx=>by cases x) (λ_ _ _ _ H=>H) (λ_ _ _ H=>H) (λ_ _ e=>by cases e) (λhs a e=>by cases e; rfl) λO M _ d A=>?_);have c:=c.aF d;replace c:=c.n5;refine c.t8 2 λ_ c=>?_;exact E O M _ (c.pick [4]) A
   ·refine aN<|aE<|vx (c.vp (i:=0) (ds:=[_,_,_]) rfl rfl rfl)<|aE<|c.rc 0 ?_;refine jK (U _ (B.up Q c.gr)) Z λ_ g=>?_;have c:=c.more g;rw[if_pos ⟨by rw[q]; omega,by rw[q]; exact N⟩];refine vx rfl<|vx rfl<|vx (v:=.bool false) rfl<|aN<|c.rl 0 ?_;refine vx (aG (ds:=[_,_,_,_]) rfl)<|dT.2 (pB (s:=s) (x:=⟨s.t,s.seq,s.cH,e,nx,ov,ok⟩) (g:=kq) (p:=λhs=>.last hs) (B.up Q c.gr) G rfl (J B (Bs.le_refl B)) (λx=>by cases x) (λ_ _ _ _ H=>H) (λ_ _ _ H=>H) (λ_ _ e=>by cases e) (λhs a e=>by cases e; rfl) λO M _ d A=>?_);have c:=c.aF d;replace c:=c.n5;refine c.t8 2 λ_ c=>?_;exact E O M _ (c.pick [4]) A
  ·rw[if_pos (.inr V)] at E;have c:=Cx.aB h;refine c.v10 λ_ _ c=>?_;refine c.v4 λ_ _ c=>?_;refine c.v8 λ_ _ c=>?_;refine aE<|vx (c.vp (i:=1) (ds:=[_,_,_]) rfl rfl rfl)<|c.v3 λ_ _ c=>?_;refine c.w3 3 λ_ c=>?_;refine aE<|c.rc 3 ?_;refine aE<|c.rc 0 ?_;refine vx (O1 (a:=s.seq) ⟨by omega,by omega⟩)<|vx (iO T)<|aN<|aE<|c.rc 0 ?_;refine aE<|c.rc 3 ?_;refine vx K<|zX λ_ g=>?_;have c:=c.more g;rw[if_pos c2,if_pos c2];refine vx rfl<|vx rfl ?_;refine .here<|vx (v:=.bool false) rfl<|aN<|aE<|c.rc 3 ?_;refine vx (zZ (λe=>V (.inl e)))<|bU<|aE<|c.rc 3 ?_;refine vx (zZ λe=>V (.inr e))<|bU<|c.rl 0 ?_;refine jN.2 (CX (x:=⟨s.t,s.seq,s.cH,e,nx,ov,ok⟩) (B.up Q c.gr) U G ht hq hl λO M _ d A=>?_);have c:=c.aF d;replace c:=c.n5;refine c.t8 2 λ_ c=>?_;exact E O M _ (c.pick [4]) A
 ·have eQ:Fw s.t u=false:=by simpa using c2
  rw[if_pos (.inl eQ)] at E;have c:=Cx.aB h;refine c.v10 λ_ _ c=>?_;refine c.v4 λ_ _ c=>?_;refine c.v8 λ_ _ c=>?_;refine aE<|vx (c.vp (i:=1) (ds:=[_,_,_]) rfl rfl rfl)<|c.v3 λ_ _ c=>?_;refine c.w3 3 λ_ c=>?_;refine aE<|c.rc 3 ?_;refine aE<|c.rc 0 ?_;refine vx (O1 (a:=s.seq) ⟨by omega,by omega⟩)<|vx (iO T)<|aN<|aE<|c.rc 0 ?_;refine aE<|c.rc 3 ?_;refine vx K<|zX λ_ g=>?_;have c:=c.more g;rw[if_neg c2,if_neg c2];refine vx rfl<|vx rfl ?_;refine .here<|vx (v:=.bool true) rfl<|bU<|bU<|c.rl 0 ?_;refine jN.2 (CX (x:=⟨s.t,s.seq,s.cH,e,nx,ov,ok⟩) (B.up Q c.gr) U G ht hq hl λO M _ d A=>?_);have c:=c.aF d;replace c:=c.n5;refine c.t8 2 λ_ c=>?_;exact E O M _ (c.pick [4]) A
def kf (E:wQ B s x) (u:∀h1 K,Gr h h1->qW h1 B out K->Cw S.C S.Y I.mt x.nx [eI g] h1 K) (G:qW h B out R):cM.1 (kM x) (eI g) h R:=by
 obtain⟨t,seq,du,e,nx,ov,ok⟩:=x;obtain⟨h1,h2,N,O,H,A,Q⟩:=E;dsimp only at H A u;subst A;obtain⟨⟨T,U,gr⟩,V⟩:=g;obtain⟨X,a,d⟩:=out;have c:=Cx.aB h;refine c.v10 λ_ _ c=>?_;refine c.v4 λ_ _ c=>?_;refine c.v8 λ_ _ c=>?_;refine aE<|c.rc 0 ?_;refine aN<|aE<|c.rc 0 ?_;refine c.rl 1 ?_;refine u _ _ c.gr λJ M _ d2 q=>?_;have c:=c.aF d2;replace c:=c.n4;refine c.t8 2 λ_ c=>?_;exact G J M _ (c.pick [3]) q
def sd (G:B.p h) {y:Sc} {q:Value} {u A:Nat} (f1:Fr B u [q]) (f2:Fr B A (Ax y)) (H:∀h1 K,Gr h h1->qW h1 B out K->Cw S.C S.Y I.mt q [kM y,eI g] h1 K) (J:qW h B out R):Cw S.C S.Y I.mt (o8 247 u A) [eI g] h R:=by
 refine .inl (.inl ⟨247,#[],#[bE u,bE A],rfl,xl.2 ?_⟩);obtain⟨⟨O,Q,gr⟩,T⟩:=g;obtain⟨U,a,d⟩:=out;have c:=Cx.aB h;refine c.v4 λ_ _ c=>?_;refine c.v8 λ_ _ c=>?_;refine vx (f1.lc (B.up G c.gr) (o:=0) rfl)<|vx (f2.ld (B.up G c.gr) rfl)<|c.rl 0 ?_;refine H _ _ c.gr λN M _ d2 E=>?_;have c:=c.aF d2;replace c:=c.n3;refine c.t8 1 λ_ c=>?_;exact J N M _ (c.pick [2]) E
def JE {v:Value} {ok:Bool} (hv:UA B s v (.over ok)) (u:∀h',Gr h h'->R (.tuple #[.bool ok,.bool true]) h'):j8.1 (.iface 327 v) h R:=by
 obtain⟨x,rfl,h1,h2,A⟩:=hv;obtain⟨t,seq,du,e,nx,ov,q⟩:=x;dsimp only at h1 h2 A;subst h1 h2;have c:=Cx.aB h;refine vx (v:=.tuple #[kM ⟨t,seq,du,e,nx,true,q⟩,.bool true]) (by simp[Az])<|vx rfl<|vx (v:=.bool true) (rfl)<|c.v10 λ_ _ c=>?_;refine c.Ri 0 λ_ c=>?_;refine .here<|bU<|aE<|c.rc 0 ?_;refine bU<|aE<|c.rc 0 ?_;exact u _ c.gr
def xy {v:Value} {t:TypeId} (q:¬t=327) (u:∀h',Gr h h'->R (.tuple #[.bool false,.bool false]) h'):j8.1 (.iface t v) h R:=by
 have c:=Cx.aB h;refine vx (v:=.tuple #[.agg PM,.bool false]) (by simp[Az,q])<|vx rfl<|vx (v:=.bool false) (rfl)<|c.v10 λ_ _ c=>?_;refine c.Ri 0 λ_ c=>?_;exact .here<|aN<|aN<|u _ c.gr
end
structure R5 (s:Sw):Prop where
 t:1<=s.t/\s.t<=3
 seq:1<=s.seq/\s.seq<=16777215
 es:s.es.length<=300
def LS:SP->Prop
 | .last hs=>yi hs/\∀s∈hs,s.nx=.again->s.i<s.es.length
 | .own hs=>yi hs/\∀s∈hs,s.nx=.again->s.i<s.es.length
 | .lI=>True
 | .mO _=>True
 | _=>False
section
variable {x:Sc} {n k:Value} {a:Ac} {z:Int} {g:cP} {es:List Et} {s:Sw} {b:Bool} {v:Value}
def Qc (O:B.p h) (Z:On B Zs) (hv:yF B v s) (ok:R5 s) (q:LS s.ph) (hg:Ww g.w) (X:qW h B (bS s g) R):cM.1 v (eI g) h R:=by
 obtain⟨k1,k2,k3⟩:=ok;unfold yF at hv;cases u:s.ph with
 | lI=>
  rw[u] at hv;obtain⟨x,y,rfl,T,A,N⟩:=hv;have U:bS s g=pq s g.w:=by unfold bS; rw[u]
  rw[U] at X;refine kf T (λh1 K gr V=>?_) X;rw[A];exact .inl (.inl ⟨_,#[kM y],#[],rfl,oJ.2 (KW (B.up O gr) Z N k1 k2 k3 hg V)⟩)
 | last hs=>
  rw[u] at hv q;obtain⟨x,r1,r2,y,aS,rfl,T,A,f1,f2,N,Q⟩:=hv;rw[u] at Q;refine kf T (λh1 K gr V=>?_) X;rw[A];refine sd (B.up O gr) f1 f2 (λh2 K2 G J=>?_) V;refine tQ (B.up O (Gr.trans gr G)) N (k:=kB 234) rfl Q (ho:=bV hs g) (p:=λhs=>.last hs) (λv hv=>fX Z hg hv q.1 q.2) (iV q.1) (λ_ _ _ _ H=>H) (λ_ _ _ H=>H) (λt a e M h3 K3 b3 E=>?_) (λaT a e=>?_) J
  ·have U:bS s g=qB s:=by
    unfold bS;rw[u];dsimp only;rw[e]
   rw[U] at E;exact .inl (.inl ⟨_,#[],#[],rfl,m5.2 (Jm b3 (Z.le (Bs.aJ _ _)) (N.le (Bs.aJ _ _)) k1 k2 k3 E)⟩)
  ·unfold bS;rw[u];dsimp only;rw[e]
 | mO l=>
  rw[u] at hv q;obtain⟨x,r1,r2,y,aS,rfl,T,A,f1,f2,N,Q⟩:=hv;rw[u] at Q;have U:bS s g=xM s l:=by unfold bS; rw[u]
  rw[U] at X;refine kf T (λh1 K gr V=>?_) X;rw[A];refine sd (B.up O gr) f1 f2 (λh2 K2 G J=>?_) V;refine Hb (B.up O (Gr.trans gr G)) N (k:=kB 256) rfl Q (p:=λl=>.mO l) (λ_ _ _ H=>H) (λ_ _ _ H=>H) (λe h3 K3 bY E=>?_) (λa r e=>by subst e; rfl) J;subst e;exact .inl (.inl ⟨_,#[],#[],rfl,qD.2 (Qp (B.up O (Gr.trans gr (Gr.trans G bY))) Z N k1 k2 E)⟩)
 | own hs=>
  rw[u] at hv q;obtain⟨x,r1,r2,y,aS,rfl,T,A,f1,f2,N,Q⟩:=hv;rw[u] at Q;refine kf T (λh1 K gr V=>?_) X;rw[A];refine sd (B.up O gr) f1 f2 (λh2 K2 G J=>?_) V;refine tQ (B.up O (Gr.trans gr G)) N (k:=kB 271) rfl Q (ho:=bV hs g) (p:=λhs=>.own hs) (λv hv=>fX Z hg hv q.1 q.2) (iV q.1) (λ_ _ _ _ H=>H) (λ_ _ _ H=>H) (λt a e M h3 K3 b3 E=>?_) (λaT a e=>?_) J
  ·have U:bS s g=Fq s (decide (t.aO=1)):=by
    unfold bS;rw[u];dsimp only;rw[e];rfl
   rw[U] at E;exact .inl (.inl ⟨_,#[],#[],rfl,oK.2 (Nb (N.le (Bs.aJ _ _)) E)⟩)
  ·unfold bS;rw[u];dsimp only;rw[e]
 | over ok=>rw[u] at q; exact q.elim
 | lM=>rw[u] at q; exact q.elim
 | jS w hs=>rw[u] at q; exact q.elim
 | kC=>rw[u] at q; exact q.elim
 | mG=>rw[u] at q; exact q.elim
 | send l ok=>rw[u] at q; exact q.elim
def sW (t:Int) (seq:Int) (du:Bool) (e:SH) (nx:Value):Sc:=⟨t,seq,du,e,nx,false,false⟩
def N6 {e:Et} (u:Zs h) {r:Nat} (G:aP 3 (bE r) h=some vL) (q:∀h',Gr h h'->aP 3 (bE r) h'=some vL) (hm:0<=e.at'/\e.at'<=10000) (A:∀h',Gr h h'->R (.bool (!gX e.at')) h'):uL.1 (vE e) (bE r) h R:=by
 obtain⟨E,⟨ev,eq,H⟩,J,eb⟩:=e;dsimp only at hm;have c:=Cx.aB h;refine c.v6 λ_ _ c=>?_;refine vx (q _ c.gr)<|aE<|c.rc 0 ?_;refine iR (a:=E) ⟨by omega,by omega⟩ _ _ (u.gr c.gr) λ_ g=>?_;have c:=c.more g;exact vx rfl<|A _ c.gr
def Nv {t seq:Int} {du:Bool} (M:Zs h) (hs:Sl EE h v es) (ok:H7 es) (Z:1<=t/\t<=3) (hq:1<=seq/\seq<=16777215)
  (G:∀e H J h',Cx (λ_=>False) h h' [bJ EE (aK e) es,rV H [.func (.func 219) #[kM (sW t seq du e .nilFunc)] #[]],rV J (Ax (sW t seq du e (o8 220 H J)))]->R (.tuple #[.iface 327 (kM (sW t seq du e (o8 220 H J))),.int .i64 0]) h'):S.C 208 [vL,(.int .i64 t),(.int .i64 seq),(.bool du),v] h R:=by
 refine FM.2 ?_;have hlen:=ok.len;have E:eC es=true:=by
  have:∀(n i:Nat),es.length - i=n->eC (es.drop i)=true:=λn=>by
   induction n with
   | zero=>intro i h; exact lu (by omega)
   | succ n Q=>
    intro i h;by_cases h2:i+1<es.length
    ·have N:=List.getElem?_eq_getElem (l:=es) (i:=i) (by omega);have O:=List.getElem?_eq_getElem (l:=es) (i:=i+1) h2;rw[tY N O,Q (i+1) (by omega),Bool.and_true];exact decide_eq_true (Int.le_of_lt (ok.B9 i _ _ N O))
    ·exact lu (by omega)
  exact this _ 0 rfl
 have u:∀e∈es,0<=e.at'/\e.at'<=1000:=λe he=>uN (ok.may e he);have c:=Cx.aB h;refine c.v3 λK _ c=>?_;refine c.rl 0 ?_;refine cS _ _ (M.gr c.gr) λ_ g=>?_;have c:=c.more g;refine vx (v:=.bool false) rfl<|aN ?_;refine .here<|vx (dA (by omega))<|aN<|aE<|c.rc 0 ?_;refine vx (ka (show ¬(3:Int)<t by omega))<|aN<|vx (dA (by omega))<|aN<|vx (ka (show ¬(16777215:Int)<seq by omega))<|aN<|rD (hs.gr c.gr) ok.old (by omega) λ_ g=>?_;have c:=c.more g;rw[ok.OZ];refine vx (v:=.bool false) rfl<|aN<|zt (hs.gr c.gr) (λh' a b R g T U G=>.inl (.inl ⟨216,#[],#[],rfl,vC.2 (Qa (by have:=u a T; have:=u b U; constructor <;> omega) G)⟩)) (by omega) λ_ g=>?_;have c:=c.more g;rw[E];refine vx (v:=.bool false) (rfl)<|aN<|vx rfl<|KL (q:=λe=>!gX e.at') (hs.gr c.gr) (λh' e R g he G=>.inl (.inl ⟨217,#[],#[bE K],rfl,uL.2 (N6 ((M.gr c.gr).gr g) (c.more g |>.vl (i:=0) rfl rfl) (λV X=>(c.more g).more X |>.vl (i:=0) rfl rfl) (by have:=u e he; omega) G)⟩)) (by omega) λ_ g=>?_;have c:=c.more g;rw[show es.any (λe=>!gX e.at')=false from by
  rw[List.any_eq_false];intro e he;rw[ok.may e he]; decide]
 refine aN ?_;refine .here<|c.rl 0 ?_;refine⟨?_,?_⟩
 ·refine DH (hs.gr c.gr) (by omega) λe _ d=>?_;have c:=c.aF d;replace c:=c.n2;refine c.al 0 ?_;refine vx (aG (ds:=[_,_,_,_,_,_,_,_,_,_]) rfl)<|c.v10 λ_ _ c=>?_;refine c.al 0 ?_;refine c.Ri 2 λ_ c=>?_;refine c.rl 2 ?_;refine vx rfl<|c.v1 λA _ c=>?_;refine c.w1 3 λ_ c=>?_;refine vx rfl<|aE<|c.Pp 2 λ_ c=>?_;refine c.rl 2 ?_;exact vx rfl<|G e _ _ _ (c.pick [1,3,2])
 ·refine c.v10 λ_ _ c=>?_;refine c.al 0 ?_;refine DH (hs.gr c.gr) (by omega) λe _ d=>?_;have c:=c.aF d;replace c:=c.n3;refine c.al 0 ?_;refine vx (aG (ds:=[_,_,_,_,_,_,_,_,_,_]) rfl)<|c.Ri 1 λ_ c=>?_;refine c.rl 1 ?_;refine vx rfl<|c.v1 λA _ c=>?_;refine c.w1 3 λ_ c=>?_;refine vx rfl<|aE<|c.Pp 1 λ_ c=>?_;refine c.rl 1 ?_;exact vx rfl<|G e _ _ _ (c.pick [2,3,1])
def N9 {t seq:Int} {du:Bool} {e:SH} {q u:Nat} (G:1<=t/\t<=3) (c:Cx F h h [aD [rV q [.func (.func 219) #[kM (sW t seq du e .nilFunc)] #[]],rV u (Ax (sW t seq du e (o8 220 q u)))]]) (E:∀h',Ch F h h'->Zs h')
  (A:∀h',Cx F h h' [aD []]->R (.tuple #[.iface 327 (kM (sW t seq du e (.func (.func 219) #[kM (sW t seq du e .nilFunc)] #[]))),lD ⟨5,eN t,W0,W0⟩,.bool false]) h'):uM.1 (eI g) (bE q) (bE u) h R:=by
 obtain⟨⟨H,J,gr⟩,K⟩:=g;unfold sW at c A;have c:=Cx.unpack (L:=[]) c;replace c:Cx _ _ _ [_,_]:=c;refine c.v4 λ_ _ c=>?_;refine c.v8 λ_ _ c=>?_;refine c.rc 0 ?_;refine aE<|c.Pp 1 λ_ c=>?_;refine c.rl 1 ?_;refine vx rfl<|c.rl 1 ?_;refine Hx (x:=⟨t,seq,du,e,.func (.func 219) #[kM ⟨t,seq,du,e,.nilFunc,false,false⟩] #[],false,false⟩) (E _ c.gr) rfl ⟨by show -1000<=t; omega,by show t<=1000; omega⟩ λ_ g=>?_;have c:=c.more g;refine c.al 1 ?_;refine vx (aG (ds:=[_,_,_,_,_,_,_,_]) rfl)<|c.w8 3 λ_ c=>?_;refine c.rl 3 ?_;exact A _ (Cx.wj (L:=[]) (c.pick []))
def Jr {t seq:Int} {du:Bool} {e:SH} {q u:Nat} (E:1<=t/\t<=3) (c:Cx F h h [aD [rV q [.func (.func 219) #[kM (sW t seq du e .nilFunc)] #[]],rV u (Ax (sW t seq du e (o8 220 q u)))]]) (G:∀h',Ch F h h'->Zs h')
  (H:∀h',Cx F h h' []->R (.tuple #[.iface 327 (kM (sW t seq du e (.func (.func 219) #[kM (sW t seq du e .nilFunc)] #[]))),lD ⟨5,eN t,W0,W0⟩,.bool false]) h'):cM.1 (kM (sW t seq du e (o8 220 q u))) (eI g) h R:=by
 obtain⟨⟨J,K,gr⟩,N⟩:=g;replace c:Cx _ _ _ [_]:=c;refine c.v10 λ_ _ c=>?_;refine c.v4 λ_ _ c=>?_;refine c.v8 λ_ _ c=>?_;refine aE<|c.rc 1 ?_;refine aN<|aE<|c.rc 1 ?_;refine c.rl 2 ?_;obtain⟨F',c',O,up⟩:=c.lR (i:=0) rfl;refine .inl (.inl ⟨220,#[],#[bE q,bE u],rfl,uM.2 (N9 (g:=⟨⟨J,K,gr⟩,N⟩) E c' (λA ch=>G A (O _ ch)) λh' d=>?_)⟩);have c:=up (M:=[]) d;replace c:=c.n4;refine c.t8 3 λ_ c=>?_;exact H _ (c.pick [])
end
def zJ {a b:Int}:bin .add (.int .u32 a) (.int .u32 b)=some (.int .u32 ((a+b) % 4294967296)):=rfl
def RS {a b:W3}:nX (tg [true,true,true] (.agg ⟨cW a⟩) (.agg ⟨cW b⟩))=some (.bool (!decide (a=b))):=by rw[RX]; rfl
section
variable {x:Sc} {n k:Value} {a:Ac} {z:Int} {g:cP} {es:List Et} {s:Sw} {b:Bool} {out:SR} {w:W3} {et:Et} {v:Value}
def qW.put {h1:Hp} {s':Sw} {u:Value} {M:List aX} {A E:Nat} (O:qW h B (s',a,false) R) (Q:wQ B s x) (H:x.t=s'.t) (J:x.seq=s'.seq) (K:x.du=s'.cH) (N:s'.es=s.es)
  (T:NH (B.and ([rV A [u],rV E (Ax x)]++M)) s' u s'.ph) (G:∀B' v,MQ B' s' v->yF B' v s')
  (c:Cx uH h h1 ([rV A [u],rV E (Ax x)]++M)):R (.tuple #[.iface 327 (kM {x with nx:=o8 247 A E}),lD a,.bool false]) h1:=by
 have q:=Q.le (Bs.aJ B ([rV A [u],rV E (Ax x)]++M));refine O _ _ _ (Cx.pack (L:=[]) c) (G _ _ ?_);exact⟨_,A,E,x,u,rfl,⟨H,J,K,N▸q.e,rfl,q.ov,q.ok⟩,rfl,Fr.of (i:=0) rfl,Fr.of (i:=1) rfl,⟨H,J,K,N▸q.e,q.nx,q.ov,q.ok⟩,T⟩
def CH (K:B.p h) (A:wQ B s x) (he:s.es=[et]) (q:qW h B (s9 s) R):jH.1 (kM x) h R:=by
 obtain⟨t,seq,du,e,nx,ov,ok⟩:=x;have u:=A;obtain⟨h1,h2,E,G,J,N,O⟩:=A;dsimp only at J h1 h2 E G N O;have hE:sE s=et:=by unfold sE; rw[he]; rfl
 obtain⟨Q,⟨ev,eq,T⟩,U,eb⟩:=et;have c:=Cx.aB h;refine c.v10 λ_ _ c=>?_;refine c.v8 λ_ _ c=>?_;refine c.rl 0 ?_;refine aE<|c.rc 0 ?_;refine(G _ (B.up K c.gr)).oW rfl (i:=0) (by rw[he]; rfl) rfl (j:=0) rfl ?_;refine vx (aG (ds:=[_,_,_,_,_,_,_,_]) rfl)<|EA (x:=⟨t,seq,du,e,nx,ov,ok⟩) (a:=⟨5,Q,W0,W0⟩) J rfl λV X _ d=>?_;have c:=c.aF d;replace c:=c.n4;refine c.t8 1 λ_ c=>?_;refine qW.put (s:=s) (s':={s with ph:=.lM}) (M:=[]) (by unfold s9 at q; rw[hE] at q; exact q) u h1 h2 E rfl rfl (λ_ _ H=>H) (c.pick [2,3])
def Lr (J:B.p h) (u:wQ B s x) (A:qW h B out R) (E:∀h1 K,Gr h h1->qW h1 B out K->kr.1 (kM x) (mW g.w) h1 K):nB.1 (kM x) (eI g) h R:=by
 obtain⟨t,seq,du,e,nx,ov,ok⟩:=x;obtain⟨h1,h2,N,O,G,Q,T⟩:=u;dsimp only at G;obtain⟨⟨U,V,gr⟩,X⟩:=g;obtain⟨Z,a,d⟩:=out;have c:=Cx.aB h;refine c.v10 λ_ _ c=>?_;refine c.v4 λ_ _ c=>?_;refine c.v8 λ_ _ c=>?_;refine c.rl 0 ?_;refine aE<|vx (c.vp (i:=1) (ds:=[_,_,_]) rfl rfl rfl)<|kr.2 (E _ _ c.gr λH M _ d2 q=>?_);have c:=c.aF d2;replace c:=c.n4;refine c.t8 2 λ_ c=>?_;exact A H M _ (c.pick [3]) q
def Ib (u:wQ B s x) (A:qW h B (Fq s false) R):kY.1 (kM x) h R:=by
 obtain⟨t,seq,du,e,nx,ov,ok⟩:=x;obtain⟨h1,h2,E,G,q,H,J⟩:=u;dsimp only at q;have c:=Cx.aB h;refine c.v10 λ_ _ c=>?_;refine c.v8 λ_ _ c=>?_;refine c.rl 0 ?_;refine yE (x:=⟨t,seq,du,e,nx,ov,ok⟩) q λ_ g=>?_;have c:=c.more g;refine c.t8 1 λ_ c=>?_;exact(A _).nil ⟨⟨t,seq,du,e,.nilFunc,true,false⟩,rfl,rfl,rfl,rfl⟩ c.gr
def Ej (u:wQ B s x) (A:qW h B (Fq s true) R):jX.1 (kM x) h R:=by
 obtain⟨t,seq,du,e,nx,ov,ok⟩:=x;obtain⟨h1,h2,E,G,q,H,J⟩:=u;dsimp only at q;have c:=Cx.aB h;refine c.v10 λ_ _ c=>?_;refine c.v8 λ_ _ c=>?_;refine c.rl 0 ?_;refine yE (x:=⟨t,seq,du,e,nx,ov,ok⟩) q λ_ g=>?_;have c:=c.more g;refine c.t8 1 λ_ c=>?_;exact(A _).nil ⟨⟨t,seq,du,e,.nilFunc,true,true⟩,rfl,rfl,rfl,rfl⟩ c.gr
def Jb (E:B.p h) (A:wQ B s x) (he:s.es=[et]) (G:qW h B (s9 s) R):mT.1 (kM x) (eI g) h R:=by
 obtain⟨t,seq,du,e,nx,ov,ok⟩:=x;have q:=A;obtain⟨h1,h2,K,N,H,O,Q⟩:=A;dsimp only at H;obtain⟨⟨T,U,gr⟩,V⟩:=g;have c:=Cx.aB h;refine c.v10 λ_ _ c=>?_;refine c.v4 λ_ _ c=>?_;refine c.v8 λ_ _ c=>?_;refine c.rl 0 ?_;refine jH.2 (CH (x:=⟨t,seq,du,e,nx,ov,ok⟩) (B.up E c.gr) q he λJ M _ d u=>?_);have c:=c.aF d;replace c:=c.n4;refine c.t8 2 λ_ c=>?_;exact G J M _ (c.pick [3]) u
def CI (s:Sw) (w:W3) (st:Int):SR:=if ¬st=4 then s9 s else({s with ph:=.kC},⟨6,(sE s).at',w,⟨w.v,w.aO,0⟩⟩,false)
def Mu (G:B.p h) (J:wQ B s x) (he:s.es=[et]) {st:Int} (u:qW h B (CI s w st) R):oi.1 (kM x) (mW w) (.int .i64 st) h R:=by
 obtain⟨t,seq,du,e,nx,ov,ok⟩:=x;have A:=J;obtain⟨h1,h2,K,N,O,U,V⟩:=J;dsimp only at O h1 h2 K N U V;have hE:sE s=et:=by unfold sE; rw[he]; rfl
 obtain⟨X,⟨ev,eq,er⟩,ew,eb⟩:=et;obtain⟨Q,T,wr⟩:=w;unfold CI at u;rw[hE] at u;have c:=Cx.aB h;refine c.v10 λ_ _ c=>?_;refine c.v3 λ_ _ c=>?_;refine c.v8 λ_ _ c=>?_;refine vx dZ<|dW (λq=>?_) λq=>?_
 ·refine c.rl 0 ?_;rw[if_pos q] at u;refine jH.2 (CH (x:=⟨t,seq,du,e,nx,ov,ok⟩) (B.up G c.gr) A he λZ M _ d E=>?_);have c:=c.aF d;replace c:=c.n4;refine c.t8 2 λ_ c=>?_;exact u Z M _ (c.pick [3]) E
 ·refine c.rl 0 ?_;refine aE<|c.rc 0 ?_;refine(N _ (B.up G c.gr)).oW rfl (i:=0) (by rw[he]; rfl) rfl (j:=0) rfl ?_;refine c.rl 1 ?_;refine aE<|c.rc 1 ?_;refine aE<|c.rc 1 ?_;refine vx (aG (ds:=[_,_,_]) rfl)<|vx (aG (ds:=[_,_,_,_,_,_,_,_]) rfl) ?_;rw[if_neg q] at u;refine EA (x:=⟨t,seq,du,e,nx,ov,ok⟩) (a:=⟨6,X,⟨Q,T,wr⟩,⟨Q,T,0⟩⟩) O rfl λr1 r2 _ d=>?_;have c:=c.aF d;replace c:=c.n5;refine c.t8 2 λ_ c=>?_;exact qW.put (s:=s) (s':={s with ph:=.kC}) (M:=[]) u A h1 h2 K rfl rfl (λ_ _ H=>H) (c.pick [3,4])
def Ng (A:B.p h) (E:wQ B s x) (he:s.es=[et]) {st:Int} {r:Nat} (hw:Fr B r (cW w)) (G:qW h B (CI s w st) R):oC.1 (kM x) (.int .i64 st) (bE r) h R:=by
 obtain⟨t,seq,du,e,nx,ov,ok⟩:=x;have q:=E;obtain⟨h1,h2,H,J,K,N,O⟩:=E;dsimp only at K h1 h2 H J N O;have c:=Cx.aB h;refine c.v10 λ_ _ c=>?_;refine c.v8 λ_ _ c=>?_;refine c.rl 0 ?_;refine vx (hw.ld (B.up A c.gr) rfl)<|oi.2 (Mu (x:=⟨t,seq,du,e,nx,ov,ok⟩) (B.up A c.gr) q he λQ M _ d u=>?_);have c:=c.aF d;replace c:=c.n3;refine c.t8 1 λ_ c=>?_;exact G Q M _ (c.pick [2]) u
def Mh (U:B.p h) (hZ:On B Zs) (hx:wQ B s x) (he:s.es=[et]) (hw:Ww w) (J:qW h B (r8 s w) R):kr.1 (kM x) (mW w) h R:=by
 obtain⟨t,seq,du,e,nx,ov,ok⟩:=x;have O:=hx;obtain⟨h1,h2,h3,h4,hn,h6,h7⟩:=hx;dsimp only at hn h1 h2 h3 h4 h6 h7;have hE:sE s=et:=by unfold sE; rw[he]; rfl
 have aS:cE et=cE (sE s):=by rw[hE]
 obtain⟨u,⟨ev,eq,X⟩,ew,eb⟩:=et;obtain⟨N,A,wr⟩:=w;obtain⟨aT,bY,E⟩:=hw;dsimp only at aT bY E;unfold r8 at J;dsimp only at J;rw[hE] at J;by_cases V:¬aZ wr=0/\0<=aC (aZ wr)
 ·rw[if_pos V] at J;have Z:∀B',B.le B'->Ij B' (j7 (bK (Hs.new wr s.cH) (none,0,0) (none,0,0) .nilIface)) kq ([{Hs.new wr s.cH with nx:=.first}],⟨5,aC (aZ wr),W0,W0⟩,false):=λB' l=>by
   have:=fX (B:=B') (g:=kq) (hs:=[Hs.new wr s.cH]) (v:=j7 (bK (Hs.new wr s.cH) (none,0,0) (none,0,0) .nilIface)) (hZ.le l) J7 ⟨_,_,rfl,λ_ _=>Sl.nil,λ_ _=>Sl.nil⟩ ⟨rfl,Nat.zero_le _,V.2,λx hx=>(List.not_mem_nil hx).elim,J7,trivial⟩ λs hs ha=>by
    obtain rfl:=List.mem_singleton.1 hs;cases ha
   rw[ry] at this;exact this
  have c:=Cx.aB h;refine c.v10 λ_ _ c=>?_;refine c.v3 λq _ c=>?_;refine c.v8 λ_ _ c=>?_;refine aE<|c.rc 0 ?_;refine(h4 _ (B.up U c.gr)).whole rfl (i:=0) (by rw[he]; rfl) rfl ?_;refine c.v6 λ_ _ c=>?_;refine c.w6 3 λ_ c=>?_;refine .here<|aE<|c.rc 1 ?_;refine qE E λ_ g=>?_;have c:=c.more g;refine vx rfl<|vx rfl<|vx (zZ V.1)<|bU<|aE<|vx (c.vp (i:=0) (ds:=[_,_,_]) rfl rfl rfl)<|aE<|c.rc 1 ?_;refine aE<|c.rc 0 ?_;refine jK (hZ _ (B.up U c.gr)) E λ_ g=>?_;have c:=c.more g;rw[if_pos V];refine vx rfl<|vx rfl<|vx (v:=.bool true) rfl<|bU<|c.rl 0 ?_;refine vx (aG (ds:=[_,_,_,_]) rfl)<|vx rfl ?_;have c:=Cx.pack (L:=[_,_,_]) (M:=[rV q (cW ⟨N,A,wr⟩)]) (c.pick [0,2,3,1]);refine dT.2 (pB (B:=B.and [rV q (cW ⟨N,A,wr⟩)]) (s:=s) (x:=⟨t,seq,du,e,nx,ov,ok⟩) (g:=kq) (p:=λhs=>.jS ⟨N,A,wr⟩ hs) ⟨B.up U c.gr,c.get (i:=3) rfl⟩ (O.le (Bs.aJ _ _)) rfl (by have:=Z (B.and [rV q (cW ⟨N,A,wr⟩)]) (Bs.aJ _ _); rw[h3]; exact this) (λx=>by cases x) (λB' iN hs l H=>⟨q,H,Fr.le (Fr.of (i:=0) rfl) l⟩) (λ_ _ _ H=>H) (λ_ _ e=>by cases e) (λhs a e=>by cases e; rfl) λv' M _ d T=>?_);have c:=c.aF d;replace c:=c.n5;refine c.t8 1 λ_ c=>?_;exact J v' [aD [rV q (cW ⟨N,A,wr⟩)],aD M] _ (Cx.pack (L:=[]) (c.pick [3,4])) (yF.le Bs.Ay T)
 ·rw[if_neg V] at J;have c:=Cx.aB h;refine c.v10 λdO _ c=>?_;refine c.v3 λq _ c=>?_;refine c.v8 λeQ _ c=>?_;refine aE<|c.rc 0 ?_;refine(h4 _ (B.up U c.gr)).whole rfl (i:=0) (by rw[he]; rfl) rfl ?_;refine c.v6 λQ _ c=>?_;refine c.w6 3 λ_ c=>?_;refine Cm.at (λh'=>Cx (λ_=>False) h h' [rV dO (Ax ⟨t,seq,du,e,nx,ov,ok⟩),rV q (cW ⟨N,A,wr⟩),rV eQ jQ.toList,rV Q (cE ⟨u,⟨ev,eq,X⟩,ew,eb⟩)]) ?_ ?_
  ·refine aE<|c.rc 1 ?_;refine qE E λ_ g=>?_;have c:=c.more g;refine vx rfl<|vx rfl<|vx dZ<|dW (λiF=>?_) λiF=>?_
   ·refine aE<|vx (c.vp (i:=0) (ds:=[_,_,_]) rfl rfl rfl)<|aE<|c.rc 1 ?_;refine aE<|c.rc 0 ?_;refine jK (hZ _ (B.up U c.gr)) E λ_ g=>?_;have c:=c.more g;rw[if_neg V];exact vx rfl<|vx rfl<|vx (v:=.bool false) rfl<|aN<|c.pick [0,1,2,3]
   ·exact c.pick [0,1,2,3]
  ·rintro _ c;replace c:=c.n4;refine c.rl 1 ?_;refine aE<|vx (c.vp (i:=3) (ds:=[_,_,_]) rfl rfl rfl)<|vx (RS (a:=⟨N,A,wr⟩) (b:=⟨ev,eq,X⟩))<|En.br (λG=>?_) λG=>?_
   ·refine c.rl 0 ?_;refine c.rl 0 ?_;refine aE<|c.rc 3 ?_;refine c.dN mf u rfl rfl λiS _ c=>?_;replace c:=c.n5;refine c.al 0 ?_;refine c.al 0 ?_;refine m7 (x:=⟨t,seq,du,e,nx,ov,ok⟩) (ls:=[u]) hn (c.sl (i:=4) rfl).sl (by simp) λkp _ d=>?_;have c:=c.aF d;replace c:=c.n6;refine c.al 0 ?_;rw[if_pos (show ¬(⟨N,A,wr⟩:W3)=⟨ev,eq,X⟩ from λx=>by rw[decide_eq_true x] at G; cases G)] at J;have hk:j6 du [u]=gM s [u]:=by rw[E5,<-h3]
    have c:=Cx.pack (L:=[_,_,_,_]) (M:=[bJ wu (aK kp) (j6 du [u])]) (c.pick [0,1,2,3,5]);refine gY.2 (C4 (B:=B.and [bJ wu (aK kp) (j6 du [u])]) (x:=⟨t,seq,du,e,nx,ov,ok⟩) (s:=s) (p:=λl=>.send l false) (l:=j6 du [u]) (out:=oO s false (gM s [u])) ⟨B.up U c.gr,c.get (i:=4) rfl⟩ (O.le (Bs.aJ _ _)) rfl (On.sl (i:=0) rfl) (λ_ _ _ H=>H) (λ_ _ _ H=>H) (λe h1 K g hK=>?_) (λa r e=>by rw[<-hk,e]; rfl) λv' M _ d T=>?_)
    ·rw[<-hk,e] at hK; exact .inl (.inl ⟨_,#[],#[],rfl,kY.2 (Ib (O.le (Bs.aJ _ _)) hK)⟩)
    have c:=c.aF d;replace c:=c.n6;refine c.t8 2 λ_ c=>?_;exact J v' [aD [bJ wu (aK kp) (j6 du [u])],aD M] _ (Cx.pack (L:=[]) (c.pick [4,5])) (yF.le Bs.Ay T)
   ·refine c.rl 0 ?_;refine aE<|c.rc 3 ?_;refine c.rl 1 ?_;refine aE<|c.rc 3 ?_;refine aE<|c.rc 1 ?_;refine vx (zJ (a:=A) (b:=1))<|vx (aG (ds:=[_,_,_]) rfl)<|vx (aG (ds:=[_,_,_,_,_,_,_,_]) rfl)<|vx rfl ?_;rw[if_neg (show ¬¬(⟨N,A,wr⟩:W3)=⟨ev,eq,X⟩ from λx=>by rw[decide_eq_false x] at G; cases G)] at J;refine EA (x:=⟨t,seq,du,e,nx,ov,ok⟩) (a:=⟨6,u,⟨N,A,wr⟩,⟨ew,(A+1) % 4294967296,0⟩⟩) hn rfl λr1 r2 _ d=>?_;have c:=c.aF d;replace c:=c.n6;refine c.t8 2 λ_ c=>?_;exact qW.put (s:=s) (s':={s with ph:=.mG}) (M:=[rV Q (cE ⟨u,⟨ev,eq,X⟩,ew,eb⟩)]) J O h1 h2 h3 rfl ⟨Q,rfl,by show Fr _ Q (cE (sE s)); rw[<-aS]; exact Fr.of (i:=2) rfl⟩ (λ_ _ H=>H) (c.pick [4,5,3])
def OM (G:B.p h) (Z:On B Zs) (N:wQ B s x) (he:s.es=[et]) {r:Nat} (O:Fr B r (cE (sE s))) (Q:Ww g.w) (E:qW h B (if g.ok=true then oO s true (gM s [(sE s).at']) else r8 s g.w) R):oG.1 (kM x) (eI g) (bE r) h R:=by
 obtain⟨t,seq,du,e,nx,ov,ok⟩:=x;have u:=N;obtain⟨h1,h2,T,h4,U,h6,h7⟩:=N;dsimp only at U h1 h2 T h4 h6 h7;have hE:sE s=et:=by unfold sE; rw[he]; rfl
 rw[hE] at O E;obtain⟨q,⟨ev,eq,er⟩,ew,eb⟩:=et;obtain⟨⟨gv,gq,gr⟩,gk⟩:=g;dsimp only at Q E;cases gk with
 | false=>
  rw[if_neg (by decide)] at E;have c:=Cx.aB h;refine c.v10 λ_ _ c=>?_;refine c.v4 λ_ _ c=>?_;refine c.v8 λ_ _ c=>?_;refine aE<|c.rc 1 ?_;refine vx (v:=.bool true) rfl<|bU<|c.rl 0 ?_;refine aE<|vx (c.vp (i:=1) (ds:=[_,_,_]) rfl rfl rfl)<|kr.2 (Mh (x:=⟨t,seq,du,e,nx,ov,ok⟩) (B.up G c.gr) Z u he Q λJ M _ d A=>?_);have c:=c.aF d;replace c:=c.n4;refine c.t8 2 λ_ c=>?_;exact E J M _ (c.pick [3]) A
 | true=>
  rw[if_pos rfl] at E;have c:=Cx.aB h;refine c.v10 λ_ _ c=>?_;refine c.v4 λ_ _ c=>?_;refine c.v8 λ_ _ c=>?_;refine aE<|c.rc 1 ?_;refine vx (v:=.bool false) rfl<|aN<|c.rl 0 ?_;refine c.rl 0 ?_;refine vx (show fa 0 (bE r)=some (bE r) from rfl)<|vx (O.lc (B.up G c.gr) (o:=0) rfl)<|c.dN mf q rfl rfl λaS _ c=>?_;replace c:=c.n4;refine c.al 0 ?_;refine c.al 0 ?_;refine m7 (x:=⟨t,seq,du,e,nx,ov,ok⟩) (ls:=[q]) U (c.sl (i:=3) rfl).sl (by simp) λkp _ d=>?_;have c:=c.aF d;replace c:=c.n5;refine c.al 0 ?_;have V:j6 du [q]=gM s [q]:=by rw[E5,<-T]
  have c:=Cx.pack (L:=[_,_,_]) (M:=[bJ wu (aK kp) (j6 du [q])]) (c.pick [0,1,2,4]);refine gY.2 (C4 (B:=B.and [bJ wu (aK kp) (j6 du [q])]) (x:=⟨t,seq,du,e,nx,ov,ok⟩) (s:=s) (p:=λl=>.send l true) (l:=j6 du [q]) (out:=oO s true (gM s [q])) ⟨B.up G c.gr,c.get (i:=3) rfl⟩ (u.le (Bs.aJ _ _)) rfl (On.sl (i:=0) rfl) (λ_ _ _ H=>H) (λ_ _ _ H=>H) (λe h1 K g X=>?_) (λa r e=>by rw[<-V,e]; rfl) λJ M _ d A=>?_)
  ·rw[<-V,e] at X; exact .inl (.inl ⟨_,#[],#[],rfl,jX.2 (Ej (u.le (Bs.aJ _ _)) X)⟩)
  have c:=c.aF d;replace c:=c.n5;refine c.t8 2 λ_ c=>?_;exact E J [aD [bJ wu (aK kp) (j6 du [q])],aD M] _ (Cx.pack (L:=[]) (c.pick [3,4])) (yF.le Bs.Ay A)
def IX (s:Sw):Prop:=(∃e,s.es=[e])/\match s.ph with
 | .lM=>True
 | .jS _ hs=>yi hs/\∀s∈hs,s.nx=.again->s.i<s.es.length
 | .kC=>True
 | .mG=>True
 | .send _ _=>True
 | _=>False
def OE (T:B.p h) (hZ:On B Zs) (hv:yF B v s) (ok:IX s) (hg:Ww g.w) (Z:qW h B (bS s g) R):cM.1 v (eI g) h R:=by
 obtain⟨⟨et,he⟩,q⟩:=ok;unfold yF at hv;cases A:s.ph with
 | lM=>
  rw[A] at hv;obtain⟨x,r1,r2,y,O,rfl,U,J,f1,f2,Q,G⟩:=hv;rw[A] at G;refine kf U (λh1 K gr V=>?_) Z;rw[J];refine sd (B.up T gr) f1 f2 (λh2 K2 E u=>?_) V;have X:bS s g=r8 s g.w:=by unfold bS; rw[A]
  rw[X] at u;have G:O=kB 228:=G;subst G;exact .inl (.inl ⟨_,#[],#[],rfl,nB.2 (Lr (B.up T (Gr.trans gr E)) Q u λh3 K3 aS N=>Mh (B.up T (Gr.trans (Gr.trans gr E) aS)) hZ Q he hg N)⟩)
 | jS w hs=>
  rw[A] at hv q;obtain⟨x,r1,r2,y,O,rfl,U,J,f1,f2,Q,G⟩:=hv;rw[A] at G;obtain⟨aT,G,fw⟩:=G;refine kf U (λh1 K gr V=>?_) Z;rw[J];refine sd (B.up T gr) f1 f2 (λh2 K2 E u=>?_) V;refine tQ (B.up T (Gr.trans gr E)) Q (k:=iE 248 aT) rfl G (ho:=bV hs g) (p:=λhs=>.jS w hs) (λv hv=>fX hZ hg hv q.1 q.2) (iV q.1) (λ_ _ _ l H=>⟨aT,H,fw.le l⟩) (λ_ _ _ H=>H) (λt a e M h3 K3 b3 N=>?_) (λbY a e=>?_) u
  ·have X:bS s g=CI s w t.aO:=by
    unfold bS;rw[A];dsimp only;rw[e];rfl
   rw[X] at N;exact .inl (.inl ⟨_,#[],#[_],rfl,oC.2 (Ng b3 (Q.le (Bs.aJ _ _)) he (fw.le (Bs.aJ _ _)) N)⟩)
  ·unfold bS;rw[A];dsimp only;rw[e]
 | kC=>
  rw[A] at hv;obtain⟨x,r1,r2,y,O,rfl,U,J,f1,f2,Q,G⟩:=hv;rw[A] at G;refine kf U (λh1 K gr V=>?_) Z;rw[J];refine sd (B.up T gr) f1 f2 (λh2 K2 E u=>?_) V;have X:bS s g=s9 s:=by unfold bS; rw[A]
  rw[X] at u;have G:O=kB 269:=G;subst G;exact .inl (.inl ⟨_,#[],#[],rfl,mT.2 (Jb (B.up T (Gr.trans gr E)) Q he u)⟩)
 | mG=>
  rw[A] at hv;obtain⟨x,r1,r2,y,O,rfl,U,J,f1,f2,Q,G⟩:=hv;rw[A] at G;obtain⟨re,rfl,fe⟩:=G;refine kf U (λh1 K gr V=>?_) Z;rw[J];refine sd (B.up T gr) f1 f2 (λh2 K2 E u=>?_) V;have X:bS s g=(if g.ok=true then oO s true (gM s [(sE s).at']) else r8 s g.w):=by unfold bS; rw[A]
  rw[X] at u;exact .inl (.inl ⟨_,#[],#[_],rfl,oG.2 (OM (B.up T (Gr.trans gr E)) hZ Q he fe hg u)⟩)
 | send l ok=>
  rw[A] at hv;obtain⟨x,r1,r2,y,O,rfl,U,J,f1,f2,Q,G⟩:=hv;rw[A] at G;have X:bS s g=oO s ok l:=by unfold bS; rw[A]
  rw[X] at Z;refine kf U (λh1 K gr V=>?_) Z;rw[J];refine sd (B.up T gr) f1 f2 (λh2 K2 E u=>?_) V;refine Hb (B.up T (Gr.trans gr E)) Q (k:=kB (if ok then 254 else 252)) rfl G (p:=λl=>.send l ok) (λ_ _ _ H=>H) (λ_ _ _ H=>H) (λe h3 K3 aS N=>?_) (λa r e=>by subst e; rfl) u;subst e;cases ok with
  | true=>exact .inl (.inl ⟨_,#[],#[],rfl,jX.2 (Ej Q N)⟩)
  | false=>exact .inl (.inl ⟨_,#[],#[],rfl,kY.2 (Ib Q N)⟩)
 | lI=>rw[A] at q; exact q.elim
 | last hs=>rw[A] at q; exact q.elim
 | own hs=>rw[A] at q; exact q.elim
 | mO l=>rw[A] at q; exact q.elim
 | over ok=>rw[A] at q; exact q.elim
end
structure Pc where
 du:Bool
 at':SH
 i:Int
 rd:Int
 now:SH
 ki:SH
 held:W3
 dU:Value
 ov:Bool
 nx:Value
abbrev TQ (x:Pc):List Value:=[.int .i64 3,.int .i64 6,.int .i64 4,.bool x.du,.bool true,aK x.at',.int .i64 x.i,.int .i64 x.rd,aK x.now,aK x.ki,.int .i64 x.held.v,.int .u32 x.held.aO,.int .u32 x.held.ref,x.dU,.bool x.ov,x.nx]
abbrev Bv (x:Pc):Value:=.agg ⟨TQ x⟩
structure DD (B:Bs) (s:Pk) (x:Pc):Prop where
 du:x.du=s.cH
 at':On B λh=>Sl mf h (aK x.at') s.at'
 i:x.i=s.i
 rd:x.rd=s.rounds
 now:On B λh=>Sl EW h (aK x.now) s.now
 ki:On B λh=>Sl EW h (aK x.ki) s.ki
 held:x.held=s.held
 dU:x.dU.oneCell'=true
 nx:x.nx.oneCell'=true
def DD.le {s:Pk} {x:Pc} (H:DD B s x) (l:B.le B'):DD B' s x:=⟨H.du,H.at'.le l,H.i,H.rd,H.now.le l,H.ki.le l,H.held,H.dU,H.nx⟩
def QW (B:Bs) (x:Pc):PP->Prop
 | .found=>x.nx=kB 223/\x.ov=false
 | .fZ hs=>x.nx=kB 236/\x.ov=false/\∃q,x.dU=.iface 376 q/\vj B hs q
 | .back=>x.nx=kB 260/\x.ov=false
 | .flush=>x.nx=kB 262/\x.ov=false
 | .last=>x.nx=kB 275/\x.ov=false
 | .over=>x.ov=true
def QW.le {x:Pc} (l:B.le B'):∀{p:PP},QW B x p->QW B' x p
 | .found,H=>H
 | .fZ _,⟨a,b,q,c,d⟩=>⟨a,b,q,c,d.le l⟩
 | .back,H=>H
 | .flush,H=>H
 | .last,H=>H
 | .over,H=>H
def Fk (B:Bs) (v:Value) (s:Pk):Prop:=∃x,v=Bv x/\DD B s x/\QW B x s.ph
def Fk.le {v:Value} {s:Pk} (H:Fk B v s) (l:B.le B'):Fk B' v s:=let⟨x,a,b,c⟩:=H; ⟨x,a,b.le l,c.le l⟩
def Ji (h:Hp) (B:Bs) (out:PR) (R:Value->Hp->Prop):Prop:=∀q,Rt B h (λB=>Fk B q out.1) λh'=>R (.tuple #[q,lD out.2.1]) h'
def Ji.ret {out:PR} {x:Pc} (q:Ji h B out R) (g:Gr h h') (u:DD B out.1 x) (A:QW B x out.1.ph):R (.tuple #[Bv x,lD out.2.1]) h':=(q _).nil ⟨x,rfl,u.le (Bs.aJ _ _),A.le (Bs.aJ _ _)⟩ g
section
variable {x:Pc} {s:Pk} {g:cP} {v:Value}
def G4 {s:Pk} (hi:s.i<s.at'.length):s.at'[s.i]?=some (s7 s):=by
 unfold s7;rw[List.getD_eq_getElem?_getD,List.getElem?_eq_getElem hi]; rfl
def uR (G:B.p h) (U:DD B s x) (ho:x.ov=false) (hi:s.i<s.at'.length) (V:Ji h B (pW s) R):fE.1 (Bv x) h R:=by
 obtain⟨du,at',i,rd,now,ki,⟨hv,X,Z⟩,dU,ov,nx⟩:=x;obtain⟨H,k2,E,J,K,M,N,O,k9⟩:=U;dsimp only at H k2 E J K M N O k9 ho;have Q:=G4 hi;have c:=Cx.aB h;refine c.tJ λ_ _ c=>?_;refine c.tJ λ_ _ c=>?_;refine c.v8 λ_ _ c=>?_;refine aE<|c.Bb 0 λ_ c=>?_;refine c.rl 0 ?_;refine aE<|c.rc 0 ?_;refine aE<|c.rc 0 ?_;obtain⟨r5,o5,T,u,_⟩:=(k2 _ (B.up G c.gr)).ix Q (n:=1) rfl (k:=.i64) (z:=i) E;refine vx T<|vx (u.rq rfl)<|vx (aG (ds:=[_,_,_,_,_,_,_,_]) rfl)<|c.Dk 1 λ_ c=>?_;refine And.intro (by obtain⟨r6,o6,q,A,_⟩:=(k2 _ (B.up G c.gr)).ix Q (n:=1) rfl (k:=.i64) (z:=i) E; rw[T] at q; injection q with q; injection q with q; injection q with q; injection q with e7 e8; subst e7 e8; exact A.rq rfl) ?_;refine c.ac 0 ?_;refine c.ac 0 ?_;refine c.w8 2 λ_ c=>?_;refine c.rl 1 ?_;refine c.rl 2 ?_;exact V.ret (x:=⟨du,at',i,rd,now,ki,⟨hv,X,Z⟩,dU,ov,kB 223⟩) c.gr ⟨H,k2,E,J,K,M,N,O,rfl⟩ ⟨rfl,ho⟩
def IR (H:B.p h) (G:DD B s x) (ho:x.ov=false) (hi:s.i<s.at'.length) (J:Ji h B (pW s) R):mS.1 (Bv x) (eI g) h R:=by
 obtain⟨du,at',i,rd,now,ki,⟨hv,K,N⟩,dU,ov,nx⟩:=x;have u:=G;obtain⟨O,k2,Q,T,U,V,X,Z,k9⟩:=G;dsimp only at O k2 Q T U V X Z k9;obtain⟨⟨gv,gq,gr⟩,gk⟩:=g;have c:=Cx.aB h;refine c.tJ λ_ _ c=>?_;refine c.v4 λ_ _ c=>?_;refine c.tJ λ_ _ c=>?_;refine c.v8 λ_ _ c=>?_;refine c.rl 0 ?_;refine fE.2 (uR (x:=⟨du,at',i,rd,now,ki,⟨hv,K,N⟩,dU,ov,nx⟩) (B.up H c.gr) u ho hi λv' M _ d A=>?_);have c:=c.aF d;obtain⟨x2,rfl,q,E⟩:=A;have n1:=q.dU;have n2:=q.nx;replace c:=c.n5;refine vx rfl<|vx rfl<|c.Dk 2 λ_ c=>?_;refine c.w8 3 λ_ c=>?_;refine c.rl 2 ?_;refine c.rl 3 ?_;exact J _ M _ (c.pick [4]) ⟨x2,rfl,q,E⟩
def Eo (A:B.p h) (T:DD B s x) (ho:x.ov=false) (X:s.at'.length<=1000) (q:Ji h B (jW s) R):lx.1 (Bv x) (eI g) h R:=by
 obtain⟨du,at',i,rd,now,ki,⟨hv,N,O⟩,dU,ov,nx⟩:=x;obtain⟨E,k2,Q,G,H,J,K,M,U⟩:=T;dsimp only at E k2 Q G H J K M U ho;obtain⟨⟨Z,gq,gr⟩,gk⟩:=g;subst Q;unfold jW at q;by_cases hi:s.i<s.at'.length
 ·have V:=G4 hi;rw[if_pos hi] at q;have c:=Cx.aB h;refine c.tJ λ_ _ c=>?_;refine c.v4 λ_ _ c=>?_;refine c.tJ λ_ _ c=>?_;refine c.v8 λ_ _ c=>?_;refine aE<|c.rc 0 ?_;refine aE<|c.rc 0 ?_;refine vx (k2 _ (B.up A c.gr)).ln<|vx (qA (show(s.i:Int)<(s.at'.length:Int) by omega))<|bU<|aE<|c.rc 0 ?_;refine aE<|c.rc 0 ?_;refine(k2 _ (B.up A c.gr)).one rfl V rfl (u:=.int .i64 (s7 s)) rfl ?_;refine aE<|c.rc 0 ?_;refine vx (inc (by omega))<|aE<|c.Bb 0 λ_ c=>?_;refine aE<|c.Bb 0 λ_ c=>?_;refine c.rl 0 ?_;refine vx (aG (ds:=[_,_,_,_,_,_,_,_]) rfl)<|c.Dk 2 λ_ c=>?_;refine c.w8 3 λ_ c=>?_;refine c.rl 2 ?_;refine c.rl 3 ?_;exact q.ret (x:=⟨du,at',(s.i:Int)+1,rd,now,ki,⟨hv,N,O⟩,dU,ov,kB 262⟩) c.gr ⟨E,k2,rfl,G,H,J,K,M,rfl⟩ ⟨rfl,ho⟩
 ·rw[if_neg hi] at q;have c:=Cx.aB h;refine c.tJ λ_ _ c=>?_;refine c.v4 λ_ _ c=>?_;refine c.tJ λ_ _ c=>?_;refine c.v8 λ_ _ c=>?_;refine aE<|c.rc 0 ?_;refine aE<|c.rc 0 ?_;refine vx (k2 _ (B.up A c.gr)).ln<|vx (dA (show ¬(s.i:Int)<(s.at'.length:Int) by omega))<|aN<|aE<|c.Bb 0 λ_ c=>?_;refine c.rl 0 ?_;refine vx (aG (ds:=[_,_,_,_,_,_,_,_]) rfl)<|c.Dk 2 λ_ c=>?_;refine c.w8 3 λ_ c=>?_;refine c.rl 2 ?_;refine c.rl 3 ?_;exact q.ret (x:=⟨du,at',s.i,rd,now,ki,⟨hv,N,O⟩,dU,ov,kB 275⟩) c.gr ⟨E,k2,rfl,G,H,J,K,M,rfl⟩ ⟨rfl,ho⟩
def IU (M:DD B s x) (N:Ji h B (Qr s) R):mX.1 (Bv x) (eI g) h R:=by
 obtain⟨du,at',i,rd,now,ki,⟨hv,O,Q⟩,dU,ov,nx⟩:=x;obtain⟨q,k2,u,A,E,G,H,J,K⟩:=M;dsimp only at q k2 u A E G H J K;obtain⟨⟨T,U,gr⟩,V⟩:=g;have c:=Cx.aB h;refine c.tJ λ_ _ c=>?_;refine c.v4 λ_ _ c=>?_;refine c.tJ λ_ _ c=>?_;refine c.v8 λ_ _ c=>?_;refine aE<|c.Bb 0 λ_ c=>?_;refine c.rl 0 ?_;refine vx (aG (ds:=[_,_,_,_,_,_,_,_]) rfl)<|c.Dk 2 λ_ c=>?_;refine c.w8 3 λ_ c=>?_;refine c.rl 2 ?_;refine c.rl 3 ?_;exact N.ret (x:=⟨du,at',i,rd,now,ki,⟨hv,O,Q⟩,dU,true,nx⟩) c.gr ⟨q,k2,u,A,E,G,H,J,K⟩ rfl
end
end Go.En
namespace Go.En
variable {h h0 h':Hp} {F F0:Fp} {L:List aX}
def Lp (o:Loop) (st:LoopState) (pd:Option Code):Obj:=.loop {o with state:=st,pending:=pd}
def Cx.Un {i l:Nat} {o:Loop} {st:LoopState} {pd:Option Code} (c:Cx F0 h0 h L) (hi:L[i]?=some (nt l (Lp o st pd))):OU o l h:=⟨st,pd,c.obj hi⟩
def Cx.Hy {i l:Nat} {o:Loop} {pd:Option Code} (c:Cx F0 h0 h L) (hi:L[i]?=some (nt l (Lp o .ready pd))) {k:Hp->Prop} (q:∀h',Cx F0 h0 h' (L.set i (nt l (Lp o .busy pd)))->k h'):Sb (En.Hy l h) k:=by
 refine sb ?_ (q _ (c.setObj hi _));unfold En.Hy;rw[c.obj hi];rfl
def Cx.SA {i l:Nat} {o:Loop} {st:LoopState} {pd:Option Code} (j:Option Code) (c:Cx F0 h0 h L) (hi:L[i]?=some (nt l (Lp o st pd))) {k:Hp->Prop} (q:∀h',Cx F0 h0 h' (L.set i (nt l (Lp o (if j.isNone then .ready else .done) j)))->k h'):Sb (En.fin l j h) k:=by
 refine sb ?_ (q _ (c.setObj hi _));unfold En.fin;rw[c.obj hi];rfl
def Cx.Cz {i l:Nat} {o:Loop} {st:LoopState} {pd:Option Code} (c:Cx F0 h0 h L) (hi:L[i]?=some (nt l (Lp o st pd))) (hs:st≠.busy):∃h',En.Cz l h=some (pd,h')/\Cx F0 h0 h' (L.set i (nt l (Lp o .exhausted pd))):=by
 refine⟨_,?_,c.setObj hi _⟩;unfold En.Cz;rw[c.obj hi];cases st <;> first | rfl | exact absurd rfl hs
def Cx.Fg {i r:Nat} (c:Cx F0 h0 h L) (hi:L[i]?=some (nt r (.deferred (some [])))) {k:Hp->Prop} (q:∀h',Cx F0 h0 h' (L.set i (nt r (.deferred none)))->k h'):Sb (En.Fg r h) k:=by
 refine sb ?_ (q _ (c.setObj hi _));unfold En.Fg;rw[c.obj hi]
def Cx.rg {g:Value} {round:Nat->List Value->Hp->(Value->Hp->Prop)->Prop} {q:Option Code->Hp->Prop} (c:Cx F0 h0 h L) {f:FuncId} {first cap:List Value} (B:g=.func (.func f) ⟨first⟩ ⟨cap⟩)
  (E:∀l d o h',d=h.size->(∀args h' R,OU o l h'->round l args h' R->Sy jA l args h' R)->Cx F0 h0 h' (L++[nt d (.deferred (some []))]++[nt l (Lp o .ready none)])->
   S.C f (first++[.func (.yield l) #[] #[]]++cap) h' λ_ h2=>∃j A,En.Cz l h2=some (j,A)/\q j A):Rg S.C S.Y g h round q:=by
 intro o ho G H;have u:=(c.yB (.deferred (some []))).yB (.loop o);have J:(h.push (.deferred (some []))).size=h.size+1:=by simp
 rw[J] at u;have K:Obj.loop o=Lp o .ready none:=by unfold Lp; rw[<-ho,<-G]
 refine⟨f,⟨first⟩,⟨cap⟩,B,?_⟩;rw[K] at u⊢;exact E _ _ o _ rfl H u
end Go.En
namespace Go.En
variable {h h0 h':Hp} {F F0:Fp} {R:Value->Hp->Prop} {L:List aX} {B B':Bs}
def QJ (a b:Nat):mn (.int .i64 a) (.int .i64 b)=some (.int .i64 ((min a b:Nat):Int)):=by
 unfold mn;dsimp only;congr 2;split <;> omega
def E0 {a b:List W3} {i:Nat} {x y:W3} (q:a[i]?=some x) (u:b[i]?=some y):kx (a.take (i+1)) (b.take (i+1))=(kx (a.take i) (b.take i)&&decide (x=y)):=by
 have A:=(List.getElem?_eq_some_iff.1 q).1;have E:=(List.getElem?_eq_some_iff.1 u).1;unfold kx;rw[List.take_add_one,List.take_add_one,q,u,List.zip_append (by rw[List.length_take,List.length_take]; omega),List.all_append];simp
def CV {a b:List W3} {i:Nat} {x y:W3} (q:a[i]?=some x) (u:b[i]?=some y) (h:¬x=y):kx a b=false:=by
 unfold kx;rw[List.all_eq_false];exact⟨(x,y),List.mem_of_getElem? (i:=i) (by rw[List.getElem?_zip_eq_some]; exact⟨q,u⟩),by simpa using h⟩
def FA (a b:List W3):kx (a.take (min a.length b.length)) (b.take (min a.length b.length))=kx a b:=by
 unfold kx;rw[<-List.zip_eq_zip_take_min]
section
variable {x:Pc} {s:Pk} {g:cP} {v:Value}
def Le (G:B.p h) (T:DD B s x) (hl:s.ki.length<=1000) (H:∀h',Gr h h'->R (.bool (!decide (s.rounds<2)&&kx s.ki s.now)) h'):oD.1 (Bv x) h R:=by
 obtain⟨du,at',i,rd,now,ki,⟨hv,hq,hr⟩,dU,ov,nx⟩:=x;obtain⟨U,k2,V,Q,J,K,X,Z,k9⟩:=T;dsimp only at U k2 V Q J K X Z k9;subst Q;have c:=Cx.aB h;refine c.tJ λr1 _ c=>?_;refine c.v1 λr2 _ c=>?_;refine aE<|c.rc 0 ?_;refine vx aV<|dW (λ(e:(s.rounds:Int)<2)=>?_) λ(e:¬(s.rounds:Int)<2)=>?_
 ·refine c.w1 1 λ_ c=>?_;refine c.rc 1 ?_;have:=H _ c.gr;rw[decide_eq_true (show s.rounds<2 by omega)] at this;exact this
 rw[decide_eq_false (show ¬s.rounds<2 by omega),Bool.not_false,Bool.true_and] at H;refine aE<|c.rc 0 ?_;refine aE<|c.rc 0 ?_;refine EO.2 ?_;refine c.v1 λa2 _ c=>?_;refine c.v1 λb3 _ c=>?_;refine vx rfl ?_;refine c.rg rfl λl d o h3 hd hY c=>?_;subst hd;refine AI.2 ?_;refine c.rc 2 ?_;refine vx (K _ (B.up G c.gr)).ln ?_;refine c.rc 3 ?_;refine vx (J _ (B.up G c.gr)).ln ?_;refine vx (QJ _ _) ?_;refine oP.by (λ(i:Nat) v h'=>v=.int .i64 i/\i<=min s.ki.length s.now.length/\kx (s.ki.take i) (s.now.take i)=true/\Cx (λ_=>False) h h' [rV r1 _,rV r2 [.bool false],rV a2 [aK ki],rV b3 [aK now],nt _ (.deferred (some [])),nt l (Lp o .ready none)]) (λi=>min s.ki.length s.now.length - i) 0 ⟨rfl,Nat.zero_le _,rfl,c⟩ ?_;rintro i _ h4 ⟨rfl,hi,E,c⟩ again q;refine vx aV<|dW (λM=>?_) λM=>?_
 ·have h1:=List.getElem?_eq_getElem (l:=s.ki) (i:=i) (by omega);have h2:=List.getElem?_eq_getElem (l:=s.now) (i:=i) (by omega);have u:=E0 h1 h2;have A:=CV h1 h2;generalize s.ki[i]'(by omega)=w1 at h1 u A;generalize s.now[i]'(by omega)=w2 at h2 u A;refine c.rc 2 ?_;refine(K _ (B.up G c.gr)).whole rfl h1 rfl ?_;refine c.rc 3 ?_;refine(J _ (B.up G c.gr)).whole rfl h2 rfl ?_;refine .inl (.inr ⟨l,rfl,hY _ _ _ (c.Un (i:=5) rfl) ?_⟩);show A2 [_,_] _;unfold A2;refine c.v3 λx3 _ c=>?_;refine c.w3 6 λ_ c=>?_;refine c.v3 λy4 _ c=>?_;refine c.w3 7 λ_ c=>?_;refine c.Hy (i:=5) rfl λ_ c=>?_;refine c.rl 6 ?_;refine c.rl 7 ?_;refine vx (RS (a:=w1) (b:=w2)) ?_;by_cases N:w1=w2
  ·rw[decide_eq_true N] at u⊢;refine aN ?_;refine c.SA (i:=5) none rfl λ_ c=>?_;refine vx rfl<|aN ?_;refine vx (inc (by omega)) ?_;exact q (i+1) _ _ ⟨rfl,by omega,by rw[u,E]; rfl,c.pick [0,1,2,3,4,5]⟩ (by omega)
  ·rw[decide_eq_false N];refine bU ?_;replace c:=c.n8;refine c.w1 1 λ_ c=>?_;refine c.SA (i:=5) (some .ret) rfl λ_ c=>?_;refine vx rfl<|bU ?_;obtain⟨O,e,c⟩:=c.Cz (i:=5) rfl (by simp);refine⟨_,_,e,?_⟩;unfold Jp;refine c.Fg (i:=4) rfl λ_ c=>?_;refine c.rc 1 ?_;have:=H _ c.gr;rw[A N] at this;exact this
 ·obtain⟨O,e,c⟩:=c.Cz (i:=5) rfl (by simp);refine⟨_,_,e,?_⟩;unfold Jp;replace c:=c.n6;refine c.w1 1 λ_ c=>?_;refine c.Fg (i:=4) rfl λ_ c=>?_;refine c.rc 1 ?_;have:=H _ c.gr;obtain rfl:i=min s.ki.length s.now.length:=by omega
  rw[<-FA,E] at this;exact this
end
structure Te (s:Pk):Prop where
 S4:1<=s.at'.length/\s.at'.length<=1000
 rd:s.rounds<=1000000000
 now:s.now.length<=1000
 ki:s.ki.length<=1000
section
variable {x:Pc} {s:Pk} {g:cP} {v:Value} {w:W3}
def Ji.of {out:PR} (u:Ji h B out R) {q:Value} {M:List aX} {h1:Hp} (c:Cx (λ_=>False) h h1 [aD M]) (ok:Fk (B.and M) q out.1):R (.tuple #[q,lD out.2.1]) h1:=u q M h1 c ok
def LH (Z:B.p h) (hx:DD B s x) (ho:x.ov=false) (ok:Te s) (E:Ji h B (mQ s) R):ou.1 (Bv x) h R:=by
 obtain⟨du,at',i,rd,now,ki,⟨hv,U,V⟩,dU,ov,nx⟩:=x;obtain⟨k1,k2,k3,k4,K,X,N,O,Q⟩:=hx;obtain⟨⟨o1,o2⟩,o3,o4,o5⟩:=ok;dsimp only at k1 k2 k3 k4 K X N O Q ho;subst ho k4 k1;unfold mQ at E;dsimp only at E;have c:=Cx.aB h;refine c.tJ λ_ _ c=>?_;refine c.tJ λ_ _ c=>?_;refine c.v8 λ_ _ c=>?_;refine aE<|c.rc 0 ?_;refine vx (inc (by omega))<|aE<|c.Bb 0 λ_ c=>?_;refine .here<|aE<|c.rc 0 ?_;refine bU<|c.rl 0 ?_;refine oD.2 (Le (s:={s with rounds:=s.rounds+1}) (x:=⟨s.cH,at',i,((s.rounds+1:Nat):Int),now,ki,⟨hv,U,V⟩,dU,false,nx⟩) (B.up Z c.gr) ⟨rfl,k2,k3,rfl,K,X,N,O,Q⟩ o5 λ_ g=>?_);have c:=c.more g;dsimp only;generalize G:(!decide (s.rounds+1<2)&&kx s.ki s.now)=al;refine vx rfl<|En.br (λA=>?_) λA=>?_
 ·refine aE<|c.rc 0 ?_;refine aE<|c.Bb 0 λ_ c=>?_;refine aE<|c.Bb 0 λ_ c=>?_;refine aE<|c.Bb 0 λ_ c=>?_;refine c.rl 0 ?_;rw[if_pos (by
   rw[Bool.not_eq_true'] at A;rw[A] at G;rcases Bool.and_eq_false_iff.1 G with h1 | h1
   ·exact .inl (by simpa using h1)
   ·exact .inr h1)] at E
  refine fE.2 (uR (s:={s with rounds:=s.rounds+1,ki:=s.now,now:=[],i:=0}) (x:=⟨s.cH,at',0,((s.rounds+1:Nat):Int),(none,0,0),now,⟨hv,U,V⟩,dU,false,nx⟩) (B.up Z c.gr) ⟨rfl,k2,rfl,rfl,(λ_ _=>Sl.nil),K,N,O,Q⟩ rfl (by dsimp only; omega) λv' M _ d H=>?_);have c:=c.aF d;obtain⟨x2,rfl,q,J⟩:=H;have n1:=q.dU;have n2:=q.nx;replace c:=c.n4;refine vx rfl<|vx rfl<|c.Dk 1 λ_ c=>?_;refine c.w8 2 λ_ c=>?_;refine c.rl 1 ?_;refine c.rl 2 ?_;exact E.of (c.pick [3]) ⟨x2,rfl,q,J⟩
 ·refine aE<|c.rc 0 ?_;have T:¬(s.rounds+1<2\/kx s.ki s.now=false):=by
   rw[Bool.not_eq_false'] at A;rw[A] at G;obtain⟨h1,h2⟩:=Bool.and_eq_true_iff.1 G;rintro(h3 | h3)
   ·simp at h1; omega
   ·rw[h2] at h3; cases h3
  rw[if_neg T] at E;refine vx rfl<|En.br (λu=>?_) λu=>?_
  ·refine aE<|c.Bb 0 λ_ c=>?_;refine c.rl 0 ?_;refine vx (aG (ds:=[_,_,_,_,_,_,_,_]) rfl)<|c.Dk 1 λ_ c=>?_;refine c.w8 2 λ_ c=>?_;refine c.rl 1 ?_;refine c.rl 2 ?_;have u:s.cH=false:=by simpa using u
   rw[if_neg (by rw[u]; decide)] at E;exact E.ret (x:=⟨s.cH,at',i,((s.rounds+1:Nat):Int),now,ki,⟨hv,U,V⟩,dU,true,nx⟩) c.gr ⟨rfl,k2,k3,rfl,K,X,N,O,Q⟩ rfl
  ·refine aE<|c.Bb 0 λ_ c=>?_;refine c.rl 0 ?_;refine vx (aG (ds:=[_,_,_,_]) rfl) ?_;rw[Bool.not_eq_false'] at u;rw[if_pos u] at E;refine lx.2 (Eo (g:=kq) (s:={s with rounds:=s.rounds+1,i:=0}) (x:=⟨s.cH,at',0,((s.rounds+1:Nat):Int),now,ki,⟨hv,U,V⟩,dU,false,nx⟩) (B.up Z c.gr) ⟨rfl,k2,rfl,rfl,K,X,N,O,Q⟩ rfl o2 λv' M _ d H=>?_);have c:=c.aF d;obtain⟨x2,rfl,q,J⟩:=H;have n1:=q.dU;have n2:=q.nx;replace c:=c.n4;refine vx rfl<|vx rfl<|c.Dk 1 λ_ c=>?_;refine c.w8 2 λ_ c=>?_;refine c.rl 1 ?_;refine c.rl 2 ?_;exact E.of (c.pick [3]) ⟨x2,rfl,q,J⟩
def Ez (T:B.p h) (hx:DD B s x) (ho:x.ov=false) (U:x.nx=kB 236) (hi:s.i<s.at'.length) (hl:s.at'.length<=1000) {u:Value} (V:x.dU=.iface 376 u) {q:List Hs × Ac × Bool} (hN:Ij B u g q) (X:Bx q) {out:PR}
  (E:∀hs a,q=(hs,a,false)->out=({s with ph:=.fZ hs},a,false))
  (G:∀t a,q=([t],a,true)->out=if ¬t.aO=4 then pW s else({s with ph:=.back},⟨6,s7 s,s.held,⟨s.held.v,s.held.aO,0⟩⟩,false)) (Z:Ji h B out R):kW.1 (Bv x) (eI g) h R:=by
 obtain⟨du,at',i,rd,now,ki,⟨hv,hq,hr⟩,dU,ov,nx⟩:=x;obtain⟨k1,k2,H,k4,k5,k6,k7,k8,k9⟩:=hx;dsimp only at k1 k2 H k4 k5 k6 k7 k8 k9 ho U V;subst ho U V;obtain⟨⟨gv,gq,gr⟩,gk⟩:=g;have hp:=G4 hi;obtain⟨hs,a,d⟩:=q;cases d with
 | false=>
  have e1:=E hs a rfl;subst e1;have c:=Cx.aB h;refine c.tJ λ_ _ c=>?_;refine c.v4 λ_ _ c=>?_;refine c.tJ λ_ _ c=>?_;refine c.v8 λ_ _ c=>?_;refine aE<|c.rc 0 ?_;refine c.rl 1 ?_;refine⟨_,_,_,rfl,kQ,hN _ _ (B.up T c.gr) λJ M _ dd K=>?_⟩;have c:=c.aF dd;replace c:=c.n5;refine vx rfl<|vx rfl<|vx rfl<|c.v8 λ_ _ c=>?_;refine c.w8 5 λ_ c=>?_;refine aE<|c.Bb 0 λ_ c=>?_;refine vx (v:=.bool true) (rfl)<|bU<|c.rl 0 ?_;refine c.rl 5 ?_;refine c.Dk 2 λ_ c=>?_;refine c.al 5 ?_;refine c.w8 3 λ_ c=>?_;refine c.rl 2 ?_;refine c.rl 3 ?_;exact Z.of (c.pick [4]) ⟨⟨du,at',i,rd,now,ki,⟨hv,hq,hr⟩,.iface 376 J,false,_⟩,rfl,DD.le ⟨k1,k2,H,k4,k5,k6,k7,rfl,rfl⟩ (Bs.aJ _ _),rfl,rfl,J,rfl,K⟩
 | true=>
  obtain⟨tt,ht,eQ⟩:=X rfl;dsimp only at ht;subst ht;have e1:=G tt a rfl;subst e1;obtain⟨iF,sat,si,iN,aS,aT,iS,oF⟩:=s;dsimp only at k1 k2 H k4 k5 k6 k7 hi hl hp;subst k7;have c:=Cx.aB h;refine c.tJ λ_ _ c=>?_;refine c.v4 λ_ _ c=>?_;refine c.tJ λ_ _ c=>?_;refine c.v8 λ_ _ c=>?_;refine aE<|c.rc 0 ?_;refine c.rl 1 ?_;refine⟨_,_,_,rfl,kQ,hN _ _ (B.up T c.gr) λJ M _ dd K=>?_⟩;have c:=c.aF dd;replace c:=c.n5;refine vx rfl<|vx rfl<|vx rfl<|c.v8 λ_ _ c=>?_;refine c.w8 5 λ_ c=>?_;refine aE<|c.Bb 0 λ_ c=>?_;refine vx (v:=.bool false) (rfl)<|aN<|py K eQ λ_ g=>?_;have c:=c.more g;refine vx rfl<|vx rfl<|aE<|c.Bb 0 λ_ c=>?_;refine vx dZ<|dW (λO=>?_) λO=>?_
  ·refine c.rl 0 ?_;rw[if_pos O] at Z;refine fE.2 (uR (s:=⟨iF,sat,si,iN,aS,aT,⟨hv,hq,hr⟩,oF⟩) (x:=⟨du,at',i,rd,now,ki,⟨hv,hq,hr⟩,.nilIface,false,_⟩) (B.up T c.gr) ⟨k1,k2,H,k4,k5,k6,rfl,rfl,rfl⟩ rfl hi λv' N _ d oR=>?_);have c:=c.aF d;obtain⟨x2,rfl,Q,rW⟩:=oR;have n1:=Q.dU;have n2:=Q.nx;replace c:=c.n7;refine vx rfl<|vx rfl<|c.Dk 2 λ_ c=>?_;refine c.w8 3 λ_ c=>?_;refine c.rl 2 ?_;refine c.rl 3 ?_;exact Z.of (c.pick [6]) ⟨x2,rfl,Q,rW⟩
  ·refine aE<|c.Bb 0 λ_ c=>?_;refine c.rl 0 ?_;refine aE<|c.rc 0 ?_;refine aE<|c.rc 0 ?_;obtain⟨r5,o5,e5,bY,_⟩:=(k2 _ (B.up T c.gr)).ix hp (n:=1) rfl (k:=.i64) (z:=i) H;refine vx e5<|vx (bY.rq rfl)<|aE<|vx (c.vp (i:=0) (ds:=[_,_,_]) rfl rfl rfl)<|aE<|aE<|c.rc 0 ?_;refine aE<|aE<|c.rc 0 ?_;refine vx (aG (ds:=[_,_,_]) rfl)<|vx (aG (ds:=[_,_,_,_,_,_,_,_]) rfl)<|c.Dk 2 λ_ c=>?_;refine c.ac 0 ?_;refine c.ac 0 ?_;refine And.intro (c.vp (i:=0) (ds:=[_,_,_]) rfl rfl rfl) ?_;refine And.intro (by obtain⟨r6,o6,A,dO,_⟩:=(k2 _ (B.up T c.gr)).ix hp (n:=1) rfl (k:=.i64) (z:=i) H; rw[e5] at A; injection A with A; injection A with A; injection A with A; injection A with e7 e8; subst e7 e8; exact dO.rq rfl) ?_;refine c.ac 0 ?_;refine c.ac 0 ?_;refine c.w8 3 λ_ c=>?_;refine c.rl 2 ?_;refine c.rl 3 ?_;rw[if_neg O] at Z;exact Z.ret (x:=⟨du,at',i,rd,now,ki,⟨hv,hq,hr⟩,.nilIface,false,kB 260⟩) c.gr ⟨k1,k2,H,k4,k5,k6,rfl,rfl,rfl⟩ ⟨rfl,rfl⟩
def ON {r:Int} (h:0<=r):0<=aZ r:=by
 unfold aZ;split
 ·exact Int.ediv_nonneg h (by decide)
 ·exact Int.le_refl _
def KU (N:B.p h) (hZ:On B Zs) (hx:DD B s x) (ho:x.ov=false) (hi:s.i<s.at'.length) (ok:Te s) (hn:s.now.length<1000) (hw:Ww g.w) (K:Ji h B (oY s g.w) R):oM.1 (Bv x) (eI g) h R:=by
 obtain⟨du,at',i,rd,now,ki,⟨hv,hq,hr⟩,dU,ov,nx⟩:=x;obtain⟨k1,k2,k3,k4,k5,k6,k7,k8,k9⟩:=hx;obtain⟨o1,o3,o4,o5⟩:=ok;dsimp only at k1 k2 k3 k4 k5 k6 k7 k8 k9 ho;subst ho k3 k1;obtain⟨⟨A,E,wr⟩,gk⟩:=g;dsimp only at hw K;obtain⟨aT,bY,G⟩:=hw;dsimp only at aT bY G;have iN:=ON G.1;unfold oY at K;dsimp only at K;by_cases O:0<aZ wr/\0<=aC (aZ wr)
 ·rw[if_pos O] at K;have Q:∀B',B.le B'->Ij B' (j7 (bK (Hs.new wr s.cH) (none,0,0) (none,0,0) .nilIface)) kq ([{Hs.new wr s.cH with nx:=.first}],⟨5,aC (aZ wr),W0,W0⟩,false):=λB' l=>by
   have:=fX (B:=B') (g:=kq) (hs:=[Hs.new wr s.cH]) (v:=j7 (bK (Hs.new wr s.cH) (none,0,0) (none,0,0) .nilIface)) (hZ.le l) J7 ⟨_,_,rfl,λ_ _=>Sl.nil,λ_ _=>Sl.nil⟩ ⟨rfl,Nat.zero_le _,O.2,λx hx=>(List.not_mem_nil hx).elim,J7,trivial⟩ λs hs ha=>by
    obtain rfl:=List.mem_singleton.1 hs;cases ha
   rw[ry] at this;exact this
  have c:=Cx.aB h;refine c.tJ λ_ _ c=>?_;refine c.v4 λ_ _ c=>?_;refine c.tJ λ_ _ c=>?_;refine c.v8 λ_ _ c=>?_;refine aE<|vx (c.vp (i:=1) (ds:=[_,_,_]) rfl rfl rfl)<|c.v3 λ_ _ c=>?_;refine c.w3 4 λ_ c=>?_;refine .here<|aE<|c.rc 4 ?_;refine qE G λ_ g=>?_;have c:=c.more g;refine vx rfl<|vx rfl<|vx (zH O.1)<|bU<|aE<|vx (c.vp (i:=0) (ds:=[_,_,_]) rfl rfl rfl)<|aE<|c.rc 4 ?_;refine aE<|c.rc 0 ?_;refine jK (hZ _ (B.up N c.gr)) G λ_ g=>?_;have c:=c.more g;rw[if_pos (show ¬aZ wr=0/\0<=aC (aZ wr) from⟨by omega,O.2⟩)];refine vx rfl<|vx rfl<|vx (v:=.bool true) rfl<|bU<|c.rl 4 ?_;refine aE<|c.vq 0 rfl (vs:=[_,_,_]) (ds:=[_,_,_,_,_,_,_,_,_,_,_,_,_,_,_,_]) (by exact rfl) (by exact rfl) (by exact rfl) (by exact rfl) (by exact rfl) λ_ c=>?_;replace c:=c.n5;refine aE<|c.Bb 0 λ_ c=>?_;refine aE<|c.Bb 0 λ_ c=>?_;refine c.rl 0 ?_;refine vx (aG (ds:=[_,_,_,_]) rfl)<|kW.2 (Ez (g:=kq) (s:={s with held:=⟨A,E,wr⟩}) (x:=⟨s.cH,at',s.i,rd,now,ki,⟨A,E,wr⟩,_,false,kB 236⟩) (B.up N c.gr) ⟨rfl,k2,rfl,k4,k5,k6,rfl,rfl,rfl⟩ rfl rfl hi o1.2 rfl (Q B (Bs.le_refl B)) (λx=>by cases x) (λhs a e=>by cases e; rfl) (λ_ _ e=>by cases e) λv' M _ d H=>?_);have c:=c.aF d;obtain⟨T,rfl,q,J⟩:=H;have n1:=q.dU;have n2:=q.nx;replace c:=c.n6;refine vx rfl<|vx rfl<|c.Dk 2 λ_ c=>?_;refine c.w8 3 λ_ c=>?_;refine c.rl 2 ?_;refine c.rl 3 ?_;exact K.of (c.pick [5]) ⟨T,rfl,q,J⟩
 ·rw[if_neg O] at K;have c2:¬(¬aZ wr=0/\0<=aC (aZ wr)):=λx=>O ⟨by omega,x.2⟩;have c:=Cx.aB h;refine c.tJ λU _ c=>?_;refine c.v4 λV _ c=>?_;refine c.tJ λX _ c=>?_;refine c.v8 λZ _ c=>?_;refine aE<|vx (c.vp (i:=1) (ds:=[_,_,_]) rfl rfl rfl)<|c.v3 λaS _ c=>?_;refine c.w3 4 λ_ c=>?_;refine Cm.at (λh'=>Cx (λ_=>False) h h' [rV U (TQ ⟨s.cH,at',s.i,rd,now,ki,⟨hv,hq,hr⟩,dU,false,nx⟩),rV V [.int .i64 A,.int .u32 E,.int .u32 wr,.bool gk],rV X yN.toList,rV Z jQ.toList,rV aS (cW ⟨A,E,wr⟩)]) ?_ ?_
  ·refine aE<|c.rc 4 ?_;refine qE G λ_ g=>?_;have c:=c.more g;refine vx rfl<|vx rfl<|vx eY<|dW (λdO=>?_) λdO=>?_
   ·refine aE<|vx (c.vp (i:=0) (ds:=[_,_,_]) rfl rfl rfl)<|aE<|c.rc 4 ?_;refine aE<|c.rc 0 ?_;refine jK (hZ _ (B.up N c.gr)) G λ_ g=>?_;have c:=c.more g;rw[if_neg c2];exact vx rfl<|vx rfl<|vx (v:=.bool false) rfl<|aN<|c.pick [0,1,2,3,4]
   ·exact c.pick [0,1,2,3,4]
  ·rintro iS c;replace c:=c.n5;refine Cm.at (λh'=>∃u,Cx (λ_=>False) h h' [rV U (TQ ⟨s.cH,at',s.i,rd,u,ki,⟨hv,hq,hr⟩,dU,false,nx⟩),rV V [.int .i64 A,.int .u32 E,.int .u32 wr,.bool gk],rV X yN.toList,rV Z jQ.toList,rV aS (cW ⟨A,E,wr⟩),bJ EW (aK u) (s.now++[⟨A,E,wr⟩])]) ?_ ?_
   ·refine aE<|c.rc 0 ?_;refine c.rl 4 ?_;refine⟨?_,?_⟩
    ·refine uJ (k5 _ (B.up N c.gr)) (by omega) λcl _ d=>?_;have c:=c.aF d;replace c:=c.n6;refine c.al 4 ?_;refine c.dN EW ⟨A,E,wr⟩ rfl rfl λ_ _ c=>?_;replace c:=c.n7;refine c.ap 5 rfl (c.sl (i:=6) rfl).sl rfl rfl (by simp only[List.length_cons,List.length_nil]; omega) (by simp only[List.length_cons,List.length_nil]; omega) λeQ _ c=>?_;obtain⟨u8,rfl⟩:=(c.sl (i:=5) rfl).ol;replace c:=c.n7;refine aE<|c.Bb 0 λ_ c=>?_;exact⟨u8,c.pick [0,1,2,3,4,5]⟩
    ·refine c.dN EW ⟨A,E,wr⟩ rfl rfl λ_ _ c=>?_;replace c:=c.n6;refine c.ac 0 ?_;refine uJ (k5 _ (B.up N c.gr)) (by omega) λcl _ d=>?_;have c:=c.aF d;replace c:=c.n7;refine c.ap 6 rfl (c.sl (i:=5) rfl).sl rfl rfl (by simp only[List.length_cons,List.length_nil]; omega) (by simp only[List.length_cons,List.length_nil]; omega) λeQ _ c=>?_;obtain⟨u8,rfl⟩:=(c.sl (i:=6) rfl).ol;replace c:=c.n7;refine aE<|c.Bb 0 λ_ c=>?_;exact⟨u8,c.pick [0,1,2,3,4,6]⟩
   ·rintro oF ⟨un,c⟩;replace c:=c.n6;refine aE<|c.rc 0 ?_;refine vx (inc (by omega))<|aE<|c.Bb 0 λ_ c=>?_;refine aE<|c.rc 0 ?_;refine aE<|c.rc 0 ?_;refine vx (k2 _ (B.up N c.gr)).ln<|vx aV<|dW (λiF=>?_) λiF=>?_
    ·refine c.rl 0 ?_;rw[if_pos (show s.i+1<s.at'.length by omega)] at K;have c:=Cx.pack (L:=[_,_,_,_,_]) (M:=[bJ EW (aK un) (s.now++[⟨A,E,wr⟩])]) c;refine fE.2 (uR (B:=B.and [bJ EW (aK un) (s.now++[⟨A,E,wr⟩])]) (s:={s with now:=s.now++[⟨A,E,wr⟩],i:=s.i+1}) (x:=⟨s.cH,at',((s.i+1:Nat):Int),rd,un,ki,⟨hv,hq,hr⟩,dU,false,nx⟩) ⟨B.up N c.gr,c.get (i:=5) rfl⟩ ⟨rfl,k2.le (Bs.aJ _ _),rfl,k4,On.sl (i:=0) rfl,k6.le (Bs.aJ _ _),k7,k8,k9⟩ rfl (by dsimp only; omega) λv' M _ d H=>?_);have c:=c.aF d;obtain⟨T,rfl,q,J⟩:=H;have n1:=q.dU;have n2:=q.nx;replace c:=c.n7;refine vx rfl<|vx rfl<|c.Dk 2 λ_ c=>?_;refine c.w8 3 λ_ c=>?_;refine c.rl 2 ?_;refine c.rl 3 ?_;exact K.of (M:=[aD [bJ EW (aK un) (s.now++[⟨A,E,wr⟩])],aD M]) (Cx.pack (L:=[]) (M:=[aD [bJ EW (aK un) (s.now++[⟨A,E,wr⟩])],aD M]) (c.pick [5,6])) (Fk.le ⟨T,rfl,q,J⟩ Bs.Ay)
    ·refine c.rl 0 ?_;rw[if_neg (show ¬s.i+1<s.at'.length by omega)] at K;have c:=Cx.pack (L:=[_,_,_,_,_]) (M:=[bJ EW (aK un) (s.now++[⟨A,E,wr⟩])]) c;refine ou.2 (LH (B:=B.and [bJ EW (aK un) (s.now++[⟨A,E,wr⟩])]) (s:={s with now:=s.now++[⟨A,E,wr⟩],i:=s.i+1}) (x:=⟨s.cH,at',((s.i+1:Nat):Int),rd,un,ki,⟨hv,hq,hr⟩,dU,false,nx⟩) ⟨B.up N c.gr,c.get (i:=5) rfl⟩ ⟨rfl,k2.le (Bs.aJ _ _),rfl,k4,On.sl (i:=0) rfl,k6.le (Bs.aJ _ _),k7,k8,k9⟩ rfl ⟨o1,o3,by simp only[List.length_append,List.length_cons,List.length_nil]; omega,o5⟩ λv' M _ d H=>?_);have c:=c.aF d;obtain⟨T,rfl,q,J⟩:=H;have n1:=q.dU;have n2:=q.nx;replace c:=c.n7;refine vx rfl<|vx rfl<|c.Dk 2 λ_ c=>?_;refine c.w8 3 λ_ c=>?_;refine c.rl 2 ?_;refine c.rl 3 ?_;exact K.of (M:=[aD [bJ EW (aK un) (s.now++[⟨A,E,wr⟩])],aD M]) (Cx.pack (L:=[]) (M:=[aD [bJ EW (aK un) (s.now++[⟨A,E,wr⟩])],aD M]) (c.pick [5,6])) (Fk.le ⟨T,rfl,q,J⟩ Bs.Ay)
end
def xV:PP->Bool
 | .over=>true
 | _=>false
def Jg (s:Pk):Prop:=Te s/\match s.ph with
 | .found=>s.i<s.at'.length/\s.now.length<1000
 | .fZ hs=>s.i<s.at'.length/\yi hs/\∀s∈hs,s.nx=.again->s.i<s.es.length
 | .back=>s.i<s.at'.length
 | .flush=>True
 | .last=>True
 | .over=>False
def UO (h:Hp) (B:Bs) (out:PR) (R:Value->Hp->Prop):Prop:=∀q,Rt B h (λB=>Fk B q out.1) λh'=>R (.tuple #[.iface 336 q,lD out.2.1,.bool out.2.2]) h'
def QW.ov {x:Pc}:∀{p:PP},QW B x p->x.ov=xV p
 | .found,H=>H.2
 | .fZ _,H=>H.2.1
 | .back,H=>H.2
 | .flush,H=>H.2
 | .last,H=>H.2
 | .over,H=>H
def Ba {s:Pk}:(jW s).2.2=xV (jW s).1.ph:=by unfold jW; split <;> rfl
def Jc {s:Pk}:(mQ s).2.2=xV (mQ s).1.ph:=by
 unfold mQ;dsimp only;split
 ·rfl
 ·split
  ·exact Ba
  ·rfl
def JF {s:Pk} {w:W3}:(oY s w).2.2=xV (oY s w).1.ph:=by
 unfold oY;split
 ·rfl
 ·dsimp only;split
  ·rfl
  ·exact Jc
def Eg {s:Pk} {g:cP}:(iC s g).2.2=xV (iC s g).1.ph:=by
 unfold iC;cases q:s.ph with
 | found=>exact JF
 | fZ hs=>
  dsimp only;split
  ·rfl
  ·split <;> rfl
 | back=>rfl
 | flush=>exact Ba
 | last=>rfl
 | over=>dsimp only; rw[q]; rfl
section
variable {x:Pc} {s:Pk} {g:cP} {v:Value} {w:W3}
def pu {out:PR} (Z:DD B s x) (ho:x.ov=false) (A:out.2.2=xV out.1.ph) (X:∀h1 K,Gr h h1->Ji h1 B out K->Cw S.C S.Y I.mt x.nx [Bv x,eI g] h1 K) (hR:UO h B out R):gF.1 (Bv x) (eI g) h R:=by
 obtain⟨du,at',i,rd,now,ki,⟨hv,hq,hr⟩,dU,ov,nx⟩:=x;obtain⟨k1,k2,k3,k4,k5,k6,k7,k8,k9⟩:=Z;dsimp only at k8 k9 ho X;subst ho;obtain⟨⟨gv,gq,gr⟩,gk⟩:=g;obtain⟨so,⟨ao,aa,⟨ov,oq,or⟩,⟨nv,nq,nr⟩⟩,d⟩:=out;dsimp only at A;subst A;have c:=Cx.aB h;refine c.tJ λ_ _ c=>?_;refine c.v4 λ_ _ c=>?_;refine c.v8 λ_ _ c=>?_;refine aE<|c.rc 0 ?_;refine aN<|aE<|c.rc 0 ?_;refine c.rl 0 ?_;refine c.rl 1 ?_;refine X _ _ c.gr λv' M _ d2 N=>?_;have c:=c.aF d2;obtain⟨⟨O,Q,i2,T,E,G,q,H,U,V⟩,rfl,u,J⟩:=N;have n1:=u.dU;have n2:=u.nx;obtain rfl:U=xV so.ph:=J.ov;dsimp only at n1 n2;replace c:=c.n4;refine vx rfl<|vx rfl<|c.tJ λ_ _ c=>?_;refine c.v8 λ_ _ c=>?_;refine c.Dk 4 λ_ c=>?_;refine c.w8 5 λ_ c=>?_;refine c.rl 4 ?_;refine vx rfl<|c.rl 5 ?_;refine aE<|c.rc 4 ?_;refine c.w8 2 λ_ c=>?_;refine c.ac 4 ?_;refine c.rl 2 ?_;exact hR _ M _ (c.pick [3]) ⟨⟨O,Q,i2,T,E,G,q,H,_,V⟩,rfl,u,J⟩
def Qb (O:B.p h) (Q:On B Zs) (hv:Fk B v s) (ok:Jg s) (T:Ww g.w) (H:UO h B (iC s g) R):gF.1 v (eI g) h R:=by
 obtain⟨x,rfl,J,E⟩:=hv;obtain⟨N,q⟩:=ok;have A:=Eg (s:=s) (g:=g);unfold iC at H A;cases G:s.ph with
 | found=>
  rw[G] at E q H A;refine pu J E.2 A (λh1 K gr M=>?_) H;rw[E.1];exact .inl (.inl ⟨_,#[],#[],rfl,oM.2 (KU (B.up O gr) Q J E.2 q.1 N q.2 T M)⟩)
 | fZ hs=>
  rw[G] at E q H A;obtain⟨U,p2,u,V,X⟩:=E;refine pu J p2 A (λh1 K gr M=>?_) H;rw[U];refine .inl (.inl ⟨_,#[],#[],rfl,kW.2 (Ez (B.up O gr) J p2 U q.1 N.S4.2 V (fX Q T X q.2.1 q.2.2) (iV q.2.1) (λhs a e=>?_) (λt a e=>?_) M)⟩)
  ·dsimp only; rw[e]
  ·dsimp only; rw[e]; rfl
 | back=>
  rw[G] at E q H A;refine pu J E.2 A (λh1 K gr M=>?_) H;rw[E.1];exact .inl (.inl ⟨_,#[],#[],rfl,mS.2 (IR (B.up O gr) J E.2 q M)⟩)
 | flush=>
  rw[G] at E H A;refine pu J E.2 A (λh1 K gr M=>?_) H;rw[E.1];exact .inl (.inl ⟨_,#[],#[],rfl,lx.2 (Eo (B.up O gr) J E.2 N.S4.2 M)⟩)
 | last=>
  rw[G] at E H A;refine pu J E.2 A (λh1 K gr M=>?_) H;rw[E.1];exact .inl (.inl ⟨_,#[],#[],rfl,mX.2 (IU J M)⟩)
 | over=>rw[G] at q; exact q.elim
end
section
variable {x:Pc} {s:Pk} {g:cP} {v:Value} {w:W3} {ls:List Int} {a:Int}
def FH (hs:Sl mf h v ls) (A:a∉ls) (H:ls.length<=1000) (E:∀h',Gr h h'->R (.int .i64 (-1)) h'):gK.1 v (.int .i64 a) h R:=by
 have J:=Cx.aB h;have c:=Cx.aB h;refine vx hs.ln<|oP.by (λ(i:Nat) v h'=>v=.int .i64 i/\i<=ls.length/\Cx (λ_=>False) h h' []) (λi=>ls.length - i) 0 ⟨rfl,Nat.zero_le _,c⟩ ?_;rintro i _ K ⟨rfl,hi,c⟩ again q;refine vx aV<|dW (λG=>?_) λG=>?_
 ·have h1:=List.getElem?_eq_getElem (l:=ls) (i:=i) (by omega);have hm:=List.mem_of_getElem? h1;generalize ls[i]'(by omega)=p at h1 hm;refine(hs.gr c.gr).one rfl h1 rfl (u:=.int .i64 p) rfl ?_;exact vx (fG (λe=>A (e▸hm)))<|aN<|vx (inc (by omega))<|q (i+1) _ _ ⟨rfl,by omega,c⟩ (by omega)
 ·exact E _ c.gr
def AN (hs:Sl mf h v ls) (q:a∉ls) (u:ls.length<=1000) (A:∀h',Gr h h'->R (.bool false) h'):fO.1 v (.int .i64 a) h R:=by
 have c:=Cx.aB h;refine gK.2 (FH (hs.gr c.gr) q u λ_ g=>?_);have c:=c.more g;exact vx (v:=.bool false) rfl<|A _ c.gr
structure R7 (ls:List Int):Prop where
 len:1<=ls.length/\ls.length<=256
 may:∀a∈ls,gX a=true
 nd:ls.Nodup
def K4 (K:Zs h) (hs:Sl mf h v ls) (ok:R7 ls) (N:∀h',Gr h h'->R (.int .i64 0) h'):vy.1 vL v h R:=by
 obtain⟨⟨X,Z⟩,O,Q⟩:=ok;have c:=Cx.aB h;refine c.v3 λH _ c=>?_;refine c.rl 0 ?_;refine cS _ _ (K.gr c.gr) λ_ g=>?_;have c:=c.more g;refine vx (v:=.bool false) rfl<|aN<|vx hs.ln<|vx (fG (by omega))<|aN<|vx hs.ln<|vx (ka (by omega))<|aN<|vx hs.ln<|oP.by (λ(i:Nat) v h'=>v=.int .i64 i/\i<=ls.length/\Cx (λ_=>False) h h' [rV H [.int .i64 3,.int .i64 6,.int .i64 4]]) (λi=>ls.length - i) 0 ⟨rfl,Nat.zero_le _,c⟩ ?_;rintro i _ h4 ⟨rfl,hi,c⟩ again q;refine vx aV<|dW (λJ=>?_) λJ=>?_
 ·have h1:=List.getElem?_eq_getElem (l:=ls) (i:=i) (by omega);have hm:=List.mem_of_getElem? h1;have E:ls[i]'(by omega)∉ls.take i:=by
   intro T;obtain⟨j,hj,e⟩:=List.mem_take_iff_getElem.1 T;have:=(List.getElem_inj Q).1 e;omega
  generalize ls[i]'(by omega)=p at h1 hm E;have A:=O p hm;have M:=uN A;refine(hs.gr c.gr).one rfl h1 rfl (u:=.int .i64 p) rfl ?_;refine c.rl 0 ?_;refine iR (a:=p) ⟨by omega,by omega⟩ _ _ (K.gr c.gr) λ_ g=>?_;have c:=c.more g;rw[A];refine vx (v:=.bool false) (rfl)<|aN ?_;have G:=(hs.gr c.gr).sub (n:=1) rfl (lo:=none) (hi:=some (.int .i64 i)) (l:=0) (u:=i) (.inl ⟨rfl,rfl⟩) (.inr ⟨_,_,rfl,rfl⟩) (Nat.zero_le _) (by omega);obtain⟨w,U,V,_⟩:=G;refine vx U<|fO.2 (AN V E (by rw[List.drop_zero,List.length_take]; omega) λ_ g=>?_);have c:=c.more g;exact aN<|vx (inc (by omega))<|q (i+1) _ _ ⟨rfl,by omega,c⟩ (by omega)
 ·exact N _ c.gr
abbrev P4 (du:Bool) (l:SH):Pc:=⟨du,l,0,0,(none,0,0),(none,0,0),W0,.nilIface,false,kB 210⟩
def Nh {du:Bool} (q:Zs h) (hs:Sl mf h v ls) (ok:R7 ls) (u:∀l h',Cx (λ_=>False) h h' [bJ mf (aK l) ls]->R (.tuple #[.iface 336 (Bv (P4 du l)),.int .i64 0]) h'):xx.1 vL (.bool du) (.bool true) v h R:=by
 have A:=ok.len;have c:=Cx.aB h;refine c.v3 λ_ _ c=>?_;refine c.rl 0 ?_;refine vy.2 (K4 (q.gr c.gr) (hs.gr c.gr) ok λ_ g=>?_);have c:=c.more g;refine vx (v:=.bool false) rfl<|aN<|vx hs.ln<|c.zq mf 0 rfl rfl rfl (by omega) (by decide) λa _ c=>?_;replace c:=c.n2;refine c.CC 1 rfl (hs.gr c.gr) (by rw[List.length_replicate]) rfl λ_ c=>?_;replace c:=c.n2;refine c.rl 0 ?_;exact vx (aG (ds:=[_,_,_,_,_,_,_,_,_,_,_,_,_,_,_,_]) rfl)<|vx rfl<|u (some a,_,_) _ (c.pick [1])
def DZ {du:Bool} (q:Zs h) (hs:Sl mf h v ls) (ok:R7 ls) (u:∀l h',Cx (λ_=>False) h h' [bJ mf (aK l) ls]->R (.tuple #[.iface 336 (Bv (P4 du l)),.int .i64 0]) h'):S.C 199 [vL,(.bool du),v] h R:=by
 refine ym.2 ?_;have c:=Cx.aB h;refine c.v3 λ_ _ c=>?_;refine c.rl 0 ?_;refine xx.2 (Nh (q.gr c.gr) (hs.gr c.gr) ok λl _ d=>?_);have c:=c.aF d;replace c:=c.n2;exact vx rfl<|vx rfl<|u l _ (c.pick [1])
def KZ (H:B.p h) (G:DD B s x) (ho:x.ov=false) (hi:s.i<s.at'.length) (J:Ji h B (pW s) R):tl.1 (Bv x) (eI g) h R:=by
 obtain⟨du,at',i,rd,now,ki,⟨hv,K,N⟩,dU,ov,nx⟩:=x;have u:=G;obtain⟨O,k2,Q,T,U,V,X,Z,k9⟩:=G;dsimp only at O k2 Q T U V X Z k9;obtain⟨⟨gv,gq,gr⟩,gk⟩:=g;have c:=Cx.aB h;refine c.tJ λ_ _ c=>?_;refine c.v4 λ_ _ c=>?_;refine c.tJ λ_ _ c=>?_;refine c.v8 λ_ _ c=>?_;refine c.rl 0 ?_;refine fE.2 (uR (x:=⟨du,at',i,rd,now,ki,⟨hv,K,N⟩,dU,ov,nx⟩) (B.up H c.gr) u ho hi λv' M _ d A=>?_);have c:=c.aF d;obtain⟨x2,rfl,q,E⟩:=A;have n1:=q.dU;have n2:=q.nx;replace c:=c.n5;refine vx rfl<|vx rfl<|c.Dk 2 λ_ c=>?_;refine c.w8 3 λ_ c=>?_;refine c.rl 2 ?_;refine c.rl 3 ?_;exact J _ M _ (c.pick [4]) ⟨x2,rfl,q,E⟩
def JD {du:Bool} {l:SH} (A:B.p h) (E:On B λh=>Sl mf h (aK l) ls) (J:1<=ls.length)
  (G:∀q,Rt B h (λB=>Fk B q (C1 du ls)) λh'=>R (.tuple #[.iface 336 q,lD ⟨5,ls.getD 0 0,W0,W0⟩,.bool false]) h'):gF.1 (Bv (P4 du l)) (eI g) h R:=by
 have u:DD B (C1 du ls) (P4 du l):=⟨rfl,E,rfl,rfl,(λ_ _=>Sl.nil),(λ_ _=>Sl.nil),rfl,rfl,rfl⟩;refine pu (out:=pW (C1 du ls)) u rfl rfl (λh1 K gr H=>?_) λq=>G q;exact .inl (.inl ⟨_,#[],#[],rfl,tl.2 (KZ (B.up A gr) u rfl (show 0<ls.length by omega) H)⟩)
def L7 {v:Value} (E:B.p h) (hv:Fk B v s) (G:s.ph=.over) (Q:s.now.length<=1000) (H:∀u h',Cx (λ_=>False) h h' [bJ EW (aK u) s.now]->R (.tuple #[aK u,.bool true]) h'):kV.1 (.iface 336 v) h R:=by
 obtain⟨x,rfl,J,q⟩:=hv;rw[G] at q;obtain⟨du,at',i,rd,now,ki,⟨hv,K,M⟩,dU,ov,nx⟩:=x;obtain⟨T,k2,U,V,A,X,Z,N,O⟩:=J;have q:ov=true:=q;dsimp only at A N O;subst q;have c:=Cx.aB h;refine vx (v:=.tuple #[Bv ⟨du,at',i,rd,now,ki,⟨hv,K,M⟩,dU,true,nx⟩,.bool true]) (by simp[Az])<|vx rfl<|vx rfl<|c.tJ λ_ _ c=>?_;refine c.Dk 0 λ_ c=>?_;refine .here<|vx (v:=.bool false) (rfl)<|aN<|aE<|c.rc 0 ?_;refine vx rfl<|aN<|aE<|c.rc 0 ?_;refine vx (A _ (B.up E c.gr)).ln<|c.zq EW W0 rfl rfl rfl (by omega) (by decide) λa _ c=>?_;replace c:=c.n2;refine aE<|c.rc 0 ?_;refine c.CC 1 rfl (A _ (B.up E c.gr)) (by rw[List.length_replicate]) rfl λ_ c=>?_;replace c:=c.n2;exact H (some a,_,_) _ (c.pick [1])
end
section
variable {x:Sc} {g:cP} {es:List Et} {s:Sw} {v:Value} {et:Et} {du:Bool}
def JL (A:Zs h) (ok:nc et=0) (hw:Ww et.old) (G:∀e q H h',Cx (λ_=>False) h h' [bJ EE (aK e) [et],rV q [.func (.func 214) #[kM (sW 0 0 du e .nilFunc)] #[]],rV H (Ax (sW 0 0 du e (iE 215 q)))]->R (.tuple #[.iface 327 (kM (sW 0 0 du e (iE 215 q))),.int .i64 0]) h'):S.C 207 [vL,(.bool du),(vE et)] h R:=by
 refine AO.2 ?_;have w1:eP [et]=0:=by
  by_cases h:eP [et]=0
  ·exact h
  ·unfold nc at ok; rw[if_pos h] at ok; exact ok
 unfold nc at ok;rw[if_neg (λx=>x w1)] at ok;have w2:et.wr=true:=by
  cases h:et.wr with
  | true=>rfl
  | false=>rw[h,if_pos rfl] at ok; cases ok
 rw[w2,if_neg (by decide)] at ok;have w3:gX et.at'=true:=by
  cases h:gX et.at' with
  | true=>rfl
  | false=>rw[h,if_pos rfl] at ok; cases ok
 have J:=uN w3;obtain⟨u,⟨ev,eq,E⟩,en,eb⟩:=et;dsimp only at hw w2 w3 J;subst w2;have c:=Cx.aB h;refine c.v3 λ_ _ c=>?_;refine c.v6 λ_ _ c=>?_;refine c.rl 0 ?_;refine cS _ _ (A.gr c.gr) λ_ g=>?_;have c:=c.more g;refine vx (v:=.bool false) rfl<|aN<|c.rl 1 ?_;refine c.dN EE ⟨u,⟨ev,eq,E⟩,en,true⟩ rfl rfl λ_ _ c=>?_;replace c:=c.n3;refine rD (c.sl (i:=2) rfl).sl (λx K=>by obtain rfl:=List.mem_singleton.1 K; exact hw) (by simp) λ_ g=>?_;have c:=c.more g;rw[w1];refine vx (v:=.bool false) rfl<|aN<|aE<|c.rc 1 ?_;refine vx (v:=.bool false) (rfl)<|aN<|c.rl 0 ?_;refine aE<|c.rc 1 ?_;refine iR (a:=u) ⟨by omega,by omega⟩ _ _ (A.gr c.gr) λ_ g=>?_;have c:=c.more g;rw[w3];refine vx (v:=.bool false) (rfl)<|aN<|c.rl 0 ?_;refine c.rl 1 ?_;refine c.dN EE ⟨u,⟨ev,eq,E⟩,en,true⟩ rfl rfl λM _ c=>?_;obtain⟨e,rfl⟩:=(c.sl (i:=3) rfl).ol;replace c:=c.n4;refine vx (aG (ds:=[_,_,_,_,_,_,_,_,_,_]) rfl)<|c.v10 λ_ _ c=>?_;refine c.Ri 4 λ_ c=>?_;refine c.rl 4 ?_;refine vx rfl<|c.v1 λ_ _ c=>?_;refine c.w1 5 λ_ c=>?_;refine vx rfl<|aE<|c.Pp 4 λ_ c=>?_;refine c.rl 4 ?_;exact vx rfl<|G e _ _ _ (c.pick [3,5,4])
def Nd (u:B.p h) {r:Nat} {e:SH} {nx:Value} (A:nx.oneCell'=true) (f:Fr B r [.func (.func 214) #[kM (sW 0 0 du e nx)] #[]]) (he:On B λh=>Sl EE h (aK e) [et]) (E:qW h B (s9 (oQ du et)) R):qH.1 (eI g) (bE r) h R:=by
 obtain⟨⟨H,J,gr⟩,K⟩:=g;have c:=Cx.aB h;refine c.v4 λ_ _ c=>?_;refine c.v8 λ_ _ c=>?_;refine vx (f.lc (B.up u c.gr) (o:=0) rfl)<|.inl (.inl ⟨_,#[_],#[],rfl,jH.2 (CH (s:=oQ du et) (x:=sW 0 0 du e nx) (B.up u c.gr) ⟨rfl,rfl,rfl,he,A,rfl,rfl⟩ rfl λG M _ d q=>?_)⟩);have c:=c.aF d;replace c:=c.n3;refine c.t8 1 λ_ c=>?_;exact E G M _ (c.pick [2]) q
def Ok (q:B.p h) {r:Nat} {e:SH} (f:Fr B r [.func (.func 214) #[kM (sW 0 0 du e .nilFunc)] #[]]) (he:On B λh=>Sl EE h (aK e) [et]) (u:qW h B (s9 (oQ du et)) R):cM.1 (kM (sW 0 0 du e (iE 215 r))) (eI g) h R:=
 kf (s:=oQ du et) (x:=sW 0 0 du e (iE 215 r)) ⟨rfl,rfl,rfl,he,rfl,rfl,rfl⟩ (λh1 K gr A=>.inl (.inl ⟨_,#[],#[bE r],rfl,qH.2 (Nd (B.up q gr) rfl f he A)⟩)) u
end
def wz:jZ Pt:={n:=3,c:=λp=>[.int .u8 p.cell,.int .i8 p.more,.bool p.wr],len:=λ_=>rfl,one:=λa v h=>by simp only[List.mem_cons,List.not_mem_nil,or_false] at h; rcases h with rfl | rfl | rfl <;> rfl}
def J8:jZ (Int × SH):={n:=2,c:=λx=>[.int .u8 x.1,aK x.2],len:=λ_=>rfl,one:=λa v h=>by simp only[List.mem_cons,List.not_mem_nil,or_false] at h; rcases h with rfl | rfl <;> rfl}
structure FW (o:iZ):Prop where
 d:o.d<256
 ps:o.ps.length<=9223372036854775807
 pt:∀p∈o.ps,p.cell<256/\-128<=p.more/\p.more<=127
def nE (B:Bs) (u:SH) (ops:List iZ):Prop:=∃us:List (Int × SH),(On B λh=>Sl J8 h (aK u) us)/\us.length=ops.length/\∀(i:Nat) (a:Int × SH) (o:iZ),us[i]?=some a->ops[i]?=some o->a.1=o.d/\On B λh=>Sl wz h (aK a.2) o.ps
def nE.le {u:SH} {ops:List iZ} (H:nE B u ops) (l:B.le B'):nE B' u ops:=let⟨us,a,b,c⟩:=H; ⟨us,a.le l,b,λi x o h1 h2=>⟨(c i x o h1 h2).1,(c i x o h1 h2).2.le l⟩⟩
def nE.head {u:SH} {o:iZ} {r:List iZ} (H:nE B u (o::r)):∃us p,(On B λh=>Sl J8 h (aK u) (((o.d:Int),p)::us))/\On B λh=>Sl wz h (aK p) o.ps:=by
 obtain⟨us,a,b,c⟩:=H;cases us with
 | nil=>simp at b
 | cons x us=>
  obtain⟨h1,h2⟩:=c 0 x o rfl rfl;obtain⟨A,q⟩:=x;dsimp only at h1 h2;subst h1;exact⟨us,q,a,h2⟩
def nE.ln {u:SH} {ops:List iZ} (H:nE B u ops) (b:B.p h):B5 (aK u)=some (.int .i64 ops.length):=by
 obtain⟨us,a,e,_⟩:=H;rw[<-e]; exact(a h b).ln
def nE.tail {u:SH} {o:iZ} {r:List iZ} (H:nE B u (o::r)) (M:B.p h):∃J,sB 2 (aK u) (some (.int .i64 1)) none none=some (aK J)/\nE B J r:=by
 obtain⟨us,a,b,c⟩:=H;cases us with
 | nil=>simp at b
 | cons x us=>
  have sub:=λh' E=>(a h' E).sub (n:=2) rfl (lo:=some (.int .i64 1)) (hi:=none) (l:=1) (u:=(x::us).length) (.inr ⟨_,_,rfl,rfl⟩) (.inl ⟨rfl,rfl⟩) (by simp only[List.length_cons]; omega) (Nat.le_refl _);obtain⟨w,K,N,_⟩:=sub h M;obtain⟨G,rfl⟩:∃G:SH,w=aK G:=by
   obtain⟨O,cap,Q,_⟩:=N;exact⟨(O,_,cap),Q⟩
  refine⟨G,K,us,λh' E=>?_,by simpa using b,λi y o h1 h2=>c (i+1) y o (by simpa using h1) (by simpa using h2)⟩;obtain⟨w',q,A,_⟩:=sub h' E;rw[List.take_length] at A;rw[K] at q;injection q with q;rw[q]; exact A
structure Cc where
 t:Int
 seq:Int
 du:Bool
 ops:SH
 seen:SH
 now:Value
 oV:SH
 dn:SH
 sm:SH
 br:Bool
abbrev J4 (x:Cc):List Value:=[.int .i64 3,.int .i64 6,.int .i64 4,.int .i64 x.t,.int .i64 x.seq,.bool x.du,aK x.ops,aK x.seen,x.now,aK x.oV,aK x.dn,aK x.sm,.bool x.br]
abbrev wy (x:Cc):Value:=.agg ⟨J4 x⟩
def qL (ps:List Pt) (n:Nat):List Pt:=(List.range n).filterMap λi=>ps.find? λp=>p.cell % 6 == i
def rG (ps:List Pt) (n:Nat):qL ps (n+1)=qL ps n++(ps.find? λp=>p.cell % 6 == n).toList:=by
 unfold qL;rw[List.range_succ,List.filterMap_append];congr 1
def C0 (ps:List Pt) (n:Nat):(qL ps n).length<=n:=by
 unfold qL;refine Nat.le_trans (List.length_filterMap_le _ _) ?_;rw[List.length_range]; exact Nat.le_refl _
def Ig {α:Type} {p:α->Bool}:∀{xs:List α} {j:Nat} {x:α},xs[j]?=some x->(∀y∈xs.take j,p y=false)->p x=true->xs.find? p=some x
 | [],j,x,h,_,_=>by simp at h
 | a::xs,0,x,h,_,q=>by
  simp only[List.getElem?_cons_zero,Option.some.injEq] at h;subst h;rw[List.find?_cons,q]
 | a::xs,j+1,x,h,u,q=>by
  rw[List.find?_cons,u a (by simp)];exact Ig (j:=j) (by simpa using h) (λy A=>u y (by simp[A])) q
def IB {α:Type} {p:α->Bool} {xs:List α} (h:∀y∈xs,p y=false):xs.find? p=none:=by
 rw[List.find?_eq_none];intro y q;rw[h y q]; decide
def Cx.Qo {α:Type} {E:jZ α} {v:Value} {xs:List α} (c:Cx F0 h0 h L) (i:Nat) (hi:L[i]?=some (bJ E v xs)) {n:Nat} {kk:IntKind} {z:Int} {u:Nat} (G:z=u) (h2:u<=xs.length) (H:n=E.n) {K:Value->Prop}
  (J:∀A,Cx F0 h0 h (L.set i (bJ E A (xs.take u)))->K A):Vb (sB n v none (some (.int kk z)) none) K:=by
 obtain⟨F,⟨o,M⟩,up⟩:=c.IA hi;obtain⟨w,e,N,O⟩:=o.sub (n:=n) H (hi:=some (.int kk z)) (u:=u) (.inr ⟨_,_,rfl,G⟩) h2;exact En.vb e (J w (up (F':=F) ⟨N,λq=>by rw[M,O]⟩ (.refl _ _)))
section
variable {x:Cc} {o:iZ} {r:List iZ}
def KH (Q:B.p h) (hn:x.now.oneCell'=true) (ho:nE B x.ops (o::r)) (hk:FW o) (H:∀u h',Cx (λ_=>False) h h' [bJ wz (aK u) (aL o)]->R (aK u) h'):S.C 197 [(wy x)] h R:=by
 refine mD.2 ?_;obtain⟨t,seq,du,ops,seen,now,oV,dn,sm,br⟩:=x;dsimp only at hn ho;obtain⟨us,p,h1,h2⟩:=ho.head;obtain⟨k1,k2,k3⟩:=hk;have K:aL o=if o.d % 4=2 then(qL o.ps 6).take 1 else qL o.ps 6:=rfl
 have c:=Cx.aB h;refine c.FT λJ _ c=>?_;refine aE<|aE<|c.rc 0 ?_;refine wA.by (λ(i:Nat) u v h'=>v=.int .i64 i/\i<=6/\Cx (λ_=>False) h h' [rV J (J4 ⟨t,seq,du,ops,seen,now,oV,dn,sm,br⟩),bJ wz u (qL o.ps i)]) (λi=>6 - i) 0 ⟨rfl,by decide,c.nil wz⟩ ?_;rintro i u _ bY ⟨rfl,hi,c⟩ again q;have dO:=C0 o.ps i;replace c:=c.n2;refine vx aV<|dW (λV=>?_) λV=>?_
 ·refine .here<|aE<|c.rc 0 ?_;refine(h1 _ (B.up Q c.gr)).oW (i:=0) (j:=1) rfl rfl rfl (u:=aK p) rfl ?_;refine vx (h2 _ (B.up Q c.gr)).ln<|wA.by (λ(j:Nat) u v h'=>v=.int .i64 j/\j<=o.ps.length/\(∀y∈o.ps.take j,(y.cell % 6 == i)=false)/\Cx (λ_=>False) h h' [rV J (J4 ⟨t,seq,du,ops,seen,now,oV,dn,sm,br⟩),bJ wz u (qL o.ps i)]) (λj=>o.ps.length - j) 0 ⟨rfl,Nat.zero_le _,(λy M=>by simp at M),c⟩ ?_;rintro j u _ eQ ⟨rfl,hj,E,c⟩ T A;refine vx aV<|dW (λX=>?_) λX=>?_
  ·have N:=List.getElem?_eq_getElem (l:=o.ps) (i:=j) (by omega);generalize o.ps[j]'(by omega)=pt at N;have Z:=k3 pt (List.mem_of_getElem? N);obtain⟨U,pm,pw⟩:=pt;dsimp only at Z;refine(h2 _ (B.up Q c.gr)).whole rfl N rfl ?_;refine c.v3 λ_ _ c=>?_;refine c.w3 2 λ_ c=>?_;refine aE<|c.rc 2 ?_;refine vx (Nf (a:=(U:Int)) ⟨by omega,by omega⟩)<|aE<|aE<|c.rc 0 ?_;refine vx (AQ (a:=(U:Int)) (b:=6) (by omega) (by decide))<|vx bW<|dW (λaS=>?_) λaS=>?_
   ·refine c.rl 2 ?_;refine c.dN wz ⟨U,pm,pw⟩ rfl rfl λiF _ c=>?_;replace c:=c.n4;refine c.ap 1 rfl (c.sl (i:=3) rfl).sl rfl rfl (by simp only[List.length_cons,List.length_nil]; omega) (by simp only[List.length_cons,List.length_nil]; omega) λiN _ c=>?_;rw[show qL o.ps i++[(⟨U,pm,pw⟩:Pt)]=qL o.ps (i+1) from by rw[rG,Ig N E (by simp only[beq_iff_eq]; omega)]; rfl] at c;replace c:=c.n4;refine vx (inc (by omega)) ?_;first | exact q (i+1) _ _ _ ⟨rfl,by omega,c.pick [0,1]⟩ (by omega) | (have c:=c.pick [0,1]; rw[show qL o.ps i=qL o.ps (i+1) from by rw[rG,IB (λy M=>E y (by rw[List.take_of_length_le (by omega)]; exact M))]; simp] at c; exact q (i+1) _ _ _ ⟨rfl,by omega,c⟩ (by omega))
   ·refine vx (inc (by omega))<|A (j+1) _ _ _ ⟨rfl,by omega,zk N E ?_,c.pick [0,1]⟩ (by omega);simp only[beq_eq_false_iff_ne,ne_eq];omega
  ·refine vx (inc (by omega)) ?_;first | exact q (i+1) _ _ _ ⟨rfl,by omega,c.pick [0,1]⟩ (by omega) | (have c:=c.pick [0,1]; rw[show qL o.ps i=qL o.ps (i+1) from by rw[rG,IB (λy M=>E y (by rw[List.take_of_length_le (by omega)]; exact M))]; simp] at c; exact q (i+1) _ _ _ ⟨rfl,by omega,c⟩ (by omega))
 ·refine .here<|m3.at (λv h'=>∃b,v=.bool b/\(b=true->aL o=(qL o.ps 6).take 1/\1<=(qL o.ps 6).length)/\(b=false->aL o=qL o.ps 6)/\Cx (λ_=>False) h h' [rV J (J4 ⟨t,seq,du,ops,seen,now,oV,dn,sm,br⟩),bJ wz u (qL o.ps 6)]) ?_ ?_
  ·refine aE<|c.rc 0 ?_;obtain rfl:i=6:=by omega
   refine(h1 _ (B.up Q c.gr)).oW (i:=0) (j:=0) rfl rfl rfl (u:=.int .u8 o.d) rfl ?_;refine vx (AQ (by omega) (by decide))<|vx bW<|dW (λaT=>?_) λaT=>?_
   ·refine vx (c.sl (i:=1) rfl).sl.ln<|vx eY ?_;first | exact⟨_,rfl,λe=>by have:=of_decide_eq_true e; rw[K,if_pos (show o.d % 4=2 by omega)]; exact⟨rfl,by omega⟩,λe=>by have:=of_decide_eq_false e; rw[K,if_pos (show o.d % 4=2 by omega),List.take_of_length_le (by omega)],c⟩| exact⟨_,rfl,λe=>Bool.noConfusion e,λ_=>by rw[K,if_neg (show ¬o.d % 4=2 by omega)],c⟩
   ·first | exact⟨_,rfl,λe=>by have:=of_decide_eq_true e; rw[K,if_pos (show o.d % 4=2 by omega)]; exact⟨rfl,by omega⟩,λe=>by have:=of_decide_eq_false e; rw[K,if_pos (show o.d % 4=2 by omega),List.take_of_length_le (by omega)],c⟩| exact⟨_,rfl,λe=>Bool.noConfusion e,λ_=>by rw[K,if_neg (show ¬o.d % 4=2 by omega)],c⟩
  ·rintro _ iS ⟨b,rfl,hT,hF,c⟩;replace c:=c.n2;refine En.br (λG=>?_) λG=>?_
   ·obtain⟨e5,e6⟩:=hT G;rw[e5] at H;refine c.Qo 1 rfl (u:=1) rfl e6 rfl λ_ c=>?_;replace c:=c.n2;obtain⟨O,rfl⟩:=(c.sl (i:=1) rfl).ol;first | (rw[hF G] at H; exact H O _ (c.pick [1])) | exact H O _ (c.pick [1])
   ·obtain⟨O,rfl⟩:=(c.sl (i:=1) rfl).ol;first | (rw[hF G] at H; exact H O _ (c.pick [1])) | exact H O _ (c.pick [1])
def gO:∀{i:Int},Pz 28 [vL,.int .i64 i] (.int .i64 (nJ i)):=λh R Z k=>mz.2 (Q2 Z k)
def wF (H:B.p h) (N:On B Zs) (O:x.now.oneCell'=true) {v:Value} {l:List Pt} (hv:On B λh=>Sl wz h v l) (hl:l.length<=100) (Q:∀p∈l,p.cell<256) (T:∀u h',Cx (λ_=>False) h h' [bJ mf (aK u) (l.map bO)]->R (aK u) h'):S.C 200 [(wy x),v] h R:=by
 refine l5.2 ?_;obtain⟨t,seq,du,ops,seen,now,oV,dn,sm,br⟩:=x;dsimp only at O;have c:=Cx.aB h;refine c.FT λJ _ c=>?_;refine vx (hv _ (B.up H c.gr)).ln<|wA.by (λ(i:Nat) u v h'=>v=.int .i64 i/\i<=l.length/\Cx (λ_=>False) h h' [rV J (J4 ⟨t,seq,du,ops,seen,now,oV,dn,sm,br⟩),bJ mf u ((l.take i).map bO)]) (λi=>l.length - i) 0 ⟨rfl,Nat.zero_le _,c.nil mf⟩ ?_;rintro i u _ U ⟨rfl,hi,c⟩ again q;replace c:=c.n2;refine vx aV<|dW (λK=>?_) λK=>?_
 ·have G:=List.getElem?_eq_getElem (l:=l) (i:=i) (by omega);have E:l.take (i+1)=l.take i++[l[i]'(by omega)]:=by rw[List.take_add_one,G]; rfl
  generalize l[i]'(by omega)=pt at G E;have M:=Q pt (List.mem_of_getElem? G);obtain⟨A,pm,V⟩:=pt;dsimp only at M;refine(hv _ (B.up H c.gr)).whole rfl G rfl ?_;refine c.v3 λ_ _ c=>?_;refine c.w3 2 λ_ c=>?_;refine aE<|vx (c.vp (i:=0) (ds:=[_,_,_]) rfl rfl rfl)<|aE<|c.rc 2 ?_;refine vx (Nf (a:=(A:Int)) ⟨by omega,by omega⟩)<|aE<|aE<|c.rc 0 ?_;refine vx (AQ (a:=(A:Int)) (b:=6) (by omega) (by decide))<|gO (i:=(A:Int) % 6) _ _ (N _ (B.up H c.gr)) λ_ g=>?_;have c:=c.more g;refine c.dN mf (nJ ((A:Int) % 6)) rfl rfl λX _ c=>?_;replace c:=c.n4;refine c.ap 1 rfl (c.sl (i:=3) rfl).sl rfl rfl (by simp only[List.length_map,List.length_take,List.length_cons,List.length_nil]; omega) (by simp only[List.length_map,List.length_take,List.length_cons,List.length_nil]; omega) λZ _ c=>?_;replace c:=c.n4;refine vx (inc (by omega))<|q (i+1) _ _ _ ⟨rfl,by omega,?_⟩ (by omega);rw[E,List.map_append];have e:bO ⟨A,pm,V⟩=nJ ((A:Int) % 6):=by
   unfold bO nJ;rw[if_pos (by omega)];dsimp only;omega
  rw[List.map_cons,e];exact c.pick [0,1]
 ·obtain rfl:i=l.length:=by omega
  rw[List.take_length] at c;obtain⟨u2,rfl⟩:=(c.sl (i:=1) rfl).ol;exact T u2 _ (c.pick [1])
end
def AE {l:List Pt} {seen:List W3} {i:Nat} {p:Pt} {w:W3} (h1:l[i]?=some p) (h2:seen[i]?=some w):bB (l.take (i+1)) (seen.take (i+1))=bB (l.take i) (seen.take i)++[kO p w]:=by
 have q:=(List.getElem?_eq_some_iff.1 h1).1;have u:=(List.getElem?_eq_some_iff.1 h2).1;unfold bB;rw[List.take_add_one,List.take_add_one,h1,h2,List.zip_append (by rw[List.length_take,List.length_take]; omega),List.map_append];rfl
section
variable {x:Cc} {o:iZ} {r:List iZ} {v:Value} {l:List Pt} {seen:List W3}
def ED:∀{v:Value} {es:List Et} {du:Bool} {h} {R:Value->Hp->Prop},Zs h->Sl EE h v es->H7 es->(∀e h',Cx (λ_=>False) h h' [bJ EE (aK e) es]->R (.tuple #[.iface 332 (oU (PX du e)),.int .i64 0]) h')->S.C 206 [vL,.bool du,v] h R:=λa b c k=>xL.2 (Qf a b c (λh R a b k=>ti.2 (Kx a b c k)) k)
def Lb (J:B.p h) (hZ:On B Zs) (hn:x.now.oneCell'=true) (ho:nE B x.ops (o::r)) (hk:FW o) (hv:On B λh=>Sl wz h v l) (hl:l.length<=100) (Z:∀p∈l,p.cell<256/\-128<=p.more/\p.more<=127)
  (hs:On B λh=>Sl EW h (aK x.seen) seen) (aS:seen.length=l.length) (G:H7 (bB l seen)) (ht:1<=x.t/\x.t<=3) (hq:0<=x.seq/\x.seq<16777215) (hd:¬o.d % 4=3) (T:o.d % 4=2->l.length=1)
  (h1:o.d % 4=1->∀en e h',Cx (λ_=>False) h h' [bJ EE (aK e) (bB l seen)]->R (.tuple #[wy {x with seen:=(none,0,0),oV:=en,now:=.iface 332 (oU (PX x.du e))},.int .i64 0]) h')
  (h3:o.d % 4=2->(l.getD 0 ⟨0,0,false⟩).wr=true->∀en e et K O h',bB l seen=[et]->nc et=0->Cx (λ_=>False) h h' [bJ EE (aK e) [et],rV K [.func (.func 214) #[kM (sW 0 0 x.du e .nilFunc)] #[]],rV O (Ax (sW 0 0 x.du e (iE 215 K)))]->R (.tuple #[wy {x with seen:=(none,0,0),oV:=en,now:=.iface 327 (kM (sW 0 0 x.du e (iE 215 K)))},.int .i64 0]) h')
  (h2:o.d % 4=0\/(o.d % 4=2/\¬(l.getD 0 ⟨0,0,false⟩).wr=true)->∀en e K O h',Cx (λ_=>False) h h' [bJ EE (aK e) (bB l seen),rV K [.func (.func 219) #[kM (sW x.t (x.seq+1) x.du e .nilFunc)] #[]],rV O (Ax (sW x.t (x.seq+1) x.du e (o8 220 K O)))]->R (.tuple #[wy {x with seq:=x.seq+1,seen:=(none,0,0),oV:=en,now:=.iface 327 (kM (sW x.t (x.seq+1) x.du e (o8 220 K O)))},.int .i64 0]) h') :
  eG.1 (wy x) v h R:=by
 obtain⟨t,seq,du,ops,sn,now,oV,dn,sm,br⟩:=x;dsimp only at hn ho hs ht hq h1 h2 h3;obtain⟨us,p,g1,g2⟩:=ho.head;obtain⟨k1,k2,k3⟩:=hk;have aT:∀i,(bB (l.take i) (seen.take i)).length<=100:=λi=>by
  unfold bB;rw[List.length_map,List.length_zip,List.length_take,List.length_take];omega
 have c:=Cx.aB h;refine c.FT λbY _ c=>?_;refine c.FT λdO _ c=>?_;refine aE<|c.sR 0 λ_ c=>?_;refine c.rl 0 ?_;refine wF (x:=⟨t,seq,du,ops,sn,now,(none,0,0),dn,sm,br⟩) (B.up J c.gr) hZ hn hv hl (λp hp=>(Z p hp).1) λpl _ d=>?_;have c:=c.aF d;replace c:=c.n3;refine vx (hv _ (B.up J c.gr)).ln<|oP.by (λ(i:Nat) z h'=>z=.int .i64 i/\i<=l.length/\∃en,Cx (λ_=>False) h h' [rV bY (J4 ⟨t,seq,du,ops,sn,now,en,dn,sm,br⟩),rV dO GJ.toList,bJ mf (aK pl) (l.map bO),bJ EE (aK en) (bB (l.take i) (seen.take i))]) (λi=>l.length - i) 0 ⟨rfl,Nat.zero_le _,(none,0,0),c.nil EE⟩ ?_;rintro i _ h5 ⟨rfl,hi,en,c⟩ again A;replace c:=c.n4;refine vx aV<|dW (λiS=>?_) λiS=>?_
 ·have hx:=List.getElem?_eq_getElem (l:=l) (i:=i) (by omega);have hw:=List.getElem?_eq_getElem (l:=seen) (i:=i) (by omega);have M:=AE hx hw;have U:(l.map bO)[i]?=some (bO (l[i]'(by omega))):=by rw[List.getElem?_map,hx]; rfl
  generalize l[i]'(by omega)=pt at hx M U;generalize seen[i]'(by omega)=w at hw M;have oF:=Z pt (List.mem_of_getElem? hx);obtain⟨pc,pm,pw⟩:=pt;obtain⟨wv,wq,wr⟩:=w;dsimp only at oF;refine(hv _ (B.up J c.gr)).whole rfl hx rfl ?_;refine c.v3 λ_ _ c=>?_;refine c.w3 4 λ_ c=>?_;refine aE<|c.rc 0 ?_;refine(hs _ (B.up J c.gr)).whole rfl hw rfl ?_;refine c.v3 λ_ _ c=>?_;refine c.w3 5 λ_ c=>?_;obtain⟨r5,o5,e5,eQ,_⟩:=(c.sl (i:=2) rfl).sl.ix U (n:=1) rfl (k:=.i64) (z:=(i:Int)) rfl;refine vx e5<|vx (eQ.rq rfl)<|aE<|c.rc 5 ?_;refine aE<|c.rc 5 ?_;refine vx (aG (ds:=[_,_,_]) rfl)<|aE<|c.rc 5 ?_;refine aE<|c.rc 4 ?_;refine vx (aG (ds:=[_,_,_,_,_,_]) rfl)<|c.v6 λ_ _ c=>?_;refine c.ac 4 ?_;refine c.ac 5 ?_;refine c.ac 5 ?_;refine c.ac 5 ?_;refine And.intro (by obtain⟨r6,o6,Q,iF,_⟩:=(c.sl (i:=2) rfl).sl.ix U (n:=1) rfl (k:=.i64) (z:=(i:Int)) rfl; rw[e5] at Q; injection Q with Q; injection Q with Q; injection Q with Q; injection Q with e7 e8; subst e7 e8; exact iF.rq rfl) ?_;refine c.w6 6 λ_ c=>?_;refine .here<|aE<|c.rc 4 ?_;refine En.br (λV=>?_) λV=>?_
  ·refine aE<|c.rc 5 ?_;refine aE<|c.rc 4 ?_;refine vx (Nf (a:=pm) ⟨by omega,by omega⟩)<|vx (hU _ _)<|aE<|c.q6 6 λ_ c=>?_;refine aE<|c.rc 0 ?_;refine c.rl 6 ?_;refine c.dN EE (kO ⟨pc,pm,pw⟩ ⟨wv,wq,wr⟩) rfl (by subst V; rfl) λoR _ c=>?_;replace c:=c.n8;have rW:=aT i;refine c.ap 3 rfl (c.sl (i:=7) rfl).sl rfl rfl (by simp only[List.length_cons,List.length_nil]; omega) (by simp only[List.length_cons,List.length_nil]; omega) λtO _ c=>?_;rw[<-M] at c;obtain⟨X,rfl⟩:=(c.sl (i:=3) rfl).ol;replace c:=c.n8;refine aE<|c.sR 0 λ_ c=>?_;exact vx (inc (by omega))<|A (i+1) _ _ ⟨rfl,by omega,X,c.pick [0,1,2,3]⟩ (by omega)
  ·refine aE<|c.rc 0 ?_;refine c.rl 6 ?_;refine c.dN EE (kO ⟨pc,pm,pw⟩ ⟨wv,wq,wr⟩) rfl (by subst V; rfl) λoR _ c=>?_;replace c:=c.n8;have rW:=aT i;refine c.ap 3 rfl (c.sl (i:=7) rfl).sl rfl rfl (by simp only[List.length_cons,List.length_nil]; omega) (by simp only[List.length_cons,List.length_nil]; omega) λtO _ c=>?_;rw[<-M] at c;obtain⟨X,rfl⟩:=(c.sl (i:=3) rfl).ol;replace c:=c.n8;refine aE<|c.sR 0 λ_ c=>?_;exact vx (inc (by omega))<|A (i+1) _ _ ⟨rfl,by omega,X,c.pick [0,1,2,3]⟩ (by omega)
 ·refine aE<|c.sR 0 λ_ c=>?_;refine .here<|aE<|c.rc 0 ?_;obtain rfl:i=l.length:=by omega
  rw[List.take_of_length_le (Nat.le_refl _),List.take_of_length_le (by omega)] at c;refine(g1 _ (B.up J c.gr)).oW (i:=0) (j:=0) rfl rfl rfl (u:=.int .u8 o.d) rfl ?_;refine vx (AQ (a:=(o.d:Int)) (b:=4) (by omega) (by decide))<|vx bW<|dW (λuS=>?_) λuS=>?_
  ·refine aE<|vx (c.vp (i:=0) (ds:=[_,_,_]) rfl rfl rfl)<|aE<|c.rc 0 ?_;refine aE<|c.rc 0 ?_;refine ED (hZ _ (B.up J c.gr)) (c.sl (i:=3) rfl).sl G λe _ d=>?_;have c:=c.aF d;replace c:=c.n5;refine vx rfl<|vx rfl<|aE<|c.sR 0 λ_ c=>?_;refine c.rl 0 ?_;refine c.Od 1 λ_ c=>?_;refine c.rl 1 ?_;first | exact h1 (by omega) en e _ (c.pick [4]) | exact h3 k2 kw en e et _ _ _ q N (c.pick [4,5,6]) | exact h2 (hF H) en e _ _ _ (c.pick [4,5,6])
  ·refine m3.at (λv h'=>∃b,v=.bool b/\(b=true->o.d % 4=2/\(l.getD 0 ⟨0,0,false⟩).wr=true)/\(b=false->o.d % 4=0\/(o.d % 4=2/\¬(l.getD 0 ⟨0,0,false⟩).wr=true))/\Cx (λ_=>False) h h' [rV bY (J4 ⟨t,seq,du,ops,(none,0,0),now,en,dn,sm,br⟩),rV dO GJ.toList,bJ mf (aK pl) (l.map bO),bJ EE (aK en) (bB l seen)]) ?_ ?_
   ·refine vx bW<|dW (λiN=>?_) λiN=>?_
    ·have hl0:l[0]?=some (l.getD 0 ⟨0,0,false⟩):=by
      rw[List.getD_eq_getElem?_getD,List.getElem?_eq_getElem (show 0<l.length by have:=T (by omega); omega)]; rfl
     refine(hv _ (B.up J c.gr)).oW (i:=0) (j:=2) rfl hl0 rfl (u:=.bool (l.getD 0 ⟨0,0,false⟩).wr) rfl ?_;first | exact⟨_,rfl,λe=>⟨by omega,e⟩,λe=>.inr ⟨by omega,by rw[e]; decide⟩,c.pick [0,1,2,3]⟩| exact⟨_,rfl,λe=>Bool.noConfusion e,λ_=>.inl (by omega),c.pick [0,1,2,3]⟩
    ·first | exact⟨_,rfl,λe=>⟨by omega,e⟩,λe=>.inr ⟨by omega,by rw[e]; decide⟩,c.pick [0,1,2,3]⟩| exact⟨_,rfl,λe=>Bool.noConfusion e,λ_=>.inl (by omega),c.pick [0,1,2,3]⟩
   ·rintro _ h22' ⟨b,rfl,hT,hF,c⟩;replace c:=c.n4;refine En.br (λH=>?_) λH=>?_
    ·refine aE<|vx (c.vp (i:=0) (ds:=[_,_,_]) rfl rfl rfl)<|aE<|c.rc 0 ?_;refine aE<|c.rc 0 ?_;obtain⟨k2,kw⟩:=hT H;have E:(bB l seen).length=1:=by
      unfold bB;rw[List.length_map,List.length_zip,aS,T k2]; rfl
     obtain⟨et,q⟩:∃et,bB l seen=[et]:=by
      cases hc:bB l seen with
      | nil=>rw[hc] at E; cases E
      | cons a r=>
       cases r with
       | nil=>exact⟨a,rfl⟩
       | cons b r=>rw[hc] at E; simp at E
     have N:nc et=0:=by
      have q1:=G.OZ;rw[q] at q1;have q2:=G.may et (by rw[q]; exact List.mem_singleton.2 rfl);have q3:et.wr=true:=by
       have:(bB l seen)[0]?=some et:=by rw[q]; rfl
       unfold bB at this;rw[List.getElem?_map] at this;cases l with
       | nil=>have:=T k2; cases this
       | cons p r=>
        cases seen with
        | nil=>simp at aS
        | cons w O=>
         simp only[List.zip_cons_cons,List.getElem?_cons_zero,Option.map_some,Option.some.injEq] at this;rw[<-this];exact kw
      unfold nc;rw[if_neg (λx=>x q1),q3,if_neg (λx=>Bool.noConfusion x),q2,if_neg (λx=>Bool.noConfusion x)]
     have hwo:=G.old et (by rw[q]; exact List.mem_singleton.2 rfl);refine(c.sl (i:=3) rfl).sl.whole rfl (i:=0) (by rw[q]; rfl) rfl ?_;refine JL (et:=et) (hZ _ (B.up J c.gr)) N hwo λe K O _ d=>?_;have c:=c.aF d;replace c:=c.n7;refine vx rfl<|vx rfl<|aE<|c.sR 0 λ_ c=>?_;refine c.rl 0 ?_;refine c.Od 1 λ_ c=>?_;refine c.rl 1 ?_;first | exact h1 (by omega) en e _ (c.pick [4]) | exact h3 k2 kw en e et _ _ _ q N (c.pick [4,5,6]) | exact h2 (hF H) en e _ _ _ (c.pick [4,5,6])
    ·refine aE<|c.rc 0 ?_;refine vx (iQ (a:=seq) (b:=1) ⟨by omega,by omega⟩)<|aE<|c.sR 0 λ_ c=>?_;refine aE<|vx (c.vp (i:=0) (ds:=[_,_,_]) rfl rfl rfl)<|aE<|c.rc 0 ?_;refine aE<|c.rc 0 ?_;refine aE<|c.rc 0 ?_;refine aE<|c.rc 0 ?_;refine Nv (hZ _ (B.up J c.gr)) (c.sl (i:=3) rfl).sl G ht ⟨by omega,by omega⟩ λe K O _ d=>?_;have c:=c.aF d;replace c:=c.n7;refine vx rfl<|vx rfl<|aE<|c.sR 0 λ_ c=>?_;refine c.rl 0 ?_;refine c.Od 1 λ_ c=>?_;refine c.rl 1 ?_;first | exact h1 (by omega) en e _ (c.pick [4]) | exact h3 k2 kw en e et _ _ _ q N (c.pick [4,5,6]) | exact h2 (hF H) en e _ _ _ (c.pick [4,5,6])
end
def JO:jZ Bool:={n:=1,c:=λb=>[.bool b],len:=λ_=>rfl,one:=λa v h=>by simp only[List.mem_singleton] at h; subst h; rfl}
def uP (B:Bs) (W:aX) (v:Value):Cd->Prop
 | .sw s=>∃u,v=.iface 327 u/\W=aD []/\yF B u s
 | .bl s=>∃u,v=.iface 332 u/\OY B W u s
 | .pk s=>∃u,v=.iface 336 u/\W=aD []/\Fk B u s
def Rv (B:Bs) (W:aX) (v:Value):Option Cd->Prop
 | none=>v=.nilIface/\W=aD []
 | some d=>uP B W v d
structure ME (B:Bs) (c:Cn) (x:Cc):Prop where
 t:x.t=c.t
 seq:x.seq=c.seq
 du:x.du=c.cH
 ops:nE B x.ops c.ops
 seen:On B λh=>Sl EW h (aK x.seen) c.seen
 dn:On B λh=>Sl JO h (aK x.dn) c.done
 sm:On B λh=>Sl mf h (aK x.sm) c.pn
 br:x.br=c.broken
def GX (B:Bs) (W:aX) (v:Value) (c:Cn):Prop:=∃x,v=wy x/\ME B c x/\Rv B W x.now c.now
def uP.le {W:aX} {v:Value} {d:Cd} (H:uP B W v d) (l:B.le B'):uP B' W v d:=by
 cases d with
 | sw s=>obtain⟨u,a,b,c⟩:=H; exact⟨u,a,b,c.le l⟩
 | bl s=>obtain⟨u,a,x,b,c⟩:=H; exact⟨u,a,x,b,c.le l⟩
 | pk s=>obtain⟨u,a,b,c⟩:=H; exact⟨u,a,b,c.le l⟩
def Rv.le {W:aX} {v:Value} {d:Option Cd} (H:Rv B W v d) (l:B.le B'):Rv B' W v d:=by
 cases d with
 | none=>exact H
 | some d=>exact uP.le H l
def ME.le {c:Cn} {x:Cc} (H:ME B c x) (l:B.le B'):ME B' c x:=⟨H.t,H.seq,H.du,H.ops.le l,H.seen.le l,H.dn.le l,H.sm.le l,H.br⟩
def GX.le {W:aX} {v:Value} {c:Cn} (H:GX B W v c) (l:B.le B'):GX B' W v c:=let⟨x,a,b,d⟩:=H; ⟨x,a,b.le l,d.le l⟩
def uP.one {W:aX} {v:Value} {d:Cd} (H:uP B W v d):v.oneCell'=true:=by
 cases d with
 | sw s=>obtain⟨u,rfl,b,c⟩:=H; rfl
 | bl s=>obtain⟨u,rfl,b⟩:=H; rfl
 | pk s=>obtain⟨u,rfl,b,c⟩:=H; rfl
def Dn (B:Bs) (W:aX) (v:Value) (g:cP) (V:Bs->aX->Value->Prop) (a:Ac) (d:Bool):Prop:=
 ∀h F (R:Value->Hp->Prop),Cx F h h [W]->(∀h',Ch F h h'->B.p h')->(∀v W M h',Cx F h h' [W,aD M]->V (B.and M) W v->R (.tuple #[v,lD a,.bool d]) h')->Ci S.C I.mt "Next" v [eI g] h R
section
variable {x:Cc} {W:aX} {g:cP} {a:Ac} {V:Bs->aX->Value->Prop}
def Ao (G:x.now.oneCell'=true) (A:Dn B W x.now g V a false) (H:∀B W v,V B W v->v.oneCell'=true) (c:Cx F h h [W]) (J:∀h',Ch F h h'->B.p h')
  (E:xD 89 F h B (λB W v=>∃u,v=wy {x with now:=u}/\V B W u) a false R):bL.1 (wy x) (eI g) h R:=by
 obtain⟨t,seq,du,ops,T,now,oV,dn,sm,br⟩:=x;dsimp only at G A E;obtain⟨⟨U,X,gr⟩,Z⟩:=g;obtain⟨ao,aa,⟨ov,oq,or⟩,⟨nv,nq,nr⟩⟩:=a;replace c:Cx _ _ _ [_]:=c;refine c.FT λ_ _ c=>?_;refine c.v4 λ_ _ c=>?_;refine c.v8 λ_ _ c=>?_;refine aE<|c.rc 1 ?_;refine c.rl 2 ?_;obtain⟨F',c',K,up⟩:=c.lR (i:=0) rfl;refine A _ F' _ c' (λq ch=>J q (K _ ch)) λN O M _ d ok=>?_;have c:=up d;have Q:=H _ _ _ ok;replace c:=c.n5;refine vx rfl<|vx rfl<|vx rfl<|c.v8 λ_ _ c=>?_;refine c.w8 5 λ_ c=>?_;refine aE<|c.sR 1 λ_ c=>?_;refine vx (v:=.bool true) (rfl)<|bU<|c.rl 1 ?_;refine vx rfl<|c.rl 5 ?_;refine c.w8 3 λ_ c=>?_;refine c.rl 3 ?_;exact E _ O M _ (c.pick [0,4]) ⟨N,rfl,ok⟩
end
structure KP (B:Bs) (v:Value) (q2 ok:Bool):Prop where
 one:v.oneCell'=true
 VH:∃(p q p2:Bool) (b:Int),((q2=true/\p2=ok)\/(q2=false/\q=true/\p=ok))/\(∀h (R:Value->Hp->Prop),B.p h->(∀h',Gr h h'->R (.tuple #[.bool p,.bool q]) h')->S.C 202 [v] h R)/\
  (∀h (R:Value->Hp->Prop),B.p h->(∀h',Gr h h'->R (.tuple #[.bool p2,.int .i64 b,.bool q2]) h')->S.C 203 [v] h R)/\
  (∀h (R:Value->Hp->Prop),B.p h->(∀h',Gr h h'->R (.tuple #[aK (none,0,0),.bool false]) h')->S.C 204 [v] h R)
def zf {v:Value} {t:TypeId} (q:¬t=336) (u:∀h',Gr h h'->R (.tuple #[aK (none,0,0),.bool false]) h'):kV.1 (.iface t v) h R:=by
 have c:=Cx.aB h;refine vx (v:=.tuple #[.agg yN,.bool false]) (by simp[Az,q])<|vx rfl<|vx rfl<|c.tJ λ_ _ c=>?_;refine c.Dk 0 λ_ c=>?_;exact .here<|vx (v:=.bool true) (rfl)<|bU<|bU<|u _ c.gr
def BC:¬327=332:=by decide
def BQ:¬327=336:=by decide
def RF {u:Value} {s:Sw} {ok:Bool} (hv:yF B u s) (A:s.ph=.over ok):KP B (.iface 327 u) false ok:=by
 unfold yF at hv;rw[A] at hv;exact⟨rfl,ok,true,false,0,.inr ⟨rfl,rfl,rfl⟩,λh R b q=>j8.2 (JE hv q),λh R b q=>iX.2 (xp BC q),λh R b q=>kV.2 (zf BQ q)⟩
def BH:¬332=336:=by decide
def Sa {u:Value} {s:Bk} {W:aX} (hv:OY B W u s) (A:s.ph=.over):KP B (.iface 332 u) true s.done:=
 ⟨rfl,false,false,s.done,s.bad,.inl ⟨rfl,rfl⟩,λh R b q=>j8.2 (xy (λe=>BC e.symm) q),λh R b q=>iX.2 (JB hv A q),λh R b q=>kV.2 (zf BH q)⟩
section
variable {x:Cc} {W:aX} {g:cP} {a:Ac} {ok:Bool} {c':Cn} {o:iZ} {r:List iZ} {out:CR} {q2:Bool}
def KG (hn:x.now.oneCell'=true) (hx:ME B c' x) (U:c'.broken=false) (ho:c'.ops=o::r) (hlen:c'.done.length<=1000) (V:Dn B W x.now g (λB W v=>W=aD []/\KP B v q2 ok) a true) (c:Cx F h h [W]) (A:∀h',Ch F h h'->B.p h')
  (hI:∀(X:Cc) (B':Bs) h1 K,B.le B'->B'.p h1->ME B' {c' with done:=c'.done++[ok],ops:=r,now:=none} X->X.now=.nilIface->xD 89 uH h1 B' (λB W v=>GX B W v out.1) out.2.1 out.2.2 K->S.C 196 [wy X,eI kq] h1 K)
  (hR:xD 89 F h B (λB W v=>GX B W v out.1) out.2.1 out.2.2 R):bL.1 (wy x) (eI g) h R:=by
 obtain⟨t,seq,du,ops,sn,now,oV,dn,sm,br⟩:=x;dsimp only at hn V;obtain⟨⟨gv,gq,gr⟩,gk⟩:=g;obtain⟨Z,y2,y3,T,y5,y6,y7,y8⟩:=hx;dsimp only at Z y2 y3 T y5 y6 y7 y8;rw[U] at y8;subst y8;rw[ho] at T;obtain⟨co,ca,cd⟩:=out;obtain⟨ao,aa,⟨ov,oq,or⟩,⟨nv,nq,nr⟩⟩:=a;cases q2 with
 | false=>
  replace c:Cx _ _ _ [_]:=c;refine c.FT λ_ _ c=>?_;refine c.v4 λ_ _ c=>?_;refine c.v8 λ_ _ c=>?_;refine aE<|c.rc 1 ?_;refine c.rl 2 ?_;obtain⟨F',d',hF,up⟩:=c.lR (i:=0) rfl;refine V _ F' _ d' (λG ch=>A G (hF _ ch)) λv' W' M _ d H=>?_;have c:=up d;obtain⟨rfl,Q,p,q,p2,bb,J,a1,a2,a3⟩:=H;obtain⟨rfl,rfl⟩:q=true/\p=ok:=J.elim (λx=>Bool.noConfusion x.1) (λx=>⟨x.2.1,x.2.2⟩);replace c:=c.n5;refine vx rfl<|vx rfl<|vx rfl<|c.v8 λ_ _ c=>?_;refine c.w8 5 λ_ c=>?_;refine aE<|c.sR 1 λ_ c=>?_;refine vx (v:=.bool false) (rfl)<|aN<|a1 _ _ ⟨A _ c.gr,c.get (i:=4) rfl⟩ λ_ g=>?_;have c:=c.more g;refine vx rfl<|vx rfl ?_;refine .here<|a2 _ _ ⟨A _ c.gr,c.get (i:=4) rfl⟩ λ_ g=>?_;have c:=c.more g;refine vx rfl<|vx rfl<|vx (v:=.bool false) (rfl)<|aN ?_;refine .here<|a3 _ _ ⟨A _ c.gr,c.get (i:=4) rfl⟩ λ_ g=>?_;have c:=c.more g;refine vx rfl<|vx (v:=.bool false) (rfl)<|aN ?_;refine .here<|aE<|c.rc 1 ?_;refine aN<|vx rfl<|aE<|c.sR 1 λ_ c=>?_;refine c.Aj JO λaS _ c=>?_;replace c:=c.n7;refine aE<|c.rc 1 ?_;refine c.ap 6 rfl (y6 _ (A _ c.gr)) rfl rfl (by simp only[List.length_nil]; omega) (by simp only[List.length_nil]; omega) λaT _ c=>?_;replace c:=c.n7;refine c.dN JO p rfl rfl λbY _ c=>?_;replace c:=c.n8;refine c.ap 6 rfl (c.sl (i:=7) rfl).sl rfl rfl (by simp only[List.length_nil,List.length_append,List.length_cons]; omega) (by simp only[List.length_nil,List.length_append,List.length_cons]; omega) λdO _ c=>?_;obtain⟨u,rfl⟩:=(c.sl (i:=6) rfl).ol;obtain⟨u',N,E⟩:=T.tail (A _ c.gr);replace c:=c.n8;refine aE<|c.sR 1 λ_ c=>?_;refine aE<|c.rc 1 ?_;refine vx N<|aE<|c.sR 1 λ_ c=>?_;refine aE<|c.sR 1 λ_ c=>?_;refine aE<|c.sR 1 λ_ c=>?_;refine c.rl 1 ?_;refine vx (aG (ds:=[_,_,_,_]) rfl) ?_;have c:=Cx.pack (L:=[_]) (M:=[aD M,bJ JO (aK u) (([]++c'.done)++[p])]) (c.pick [3,4,6]);refine hI ⟨t,seq,du,u',sn,.nilIface,(none,0,0),u,sm,false⟩ (B.and [aD M,bJ JO (aK u) (([]++c'.done)++[p])]) _ _ (Bs.aJ _ _) ⟨A _ c.gr,c.get (i:=1) rfl⟩ ⟨Z,y2,y3,E.le (Bs.aJ _ _),y5.le (Bs.aJ _ _),?_,y7.le (Bs.aJ _ _),U.symm⟩ rfl λv2 W2 M2 _ d O=>?_
  ·intro h b; obtain⟨_,F,p⟩:=b; exact((Cx.star p).sl (i:=1) rfl).sl
  have c:=c.aF d;replace c:=c.n4;refine c.t8 0 λ_ c=>?_;exact hR v2 W2 _ _ (Cx.pack (L:=[_]) (M:=[_,_]) (c.pick [2,1,3])) (O.le Bs.Ay)
 | true=>
  replace c:Cx _ _ _ [_]:=c;refine c.FT λ_ _ c=>?_;refine c.v4 λ_ _ c=>?_;refine c.v8 λ_ _ c=>?_;refine aE<|c.rc 1 ?_;refine c.rl 2 ?_;obtain⟨F',d',hF,up⟩:=c.lR (i:=0) rfl;refine V _ F' _ d' (λG ch=>A G (hF _ ch)) λv' W' M _ d H=>?_;have c:=up d;obtain⟨rfl,Q,p,q,p2,bb,J,a1,a2,a3⟩:=H;obtain rfl:p2=ok:=J.elim (λx=>x.2) (λx=>Bool.noConfusion x.1);replace c:=c.n5;refine vx rfl<|vx rfl<|vx rfl<|c.v8 λ_ _ c=>?_;refine c.w8 5 λ_ c=>?_;refine aE<|c.sR 1 λ_ c=>?_;refine vx (v:=.bool false) (rfl)<|aN<|a1 _ _ ⟨A _ c.gr,c.get (i:=4) rfl⟩ λ_ g=>?_;have c:=c.more g;refine vx rfl<|vx rfl ?_;refine .here<|a2 _ _ ⟨A _ c.gr,c.get (i:=4) rfl⟩ λ_ g=>?_;have c:=c.more g;refine vx rfl<|vx rfl<|vx (v:=.bool true) (rfl)<|bU ?_;refine .here<|a3 _ _ ⟨A _ c.gr,c.get (i:=4) rfl⟩ λ_ g=>?_;have c:=c.more g;refine vx rfl<|vx (v:=.bool false) (rfl)<|aN ?_;refine .here<|aE<|c.rc 1 ?_;refine aN<|vx rfl<|aE<|c.sR 1 λ_ c=>?_;refine c.Aj JO λaS _ c=>?_;replace c:=c.n7;refine aE<|c.rc 1 ?_;refine c.ap 6 rfl (y6 _ (A _ c.gr)) rfl rfl (by simp only[List.length_nil]; omega) (by simp only[List.length_nil]; omega) λaT _ c=>?_;replace c:=c.n7;refine c.dN JO p2 rfl rfl λbY _ c=>?_;replace c:=c.n8;refine c.ap 6 rfl (c.sl (i:=7) rfl).sl rfl rfl (by simp only[List.length_nil,List.length_append,List.length_cons]; omega) (by simp only[List.length_nil,List.length_append,List.length_cons]; omega) λdO _ c=>?_;obtain⟨u,rfl⟩:=(c.sl (i:=6) rfl).ol;obtain⟨u',N,E⟩:=T.tail (A _ c.gr);replace c:=c.n8;refine aE<|c.sR 1 λ_ c=>?_;refine aE<|c.rc 1 ?_;refine vx N<|aE<|c.sR 1 λ_ c=>?_;refine aE<|c.sR 1 λ_ c=>?_;refine aE<|c.sR 1 λ_ c=>?_;refine c.rl 1 ?_;refine vx (aG (ds:=[_,_,_,_]) rfl) ?_;have c:=Cx.pack (L:=[_]) (M:=[aD M,bJ JO (aK u) (([]++c'.done)++[p2])]) (c.pick [3,4,6]);refine hI ⟨t,seq,du,u',sn,.nilIface,(none,0,0),u,sm,false⟩ (B.and [aD M,bJ JO (aK u) (([]++c'.done)++[p2])]) _ _ (Bs.aJ _ _) ⟨A _ c.gr,c.get (i:=1) rfl⟩ ⟨Z,y2,y3,E.le (Bs.aJ _ _),y5.le (Bs.aJ _ _),?_,y7.le (Bs.aJ _ _),U.symm⟩ rfl λv2 W2 M2 _ d O=>?_
  ·intro h b; obtain⟨_,F,p⟩:=b; exact((Cx.star p).sl (i:=1) rfl).sl
  have c:=c.aF d;replace c:=c.n4;refine c.t8 0 λ_ c=>?_;exact hR v2 W2 _ _ (Cx.pack (L:=[_]) (M:=[_,_]) (c.pick [2,1,3])) (O.le Bs.Ay)
def L6 {ws:List W3} (hn:x.now.oneCell'=true) (hx:ME B c' x) (hb:c'.broken=false) (ho:c'.ops=o::r) (hlen:c'.done.length<=1000) (O:c'.pn.length<=1000) (Q:ws.length<=1000) (hN:Dn B W x.now g (λB W v=>W=aD []/\∃u s,v=.iface 336 u/\Fk B u s/\s.ph=.over/\s.now=ws) a true) (c:Cx F h h [W]) (H:∀h',Ch F h h'->B.p h')
  (hI:∀(T:Cc) (B':Bs) h1 K,B.le B'->B'.p h1->ME B' {c' with done:=c'.done++[false],pn:=c'.pn++[ws.foldl (λn w=>uA (n+w.v)) 0],ops:=r,now:=none} T->T.now=.nilIface->xD 89 uH h1 B' (λB W v=>GX B W v out.1) out.2.1 out.2.2 K->S.C 196 [wy T,eI kq] h1 K)
  (hR:xD 89 F h B (λB W v=>GX B W v out.1) out.2.1 out.2.2 R):bL.1 (wy x) (eI g) h R:=by
 obtain⟨t,seq,du,ops,sn,now,oV,dn,sm,br⟩:=x;dsimp only at hn hN;obtain⟨⟨gv,gq,gr⟩,gk⟩:=g;obtain⟨y1,y2,y3,U,y5,y6,y7,V⟩:=hx;dsimp only at y1 y2 y3 U y5 y6 y7 V;rw[hb] at V;subst V;rw[ho] at U;obtain⟨co,ca,cd⟩:=out;obtain⟨ao,aa,⟨ov,oq,or⟩,⟨nv,nq,nr⟩⟩:=a;replace c:Cx _ _ _ [_]:=c;refine c.FT λX _ c=>?_;refine c.v4 λZ _ c=>?_;refine c.v8 λaS _ c=>?_;refine aE<|c.rc 1 ?_;refine c.rl 2 ?_;obtain⟨F',d',hF,up⟩:=c.lR (i:=0) rfl;refine hN _ F' _ d' (λaT ch=>H aT (hF _ ch)) λv' W' M _ d bY=>?_;have c:=up d;obtain⟨rfl,u,s,rfl,dO,eQ,rfl⟩:=bY;replace c:=c.n5;refine vx rfl<|vx rfl<|vx rfl<|c.v8 λiF _ c=>?_;refine c.w8 5 λ_ c=>?_;refine aE<|c.sR 1 λ_ c=>?_;refine vx (v:=.bool false) (rfl)<|aN<|j8.2 (xy (λe=>BQ e.symm) λ_ g=>?_);have c:=c.more g;refine vx rfl<|vx rfl ?_;refine .here<|iX.2 (xp (λe=>BH e.symm) λ_ g=>?_);have c:=c.more g;refine vx rfl<|vx rfl<|vx (v:=.bool false) (rfl)<|aN ?_;refine .here<|kV.2 (L7 (B:=B.and M) (s:=s) ⟨H _ c.gr,c.get (i:=4) rfl⟩ dO eQ Q λuw _ d=>?_);have c:=c.aF d;replace c:=c.n7;refine vx rfl<|vx (v:=.bool true) (rfl)<|bU<|vx (c.sl (i:=6) rfl).sl.ln<|wA.by (λ(i:Nat) n v h'=>v=.int .i64 i/\i<=s.now.length/\n=.int .i64 ((s.now.take i).foldl (λn w=>uA (n+w.v)) 0)/\Cx F h h' [aD [],rV X (J4 ⟨t,seq,du,ops,sn,.iface 336 u,oV,dn,sm,false⟩),rV Z [_,_,_,_],rV aS jQ.toList,aD M,rV iF [_,_,_,_,_,_,_,_],bJ EW (aK uw) s.now]) (λi=>s.now.length - i) 0 ⟨rfl,Nat.zero_le _,rfl,c⟩ ?_;rintro i _ _ oR ⟨rfl,hi,rfl,c⟩ again q;refine vx aV<|dW (λiN=>?_) λiN=>?_
 ·have h1:=List.getElem?_eq_getElem (l:=s.now) (i:=i) (by omega);have J:s.now.take (i+1)=s.now.take i++[s.now[i]'(by omega)]:=by rw[List.take_add_one,h1]; rfl
  generalize s.now[i]'(by omega)=w at h1 J;obtain⟨wv,wq,wr⟩:=w;refine(c.sl (i:=6) rfl).sl.whole rfl h1 rfl ?_;refine c.v3 λ_ _ c=>?_;refine c.w3 7 λ_ c=>?_;refine aE<|c.rc 7 ?_;exact vx (hU _ _)<|vx (inc (by omega))<|q (i+1) _ _ _ ⟨rfl,by omega,by rw[J,List.foldl_append]; rfl,c.pick [0,1,2,3,4,5,6]⟩ (by omega)
 ·obtain rfl:i=s.now.length:=by omega
  rw[List.take_length];generalize s.now.foldl (λn w=>uA (n+w.v)) 0=A at hI⊢;refine c.Aj mf λrW _ c=>?_;replace c:=c.n8;refine aE<|c.rc 1 ?_;refine c.ap 7 rfl (y7 _ (H _ c.gr)) rfl rfl (by simp only[List.length_nil]; omega) (by simp only[List.length_nil]; omega) λtO _ c=>?_;replace c:=c.n8;refine c.dN mf A rfl rfl λuS _ c=>?_;replace c:=c.n9;refine c.ap 7 rfl (c.sl (i:=8) rfl).sl rfl rfl (by simp only[List.length_nil,List.length_append,List.length_cons]; omega) (by simp only[List.length_nil,List.length_append,List.length_cons]; omega) λv71 _ c=>?_;obtain⟨E,rfl⟩:=(c.sl (i:=7) rfl).ol;replace c:=c.n9;refine aE<|c.sR 1 λ_ c=>?_;refine .here<|aE<|c.rc 1 ?_;refine aN<|vx rfl<|aE<|c.sR 1 λ_ c=>?_;refine c.Aj JO λv80 _ c=>?_;replace c:=c.Oo;refine aE<|c.rc 1 ?_;refine c.ap 9 rfl (y6 _ (H _ c.gr)) rfl rfl (by simp only[List.length_nil]; omega) (by simp only[List.length_nil]; omega) λv83 _ c=>?_;replace c:=c.Oo;refine c.dN JO false rfl rfl λv85 _ c=>?_;replace c:=c.QH;refine c.ap 9 rfl (c.sl (i:=10) rfl).sl rfl rfl (by simp only[List.length_nil,List.length_append,List.length_cons]; omega) (by simp only[List.length_nil,List.length_append,List.length_cons]; omega) λv86 _ c=>?_;obtain⟨G,rfl⟩:=(c.sl (i:=9) rfl).ol;obtain⟨u',iS,N⟩:=U.tail (H _ c.gr);replace c:=c.QH;refine aE<|c.sR 1 λ_ c=>?_;refine aE<|c.rc 1 ?_;refine vx iS<|aE<|c.sR 1 λ_ c=>?_;refine aE<|c.sR 1 λ_ c=>?_;refine aE<|c.sR 1 λ_ c=>?_;refine c.rl 1 ?_;refine vx (aG (ds:=[_,_,_,_]) rfl) ?_;have c:=Cx.pack (L:=[_]) (M:=[aD M,bJ mf (aK E) (([]++c'.pn)++[A]),bJ JO (aK G) (([]++c'.done)++[false])]) (c.pick [3,4,7,9]);refine hI ⟨t,seq,du,u',sn,.nilIface,(none,0,0),G,E,false⟩ (B.and [aD M,bJ mf (aK E) (([]++c'.pn)++[A]),bJ JO (aK G) (([]++c'.done)++[false])]) _ _ (Bs.aJ _ _) ⟨H _ c.gr,c.get (i:=1) rfl⟩ ⟨y1,y2,y3,N.le (Bs.aJ _ _),y5.le (Bs.aJ _ _),?_,?_,hb.symm⟩ rfl λv2 W2 M2 _ d oF=>?_
  ·intro h b; obtain⟨_,F,p⟩:=b; exact((Cx.star p).sl (i:=2) rfl).sl
  ·intro h b; obtain⟨_,F,p⟩:=b; exact((Cx.star p).sl (i:=1) rfl).sl
  have c:=c.aF d;replace c:=c.n4;refine c.t8 0 λ_ c=>?_;exact hR v2 W2 _ _ (Cx.pack (L:=[_]) (M:=[_,_]) (c.pick [2,1,3])) (oF.le Bs.Ay)
end
def Iq:∀{es:List Et},(∀(i:Nat) (a b:Et),es[i]?=some a->es[i+1]?=some b->a.at'<b.at')->MY es=true
 | [],_=>rfl
 | [a],_=>rfl
 | a::b::r,H=>by
  unfold MY;rw[decide_eq_true (H 0 a b rfl rfl),Bool.true_and];exact Iq λi a b h1 h2=>H (i+1) a b h1 h2
def H7.bw {es:List Et} (ok:H7 es):G6 es=0:=by
 unfold G6;have h1:=ok.OZ;have h2:=ok.len;rw[if_neg (λx=>x h1),if_neg (by omega),Iq ok.B9,if_neg (λx=>Bool.noConfusion x),List.all_eq_true.2 ok.may,if_neg (λx=>Bool.noConfusion x)]
def H7.UH {es:List Et} (ok:H7 es):eC es=true:=by
 have:∀(n i:Nat),es.length - i=n->eC (es.drop i)=true:=λn=>by
  induction n with
  | zero=>intro i h; exact lu (by omega)
  | succ n A=>
   intro i h;by_cases h2:i+1<es.length
   ·have q:=List.getElem?_eq_getElem (l:=es) (i:=i) (by omega);have u:=List.getElem?_eq_getElem (l:=es) (i:=i+1) h2;rw[tY q u,A (i+1) (by omega),Bool.and_true];exact decide_eq_true (Int.le_of_lt (ok.B9 i _ _ q u))
   ·exact lu (by omega)
 exact this _ 0 rfl
def H7.sw {es:List Et} (ok:H7 es) {t:Nat} {seq:Int} (q:1<=t/\t<=3) (u:1<=seq/\seq<=16777215):F6 t seq es=0:=by
 unfold F6;have h1:=ok.OZ;rw[if_neg (by omega),if_neg (λx=>x h1),ok.UH,if_neg (λx=>Bool.noConfusion x),if_neg];intro x;obtain⟨e,he,hm⟩:=List.any_eq_true.1 x;rw[ok.may e he] at hm;exact Bool.noConfusion hm
section
variable {g:cP} {es:List Et} {du:Bool} {e:SH}
def Ab:I.mt 332 "Next"=some 340:=by kernel_rfl
def T7 (q:On B Zs) (he:On B λh=>Sl EE h (aK e) es):Dn B (aD []) (.iface 332 (oU (PX du e))) g (λB W v=>uP B W v (.bl (GV du es))) ⟨5,eT,W0,W0⟩ false:=by
 intro h F R c u A;refine⟨_,_,_,rfl,Ab,eE.2 (IT (u _ c.gr) q he λv W M h' c' ok=>?_)⟩;exact A _ W M h' ((c.aF c').pick [1,2]) ⟨v,rfl,ok⟩
def qd:I.mt 327 "Next"=some 339:=by kernel_rfl
def TS (A:On B Zs) (he:On B λh=>Sl EE h (aK e) es) {t:Nat} {seq:Int} {q u:Nat} (H:1<=t/\t<=3) :
  Dn B (aD [rV q [.func (.func 219) #[kM (sW t seq du e .nilFunc)] #[]],rV u (Ax (sW t seq du e (o8 220 q u)))]) (.iface 327 (kM (sW t seq du e (o8 220 q u)))) g (λB W v=>uP B W v (.sw (Om t seq du es))) ⟨5,eN t,W0,W0⟩ false:=by
 intro h F R c E G;refine⟨_,_,_,rfl,qd,cM.2 (Jr (by omega) c (λh' ch=>A _ (E _ ch)) λh' c'=>?_)⟩;exact G _ (aD []) [] h' (Cx.wj (L:=[aD []]) (Cx.wj (L:=[]) c')) ⟨_,rfl,rfl,sW t seq du e _,sW t seq du e .nilFunc,rfl,⟨rfl,rfl,rfl,he.le (Bs.aJ _ _),rfl,rfl,rfl⟩,rfl,⟨rfl,rfl,rfl,he.le (Bs.aJ _ _),rfl,rfl,rfl⟩⟩
def zj:I.mt 336 "Next"=some 341:=by kernel_rfl
def Ui {l:SH} {ls:List Int} (u:On B λh=>Sl mf h (aK l) ls) (A:1<=ls.length) :
  Dn B (aD []) (.iface 336 (Bv (P4 du l))) g (λB W v=>uP B W v (.pk (C1 du ls))) ⟨5,ls.getD 0 0,W0,W0⟩ false:=by
 intro h F R c E G;refine⟨_,_,_,rfl,zj,gF.2 (JD (E _ c.gr) u A λH M h' c2 q=>?_)⟩;exact G _ (aD []) M h' (c.aF c2) ⟨H,rfl,rfl,q⟩
def Sm {et:Et} {u:Nat} (f:Fr B u [.func (.func 214) #[kM (sW 0 0 du e .nilFunc)] #[]]) (he:On B λh=>Sl EE h (aK e) [et]) :
  Dn B (aD []) (.iface 327 (kM (sW 0 0 du e (iE 215 u)))) g (λB W v=>uP B W v (.sw (oQ du et))) ⟨5,et.at',W0,W0⟩ false:=by
 intro h F R c A E;refine⟨_,_,_,rfl,qd,cM.2 (Ok (A _ c.gr) f he λG M h' c2 q=>?_)⟩;exact E _ (aD []) M h' (c.aF c2) ⟨G,rfl,rfl,q⟩
end
section
variable {x:Cc} {c:Cn} {o:iZ} {r:List iZ} {v:Value} {l:List Pt} {seen:List W3} {g:cP}
def Jk (b0:B.p h) (K:On B Zs) (J:ME B c x) (hn:x.now.oneCell'=true) (ho:c.ops=o::r) (hk:FW o) (hv:On B λh=>Sl wz h v l) (hl:l.length<=100) (N:∀p∈l,p.cell<256/\-128<=p.more/\p.more<=127)
  (hs:On B λh=>Sl EW h (aK x.seen) seen) (O:seen.length=l.length) (A:H7 (bB l seen)) (ht:1<=c.t/\c.t<=3) (hq:0<=c.seq/\c.seq<16777215) (hd:¬o.d % 4=3) (Q:o.d % 4=2->l.length=1)
  (T:∀en u sq d a W M h',Cx uH h h' [aD M,W]->u.oneCell'=true->inl .eql u=some (.bool false)->Dn (B.and M) W u g (λB W v=>uP B W v d) a false->jT c o l seen=(some {c with seen:=[],seq:=sq,now:=some d},a)->R (.tuple #[wy {x with seq:=sq,seen:=(none,0,0),oV:=en,now:=u},.int .i64 0]) h') :
  eG.1 (wy x) v h R:=by
 have y4:=J.ops;rw[ho] at y4;have e1:=J.t;have G:=J.seq;have H:=J.du;have q:∀{e:SH} {L:List aX},On (B.and (bJ EE (aK e) (bB l seen)::L)) λh=>Sl EE h (aK e) (bB l seen):=λ{e L} h b=>by
  obtain⟨_,F,p⟩:=b;exact((Cx.star p).sl (i:=0) rfl).sl
 refine Lb b0 K hn y4 hk hv hl N hs O A (by omega) (by omega) hd Q (λE en e h' c'=>?_) (λE U en e et r1 r2 h' V X c'=>?_) (λZ en e r1 r2 h' c'=>?_)
 ·refine T en (.iface 332 (oU (PX x.du e))) x.seq (.bl (GV c.cH (bB l seen))) ⟨5,eT,W0,W0⟩ (aD []) [bJ EE (aK e) (bB l seen)] h' (Cx.wj (L:=[_]) (c'.pack (L:=[]) (M:=[_]))) rfl rfl ?_ ?_
  ·rw[H];exact T7 (K.le (Bs.aJ _ _)) q
  ·unfold jT;dsimp only;rw[if_pos E,if_pos A.bw,G]
 ·rw[H] at c';refine T en _ x.seq (.sw (oQ c.cH et)) ⟨5,et.at',W0,W0⟩ (aD []) [_,_,_] h' (Cx.wj (L:=[_]) (c'.pack (L:=[]) (M:=[_,_,_]))) rfl rfl (by rw[H]; exact Sm (Fr.of (i:=1) rfl) (On.sl (i:=0) rfl)) ?_;unfold jT;dsimp only;have hg:((l.zip seen).map λx=>kO x.1 x.2).getD 0 Fj=et:=by
   have:(bB l seen).getD 0 Fj=et:=by rw[V]; rfl
   exact this
  have aS:(bB l seen).getD 0 Fj=et:=hg;rw[if_neg (by omega),if_pos ⟨E,U⟩,aS,if_pos X,G]
 ·refine T en _ (x.seq+1) (.sw (Om c.t (c.seq+1) c.cH (bB l seen))) ⟨5,eN c.t,W0,W0⟩ (aD _) [bJ EE (aK e) (bB l seen)] h' ?_ rfl rfl (by rw[e1,G,H]; exact TS (K.le (Bs.aJ _ _)) q ht) ?_
  ·rw[e1,G,H] at c';have c2:=Cx.pack (L:=[_,_]) (M:=[_]) (c'.pick [1,2,0]);exact Cx.pack (L:=[_]) (M:=[_,_]) (c2.pick [2,0,1])
  ·unfold jT;dsimp only;rw[if_neg (by omega),if_neg (λx=>Z.elim (λy=>by omega) λy=>y.2 x.2),if_pos (A.sw ht (by omega)),G]
end
def aR (c:Cn) (g:cP):List W3:=if c.seen=[] then [] else c.seen.dropLast++[g.w]
structure Ph (c:Cn) (g:cP):Prop where
 t:1<=c.t/\c.t<=3
 seq:0<=c.seq/\c.seq<16777215
 ops:∀o∈c.ops,FW o
 seen:c.seen.length<=6
 rd:∀o r,iA c.ops=o::r->o.d % 4=3->R7 ((aL o).map bO)
 VJ:∀o r,iA c.ops=o::r->¬o.d % 4=3->¬(aR c g).length<(aL o).length->(aR c g).length=(aL o).length/\H7 (bB (aL o) (aR c g))/\(o.d % 4=2->(aL o).length=1)
def BJ:∀{l:List iZ} {o:iZ} {r:List iZ},iA l=o::r->o∈l
 | [],_,_,h=>by cases h
 | x::l,o,r,h=>by
  rw[iA] at h;split at h
  ·exact List.mem_cons_of_mem _ (BJ h)
  ·injection h with h1 h2;subst h1;exact List.mem_cons_self
def p0 {o:iZ} {r:List iZ} (h:o.ps=[]):iA (o::r)=iA r:=by rw[iA,if_pos h]
def ku {o:iZ} {r:List iZ} (h:¬o.ps=[]):iA (o::r)=o::r:=by rw[iA,if_neg h]
def vh {o:iZ} (q:¬o.d % 4=2):aL o=qL o.ps 6:=by unfold aL; rw[if_neg q]; rfl
def Hg {ps:List Pt} {n:Nat} {p:Pt} (h:p∈qL ps n):p∈ps:=by
 unfold qL at h;obtain⟨i,_,h⟩:=List.mem_filterMap.1 h;exact List.mem_of_find?_eq_some h
def tN {o:iZ} {p:Pt} (h:p∈aL o):p∈o.ps:=by
 by_cases q:o.d % 4=2
 ·unfold aL at h;rw[if_pos q] at h;exact Hg (n:=6) (List.mem_of_mem_take h)
 ·rw[vh q] at h; exact Hg h
def FY {o:iZ}:(aL o).length<=6:=by
 by_cases q:o.d % 4=2
 ·unfold aL;rw[if_pos q,List.length_take];omega
 ·rw[vh q]; exact C0 _ _
section
variable {x:Cc} {c':Cn} {g:cP}
def CT (G:B.p h) (hZ:On B Zs) (hx:ME B c' x) (hn:x.now=.nilIface) (hc:c'.now=none) (Q:c'.broken=false) (ok:Ph c' g)
  (hR:xD 89 uH h B (λB W v=>GX B W v (dR c' g).1) (dR c' g).2.1 (dR c' g).2.2 R):bC.1 (wy x) (eI g) h R:=by
 obtain⟨t,seq,du,ops,sn,now,oV,dn,sm,br⟩:=x;dsimp only at hn;subst hn;obtain⟨k1,k2,k3,k4,k6,k5⟩:=ok;obtain⟨⟨q,A,gr⟩,J⟩:=g;obtain⟨y1,y2,y3,y4,y5,y6,y7,y8⟩:=hx;dsimp only at y1 y2 y3 y4 y5 y6 y7 y8;rw[Q] at y8;subst y8;have c:=Cx.aB h;refine c.FT λaS _ c=>?_;refine c.v4 λaT _ c=>?_;refine c.v8 λbY _ c=>?_;refine aE<|c.rc 0 ?_;refine vx (v:=.bool false) (rfl)<|aN<|Fm.by (λ(z:SH × List iZ) h'=>nE B z.1 z.2/\iA z.2=iA c'.ops/\z.2.length<=c'.ops.length/\Cx (λ_=>False) h h' [rV aS (J4 ⟨t,seq,du,z.1,sn,.nilIface,oV,dn,sm,false⟩),rV aT [.int .i64 q,.int .u32 A,.int .u32 gr,.bool J],rV bY jQ.toList]) (λz=>z.2.length) (ops,c'.ops) ⟨y4,rfl,Nat.le_refl _,c⟩ ?_;rintro⟨u,l⟩ h4' ⟨ho,E,hle,c⟩ again O;dsimp only at ho E hle c O;refine m3.at (λv h'=>∃b,v=.bool b/\(b=true->∃o r,l=o::r/\o.ps=[])/\(b=false->l=[]\/∃o r,l=o::r/\¬o.ps=[])/\Cx (λ_=>False) h h' [rV aS (J4 ⟨t,seq,du,u,sn,.nilIface,oV,dn,sm,false⟩),rV aT [.int .i64 q,.int .u32 A,.int .u32 gr,.bool J],rV bY jQ.toList]) ?_ ?_
 ·refine aE<|c.rc 0 ?_;refine vx (ho.ln (B.up G c.gr))<|vx eY<|dW (λe22=>?_) λe22=>?_
  ·refine aE<|c.rc 0 ?_;obtain⟨o,r,rfl⟩:∃o r,l=o::r:=by cases l with | nil=>simp at e22 | cons o r=>exact⟨o,r,rfl⟩
   obtain⟨us,p,q1,q2⟩:=ho.head;refine(q1 _ (B.up G c.gr)).oW (i:=0) (j:=1) rfl rfl rfl (u:=aK p) rfl ?_;refine vx (q2 _ (B.up G c.gr)).ln<|vx bW ?_;first | exact⟨_,rfl,λe=>⟨_,_,rfl,List.length_eq_zero_iff.1 (by have:=of_decide_eq_true e; omega)⟩,λe=>.inr ⟨_,_,rfl,λe2=>by rw[e2] at e; exact absurd e (by decide)⟩,c⟩| exact⟨_,rfl,λe=>Bool.noConfusion e,λ_=>.inl (List.length_eq_zero_iff.1 (by omega)),c⟩
  ·first | exact⟨_,rfl,λe=>⟨_,_,rfl,List.length_eq_zero_iff.1 (by have:=of_decide_eq_true e; omega)⟩,λe=>.inr ⟨_,_,rfl,λe2=>by rw[e2] at e; exact absurd e (by decide)⟩,c⟩| exact⟨_,rfl,λe=>Bool.noConfusion e,λ_=>.inl (List.length_eq_zero_iff.1 (by omega)),c⟩
 ·rintro _ h5' ⟨b,rfl,hT,hF,c⟩;replace c:=c.n3;refine En.br (λdO=>?_) λdO=>?_
  ·refine aE<|c.rc 0 ?_;obtain⟨o,r,rfl,ep⟩:=hT dO;obtain⟨u',hsl,hops⟩:=ho.tail (B.up G c.gr);refine vx hsl<|aE<|c.sR 0 λ_ c=>?_;exact O (u',r) _ ⟨hops,(p0 ep).symm.trans E,by simp only[List.length_cons] at hle; dsimp only; omega,c⟩ (by simp only[List.length_cons]; omega)
  ·refine m3.at (λv h'=>∃b,v=.bool b/\(b=true->l=[])/\(b=false->∃o r,l=o::r/\¬o.ps=[])/\Cx (λ_=>False) h h' [rV aS (J4 ⟨t,seq,du,u,sn,.nilIface,oV,dn,sm,false⟩),rV aT [.int .i64 q,.int .u32 A,.int .u32 gr,.bool J],rV bY jQ.toList]) ?_ ?_
   ·refine aE<|c.rc 0 ?_;refine vx (ho.ln (B.up G c.gr))<|vx bW<|dW (λiS=>?_) λiS=>?_
    ·first | exact⟨_,rfl,λ_=>List.length_eq_zero_iff.1 (by omega),λe=>Bool.noConfusion e,c⟩| exact⟨_,rfl,λe=>Bool.noConfusion e,λ_=>(hF dO).resolve_left λe=>iS (by rw[e]; rfl),c⟩
    ·refine aE<|c.rc 0 ?_;first | exact⟨_,rfl,λ_=>List.length_eq_zero_iff.1 (by omega),λe=>Bool.noConfusion e,c⟩| exact⟨_,rfl,λe=>Bool.noConfusion e,λ_=>(hF dO).resolve_left λe=>iS (by rw[e]; rfl),c⟩
   ·rintro _ h6' ⟨b,rfl,hT1,hF1,c⟩;replace c:=c.n3;refine En.br (λoF=>?_) λoF=>?_
    ·refine c.rl 0 ?_;refine vx rfl<|vx (aG (ds:=[_,_,_,_,_,_,_,_]) rfl)<|c.w8 2 λ_ c=>?_;refine c.rl 2 ?_;obtain rfl:=hT1 oF;have e1:dR c' ⟨⟨q,A,gr⟩,J⟩=({c' with ops:=[]},jG,true):=by unfold dR; rw[<-E]; rfl
     rw[e1] at hR;refine hR _ (aD []) [] _ (Cx.wj (L:=[_]) (Cx.wj (L:=[]) (c.pick []))) ⟨_,rfl,⟨y1,y2,y3,ho.le (Bs.aJ _ _),y5.le (Bs.aJ _ _),y6.le (Bs.aJ _ _),y7.le (Bs.aJ _ _),Q.symm⟩,?_⟩;dsimp only;rw[hc];exact⟨rfl,rfl⟩
    ·refine c.rl 0 ?_;obtain⟨o,r,rfl,hps⟩:=hF1 oF;rw[ku hps] at E;have T:=k3 o (BJ E.symm);obtain⟨us,p,q1,q2⟩:=ho.head;refine KH (x:=⟨t,seq,du,u,sn,.nilIface,oV,dn,sm,false⟩) (B.up G c.gr) rfl ho T λpl _ d=>?_;have c:=c.aF d;have hpl:=FY (o:=o);replace c:=c.n4;refine .here<|aE<|c.rc 0 ?_;refine(q1 _ (B.up G c.gr)).oW (i:=0) (j:=0) rfl rfl rfl (u:=.int .u8 o.d) rfl ?_;refine vx (AQ (by omega) (by decide))<|vx bW<|dW (λe55=>?_) λe55=>?_
     ·refine aE<|vx (c.vp (i:=0) (ds:=[_,_,_]) rfl rfl rfl)<|aE<|c.rc 0 ?_;refine c.rl 0 ?_;have c:=Cx.pack (L:=[_,_,_]) (M:=[bJ wz (aK pl) (aL o)]) (c.pick [0,1,2,3]);refine wF (x:=⟨t,seq,du,u,sn,.nilIface,oV,dn,sm,false⟩) (B:=B.and [bJ wz (aK pl) (aL o)]) ⟨B.up G c.gr,c.get (i:=3) rfl⟩ (hZ.le (Bs.aJ _ _)) rfl (On.sl (i:=0) rfl) (by omega) (λp hp=>(T.pt p (tN hp)).1) λat9 _ d=>?_;have c:=c.aF d;replace c:=c.n5;refine c.ac 0 ?_;refine And.intro (c.vp (i:=0) (ds:=[_,_,_]) rfl rfl rfl) ?_;refine DZ (hZ _ (B.up G c.gr)) (c.sl (i:=4) rfl).sl (k6 o r E.symm (by omega)) λl7 _ d=>?_;have c:=c.aF d;have hlok:=(k6 o r E.symm (by omega)).len.1;have U:inl .eql (.iface 336 (Bv (P4 du l7)))=some (.bool false):=rfl;have e1:dR c' ⟨⟨q,A,gr⟩,J⟩=({c' with ops:=o::r,now:=some (.pk (C1 c'.cH ((aL o).map bO)))},⟨5,((aL o).map bO).getD 0 0,W0,W0⟩,false):=by
       unfold dR;rw[<-E];dsimp only;rw[if_neg (by rw[Q]; decide),if_pos (show o.d % 4=3 by omega)]
      rw[e1] at hR;replace c:=c.n6;refine vx rfl<|vx rfl<|aE<|c.sR 0 λ_ c=>?_;refine .here<|vx (v:=.bool false) rfl<|aN<|aE<|c.rc 0 ?_;refine vx U<|aN<|c.rl 0 ?_;refine vx (aG (ds:=[_,_,_,_]) rfl) ?_;have hb2:=Q;have c:=Cx.wj (L:=[_,_,_,_,_]) (Cx.pack (L:=[_,_,_,_]) (M:=[bJ mf (aK l7) ((aL o).map bO)]) (c.pick [0,1,2,3,5]));obtain⟨F',d',hF,up⟩:=c.lR (i:=5) rfl;have hM:∀K,Ch F' _ K->(B.and [bJ mf (aK l7) ((aL o).map bO)]).p K:=λK ch=>⟨B.up G (hF _ ch),(up (A':=aD []) (M:=[]) (h':=K) (Cx.Oh ch)).get (i:=4) rfl⟩;refine bL.2 (Ao (x:=⟨t,seq,du,u,sn,.iface 336 (Bv (P4 du l7)),oV,dn,sm,false⟩) (g:=kq) rfl (V:=λB W v=>uP B W v (.pk (C1 c'.cH ((aL o).map bO)))) (by rw[<-y3]; exact Ui (On.sl (i:=0) rfl) hlok) (λB W v H=>H.one) d' hM λv2 W2 M2 _ d2 oR=>?_);have c:=up d2;replace c:=c.n7;refine c.t8 2 λ_ c=>?_;obtain⟨u2,rfl,H⟩:=oR;have lz:B.le (B.and [aD [bJ mf (aK l7) ((aL o).map bO)],aD M2]):=Bs.aJ _ _;exact hR _ W2 [aD [bJ mf (aK l7) ((aL o).map bO)],aD M2] _ (Cx.pack (L:=[_]) (M:=[_,_]) (c.pick [5,4,6])) ⟨⟨t,seq,du,u,sn,u2,oV,dn,sm,false⟩,rfl,⟨y1,y2,y3,ho.le lz,y5.le lz,y6.le lz,y7.le lz,Q.symm⟩,H.le λh b=>⟨⟨b.1,Bs.star b (i:=0) rfl⟩,Bs.star b (i:=1) rfl⟩⟩
     ·refine Cm.at (λh'=>∃Z M,Cx (λ_=>False) h h' [rV aS (J4 ⟨t,seq,du,u,Z,.nilIface,oV,dn,sm,false⟩),rV aT [.int .i64 q,.int .u32 A,.int .u32 gr,.bool J],rV bY jQ.toList,aD M]/\(On (B.and M) λh=>Sl wz h (aK pl) (aL o))/\On (B.and M) λh=>Sl EW h (aK Z) (aR c' ⟨⟨q,A,gr⟩,J⟩)) ?_ ?_
      ·refine aE<|c.rc 0 ?_;refine vx (y5 _ (B.up G c.gr)).ln<|vx eY<|dW (λrW=>?_) λrW=>?_
       ·refine aE<|c.rc 0 ?_;refine aE<|c.rc 0 ?_;refine vx (y5 _ (B.up G c.gr)).ln<|vx (v:=.int .i64 ((c'.seen.length - 1:Nat):Int)) ((fT ⟨by omega,by omega⟩).trans (congrArg (λz=>some (Value.int .i64 z)) (by omega))) ?_;have iN:=λh' b'=>(y5 h' b').sub (n:=3) rfl (lo:=none) (hi:=some (.int .i64 ((c'.seen.length - 1:Nat):Int))) (l:=0) (u:=c'.seen.length - 1) (.inl ⟨rfl,rfl⟩) (.inr ⟨_,_,rfl,rfl⟩) (Nat.zero_le _) (by omega);obtain⟨w,ew,Hw,_⟩:=iN _ (B.up G c.gr);have tO:On B λh=>Sl EW h w c'.seen.dropLast:=λh' b'=>by
         obtain⟨w',eQ,Hw',_⟩:=iN h' b';rw[ew] at eQ;injection eQ with eQ;rw[eQ,List.dropLast_eq_take];exact Hw'
        have uS:aR c' ⟨⟨q,A,gr⟩,J⟩=([]++c'.seen.dropLast)++[⟨q,A,gr⟩]:=by
         unfold aR;rw[if_neg (λe=>by rw[e] at rW; exact absurd rW (by decide))]; rfl
        refine vx ew<|aE<|vx (c.vp (i:=1) (ds:=[_,_,_]) rfl rfl rfl)<|⟨?_,?_⟩
        ·refine c.Aj EW λv72 _ c=>?_;replace c:=c.n5;refine And.intro (c.vp (i:=1) (ds:=[_,_,_]) rfl rfl rfl) ?_;refine c.ac 0 ?_;refine c.ac 0 ?_;refine⟨?_,?_⟩
         ·refine c.ap 4 rfl (tO _ (B.up G c.gr)) rfl rfl (by simp only[List.length_nil,List.length_dropLast]; omega) (by simp only[List.length_nil,List.length_dropLast]; omega) λv80 _ c=>?_;replace c:=c.n5;refine And.intro (c.vp (i:=1) (ds:=[_,_,_]) rfl rfl rfl) ?_;refine c.dN EW ⟨q,A,gr⟩ rfl rfl λv83 _ c=>?_;replace c:=c.n6;refine c.ap 4 rfl (c.sl (i:=5) rfl).sl rfl rfl (by simp only[List.length_nil,List.length_append,List.length_dropLast,List.length_cons]; omega) (by simp only[List.length_nil,List.length_append,List.length_dropLast,List.length_cons]; omega) λv84 _ c=>?_;obtain⟨Z,rfl⟩:=(c.sl (i:=4) rfl).ol;replace c:=c.n6;refine aE<|c.sR 0 λ_ c=>?_;exact⟨Z,[_,_],Cx.pack (L:=[_,_,_]) (M:=[_,_]) (c.pick [0,1,2,3,4]),On.sl (i:=0) rfl,by rw[uS]; exact On.sl (i:=1) rfl⟩
         ·refine c.dN EW ⟨q,A,gr⟩ rfl rfl λv83 _ c=>?_;replace c:=c.n6;refine c.ac 0 ?_;refine c.ac 0 ?_;refine c.ap 4 rfl (tO _ (B.up G c.gr)) rfl rfl (by simp only[List.length_nil,List.length_dropLast]; omega) (by simp only[List.length_nil,List.length_dropLast]; omega) λv80 _ c=>?_;replace c:=c.n6;refine c.ap 4 rfl (c.sl (i:=5) rfl).sl rfl rfl (by simp only[List.length_nil,List.length_append,List.length_dropLast,List.length_cons]; omega) (by simp only[List.length_nil,List.length_append,List.length_dropLast,List.length_cons]; omega) λv84 _ c=>?_;obtain⟨Z,rfl⟩:=(c.sl (i:=4) rfl).ol;replace c:=c.n6;refine aE<|c.sR 0 λ_ c=>?_;exact⟨Z,[_,_],Cx.pack (L:=[_,_,_]) (M:=[_,_]) (c.pick [0,1,2,3,4]),On.sl (i:=0) rfl,by rw[uS]; exact On.sl (i:=1) rfl⟩
        ·refine c.dN EW ⟨q,A,gr⟩ rfl rfl λv83 _ c=>?_;replace c:=c.n5;refine c.ac 0 ?_;refine c.ac 0 ?_;refine c.Aj EW λv72 _ c=>?_;replace c:=c.n6;refine c.ac 0 ?_;refine c.ac 0 ?_;refine c.ap 5 rfl (tO _ (B.up G c.gr)) rfl rfl (by simp only[List.length_nil,List.length_dropLast]; omega) (by simp only[List.length_nil,List.length_dropLast]; omega) λv80 _ c=>?_;replace c:=c.n6;refine c.ap 5 rfl (c.sl (i:=4) rfl).sl rfl rfl (by simp only[List.length_nil,List.length_append,List.length_dropLast,List.length_cons]; omega) (by simp only[List.length_nil,List.length_append,List.length_dropLast,List.length_cons]; omega) λv84 _ c=>?_;obtain⟨Z,rfl⟩:=(c.sl (i:=5) rfl).ol;replace c:=c.n6;refine aE<|c.sR 0 λ_ c=>?_;exact⟨Z,[_,_],Cx.pack (L:=[_,_,_]) (M:=[_,_]) (c.pick [0,1,2,3,5]),On.sl (i:=0) rfl,by rw[uS]; exact On.sl (i:=1) rfl⟩
       ·exact⟨sn,[_],Cx.pack (L:=[_,_,_]) (M:=[_]) c,On.sl (i:=0) rfl,by unfold aR; rw[if_pos (List.length_eq_zero_iff.1 (by omega))]; rw[List.length_eq_zero_iff.1 (show c'.seen.length=0 by omega)] at y5; exact y5.le (Bs.aJ _ _)⟩
      ·rintro h7' ⟨Z,M,c,X,iF⟩;replace c:=c.n4;refine aE<|c.rc 0 ?_;have hsn:(aR c' ⟨⟨q,A,gr⟩,J⟩).length<=7:=by
        unfold aR;split
        ·decide
        ·rw[List.length_append,List.length_dropLast,List.length_singleton]; omega
       refine vx (iF _ ⟨B.up G c.gr,c.get (i:=3) rfl⟩).ln<|vx (X _ ⟨B.up G c.gr,c.get (i:=3) rfl⟩).ln<|vx aV<|dW (λe92=>?_) λe92=>?_
       ·refine c.Aj EW λv93 _ c=>?_;replace c:=c.n5;refine aE<|c.rc 0 ?_;refine c.ap 4 rfl (iF _ ⟨B.up G c.gr,c.get (i:=3) rfl⟩) rfl rfl (by simp only[List.length_nil]; omega) (by simp only[List.length_nil]; omega) λv96 _ c=>?_;replace c:=c.n5;refine vx (aG (ds:=[_,_,_]) rfl)<|c.dN EW W0 rfl rfl λv98 _ c=>?_;replace c:=c.n6;refine c.ap 4 rfl (c.sl (i:=5) rfl).sl rfl rfl (by simp only[List.length_nil,List.length_append,List.length_cons]; omega) (by simp only[List.length_nil,List.length_append,List.length_cons]; omega) λv99 _ c=>?_;obtain⟨u5,rfl⟩:=(c.sl (i:=4) rfl).ol;replace c:=c.n6;refine aE<|c.sR 0 λ_ c=>?_;refine c.rl 0 ?_;refine vx rfl<|c.rl 0 ?_;refine wF (B:=B.and M) (x:=⟨t,seq,du,u,u5,.nilIface,oV,dn,sm,false⟩) ⟨B.up G c.gr,c.get (i:=3) rfl⟩ (hZ.le (Bs.aJ _ _)) rfl X (by omega) (λp hp=>(T.pt p (tN hp)).1) λat5 _ d=>?_;have c:=c.aF d;replace c:=c.n7;refine c.al 0 ?_;have hxp:((aL o).map bO)[(aR c' ⟨⟨q,A,gr⟩,J⟩).length]?=some (((aL o).map bO).getD (aR c' ⟨⟨q,A,gr⟩,J⟩).length 0):=by
         have:=List.getElem?_eq_getElem (l:=(aL o).map bO) (i:=(aR c' ⟨⟨q,A,gr⟩,J⟩).length) (by rw[List.length_map]; omega);rw[List.getD_eq_getElem?_getD,this]; rfl
        obtain⟨r5,o5,e5,row5,_⟩:=(c.sl (i:=6) rfl).sl.ix hxp (n:=1) rfl (k:=.i64) (z:=((aR c' ⟨⟨q,A,gr⟩,J⟩).length:Int)) rfl;refine vx e5<|vx (row5.rq rfl)<|vx (aG (ds:=[_,_,_,_,_,_,_,_]) rfl)<|c.w8 2 λ_ c=>?_;refine c.rl 2 ?_;have e1:dR c' ⟨⟨q,A,gr⟩,J⟩=({c' with ops:=o::r,seen:=([]++aR c' ⟨⟨q,A,gr⟩,J⟩)++[W0]},⟨5,((aL o).map bO).getD (aR c' ⟨⟨q,A,gr⟩,J⟩).length 0,W0,W0⟩,false):=by
         unfold dR;rw[<-E];dsimp only;rw[if_neg (by rw[Q]; decide),if_neg (by omega)];exact if_pos (show(aR c' ⟨⟨q,A,gr⟩,J⟩).length<_ by omega)
        rw[e1] at hR;have c9:=Cx.wj (L:=[_,_]) (c.pick [3,4]);refine hR _ (aD []) [aD M,_] _ (Cx.pack (L:=[_]) (M:=[_,_]) (c9.pick [2,0,1])) ⟨⟨t,seq,du,u,u5,.nilIface,oV,dn,sm,false⟩,rfl,⟨y1,y2,y3,ho.le (Bs.aJ _ _),On.sl (i:=1) rfl,y6.le (Bs.aJ _ _),y7.le (Bs.aJ _ _),Q.symm⟩,?_⟩;dsimp only;rw[hc];exact⟨rfl,rfl⟩
       ·refine c.rl 0 ?_;obtain⟨hle2,hEok,hl1⟩:=k5 o r E.symm (by omega) (by omega);refine eG.2 (Jk (B:=B.and M) (g:=kq) (c:={c' with ops:=o::r,seen:=aR c' ⟨⟨q,A,gr⟩,J⟩}) (x:=⟨t,seq,du,u,Z,.nilIface,oV,dn,sm,false⟩) ⟨B.up G c.gr,c.get (i:=3) rfl⟩ (hZ.le (Bs.aJ _ _)) ⟨y1,y2,y3,ho.le (Bs.aJ _ _),iF,y6.le (Bs.aJ _ _),y7.le (Bs.aJ _ _),Q.symm⟩ rfl rfl T X (by omega) (λp hp=>T.pt p (tN hp)) iF hle2 hEok k1 k2 (by omega) hl1 λen u6 sq d6 a6 W6 M6 _ c6 hone U hN hbeg=>?_);have c:=c.aF c6;have e1:dR c' ⟨⟨q,A,gr⟩,J⟩=({c' with ops:=o::r,seen:=[],seq:=sq,now:=some d6},a6,false):=by
         unfold dR;rw[<-E];dsimp only;rw[if_neg (by rw[Q]; decide),if_neg (by omega)];refine(if_neg (show ¬(aR c' ⟨⟨q,A,gr⟩,J⟩).length<_ by omega)).trans ?_;have N:jT {c' with ops:=o::r} o (aL o) (aR c' ⟨⟨q,A,gr⟩,J⟩)=(some {c' with ops:=o::r,seen:=[],seq:=sq,now:=some d6},a6):=hbeg;unfold aR at N;dsimp only at N;rw[N]
        rw[e1] at hR;replace c:=c.n6;refine vx rfl<|vx rfl<|c.Od 0 λ_ c=>?_;refine .here<|vx (v:=.bool false) rfl<|aN<|aE<|c.rc 0 ?_;refine vx U<|aN<|c.rl 0 ?_;refine vx (aG (ds:=[_,_,_,_]) rfl) ?_;have hb2:=Q;obtain⟨F',d',hF,up⟩:=c.lR (i:=5) rfl;have hM:∀K,Ch F' _ K->((B.and M).and M6).p K:=λK ch=>by
         have cc:=up (A':=aD []) (M:=[]) (h':=K) (Cx.Oh ch);exact⟨⟨B.up G (hF _ ch),cc.get (i:=3) rfl⟩,cc.get (i:=4) rfl⟩
        refine bL.2 (Ao (x:=⟨t,sq,du,u,(none,0,0),u6,en,dn,sm,false⟩) (g:=kq) hone hN (λB W v H=>H.one) d' hM λv2 W2 M2 _ d2 oR=>?_);have c:=up d2;replace c:=c.n7;refine c.t8 2 λ_ c=>?_;obtain⟨u2,rfl,H⟩:=oR;have lz:B.le (B.and [aD M,aD M6,aD M2]):=Bs.aJ _ _;exact hR _ W2 [aD M,aD M6,aD M2] _ (Cx.pack (L:=[_]) (M:=[_,_,_]) (c.pick [5,3,4,6])) ⟨⟨t,sq,du,u,(none,0,0),u2,en,dn,sm,false⟩,rfl,⟨y1,rfl,y3,ho.le lz,(λ_ _=>Sl.nil),y6.le lz,y7.le lz,Q.symm⟩,H.le λh b=>⟨⟨⟨b.1,Bs.star b (i:=0) rfl⟩,Bs.star b (i:=1) rfl⟩,Bs.star b (i:=2) rfl⟩⟩
end
def xk {s:Sw} {l:List Ac}:(xM s l).2.2=false:=by cases l <;> rfl
def Gc {s:Sw} {w:W3} (h:(pq s w).2.2=true):∃ok,(pq s w).1.ph=.over ok:=by
 unfold pq at h⊢;split
 ·exact⟨_,rfl⟩
 ·rename_i n1;rw[if_neg n1] at h;split
  ·rename_i n2;rw[if_pos n2] at h;exact Bool.noConfusion (h.symm.trans (xk (s:=s) (l:=eJ s)))
  ·rename_i n2;rw[if_neg n2] at h;exact Bool.noConfusion h
def JP {s:Sw} {g:cP} (u:LS s.ph) (h:(bS s g).2.2=true):∃ok,(bS s g).1.ph=.over ok:=by
 unfold bS at h⊢;cases A:s.ph with
 | lI=>rw[A] at h; dsimp only at h⊢; exact Gc h
 | last hs=>
  rw[A] at h;dsimp only at h⊢;cases E:bV hs g with
  | mk G q=>
   obtain⟨a,d⟩:=q;rw[E] at h;cases d with
   | false=>exact Bool.noConfusion h
   | true=>exact Bool.noConfusion (h.symm.trans (xk (s:=s) (l:=eJ s)))
 | mO l=>rw[A] at h; exact Bool.noConfusion (h.symm.trans (xk (s:=s) (l:=l)))
 | own hs=>
  rw[A] at h;dsimp only at h⊢;cases E:bV hs g with
  | mk G q=>
   obtain⟨a,d⟩:=q;rw[E] at h;cases d with
   | false=>exact Bool.noConfusion h
   | true=>exact⟨_,rfl⟩
 | over ok=>rw[A] at u; exact u.elim
 | lM=>rw[A] at u; exact u.elim
 | jS w hs=>rw[A] at u; exact u.elim
 | kC=>rw[A] at u; exact u.elim
 | mG=>rw[A] at u; exact u.elim
 | send l ok=>rw[A] at u; exact u.elim
def tG {s:Sw} {ok:Bool} {l:List Ac} (h:(oO s ok l).2.2=true):∃q,(oO s ok l).1.ph=.over q:=by
 cases l with
 | nil=>exact⟨ok,rfl⟩
 | cons a l=>exact Bool.noConfusion h
def Es {s:Sw} {w:W3} (h:(r8 s w).2.2=true):∃ok,(r8 s w).1.ph=.over ok:=by
 unfold r8 at h⊢;split
 ·rename_i h1; rw[if_pos h1] at h; exact Bool.noConfusion h
 ·rename_i h1;rw[if_neg h1] at h;split
  ·rename_i h2; rw[if_pos h2] at h; exact tG h
  ·rename_i h2; rw[if_neg h2] at h; exact Bool.noConfusion h
def G0 {s:Sw} {g:cP} (u:IX s) (h:(bS s g).2.2=true):∃ok,(bS s g).1.ph=.over ok:=by
 obtain⟨_,u⟩:=u;unfold bS at h⊢;cases A:s.ph with
 | lM=>rw[A] at h; exact Es h
 | jS w hs=>
  rw[A] at h;dsimp only at h⊢;cases E:bV hs g with
  | mk G q=>
   obtain⟨a,d⟩:=q;rw[E] at h;cases d with
   | false=>exact Bool.noConfusion h
   | true=>
    dsimp only at h;split at h <;> exact Bool.noConfusion h
 | kC=>rw[A] at h; exact Bool.noConfusion h
 | mG=>
  rw[A] at h;dsimp only at h⊢;split
  ·rename_i h1; rw[if_pos h1] at h; exact tG h
  ·rename_i h1; rw[if_neg h1] at h; exact Es h
 | send l ok=>rw[A] at h; exact tG h
 | lI=>rw[A] at u; exact u.elim
 | last hs=>rw[A] at u; exact u.elim
 | own hs=>rw[A] at u; exact u.elim
 | mO l=>rw[A] at u; exact u.elim
 | over ok=>rw[A] at u; exact u.elim
def Bt {s:Bk}:(pL s).2.2=false:=by
 unfold pL;split
 ·rfl
 ·split
  ·unfold nW; dsimp only; split <;> rfl
  ·rfl
def I9 {s:Bk}:(nW s).2.2=false:=by unfold nW; dsimp only; split <;> rfl
def xC {s:Bk} {op:Bool}:(fB s op).2.2=false:=by
 unfold fB;split
 ·rfl
 ·exact Bt
def Jf {s:Bk} {g:cP} (h:(bP s g).2.2=true):(bP s g).1.ph=.over:=by
 unfold bP at h⊢;cases u:s.ph with
 | take k=>
  rw[u] at h;dsimp only at h⊢;cases A:eO k g with
  | mk k' q=>
   obtain⟨a,d⟩:=q;rw[A] at h;cases d with
   | false=>cases k' <;> exact Bool.noConfusion h
   | true=>cases k' <;> first | exact Bool.noConfusion h | rfl
 | looked=>rw[u] at h; dsimp only at h; unfold om at h; split at h <;> exact Bool.noConfusion h
 | rel op=>
  rw[u] at h;dsimp only at h;split at h
  ·exact Bool.noConfusion h
  ·exact Bool.noConfusion (h.symm.trans xC)
 | xU op=>rw[u] at h; exact Bool.noConfusion h
 | uC op=>rw[u] at h; exact Bool.noConfusion (h.symm.trans xC)
 | fill=>rw[u] at h; exact Bool.noConfusion (h.symm.trans Bt)
 | fP=>rw[u] at h; exact Bool.noConfusion (h.symm.trans I9)
 | xg=>rw[u] at h; exact Bool.noConfusion h
 | fZ hs=>
  rw[u] at h;dsimp only at h⊢;cases A:bV hs g with
  | mk E q=>
   obtain⟨a,d⟩:=q;rw[A] at h;cases d <;> exact Bool.noConfusion h
 | lX b k=>
  rw[u] at h;dsimp only at h⊢;cases A:fC b k g with
  | mk k' q=>
   obtain⟨a,d⟩:=q;rw[A] at h;cases d with
   | false=>exact Bool.noConfusion h
   | true=>rfl
 | over=>exact u
def Kv:Cd->Prop
 | .sw s=>R5 s/\LS s.ph\/IX s
 | .bl s=>Ly s
 | .pk s=>Jg s
def Sd:Cd->Bool
 | .bl _=>true
 | _=>false
def CM (c:Cn) (d:Cd):Cn:={c with done:=c.done++[rE d],pn:=c.pn++yY d,ops:=c.ops.tail,now:=none}
structure MM (c:Cn) (g:cP):Prop where
 br:c.broken=false
 dn:c.done.length<=1000
 sm:c.pn.length<=1000
 idle:c.now=none->Ph c g
 now:∀d,c.now=some d->Kv d/\c.ops≠[]/\((cR d g).2.2=true->Ph (CM c (cR d g).1) kq)
section
variable {x:Cc} {W:aX} {g:cP} {v:Value} {d:Cd} {c':Cn} {V:Bs->aX->Value->Prop} {a:Ac} {dn:Bool} {out:CR}
def Uc (E:On B Zs) {s:Sw} {u:Value} (hv:yF B u s) (ok:R5 s) (q:LS s.ph) (G:Ww g.w):Dn B (aD []) (.iface 327 u) g (λB W v=>uP B W v (.sw (bS s g).1)) (bS s g).2.1 (bS s g).2.2:=by
 intro h F R c H J;refine⟨_,_,_,rfl,qd,cM.2 (Qc (H _ c.gr) E hv ok q G λK M h' c2 A=>?_)⟩;exact J _ (aD []) M h' (c.aF c2) ⟨K,rfl,rfl,A⟩
def R1 (A:On B Zs) {s:Sw} {u:Value} (hv:yF B u s) (ok:IX s) (E:Ww g.w):Dn B (aD []) (.iface 327 u) g (λB W v=>uP B W v (.sw (bS s g).1)) (bS s g).2.1 (bS s g).2.2:=by
 intro h F R c G H;refine⟨_,_,_,rfl,qd,cM.2 (OE (G _ c.gr) A hv ok E λJ M h' c2 q=>?_)⟩;exact H _ (aD []) M h' (c.aF c2) ⟨J,rfl,rfl,q⟩
def TZ (A:On B Zs) {s:Pk} {u:Value} (hv:Fk B u s) (ok:Jg s) (E:Ww g.w):Dn B (aD []) (.iface 336 u) g (λB W v=>uP B W v (.pk (iC s g).1)) (iC s g).2.1 (iC s g).2.2:=by
 intro h F R c G H;refine⟨_,_,_,rfl,zj,gF.2 (Qb (G _ c.gr) A hv ok E λJ M h' c2 q=>?_)⟩;exact H _ (aD []) M h' (c.aF c2) ⟨J,rfl,rfl,q⟩
def Tp (A:On B Zs) {s:Bk} {u:Value} (hv:OY B W u s) (ok:Ly s) (E:Ww g.w):Dn B W (.iface 332 u) g (λB W v=>uP B W v (.bl (bP s g).1)) (bP s g).2.1 (bP s g).2.2:=by
 intro h F R c G H;exact⟨_,_,_,rfl,Ab,eE.2 (Qg A hv ok E c G λJ W M h' c2 q=>H _ W M h' c2 ⟨J,rfl,q⟩)⟩
def Dn.imp {q:Bs->aX->Value->Prop} (H:Dn B W v g V a dn) (f:∀B W v,V B W v->q B W v):Dn B W v g q a dn:=
 λh F R c u A=>H h F R c u λv W M h' c2 ok=>A v W M h' c2 (f _ _ _ ok)
def Uj (q:On B Zs) (hv:uP B W v d) (ok:Kv d) (A:Ww g.w):Dn B W v g (λB W v=>uP B W v (cR d g).1) (cR d g).2.1 (cR d g).2.2:=by
 cases d with
 | sw s=>
  obtain⟨u,rfl,rfl,hv⟩:=hv;exact ok.elim (λok=>Uc q hv ok.1 ok.2 A) λok=>R1 q hv ok A
 | bl s=>
  obtain⟨u,rfl,hv⟩:=hv;exact Tp q hv ok A
 | pk s=>
  obtain⟨u,rfl,rfl,hv⟩:=hv;exact TZ q hv ok A
def S0:Cd->Bool
 | .pk _=>true
 | _=>false
def F4 {p:PP} (h:xV p=true):p=.over:=by cases p <;> first | rfl | cases h
def uP.TU {s:Pk} (hv:uP B W v (cR (.pk s) g).1) (q:(iC s g).2.2=true):W=aD []/\∃u s',v=.iface 336 u/\Fk B u s'/\s'.ph=.over/\s'.now=(iC s g).1.now:=by
 obtain⟨u,rfl,rfl,hv⟩:=hv;rw[Eg] at q;exact⟨rfl,u,_,rfl,hv,F4 q,rfl⟩
def L8 {s:Pk} (ok:Jg s):(iC s g).1.now.length<=1000:=by
 obtain⟨A,q⟩:=ok;have h0:=A.now;have u:∀s:Pk,s.now.length<=1000->(jW s).1.now.length<=1000:=λs h=>by unfold jW; split <;> exact h
 unfold iC;cases E:s.ph with
 | found=>
  rw[E] at q;dsimp only;unfold oY;split
  ·exact h0
  ·have h1:(s.now++[g.w]).length<=1000:=by rw[List.length_append,List.length_singleton]; exact q.2
   dsimp only;split
   ·exact h1
   ·unfold mQ;dsimp only;split
    ·exact Nat.zero_le _
    ·split
     ·exact u _ h1
     ·exact h1
 | fZ hs=>
  dsimp only;split
  ·exact h0
  ·split <;> exact h0
 | back=>exact h0
 | flush=>exact u _ h0
 | last=>exact h0
 | over=>exact h0
def uP.end (hv:uP B W v (cR d g).1) (ok:Kv d) (A:S0 d=false) (E:(cR d g).2.2=true):W=aD []/\KP B v (Sd d) (rE (cR d g).1):=by
 cases d with
 | sw s=>
  obtain⟨u,rfl,rfl,hv⟩:=hv;obtain⟨k,q⟩:∃k,(bS s g).1.ph=.over k:=ok.elim (λok=>JP ok.2 E) λok=>G0 ok E;have e:rE (cR (.sw s) g).1=k:=by
   show(match (bS s g).1.ph with | .over ok=>ok | _=>false)=k;rw[q]
  rw[e];exact⟨rfl,RF hv q⟩
 | bl s=>
  obtain⟨u,rfl,hv⟩:=hv;have q:=Jf E;refine⟨?_,Sa hv q⟩;obtain⟨x,_,G⟩:=hv;rw[q] at G;exact G.1
 | pk s=>cases A
def uP.neq (hv:uP B W v d):inl .neq v=some (.bool true):=by
 cases d with
 | sw s=>obtain⟨u,rfl,_⟩:=hv; rfl
 | bl s=>obtain⟨u,rfl,_⟩:=hv; rfl
 | pk s=>obtain⟨u,rfl,_⟩:=hv; rfl
def LW (q:x.now.oneCell'=true) (G:inl .neq x.now=some (.bool true)) (c:Cx F h h [W]) (H:∀h',Ch F h h'->B.p h')
  (hw:∀h1 u K,Cx u h1 h1 [W]->(∀h',Ch u h1 h'->B.p h')->xD 89 u h1 B V a dn K->bL.1 (wy x) (eI g) h1 K)
  (J:xD 89 F h B V a dn R):bC.1 (wy x) (eI g) h R:=by
 obtain⟨t,seq,du,ops,T,now,oV,dn,sm,br⟩:=x;dsimp only at G q;obtain⟨⟨U,X,gr⟩,Z⟩:=g;obtain⟨ao,aa,⟨ov,oq,or⟩,⟨nv,nq,nr⟩⟩:=a;replace c:Cx _ _ _ [_]:=c;refine c.FT λ_ _ c=>?_;refine c.v4 λ_ _ c=>?_;refine c.v8 λ_ _ c=>?_;refine aE<|c.rc 1 ?_;refine vx G<|bU<|c.rl 1 ?_;refine c.rl 2 ?_;obtain⟨F',M,N,up⟩:=c.lR (i:=0) rfl;refine bL.2 (hw _ F' _ M (λA ch=>H A (N _ ch)) λv2 O Q _ d2 E=>?_);have c:=up d2;replace c:=c.n5;refine c.t8 3 λ_ c=>?_;exact J _ O Q _ (c.pick [0,4]) E
def FN (hZ:On B Zs) (hv:GX B W v c') (ok:MM c' g) (hg:Ww g.w) (c:Cx F h h [W]) (hB:∀h',Ch F h h'->B.p h')
  (hR:xD 89 F h B (λB W v=>GX B W v (cO c' g).1) (cO c' g).2.1 (cO c' g).2.2 R):bC.1 v (eI g) h R:=by
 obtain⟨x,rfl,E,A⟩:=hv;cases O:c'.now with
 | none=>
  rw[O] at A;obtain⟨hn,rfl⟩:=A;have e1:cO c' g=dR c' g:=by unfold cO; rw[O]
  rw[e1] at hR;exact CT (hB _ (.refl _ _)) hZ E hn O ok.br (ok.idle O) (hR.Vu c)
 | some d=>
  rw[O] at A;have A:uP B W x.now d:=A;obtain⟨o1,o2,o3⟩:=ok.now d O;have hN:=Uj (g:=g) hZ A o1 hg;have e1:cO c' g=vm c' d g:=by unfold cO; rw[O]
  rw[e1] at hR;refine LW A.one A.neq c hB (λh1 F1 K c1 Q T=>?_) hR;cases G:(cR d g).2.2 with
  | false=>
   have e2:vm c' d g=({c' with now:=some (cR d g).1},(cR d g).2.1,false):=by
    unfold vm;generalize cR d g=q at G;obtain⟨q1,q2,q3⟩:=q;dsimp only at G;subst G;rfl
   rw[e2] at T;rw[G] at hN;refine Ao A.one hN (λB W v H=>H.one) c1 Q λv W M h' c2 bY=>?_;obtain⟨u,rfl,H⟩:=bY;exact T _ W M h' c2 ⟨_,rfl,⟨E.t,E.seq,E.du,E.ops.le (Bs.aJ _ _),E.seen.le (Bs.aJ _ _),E.dn.le (Bs.aJ _ _),E.sm.le (Bs.aJ _ _),E.br⟩,H⟩
  | true=>
   have e2:vm c' d g=dR (CM c' (cR d g).1) kq:=by
    unfold vm CM;generalize cR d g=q at G;obtain⟨q1,q2,q3⟩:=q;dsimp only at G;subst G;rfl
   rw[e2] at T;rw[G] at hN;obtain⟨o,r,ho⟩:∃o r,c'.ops=o::r:=by cases hh:c'.ops with | nil=>exact absurd hh o2 | cons o r=>exact⟨o,r,rfl⟩
   have J:=o3 G;cases N:S0 d with
   | false=>
    have hs:yY (cR d g).1=[]:=by cases d with | sw s=>rfl | bl s=>rfl | pk s=>cases N
    have U:Dn B W x.now g (λB W v=>W=aD []/\KP B v (Sd d) (rE (cR d g).1)) (cR d g).2.1 true:=hN.imp λB W v H=>uP.end H o1 N G;have X:CM c' (cR d g).1={c' with done:=c'.done++[rE (cR d g).1],ops:=r,now:=none}:=by
     unfold CM;rw[hs,List.append_nil,ho]; rfl
    rw[X] at J T;refine KG A.one E ok.br ho ok.dn U c1 Q (λx' B' h2 K2 l b2 Z aS aT=>?_) T;exact bC.2 (CT b2 (hZ.le l) Z aS rfl ok.br J aT)
   | true=>
    obtain⟨s,rfl⟩:∃s,d=.pk s:=by cases d with | sw s=>cases N | bl s=>cases N | pk s=>exact⟨s,rfl⟩
    have dO:(iC s g).2.2=true:=G;have U:Dn B W x.now g (λB W v=>W=aD []/\∃u s',v=.iface 336 u/\Fk B u s'/\s'.ph=.over/\s'.now=(iC s g).1.now) (cR (.pk s) g).2.1 true:=hN.imp λB W v H=>uP.TU H dO;have X:CM c' (cR (.pk s) g).1={c' with done:=c'.done++[false],pn:=c'.pn++[(iC s g).1.now.foldl (λn w=>uA (n+w.v)) 0],ops:=r,now:=none}:=by
     unfold CM;rw[ho]; rfl
    rw[X] at J T;refine L6 A.one E ok.br ho ok.dn ok.sm (L8 o1) U c1 Q (λx' B' h2 K2 l b2 Z aS aT=>?_) T;exact bC.2 (CT b2 (hZ.le l) Z aS rfl ok.br J aT)
end
end Go.En
