/- Library, part G. -/
import Derived.Test.YtcepckpfhbcobaaGreatDoorXC
import Derived.Test.YtcepckpfhbcobaaGreatDoorXD
import Derived.Test.YtcepckpfhbcobaaGreatDoorXE
import Derived.Test.YtcepckpfhbcobaaGreatDoorXF
set_option maxRecDepth 100000
set_option linter.defProp false
namespace Go.En
abbrev Fp:=Nat->Prop
structure Mv (F:Fp) (h:Hp) (F':Fp) (h':Hp):Prop where
 ch:Ch F h h'
 grow:∀r,F' r->F r\/h.size<=r
def Mv.refl (F:Fp) (h:Hp):Mv F h F h:=⟨.refl _ _,λ_ e=>.inl e⟩
def Mv.trans {F F' q:Fp} {a b c:Hp} (x:Mv F a F' b) (y:Mv F' b q c):Mv F a q c:=by
 refine⟨⟨cD x.ch.size y.ch.size,λr u E=>?_⟩,λr u=>?_⟩
 ·rw[y.ch.same r (dA u x.ch.size) (λe=>(x.grow r e).elim E (λg=>by omega)),x.ch.same r u E]
 ·rcases y.grow r u with h | h
  ·exact x.grow r h
  ·exact .inr (cD x.ch.size h)
structure km where
 P:Hp->Fp->Prop
 lt:∀{h F},P h F->∀r,F r->r<h.size
 loc:∀{h h' F D},P h F->Ch D h h'->(∀r,F r->¬D r)->P h' F
inductive Cb (h:Hp):List km->List Fp->Prop where
 | nil:Cb h [] []
 | cons {A:km} {F:Fp} {L:List km} {Fs:List Fp}:A.P h F->(∀G∈Fs,∀r,F r->¬G r)->Cb h L Fs->Cb h (A::L) (F::Fs)
def Cb.lt {h:Hp} {L:List km} {Fs:List Fp} (o:Cb h L Fs):∀G∈Fs,∀r,G r->r<h.size:=by
 induction o with
 | nil=>intro G q;cases q
 | cons a _ _ u=>
  intro G q;rcases aU.1 q with rfl | q
  ·exact km.lt _ a
  ·exact u G q
def Cb.loc {h h':Hp} {D:Fp} {L:List km} {Fs:List Fp} (o:Cb h L Fs) (c:Ch D h h') (q:∀G∈Fs,∀r,G r->¬D r):Cb h' L Fs:=by
 induction o with
 | nil=>exact .nil
 | cons a d _ u=>exact .cons (km.loc _ a c (q _ (aM ..))) d (u λG E=>q G (aL _ E))
def Cx (F0:Fp) (h0 h:Hp) (L:List km):Prop:=∃Fs,Cb h L Fs/\Ch F0 h0 h/\∀G∈Fs,∀r,G r->F0 r\/h0.size<=r
section
variable {F0:Fp} {h0 h h':Hp} {L:List km} {A B:km}
def Cx.gr (c:Cx F0 h0 h L):Ch F0 h0 h:=let⟨_,_,g,_⟩:=c; g
def Cx.start {F:Fp} (a:A.P h F):Cx F h h [A]:=⟨[F],.cons a (λ_ q=>by cases q) .nil,.refl _ _,λG q r u=>by
 rcases aU.1 q with rfl | q
 ·exact .inl u
 ·cases q⟩
def Cx.jQ (h:Hp):Cx (λ_=>False) h h []:=⟨[],.nil,.refl _ _,λG q=>by cases q⟩
def wM:∀{L:List km} {Fs:List Fp} {i:Nat} {A:km},Cb h L Fs->L[i]?=some A->∃F,A.P h F/\Fs[i]?=some F/\∀{h':Hp} {F':Fp} {B:km},B.P h' F'->Mv F h F' h'->Cb h' (L.set i B) (Fs.set i F')
 | _,_,i,A,.nil,hi=>by simp at hi
 | _,_,0,A,.cons (F:=F) a d o,hi=>by
  simp only[aX,aD] at hi;subst hi;refine⟨F,a,rfl,λ{h' F' B} b m=>?_⟩;refine .cons b (λG H r E q=>?_) (o.loc m.ch λG H r E J=>d G H r J E);rcases m.grow r E with h | h
  ·exact d G H r h q
  ·have:=o.lt G H r q;omega
 | _,_,i+1,A,.cons (F:=F0) (A:=A0) a d o,hi=>by
  obtain⟨F,p,J,f⟩:=wM o (by simpa using hi);refine⟨F,p,by simpa using J,λ{h' F' B} b m=>?_⟩;have u:∀r,F0 r->¬F r:=d F (aG J);refine .cons (A0.loc a m.ch u) (λG H r E q=>?_) (f b m);rcases cJ H with h | h
  ·exact d G h r E q
  ·subst h;rcases m.grow r q with h | h
   ·exact u r E h
   ·have:=A0.lt a r E;omega
def Cx.Ob (c:Cx F0 h0 h L) {i:Nat} (hi:L[i]?=some A):∃F,A.P h F/\∀{h':Hp} {F':Fp} {B:km},B.P h' F'->Mv F h F' h'->Cx F0 h0 h' (L.set i B):=by
 obtain⟨Fs,o,g,k⟩:=c;obtain⟨F,p,u,f⟩:=wM o hi;refine⟨F,p,λ{h' F' B} b m=>⟨_,f b m,?_,λG H r q=>?_⟩⟩
 ·have J:=k F (aG u);refine⟨cD g.size m.ch.size,λr q E=>?_⟩;rw[m.ch.same r (dA q g.size) (λe=>(J r e).elim E (λx=>by omega)),g.same r q E]
 ·rcases cJ H with h | h
  ·exact k G h r q
  ·subst h;rcases m.grow r q with h | h
   ·exact k F (aG u) r h
   ·exact .inr (cD g.size h)
def Cx.get (c:Cx F0 h0 h L) {i:Nat} (hi:L[i]?=some A):∃F,A.P h F:=let⟨F,p,_⟩:=c.Ob hi; ⟨F,p⟩
def Nu:∀{L:List km} {Fs:List Fp} {F':Fp} {h h':Hp} {B:km},Cb h L Fs->B.P h' F'->Gr h h'->(∀r,F' r->h.size<=r)->Cb h' (L++[B]) (Fs++[F'])
 | _,_,_,_,_,B,.nil,b,g,n=>.cons b (λG u=>by cases u) .nil
 | _,_,F',h,h',B,.cons (A:=A0) a d o,b,g,n=>by
  refine .cons (A0.loc a g λ_ _ e=>e) (λG u r E q=>?_) (Nu o b g n);rcases bB.1 u with h | h
  ·exact d G h r E q
  ·simp only[aN] at h;subst h;have:=n r q;have:=A0.lt a r E;omega
def Cx.add (c:Cx F0 h0 h L) {F':Fp} (b:B.P h' F') (g:Gr h h') (n:∀r,F' r->h.size<=r):Cx F0 h0 h' (L++[B]):=by
 obtain⟨Fs,o,u,k⟩:=c;refine⟨_,Nu o b g n,⟨cD u.size g.size,λr q E=>by rw[g.same r (dA q u.size) (λe=>e),u.same r q E]⟩,λG F r q=>?_⟩;rcases bB.1 F with h | h
 ·exact k G h r q
 ·simp only[aN] at h;subst h;exact .inr (cD u.size (n r q))
def Cx.more (c:Cx F0 h0 h L) (g:Gr h h'):Cx F0 h0 h' L:=by
 obtain⟨Fs,o,q,k⟩:=c;exact⟨Fs,o.loc g λ_ _ _ _ e=>e,⟨cD q.size g.size,λr u E=>by rw[g.same r (dA u q.size) (λe=>e),q.same r u E]⟩,k⟩
def KJ:∀{L E:List km} {Fs:List Fp},Cb h (L++E) Fs->∃q,Cb h L q/\∀G∈q,G∈Fs
 | [],E,Fs,_=>⟨[],.nil,λG u=>by cases u⟩
 | A::L,E,_,.cons a d o=>by
  obtain⟨q,F,hs⟩:=KJ (L:=L) o;exact⟨_,.cons a (λG u=>d G (hs G u)) F,λG u=>by
   rcases aU.1 u with rfl | u
   ·exact aM ..
   ·exact aL _ (hs G u)⟩
def Cx.drop {u:List km} (c:Cx F0 h0 h (L++u)):Cx F0 h0 h L:=by
 obtain⟨Fs,o,g,k⟩:=c;obtain⟨q,E,hs⟩:=KJ o;exact⟨q,E,g,λG F=>k G (hs G F)⟩
def UG:∀{L:List km} {Fs:List Fp} {i j:Nat} {A B:km},Cb h L Fs->L[i]?=some A->L[j]?=some B->i≠j->∃F G,A.P h F/\B.P h G/\∀r,F r->¬G r
 | _,_,i,_,_,_,.nil,hi,_,_=>by simp at hi
 | _,_,0,0,_,_,.cons ..,_,_,u=>absurd rfl u
 | _,_,0,j+1,A,B,.cons a d o,hi,q,u=>by
  simp only[aX,aD] at hi;subst hi;obtain⟨G,b,E,_⟩:=wM o (by simpa using q);exact⟨_,_,a,b,d G (aG E)⟩
 | _,_,i+1,0,A,B,.cons a d o,hi,q,u=>by
  simp only[aX,aD] at q;subst q;obtain⟨G,b,E,_⟩:=wM o (by simpa using hi);exact⟨_,_,b,a,λr h1 h2=>d G (aG E) r h2 h1⟩
 | _,_,i+1,j+1,A,B,.cons a d o,hi,q,u=>UG o (by simpa using hi) (by simpa using q) (by omega)
end
def Fm {α:Type} (E:pT α) (r:Nat) (x:α):km where
 P:=λh F=>Va E h r x/\∀q,F q↔q=r
 lt:=λ⟨v,u⟩ q G=>by rw[u] at G;subst G;exact v.lt
 loc:=λ⟨v,u⟩ c H=>⟨v.ch c (H r ((u r).2 rfl)),u⟩
def kz {α:Type} (E:pT α) (v:Value) (xs:List α):km where
 P:=λh F=>Ow E h v xs/\∀q,F q↔kZ v=some q
 lt:=λ⟨o,u⟩ q G=>by rw[u] at G;exact o.lt G
 loc:=λ⟨o,u⟩ c H=>⟨o.ch c λr J=>H r ((u r).2 J),u⟩
def Gk {α:Type} (H:IntKind) (E:α->Value) (v:Value) (ps:List (Int × α)):km where
 P:=λh F=>Mp H E h v ps/\∀q,F q↔A9 v=some q
 lt:=λ⟨o,u⟩ q G=>by rw[u] at G;exact o.lt G
 loc:=λ⟨o,u⟩ c J=>⟨o.ch c λr K=>J r ((u r).2 K),u⟩
section
variable {F0:Fp} {h0 h h':Hp} {L:List km}
def Cx.nw {α:Type} (E:pT α) (x:α) (c:Cx F0 h0 h L) {cs:Array Value} {e:TypeId} (u:cs.toList=E.c x) {k:Value->Hp->Prop}
  (F:∀r h',Cx F0 h0 h' (L++[Fm E r x])->k (kC r) h'):Eb (En.nw cs e h) k:=
 eb rfl (F h.size _ (c.add (F':=λq=>q=h.size) ⟨Va.new u,λ_=>fC⟩ (Ch.push _ _) λr e=>by omega))
def Cx.va {α:Type} {E:pT α} {r i:Nat} {x:α} (c:Cx F0 h0 h L) (hi:L[i]?=some (Fm E r x)):Va E h r x:=let⟨_,p,_⟩:=c.get hi; p
def Cx.sl {α:Type} {E:pT α} {v:Value} {i:Nat} {xs:List α} (c:Cx F0 h0 h L) (hi:L[i]?=some (kz E v xs)):Ow E h v xs:=let⟨_,p,_⟩:=c.get hi; p
def Cx.mp {α:Type} {q:IntKind} {E:α->Value} {v:Value} {i:Nat} {ps:List (Int × α)} (c:Cx F0 h0 h L) (hi:L[i]?=some (Gk q E v ps)):Mp q E h v ps:=let⟨_,p,_⟩:=c.get hi; p
def qV {F:Fp} {a b:Hp} (c:Ch F a b):Mv F a F b:=⟨c,λ_ e=>.inl e⟩
def Cx.kq {α:Type} {E:pT α} {r:Nat} {x:α} (c:Cx F0 h0 h L) (i:Nat) (hi:L[i]?=some (Fm E r x)) (y:α) {n:Nat} (G:n=E.n) {w:Value} (hw:w=.agg ⟨E.c y⟩) {k:Hp->Prop}
  (H:∀h',Cx F0 h0 h' (L.set i (Fm E r y))->k h'):Sb (En.kq n (kC r) w h) k:=by
 obtain⟨F,⟨v,u⟩,f⟩:=c.Ob hi;exact v.kq y G hw λh' J ch=>H h' (f (F':=F) ⟨J,u⟩ (qV (ch.mono λq _ e=>(u q).2 e)))
end
section
variable {F0:Fp} {h0 h h':Hp} {L:List km} {A B:km}
def tT:∀{L M:List km} {Fs Gs:List Fp},Cb h L Fs->Cb h M Gs->(∀F∈Fs,∀G∈Gs,∀r,F r->¬G r)->Cb h (L++M) (Fs++Gs)
 | _,_,_,_,.nil,o,_=>o
 | _,_,_,_,.cons a d H,o,x=>by
  refine .cons a (λG u r E q=>?_) (tT H o λF J G u=>x F (aL _ J) G u);rcases bB.1 u with h | h
  ·exact d G h r E q
  ·exact x _ (aM ..) G h r E q
def Ck:∀{L M:List km} {Fs:List Fp},Cb h (L++M) Fs->∃q u,Fs=q++u/\Cb h L q/\Cb h M u/\∀F∈q,∀G∈u,∀r,F r->¬G r
 | [],M,Fs,o=>⟨[],Fs,rfl,.nil,o,λF E=>by cases E⟩
 | A::L,M,_,.cons a d o=>by
  obtain⟨q,u,rfl,J,K,x⟩:=Ck (L:=L) o;refine⟨_::q,u,rfl,.cons a (λG H=>d G (eF _ H)) J,K,λF E G H=>?_⟩;rcases aU.1 E with rfl | E
  ·exact d G (eR _ H)
  ·exact x F E G H
def Cx.Qr (c:Cx F0 h0 h L) {i:Nat} (hi:L[i]?=some A):∃F,Cx F h h [A]/\(∀r,F r->F0 r\/h0.size<=r)/\(∀(j:Nat) (B:km),i≠j->L[j]?=some B->∃G,B.P h G/\∀r,F r->¬G r)/\∀{h':Hp} {A':km} {M:List km},Cx F h h' (A'::M)->Cx F0 h0 h' (L.set i A'++M):=by
 obtain⟨Fs,o,g,k⟩:=c;obtain⟨F,a,K,f⟩:=wM o hi;have J:=aG K;refine⟨F,Cx.start a,k F J,λj B O Q=>?_,λ{h' A' M} c'=>?_⟩
 ·obtain⟨G,b,H,_⟩:=wM o Q;exact⟨G,b,own_apart o K H O⟩
 obtain⟨Gs,R,T,k'⟩:=c';cases R with
 | cons a' U R=>
  rename_i F' Gs;have u:∀r,F' r->F r\/h.size<=r:=λr q=>k' F' (aM ..) r q;have o1:=f a' ⟨T,u⟩;have V:=o.lt;refine⟨_,tT o1 R λX Z G H r q E=>?_,?_,λG H r q=>?_⟩
  ·rcases k' G (aL _ H) r E with h1 | h1
   ·
    rcases cJ Z with h2 | h2
    ·
     obtain⟨j,Q,rfl⟩:=bK.1 Z;rw[List.getElem_set] at q;split at q
     ·exact U G H r q E
     ·rename_i aS;have aT:j<Fs.length:=by simpa using Q
      exact own_apart o K (aB aT) aS r h1 q
    ·subst h2;exact U G H r q E
   ·rcases cJ Z with h2 | h2
    ·have:=V X h2 r q;omega
    ·subst h2;exact U G H r q E
  ·refine⟨cD g.size T.size,λr q hn=>?_⟩;rw[T.same r (dA q g.size) (λe=>(k F J r e).elim hn (λx=>by omega)),g.same r q hn]
  ·have fin:F r\/h.size<=r->F0 r\/h0.size<=r:=λe=>e.elim (k F J r) λe=>.inr (cD g.size e);rcases bB.1 H with h1 | h1
   ·rcases cJ h1 with h2 | h2
    ·exact k G h2 r q
    ·subst h2;exact fin (u r q)
   ·exact fin (k' G (aL _ h1) r q)
where
 own_apart:∀{L:List km} {Fs:List Fp} {h:Hp} {i j:Nat} {F G:Fp},Cb h L Fs->Fs[i]?=some F->Fs[j]?=some G->i≠j->∀r,F r->¬G r
  | _,_,_,i,_,_,_,.nil,hi,_,_=>by simp at hi
  | _,_,_,0,0,_,_,.cons ..,_,_,hn=>absurd rfl hn
  | _,_,_,0,j+1,F,G,.cons a d o,hi,hj,hn=>by
   simp only[aX,aD] at hi
   subst hi
   exact d G (aG (by simpa using hj))
  | _,_,_,i+1,0,F,G,.cons a d o,hi,hj,hn=>by
   simp only[aX,aD] at hj
   subst hj
   exact λr h1 h2=>d F (aG (by simpa using hi)) r h2 h1
  | _,_,_,i+1,j+1,F,G,.cons a d o,hi,hj,hn=>own_apart o (by simpa using hi) (by simpa using hj) (by omega)
def Cx.jT (c:Cx F0 h0 h L) {M:List km} (c':Cx (λ_=>False) h h' M):Cx F0 h0 h' (L++M):=by
 obtain⟨Fs,o,g,k⟩:=c;obtain⟨Gs,H,u,k'⟩:=c';refine⟨_,tT (o.loc u λ_ _ _ _ e=>e) H λX J G E r q F=>?_,?_,λG E r q=>?_⟩
 ·have:=o.lt X J r q;rcases k' G E r F with h1 | h1
  ·exact h1
  ·omega
 ·exact⟨cD g.size u.size,λr q K=>by rw[u.same r (dA q g.size) (λe=>e),g.same r q K]⟩
 ·rcases bB.1 E with h1 | h1
  ·exact k G h1 r q
  ·rcases k' G h1 r q with h2 | h2
   ·exact h2.elim
   ·exact .inr (cD g.size h2)
def jR (L:List km):km where
 P:=λh F=>∃Fs,Cb h L Fs/\∀q,F q↔∃G∈Fs,G q
 lt:=λ⟨Fs,o,u⟩ q E=>by
  obtain⟨G,H,E⟩:=(u q).1 E;exact o.lt G H q E
 loc:=λ⟨Fs,o,u⟩ c J=>⟨Fs,o.loc c λG H r K=>J r ((u r).2 ⟨G,H,K⟩),u⟩
def Cx.star {F:Fp} (a:(jR L).P h F):Cx F h h L:=by
 obtain⟨Fs,o,q⟩:=a;exact⟨Fs,o,.refl _ _,λG u r E=>.inl ((q r).2 ⟨G,u,E⟩)⟩
def Cx.Q4 {F:Fp} (c:Cx F h0 h L):∃F',(jR L).P h F'/\Mv F h0 F' h:=by
 obtain⟨Fs,o,g,k⟩:=c;exact⟨λq=>∃G∈Fs,G q,⟨Fs,o,λ_=>fC⟩,g,λr ⟨G,u,E⟩=>k G u r E⟩
def RC {L H:List km} (s:L.Perm H):∀{Fs:List Fp},Cb h L Fs->∃q,Cb h H q/\Fs.Perm q:=by
 induction s with
 | nil=>intro Fs o;exact⟨Fs,o,.refl _⟩
 | cons A _ K=>
  intro Fs o;cases o with
  | cons a d o=>
   obtain⟨q,M,J⟩:=K o;exact⟨_,.cons a (λG u=>d G (J.mem_iff.2 u)) M,J.cons _⟩
 | swap A B l=>
  intro Fs o;cases o with
  | cons a d o=>
   cases o with
   | cons b e o=>
    exact⟨_,.cons b (λG u r h1 h2=>by
     rcases aU.1 u with rfl | u
     ·exact d _ (aM ..) r h2 h1
     ·exact e G u r h1 h2) (.cons a (λG u=>d G (aL _ u)) o),.swap ..⟩
 | trans _ _ E F=>
  intro Fs o;obtain⟨U,O,Q⟩:=E o;obtain⟨R,T,p2⟩:=F O;exact⟨R,T,Q.trans p2⟩
def Cx.perm {u:List km} (c:Cx F0 h0 h L) (s:L.Perm u):Cx F0 h0 h u:=by
 obtain⟨Fs,o,g,k⟩:=c;obtain⟨q,E,F⟩:=RC s o;exact⟨q,E,g,λG H=>k G (F.mem_iff.2 H)⟩
def Cx.pack {M:List km} (c:Cx F0 h0 h (L++M)):Cx F0 h0 h (L++[jR M]):=by
 obtain⟨Fs,o,g,k⟩:=c;obtain⟨K,J,rfl,O,Q,x⟩:=Ck o;refine⟨K++[λq=>∃G∈J,G q],tT O (.cons ⟨J,Q,λ_=>fC⟩ (λ_ u=>by cases u) .nil) λF R G u r H E=>?_,g,λG u r H=>?_⟩
 ·simp only[aN] at u;subst u;obtain⟨G,u,E⟩:=E;exact x F R G u r H E
 ·rcases bB.1 u with h1 | h1
  ·exact k G (eF _ h1) r H
  ·simp only[aN] at h1;subst h1;obtain⟨G,u,H⟩:=H;exact k G (eR _ u) r H
def Js {Fs:List Fp} (o:Cb h L Fs):∀(idx:List Nat),idx.Nodup->∃q,Cb h (idx.filterMap (L[·]?)) q/\∀G∈q,∃i∈idx,Fs[i]?=some G
 | [],_=>⟨[],.nil,λG u=>by cases u⟩
 | i::idx,H=>by
  obtain⟨hi,H⟩:=eJ.1 H;obtain⟨q,J,hs⟩:=Js o idx H;rw[List.filterMap_cons];cases M:L[i]? with
  | none=>exact⟨q,J,λG u=>let⟨j,E,e⟩:=hs G u; ⟨j,aL _ E,e⟩⟩
  | some A=>
   obtain⟨F,a,K,_⟩:=wM o M;refine⟨F::q,.cons a (λG u=>?_) J,λG u=>?_⟩
   ·obtain⟨j,E,e⟩:=hs G u;exact Cx.Qr.own_apart o K e λe=>hi (e▸E)
   ·rcases aU.1 u with rfl | u
    ·exact⟨i,aM ..,K⟩
    ·obtain⟨j,E,e⟩:=hs G u;exact⟨j,aL _ E,e⟩
def Cx.pick (c:Cx F0 h0 h L) (idx:List Nat) (u:idx.Nodup:=by decide):Cx F0 h0 h (idx.filterMap (L[·]?)):=by
 obtain⟨Fs,o,g,k⟩:=c;obtain⟨q,E,hs⟩:=Js o idx u;exact⟨q,E,g,λG F=>let⟨_,_,e⟩:=hs G F; k G (aG e)⟩
end
abbrev C5 (z:Int):Prop:=-9223372036854775808<=z/\z<=9223372036854775807
def tG (z:Int):Int:=IntKind.i64.wrap z
def XS (z:Int):C5 (tG z):=by unfold tG; rw[IntKind.wrap_i64]; omega
def ni (a b:Int):bin .add (.int .i64 a) (.int .i64 b)=some (.int .i64 (tG (a+b))):=DW
structure W3 where
 v:Int
 j8:Int
 ref:Int
def EW:pT W3:={n:=3,c:=λw=>[.int .i64 w.v,.int .u32 w.j8,.int .u32 w.ref],len:=λ_=>rfl,one:=λa v h=>by simp only[aU,bF,or_false] at h; rcases h with rfl | rfl | rfl <;> rfl}
def mW (w:W3):Value:=.agg #[.int .i64 w.v,.int .u32 w.j8,.int .u32 w.ref]
abbrev W0:W3:=⟨0,0,0⟩
def rI:pT Int:={n:=1,c:=λi=>[.int .i64 i],len:=λ_=>rfl,one:=λa v h=>by simp only[aN] at h; subst h; rfl}
def VM:pT Bool:={n:=1,c:=λi=>[.bool i],len:=λ_=>rfl,one:=λa v h=>by simp only[aN] at h; subst h; rfl}
def IL:pT (Int × Int):={n:=2,c:=λo=>[.int .i64 o.1,.int .i64 o.2],len:=λ_=>rfl,one:=λa v h=>by simp only[aU,bF,or_false] at h; rcases h with rfl | rfl <;> rfl}
section
variable {h h0 h':Hp} {F F0:Fp} {L:List km}
def Cx.B9 {α:Type} {F0:Fp} {L:List km} {E:α->Value} {v:Value} {ps:List (Int × α)} (c:Cx F0 h0 h L) (i:Nat) (hi:L[i]?=some (Gk .i64 E v ps)) (k:Int) (x:α) {w:Value} (hw:w=E x) {K:Hp->Prop}
  (B:∀h',Cx F0 h0 h' (L.set i (Gk .i64 E v (qY ps k x)))->K h'):Sb (En.B9 (.int .i64) v (.int .i64 k) w h) K:=by
 obtain⟨F,⟨m,u⟩,up⟩:=c.Ob hi;exact m.B9 k x hw λh' m' ch=>B h' (up (F':=F) ⟨m',u⟩ (qV (ch.mono λq _ e=>(u q).2 e)))
def rIt {α:Type} (ik:IntKind) (E:α->Value) (r m:Nat) (ps:List (Int × α)) (D:List Nat):km where
 P:=λh F=>It ik E h r m ps D/\∀q,F q↔q=r\/q=m
 lt:=λ{h F} ⟨o,u⟩ q H=>by
  obtain⟨es,clock,h1,h2,B⟩:=o.ex;rcases(u q).1 H with rfl | rfl
  ·exact(aZ.mp B).1
  ·exact(aZ.mp h1).1
 loc:=λ{h h' F D'} ⟨o,u⟩ c G=>by
  obtain⟨es,clock,h1,h2,B⟩:=o.ex;refine⟨⟨⟨es,clock,?_,h2,?_⟩,o.nodup,o.lt,o.ne⟩,u⟩
  ·rw[c.same m (aZ.mp h1).1 (G m ((u m).2 (.inr rfl)))];exact h1
  ·rw[c.same r (aZ.mp B).1 (G r ((u r).2 (.inl rfl)))];exact B
section
variable {α:Type} {ik:IntKind} {E:α->Value} {ps:List (Int × α)} {D:List Nat} {r m:Nat}
def Cx.next (c:Cx F0 h0 h L) (i:Nat) (hi:L[i]?=some (rIt ik E r m ps D)) {k:Value->Hp->Prop} (B:(∀j,j<ps.length->j∈D)->Cx F0 h0 h (L.set i (Gk ik E (.map (some m)) ps))->k (.tuple #[.bool false]) h)
  (h1:∀j p h',ps[j]?=some p->j∉D->Cx F0 h0 h' (L.set i (rIt ik E r m ps (D++[j])))->uX (kC r) h'=some (.tuple #[.int ik p.1,E p.2])->k (.tuple #[.bool true,.int ik p.1,E p.2]) h'):Nx (kC r) h k:=by
 obtain⟨F,⟨o,G⟩,up⟩:=c.Ob hi;refine o.next (λu=>B u (up (F':=λq=>q=m) ⟨o.mp,λq=>by simp[A9,eq_comm]⟩ ⟨.refl _ _,λq H=>.inl ((G q).2 (.inr H))⟩)) λj p h' J K it ch he=>h1 j p h' J K (up (F':=F) ⟨it,G⟩ (qV (ch.mono λq _ e=>(G q).2 (.inl e)))) he
def Cx.MB {β:Type} (ik:IntKind) (E:β->Value) (c:Cx F0 h0 h L) {k:Value->Hp->Prop} (u:∀m h',Cx F0 h0 h' (L++[Gk ik E (.map (some m)) []])->k (.map (some m)) h'):Eb (En.MB h) k:=
 eb rfl (u _ _ (c.add (F':=λq=>q=h.size) ⟨Mp.new,λq=>by simp[A9,eq_comm]⟩ (Ch.push _ _) λr e=>by omega))
end
def ub (r:Nat) (G:Obj):km where
 P:=λh F=>h[r]?=some G/\∀q,F q↔q=r
 lt:=λ{h F} ⟨v,u⟩ q B=>by rw[u] at B;subst B;exact(aZ.mp v).1
 loc:=λ{h h' F D} ⟨v,u⟩ c H=>⟨by rw[c.same r (aZ.mp v).1 (H r ((u r).2 rfl))]; exact v,u⟩
def Cx.obj {i r:Nat} {q:Obj} (c:Cx F0 h0 h L) (hi:L[i]?=some (ub r q)):h[r]?=some q:=let⟨_,p,_⟩:=c.get hi; p
def Cx.DV (c:Cx F0 h0 h L) (u:Obj):Cx F0 h0 (h.push u) (L++[ub h.size u]):=
 c.add (F':=λq=>q=h.size) ⟨by simp,λ_=>fC⟩ (Ch.push _ _) λr e=>by omega
def Cx.setObj {i r:Nat} {H:Obj} (c:Cx F0 h0 h L) (hi:L[i]?=some (ub r H)) (u:Obj):Cx F0 h0 (h.setIfInBounds r u) (L.set i (ub r u)):=by
 obtain⟨F,⟨v,G⟩,up⟩:=c.Ob hi;have B:=(aZ.mp v).1;refine up (F':=F) ⟨by rw[bI,if_pos rfl,if_pos B],G⟩ (qV ⟨by simp,λq K J=>?_⟩);rw[bI,if_neg (λe=>J ((G q).2 e.symm))]
def Cx.lW {α:Type} (E:pT α) (x:α) (c:Cx F0 h0 h L) {e:TypeId} {zero:Array Value} {n:Nat} {w:Value} {k:Value->Hp->Prop} (B:n=E.n) (hw:w.cells.toList=E.c x)
  (G:∀u h',Cx F0 h0 h' (L++[kz E u [x]])->k u h'):Eb (ED zero n 1 e [(0,w)] h) k:=by
 refine eb (Ly (us:=[w]) rfl rfl (λu hu=>by simp only[aN] at hu; subst hu; rw[B,<-E.len x,<-hw]; rfl)) (G _ _ (c.add (F':=λq=>q=h.size) ⟨Ow.lit (xs:=[x]) (by simp[hw]) rfl,λq=>by simp[kZ,eq_comm]⟩ (Ch.push _ _) λr e=>by omega))
def Cx.Fy {α:Type} (E:pT α) (c:Cx F0 h0 h L) {e:TypeId} {zero:Array Value} {n:Nat} {k:Value->Hp->Prop}
  (B:∀u h',Cx F0 h0 h' (L++[kz E u []])->k u h'):Eb (ED zero n 0 e [] h) k:=by
 refine eb (Ly (us:=[]) rfl rfl (λu hu=>by cases hu)) (B _ _ (c.add (F':=λq=>q=h.size) ⟨Ow.lit (xs:=([]:List α)) (by simp) rfl,λq=>by simp[kZ,eq_comm]⟩ (Ch.push _ _) λr e=>by omega))
def Cx.ap {α:Type} {E:pT α} {v:Value} {xs ys:List α} (c:Cx F0 h0 h L) (i:Nat) (hi:L[i]?=some (kz E v xs)) {x:Value} (G:Sl E h x ys) {e:TypeId} {zero:Array Value} {n bytes:Nat} {k:Value->Hp->Prop}
  (H:n=E.n) (J:zero.size=E.n) (K:(xs.length+ys.length)*bytes<=140737488355328) (O:xs.length+ys.length<=9223372036854775807)
  (Q:∀u h',Cx F0 h0 h' (L.set i (kz E u (xs++ys)))->k u h'):Ap e zero n bytes v x h k:=by
 obtain⟨F,⟨o,B⟩,up⟩:=c.Ob hi;refine apw o G H J K O λu h' T ch nw=>Q u h' (up (F':=λq=>kZ u=some q) ⟨T,λ_=>fC⟩ ⟨ch.mono λq _ e=>(B q).2 e,λr U=>?_⟩);rcases nw r U with h1 | h1
 ·exact .inl ((B r).2 h1)
 ·exact .inr h1
def Cx.Uu {α:Type} (E:pT α) (xs:List α) (us:List Value) (c:Cx F0 h0 h L) {e:TypeId} {zero:Array Value} {n len:Nat} {parts:List (Nat × Value)} {k:Value->Hp->Prop}
  (G:parts=us.zipIdx.map λx=>(x.2,x.1)) (H:us.length=len) (B:xs.length=len) (hu:∀u,u∈us->u.cells.size=n) (J:(us.flatMap λu=>u.cells.toList)=xs.flatMap E.c)
  (K:∀a h',Cx F0 h0 h' (L++[kz E (.slice (some a) len len) xs])->k (.slice (some a) len len) h'):Eb (ED zero n len e parts h) k:=
 eb (Ly G H hu) (K _ _ (c.add (F':=λq=>q=h.size) ⟨Ow.lit J B,λq=>by simp[kZ,eq_comm]⟩ (Ch.push _ _) λr e=>by omega))
def Cx.nil {α:Type} (E:pT α) (c:Cx F0 h0 h L):Cx F0 h0 h (L++[kz E (.slice none 0 0) []]):=
 c.add (F':=λ_=>False) ⟨.nil,λq=>by simp[kZ]⟩ (.refl _ _) λr e=>e.elim
def Y9 {x y:Value} {k:Value->Prop} (q:k x):Vb (ext 0 (.tuple #[x,y])) k:=by
 have e:ext 0 (.tuple #[x,y])=some x:=by rfl
 rw[e,kf];exact q
def YC {x y:Value} {k:Value->Prop} (q:k y):Vb (ext 1 (.tuple #[x,y])) k:=by
 have e:ext 1 (.tuple #[x,y])=some y:=by rfl
 rw[e,kf];exact q
def Cx.Fl {α:Type} (E:pT α) (G:α) (c:Cx F0 h0 h L) {zero:Array Value} {n:Nat} {size bytes:Nat} {e:TypeId} {z:Int} (H:z=n) (u:zero.toList=E.c G) (hs:size=E.n) (J:n<=1000000000) (B:bytes<=10000) {k:Value->Hp->Prop}
  (K:∀a h',Cx F0 h0 h' (L++[kz E (.slice (some a) n n) (List.replicate n G)])->k (.slice (some a) n n) h'):Eb (RB zero size bytes e (.int .i64 z) (.int .i64 z) h) k:=by
 subst H;refine UE u hs J B λh' o g O=>K _ h' (c.add (F':=λq=>q=h.size) ⟨o,λq=>by simp[kZ,eq_comm]⟩ g λr e=>by omega)
end
section
variable {F0:Fp} {h0 h:Hp} {L M:List km}
def Cx.unpack (c:Cx F0 h0 h (L++[jR M])):Cx F0 h0 h (L++M):=by
 obtain⟨Fs,o,g,k⟩:=c;obtain⟨K,U,rfl,O,u,x⟩:=Ck o;cases u with
 | cons a d u=>
  cases u;rename_i F;obtain⟨Gs,Q,J⟩:=a;refine⟨K++Gs,tT O Q λX T G B r q H=>?_,g,λG B r q=>?_⟩
  ·exact x X T F (aM ..) r q ((J r).2 ⟨G,B,H⟩)
  ·rcases bB.1 B with h1 | h1
   ·exact k G (eF _ h1) r q
   ·exact k F (eR _ (aM ..)) r ((J r).2 ⟨G,h1,q⟩)
end
def oC {a b:Int} (h:C5 (a+b)):bin .add (.int .i64 a) (.int .i64 b)=some (.int .i64 (a+b)):=by rw[DW,EN h]
def nu {a b:Int} (h:C5 (a - b)):bin .sub (.int .i64 a) (.int .i64 b)=some (.int .i64 (a - b)):=by rw[TE,EN h]
def FC {a b:Int} (q:0<=a/\a<=9223372036854775807) (u:0<b):bin .quo (.int .i64 a) (.int .i64 b)=some (.int .i64 (a / b)):=by
 have h1:=Int.ediv_nonneg q.1 (iW u);have h2:=Int.ediv_le_self b q.1;rw[Nh (by omega),eP q.1,EN ⟨by omega,by omega⟩]
def Ah {k:IntKind} {a b:Int} (q:0<=a) (u:0<b):bin .rem (.int k a) (.int k b)=some (.int k (a % b)):=by
 rw[zp (by omega),Int.tmod_eq_emod_of_nonneg q]
def eqI {k:IntKind} (a:Int):bin .eql (.int k a) (.int k a)=some (.bool true):=by rw[kU]; simp
def S9 {α:Type} {E:pT α} {e:TypeId} {zero:Array Value} {n bytes:Nat} {a:Option Addr} {x:Value} {h:Hp} {xs ys:List α} {k:Value->Hp->Prop}
  (hs:Sl E h (.slice a xs.length xs.length) xs) (J:0<ys.length) (T:Sl E h x ys) (hn:n=E.n) (hz:zero.size=E.n) (V:(xs.length+ys.length)*bytes<=140737488355328) (X:xs.length+ys.length<=9223372036854775807)
  (Z:∀v h',Ow E h' v (xs++ys)->Gr h h'->kZ v=some h.size->k v h'):Ap e zero n bytes (.slice a xs.length xs.length) x h k:=by
 obtain⟨xa,xc,ex,aS,aT,U⟩:=id T;have q:=T.row rfl;subst hn;have K:=hs;have B:=K.row rfl;have grow:∀cap,xs.length+ys.length<=cap->k (.slice (some ⟨h.size,0,none⟩) (xs.length+ys.length) cap) (h.push (.cells ((xs.flatMap E.c).toArray++(ys.flatMap E.c).toArray++Builtin.zeroCells zero (cap - (xs.length+ys.length))) e)):=by
  intro cap G;refine Z _ _ (.inr ⟨h.size,0,cap,by simp,by simpa using G,by simp,λi y O=>?_,λj hj=>?_⟩) (Ch.push h _) rfl
  ·intro j u hu;have H:((xs++ys).flatMap E.c)[i*E.n+j]?=some u:=by
    clear Z T q B K hs V X G U J;generalize xs++ys=zs at O;induction zs generalizing i with
    | nil=>simp at O
    | cons z zs ih=>
     rw[dE];cases i with
     | zero=>
      simp only[aX,aD] at O;subst O;rw[eZ,cP,aY (aC.mp hu).1];exact hu
     | succ i=>
      have:=ih i (by simpa using O);rw[bD (by rw[E.len,cN]; omega),E.len];have e2:(i+1)*E.n+j - E.n=i*E.n+j:=by rw[cN];omega
      rw[e2];exact this
   have Q:=(aC.mp H).1;unfold cl;simp only[cV,cP];rw[fS (by rw[fB,aF] at Q; simpa using Q)];rw[fB] at H;simpa using H
  ·unfold cl fz;simp only[cV,cP];refine⟨?_,by simp⟩;have:j<((xs.flatMap E.c).toArray++(ys.flatMap E.c).toArray++Builtin.zeroCells zero (cap - (xs.length+ys.length))).size:=by
    have h1:=qS E xs;have h2:=qS E ys;simp only[iD,gI,yo,hz,h1,h2];have:cap=xs.length+ys.length+(cap - (xs.length+ys.length)):=by omega
    rw[this,eT,eT] at hj;exact hj
   rw[bZ this];rfl
 exact⟨a,xs.length,xs.length,xa,ys.length,xc,_,rfl,ex,q,λhle=>by omega,λ_=>⟨V,X,_,B,λcap hc _=>grow cap hc⟩⟩
def Sl.clip {α:Type} {E:pT α} {h:Hp} {v:Value} {xs:List α} (H:Sl E h v xs) {n:Nat} (V:n=E.n) {k k':IntKind} {z:Int} {u:Nat} (O:z=u) (h2:u<=xs.length) :
  ∃a,xO n v none (some (.int k z)) (some (.int k' z))=some (.slice a (xs.take u).length (xs.take u).length)/\Sl E h (.slice a (xs.take u).length (xs.take u).length) (xs.take u):=by
 subst O;obtain⟨a,cap,rfl,Q,X,K⟩:=H;have B:(xs.take u).length=u:=by rw[aR];omega
 have T:u<=cap:=cD h2 Q;refine⟨if u=0 then a else a.map (·.add (0*n)),?_,?_⟩
 ·rw[B];simp[xO,OZ,QS,MF,F6,Wm,P4,T]
 ·refine⟨_,u,by rw[B],by omega,λe=>?_,λi x G=>?_⟩
  ·split at e
   ·rename_i h0;exact h0
   ·rename_i h0;obtain⟨r,o,J,_⟩:=K 0 (xs[0]'(by omega)) (aB (by omega));rw[J] at e;cases e
  ·have q:=(aC.mp G).1;rw[B] at q;rw[dZ q] at G;obtain⟨r,o,J,U⟩:=K i x G;refine⟨r,o,?_,U⟩;rw[if_neg (by omega),J];simp[Bu]
def Cx.S9 {α:Type} {E:pT α} {F0:Fp} {h h0:Hp} {L:List km} {a:Option Addr} {xs ys:List α} {x:Value} {e:TypeId} {zero:Array Value} {n bytes:Nat} {k:Value->Hp->Prop} (c:Cx F0 h0 h L)
  (hs:Sl E h (.slice a xs.length xs.length) xs) (H:Sl E h x ys) (u:0<ys.length) (J:n=E.n) (K:zero.size=E.n) (O:(xs.length+ys.length)*bytes<=140737488355328) (Q:xs.length+ys.length<=9223372036854775807)
  (T:∀B h',Cx F0 h0 h' (L++[kz E B (xs++ys)])->k B h'):Ap e zero n bytes (.slice a xs.length xs.length) x h k:=
 En.S9 hs u H J K O Q λB h' o g G=>T B h' (c.add (F':=λq=>kZ B=some q) ⟨o,λ_=>fC⟩ g λr e=>by rw[G] at e; injection e with e; omega)
def Ow.Ib {α:Type} {E:pT α} {h:Hp} {v s:Value} {xs ys:List α} (H:Ow E h v xs) (Hs:Sl E h s ys) (K:ys.length=xs.length) {n:Nat} (V:n=E.n):∃h',En.Ib n v s h=some (.int .i64 ys.length,h')/\Ow E h' v ys/\Ch (λr=>kZ v=some r) h h':=by
 subst V;have B:=Hs.row rfl;obtain⟨sa,sc,es,O⟩:=id Hs;rcases H with ⟨rfl,rfl⟩| ⟨r,o,cap,rfl,T,X,Z,hw⟩
 ·have:ys=[]:=cF.mp K;subst this;refine⟨h,?_,.inl ⟨rfl,rfl⟩,.refl _ _⟩;rw[es] at B⊢;simp only[aJ,eZ] at B;simp[En.Ib,B]
 ·obtain⟨h',U,up⟩:=vR (r:=r) (o:=o) (ys.flatMap E.c) 0 h (λu hu=>by
    obtain⟨y,_,G⟩:=iL.mp hu;exact E.one y u G) (λj J=>by
    rw[qS] at J;have:=hw j (by
     have:ys.length*E.n<=cap*E.n:=dF _ (by omega);omega)
    rw[dG];exact this)
  refine⟨h',?_,.inr ⟨r,o,cap,by rw[K],by omega,by rw[up.size]; exact X,λi y G j u hu=>?_,λj J=>?_⟩,up.ch.mono λx _ e=>by subst e; rfl⟩
  ·rw[es] at B⊢;have hm:Nat.min ys.length xs.length=ys.length:=by rw[K];exact Nat.min_self _
   simp only[En.Ib,hm,B,dT,U]
  ·have J:j<E.n:=by have:=(aC.mp hu).1;rwa [E.len] at this
   have Q:(ys.flatMap E.c)[i*E.n+j]?=some u:=by
    clear B es up U K Hs O;induction ys generalizing i with
    | nil=>simp at G
    | cons z zs ih=>
     rw[dE];cases i with
     | zero=>
      simp only[aX,aD] at G;subst G;rw[eZ,cP,aY (by rw[E.len]; exact J)];exact hu
     | succ q=>
      have:=ih q (by simpa using G);rw[bD (by rw[E.len,cN]; omega),E.len];have e2:(q+1)*E.n+j - E.n=q*E.n+j:=by rw[cN];omega
      rw[e2];exact this
   have:=up.put _ _ Q;have hh:o+i*E.n+j=o+0+(i*E.n+j):=by omega
   rw[hh];exact this
  ·exact⟨up.some (hw j J).1,by rw[up.fz]; exact(hw j J).2⟩
def Cx.Ib {α:Type} {E:pT α} {F0:Fp} {h h0:Hp} {L:List km} {v s:Value} {xs ys:List α} (c:Cx F0 h0 h L) (i:Nat) (hi:L[i]?=some (kz E v xs)) (Hs:Sl E h s ys) (B:ys.length=xs.length) {n:Nat} (G:n=E.n) {k:Value->Hp->Prop}
  (H:∀h',Cx F0 h0 h' (L.set i (kz E v ys))->k (.int .i64 ys.length) h'):Eb (En.Ib n v s h) k:=by
 obtain⟨F,⟨o,u⟩,up⟩:=c.Ob hi;obtain⟨h',e,J,ch⟩:=o.Ib Hs B G;exact En.eb e (H h' (up (F':=F) ⟨J,u⟩ (qV (ch.mono λq _ e=>(u q).2 e))))
def Cx.Bp {α:Type} {E:pT α} {F0:Fp} {h h0:Hp} {L:List km} {v:Value} {xs:List α} (c:Cx F0 h0 h L) (i:Nat) (hi:L[i]?=some (kz E v xs)) {j:Nat} (B:j<xs.length) (y:α) {n:Nat} (G:n=E.n) {q:IntKind} {z:Int} (H:z=j) {w:Value} (hw:w=.agg ⟨E.c y⟩) {k:Hp->Prop}
  (J:∀h',Cx F0 h0 h' (L.set i (kz E v (xs.set j y)))->k h'):Vb (sL n v (.int q z)) λp=>Sb (En.kq n p w h) k:=by
 obtain⟨F,⟨o,u⟩,up⟩:=c.Ob hi;exact o.set B y G H hw λh' K ch=>J h' (up (F':=F) ⟨K,u⟩ (qV (ch.mono λq _ e=>(u q).2 e)))
def Cx.Dw {α:Type} {E:pT α} {F0:Fp} {h h0:Hp} {L:List km} {v:Value} {xs:List α} {x:α} (c:Cx F0 h0 h L) (i:Nat) (hi:L[i]?=some (kz E v xs)) {p:Nat} (B:xs[p]?=some x) (y:α) {n:Nat} (G:n=E.n) {q:IntKind} {z:Int} (H:z=p) {j:Nat} {w:Value} (hw:w.oneCell'=true) (J:j<E.n) (K:E.c y=(E.c x).set j w) {k:Hp->Prop}
  (O:∀h',Cx F0 h0 h' (L.set i (kz E v (xs.set p y)))->k h'):Vb (sL n v (.int q z)) λp=>Vb (fa j p) λp=>Sb (En.kq 1 p w h) k:=by
 obtain⟨F,⟨o,u⟩,up⟩:=c.Ob hi;exact o.Dw B y G H hw J K λh' Q ch=>O h' (up (F':=F) ⟨Q,u⟩ (qV (ch.mono λq _ e=>(u q).2 e)))
end Go.En
namespace Go.En
variable {h h0 h':Hp} {F F0:Fp} {L M:List km}
def lI (cs:List Value):Bool:=cs.all Value.oneCell'
def tA {cs:List Value} (h:lI cs=true) (v:Value) (hv:v∈cs):v.oneCell'=true:=cG.1 h v hv
abbrev Cells (n:Nat):Type:={cs:List Value // cs.length=n/\lI cs=true}
def Yi (n:Nat):pT (Cells n):={n:=n,c:=λx=>x.1,len:=λx=>x.2.1,one:=λx=>tA x.2.2}
def rV (r:Nat) (cs:List Value):km where
 P:=λh F=>(∃ho:lI cs=true,Va (Yi cs.length) h r ⟨cs,rfl,ho⟩)/\∀q,F q↔q=r
 lt:=λ⟨⟨_,v⟩,u⟩ q B=>by rw[u] at B;subst B;exact v.lt
 loc:=λ⟨⟨ho,v⟩,u⟩ c E=>⟨⟨ho,v.ch c (E r ((u r).2 rfl))⟩,u⟩
section
variable {r i o n:Nat} {cs:List Value}
def Cx.nv {a:Array Value} (c:Cx F0 h0 h L) {e:TypeId} (u:a.toList=cs) (ho:lI cs=true) {k:Value->Hp->Prop}
  (B:∀r h',Cx F0 h0 h' (L++[rV r cs])->k (kC r) h'):Eb (En.nw a e h) k:=by
 subst u;exact eb rfl (B h.size _ (c.add (F':=λq=>q=h.size) ⟨⟨ho,Va.new rfl⟩,λ_=>fC⟩ (Ch.push _ _) λr e=>by omega))
def Cx.rv (c:Cx F0 h0 h L) (hi:L[i]?=some (rV r cs)):∃ho:lI cs=true,Va (Yi cs.length) h r ⟨cs,rfl,ho⟩:=let⟨_,p,_⟩:=c.get hi; p
def Cx.vl (c:Cx F0 h0 h L) (hi:L[i]?=some (rV r cs)) (u:n=cs.length):kc n (kC r) h=some (.agg ⟨cs⟩):=let⟨_,v⟩:=c.rv hi; v.whole u
def Cx.vc (c:Cx F0 h0 h L) (hi:L[i]?=some (rV r cs)) {u:Value} (ho:cs[o]?=some u):mH (.pointer (some ⟨r,o,none⟩)) h=some u:=by
 obtain⟨_,v⟩:=c.rv hi;have:=v.row.mH (j:=o) ho;rwa [cP] at this
def Cx.vp (c:Cx F0 h0 h L) (hi:L[i]?=some (rV r cs)) {ds:List Value} (B:Nat.ble (o+n) cs.length=true) (E:(cs.drop o).take n=ds):kc n (.pointer (some ⟨r,o,none⟩)) h=some (.agg ⟨ds⟩):=by
 subst E;obtain⟨ho,v⟩:=c.rv hi;have O:=dX B;have G:((cs.drop o).take n).length=n:=by rw[aR,cI];omega
 have H:Row (Yi n) h r o ⟨(cs.drop o).take n,G,cG.2 λx J=>tA ho x (fU (dR J))⟩:=λj u hu=>by
  have hu:((cs.drop o).take n)[j]?=some u:=hu;rw[List.getElem?_take] at hu;split at hu
  ·rw[fL] at hu;have:=v.row (o+j) u hu;rwa [cP] at this
  ·cases hu
 exact H.kc rfl
def Cx.vS (c:Cx F0 h0 h L) (i:Nat) (hi:L[i]?=some (rV r cs)) {vs ds:List Value} {w:Value} (hw:w.cells.toList=vs) (ho:lI vs=true) (H:vs.length=n) (O:ds.length=cs.length) (G:o+n<=cs.length)
  (Q:∀j u,ds[j]?=some u->if o<=j/\j<o+n then vs[j - o]?=some u else cs[j]?=some u) {k:Hp->Prop} (T:∀h',Cx F0 h0 h' (L.set i (rV r ds))->k h'):Sb (En.kq n (.pointer (some ⟨r,o,none⟩)) w h) k:=by
 obtain⟨F,⟨⟨U,v⟩,R⟩,up⟩:=c.Ob hi;have B:lI ds=true:=cG.2 λx V=>by
  obtain⟨j,G,rfl⟩:=bK.1 V;have:=Q j _ (aB G);split at this
  ·exact tA ho _ (aG this)
  ·exact tA U _ (aG this)
 obtain⟨h1,e,X,ch,_⟩:=Va.put (E:=Yi cs.length) v (y:=⟨ds,O,B⟩) (j:=o) (vs:=vs) (λj u hu=>by rw[H]; exact Q j u hu) (by rw[H]; exact G) (tA ho);have J:w.cells.size=n:=by rw[<-eL,hw,H]
 refine sb (h':=h1) ?_ (T h1 (up (F':=F) ⟨⟨B,?_⟩,R⟩ (qV (ch.mono λq _ e=>(R q).2 e))))
 ·have Z:Nat.beq w.cells.size n=true:=by rw[J];exact jL n
  show(match Nat.beq w.cells.size n with | true=>pS h ⟨r,o,none⟩ 0 w.cells.toList | false=>none)=some h1;rw[Z,hw];exact e
 ·obtain⟨a,b,d⟩:=X;exact⟨a,b,λj G=>d j (show j<cs.length by rw[<-O]; exact G)⟩
def Cx.vw (c:Cx F0 h0 h L) (i:Nat) (hi:L[i]?=some (rV r cs)) {w:Value} {vs:List Value} (hw:w.cells.toList=vs) (ho:lI vs=true) (B:vs.length=n) (E:n=cs.length) {k:Hp->Prop}
  (G:∀h',Cx F0 h0 h' (L.set i (rV r vs))->k h'):Sb (En.kq n (kC r) w h) k:=
 c.vS i hi hw ho B (B.trans E) (by omega) (λj u hu=>by
  have:=(aC.1 hu).1;rw[if_pos ⟨aO _,by omega⟩];exact hu) G
def Cx.vq (c:Cx F0 h0 h L) (i:Nat) (hi:L[i]?=some (rV r cs)) {w:Value} {vs ds:List Value} (hw:w.cells.toList=vs) (ho:lI vs=true) (B:vs.length=n) (E:Nat.ble (o+n) cs.length=true) (hs:cs.take o++vs++cs.drop (o+n)=ds) {k:Hp->Prop}
  (G:∀h',Cx F0 h0 h' (L.set i (rV r ds))->k h'):Sb (En.kq n (.pointer (some ⟨r,o,none⟩)) w h) k:=by
 subst hs hw;have H:=dX E;exact c.vS i hi rfl ho B (by rw[aF,aF,aR,cI]; omega) H (λj u hu=>by
  have J:(cs.take o).length=o:=by rw[aR];omega
  rw[cY] at hu;by_cases h1:j<o
  ·rw[aY (by omega),dZ h1] at hu;rw[if_neg (by omega)];exact hu
  ·rw[bD (by omega),J] at hu;by_cases h2:j<o+n
   ·rw[aY (by omega)] at hu;rw[if_pos (by omega)];exact hu
   ·rw[bD (by omega),fL] at hu;rw[if_neg (by omega)];rwa [show o+n+(j - o - w.cells.toList.length)=j by omega] at hu) G
def Cx.t3 (c:Cx F0 h0 h L) (i j:Nat) {r q n m:Nat} {csx csy vs ws:List Value} {a b d:Value} {R:Value->Hp->Prop} (hi:L[i]?=some (rV r csx)) (J:L[j]?=some (rV q csy)) (u:Nat.beq i j=false)
  (T:a.cells.toList=vs) (U:lI vs=true) (O:vs.length=n) (V:n=csx.length) (X:b.cells.toList=ws) (Z:lI ws=true) (Q:ws.length=m) (db:m=csy.length)
  (hk:∀h',Cx F0 h0 h' ((L.set i (rV r vs)).set j (rV q ws))->R (.tuple #[.agg ⟨vs⟩,.agg ⟨ws⟩,d]) h'):T3 n (kC r) m (kC q) (.tuple #[a,b,d]) h R:=by
 have B:¬i=j:=λe=>by rw[e,jL] at u;cases u
 refine En.vb (v:=a) rfl (En.vb (v:=b) rfl (En.vb (v:=d) rfl ?_));refine c.vw i hi T U O V λ_ c=>?_;have E:(L.set i (rV r vs))[j]?=some (rV q csy):=by rw[bH,if_neg B];exact J
 refine c.vw j E X Z Q db λ_ c=>?_;have G:i<L.length:=(aC.1 hi).1;have H:j<L.length:=(aC.1 J).1;refine En.vb (c.vl (i:=i) (by rw[bH,if_neg (λe=>B e.symm),bH,if_pos rfl,if_pos G]) O.symm) ?_;refine En.vb (c.vl (i:=j) (by rw[bH,if_pos rfl,if_pos (by rw[aV]; exact H)]) Q.symm) ?_;exact hk _ c
def Cx.t2 (c:Cx F0 h0 h L) (j:Nat) {q m:Nat} {csy ws:List Value} {a b d:Value} {R:Value->Hp->Prop} (B:L[j]?=some (rV q csy)) (G:b.cells.toList=ws) (H:lI ws=true) (E:ws.length=m) (J:m=csy.length)
  (O:∀h',Cx F0 h0 h' (L.set j (rV q ws))->R (.tuple #[a,.agg ⟨ws⟩,d]) h'):T2 m (kC q) (.tuple #[a,b,d]) h R:=by
 refine En.vb (v:=a) rfl (En.vb (v:=b) rfl (En.vb (v:=d) rfl ?_));refine c.vw j B G H E J λ_ c=>?_;have u:j<L.length:=(aC.1 B).1;refine En.vb (c.vl (i:=j) (by rw[bH,if_pos rfl,if_pos u]) E.symm) ?_;exact O _ c
def ma {v:Value} (h:v.oneCell'=true):v.cells.toList=[v]:=by
 cases v <;> first | rfl | cases h
end
structure Bs where
 p:Hp->Prop
 up:∀{h h':Hp},p h->Gr h h'->p h'
def Bs.and (B:Bs) (M:List km):Bs:=⟨λh=>B.p h/\∃F,(jR M).P h F,λ⟨a,F,b⟩ g=>⟨B.up a g,F,(jR M).loc b g λ_ _ e=>e⟩⟩
def Bs.of (h:Hp):Bs:=⟨λh'=>Gr h h',λa g=>a.trans g⟩
def On (B:Bs) (P:Hp->Prop):Prop:=∀h,B.p h->P h
def Bs.le (B B':Bs):Prop:=∀h,B'.p h->B.p h
def Bs.le_refl (B:Bs):B.le B:=λ_ b=>b
def Bs.jX (B:Bs) (M:List km):B.le (B.and M):=λ_ b=>b.1
def Bs.le.trans {A B C:Bs} (x:A.le B) (y:B.le C):A.le C:=λh c=>x h (y h c)
def Rt (B:Bs) (h:Hp) (Q:Bs->Prop) (K:Hp->Prop):Prop:=∀M h',Cx (λ_=>False) h h' [jR M]->Q (B.and M)->K h'
def Rt.nil {B:Bs} {Q:Bs->Prop} {K:Hp->Prop} (H:Rt B h Q K) (u:Q (B.and [])) {h':Hp} (g:Gr h h'):K h':=
 H [] h' (((Cx.jQ h).more g).pack (L:=[]) (M:=[])) u
def On.le {B B':Bs} {P:Hp->Prop} (H:On B P) (l:B.le B'):On B' P:=λh b=>H h (l h b)
def On.imp {B:Bs} {P Q:Hp->Prop} (H:On B P) (f:∀h,P h->Q h):On B Q:=λh b=>f h (H h b)
def Bs.star {B:Bs} {u:List km} (b:(B.and u).p h) {M:List km} {i:Nat} (hi:u[i]?=some (jR M)):∃F,(jR M).P h F:=by
 obtain⟨_,F,p⟩:=b;exact(Cx.star p).get hi
def Bs.mO {B:Bs} {M u:List km} {i:Nat} (hi:u[i]?=some (jR M)):(B.and M).le (B.and u):=λ_ b=>⟨b.1,Bs.star b hi⟩
def Bs.FW {B:Bs} {M N:List km}:((B.and M).and N).le (B.and [jR M,jR N]):=λ_ b=>⟨⟨b.1,Bs.star b (i:=0) rfl⟩,Bs.star b (i:=1) rfl⟩
def On.of {B:Bs} {M:List km} {A:km} {i:Nat} (hi:M[i]?=some A):On (B.and M) λh=>∃F,A.P h F:=λ_ b=>by
 obtain⟨_,F,p⟩:=b;exact(Cx.star p).get hi
def On.sl {B:Bs} {M:List km} {α:Type} {E:pT α} {v:Value} {xs:List α} {i:Nat} (hi:M[i]?=some (kz E v xs)):On (B.and M) λh=>Sl E h v xs:=(On.of hi).imp λ_ ⟨_,p⟩=>p.1.sl
def On.mp {B:Bs} {M:List km} {α:Type} {u:IntKind} {E:α->Value} {v:Value} {xs:List (Int × α)} {i:Nat} (hi:M[i]?=some (Gk u E v xs)):On (B.and M) λh=>Mp u E h v xs:=(On.of hi).imp λ_ ⟨_,p⟩=>p.1
def kV {A B:Prop} (h:A):Br (.bool true) A B:=h
def j7 {A B:Prop} (h:B):Br (.bool false) A B:=h
section
variable {k:IntKind} {a b:Int}
def pN (h:a=b):bin .eql (.int k a) (.int k b)=some (.bool true):=by rw[kU,decide_eq_true h]
def m6 (h:¬a=b):bin .eql (.int k a) (.int k b)=some (.bool false):=by rw[kU,decide_eq_false h]
def E7 (h:¬a=b):bin .neq (.int k a) (.int k b)=some (.bool true):=by rw[mh,decide_eq_true h]
def BM (h:a=b):bin .neq (.int k a) (.int k b)=some (.bool false):=by rw[mh,decide_eq_false λe=>e h]
def vF (h:a<b):bin .lss (.int k a) (.int k b)=some (.bool true):=by rw[j9,decide_eq_true h]
def lL (h:¬a<b):bin .lss (.int k a) (.int k b)=some (.bool false):=by rw[j9,decide_eq_false h]
def G7 (h:a<=b):bin .leq (.int k a) (.int k b)=some (.bool true):=by rw[zn,decide_eq_true h]
def RP (h:¬a<=b):bin .leq (.int k a) (.int k b)=some (.bool false):=by rw[zn,decide_eq_false h]
def FL (h:b<a):bin .gtr (.int k a) (.int k b)=some (.bool true):=by rw[mV,decide_eq_true h]
def pW (h:¬b<a):bin .gtr (.int k a) (.int k b)=some (.bool false):=by rw[mV,decide_eq_false h]
def s0 (h:b<=a):bin .geq (.int k a) (.int k b)=some (.bool true):=by rw[qf,decide_eq_true h]
def oV (h:¬b<=a):bin .geq (.int k a) (.int k b)=some (.bool false):=by rw[qf,decide_eq_false h]
end
def HV {α:Type} {j:Nat} {u:α} {P:Prop} (h:([]:List α)[j]?=some u):P:=by simp at h
def J5 (place:Nat->Option (Nat × Nat)):List Value->List (Nat × Value)->Option (List Value)
 | cs,[]=>some cs
 | cs,(i,v)::r=>match place i with
  | none=>none
  | some (o,n)=>match Nat.beq v.cells.toList.length n,Nat.ble (o+n) cs.length with
   | true,true=>J5 place (cs.take o++v.cells.toList++cs.drop (o+n)) r
   | _,_=>none
def N4 {place:Nat->Option (Nat × Nat)}:∀{parts:List (Nat × Value)} {cs ds:List Value},J5 place cs parts=some ds->Instr.fill place cs.toArray parts=some ds.toArray
 | [],cs,ds,h=>by
  simp only[J5,aD] at h;subst h;rfl
 | (i,v)::r,cs,ds,h=>by
  unfold J5 at h;unfold Instr.fill;split at h
  ·cases h
  ·rename_i o n u;simp only[u];split at h
   ·rename_i h1 h2;have h1:=bJ h1;have h2:=dX h2;have hs:v.cells.size=n:=by rw[<-eL];exact h1
    have B:(v.cells.size≠n||o+v.cells.size > cs.toArray.size)=false:=by simp[hs];omega
    simp only[B,cC,if_false];have E:(v.cells.zipIdx.foldl (λcs x=>cs.setIfInBounds (o+x.2) x.1) cs.toArray)=(cs.take o++v.cells.toList++cs.drop (o+n)).toArray:=by
     apply fH;rw[<-gY,Array.toList_zipIdx,Fo]
     ·rw[dG,h1]
     ·rw[dG,h1];omega
    rw[E];exact N4 h
   ·cases h
def jU {places:List (Nat × Nat)} {zero:Array Value} {parts:List (Nat × Value)} {ds:List Value} (h:J5 (places[·]?) zero.toList parts=some ds):nF places zero parts=some (.agg ⟨ds⟩):=by
 have:=N4 h;rw[gT] at this;unfold nF;rw[this];rfl
def jS {r o j:Nat} {K:Value->Prop} (h:K (.pointer (some ⟨r,o+j,none⟩))):Vb (fa j (.pointer (some ⟨r,o,none⟩))) K:=En.vb (oi _ _ _) h
section
variable {r o n:Nat} {cs:List Value}
def Cx.rc (c:Cx F0 h0 h L) (i:Nat) {u:Value} {K:Value->Prop} (k:K u) (hi:L[i]?=some (rV r cs):=by exact rfl) (ho:cs[o]?=some u:=by exact rfl):Vb (mH (.pointer (some ⟨r,o,none⟩)) h) K:=En.vb (c.vc hi ho) k
def Cx.rl (c:Cx F0 h0 h L) (i:Nat) {K:Value->Prop} (k:K (.agg ⟨cs⟩)) (hi:L[i]?=some (rV r cs):=by exact rfl) (u:n=cs.length:=by exact rfl):Vb (kc n (kC r) h) K:=En.vb (c.vl hi u) k
def Cx.ac (c:Cx F0 h0 h L) (i:Nat) {u:Value} {K:Prop} (k:K) (hi:L[i]?=some (rV r cs):=by exact rfl) (ho:cs[o]?=some u:=by exact rfl):mH (.pointer (some ⟨r,o,none⟩)) h=some u/\K:=⟨c.vc hi ho,k⟩
def Cx.al (c:Cx F0 h0 h L) (i:Nat) {K:Prop} (k:K) (hi:L[i]?=some (rV r cs):=by exact rfl) (u:n=cs.length:=by exact rfl):kc n (kC r) h=some (.agg ⟨cs⟩)/\K:=⟨c.vl hi u,k⟩
def Cx.n0 (c:Cx F0 h0 h []):Cx F0 h0 h []:=c
def Cx.n1 {u:km} (c:Cx F0 h0 h [u]):Cx F0 h0 h [u]:=c
def Cx.n2 {u B:km} (c:Cx F0 h0 h [u,B]):Cx F0 h0 h [u,B]:=c
def Cx.n3 {u B E:km} (c:Cx F0 h0 h [u,B,E]):Cx F0 h0 h [u,B,E]:=c
def Cx.n4 {u B E G:km} (c:Cx F0 h0 h [u,B,E,G]):Cx F0 h0 h [u,B,E,G]:=c
def Cx.n5 {u B E G H:km} (c:Cx F0 h0 h [u,B,E,G,H]):Cx F0 h0 h [u,B,E,G,H]:=c
def Cx.n6 {u B E G H J:km} (c:Cx F0 h0 h [u,B,E,G,H,J]):Cx F0 h0 h [u,B,E,G,H,J]:=c
def Cx.n7 {u B E G H J O:km} (c:Cx F0 h0 h [u,B,E,G,H,J,O]):Cx F0 h0 h [u,B,E,G,H,J,O]:=c
def Cx.n8 {u B E G H J O Q:km} (c:Cx F0 h0 h [u,B,E,G,H,J,O,Q]):Cx F0 h0 h [u,B,E,G,H,J,O,Q]:=c
def Cx.n9 {u B E G H J O Q R:km} (c:Cx F0 h0 h [u,B,E,G,H,J,O,Q,R]):Cx F0 h0 h [u,B,E,G,H,J,O,Q,R]:=c
def Cx.Ut {u B E G H J O Q R T:km} (c:Cx F0 h0 h [u,B,E,G,H,J,O,Q,R,T]):Cx F0 h0 h [u,B,E,G,H,J,O,Q,R,T]:=c
def Cx.WE {B E G H J O Q R T U u:km} (c:Cx F0 h0 h [B,E,G,H,J,O,Q,R,T,U,u]):Cx F0 h0 h [B,E,G,H,J,O,Q,R,T,U,u]:=c
def Cx.n12 {E G H J O Q R T U V u B:km} (c:Cx F0 h0 h [E,G,H,J,O,Q,R,T,U,V,u,B]):Cx F0 h0 h [E,G,H,J,O,Q,R,T,U,V,u,B]:=c
class Ov (v:Value):Prop where
 h:v.oneCell'=true
def kL {v:Value} {vs:List Value} (h:v.oneCell'=true) (t:lI vs=true):lI (v::vs)=true:=by
 unfold lI at t⊢;rw[jG,h,t];rfl
class Sn (L:List km) (f:outParam (km->List km)):Prop where
 e:∀x,L++[x]=f x
instance:Sn [] λx=>[x]:=⟨λ_=>rfl⟩
instance {a:km} {f:km->List km} [s:Sn L f]:Sn (a::L) λx=>a::f x:=⟨λx=>by rw[<-s.e x]; rfl⟩
class Stt (L:List km) (i:Nat) (f:outParam (km->List km)):Prop where
 e:∀x,L.set i x=f x
instance {a:km}:Stt (a::L) 0 λx=>x::L:=⟨λ_=>rfl⟩
instance {a:km} {i:Nat} {f:km->List km} [s:Stt L i f]:Stt (a::L) (i+1) λx=>a::f x:=⟨λx=>by rw[<-s.e x]; rfl⟩
variable {f f':km->List km} {k:Value->Hp->Prop} {K:Hp->Prop} {v w:Value} {i j q:Nat} {csx csy:List Value}
def Cx.v1 {u:Value} {a:Array Value} (c:Cx F0 h0 h L) {e:TypeId} [s:Sn L f] (B:∀r h',Cx F0 h0 h' (f (rV r [u]))->k (kC r) h') (E:a.toList=[u]:=by exact rfl) (ho:lI [u]=true:=by first | exact rfl | repeat' first | exact rfl | assumption | exact Ov.h | apply kL):Eb (En.nw a e h) k:=c.nv E ho λr h' c=>B r h' (s.e _▸c)
def Cx.w1 {u:Value} (c:Cx F0 h0 h L) (i:Nat) [s:Stt L i f] (B:∀h',Cx F0 h0 h' (f (rV r [u]))->K h') (hi:L[i]?=some (rV r cs):=by exact rfl) (hw:w.cells.toList=[u]:=by exact rfl) (ho:lI [u]=true:=by first | exact rfl | repeat' first | exact rfl | assumption | exact Ov.h | apply kL) (E:1=cs.length:=by exact rfl):Sb (En.kq 1 (kC r) w h) K:=c.vw i hi hw ho rfl E λh' c=>B h' (s.e _▸c)
def Cx.v2 {u B:Value} {a:Array Value} (c:Cx F0 h0 h L) {e:TypeId} [s:Sn L f] (E:∀r h',Cx F0 h0 h' (f (rV r [u,B]))->k (kC r) h') (G:a.toList=[u,B]:=by exact rfl) (ho:lI [u,B]=true:=by first | exact rfl | repeat' first | exact rfl | assumption | exact Ov.h | apply kL):Eb (En.nw a e h) k:=c.nv G ho λr h' c=>E r h' (s.e _▸c)
def Cx.w2 {u B:Value} (c:Cx F0 h0 h L) (i:Nat) [s:Stt L i f] (E:∀h',Cx F0 h0 h' (f (rV r [u,B]))->K h') (hi:L[i]?=some (rV r cs):=by exact rfl) (hw:w.cells.toList=[u,B]:=by exact rfl) (ho:lI [u,B]=true:=by first | exact rfl | repeat' first | exact rfl | assumption | exact Ov.h | apply kL) (G:2=cs.length:=by exact rfl):Sb (En.kq 2 (kC r) w h) K:=c.vw i hi hw ho rfl G λh' c=>E h' (s.e _▸c)
def Cx.q2 {u B:Value} (c:Cx F0 h0 h L) (i:Nat) [s:Stt L i f] (E:∀h',Cx F0 h0 h' (f (rV r [u,B]))->K h') (hi:L[i]?=some (rV r cs):=by exact rfl) (hw:w.cells.toList=[v]:=by first | exact rfl | exact ma (by assumption)) (ho:lI [v]=true:=by first | exact rfl | repeat' first | exact rfl | assumption | exact Ov.h | apply kL) (G:Nat.ble (o+1) cs.length=true:=by exact rfl) (hs:cs.take o++[v]++cs.drop (o+1)=[u,B]:=by exact rfl):Sb (En.kq 1 (.pointer (some ⟨r,o,none⟩)) w h) K:=c.vq i hi hw ho rfl G hs λh' c=>E h' (s.e _▸c)
def Cx.v3 {u B E:Value} {a:Array Value} (c:Cx F0 h0 h L) {e:TypeId} [s:Sn L f] (G:∀r h',Cx F0 h0 h' (f (rV r [u,B,E]))->k (kC r) h') (H:a.toList=[u,B,E]:=by exact rfl) (ho:lI [u,B,E]=true:=by first | exact rfl | repeat' first | exact rfl | assumption | exact Ov.h | apply kL):Eb (En.nw a e h) k:=c.nv H ho λr h' c=>G r h' (s.e _▸c)
def Cx.w3 {u B E:Value} (c:Cx F0 h0 h L) (i:Nat) [s:Stt L i f] (G:∀h',Cx F0 h0 h' (f (rV r [u,B,E]))->K h') (hi:L[i]?=some (rV r cs):=by exact rfl) (hw:w.cells.toList=[u,B,E]:=by exact rfl) (ho:lI [u,B,E]=true:=by first | exact rfl | repeat' first | exact rfl | assumption | exact Ov.h | apply kL) (H:3=cs.length:=by exact rfl):Sb (En.kq 3 (kC r) w h) K:=c.vw i hi hw ho rfl H λh' c=>G h' (s.e _▸c)
def Cx.q3 {u B E:Value} (c:Cx F0 h0 h L) (i:Nat) [s:Stt L i f] (G:∀h',Cx F0 h0 h' (f (rV r [u,B,E]))->K h') (hi:L[i]?=some (rV r cs):=by exact rfl) (hw:w.cells.toList=[v]:=by first | exact rfl | exact ma (by assumption)) (ho:lI [v]=true:=by first | exact rfl | repeat' first | exact rfl | assumption | exact Ov.h | apply kL) (H:Nat.ble (o+1) cs.length=true:=by exact rfl) (hs:cs.take o++[v]++cs.drop (o+1)=[u,B,E]:=by exact rfl):Sb (En.kq 1 (.pointer (some ⟨r,o,none⟩)) w h) K:=c.vq i hi hw ho rfl H hs λh' c=>G h' (s.e _▸c)
def Cx.v4 {u B E G:Value} {a:Array Value} (c:Cx F0 h0 h L) {e:TypeId} [s:Sn L f] (H:∀r h',Cx F0 h0 h' (f (rV r [u,B,E,G]))->k (kC r) h') (J:a.toList=[u,B,E,G]:=by exact rfl) (ho:lI [u,B,E,G]=true:=by first | exact rfl | repeat' first | exact rfl | assumption | exact Ov.h | apply kL):Eb (En.nw a e h) k:=c.nv J ho λr h' c=>H r h' (s.e _▸c)
def Cx.w4 {u B E G:Value} (c:Cx F0 h0 h L) (i:Nat) [s:Stt L i f] (H:∀h',Cx F0 h0 h' (f (rV r [u,B,E,G]))->K h') (hi:L[i]?=some (rV r cs):=by exact rfl) (hw:w.cells.toList=[u,B,E,G]:=by exact rfl) (ho:lI [u,B,E,G]=true:=by first | exact rfl | repeat' first | exact rfl | assumption | exact Ov.h | apply kL) (J:4=cs.length:=by exact rfl):Sb (En.kq 4 (kC r) w h) K:=c.vw i hi hw ho rfl J λh' c=>H h' (s.e _▸c)
def Cx.q4 {u B E G:Value} (c:Cx F0 h0 h L) (i:Nat) [s:Stt L i f] (H:∀h',Cx F0 h0 h' (f (rV r [u,B,E,G]))->K h') (hi:L[i]?=some (rV r cs):=by exact rfl) (hw:w.cells.toList=[v]:=by first | exact rfl | exact ma (by assumption)) (ho:lI [v]=true:=by first | exact rfl | repeat' first | exact rfl | assumption | exact Ov.h | apply kL) (J:Nat.ble (o+1) cs.length=true:=by exact rfl) (hs:cs.take o++[v]++cs.drop (o+1)=[u,B,E,G]:=by exact rfl):Sb (En.kq 1 (.pointer (some ⟨r,o,none⟩)) w h) K:=c.vq i hi hw ho rfl J hs λh' c=>H h' (s.e _▸c)
def Cx.v5 {u B E G H:Value} {a:Array Value} (c:Cx F0 h0 h L) {e:TypeId} [s:Sn L f] (J:∀r h',Cx F0 h0 h' (f (rV r [u,B,E,G,H]))->k (kC r) h') (O:a.toList=[u,B,E,G,H]:=by exact rfl) (ho:lI [u,B,E,G,H]=true:=by first | exact rfl | repeat' first | exact rfl | assumption | exact Ov.h | apply kL):Eb (En.nw a e h) k:=c.nv O ho λr h' c=>J r h' (s.e _▸c)
def Cx.w5 {u B E G H:Value} (c:Cx F0 h0 h L) (i:Nat) [s:Stt L i f] (J:∀h',Cx F0 h0 h' (f (rV r [u,B,E,G,H]))->K h') (hi:L[i]?=some (rV r cs):=by exact rfl) (hw:w.cells.toList=[u,B,E,G,H]:=by exact rfl) (ho:lI [u,B,E,G,H]=true:=by first | exact rfl | repeat' first | exact rfl | assumption | exact Ov.h | apply kL) (O:5=cs.length:=by exact rfl):Sb (En.kq 5 (kC r) w h) K:=c.vw i hi hw ho rfl O λh' c=>J h' (s.e _▸c)
def Cx.v6 {u B E G H J:Value} {a:Array Value} (c:Cx F0 h0 h L) {e:TypeId} [s:Sn L f] (O:∀r h',Cx F0 h0 h' (f (rV r [u,B,E,G,H,J]))->k (kC r) h') (Q:a.toList=[u,B,E,G,H,J]:=by exact rfl) (ho:lI [u,B,E,G,H,J]=true:=by first | exact rfl | repeat' first | exact rfl | assumption | exact Ov.h | apply kL):Eb (En.nw a e h) k:=c.nv Q ho λr h' c=>O r h' (s.e _▸c)
def Cx.w6 {u B E G H J:Value} (c:Cx F0 h0 h L) (i:Nat) [s:Stt L i f] (O:∀h',Cx F0 h0 h' (f (rV r [u,B,E,G,H,J]))->K h') (hi:L[i]?=some (rV r cs):=by exact rfl) (hw:w.cells.toList=[u,B,E,G,H,J]:=by exact rfl) (ho:lI [u,B,E,G,H,J]=true:=by first | exact rfl | repeat' first | exact rfl | assumption | exact Ov.h | apply kL) (Q:6=cs.length:=by exact rfl):Sb (En.kq 6 (kC r) w h) K:=c.vw i hi hw ho rfl Q λh' c=>O h' (s.e _▸c)
def Cx.q6 {u B E G H J:Value} (c:Cx F0 h0 h L) (i:Nat) [s:Stt L i f] (O:∀h',Cx F0 h0 h' (f (rV r [u,B,E,G,H,J]))->K h') (hi:L[i]?=some (rV r cs):=by exact rfl) (hw:w.cells.toList=[v]:=by first | exact rfl | exact ma (by assumption)) (ho:lI [v]=true:=by first | exact rfl | repeat' first | exact rfl | assumption | exact Ov.h | apply kL) (Q:Nat.ble (o+1) cs.length=true:=by exact rfl) (hs:cs.take o++[v]++cs.drop (o+1)=[u,B,E,G,H,J]:=by exact rfl):Sb (En.kq 1 (.pointer (some ⟨r,o,none⟩)) w h) K:=c.vq i hi hw ho rfl Q hs λh' c=>O h' (s.e _▸c)
def Cx.v7 {u B E G H J O:Value} {a:Array Value} (c:Cx F0 h0 h L) {e:TypeId} [s:Sn L f] (Q:∀r h',Cx F0 h0 h' (f (rV r [u,B,E,G,H,J,O]))->k (kC r) h') (R:a.toList=[u,B,E,G,H,J,O]:=by exact rfl) (ho:lI [u,B,E,G,H,J,O]=true:=by first | exact rfl | repeat' first | exact rfl | assumption | exact Ov.h | apply kL):Eb (En.nw a e h) k:=c.nv R ho λr h' c=>Q r h' (s.e _▸c)
def Cx.w7 {u B E G H J O:Value} (c:Cx F0 h0 h L) (i:Nat) [s:Stt L i f] (Q:∀h',Cx F0 h0 h' (f (rV r [u,B,E,G,H,J,O]))->K h') (hi:L[i]?=some (rV r cs):=by exact rfl) (hw:w.cells.toList=[u,B,E,G,H,J,O]:=by exact rfl) (ho:lI [u,B,E,G,H,J,O]=true:=by first | exact rfl | repeat' first | exact rfl | assumption | exact Ov.h | apply kL) (R:7=cs.length:=by exact rfl):Sb (En.kq 7 (kC r) w h) K:=c.vw i hi hw ho rfl R λh' c=>Q h' (s.e _▸c)
def Cx.q7 {u B E G H J O:Value} (c:Cx F0 h0 h L) (i:Nat) [s:Stt L i f] (Q:∀h',Cx F0 h0 h' (f (rV r [u,B,E,G,H,J,O]))->K h') (hi:L[i]?=some (rV r cs):=by exact rfl) (hw:w.cells.toList=[v]:=by first | exact rfl | exact ma (by assumption)) (ho:lI [v]=true:=by first | exact rfl | repeat' first | exact rfl | assumption | exact Ov.h | apply kL) (R:Nat.ble (o+1) cs.length=true:=by exact rfl) (hs:cs.take o++[v]++cs.drop (o+1)=[u,B,E,G,H,J,O]:=by exact rfl):Sb (En.kq 1 (.pointer (some ⟨r,o,none⟩)) w h) K:=c.vq i hi hw ho rfl R hs λh' c=>Q h' (s.e _▸c)
def Cx.v8 {u B E G H J O Q:Value} {a:Array Value} (c:Cx F0 h0 h L) {e:TypeId} [s:Sn L f] (R:∀r h',Cx F0 h0 h' (f (rV r [u,B,E,G,H,J,O,Q]))->k (kC r) h') (T:a.toList=[u,B,E,G,H,J,O,Q]:=by exact rfl) (ho:lI [u,B,E,G,H,J,O,Q]=true:=by first | exact rfl | repeat' first | exact rfl | assumption | exact Ov.h | apply kL):Eb (En.nw a e h) k:=c.nv T ho λr h' c=>R r h' (s.e _▸c)
def Cx.w8 {u B E G H J O Q:Value} (c:Cx F0 h0 h L) (i:Nat) [s:Stt L i f] (R:∀h',Cx F0 h0 h' (f (rV r [u,B,E,G,H,J,O,Q]))->K h') (hi:L[i]?=some (rV r cs):=by exact rfl) (hw:w.cells.toList=[u,B,E,G,H,J,O,Q]:=by exact rfl) (ho:lI [u,B,E,G,H,J,O,Q]=true:=by first | exact rfl | repeat' first | exact rfl | assumption | exact Ov.h | apply kL) (T:8=cs.length:=by exact rfl):Sb (En.kq 8 (kC r) w h) K:=c.vw i hi hw ho rfl T λh' c=>R h' (s.e _▸c)
def Cx.q8 {u B E G H J O Q:Value} (c:Cx F0 h0 h L) (i:Nat) [s:Stt L i f] (R:∀h',Cx F0 h0 h' (f (rV r [u,B,E,G,H,J,O,Q]))->K h') (hi:L[i]?=some (rV r cs):=by exact rfl) (hw:w.cells.toList=[v]:=by first | exact rfl | exact ma (by assumption)) (ho:lI [v]=true:=by first | exact rfl | repeat' first | exact rfl | assumption | exact Ov.h | apply kL) (T:Nat.ble (o+1) cs.length=true:=by exact rfl) (hs:cs.take o++[v]++cs.drop (o+1)=[u,B,E,G,H,J,O,Q]:=by exact rfl):Sb (En.kq 1 (.pointer (some ⟨r,o,none⟩)) w h) K:=c.vq i hi hw ho rfl T hs λh' c=>R h' (s.e _▸c)
def Cx.v9 {u B E G H J O Q R:Value} {a:Array Value} (c:Cx F0 h0 h L) {e:TypeId} [s:Sn L f] (T:∀r h',Cx F0 h0 h' (f (rV r [u,B,E,G,H,J,O,Q,R]))->k (kC r) h') (U:a.toList=[u,B,E,G,H,J,O,Q,R]:=by exact rfl) (ho:lI [u,B,E,G,H,J,O,Q,R]=true:=by first | exact rfl | repeat' first | exact rfl | assumption | exact Ov.h | apply kL):Eb (En.nw a e h) k:=c.nv U ho λr h' c=>T r h' (s.e _▸c)
def Cx.w9 {u B E G H J O Q R:Value} (c:Cx F0 h0 h L) (i:Nat) [s:Stt L i f] (T:∀h',Cx F0 h0 h' (f (rV r [u,B,E,G,H,J,O,Q,R]))->K h') (hi:L[i]?=some (rV r cs):=by exact rfl) (hw:w.cells.toList=[u,B,E,G,H,J,O,Q,R]:=by exact rfl) (ho:lI [u,B,E,G,H,J,O,Q,R]=true:=by first | exact rfl | repeat' first | exact rfl | assumption | exact Ov.h | apply kL) (U:9=cs.length:=by exact rfl):Sb (En.kq 9 (kC r) w h) K:=c.vw i hi hw ho rfl U λh' c=>T h' (s.e _▸c)
def Cx.q9 {u B E G H J O Q R:Value} (c:Cx F0 h0 h L) (i:Nat) [s:Stt L i f] (T:∀h',Cx F0 h0 h' (f (rV r [u,B,E,G,H,J,O,Q,R]))->K h') (hi:L[i]?=some (rV r cs):=by exact rfl) (hw:w.cells.toList=[v]:=by first | exact rfl | exact ma (by assumption)) (ho:lI [v]=true:=by first | exact rfl | repeat' first | exact rfl | assumption | exact Ov.h | apply kL) (U:Nat.ble (o+1) cs.length=true:=by exact rfl) (hs:cs.take o++[v]++cs.drop (o+1)=[u,B,E,G,H,J,O,Q,R]:=by exact rfl):Sb (En.kq 1 (.pointer (some ⟨r,o,none⟩)) w h) K:=c.vq i hi hw ho rfl U hs λh' c=>T h' (s.e _▸c)
def Cx.v10 {u B E G H J O Q R T:Value} {a:Array Value} (c:Cx F0 h0 h L) {e:TypeId} [s:Sn L f] (U:∀r h',Cx F0 h0 h' (f (rV r [u,B,E,G,H,J,O,Q,R,T]))->k (kC r) h') (V:a.toList=[u,B,E,G,H,J,O,Q,R,T]:=by exact rfl) (ho:lI [u,B,E,G,H,J,O,Q,R,T]=true:=by first | exact rfl | repeat' first | exact rfl | assumption | exact Ov.h | apply kL):Eb (En.nw a e h) k:=c.nv V ho λr h' c=>U r h' (s.e _▸c)
def Cx.Yb {u B E G H J O Q R T:Value} (c:Cx F0 h0 h L) (i:Nat) [s:Stt L i f] (U:∀h',Cx F0 h0 h' (f (rV r [u,B,E,G,H,J,O,Q,R,T]))->K h') (hi:L[i]?=some (rV r cs):=by exact rfl) (hw:w.cells.toList=[u,B,E,G,H,J,O,Q,R,T]:=by exact rfl) (ho:lI [u,B,E,G,H,J,O,Q,R,T]=true:=by first | exact rfl | repeat' first | exact rfl | assumption | exact Ov.h | apply kL) (V:10=cs.length:=by exact rfl):Sb (En.kq 10 (kC r) w h) K:=c.vw i hi hw ho rfl V λh' c=>U h' (s.e _▸c)
def Cx.VT {u B E G H J O Q R T:Value} (c:Cx F0 h0 h L) (i:Nat) [s:Stt L i f] (U:∀h',Cx F0 h0 h' (f (rV r [u,B,E,G,H,J,O,Q,R,T]))->K h') (hi:L[i]?=some (rV r cs):=by exact rfl) (hw:w.cells.toList=[v]:=by first | exact rfl | exact ma (by assumption)) (ho:lI [v]=true:=by first | exact rfl | repeat' first | exact rfl | assumption | exact Ov.h | apply kL) (V:Nat.ble (o+1) cs.length=true:=by exact rfl) (hs:cs.take o++[v]++cs.drop (o+1)=[u,B,E,G,H,J,O,Q,R,T]:=by exact rfl):Sb (En.kq 1 (.pointer (some ⟨r,o,none⟩)) w h) K:=c.vq i hi hw ho rfl V hs λh' c=>U h' (s.e _▸c)
def Cx.v11 {B E G H J O Q R T U u:Value} {a:Array Value} (c:Cx F0 h0 h L) {e:TypeId} [s:Sn L f] (V:∀r h',Cx F0 h0 h' (f (rV r [B,E,G,H,J,O,Q,R,T,U,u]))->k (kC r) h') (X:a.toList=[B,E,G,H,J,O,Q,R,T,U,u]:=by exact rfl) (ho:lI [B,E,G,H,J,O,Q,R,T,U,u]=true:=by first | exact rfl | repeat' first | exact rfl | assumption | exact Ov.h | apply kL):Eb (En.nw a e h) k:=c.nv X ho λr h' c=>V r h' (s.e _▸c)
def Cx.ZY {B E G H J O Q R T U u:Value} (c:Cx F0 h0 h L) (i:Nat) [s:Stt L i f] (V:∀h',Cx F0 h0 h' (f (rV r [B,E,G,H,J,O,Q,R,T,U,u]))->K h') (hi:L[i]?=some (rV r cs):=by exact rfl) (hw:w.cells.toList=[B,E,G,H,J,O,Q,R,T,U,u]:=by exact rfl) (ho:lI [B,E,G,H,J,O,Q,R,T,U,u]=true:=by first | exact rfl | repeat' first | exact rfl | assumption | exact Ov.h | apply kL) (X:11=cs.length:=by exact rfl):Sb (En.kq 11 (kC r) w h) K:=c.vw i hi hw ho rfl X λh' c=>V h' (s.e _▸c)
def Cx.Qm {B E G H J O Q R T U u:Value} (c:Cx F0 h0 h L) (i:Nat) [s:Stt L i f] (V:∀h',Cx F0 h0 h' (f (rV r [B,E,G,H,J,O,Q,R,T,U,u]))->K h') (hi:L[i]?=some (rV r cs):=by exact rfl) (hw:w.cells.toList=[v]:=by first | exact rfl | exact ma (by assumption)) (ho:lI [v]=true:=by first | exact rfl | repeat' first | exact rfl | assumption | exact Ov.h | apply kL) (X:Nat.ble (o+1) cs.length=true:=by exact rfl) (hs:cs.take o++[v]++cs.drop (o+1)=[B,E,G,H,J,O,Q,R,T,U,u]:=by exact rfl):Sb (En.kq 1 (.pointer (some ⟨r,o,none⟩)) w h) K:=c.vq i hi hw ho rfl X hs λh' c=>V h' (s.e _▸c)
def Cx.K9 {G H J O Q R T U V X u B E:Value} {a:Array Value} (c:Cx F0 h0 h L) {e:TypeId} [s:Sn L f] (Z:∀r h',Cx F0 h0 h' (f (rV r [G,H,J,O,Q,R,T,U,V,X,u,B,E]))->k (kC r) h') (hl:a.toList=[G,H,J,O,Q,R,T,U,V,X,u,B,E]:=by exact rfl) (ho:lI [G,H,J,O,Q,R,T,U,V,X,u,B,E]=true:=by first | exact rfl | repeat' first | exact rfl | assumption | exact Ov.h | apply kL):Eb (En.nw a e h) k:=c.nv hl ho λr h' c=>Z r h' (s.e _▸c)
def Cx.Tf {G H J O Q R T U V X u B E:Value} (c:Cx F0 h0 h L) (i:Nat) [s:Stt L i f] (Z:∀h',Cx F0 h0 h' (f (rV r [G,H,J,O,Q,R,T,U,V,X,u,B,E]))->K h') (hi:L[i]?=some (rV r cs):=by exact rfl) (hw:w.cells.toList=[G,H,J,O,Q,R,T,U,V,X,u,B,E]:=by exact rfl) (ho:lI [G,H,J,O,Q,R,T,U,V,X,u,B,E]=true:=by first | exact rfl | repeat' first | exact rfl | assumption | exact Ov.h | apply kL) (hd:13=cs.length:=by exact rfl):Sb (En.kq 13 (kC r) w h) K:=c.vw i hi hw ho rfl hd λh' c=>Z h' (s.e _▸c)
def Cx.yZ {G H J O Q R T U V X u B E:Value} (c:Cx F0 h0 h L) (i:Nat) [s:Stt L i f] (Z:∀h',Cx F0 h0 h' (f (rV r [G,H,J,O,Q,R,T,U,V,X,u,B,E]))->K h') (hi:L[i]?=some (rV r cs):=by exact rfl) (hw:w.cells.toList=[v]:=by first | exact rfl | exact ma (by assumption)) (ho:lI [v]=true:=by first | exact rfl | repeat' first | exact rfl | assumption | exact Ov.h | apply kL) (hb:Nat.ble (o+1) cs.length=true:=by exact rfl) (hs:cs.take o++[v]++cs.drop (o+1)=[G,H,J,O,Q,R,T,U,V,X,u,B,E]:=by exact rfl):Sb (En.kq 1 (.pointer (some ⟨r,o,none⟩)) w h) K:=c.vq i hi hw ho rfl hb hs λh' c=>Z h' (s.e _▸c)
def Cx.qW {J O Q R T U V X Z x9 u B E G H:Value} {a:Array Value} (c:Cx F0 h0 h L) {e:TypeId} [s:Sn L f] (hk:∀r h',Cx F0 h0 h' (f (rV r [J,O,Q,R,T,U,V,X,Z,x9,u,B,E,G,H]))->k (kC r) h') (hl:a.toList=[J,O,Q,R,T,U,V,X,Z,x9,u,B,E,G,H]:=by exact rfl) (ho:lI [J,O,Q,R,T,U,V,X,Z,x9,u,B,E,G,H]=true:=by first | exact rfl | repeat' first | exact rfl | assumption | exact Ov.h | apply kL):Eb (En.nw a e h) k:=c.nv hl ho λr h' c=>hk r h' (s.e _▸c)
def Cx.Zp {J O Q R T U V X Z x9 u B E G H:Value} (c:Cx F0 h0 h L) (i:Nat) [s:Stt L i f] (hk:∀h',Cx F0 h0 h' (f (rV r [J,O,Q,R,T,U,V,X,Z,x9,u,B,E,G,H]))->K h') (hi:L[i]?=some (rV r cs):=by exact rfl) (hw:w.cells.toList=[J,O,Q,R,T,U,V,X,Z,x9,u,B,E,G,H]:=by exact rfl) (ho:lI [J,O,Q,R,T,U,V,X,Z,x9,u,B,E,G,H]=true:=by first | exact rfl | repeat' first | exact rfl | assumption | exact Ov.h | apply kL) (hd:15=cs.length:=by exact rfl):Sb (En.kq 15 (kC r) w h) K:=c.vw i hi hw ho rfl hd λh' c=>hk h' (s.e _▸c)
def Cx.I6 {J O Q R T U V X Z x9 u B E G H:Value} (c:Cx F0 h0 h L) (i:Nat) [s:Stt L i f] (hk:∀h',Cx F0 h0 h' (f (rV r [J,O,Q,R,T,U,V,X,Z,x9,u,B,E,G,H]))->K h') (hi:L[i]?=some (rV r cs):=by exact rfl) (hw:w.cells.toList=[v]:=by first | exact rfl | exact ma (by assumption)) (ho:lI [v]=true:=by first | exact rfl | repeat' first | exact rfl | assumption | exact Ov.h | apply kL) (hb:Nat.ble (o+1) cs.length=true:=by exact rfl) (hs:cs.take o++[v]++cs.drop (o+1)=[J,O,Q,R,T,U,V,X,Z,x9,u,B,E,G,H]:=by exact rfl):Sb (En.kq 1 (.pointer (some ⟨r,o,none⟩)) w h) K:=c.vq i hi hw ho rfl hb hs λh' c=>hk h' (s.e _▸c)
def Cx.Ag {O Q R T U V X Z x8 x9 u B E G H J:Value} {a:Array Value} (c:Cx F0 h0 h L) {e:TypeId} [s:Sn L f] (hk:∀r h',Cx F0 h0 h' (f (rV r [O,Q,R,T,U,V,X,Z,x8,x9,u,B,E,G,H,J]))->k (kC r) h') (hl:a.toList=[O,Q,R,T,U,V,X,Z,x8,x9,u,B,E,G,H,J]:=by exact rfl) (ho:lI [O,Q,R,T,U,V,X,Z,x8,x9,u,B,E,G,H,J]=true:=by first | exact rfl | repeat' first | exact rfl | assumption | exact Ov.h | apply kL):Eb (En.nw a e h) k:=c.nv hl ho λr h' c=>hk r h' (s.e _▸c)
def Cx.I9 {O Q R T U V X Z x8 x9 u B E G H J:Value} (c:Cx F0 h0 h L) (i:Nat) [s:Stt L i f] (hk:∀h',Cx F0 h0 h' (f (rV r [O,Q,R,T,U,V,X,Z,x8,x9,u,B,E,G,H,J]))->K h') (hi:L[i]?=some (rV r cs):=by exact rfl) (hw:w.cells.toList=[O,Q,R,T,U,V,X,Z,x8,x9,u,B,E,G,H,J]:=by exact rfl) (ho:lI [O,Q,R,T,U,V,X,Z,x8,x9,u,B,E,G,H,J]=true:=by first | exact rfl | repeat' first | exact rfl | assumption | exact Ov.h | apply kL) (hd:16=cs.length:=by exact rfl):Sb (En.kq 16 (kC r) w h) K:=c.vw i hi hw ho rfl hd λh' c=>hk h' (s.e _▸c)
def Cx.G3 {O Q R T U V X Z x8 x9 u B E G H J:Value} (c:Cx F0 h0 h L) (i:Nat) [s:Stt L i f] (hk:∀h',Cx F0 h0 h' (f (rV r [O,Q,R,T,U,V,X,Z,x8,x9,u,B,E,G,H,J]))->K h') (hi:L[i]?=some (rV r cs):=by exact rfl) (hw:w.cells.toList=[v]:=by first | exact rfl | exact ma (by assumption)) (ho:lI [v]=true:=by first | exact rfl | repeat' first | exact rfl | assumption | exact Ov.h | apply kL) (hb:Nat.ble (o+1) cs.length=true:=by exact rfl) (hs:cs.take o++[v]++cs.drop (o+1)=[O,Q,R,T,U,V,X,Z,x8,x9,u,B,E,G,H,J]:=by exact rfl):Sb (En.kq 1 (.pointer (some ⟨r,o,none⟩)) w h) K:=c.vq i hi hw ho rfl hb hs λh' c=>hk h' (s.e _▸c)
def Cx.l9 {V X Z x3 x4 x5 x6 x7 x8 x9 u B E G H J O Q R T U:Value} {a:Array Value} (c:Cx F0 h0 h L) {e:TypeId} [s:Sn L f] (hk:∀r h',Cx F0 h0 h' (f (rV r [V,X,Z,x3,x4,x5,x6,x7,x8,x9,u,B,E,G,H,J,O,Q,R,T,U]))->k (kC r) h') (hl:a.toList=[V,X,Z,x3,x4,x5,x6,x7,x8,x9,u,B,E,G,H,J,O,Q,R,T,U]:=by exact rfl) (ho:lI [V,X,Z,x3,x4,x5,x6,x7,x8,x9,u,B,E,G,H,J,O,Q,R,T,U]=true:=by first | exact rfl | repeat' first | exact rfl | assumption | exact Ov.h | apply kL):Eb (En.nw a e h) k:=c.nv hl ho λr h' c=>hk r h' (s.e _▸c)
def Cx.ZV {V X Z x3 x4 x5 x6 x7 x8 x9 u B E G H J O Q R T U:Value} (c:Cx F0 h0 h L) (i:Nat) [s:Stt L i f] (hk:∀h',Cx F0 h0 h' (f (rV r [V,X,Z,x3,x4,x5,x6,x7,x8,x9,u,B,E,G,H,J,O,Q,R,T,U]))->K h') (hi:L[i]?=some (rV r cs):=by exact rfl) (hw:w.cells.toList=[V,X,Z,x3,x4,x5,x6,x7,x8,x9,u,B,E,G,H,J,O,Q,R,T,U]:=by exact rfl) (ho:lI [V,X,Z,x3,x4,x5,x6,x7,x8,x9,u,B,E,G,H,J,O,Q,R,T,U]=true:=by first | exact rfl | repeat' first | exact rfl | assumption | exact Ov.h | apply kL) (hd:21=cs.length:=by exact rfl):Sb (En.kq 21 (kC r) w h) K:=c.vw i hi hw ho rfl hd λh' c=>hk h' (s.e _▸c)
def Cx.z6 {V X Z x3 x4 x5 x6 x7 x8 x9 u B E G H J O Q R T U:Value} (c:Cx F0 h0 h L) (i:Nat) [s:Stt L i f] (hk:∀h',Cx F0 h0 h' (f (rV r [V,X,Z,x3,x4,x5,x6,x7,x8,x9,u,B,E,G,H,J,O,Q,R,T,U]))->K h') (hi:L[i]?=some (rV r cs):=by exact rfl) (hw:w.cells.toList=[v]:=by first | exact rfl | exact ma (by assumption)) (ho:lI [v]=true:=by first | exact rfl | repeat' first | exact rfl | assumption | exact Ov.h | apply kL) (hb:Nat.ble (o+1) cs.length=true:=by exact rfl) (hs:cs.take o++[v]++cs.drop (o+1)=[V,X,Z,x3,x4,x5,x6,x7,x8,x9,u,B,E,G,H,J,O,Q,R,T,U]:=by exact rfl):Sb (En.kq 1 (.pointer (some ⟨r,o,none⟩)) w h) K:=c.vq i hi hw ho rfl hb hs λh' c=>hk h' (s.e _▸c)
def Cx.lj {X Z x2 x3 x4 x5 x6 x7 x8 x9 u B E G H J O Q T U V y0 y1 y2 y3 y4 y5 y6 y7 a b d:Value} (c:Cx F0 h0 h L) (i j:Nat) [s:Stt L i f] [s':Stt (f (rV r [X,Z,x2,x3,x4,x5,x6,x7,x8,x9,u,B,E,G,H,J,O,Q,T,U,V])) j f'] {R:Value->Hp->Prop} (hk:∀h',Cx F0 h0 h' (f' (rV q [y0,y1,y2,y3,y4,y5,y6,y7]))->R (.tuple #[.agg ⟨[X,Z,x2,x3,x4,x5,x6,x7,x8,x9,u,B,E,G,H,J,O,Q,T,U,V]⟩,.agg ⟨[y0,y1,y2,y3,y4,y5,y6,y7]⟩,d]) h') (hi:L[i]?=some (rV r csx):=by exact rfl) (hj:L[j]?=some (rV q csy):=by exact rfl) (aS:Nat.beq i j=false:=by exact rfl) (ha:a.cells.toList=[X,Z,x2,x3,x4,x5,x6,x7,x8,x9,u,B,E,G,H,J,O,Q,T,U,V]:=by exact rfl) (oa:lI [X,Z,x2,x3,x4,x5,x6,x7,x8,x9,u,B,E,G,H,J,O,Q,T,U,V]=true:=by first | exact rfl | repeat' first | exact rfl | assumption | exact Ov.h | apply kL) (da:21=csx.length:=by exact rfl) (hb:b.cells.toList=[y0,y1,y2,y3,y4,y5,y6,y7]:=by exact rfl) (ob:lI [y0,y1,y2,y3,y4,y5,y6,y7]=true:=by first | exact rfl | repeat' first | exact rfl | assumption | exact Ov.h | apply kL) (db:8=csy.length:=by exact rfl):T3 21 (kC r) 8 (kC q) (.tuple #[a,b,d]) h R:=c.t3 i j hi hj aS ha oa rfl da hb ob rfl db λh' c=>hk h' (by rw[s.e,s'.e] at c; exact c)
def Cx.pL {J O Q T U V X Z x8 x9 u B E G H y0 y1 y2 y3 y4 y5 y6 y7 a b d:Value} (c:Cx F0 h0 h L) (i j:Nat) [s:Stt L i f] [s':Stt (f (rV r [J,O,Q,T,U,V,X,Z,x8,x9,u,B,E,G,H])) j f'] {R:Value->Hp->Prop} (hk:∀h',Cx F0 h0 h' (f' (rV q [y0,y1,y2,y3,y4,y5,y6,y7]))->R (.tuple #[.agg ⟨[J,O,Q,T,U,V,X,Z,x8,x9,u,B,E,G,H]⟩,.agg ⟨[y0,y1,y2,y3,y4,y5,y6,y7]⟩,d]) h') (hi:L[i]?=some (rV r csx):=by exact rfl) (hj:L[j]?=some (rV q csy):=by exact rfl) (aS:Nat.beq i j=false:=by exact rfl) (ha:a.cells.toList=[J,O,Q,T,U,V,X,Z,x8,x9,u,B,E,G,H]:=by exact rfl) (oa:lI [J,O,Q,T,U,V,X,Z,x8,x9,u,B,E,G,H]=true:=by first | exact rfl | repeat' first | exact rfl | assumption | exact Ov.h | apply kL) (da:15=csx.length:=by exact rfl) (hb:b.cells.toList=[y0,y1,y2,y3,y4,y5,y6,y7]:=by exact rfl) (ob:lI [y0,y1,y2,y3,y4,y5,y6,y7]=true:=by first | exact rfl | repeat' first | exact rfl | assumption | exact Ov.h | apply kL) (db:8=csy.length:=by exact rfl):T3 15 (kC r) 8 (kC q) (.tuple #[a,b,d]) h R:=c.t3 i j hi hj aS ha oa rfl da hb ob rfl db λh' c=>hk h' (by rw[s.e,s'.e] at c; exact c)
def Cx.YT {u B E G H a b d:Value} (c:Cx F0 h0 h L) (i j:Nat) [s:Stt L i f] [s':Stt (f (rV r [u,B])) j f'] {R:Value->Hp->Prop} (O:∀h',Cx F0 h0 h' (f' (rV q [E,G,H]))->R (.tuple #[.agg ⟨[u,B]⟩,.agg ⟨[E,G,H]⟩,d]) h') (hi:L[i]?=some (rV r csx):=by exact rfl) (Q:L[j]?=some (rV q csy):=by exact rfl) (J:Nat.beq i j=false:=by exact rfl) (T:a.cells.toList=[u,B]:=by exact rfl) (U:lI [u,B]=true:=by first | exact rfl | repeat' first | exact rfl | assumption | exact Ov.h | apply kL) (V:2=csx.length:=by exact rfl) (X:b.cells.toList=[E,G,H]:=by exact rfl) (Z:lI [E,G,H]=true:=by first | exact rfl | repeat' first | exact rfl | assumption | exact Ov.h | apply kL) (db:3=csy.length:=by exact rfl):T3 2 (kC r) 3 (kC q) (.tuple #[a,b,d]) h R:=c.t3 i j hi Q J T U rfl V X Z rfl db λh' c=>O h' (by rw[s.e,s'.e] at c; exact c)
def Cx.t8 {u B E G H J O Q a b d:Value} (c:Cx F0 h0 h L) (j:Nat) [s:Stt L j f] {R:Value->Hp->Prop} (T:∀h',Cx F0 h0 h' (f (rV q [u,B,E,G,H,J,O,Q]))->R (.tuple #[a,.agg ⟨[u,B,E,G,H,J,O,Q]⟩,d]) h') (U:L[j]?=some (rV q csy):=by exact rfl) (V:b.cells.toList=[u,B,E,G,H,J,O,Q]:=by exact rfl) (X:lI [u,B,E,G,H,J,O,Q]=true:=by first | exact rfl | repeat' first | exact rfl | assumption | exact Ov.h | apply kL) (Z:8=csy.length:=by exact rfl):T2 8 (kC q) (.tuple #[a,b,d]) h R:=c.t2 j U V X rfl Z λh' c=>T h' (s.e _▸c)
def vx {o:Option Value} {v:Value} {k:Value->Prop} (e:o=some v) (h:k v):Vb o k:=⟨v,e,h⟩
end
end Go.En
namespace Go.En
variable {h h0 h':Hp} {F F0:Fp} {R:Value->Hp->Prop} {L:List km} {B B':Bs}
def IY:Nat->Int:=λi=>([8,8,8,1,104,0,32]:List Int).getD i 0
structure Zs (h:Hp):Prop where
 row:Row (EAr .i64 7) h 0 0 IY
def Zs.gr (H:Zs h) (g:Gr h h'):Zs h':=⟨H.row.ch g λe=>e⟩
def Zs.adr {q:IntKind} {z:Int} {i:Nat} (u:z=i) (hi:i<7):I4 7 1 (.pointer (some ⟨0,0,none⟩)) (.int q z)=some (.pointer (some ⟨0,0+i,none⟩)):=XO u hi 0
def Zs.ld (H:Zs h) {i:Nat} (hi:i<7):mH (.pointer (some ⟨0,0+i,none⟩)) h=some (.int .i64 (IY i)):=H.row.mH (Uw hi)
def Pz (f:Nat) (args:List Value) (v:Value):Prop:=∀h (R:Value->Hp->Prop),Zs h->(∀h',Gr h h'->R v h')->S.C f args h R
def EL:pT (Int × Int × Int):={n:=3,c:=λx=>[.int .i64 x.1,.int .i64 x.2.1,.int .i64 x.2.2],len:=λ_=>rfl,one:=λa v h=>by simp only[aU,bF,or_false] at h; rcases h with rfl | rfl | rfl <;> rfl}
abbrev lay:Int × Int × Int:=(3,6,4)
def vL:Value:=.agg ⟨EL.c lay⟩
def rn:Nat->Int:=λi=>([1,3,3,6,3,4,4]:List Int).getD i 0
def EV:Nat->Int:=λi=>([8,24,24,8,312,8,128]:List Int).getD i 0
def pZ:Nat->Int:=λi=>([0,8,32,56,64,376,384,512]:List Int).getD i 0
def WX {p:Nat} {P:Nat->Prop} (h:p<7) (h0:P 0) (h1:P 1) (h2:P 2) (q:P 3) (u:P 4) (B:P 5) (E:P 6):P p:=by
 match p,h with
 | 0,_=>exact h0
 | 1,_=>exact h1
 | 2,_=>exact h2
 | 3,_=>exact q
 | 4,_=>exact u
 | 5,_=>exact B
 | 6,_=>exact E
 | p+7,h=>omega
def X5 {p:Nat} (q:p<7) (u:∀h',Gr h h'->R (.int .i64 (rn p)) h'):se.1 vL (.int .i64 p) h R:=by
 refine(Cx.jQ h).nw EL lay rfl λr h1 c=>(c.va (i:=0) rfl).sN (j:=0) rfl ?_;refine(c.va (i:=0) rfl).sN (j:=0) rfl ?_;refine(c.va (i:=0) rfl).sN (j:=1) rfl ?_;refine(c.va (i:=0) rfl).sN (j:=0) rfl ?_;refine(c.va (i:=0) rfl).sN (j:=2) rfl ?_;refine(c.va (i:=0) rfl).sN (j:=2) rfl ?_;refine En.vb (v:=.agg #[.int .i64 1,.int .i64 3,.int .i64 3,.int .i64 6,.int .i64 3,.int .i64 4,.int .i64 4]) (by kernel_rfl) ?_;refine En.vb (v:=.int .i64 (rn p)) ?_ (u _ c.gr);refine WX (P:=λp=>VG 7 1 (.agg #[.int .i64 1,.int .i64 3,.int .i64 3,.int .i64 6,.int .i64 3,.int .i64 4,.int .i64 4]) (.int .i64 (p:Int))=some (.int .i64 (rn p))) q ?_ ?_ ?_ ?_ ?_ ?_ ?_ <;> kernel_rfl
def AB:∀{p:Nat},p<7->Pz 80 [vL,.int .i64 p] (.int .i64 (rn p)):=λq h R Z k=>se.2 (X5 q k)
def XG {p:Nat} (Z:Zs h) (q:p<7) (J:∀h',Gr h h'->R (.int .i64 (EV p)) h'):sG.1 vL (.int .i64 p) h R:=by
 refine(Cx.jQ h).nw EL lay rfl λr h1 c=>?_;rw[show kc 3 (kC r) h1=some vL from(c.va (i:=0) rfl).whole rfl,kf];rw[Zs.adr rfl q,kf,(Z.gr c.gr).ld q,kf];refine AB q h1 _ (Z.gr c.gr) λh2 g=>have c:=c.more g;⟨(Z.gr c.gr).ld q,?_⟩;rw[BS,kf];have fin:∀(n:Int) u,Gr h u->((n+8 - 1).tdiv 8*8=EV p)->(0<=n/\n<=1000)->Vb (bin .add (.int .i64 n) (.int .i64 8)) λB=>Vb (bin .sub B (.int .i64 1)) λE=>Vb (bin .quo E (.int .i64 8)) λG=>Vb (bin .mul G (.int .i64 8)) λH=>R H u:=λn u g e M=>by
  have h1:0<=(n+8 - 1) / 8:=by omega
  have h2:(n+8 - 1).tdiv 8=(n+8 - 1) / 8:=eP (by omega);rw[oC ⟨by omega,by omega⟩,kf,nu ⟨by omega,by omega⟩,kf,FC ⟨by omega,by omega⟩ (by decide),kf,BS,kf,EN ⟨by omega,by omega⟩,<-h2,e];exact J u g
 refine .here ?_;refine sV.at (λv h'=>v=.bool (decide (IY p=0/\rn p > 0))/\Cx (λ_=>False) h h' [Fm EL r lay]) ?_ ?_
 ·rw[kf,(Z.gr c.gr).ld q,kf,kU,kf];refine lV (λe=>?_) λe=>?_
  ·rw[show kc 3 (kC r) h2=some vL from(c.va (i:=0) rfl).whole rfl,kf];refine AB q h2 _ (Z.gr c.gr) λu g=>?_;rw[mV,kf];exact⟨by congr 1; exact decide_eq_decide.2 ⟨λh=>⟨e,h⟩,λh=>h.2⟩,c.more g⟩
  ·exact⟨by rw[decide_eq_false λh=>e h.1],c⟩
 rintro v u ⟨rfl,c⟩;refine lV (λe=>?_) λe=>?_
 ·refine fin 8 u c.gr ?_ ⟨by decide,by decide⟩;revert e;refine WX (P:=λp=>IY p=0/\rn p > 0->((8:Int)+8 - 1).tdiv 8*8=EV p) q ?_ ?_ ?_ ?_ ?_ ?_ ?_ <;> decide
 ·have K:IntKind.i64.wrap (rn p*IY p)=rn p*IY p:=by
   refine WX (P:=λp=>IntKind.i64.wrap (rn p*IY p)=rn p*IY p) q ?_ ?_ ?_ ?_ ?_ ?_ ?_ <;> decide
  rw[K];refine fin _ u c.gr ?_ ?_
  ·revert e;refine WX (P:=λp=>¬(IY p=0/\rn p > 0)->(rn p*IY p+8 - 1).tdiv 8*8=EV p) q ?_ ?_ ?_ ?_ ?_ ?_ ?_ <;> decide
  ·refine WX (P:=λp=>0<=rn p*IY p/\rn p*IY p<=1000) q ?_ ?_ ?_ ?_ ?_ ?_ ?_ <;> decide
def L2:∀{p:Nat},p<7->Pz 107 [vL,.int .i64 p] (.int .i64 (EV p)):=λq h R Z k=>sG.2 (XG Z q k)
def Wx {p:Nat} (Z:Zs h) (H:p<8) (E:∀h',Gr h h'->R (.int .i64 (pZ p)) h'):sF.1 vL (.int .i64 p) h R:=by
 refine(Cx.jQ h).nw EL lay rfl λr h1 c=>z5.by (λ(i:Nat) u v h'=>u=.int .i64 (pZ i)/\v=.int .i64 i/\i<=p/\Cx (λ_=>False) h h' [Fm EL r lay]) (λi=>p - i) 0 ⟨rfl,rfl,aO _,c⟩ ?_;clear c;rintro i u v h2 ⟨rfl,rfl,hi,c⟩ again q;rw[j9,kf];refine lV (λe=>?_) λe=>?_
 ·have B:i<7:=by omega
  rw[show kc 3 (kC r) h2=some vL from(c.va (i:=0) rfl).whole rfl,kf];refine L2 B h2 _ (Z.gr c.gr) λJ g=>?_;have G:bin .add (.int .i64 (pZ i)) (.int .i64 (EV i))=some (.int .i64 (pZ (i+1))):=by
   refine WX (P:=λi=>bin .add (.int .i64 (pZ i)) (.int .i64 (EV i))=some (.int .i64 (pZ (i+1)))) B ?_ ?_ ?_ ?_ ?_ ?_ ?_ <;> kernel_rfl
  rw[G,kf,DW,kf,wrS (by omega)];exact q (i+1) _ _ _ ⟨rfl,rfl,by omega,c.more g⟩ (by omega)
 ·have:i=p:=by omega
  subst this;exact E _ c.gr
def Pq {n a b:Int} (q:∀h',Gr h h'->R (.bool (decide (a<=n/\n<=b))) h'):rL.1 (.int .i64 n) (.int .i64 a) (.int .i64 b) h R:=by
 dsimp only[rL,vz];refine .here ?_;rw[qf,kf];refine lV (λe=>?_) λe=>?_
 ·rw[zn,kf,show decide (n<=b)=decide (a<=n/\n<=b) from decide_eq_decide.2 ⟨λh=>⟨e,h⟩,λh=>h.2⟩];exact q _ (.refl _ _)
 ·rw[show false=decide (a<=n/\n<=b) from(decide_eq_false λh=>e h.1).symm];exact q _ (.refl _ _)
def uY:∀{n a b:Int},Pz 108 [.int .i64 n,.int .i64 a,.int .i64 b] (.bool (decide (a<=n/\n<=b))):=λh R Z k=>rL.2 (Pq k)
def ny:∀{p:Nat},p<8->Pz 73 [vL,.int .i64 p] (.int .i64 (pZ p)):=λq h R Z k=>sF.2 (Wx Z q k)
def Ue (Z:Zs h) (u:∀h',Gr h h'->R (.int .i64 0) h'):rC.1 vL h R:=by
 refine(Cx.jQ h).nw EL lay rfl λr h1 c=>sV.at (λv h'=>v=.bool false/\Cx (λ_=>False) h h' [Fm EL r lay]) ?_ ?_
 ·refine(c.va (i:=0) rfl).sN (j:=0) rfl ?_;refine uY h1 _ (Z.gr c.gr) λh2 g=>have c:=c.more g;En.vb (v:=.bool false) rfl ?_;rw[p8];refine(c.va (i:=0) rfl).sN (j:=1) rfl ?_;refine uY h2 _ (Z.gr c.gr) λq g=>have c:=c.more g;En.vb (v:=.bool false) rfl ?_;rw[p8];refine(c.va (i:=0) rfl).sN (j:=2) rfl ?_;refine uY q _ (Z.gr c.gr) λB g=>En.vb (v:=.bool false) rfl ?_;exact⟨rfl,c.more g⟩
 rintro v h2 ⟨rfl,c⟩;rw[p8,show kc 3 (kC r) h2=some vL from(c.va (i:=0) rfl).whole rfl,kf];refine ny (p:=7) (by decide) h2 _ (Z.gr c.gr) λq g=>En.vb (v:=.bool false) (by kernel_rfl) ?_;rw[p8];exact u _ (c.more g).gr
def lM:Pz 74 [vL] (.int .i64 0):=λh R Z k=>rC.2 (Ue Z k)
def Vy (Z:Zs h) (q:∀h',Gr h h'->R (.bool true) h'):ry.1 vL h R:=by
 refine(Cx.jQ h).nw EL lay rfl λr h1 c=>?_;rw[show kc 3 (kC r) h1=some vL from(c.va (i:=0) rfl).whole rfl,kf];refine lM h1 _ (Z.gr c.gr) λh2 g=>?_;rw[eqI,kf];exact q _ (c.more g).gr
def qj:Pz 49 [vL] (.bool true):=λh R Z k=>ry.2 (Vy Z k)
def RO (Z:Zs h) (q:∀h',Gr h h'->R (.int .i64 512) h'):pp.1 vL h R:=by
 refine(Cx.jQ h).nw EL lay rfl λr h1 c=>?_;rw[show kc 3 (kC r) h1=some vL from(c.va (i:=0) rfl).whole rfl,kf];refine qj h1 _ (Z.gr c.gr) λh2 g=>have c:=c.more g;En.vb (v:=.bool false) rfl ?_;rw[p8,show kc 3 (kC r) h2=some vL from(c.va (i:=0) rfl).whole rfl,kf];exact ny (p:=7) (by decide) h2 _ (Z.gr c.gr) λu g=>q _ (c.more g).gr
def VD (p:Nat) (i more:Int):Int:=if 0<=i/\i<rn p then pZ p+i*IY p+more else -1
def aaY {p:Nat} {i more:Int} (Z:Zs h) (u:p<7) (hm:0<=more/\more<=1000) (q:∀h',Gr h h'->R (.int .i64 (VD p i more)) h'):tK.1 vL (.int .i64 p) (.int .i64 i) (.int .i64 more) h R:=by
 have B:rn p<=8/\0<=IY p/\IY p<=104/\0<=pZ p/\pZ p<=512:=by
  refine WX (P:=λp=>rn p<=8/\0<=IY p/\IY p<=104/\0<=pZ p/\pZ p<=512) u ?_ ?_ ?_ ?_ ?_ ?_ ?_ <;> decide
 refine(Cx.jQ h).nw EL lay rfl λr h1 c=>sV.at (λv h'=>v=.bool (decide (¬(0<=i/\i<rn p)))/\Cx (λ_=>False) h h' [Fm EL r lay]) ?_ ?_
 ·rw[show kc 3 (kC r) h1=some vL from(c.va (i:=0) rfl).whole rfl,kf];refine qj h1 _ (Z.gr c.gr) λh2 g=>have c:=c.more g;En.vb (v:=.bool false) rfl ?_;rw[p8,j9,kf];refine lV (λe=>?_) λe=>?_
  ·exact⟨by rw[decide_eq_true]; omega,c⟩
  rw[show kc 3 (kC r) h2=some vL from(c.va (i:=0) rfl).whole rfl,kf];refine AB u h2 _ (Z.gr c.gr) λE g=>?_;rw[qf,kf];exact⟨by congr 1; exact decide_eq_decide.2 (by omega),c.more g⟩
 rintro v h2 ⟨rfl,c⟩;refine lV (λe=>?_) λe=>?_
 ·have:=q _ c.gr;rwa [VD,if_neg e] at this
 have e:=cQ.1 e;have q:=q;unfold VD at q;rw[if_pos e] at q;have hmul:0<=i*IY p/\i*IY p<=832:=⟨Int.mul_nonneg e.1 B.2.1,iX (Int.mul_le_mul (by omega:i<=8) B.2.2.1 B.2.1 (by decide)) (by decide)⟩;rw[show kc 3 (kC r) h2=some vL from(c.va (i:=0) rfl).whole rfl,kf,Zs.adr rfl u,kf,(Z.gr c.gr).ld u,kf,BS,kf,EN ⟨by omega,by omega⟩];refine ny (p:=p) (by omega) h2 _ (Z.gr c.gr) λE g=>have c:=c.more g;⟨(Z.gr c.gr).ld u,?_⟩;rw[oC ⟨by omega,by omega⟩,kf,oC ⟨by omega,by omega⟩,kf];exact q _ c.gr
abbrev qt (f:Nat):Value:=.func (.func f) #[] #[]
structure Ac where
 op:Int
 at':Int
 old:W3
 new:W3
def qZ (x:Ac):Value:=.agg #[.int .i64 x.op,.int .i64 x.at',.int .i64 x.old.v,.int .u32 x.old.j8,.int .u32 x.old.ref,.int .i64 x.new.v,.int .u32 x.new.j8,.int .u32 x.new.ref]
abbrev o8:Ac:=⟨0,0,W0,W0⟩
structure lA where
 w:W3
 ok:Bool
def mU (x:lA):Value:=.agg #[.int .i64 x.w.v,.int .u32 x.w.j8,.int .u32 x.w.ref,.bool x.ok]
abbrev qa:lA:=⟨W0,false⟩
def sy (i:Int):Int:=if 0<=i/\i<6 then 56+i else -1
def mR (t:Int):Int:=if 1<=t/\t<=3 then 104*t - 40 else -1
def lC (i:Int):Int:=if 0<=i/\i<4 then 384+32*i else -1
def jP (who:Int):Int:=if 9<=who then lC (who - 9) else mR who
def lu (who:Int):Int:=if jP who<0 then 0 else if 9<=who then 10 else 32
def oG (a:Int):Bool:=decide (56<=a/\a<62\/32<=a/\a<56/\a % 8<3)
def lt4 {p:Nat} {P:Nat->Prop} (h:p<4) (h0:P 0) (h1:P 1) (h2:P 2) (q:P 3):P p:=by
 match p,h with
 | 0,_=>exact h0
 | 1,_=>exact h1
 | 2,_=>exact h2
 | 3,_=>exact q
 | p+4,h=>omega
def TG (i:Int):VD 3 i 0=sy i:=by
 show(if 0<=i/\i<6 then(56:Int)+i*1+0 else -1)=_;unfold sy;rw[Int.mul_one,eI]
def Ud (t:Int):VD 4 (t - 1) 0=mR t:=by
 show(if 0<=t - 1/\t - 1<3 then(64:Int)+(t - 1)*104+0 else -1)=_;unfold mR;by_cases h:1<=t/\t<=3
 ·rw[if_pos (by omega),if_pos h];omega
 ·rw[if_neg (by omega),if_neg h]
def QN (i:Int):VD 6 i 0=lC i:=by
 show(if 0<=i/\i<4 then(384:Int)+i*32+0 else -1)=_;unfold lC;by_cases h:0<=i/\i<4
 ·rw[if_pos h,if_pos h];omega
 ·rw[if_neg h,if_neg h]
section
variable {t i:Int}
def xQ:∀{p:Nat} {i more:Int},p<7->0<=more/\more<=1000->Pz 48 [vL,.int .i64 p,.int .i64 i,.int .i64 more] (.int .i64 (VD p i more)):=λq hm h R Z k=>tK.2 (aaY Z q hm k)
def YL (Z:Zs h) (q:∀h',Gr h h'->R (.int .i64 1) h'):s4.1 vL h R:=by
 have c:=Cx.jQ h;refine c.v3 λ_ _ c=>?_;refine c.rl 0 ?_;refine xQ (p:=0) (i:=0) (more:=1) (by decide) (by decide) _ _ (Z.gr c.gr) λ_ g=>have c:=c.more g;q _ c.gr
def XF (Z:Zs h) (q:∀h',Gr h h'->R (.int .i64 (sy i)) h'):su.1 vL (.int .i64 i) h R:=by
 rw[<-TG] at q;have c:=Cx.jQ h;refine c.v3 λ_ _ c=>?_;refine c.rl 0 ?_;refine xQ (p:=3) (i:=i) (more:=0) (by decide) (by decide) _ _ (Z.gr c.gr) λ_ g=>have c:=c.more g;q _ c.gr
def WT (Z:Zs h) (u : -1000<=t/\t<=1000) (q:∀h',Gr h h'->R (.int .i64 (mR t)) h'):sr.1 vL (.int .i64 t) h R:=by
 rw[<-Ud] at q;have c:=Cx.jQ h;refine c.v3 λ_ _ c=>?_;refine c.rl 0 ?_;refine vx (nu ⟨by omega,by omega⟩)<|xQ (p:=4) (i:=t - 1) (more:=0) (by decide) (by decide) _ _ (Z.gr c.gr) λ_ g=>have c:=c.more g;q _ c.gr
def TB (Z:Zs h) (q:∀h',Gr h h'->R (.int .i64 (lC i)) h'):rF.1 vL (.int .i64 i) h R:=by
 rw[<-QN] at q;have c:=Cx.jQ h;refine c.v3 λ_ _ c=>?_;refine c.rl 0 ?_;refine xQ (p:=6) (i:=i) (more:=0) (by decide) (by decide) _ _ (Z.gr c.gr) λ_ g=>have c:=c.more g;q _ c.gr
def X7 {i:Nat} (Z:Zs h) (hi:i<4) (q:∀h',Gr h h'->R (.tuple #[.int .i64 376,.int .i64 (2 ^ i)]) h'):sK.1 vL (.int .i64 i) h R:=by
 have u:VD 5 i 0=376:=by
  show(if 0<=(i:Int)/\(i:Int)<4 then(376:Int)+i*0+0 else -1)=_;rw[if_pos (by omega)];omega
 have eq:((i:Int).tdiv 32)=0:=by match i,hi with | 0,_ | 1,_ | 2,_ | 3,_=>rfl
 have B:bin .rem (.int .i64 i) (.int .i64 32)=some (.int .i64 i):=by match i,hi with | 0,_ | 1,_ | 2,_ | 3,_=>rfl
 have es:bin .shl (.int .i64 1) (.int .i64 i)=some (.int .i64 (2 ^ i)):=by
  refine lt4 (P:=λi=>bin .shl (.int .i64 1) (.int .i64 (i:Int))=some (.int .i64 (2 ^ i))) hi ?_ ?_ ?_ ?_ <;> kernel_rfl
 have c:=Cx.jQ h;refine c.v3 λ_ _ c=>?_;refine c.rl 0 ?_;refine vx (v:=.int .i64 0) (by match i,hi with | 0,_ | 1,_ | 2,_ | 3,_=>rfl)<|xQ (p:=5) (i:=i) (more:=0) (by decide) (by decide) _ _ (Z.gr c.gr) λ_ g=>?_;have c:=c.more g;rw[u];exact vx (v:=.bool false) rfl<|j7<|vx B<|vx es<|q _ c.gr
def pE:∀{t:Int},-1000<=t/\t<=1000->Pz 52 [vL,.int .i64 t] (.int .i64 (mR t)):=λq h R Z k=>sr.2 (WT Z q k)
def rS:∀{i:Int},Pz 53 [vL,.int .i64 i] (.int .i64 (lC i)):=λh R Z k=>rF.2 (TB Z k)
def N0 {who:Int} (Z:Zs h) (hw : -1000<=who/\who<=1000) (u:∀h',Gr h h'->R (.tuple #[.int .i64 (jP who),.int .i64 (lu who)]) h'):oO.1 vL (.int .i64 who) h R:=by
 have H:jP who = -1\/0<=jP who:=by unfold jP lC mR;split <;> split <;> omega
 by_cases B:9<=who
 ·have E:lC (who - 9)=jP who:=by unfold jP;rw[if_pos B]
  by_cases q:jP who<0
  ·have em:lu who=0:=by unfold lu;rw[if_pos q]
   have G:jP who = -1:=by omega
   rw[em,G] at u;have c:=Cx.jQ h;refine c.v3 λ_ _ c=>?_;refine c.rl 0 ?_;refine pE hw _ _ (Z.gr c.gr) λ_ g=>have c:=c.more g;.here<|vx (s0 B)<|kV<|c.rl 0 ?_;refine vx (nu ⟨by omega,by omega⟩)<|rS _ _ (Z.gr c.gr) λ_ g=>?_;have c:=c.more g;rw[E];exact vx (vF q)<|kV<|u _ c.gr
  ·have em:lu who=10:=by unfold lu;rw[if_neg q,if_pos B]
   rw[em] at u;have c:=Cx.jQ h;refine c.v3 λ_ _ c=>?_;refine c.rl 0 ?_;refine pE hw _ _ (Z.gr c.gr) λ_ g=>have c:=c.more g;.here<|vx (s0 B)<|kV<|c.rl 0 ?_;refine vx (nu ⟨by omega,by omega⟩)<|rS _ _ (Z.gr c.gr) λ_ g=>?_;have c:=c.more g;rw[E];exact vx (lL q)<|j7<|u _ c.gr
 ·have E:mR who=jP who:=by unfold jP;rw[if_neg B]
  by_cases q:jP who<0
  ·have em:lu who=0:=by unfold lu;rw[if_pos q]
   have G:jP who = -1:=by omega
   rw[em,G] at u;have c:=Cx.jQ h;refine c.v3 λ_ _ c=>?_;refine c.rl 0 ?_;refine pE hw _ _ (Z.gr c.gr) λ_ g=>?_;have c:=c.more g;rw[E];exact .here<|vx (oV B)<|j7<|vx (vF q)<|kV<|u _ c.gr
  ·have em:lu who=32:=by unfold lu;rw[if_neg q,if_neg B]
   rw[em] at u;have c:=Cx.jQ h;refine c.v3 λ_ _ c=>?_;refine c.rl 0 ?_;refine pE hw _ _ (Z.gr c.gr) λ_ g=>?_;have c:=c.more g;rw[E];exact .here<|vx (oV B)<|j7<|vx (lL q)<|j7<|u _ c.gr
def YE {a:Int} (Z:Zs h) (G : -1000000<=a/\a<=1000000) (u:∀h',Gr h h'->R (.bool (oG a)) h'):sZ.1 vL (.int .i64 a) h R:=by
 by_cases E:56<=a/\a<62
 ·have em:oG a=true:=decide_eq_true (.inl E);rw[em] at u;have c:=Cx.jQ h;refine c.v3 λ_ _ c=>?_;refine c.rl 0 ?_;refine qj _ _ (Z.gr c.gr) λ_ g=>have c:=c.more g;vx (v:=.bool false) (rfl)<|j7<|c.rl 0 ?_;refine ny (p:=3) (by decide) _ _ (Z.gr c.gr) λ_ g=>?_;have c:=c.more g;rw[show pZ 3=56 from rfl];refine vx (nu ⟨by omega,by omega⟩) ?_;refine .here<|vx (s0 ((by omega)))<|kV<|jS<|c.rc 0 ?_;exact vx (vF (show a - 56<6 by omega))<|kV<|u _ c.gr
 ·by_cases B:32<=a/\a<56
  ·have em:oG a=decide (a % 8<3):=decide_eq_decide.2 ⟨λh=>h.elim (λx=>absurd x E) λx=>x.2.2,λh=>.inr ⟨B.1,B.2,h⟩⟩;rw[em] at u;have c:=Cx.jQ h;refine c.v3 λ_ _ c=>?_;refine c.rl 0 ?_;refine qj _ _ (Z.gr c.gr) λ_ g=>have c:=c.more g;vx (v:=.bool false) (rfl)<|j7<|c.rl 0 ?_;refine ny (p:=3) (by decide) _ _ (Z.gr c.gr) λ_ g=>?_;have c:=c.more g;rw[show pZ 3=56 from rfl];refine vx (nu ⟨by omega,by omega⟩) ?_;refine .here<|vx (oV ((by omega)))<|j7<|j7 ?_;refine .here<|c.rl 0 ?_;refine ny (p:=2) (by decide) _ _ (Z.gr c.gr) λ_ g=>?_;have c:=c.more g;rw[show pZ 2=32 from rfl];refine vx (s0 B.1)<|kV<|c.rl 0 ?_;refine ny (p:=3) (by decide) _ _ (Z.gr c.gr) λ_ g=>?_;have c:=c.more g;rw[show pZ 3=56 from rfl];exact vx (vF B.2)<|kV<|vx (Ah (by omega) (by decide))<|vx (j9 ..)<|u _ c.gr
  ·have em:oG a=false:=decide_eq_false λh=>h.elim E λx=>B ⟨x.1,x.2.1⟩;rw[em] at u;have c:=Cx.jQ h;refine c.v3 λ_ _ c=>?_;refine c.rl 0 ?_;refine qj _ _ (Z.gr c.gr) λ_ g=>have c:=c.more g;vx (v:=.bool false) (rfl)<|j7<|c.rl 0 ?_;refine ny (p:=3) (by decide) _ _ (Z.gr c.gr) λ_ g=>?_;have c:=c.more g;rw[show pZ 3=56 from rfl];refine vx (nu ⟨by omega,by omega⟩) ?_;refine .here<|vx qf<|lV (λq=>?_) λq=>?_
   ·refine jS<|c.rc 0 ?_;refine vx (lL (show ¬a - 56<6 by omega))<|j7 ?_;refine .here<|c.rl 0 ?_;refine ny (p:=2) (by decide) _ _ (Z.gr c.gr) λ_ g=>?_;have c:=c.more g;rw[show pZ 2=32 from rfl];refine vx qf<|lV (λq2=>?_) λq2=>?_
    ·refine c.rl 0 ?_;refine ny (p:=3) (by decide) _ _ (Z.gr c.gr) λ_ g=>?_;have c:=c.more g;rw[show pZ 3=56 from rfl];exact vx (lL ((by omega)))<|j7<|u _ c.gr
    ·exact u _ c.gr
   ·refine j7 ?_;refine .here<|c.rl 0 ?_;refine ny (p:=2) (by decide) _ _ (Z.gr c.gr) λ_ g=>?_;have c:=c.more g;rw[show pZ 2=32 from rfl];refine vx qf<|lV (λq2=>?_) λq2=>?_
    ·refine c.rl 0 ?_;refine ny (p:=3) (by decide) _ _ (Z.gr c.gr) λ_ g=>?_;have c:=c.more g;rw[show pZ 3=56 from rfl];exact vx (lL ((by omega)))<|j7<|u _ c.gr
    ·exact u _ c.gr
end
def mI (x:Int):Value:=.int .i64 x
def EM:pT (Option Nat):={n:=1,c:=λa=>[.map a],len:=λ_=>rfl,one:=λa v h=>by simp only[aN] at h; subst h; rfl}
def vV (a:Option Nat):Value:=.agg #[.map a]
def Mo (h:Hp) (a:Option Nat) (ps:List (Int × Int)):Prop:=(a=none/\ps=[])\/Mp .i64 mI h (.map a) ps
def Mo.gr {a:Option Nat} {ps:List (Int × Int)} (H:Mo h a ps) (g:Gr h h'):Mo h' a ps:=H.imp id λm=>m.gr g
def at' (ps:List (Int × Int)) (l:Int):Int:=(kD ps l).getD 0
def MJ (ps:List (Int × Int)) (k x l:Int):at' (qY ps k x) l=if l=k then x else at' ps l:=by
 unfold at';rw[xk];split <;> rfl
def Ge (ps:List (Int × Int)) (f:Int->Int):Prop:=∀l,0<=at' ps l/\f l<=at' ps l
def VO (B:Bs) (a:Option Nat) (f:Int->Int):Prop:=∃ps,(On B λh=>Mo h a ps)/\Ge ps f
def VO.le {a:Option Nat} {f:Int->Int} (H:VO B a f) (l:B.le B'):VO B' a f:=let⟨ps,m,g⟩:=H; ⟨ps,m.le l,g⟩
def Mo.look {a:Option Nat} {ps:List (Int × Int)} (H:Mo h a ps) (k:Int):Pa (.int .i64) (.int .i64 0) false (.map a) (.int .i64 k) h=some (.int .i64 (at' ps k)):=by
 rcases H with ⟨rfl,rfl⟩| m
 ·rfl
 ·rw[m.look];unfold at';cases kD ps k with
  | none=>rfl
  | some x=>rfl
def nm (f:Int->Int) (l n:Int):Int->Int:=λk=>if k=l then max n (f k) else f k
def Ep (f g:Int->Int):Int->Int:=λk=>max (f k) (g k)
section
variable {a b:Option Nat} {ps qs:List (Int × Int)} {l n:Int} {f g:Int->Int}
def JL (m:Mp .i64 mI h (.map a) ps) (u:∀k h',Cx (λ_=>False) h h' [Gk .i64 mI (.map (some k)) ps]->R (.map (some k)) h'):S.C 156 [(.map a)] h R:=by
 refine mz.2 ?_;obtain⟨r,es,clock,e,E,he⟩:=m;injection e with e;subst e;refine En.vb (v:=.bool false) rfl ?_;rw[p8,kf];refine En.eb (v:=.iface 176 (.map (some h.size))) (h':=h.push (.map es clock)) (by simp only[SA,E]) ?_;refine En.vb (v:=.map (some h.size)) (by simp[FV]) ?_;refine u _ _ ((Cx.jQ h).add (F':=λq=>q=h.size) ⟨⟨h.size,es,clock,rfl,by simp,he⟩,λq=>by simp[A9,eq_comm]⟩ (Ch.push _ _) λr e=>by omega)
def OV (q:R (.map none) h):S.C 156 [(.map none)] h R:=by
 refine mz.2<|En.vb (v:=.bool true) rfl ?_;rw[IM];exact q
def pM (u:B.p h) (H:VO B a f) (E:∀h' n,0<=n->f l<=n->Gr h h'->R (.int .i64 n) h'):S.C 152 [(vV a),(.int .i64 l)] h R:=by
 refine EU.2 ?_;obtain⟨ps,G,q⟩:=H;have H:=G h u;have c:=Cx.jQ h;refine c.v1 λ_ _ c=>?_;refine jS<|c.rc 0 ?_;exact vx ((H.gr c.gr).look l)<|E _ _ (q l).1 (q l).2 c.gr
def tV (J:B.p h) (H:VO B a f) (h0:0<=l/\l<4096) (K:0<=n) (u:∀b,Rt B h (λB=>VO B b (nm f l n)) λh'=>R (vV b) h'):S.C 146 [(vV a),(.int .i64 l),(.int .i64 n)] h R:=by
 refine Cr.2 ?_;obtain⟨ps,Ho,E⟩:=H;have G:=Ho h J;by_cases hle:n<=at' ps l
 ·have c:=Cx.jQ h;refine c.v1 λ_ _ c=>c.v1 λ_ _ c=>?_;refine .here<|vx (lL (by omega))<|j7<|vx (oV (by omega))<|j7<|jS<|c.rc 0 ?_;refine vx ((G.gr c.gr).look l)<|vx (G7 hle)<|kV<|c.rl 0 ?_;refine c.w1 1 λ_ c=>?_;refine c.rl 1 ?_;refine(u a).nil ?_ c.gr;refine⟨ps,Ho.le (Bs.jX _ _),λx=>?_⟩;have q:=E x;unfold nm;split
  ·rename_i e;subst e;omega
  ·exact q
 ·have fin:∀k h',Cx (λ_=>False) h h' [Gk .i64 mI (.map (some k)) (qY ps l n)]->R (vV (some k)) h':=λk h' c=>by
   refine u (some k) [Gk .i64 mI (.map (some k)) (qY ps l n)] _ (Cx.pack (L:=[]) c) ⟨_,(On.mp (i:=0) rfl).imp λ_ m=>.inr m,λx=>?_⟩;rw[MJ];have q:=E x;unfold nm;split
   ·rename_i e;subst e;omega
   ·exact q
  rcases G with ⟨rfl,rfl⟩| m
  ·have c:=Cx.jQ h;refine c.v1 λ_ _ c=>c.v1 λ_ _ c=>?_;refine .here<|vx (lL (by omega))<|j7<|vx (oV (by omega))<|j7<|jS<|c.rc 0 ?_;refine vx (v:=.int .i64 0) rfl<|vx (RP hle)<|j7<|jS<|c.rc 0 ?_;refine OV ?_;refine .here<|vx (v:=.bool true) (rfl)<|kV<|c.MB .i64 mI λk _ c=>have c:=c.n3;c.B9 2 rfl l n rfl λ_ c=>have c:=c.n3;vx (jU (ds:=[_]) rfl)<|c.w1 1 λ_ c=>?_;refine c.rl 1 ?_;exact fin k _ (c.pick [2])
  ·have c:=Cx.jQ h;refine c.v1 λ_ _ c=>c.v1 λ_ _ c=>?_;refine .here<|vx (lL (by omega))<|j7<|vx (oV (by omega))<|j7<|jS<|c.rc 0 ?_;refine vx (Mo.look (.inr (m.gr c.gr)) l)<|vx (RP hle)<|j7<|jS<|c.rc 0 ?_;refine JL (m.gr c.gr) λk _ d=>have c:=c.jT d;have c:=c.n3;.here<|vx (v:=.bool false) (rfl)<|j7<|c.B9 2 rfl l n rfl λ_ c=>have c:=c.n3;vx (jU (ds:=[_]) rfl)<|c.w1 1 λ_ c=>?_;refine c.rl 1 ?_;exact fin k _ (c.pick [2])
def Mp.ln {v:Value} (m:Mp .i64 mI h v ps):Re v h=some (.int .i64 ps.length):=by
 obtain⟨r,es,clock,rfl,q,he⟩:=m;have:=congrArg List.length he.Tv;simp only[bE,eL] at this;simp only[Re,q];rw[this]
def at_mem {l:Int}:at' ps l=0\/∃(i:Nat) (p:Int × Int),i<ps.length/\ps[i]?=some p/\p.1=l/\p.2=at' ps l:=by
 unfold at';cases e:kD ps l with
 | none=>exact .inl rfl
 | some x=>
  unfold kD at e;cases q:ps.find? λp=>p.1 == l with
  | none=>rw[q] at e;cases e
  | some p=>
   rw[q] at e;simp only[cB,aD] at e;obtain⟨i,hi,rfl⟩:=bK.1 (dK q);have h1:=eY q;exact .inr ⟨i,_,hi,aB hi,by simpa using h1,by simpa using e⟩
def Xj (b0:B.p h) (H:VO B a f) (H2:VO B b g) (hR:∀d,Rt B h (λB=>VO B d (Ep f g)) λh'=>R (vV d) h'):S.C 158 [(vV a),(vV b)] h R:=by
 refine Jv.2 ?_;obtain⟨qs,Ho,hq⟩:=H;obtain⟨ps,iN,hp⟩:=H2;have Hm:=Ho h b0;have U:=iN h b0;have same:ps.length=0->∀h',Gr h h'->R (vV a) h':=λe h' g=>(hR a).nil ⟨qs,Ho.le (Bs.jX _ _),λx=>by
  have h1:=hq x;have h2:=hp x;rw[cF] at e;subst e;have:at' [] x=0:=rfl;unfold Ep;omega⟩ g
 by_cases hz:ps.length=0
 ·have e:Re (.map b) h=some (.int .i64 ps.length):=by
   rcases U with ⟨rfl,rfl⟩| m
   ·rfl
   ·exact m.ln
  have e:∀h',Gr h h'->Re (.map b) h'=some (.int .i64 ps.length):=λh' gr=>by
   rcases U with ⟨rfl,rfl⟩| m
   ·rfl
   ·exact(m.gr gr).ln
  have c:=Cx.jQ h;refine c.v1 λ_ _ c=>c.v1 λ_ _ c=>c.v1 λ_ _ c=>?_;refine jS<|c.rc 1 ?_;refine vx (e _ c.gr)<|vx (pN (by omega))<|kV<|c.rl 0 ?_;refine c.w1 2 λ_ c=>?_;refine c.rl 2 ?_;exact same hz _ c.gr
 rcases U with ⟨rfl,rfl⟩| m
 ·exact absurd rfl hz
 have c:=Cx.jQ h;refine c.v1 λV _ c=>c.v1 λX _ c=>c.v1 λu _ c=>?_;refine jS<|c.rc 1 ?_;refine vx (m.gr c.gr).ln<|vx (m6 (by omega))<|j7<|jS<|c.rc 1 ?_;refine JL (m.gr c.gr) λk h4 d=>have c:=c.jT d;have c:=c.n4;jS<|c.rc 0 ?_;have fin:∀E h8,Cx (λ_=>False) h h8 [rV V [.map a],rV X [.map b],rV u [.map none],Gk .i64 mI (.map (some k)) E]->(∀l,at' qs l<=at' E l/\at' ps l<=at' E l)->Vb (nF [(0,1)] #[Value.map none] [(0,.map (some k))]) λiS=>Sb (kq 1 (kC u) iS h8) λaS=>Vb (kc 1 (kC u) aS) λr0=>R r0 aS:=λE h8 c hz=>by
  refine vx (jU (ds:=[_]) rfl)<|c.vw 2 rfl (vs:=[_]) (by exact rfl) (by exact rfl) (by exact rfl) (by exact rfl) λ_ c=>?_;refine vx (c.vl (i:=2) rfl rfl)<|hR (some k) [Gk .i64 mI (.map (some k)) E] _ (Cx.pack (L:=[]) (c.pick [3])) ⟨E,(On.mp (i:=0) rfl).imp λ_ m=>.inr m,λx=>?_⟩;have h1:=hq x;have h2:=hp x;have h3:=hz x;unfold Ep;omega
 rcases Hm with ⟨rfl,rfl⟩| m2
 ·refine En.eb (v:=kC _) (h':=_) (by exact rfl) ?_;have c:=c.more (Ch.push _ (.mapIter none 0 #[] 0));refine KW.by (λ(_:Unit) h'=>h'=_) (λ_=>0) () rfl ?_;rintro _ h5 rfl again _;refine⟨_,rfl,.inl ⟨0,#[],0,by simp,?_⟩⟩;exact vx (v:=.bool false) rfl<|j7<|fin _ _ c λl=>⟨(hp l).1,bA _⟩
 ·obtain⟨mb,es,clock,e,hh,he⟩:=m2;injection e with e;subst e;have K:∀{h5:Hp} {L:List km},Cx (λ_=>False) h h5 L->h5[mb]?=some (.map es clock):=λc=>by
   rw[c.gr.same mb (aZ.mp hh).1 λe=>e];exact hh
  refine En.eb (v:=kC _) (h':=_) (by simp only[Tg,yj,K c]; rfl) ?_;have hs4:=c.gr.size;have c:=c.DV (.mapIter (some mb) clock #[] clock);obtain⟨r,hr⟩:∃r,r=h4.size:=⟨_,rfl⟩;have aT:r≠mb:=λe=>by
   have h9:=(aZ.mp hh).1;omega
  rw[<-hr] at c⊢;obtain⟨G,hO⟩:∃G:List Nat->Obj,G=λD=>.mapIter (some mb) clock (D.map λi=>((es.toList[i]?).map (·.born)).getD 0).toArray clock:=⟨_,rfl⟩;refine KW.by (λ(z:List Nat × List (Int × Int)) h'=>Cx (λ_=>False) h h' [rV V [.map (some mb)],rV X [.map b],rV u [.map none],Gk .i64 mI (.map (some k)) z.2,ub r (G z.1)]/\z.1.Nodup/\(∀i∈z.1,i<qs.length)/\(∀l,at' ps l<=at' z.2 l)/\∀i∈z.1,∀p,qs[i]?=some p->p.2<=at' z.2 p.1) (λz=>qs.length - z.1.length) ([],ps) ⟨by rw[hO]; exact c,gN,(λi hi=>by cases hi),(λl=>bA _),λi hi=>by cases hi⟩ ?_;clear c hr;rintro⟨D,E⟩ h6 ⟨c,oF,oR,Z,bY⟩ again M;dsimp only at *;have T:=c.obj (i:=4) rfl;rw[hO] at T;have it:It .i64 mI h6 r mb qs D:=⟨⟨es,clock,K c,he,T⟩,oF,oR,aT⟩;refine it.next (λdO=>?_) λj p h7 rW hjD O ch eQ=>?_
  ·refine vx (v:=.bool false) rfl<|j7<|fin _ _ (c.pick [0,1,2,3]) λl=>⟨?_,Z l⟩;rcases at_mem (ps:=qs) (l:=l) with e | ⟨i,p,hi,tO,rfl,e⟩
   ·have h1:=Z l;have h2:=(hp l).1;omega
   ·have:=bY i (dO i hi) p tO;omega
  ·obtain⟨es2,iF,e1,e2,e3⟩:=O.ex;have c:Cx (λ_=>False) h h7 [rV V [.map (some mb)],rV X [.map b],rV u [.map none],Gk .i64 mI (.map (some k)) E,ub r (G (D++[j]))]:=by
    obtain⟨F,⟨o,hf⟩,up⟩:=c.Ob (i:=4) rfl;have Q:h7[mb]?=some (.map es clock):=by
     rw[ch.same mb (aZ.mp (K c)).1 λe=>aT e.symm];exact K c
    rw[e1] at Q;injection Q with Q;injection Q with q1 q2;subst q1;subst q2;exact up (B:=ub r (G (D++[j]))) (F':=F) ⟨by rw[hO]; exact e3,hf⟩ (qV (ch.mono λq _ e=>(hf q).2 e))
   refine vx (v:=.bool true) rfl<|kV<|vx eQ<|En.vb (v:=.int .i64 p.1) rfl (En.vb (v:=mI p.2) rfl ?_);refine vx (Mo.look (.inr (c.mp (i:=3) rfl)) p.1) ?_;obtain⟨y,ey,hy1,uS⟩:∃y:Int,mx (.int .i64 (at' E p.1)) (mI p.2)=some (.int .i64 y)/\at' E p.1<=y/\p.2<=y:=by
    refine⟨_,rfl,?_,?_⟩ <;> split <;> omega
   refine vx ey<|c.B9 3 rfl p.1 y rfl λh8 c=>?_;have hDl:(D++[j]).length<=qs.length:=O.len;refine M (D++[j],qY E p.1 y) _ ⟨c,O.nodup,O.lt,(λl=>?_),λi hi p' J=>?_⟩ (by dsimp only; rw[aF,aE] at *; omega)
   ·have h1:=Z l;rw[MJ];split
    ·rename_i e;subst e;omega
    ·exact h1
   ·rw[MJ];rcases bB.1 hi with hi | hi
    ·have h1:=bY i hi p' J;split
     ·rename_i e;rw[e] at h1;omega
     ·exact h1
    ·rw[aN] at hi;subst hi;rw[rW] at J;injection J with J;subst J;rw[if_pos rfl];exact uS
end
abbrev SH:Type:=Option Addr × Nat × Nat
abbrev jY (u:SH):Value:=.slice u.1 u.2.1 u.2.2
def Ow.tW {α:Type} {E:pT α} {v:Value} {xs:List α} (H:Ow E h v xs):∃u:SH,v=jY u:=by
 rcases H with ⟨rfl,_⟩| ⟨r,o,cap,rfl,_⟩
 ·exact⟨(none,0,0),rfl⟩
 ·exact⟨(some ⟨r,o,none⟩,xs.length,cap),rfl⟩
structure Jl where
 w:W3
 t:Int
 a:Option Nat
def Cf:pT Jl:={n:=5,c:=λm=>[.int .i64 m.w.v,.int .u32 m.w.j8,.int .u32 m.w.ref,.int .i64 m.t,.map m.a],len:=λ_=>rfl,one:=λa v h=>by simp only[aU,bF,or_false] at h; rcases h with rfl | rfl | rfl | rfl | rfl <;> rfl}
def Wv (m:Jl):Value:=.agg ⟨Cf.c m⟩
abbrev M0:Jl:=⟨W0,0,none⟩
def EH1:pT SH:={n:=1,c:=λa=>[jY a],len:=λ_=>rfl,one:=λa v h=>by simp only[aN] at h; subst h; rfl}
def vH (u:SH):Value:=.agg ⟨EH1.c u⟩
section
variable {u:SH} {ms:List Jl} {m l:Jl}
def aa2 (u:SH):nF [(0,1)] #[Value.slice none 0 0] [(0,jY u)]=some (vH u):=by kernel_rfl
def yp (H:Sl Cf h (jY u) ms) (q:∀h',Gr h h'->R (.int .i64 ms.length) h'):S.C 147 [(vH u)] h R:=by
 refine xJ.2<|(Cx.jQ h).nw EH1 u rfl λB h1 c=>(c.va (i:=0) rfl).sN (j:=0) rfl ?_;rw[(H.gr c.gr).ln,kf];exact q _ c.gr
def Sd {i:Nat} (H:Sl Cf h (jY u) ms) (hm:ms[i]?=some m) (q:∀h',Gr h h'->R (.tuple #[Wv m,.bool true]) h'):S.C 113 [(vH u),(.int .i64 i)] h R:=by
 refine yN.2 ?_;have B:=(aC.1 hm).1;refine(Cx.jQ h).nw EH1 u rfl λJ h1 c=>c.nw Cf M0 rfl λE h2 c=>sV.at (λv h'=>v=.bool false/\h'=h2) ?_ ?_
 ·rw[j9,kf];refine lV (λe=>by omega) λ_=>(c.va (i:=0) rfl).sN (j:=0) rfl ?_;rw[(H.gr c.gr).ln,kf,qf,kf];exact⟨by rw[decide_eq_false]; omega,rfl⟩
 rintro v K ⟨rfl,rfl⟩;rw[p8];refine(c.va (i:=0) rfl).sN (j:=0) rfl ?_;refine(H.gr c.gr).whole rfl hm rfl ?_;refine c.kq 1 rfl m rfl rfl λG c=>?_;rw[show kc 5 (kC E) G=some (Wv m) from(c.va (i:=1) rfl).whole rfl,kf];exact q _ c.gr
def T9 (H:Sl Cf h (jY u) (ms++[l])) (M:ms.length<=1000000) (q:∀h',Gr h h'->R (Wv l) h'):S.C 79 [(vH u)] h R:=by
 refine wU.2<|(Cx.jQ h).nw EH1 u rfl λB h1 c=>c.nw Cf M0 rfl λE h2 c=>?_;rw[show kc 1 (kC B) h2=some (vH u) from(c.va (i:=0) rfl).whole rfl,kf];refine(c.va (i:=0) rfl).sN (j:=0) rfl ?_;rw[(H.gr c.gr).ln,kf,aF,aE,nu ⟨by omega,by omega⟩,kf];rw[show((ms.length+1:Nat):Int) - 1=(ms.length:Nat) by omega];refine Sd (H.gr c.gr) (i:=ms.length) (m:=l) (by simp) λO g=>have c:=c.more g;Y9 (YC ?_);refine c.nw Cf M0 rfl λG Q c=>c.kq 2 rfl l rfl rfl λJ c=>?_;rw[show kc 5 (kC G) J=some (Wv l) from(c.va (i:=2) rfl).whole rfl,kf];refine c.kq 1 rfl l rfl rfl λK c=>?_;rw[show kc 5 (kC E) K=some (Wv l) from(c.va (i:=1) rfl).whole rfl,kf];exact q _ c.gr
def RY (H:Sl Cf h (jY u) ms) (T:ms.length<=1000000) (O:∀B h',Cx (λ_=>False) h h' [kz Cf (jY B) (ms++[m])]->R (vH B) h'):S.C 148 [(vH u),(Wv m)] h R:=by
 refine xB.2<|(Cx.jQ h).nw EH1 u rfl λE h1 c=>c.nw Cf m rfl λJ h2 c=>c.nw EH1 (none,0,0) rfl λG K c=>.here ?_;rw[show fa 0 (kC E)=some (.pointer (some ⟨E,0+0,none⟩)) from oi _ _ _,kf,show mH (.pointer (some ⟨E,0+0,none⟩)) K=some (jY u) from(c.va (i:=0) rfl).row.mH (j:=0) rfl,kf,show kc 5 (kC J) K=some (Wv m) from(c.va (i:=1) rfl).whole rfl,kf];obtain⟨a,e,Hc⟩:=H.clip (n:=5) (k:=.i64) (k':=.i64) rfl rfl (aP _);rw[dD] at e Hc;have fin:∀(v9:Value) q,Cx (λ_=>False) h q [Fm EH1 E u,Fm Cf J m,Fm EH1 G (none,0,0),kz Cf v9 [m]]->Ap 180 #[Value.int IntKind.i64 0,Value.int IntKind.u32 0,Value.int IntKind.u32 0,Value.int IntKind.i64 0,Value.map none] 5 32 (.slice a ms.length ms.length) v9 q λv10 M=>
  Vb (nF [(0,1)] #[Value.slice none 0 0] [(0,v10)]) λv11=>
  Sb (kq 1 (kC G) v11 M) λh8=>Vb (kc 1 (kC G) h8) λQ=>R Q h8:=λv9 q c=>by
  refine c.S9 (Hc.gr c.gr) (c.sl (i:=3) rfl).sl (by simp) rfl rfl (by rw[aE]; omega) (by rw[aE]; omega) λv10 M c=>?_;obtain⟨B,rfl⟩:=(c.sl (i:=4) rfl).tW;rw[aa2,kf];refine c.kq 2 rfl B rfl rfl λh8 c=>?_;rw[show kc 1 (kC G) h8=some (vH B) from(c.va (i:=2) rfl).whole rfl,kf];exact O B _ (c.pick [4])
 refine aQ ?_ ?_
 ·refine kE.2 ?_;dsimp only[kE,oH];rw[(H.gr c.gr).ln,kf,kf,e,kf];refine⟨(c.va (i:=1) rfl).whole rfl,?_⟩;refine c.lW Cf m rfl rfl λv9 q c=>fin v9 q c
 ·refine c.lW Cf m rfl rfl λv9 q c=>⟨(c.va (i:=0) rfl).row.mH (j:=0) rfl,?_⟩;refine kE.2 ?_;dsimp only[kE,oH];rw[(H.gr c.gr).ln,kf,kf,e,kf];exact fin v9 q c
end
def De (x:SH × SH):Value:=.agg #[jY x.1,jY x.2]
structure AM where
 w:W3
 f:Int->Int
structure Me where
 hs:List (List AM)
 vs:List (Int->Int)
def Me.view (m:Me) (t:Nat):Int->Int:=m.vs.getD (t - 1) λ_=>0
def Me.at (m:Me) (i:Nat):List AM:=m.hs.getD i []
def Me.qy (m:Me) (t i n:Nat) (x:AM) (j:Bool):Me:={m with vs:=m.vs.set (t - 1) (if j then Ep (nm (m.view t) i n) x.f else nm (m.view t) i n)}
def Me.add (m:Me) (t i:Nat) (w:W3) (whole:Bool):Me:=
 {hs:=m.hs.set i (m.at i++[⟨w,if whole then nm (m.view t) i (m.at i).length else nm (λ_=>0) i (m.at i).length⟩]),
  vs:=m.vs.set (t - 1) (nm (m.view t) i (m.at i).length)}
def Al (B:Bs) (ms:List Jl) (lx:List AM):Prop:=ms.length=lx.length/\∀(i:Nat) (m:Jl) (a:AM),ms[i]?=some m->lx[i]?=some a->m.w=a.w/\VO B m.a a.f
def HO (B:Bs) (u:SH) (lx:List AM):Prop:=∃ms,(On B λh=>Sl Cf h (jY u) ms)/\Al B ms lx
structure MO (B:Bs) (x:SH × SH) (m:Me):Prop where
 vs:∃us:List (Option Nat),(On B λh=>Sl EM h (jY x.2) us)/\us.length=m.vs.length/\∀(i:Nat) (a:Option Nat) (f:Int->Int),us[i]?=some a->m.vs[i]?=some f->VO B a f
 hs:∃us:List SH,(On B λh=>Sl EH1 h (jY x.1) us)/\us.length=m.hs.length/\∀(i:Nat) (u:SH) (lx:List AM),us[i]?=some u->m.hs[i]?=some lx->HO B u lx
structure Mk (T n b:Nat) (m:Me):Prop where
 vs:m.vs.length=T
 hs:m.hs.length=n
 le:T<=8/\n<=4096
 len:∀lx∈m.hs,1<=lx.length/\lx.length<=b
def Al.le {ms:List Jl} {lx:List AM} (H:Al B ms lx) (l:B.le B'):Al B' ms lx:=⟨H.1,λi m a h1 h2=>⟨(H.2 i m a h1 h2).1,(H.2 i m a h1 h2).2.le l⟩⟩
def HO.le {u:SH} {lx:List AM} (H:HO B u lx) (l:B.le B'):HO B' u lx:=let⟨ms,a,b⟩:=H; ⟨ms,a.le l,b.le l⟩
def MO.le {x:SH × SH} {m:Me} (H:MO B x m) (l:B.le B'):MO B' x m:=by
 obtain⟨⟨us,a,b,c⟩,⟨vs,d,e,f⟩⟩:=H;exact⟨⟨us,a.le l,b,λi y g h1 h2=>(c i y g h1 h2).le l⟩,⟨vs,d.le l,e,λi u lx h1 h2=>(f i u lx h1 h2).le l⟩⟩
def VO.zero (B:Bs):VO B none λ_=>0:=⟨[],λ_ _=>.inl ⟨rfl,rfl⟩,λ_=>⟨bA _,bA _⟩⟩
section
variable {T n b t i:Nat} {x:SH × SH} {m:Me} {w:W3}
def MO.ln (H:MO B x m) (q:B.p h):Ej (jY x.2)=some (.int .i64 m.vs.length)/\Ej (jY x.1)=some (.int .i64 m.hs.length):=by
 obtain⟨us,a,e,_⟩:=H.vs;obtain⟨vs,d,u,_⟩:=H.hs;rw[<-e,<-u];exact⟨(a h q).ln,(d h q).ln⟩
def JP (q:B.p h) (H:MO B x m) (k:Mk T n b m) (E:1<=t/\t<=T) (u:∀h',Gr h h'->R (.bool true) h'):S.C 150 [(De x),(.int .i64 t)] h R:=by
 refine xl.2 ?_;have G:=k.vs;have c:=Cx.jQ h;refine c.v2 λ_ _ c=>?_;refine .here<|vx (s0 (by omega))<|kV<|jS<|c.rc 0 ?_;exact vx (H.ln q).1<|vx (G7 (by omega))<|u _ c.gr
def NT (q:B.p h) (H:MO B x m) (k:Mk T n b m) (hi:i<n) (u:∀h',Gr h h'->R (.bool true) h'):S.C 112 [(De x),(.int .i64 i)] h R:=by
 refine xD.2 ?_;have E:=k.hs;have c:=Cx.jQ h;refine c.v2 λ_ _ c=>?_;refine .here<|vx (s0 (by omega))<|kV<|jS<|c.rc 0 ?_;exact vx (H.ln q).2<|vx (vF (by omega))<|u _ c.gr
def Tq (q:B.p h) (H:MO B x m) (k:Mk T n b m) (u:∀h',Gr h h'->R (.tuple #[.int .i64 T,.int .i64 n]) h'):S.C 77 [(De x)] h R:=by
 refine ym.2 ?_;obtain⟨E,G,_,_⟩:=k;subst E G;have c:=Cx.jQ h;refine c.v2 λ_ _ c=>?_;refine jS<|c.rc 0 ?_;refine vx (H.ln q).1<|jS<|c.rc 0 ?_;exact vx (H.ln q).2<|u _ c.gr
def HQ (q:B.p h) (H:MO B x m) (k:Mk T n b m) (u:1<=t/\t<=T) (hi:i<n) (E:∀h',Gr h h'->R (.int .i64 0) h'):S.C 135 [(De x),(.int .i64 t),(.int .i64 i)] h R:=by
 refine xI.2<|have c:=Cx.jQ h;c.v2 λ_ _ c=>?_;refine c.rl 0 ?_;refine JP (B.up q c.gr) H k u λ_ g=>have c:=c.more g;vx (v:=.bool false) (rfl)<|j7<|c.rl 0 ?_;refine NT (B.up q c.gr) H k hi λ_ g=>have c:=c.more g;vx (v:=.bool false) (rfl)<|j7<|E _ c.gr
def pP (E:B.p h) (H:MO B x m) (k:Mk T n b m) (G:1<=t/\t<=T) (J:∀a,VO B a (m.view t)->∀h',Gr h h'->R (vV a) h'):S.C 145 [(De x),(.int .i64 t)] h R:=by
 refine yP.2 ?_;obtain⟨us,h1,h2,K⟩:=H.vs;have O:=k.vs;have q:t - 1<us.length:=by omega
 have u:=aB q;have M:m.vs[t - 1]?=some (m.view t):=by
  unfold Me.view;rw[aI,aB (by omega)];rfl
 have Va:=K _ _ _ u M;generalize us[t - 1]=a at u Va;have hle:=k.le;have c:=Cx.jQ h;refine c.v2 λ_ _ c=>c.v1 λ_ _ c=>?_;refine c.rl 0 ?_;refine JP (B.up E c.gr) H k G λ_ g=>have c:=c.more g;vx (v:=.bool false) (rfl)<|j7<|jS<|c.rc 0 ?_;refine vx (nu ⟨by omega,by omega⟩)<|(h1 _ (B.up E c.gr)).whole rfl u (by omega) ?_;refine c.w1 1 λ_ c=>?_;refine c.rl 1 ?_;exact J a Va _ c.gr
def IG {us:List (Option Nat)} (h1:Sl EM h (jY x.2) us) (G:us.length<=8) (H:1<=t/\t<=us.length) {a:Option Nat} (E:∀u h',Cx (λ_=>False) h h' [kz EM (jY u) (us.set (t - 1) a)]->R (De (x.1,u)) h'):S.C 149 [(De x),(.int .i64 t),(vV a)] h R:=by
 refine yJ.2<|have c:=Cx.jQ h;c.v2 λ_ _ c=>?_;refine c.v1 λ_ _ c=>c.v2 λ_ _ c=>?_;refine jS<|c.rc 0 ?_;refine vx (h1.gr c.gr).ln<|c.Fl EM none rfl rfl rfl (by omega) (by decide) λq _ c=>?_;obtain⟨u,hu⟩:∃u:SH,jY u=.slice (some q) us.length us.length:=⟨(some q,us.length,us.length),rfl⟩;rw[<-hu] at c⊢;replace c:=c.n4;refine jS<|c.rc 0 ?_;refine c.Ib 3 rfl (h1.gr c.gr) (by rw[bR]) rfl λ_ c=>have c:=c.n4;vx (nu ⟨by omega,by omega⟩)<|c.rl 1 ?_;refine c.Bp 3 rfl (j:=t - 1) (by omega) a rfl (by omega) rfl λ_ c=>have c:=c.n4;jS<|c.q2 0 λ_ c=>?_;refine c.rl 0 ?_;refine c.w2 2 λ_ c=>?_;refine c.rl 2 ?_;exact E u _ (c.pick [3])
def ol {ms:List Jl} {u:SH} {v0 v2:Value} (H:Sl Cf h (jY u) ms) (E:ms.length<=2000000) (q:∀h',Gr h h'->R (.int .i64 ((ms.length:Int) - 1)) h'):S.C 139 [v0,(vH u),v2] h R:=by
 refine xS.2<|have c:=Cx.jQ h;c.v1 λ_ _ c=>?_;refine c.rl 0 ?_;refine yp (H.gr c.gr) λ_ g=>have c:=c.more g;vx (nu ⟨by omega,by omega⟩)<|q _ c.gr
def MO.wth (H:MO B x m) {us:List (Option Nat)} (h1:On B λh=>Sl EM h (jY x.2) us) (h2:us.length=m.vs.length) (G:∀(i:Nat) (a:Option Nat) (f:Int->Int),us[i]?=some a->m.vs[i]?=some f->VO B a f)
  {a:Option Nat} {f:Int->Int} (Va:VO B a f) (K:t - 1<us.length) {M:List km} {u:SH} {j:Nat} (J:M[j]?=some (kz EM (jY u) (us.set (t - 1) a))):MO (B.and M) (x.1,u) {m with vs:=m.vs.set (t - 1) f}:=by
 refine⟨⟨us.set (t - 1) a,On.sl J,by rw[aV,aV,h2],λi y g E q=>?_⟩,(H.le (Bs.jX _ _)).hs⟩;rw[bH] at E;by_cases e:t - 1=i
 ·rw[if_pos e] at E;have q:(m.vs.set (t - 1) f)[i]?=some g:=q;rw[bH,if_pos e,if_pos (by omega)] at q;rw[if_pos (by omega)] at E;injection E with E;injection q with q;subst E q;exact Va.le (Bs.jX _ _)
 ·rw[if_neg e] at E;have q:(m.vs.set (t - 1) f)[i]?=some g:=q;rw[bH,if_neg e] at q;exact(G i y g E q).le (Bs.jX _ _)
def kl (E:B.p h) (H:MO B x m) (k:Mk T n b m) (U:1<=t/\t<=T) (hi:i<n) {q:Nat} {am:AM} (hq:(m.at i)[q]?=some am) {jn:Bool}
  (hR:∀x',Rt B h (λB=>MO B x' (m.qy t i q am jn)) λh'=>R (.tuple #[De x',mW am.w]) h'):S.C 151 [(De x),(.int .i64 t),(.int .i64 i),(.int .i64 q),(.bool jn)] h R:=by
 refine xA.2 ?_;obtain⟨us,h1,h2,h3⟩:=H.hs;obtain⟨vs,v1,v2,v3⟩:=id H.vs;have hn:=k.hs;have hT:=k.vs;have hle:=k.le;have hu:=aB (l:=us) (i:=i) (by omega);have hm:m.hs[i]?=some (m.at i):=by
  unfold Me.at;rw[aI,aB (by omega)];rfl
 obtain⟨ms,hs,V⟩:=h3 _ _ _ hu hm;generalize us[i]=u at hu hs;have Q:=(aC.1 hq).1;have G:=aB (l:=ms) (i:=q) (by rw[V.1]; exact Q);obtain⟨hw,X⟩:=V.2 _ _ _ G hq;generalize ms[q]'(by rw[V.1]; exact Q)=l at G hw X;obtain⟨aw,af⟩:=am;dsimp only at hw X;subst hw;cases jn with
 | true=>
  have c:=Cx.jQ h;refine c.v2 λ_ _ c=>c.v2 λ_ _ c=>c.v3 λ_ _ c=>?_;refine jS<|c.rc 0 ?_;refine(h1 _ (B.up E c.gr)).whole rfl hu rfl ?_;refine Sd (hs _ (B.up E c.gr)) G λ_ g=>have c:=c.more g;vx rfl<|vx rfl<|c.v5 λ_ _ c=>?_;refine c.w5 3 λ_ c=>?_;refine c.rl 0 ?_;refine pP (B.up E c.gr) H k U λa Va _ g=>have c:=c.more g;tV (B.up E c.gr) Va ⟨by omega,by omega⟩ (bL q) λZ M _ d ok=>have c:=c.jT d;have c:=c.n5;c.v1 λ_ _ c=>?_;refine c.w1 5 λ_ c=>?_;refine .here<|kV<|c.rl 5 ?_;refine jS<|vx (c.vp (i:=3) (ds:=[_]) rfl rfl rfl)<|Xj (B:=B.and M) ⟨B.up E c.gr,c.get (i:=4) rfl⟩ ok (X.le (Bs.jX _ _)) λa3 N _ d aS=>have c:=c.jT d;have c:=c.n7;c.w1 5 λ_ c=>?_;refine c.rl 0 ?_;refine c.rl 5 ?_;refine jS<|vx (c.vp (i:=3) (ds:=[_,_,_]) rfl rfl rfl)<|IG (t:=t) (v1 _ (B.up E c.gr)) (by omega) ⟨U.1,by omega⟩ λJ _ d=>have c:=c.jT d;have c:=c.n8;aQ (c.vp (i:=3) (ds:=[_,_,_]) rfl rfl rfl) ?_;refine c.w2 1 λ_ c=>?_;refine aQ (c.vp (i:=3) (ds:=[_,_,_]) rfl rfl rfl) ?_;refine c.w3 2 λ_ c=>?_;refine c.rl 1 ?_;refine c.rl 2 ?_;refine hR (x.1,J) [jR M,jR N,kz EM (jY J) (vs.set (t - 1) a3)] _ (Cx.pack (L:=[]) (c.pick [4,6,7])) ?_;have r:MO (((B.and M).and N).and [kz EM (jY J) (vs.set (t - 1) a3)]) (x.1,J) _:=(H.le ((Bs.jX B M).trans (Bs.jX _ N))).wth (v1.le ((Bs.jX B M).trans (Bs.jX _ N))) v2 (λi a f e1 e2=>(v3 i a f e1 e2).le ((Bs.jX B M).trans (Bs.jX _ N))) aS (by omega) (j:=0) rfl;exact r.le λh b=>⟨⟨⟨b.1,Bs.star b (i:=0) rfl⟩,Bs.star b (i:=1) rfl⟩,let⟨_,F,p⟩:=b; let⟨F',p'⟩:=(Cx.star p).get (i:=2) rfl; let⟨K,O,_⟩:=(Cx.start p').Q4; ⟨K,O⟩⟩
 | false=>
  have c:=Cx.jQ h;refine c.v2 λ_ _ c=>c.v2 λ_ _ c=>c.v3 λ_ _ c=>?_;refine jS<|c.rc 0 ?_;refine(h1 _ (B.up E c.gr)).whole rfl hu rfl ?_;refine Sd (hs _ (B.up E c.gr)) G λ_ g=>have c:=c.more g;vx rfl<|vx rfl<|c.v5 λ_ _ c=>?_;refine c.w5 3 λ_ c=>?_;refine c.rl 0 ?_;refine pP (B.up E c.gr) H k U λa Va _ g=>have c:=c.more g;tV (B.up E c.gr) Va ⟨by omega,by omega⟩ (bL q) λZ M _ d ok=>have c:=c.jT d;have c:=c.n5;c.v1 λ_ _ c=>?_;refine c.w1 5 λ_ c=>?_;refine .here<|j7<|c.rl 0 ?_;refine c.rl 5 ?_;refine jS<|vx (c.vp (i:=3) (ds:=[_,_,_]) rfl rfl rfl)<|IG (t:=t) (v1 _ (B.up E c.gr)) (by omega) ⟨U.1,by omega⟩ λJ _ d=>have c:=c.jT d;have c:=c.n7;aQ (c.vp (i:=3) (ds:=[_,_,_]) rfl rfl rfl) ?_;refine c.w2 1 λ_ c=>?_;refine aQ (c.vp (i:=3) (ds:=[_,_,_]) rfl rfl rfl) ?_;refine c.w3 2 λ_ c=>?_;refine c.rl 1 ?_;refine c.rl 2 ?_;refine hR (x.1,J) [jR M,kz EM (jY J) (vs.set (t - 1) Z)] _ (Cx.pack (L:=[]) (c.pick [4,6])) ?_;have r:MO ((B.and M).and [kz EM (jY J) (vs.set (t - 1) Z)]) (x.1,J) _:=(H.le (Bs.jX B M)).wth (v1.le (Bs.jX B M)) v2 (λi a f e1 e2=>(v3 i a f e1 e2).le (Bs.jX B M)) ok (by omega) (j:=0) rfl;exact r.le λh b=>⟨⟨b.1,Bs.star b (i:=0) rfl⟩,let⟨_,F,p⟩:=b; let⟨F',p'⟩:=(Cx.star p).get (i:=1) rfl; let⟨K,O,_⟩:=(Cx.start p').Q4; ⟨K,O⟩⟩
end
abbrev KX (x:SH × SH):List Value:=[jY x.1,jY x.2]
abbrev cW (w:W3):List Value:=[.int .i64 w.v,.int .u32 w.j8,.int .u32 w.ref]
abbrev SO:List Value:=[.slice none 0 0,.slice none 0 0]
section
variable {T n b t i:Nat} {x:SH × SH} {m:Me} {w:W3}
def Me.top (m:Me) (i:Nat):AM:=(m.at i).getLast?.getD ⟨W0,λ_=>0⟩
def Mk.at (k:Mk T n b m) (hi:i<n):m.hs[i]?=some (m.at i)/\1<=(m.at i).length/\(m.at i).length<=b:=by
 have q:=k.hs;have hm:m.hs[i]?=some (m.at i):=by
  unfold Me.at;rw[aI,aB (by omega)];rfl
 exact⟨hm,k.len _ (aG hm)⟩
def Mk.top (k:Mk T n b m) (hi:i<n):(m.at i)[(m.at i).length - 1]?=some (m.top i):=by
 obtain⟨_,h1,_⟩:=k.at hi;unfold Me.top;rw[bG,aB (by omega)];rfl
def XN (G:B.p h) (H:MO B x m) (k:Mk T n b m) (hb:b<=1000000) (K:1<=t/\t<=T) (hi:i<n)
  (hR:∀J,Rt B h (λB=>MO B J (m.qy t i ((m.at i).length - 1) (m.top i) true)) λh'=>R (.tuple #[De J,mW (m.top i).w,.int .i64 0]) h'):S.C 138 [(De x),(.int .i64 t),(.int .i64 i),(.bool true),(.func (.func 139) #[.int .i64 0] #[])] h R:=by
 refine sj.2 ?_;obtain⟨us,h1,h2,h3⟩:=H.hs;have hn:=k.hs;have hu:=aB (l:=us) (i:=i) (by omega);obtain⟨hm,dO,eQ⟩:=k.at hi;have E:=k.top hi;obtain⟨ms,hs,O⟩:=h3 _ _ _ hu hm;generalize us[i]=u at hu hs;have hlen:((ms.length:Nat):Int) - 1=((m.at i).length - 1:Nat):=by have:=O.1;omega
 obtain⟨rp,op,aT,Q,_⟩:=(h1 h G).ix hu (n:=1) rfl (k:=.i64) (z:=(i:Int)) rfl;have f33:∀{U:Hp},Gr h U->kc 1 (.pointer (some ⟨rp,op,none⟩)) U=some (vH u):=λg=>(Q.ch g λe=>e).kc rfl;have fin:∀(J:SH × SH) (M:List km) (r1 r2 r3 ro rw:Nat) (h':Hp),Cx (λ_=>False) h h' [rV r1 (KX x),rV r2 SO,rV r3 (cW W0),rV ro (KX J),rV rw (cW (m.top i).w),jR M]->MO (B.and M) J (m.qy t i ((m.at i).length - 1) (m.top i) true)->
  ∃V X J M,kC ro=kC V/\kC rw=kC X/\Cx (λ_=>False) h h' [rV r1 (KX x),rV r2 SO,rV r3 (cW W0),rV V (KX J),rV X (cW (m.top i).w),jR M]/\MO (B.and M) J (m.qy t i ((m.at i).length - 1) (m.top i) true):=λJ M r1 r2 r3 ro rw h' c ok=>⟨ro,rw,J,M,rfl,rfl,c,ok⟩
 have c:=Cx.jQ h;refine c.v2 λbY _ c=>c.v2 λZ _ c=>c.v3 λaS _ c=>?_;refine c.rl 0 ?_;refine HQ (B.up G c.gr) H k K hi λ_ g=>have c:=c.more g;vx (v:=.bool false) rfl<|j7<|JU.at (λo q h'=>∃ro rw J M,o=kC ro/\q=kC rw/\Cx (λ_=>False) h h' [rV bY (KX x),rV Z SO,rV aS (cW W0),rV ro (KX J),rV rw (cW (m.top i).w),jR M]/\MO (B.and M) J (m.qy t i ((m.at i).length - 1) (m.top i) true)) ?_ ?_
 ·refine c.rl 0 ?_;refine jS<|c.rc 0 ?_;refine vx aT<|vx (f33 c.gr)<|c.rl 0 ?_;refine⟨?_,?_⟩
  ·refine pP (B.up G c.gr) H k K λa Va _ g=>have c:=c.more g;aQ (f33 c.gr) ?_;refine c.ac 0<|c.al 0<|⟨?_,?_⟩
   ·refine pM (B.up G c.gr) Va λ_ q _ _ g=>have c:=c.more g;aQ (f33 c.gr) ?_;refine c.ac 0<|c.al 0<|⟨?_,?_⟩
    ·refine .inl (.inl ⟨_,_,_,rfl,ol (hs _ (B.up G c.gr)) (by have:=O.1; omega) λ_ g=>?_⟩);have c:=c.more g;rw[hlen];refine c.al 0<|⟨?_,?_⟩
     ·refine kl (B.up G c.gr) H k K hi E λJ M _ d ok=>have c:=c.jT d;have c:=c.n4;vx rfl<|vx rfl<|⟨?_,?_⟩
      ·refine c.v2 λ_ _ c=>c.v3 λ_ _ c=>?_;refine c.w2 4 λ_ c=>?_;refine c.w3 5 λ_ c=>?_;exact fin _ M _ _ _ _ _ _ (c.pick [0,1,2,4,5,3]) ok
      ·refine c.v3 λ_ _ c=>c.v2 λ_ _ c=>?_;refine c.w2 5 λ_ c=>?_;refine c.w3 4 λ_ c=>?_;exact fin _ M _ _ _ _ _ _ (c.pick [0,1,2,5,4,3]) ok
     ·refine⟨?_,?_⟩
      ·refine c.v2 λ_ _ c=>?_;refine c.al 0<|⟨?_,?_⟩
       ·refine kl (B.up G c.gr) H k K hi E λJ M _ d ok=>have c:=c.jT d;have c:=c.n5;vx rfl<|vx rfl<|c.v3 λ_ _ c=>?_;refine c.w2 3 λ_ c=>?_;refine c.w3 5 λ_ c=>?_;exact fin _ M _ _ _ _ _ _ (c.pick [0,1,2,3,5,4]) ok
       ·refine c.v3 λ_ _ c=>?_;refine c.al 0<|kl (B.up G c.gr) H k K hi E λJ M _ d ok=>have c:=c.jT d;have c:=c.n6;vx rfl<|vx rfl<|c.w2 3 λ_ c=>?_;refine c.w3 4 λ_ c=>?_;exact fin _ M _ _ _ _ _ _ (c.pick [0,1,2,3,4,5]) ok
      ·refine c.v3 λ_ _ c=>?_;refine c.al 0<|⟨?_,?_⟩
       ·refine kl (B.up G c.gr) H k K hi E λJ M _ d ok=>have c:=c.jT d;have c:=c.n5;vx rfl<|vx rfl<|c.v2 λ_ _ c=>?_;refine c.w2 5 λ_ c=>?_;refine c.w3 3 λ_ c=>?_;exact fin _ M _ _ _ _ _ _ (c.pick [0,1,2,5,3,4]) ok
       ·refine c.v2 λ_ _ c=>?_;refine c.al 0<|kl (B.up G c.gr) H k K hi E λJ M _ d ok=>have c:=c.jT d;have c:=c.n6;vx rfl<|vx rfl<|c.w2 4 λ_ c=>?_;refine c.w3 3 λ_ c=>?_;exact fin _ M _ _ _ _ _ _ (c.pick [0,1,2,4,3,5]) ok
    ·refine⟨?_,?_⟩
     ·refine c.v2 λ_ _ c=>?_;refine aQ (f33 c.gr) ?_;refine c.ac 0<|c.al 0<|⟨?_,?_⟩
      ·refine .inl (.inl ⟨_,_,_,rfl,ol (hs _ (B.up G c.gr)) (by have:=O.1; omega) λ_ g=>?_⟩);have c:=c.more g;rw[hlen];refine c.al 0<|⟨?_,?_⟩
       ·refine kl (B.up G c.gr) H k K hi E λJ M _ d ok=>have c:=c.jT d;have c:=c.n5;vx rfl<|vx rfl<|c.v3 λ_ _ c=>?_;refine c.w2 3 λ_ c=>?_;refine c.w3 5 λ_ c=>?_;exact fin _ M _ _ _ _ _ _ (c.pick [0,1,2,3,5,4]) ok
       ·refine c.v3 λ_ _ c=>?_;refine c.al 0<|kl (B.up G c.gr) H k K hi E λJ M _ d ok=>have c:=c.jT d;have c:=c.n6;vx rfl<|vx rfl<|c.w2 3 λ_ c=>?_;refine c.w3 4 λ_ c=>?_;exact fin _ M _ _ _ _ _ _ (c.pick [0,1,2,3,4,5]) ok
      ·refine c.v3 λ_ _ c=>?_;refine aQ (f33 c.gr) ?_;refine c.ac 0<|c.al 0<|.inl (.inl ⟨_,_,_,rfl,ol (hs _ (B.up G c.gr)) (by have:=O.1; omega) λ_ g=>?_⟩);have c:=c.more g;rw[hlen];refine c.al 0<|kl (B.up G c.gr) H k K hi E λJ M _ d ok=>have c:=c.jT d;have c:=c.n6;vx rfl<|vx rfl<|c.w2 3 λ_ c=>?_;refine c.w3 4 λ_ c=>?_;exact fin _ M _ _ _ _ _ _ (c.pick [0,1,2,3,4,5]) ok
     ·refine c.v3 λ_ _ c=>?_;refine aQ (f33 c.gr) ?_;refine c.ac 0<|c.al 0<|⟨?_,?_⟩
      ·refine .inl (.inl ⟨_,_,_,rfl,ol (hs _ (B.up G c.gr)) (by have:=O.1; omega) λ_ g=>?_⟩);have c:=c.more g;rw[hlen];refine c.al 0<|⟨?_,?_⟩
       ·refine kl (B.up G c.gr) H k K hi E λJ M _ d ok=>have c:=c.jT d;have c:=c.n5;vx rfl<|vx rfl<|c.v2 λ_ _ c=>?_;refine c.w2 5 λ_ c=>?_;refine c.w3 3 λ_ c=>?_;exact fin _ M _ _ _ _ _ _ (c.pick [0,1,2,5,3,4]) ok
       ·refine c.v2 λ_ _ c=>?_;refine c.al 0<|kl (B.up G c.gr) H k K hi E λJ M _ d ok=>have c:=c.jT d;have c:=c.n6;vx rfl<|vx rfl<|c.w2 4 λ_ c=>?_;refine c.w3 3 λ_ c=>?_;exact fin _ M _ _ _ _ _ _ (c.pick [0,1,2,4,3,5]) ok
      ·refine c.v2 λ_ _ c=>?_;refine aQ (f33 c.gr) ?_;refine c.ac 0<|c.al 0<|.inl (.inl ⟨_,_,_,rfl,ol (hs _ (B.up G c.gr)) (by have:=O.1; omega) λ_ g=>?_⟩);have c:=c.more g;rw[hlen];refine c.al 0<|kl (B.up G c.gr) H k K hi E λJ M _ d ok=>have c:=c.jT d;have c:=c.n6;vx rfl<|vx rfl<|c.w2 4 λ_ c=>?_;refine c.w3 3 λ_ c=>?_;exact fin _ M _ _ _ _ _ _ (c.pick [0,1,2,4,3,5]) ok
   ·refine⟨?_,?_⟩
    ·refine c.v2 λ_ _ c=>?_;refine aQ (f33 c.gr) ?_;refine c.ac 0<|c.al 0<|⟨?_,?_⟩
     ·refine pM (B.up G c.gr) Va λ_ q _ _ g=>have c:=c.more g;aQ (f33 c.gr) ?_;refine c.ac 0<|c.al 0<|⟨?_,?_⟩
      ·refine .inl (.inl ⟨_,_,_,rfl,ol (hs _ (B.up G c.gr)) (by have:=O.1; omega) λ_ g=>?_⟩);have c:=c.more g;rw[hlen];refine c.al 0<|⟨?_,?_⟩
       ·refine kl (B.up G c.gr) H k K hi E λJ M _ d ok=>have c:=c.jT d;have c:=c.n5;vx rfl<|vx rfl<|c.v3 λ_ _ c=>?_;refine c.w2 3 λ_ c=>?_;refine c.w3 5 λ_ c=>?_;exact fin _ M _ _ _ _ _ _ (c.pick [0,1,2,3,5,4]) ok
       ·refine c.v3 λ_ _ c=>?_;refine c.al 0<|kl (B.up G c.gr) H k K hi E λJ M _ d ok=>have c:=c.jT d;have c:=c.n6;vx rfl<|vx rfl<|c.w2 3 λ_ c=>?_;refine c.w3 4 λ_ c=>?_;exact fin _ M _ _ _ _ _ _ (c.pick [0,1,2,3,4,5]) ok
      ·refine c.v3 λ_ _ c=>?_;refine aQ (f33 c.gr) ?_;refine c.ac 0<|c.al 0<|.inl (.inl ⟨_,_,_,rfl,ol (hs _ (B.up G c.gr)) (by have:=O.1; omega) λ_ g=>?_⟩);have c:=c.more g;rw[hlen];refine c.al 0<|kl (B.up G c.gr) H k K hi E λJ M _ d ok=>have c:=c.jT d;have c:=c.n6;vx rfl<|vx rfl<|c.w2 3 λ_ c=>?_;refine c.w3 4 λ_ c=>?_;exact fin _ M _ _ _ _ _ _ (c.pick [0,1,2,3,4,5]) ok
     ·refine c.v3 λ_ _ c=>?_;refine aQ (f33 c.gr) ?_;refine c.ac 0<|c.al 0<|pM (B.up G c.gr) Va λ_ q _ _ g=>have c:=c.more g;aQ (f33 c.gr) ?_;refine c.ac 0<|c.al 0<|.inl (.inl ⟨_,_,_,rfl,ol (hs _ (B.up G c.gr)) (by have:=O.1; omega) λ_ g=>?_⟩);have c:=c.more g;rw[hlen];refine c.al 0<|kl (B.up G c.gr) H k K hi E λJ M _ d ok=>have c:=c.jT d;have c:=c.n6;vx rfl<|vx rfl<|c.w2 3 λ_ c=>?_;refine c.w3 4 λ_ c=>?_;exact fin _ M _ _ _ _ _ _ (c.pick [0,1,2,3,4,5]) ok
    ·refine c.v3 λ_ _ c=>?_;refine aQ (f33 c.gr) ?_;refine c.ac 0<|c.al 0<|⟨?_,?_⟩
     ·refine pM (B.up G c.gr) Va λ_ q _ _ g=>have c:=c.more g;aQ (f33 c.gr) ?_;refine c.ac 0<|c.al 0<|⟨?_,?_⟩
      ·refine .inl (.inl ⟨_,_,_,rfl,ol (hs _ (B.up G c.gr)) (by have:=O.1; omega) λ_ g=>?_⟩);have c:=c.more g;rw[hlen];refine c.al 0<|⟨?_,?_⟩
       ·refine kl (B.up G c.gr) H k K hi E λJ M _ d ok=>have c:=c.jT d;have c:=c.n5;vx rfl<|vx rfl<|c.v2 λ_ _ c=>?_;refine c.w2 5 λ_ c=>?_;refine c.w3 3 λ_ c=>?_;exact fin _ M _ _ _ _ _ _ (c.pick [0,1,2,5,3,4]) ok
       ·refine c.v2 λ_ _ c=>?_;refine c.al 0<|kl (B.up G c.gr) H k K hi E λJ M _ d ok=>have c:=c.jT d;have c:=c.n6;vx rfl<|vx rfl<|c.w2 4 λ_ c=>?_;refine c.w3 3 λ_ c=>?_;exact fin _ M _ _ _ _ _ _ (c.pick [0,1,2,4,3,5]) ok
      ·refine c.v2 λ_ _ c=>?_;refine aQ (f33 c.gr) ?_;refine c.ac 0<|c.al 0<|.inl (.inl ⟨_,_,_,rfl,ol (hs _ (B.up G c.gr)) (by have:=O.1; omega) λ_ g=>?_⟩);have c:=c.more g;rw[hlen];refine c.al 0<|kl (B.up G c.gr) H k K hi E λJ M _ d ok=>have c:=c.jT d;have c:=c.n6;vx rfl<|vx rfl<|c.w2 4 λ_ c=>?_;refine c.w3 3 λ_ c=>?_;exact fin _ M _ _ _ _ _ _ (c.pick [0,1,2,4,3,5]) ok
     ·refine c.v2 λ_ _ c=>?_;refine aQ (f33 c.gr) ?_;refine c.ac 0<|c.al 0<|pM (B.up G c.gr) Va λ_ q _ _ g=>have c:=c.more g;aQ (f33 c.gr) ?_;refine c.ac 0<|c.al 0<|.inl (.inl ⟨_,_,_,rfl,ol (hs _ (B.up G c.gr)) (by have:=O.1; omega) λ_ g=>?_⟩);have c:=c.more g;rw[hlen];refine c.al 0<|kl (B.up G c.gr) H k K hi E λJ M _ d ok=>have c:=c.jT d;have c:=c.n6;vx rfl<|vx rfl<|c.w2 4 λ_ c=>?_;refine c.w3 3 λ_ c=>?_;exact fin _ M _ _ _ _ _ _ (c.pick [0,1,2,4,3,5]) ok
  ·refine⟨?_,?_⟩
   ·refine c.v2 λ_ _ c=>?_;refine c.al 0<|aQ (f33 c.gr) ?_;refine c.ac 0<|c.al 0<|⟨?_,?_⟩
    ·refine pP (B.up G c.gr) H k K λa Va _ g=>have c:=c.more g;aQ (f33 c.gr) ?_;refine c.ac 0<|c.al 0<|⟨?_,?_⟩
     ·refine pM (B.up G c.gr) Va λ_ q _ _ g=>have c:=c.more g;aQ (f33 c.gr) ?_;refine c.ac 0<|c.al 0<|⟨?_,?_⟩
      ·refine .inl (.inl ⟨_,_,_,rfl,ol (hs _ (B.up G c.gr)) (by have:=O.1; omega) λ_ g=>?_⟩);have c:=c.more g;rw[hlen];refine c.al 0<|⟨?_,?_⟩
       ·refine kl (B.up G c.gr) H k K hi E λJ M _ d ok=>have c:=c.jT d;have c:=c.n5;vx rfl<|vx rfl<|c.v3 λ_ _ c=>?_;refine c.w2 3 λ_ c=>?_;refine c.w3 5 λ_ c=>?_;exact fin _ M _ _ _ _ _ _ (c.pick [0,1,2,3,5,4]) ok
       ·refine c.v3 λ_ _ c=>?_;refine c.al 0<|kl (B.up G c.gr) H k K hi E λJ M _ d ok=>have c:=c.jT d;have c:=c.n6;vx rfl<|vx rfl<|c.w2 3 λ_ c=>?_;refine c.w3 4 λ_ c=>?_;exact fin _ M _ _ _ _ _ _ (c.pick [0,1,2,3,4,5]) ok
      ·refine c.v3 λ_ _ c=>?_;refine aQ (f33 c.gr) ?_;refine c.ac 0<|c.al 0<|.inl (.inl ⟨_,_,_,rfl,ol (hs _ (B.up G c.gr)) (by have:=O.1; omega) λ_ g=>?_⟩);have c:=c.more g;rw[hlen];refine c.al 0<|kl (B.up G c.gr) H k K hi E λJ M _ d ok=>have c:=c.jT d;have c:=c.n6;vx rfl<|vx rfl<|c.w2 3 λ_ c=>?_;refine c.w3 4 λ_ c=>?_;exact fin _ M _ _ _ _ _ _ (c.pick [0,1,2,3,4,5]) ok
     ·refine c.v3 λ_ _ c=>?_;refine aQ (f33 c.gr) ?_;refine c.ac 0<|c.al 0<|pM (B.up G c.gr) Va λ_ q _ _ g=>have c:=c.more g;aQ (f33 c.gr) ?_;refine c.ac 0<|c.al 0<|.inl (.inl ⟨_,_,_,rfl,ol (hs _ (B.up G c.gr)) (by have:=O.1; omega) λ_ g=>?_⟩);have c:=c.more g;rw[hlen];refine c.al 0<|kl (B.up G c.gr) H k K hi E λJ M _ d ok=>have c:=c.jT d;have c:=c.n6;vx rfl<|vx rfl<|c.w2 3 λ_ c=>?_;refine c.w3 4 λ_ c=>?_;exact fin _ M _ _ _ _ _ _ (c.pick [0,1,2,3,4,5]) ok
    ·refine c.v3 λ_ _ c=>?_;refine c.al 0<|aQ (f33 c.gr) ?_;refine c.ac 0<|c.al 0<|pP (B.up G c.gr) H k K λa Va _ g=>have c:=c.more g;aQ (f33 c.gr) ?_;refine c.ac 0<|c.al 0<|pM (B.up G c.gr) Va λ_ q _ _ g=>have c:=c.more g;aQ (f33 c.gr) ?_;refine c.ac 0<|c.al 0<|.inl (.inl ⟨_,_,_,rfl,ol (hs _ (B.up G c.gr)) (by have:=O.1; omega) λ_ g=>?_⟩);have c:=c.more g;rw[hlen];refine c.al 0<|kl (B.up G c.gr) H k K hi E λJ M _ d ok=>have c:=c.jT d;have c:=c.n6;vx rfl<|vx rfl<|c.w2 3 λ_ c=>?_;refine c.w3 4 λ_ c=>?_;exact fin _ M _ _ _ _ _ _ (c.pick [0,1,2,3,4,5]) ok
   ·refine c.v3 λ_ _ c=>?_;refine c.al 0<|aQ (f33 c.gr) ?_;refine c.ac 0<|c.al 0<|⟨?_,?_⟩
    ·refine pP (B.up G c.gr) H k K λa Va _ g=>have c:=c.more g;aQ (f33 c.gr) ?_;refine c.ac 0<|c.al 0<|⟨?_,?_⟩
     ·refine pM (B.up G c.gr) Va λ_ q _ _ g=>have c:=c.more g;aQ (f33 c.gr) ?_;refine c.ac 0<|c.al 0<|⟨?_,?_⟩
      ·refine .inl (.inl ⟨_,_,_,rfl,ol (hs _ (B.up G c.gr)) (by have:=O.1; omega) λ_ g=>?_⟩);have c:=c.more g;rw[hlen];refine c.al 0<|⟨?_,?_⟩
       ·refine kl (B.up G c.gr) H k K hi E λJ M _ d ok=>have c:=c.jT d;have c:=c.n5;vx rfl<|vx rfl<|c.v2 λ_ _ c=>?_;refine c.w2 5 λ_ c=>?_;refine c.w3 3 λ_ c=>?_;exact fin _ M _ _ _ _ _ _ (c.pick [0,1,2,5,3,4]) ok
       ·refine c.v2 λ_ _ c=>?_;refine c.al 0<|kl (B.up G c.gr) H k K hi E λJ M _ d ok=>have c:=c.jT d;have c:=c.n6;vx rfl<|vx rfl<|c.w2 4 λ_ c=>?_;refine c.w3 3 λ_ c=>?_;exact fin _ M _ _ _ _ _ _ (c.pick [0,1,2,4,3,5]) ok
      ·refine c.v2 λ_ _ c=>?_;refine aQ (f33 c.gr) ?_;refine c.ac 0<|c.al 0<|.inl (.inl ⟨_,_,_,rfl,ol (hs _ (B.up G c.gr)) (by have:=O.1; omega) λ_ g=>?_⟩);have c:=c.more g;rw[hlen];refine c.al 0<|kl (B.up G c.gr) H k K hi E λJ M _ d ok=>have c:=c.jT d;have c:=c.n6;vx rfl<|vx rfl<|c.w2 4 λ_ c=>?_;refine c.w3 3 λ_ c=>?_;exact fin _ M _ _ _ _ _ _ (c.pick [0,1,2,4,3,5]) ok
     ·refine c.v2 λ_ _ c=>?_;refine aQ (f33 c.gr) ?_;refine c.ac 0<|c.al 0<|pM (B.up G c.gr) Va λ_ q _ _ g=>have c:=c.more g;aQ (f33 c.gr) ?_;refine c.ac 0<|c.al 0<|.inl (.inl ⟨_,_,_,rfl,ol (hs _ (B.up G c.gr)) (by have:=O.1; omega) λ_ g=>?_⟩);have c:=c.more g;rw[hlen];refine c.al 0<|kl (B.up G c.gr) H k K hi E λJ M _ d ok=>have c:=c.jT d;have c:=c.n6;vx rfl<|vx rfl<|c.w2 4 λ_ c=>?_;refine c.w3 3 λ_ c=>?_;exact fin _ M _ _ _ _ _ _ (c.pick [0,1,2,4,3,5]) ok
    ·refine c.v2 λ_ _ c=>?_;refine c.al 0<|aQ (f33 c.gr) ?_;refine c.ac 0<|c.al 0<|pP (B.up G c.gr) H k K λa Va _ g=>have c:=c.more g;aQ (f33 c.gr) ?_;refine c.ac 0<|c.al 0<|pM (B.up G c.gr) Va λ_ q _ _ g=>have c:=c.more g;aQ (f33 c.gr) ?_;refine c.ac 0<|c.al 0<|.inl (.inl ⟨_,_,_,rfl,ol (hs _ (B.up G c.gr)) (by have:=O.1; omega) λ_ g=>?_⟩);have c:=c.more g;rw[hlen];refine c.al 0<|kl (B.up G c.gr) H k K hi E λJ M _ d ok=>have c:=c.jT d;have c:=c.n6;vx rfl<|vx rfl<|c.w2 4 λ_ c=>?_;refine c.w3 3 λ_ c=>?_;exact fin _ M _ _ _ _ _ _ (c.pick [0,1,2,4,3,5]) ok
 ·rintro _ _ h7 ⟨ro,rw,J,M,rfl,rfl,c,ok⟩;replace c:=c.n6;refine c.rl 3 ?_;refine c.rl 4 ?_;refine c.w2 1 λ_ c=>?_;refine c.al 4<|c.w3 2 λ_ c=>?_;refine c.rl 1 ?_;refine c.rl 2 ?_;exact hR J M _ (c.pick [5]) ok
def OJ {us:List SH} {u:SH} (q:B.p h) (H:MO B x m) (k:Mk T n b m) (hi:i<n) (h1:On B λh=>Sl EH1 h (jY x.1) us) (hu:us[i]?=some u) (E:∀h',Gr h h'->R (.tuple #[vH u,.bool true]) h'):S.C 78 [(De x),(.int .i64 i)] h R:=by
 refine wy.2<|have c:=Cx.jQ h;c.v2 λ_ _ c=>?_;refine c.v1 λ_ _ c=>?_;refine c.rl 0 ?_;refine NT (B.up q c.gr) H k hi λ_ g=>have c:=c.more g;vx (v:=.bool false) (rfl)<|j7<|jS<|c.rc 0 ?_;refine(h1 _ (B.up q c.gr)).whole rfl hu rfl ?_;refine c.w1 1 λ_ c=>?_;refine c.rl 1 ?_;exact E _ c.gr
def MA (u:B.p h) (H:MO B x m) (k:Mk T n b m) (E:b<=1000000) (G:1<=t/\t<=T) (hi:i<n)
  (J:∀q,Rt B h (λB=>MO B q (m.qy t i ((m.at i).length - 1) (m.top i) true)) λh'=>R (.tuple #[De q,mW (m.top i).w,.int .i64 0]) h'):S.C 122 [(De x),(.int .i64 t),(.int .i64 i)] h R:=by
 refine yU.2<|have c:=Cx.jQ h;c.v2 λ_ _ c=>?_;refine c.v2 λ_ _ c=>c.v3 λ_ _ c=>?_;refine c.rl 0 ?_;refine vx rfl<|XN (B.up u c.gr) H k E G hi λq M _ d ok=>have c:=c.jT d;have c:=c.n4;c.YT 1 2 λ_ c=>?_;exact J q M _ (c.pick [3]) ok
def TA (O:B.p h) (H:MO B x m) (k:Mk T n b m) (hb:b<=1000000) (hi:i<n) (Q:∀h',Gr h h'->R (.tuple #[mW (m.top i).w,.bool true]) h'):S.C 47 [(De x),(.int .i64 i)] h R:=by
 refine yL.2 ?_;obtain⟨us,h1,h2,X⟩:=H.hs;have hn:=k.hs;have hu:=aB (l:=us) (i:=i) (by omega);obtain⟨hm,Z,aS⟩:=k.at hi;have G:=k.top hi;obtain⟨ms,hs,U⟩:=X _ _ _ hu hm;generalize us[i]=u at hu hs;have M:ms.length=(m.at i).length:=U.1;have q:=aB (l:=ms) (i:=(m.at i).length - 1) (by omega);have hw:=(U.2 _ _ _ q G).1;generalize ms[(m.at i).length - 1]'(by omega)=l at q hw;have J:ms=ms.dropLast++[l]:=by
  have E:ms≠[]:=λe=>by rw[e] at M;simp at M;omega
  have V:=List.dropLast_concat_getLast E;have h8:ms.getLast E=l:=by
   have:=gQ E;rw[bG,M,q] at this;injection this with this;exact this.symm
  rw[h8] at V;exact V.symm
 rw[<-hw] at Q;rw[J] at hs;have K:ms.dropLast.length<=1000000:=by rw[bT];omega
 generalize ms.dropLast=aT at hs K;have c:=Cx.jQ h;refine c.v2 λ_ _ c=>c.v3 λ_ _ c=>?_;refine c.rl 0 ?_;refine OJ (B.up O c.gr) H k hi h1 hu λ_ g=>have c:=c.more g;vx rfl<|vx rfl<|c.v1 λ_ _ c=>?_;refine c.w1 2 λ_ c=>?_;refine c.rl 2 ?_;refine T9 (hs _ (B.up O c.gr)) K λ_ g=>have c:=c.more g;vx (v:=mW l.w) (by kernel_rfl)<|c.w3 1 λ_ c=>?_;refine c.rl 1 ?_;exact Q _ c.gr
end
section
variable {T n b t i:Nat} {x:SH × SH} {m:Me} {w:W3} {am:AM}
def zI {α:Type}:∀{l:List α} {i:Nat} (y:α),i<l.length->l.take i++[y]++l.drop (i+1)=l.set i y
 | [],i,y,h=>by simp at h
 | a::l,0,y,h=>by simp
 | a::l,i+1,y,h=>by simpa using zI (l:=l) (i:=i) y (by simpa using h)
def MO.VL {H:List km} {us:List SH} {vs:List (Option Nat)} {O U V:SH} {ms:List Jl} {a X:Option Nat} {f g:Int->Int} (hi:i<us.length) (h2:us.length=m.hs.length) (h3:∀(i:Nat) (u:SH) (lx:List AM),us[i]?=some u->m.hs[i]?=some lx->HO B u lx)
  (v2:vs.length=m.vs.length) (v3:∀(i:Nat) (a:Option Nat) (f:Int->Int),vs[i]?=some a->m.vs[i]?=some f->VO B a f) (ht:t - 1<vs.length) (K:Al B ms (m.at i)) (Va:VO (B.and H) a f) (Vt:VO (B.and H) X g) {tt:Int}
  (s1:On (B.and H) λh=>Sl Cf h (jY O) (ms++[⟨w,tt,X⟩])) (s2:On (B.and H) λh=>Sl EH1 h (jY U) (us.take i++[O]++us.drop (i+1))) (s3:On (B.and H) λh=>Sl EM h (jY V) (vs.set (t - 1) a)) :
  MO (B.and H) (U,V) {hs:=m.hs.set i (m.at i++[⟨w,g⟩]),vs:=m.vs.set (t - 1) f}:=by
 have Q:=Bs.jX B H;rw[zI O hi] at s2;refine⟨⟨vs.set (t - 1) a,s3,by rw[aV,aV,v2],λj y e E he=>?_⟩,⟨us.set i O,s2,by rw[aV,aV,h2],λj y e E he=>?_⟩⟩
 ·have he:(m.vs.set (t - 1) f)[j]?=some e:=he;rw[bH] at E he;by_cases M:t - 1=j
  ·rw[if_pos M,if_pos (by omega)] at E he;injection E with E;injection he with he;subst E he;exact Va
  ·rw[if_neg M] at E he;exact(v3 j y e E he).le Q
 ·have he:(m.hs.set i (m.at i++[⟨w,g⟩]))[j]?=some e:=he;rw[bH] at E he;by_cases M:i=j
  ·rw[if_pos M,if_pos (by omega)] at E he;injection E with E;injection he with he;subst E he;refine⟨_,s1,by rw[aF,aF,K.1,aE,aE],λp q r G J=>?_⟩;by_cases Z:p<ms.length
   ·rw[aY Z] at G;rw[aY (by rw[<-K.1]; exact Z)] at J;exact⟨(K.2 p q r G J).1,(K.2 p q r G J).2.le Q⟩
   ·rw[bD (by omega)] at G;rw[bD (by have:=K.1; omega),<-K.1] at J;cases hz:p - ms.length with
    | zero=>
     rw[hz] at G J;simp only[aX,aD] at G J;subst G J;exact⟨rfl,Vt⟩
    | succ z=>rw[hz] at G;simp at G
  ·rw[if_neg M] at E he;exact(h3 j y e E he).le Q
def Qy (q:B.p h) (H:MO B x m) (k:Mk T n b m) (hb:b<=900000) (ht:1<=t/\t<=T) (hi:i<n) {wl:Bool}
  (hR:∀x',Rt B h (λB=>MO B x' (m.add t i w wl)) λh'=>R (De x') h'):S.C 134 [(De x),(.int .i64 t),(.int .i64 i),(mW w),(.bool wl)] h R:=by
 refine yz.2 ?_;obtain⟨us,h1,h2,h3⟩:=H.hs;obtain⟨vs,v1,v2,v3⟩:=id H.vs;have hn:=k.hs;have hT:=k.vs;have hle:=k.le;have hu:=aB (l:=us) (i:=i) (by omega);obtain⟨hm,iF,iN⟩:=k.at hi;obtain⟨ms,hs,ha⟩:=h3 _ _ _ hu hm;generalize us[i]=u at hu hs;have E:ms.length=(m.at i).length:=ha.1;obtain⟨vr,er,Hr,_⟩:=(h1 h q).sub (n:=1) rfl (lo:=some (.int .i64 ((i:Int)+1))) (hi:=none) (l:=i+1) (.inr ⟨_,_,rfl,by omega⟩) (.inl ⟨rfl,rfl⟩) (by omega) (aP _);rw[dD] at Hr;obtain⟨ac,ec,Hc⟩:=(h1 h q).clip (n:=1) (k:=.i64) (k':=.i64) rfl (z:=(i:Int)) rfl (by omega:i<=us.length);have G:(us.take i).length=i:=by rw[aR];omega
 have fin:∀(a:Option Nat) (M:List km) (r1 r2 r3 r4 ro:Nat) (h':Hp),Cx (λ_=>False) h h' [rV r1 (KX x),rV r2 (cW w),rV r3 SO,rV r4 [jY u],rV ro [.map a],jR M]->VO (B.and M) a (nm (m.view t) i (m.at i).length)->
  ∃aS a M,kC ro=kC aS/\Cx (λ_=>False) h h' [rV r1 (KX x),rV r2 (cW w),rV r3 SO,rV r4 [jY u],rV aS [.map a],jR M]/\VO (B.and M) a (nm (m.view t) i (m.at i).length):=λa M r1 r2 r3 r4 ro h' c ok=>⟨ro,a,M,rfl,c,ok⟩
 cases wl with
 | true=>
  have c:=Cx.jQ h;refine c.v2 λV _ c=>c.v3 λX _ c=>c.v2 λK _ c=>?_;refine jS<|c.rc 0 ?_;refine(h1 _ (B.up q c.gr)).whole rfl hu rfl ?_;refine c.v1 λO _ c=>?_;refine c.w1 3 λ_ c=>?_;refine sV.at (λv h'=>∃ro a M,v=kC ro/\Cx (λ_=>False) h h' [rV V (KX x),rV X (cW w),rV K SO,rV O [jY u],rV ro [.map a],jR M]/\VO (B.and M) a (nm (m.view t) i (m.at i).length)) ?_ ?_
  ·refine c.rl 0 ?_;refine c.rl 3 ?_;refine⟨?_,?_⟩
   ·refine pP (B.up q c.gr) H k ht λa Va _ g=>have c:=c.more g;c.al 3<|⟨?_,?_⟩
    ·refine yp (hs _ (B.up q c.gr)) λ_ g=>?_;have c:=c.more g;rw[E];refine⟨?_,?_⟩
     ·refine tV (B.up q c.gr) Va ⟨by omega,by omega⟩ (bL _) λZ M _ d ok=>have c:=c.jT d;have c:=c.n5;c.v1 λ_ _ c=>?_;refine c.w1 5 λ_ c=>?_;exact fin _ M _ _ _ _ _ _ (c.pick [0,1,2,3,5,4]) ok
     ·refine c.v1 λ_ _ c=>?_;refine tV (B.up q c.gr) Va ⟨by omega,by omega⟩ (bL _) λZ M _ d ok=>have c:=c.jT d;have c:=c.n6;c.w1 4 λ_ c=>?_;exact fin _ M _ _ _ _ _ _ (c.pick [0,1,2,3,4,5]) ok
    ·refine c.v1 λ_ _ c=>?_;refine c.al 3<|yp (hs _ (B.up q c.gr)) λ_ g=>?_;have c:=c.more g;rw[E];refine tV (B.up q c.gr) Va ⟨by omega,by omega⟩ (bL _) λZ M _ d ok=>have c:=c.jT d;have c:=c.n6;c.w1 4 λ_ c=>?_;exact fin _ M _ _ _ _ _ _ (c.pick [0,1,2,3,4,5]) ok
   ·refine c.v1 λ_ _ c=>?_;refine c.al 3<|c.al 0<|pP (B.up q c.gr) H k ht λa Va _ g=>have c:=c.more g;c.al 3<|yp (hs _ (B.up q c.gr)) λ_ g=>?_;have c:=c.more g;rw[E];refine tV (B.up q c.gr) Va ⟨by omega,by omega⟩ (bL _) λZ M _ d ok=>have c:=c.jT d;have c:=c.n6;c.w1 4 λ_ c=>?_;exact fin _ M _ _ _ _ _ _ (c.pick [0,1,2,3,4,5]) ok
  ·rintro _ h6 ⟨ro,a,M,rfl,c,ok⟩;replace c:=c.n6;refine c.rl 4 ?_;refine c.v1 λ_ _ c=>?_;refine c.w1 6 λ_ c=>?_;refine .here<|vx (v:=.bool false) (rfl)<|j7<|jS<|c.rc 0 ?_;refine vx (oC ⟨by omega,by omega⟩)<|vx er<|jS<|c.rc 0 ?_;refine vx ec<|c.rl 3 ?_;refine c.rl 1 ?_;refine c.rl 6 ?_;refine vx (jU (ds:=[_,_,_,_,_]) rfl)<|RY (m:=⟨w,t,a⟩) (hs _ (B.up q c.gr)) (by omega) λJ _ d=>have c:=c.jT d;have c:=c.n8;c.ac 0<|c.lW EH1 J rfl rfl λaT _ c=>have c:=c.n9;c.ac 0<|c.S9 (Hc.gr c.gr) (c.sl (i:=8) rfl).sl (by simp) rfl rfl (by rw[G,aE]; omega) (by rw[G,aE]; omega) λbY _ c=>have c:=c.Ut;c.ap 9 rfl (Hr.gr c.gr) rfl rfl (by simp only[aF,aR,cI,aE]; omega) (by simp only[aF,aR,cI,aE]; omega) λdO _ c=>?_;obtain⟨Q,rfl⟩:=(c.sl (i:=9) rfl).tW;replace c:=c.Ut;refine jS<|c.q2 0 λ_ c=>?_;refine c.rl 0 ?_;refine c.rl 4 ?_;refine IG (x:=(Q,x.2)) (t:=t) (v1 _ (B.up q c.gr)) (by omega) ⟨ht.1,by omega⟩ λU _ d=>have c:=c.jT d;have c:=c.WE;c.w2 2 λ_ c=>?_;refine c.rl 2 ?_;refine hR (Q,U) [jR M,kz Cf (jY J) (ms++[(⟨w,t,a⟩:Jl)]),kz EH1 (jY Q) (us.take i++[J]++us.drop (i+1)),kz EM (jY U) (vs.set (t - 1) a)] _ (Cx.pack (L:=[]) (c.pick [5,7,9,10])) ?_;have Va:VO (B.and [jR M,kz Cf (jY J) (ms++[(⟨w,t,a⟩:Jl)]),kz EH1 (jY Q) (us.take i++[J]++us.drop (i+1)),kz EM (jY U) (vs.set (t - 1) a)]) a (nm (m.view t) i (m.at i).length):=ok.le λh b=>⟨b.1,Bs.star b (i:=0) rfl⟩;exact MO.VL (by omega) h2 h3 v2 v3 (by omega) ha Va Va (On.sl (i:=1) rfl) (On.sl (i:=2) rfl) (On.sl (i:=3) rfl)
 | false=>
  have c:=Cx.jQ h;refine c.v2 λV _ c=>c.v3 λX _ c=>c.v2 λK _ c=>?_;refine jS<|c.rc 0 ?_;refine(h1 _ (B.up q c.gr)).whole rfl hu rfl ?_;refine c.v1 λO _ c=>?_;refine c.w1 3 λ_ c=>?_;refine sV.at (λv h'=>∃ro a M,v=kC ro/\Cx (λ_=>False) h h' [rV V (KX x),rV X (cW w),rV K SO,rV O [jY u],rV ro [.map a],jR M]/\VO (B.and M) a (nm (m.view t) i (m.at i).length)) ?_ ?_
  ·refine c.rl 0 ?_;refine c.rl 3 ?_;refine⟨?_,?_⟩
   ·refine pP (B.up q c.gr) H k ht λa Va _ g=>have c:=c.more g;c.al 3<|⟨?_,?_⟩
    ·refine yp (hs _ (B.up q c.gr)) λ_ g=>?_;have c:=c.more g;rw[E];refine⟨?_,?_⟩
     ·refine tV (B.up q c.gr) Va ⟨by omega,by omega⟩ (bL _) λZ M _ d ok=>have c:=c.jT d;have c:=c.n5;c.v1 λ_ _ c=>?_;refine c.w1 5 λ_ c=>?_;exact fin _ M _ _ _ _ _ _ (c.pick [0,1,2,3,5,4]) ok
     ·refine c.v1 λ_ _ c=>?_;refine tV (B.up q c.gr) Va ⟨by omega,by omega⟩ (bL _) λZ M _ d ok=>have c:=c.jT d;have c:=c.n6;c.w1 4 λ_ c=>?_;exact fin _ M _ _ _ _ _ _ (c.pick [0,1,2,3,4,5]) ok
    ·refine c.v1 λ_ _ c=>?_;refine c.al 3<|yp (hs _ (B.up q c.gr)) λ_ g=>?_;have c:=c.more g;rw[E];refine tV (B.up q c.gr) Va ⟨by omega,by omega⟩ (bL _) λZ M _ d ok=>have c:=c.jT d;have c:=c.n6;c.w1 4 λ_ c=>?_;exact fin _ M _ _ _ _ _ _ (c.pick [0,1,2,3,4,5]) ok
   ·refine c.v1 λ_ _ c=>?_;refine c.al 3<|c.al 0<|pP (B.up q c.gr) H k ht λa Va _ g=>have c:=c.more g;c.al 3<|yp (hs _ (B.up q c.gr)) λ_ g=>?_;have c:=c.more g;rw[E];refine tV (B.up q c.gr) Va ⟨by omega,by omega⟩ (bL _) λZ M _ d ok=>have c:=c.jT d;have c:=c.n6;c.w1 4 λ_ c=>?_;exact fin _ M _ _ _ _ _ _ (c.pick [0,1,2,3,4,5]) ok
  ·rintro _ h6 ⟨ro,a,M,rfl,c,ok⟩;replace c:=c.n6;refine c.rl 4 ?_;refine c.v1 λ_ _ c=>?_;refine c.w1 6 λ_ c=>?_;refine .here<|vx (v:=.bool true) (rfl)<|kV<|vx (jU (ds:=[_]) rfl)<|c.rl 3 ?_;refine yp (hs _ (B.up q c.gr)) λ_ g=>?_;have c:=c.more g;rw[E];refine tV (B:=B.and M) (a:=none) ⟨B.up q c.gr,c.get (i:=5) rfl⟩ (VO.zero _) ⟨by omega,by omega⟩ (bL _) λa3 N _ d eQ=>have c:=c.jT d;have c:=c.n8;c.w1 6 λ_ c=>?_;refine jS<|c.rc 0 ?_;refine vx (oC ⟨by omega,by omega⟩)<|vx er<|jS<|c.rc 0 ?_;refine vx ec<|c.rl 3 ?_;refine c.rl 1 ?_;refine c.rl 6 ?_;refine vx (jU (ds:=[_,_,_,_,_]) rfl)<|RY (m:=⟨w,t,a3⟩) (hs _ (B.up q c.gr)) (by omega) λJ _ d=>have c:=c.jT d;have c:=c.n9;c.ac 0<|c.lW EH1 J rfl rfl λaT _ c=>have c:=c.Ut;c.ac 0<|c.S9 (Hc.gr c.gr) (c.sl (i:=9) rfl).sl (by simp) rfl rfl (by rw[G,aE]; omega) (by rw[G,aE]; omega) λbY _ c=>have c:=c.WE;c.ap 10 rfl (Hr.gr c.gr) rfl rfl (by simp only[aF,aR,cI,aE]; omega) (by simp only[aF,aR,cI,aE]; omega) λdO _ c=>?_;obtain⟨Q,rfl⟩:=(c.sl (i:=10) rfl).tW;replace c:=c.WE;refine jS<|c.q2 0 λ_ c=>?_;refine c.rl 0 ?_;refine c.rl 4 ?_;refine IG (x:=(Q,x.2)) (t:=t) (v1 _ (B.up q c.gr)) (by omega) ⟨ht.1,by omega⟩ λU _ d=>have c:=c.jT d;have c:=c.n12;c.w2 2 λ_ c=>?_;refine c.rl 2 ?_;refine hR (Q,U) [jR M,kz Cf (jY J) (ms++[(⟨w,t,a3⟩:Jl)]),kz EH1 (jY Q) (us.take i++[J]++us.drop (i+1)),kz EM (jY U) (vs.set (t - 1) a),jR N] _ (Cx.pack (L:=[]) (c.pick [5,8,10,11,7])) ?_;have Va:VO (B.and [jR M,kz Cf (jY J) (ms++[(⟨w,t,a3⟩:Jl)]),kz EH1 (jY Q) (us.take i++[J]++us.drop (i+1)),kz EM (jY U) (vs.set (t - 1) a),jR N]) a (nm (m.view t) i (m.at i).length):=ok.le λh b=>⟨b.1,Bs.star b (i:=0) rfl⟩;have Vt:VO (B.and [jR M,kz Cf (jY J) (ms++[(⟨w,t,a3⟩:Jl)]),kz EH1 (jY Q) (us.take i++[J]++us.drop (i+1)),kz EM (jY U) (vs.set (t - 1) a),jR N]) a3 _:=eQ.le λh b=>⟨⟨b.1,Bs.star b (i:=0) rfl⟩,Bs.star b (i:=4) rfl⟩;exact MO.VL (by omega) h2 h3 v2 v3 (by omega) ha Va Vt (On.sl (i:=1) rfl) (On.sl (i:=2) rfl) (On.sl (i:=3) rfl)
def NI (u:B.p h) (H:MO B x m) (k:Mk T n b m) (G:b<=900000) (E:1<=t/\t<=T) (hi:i<n) {wl:Bool}
  (J:∀q,Rt B h (λB=>MO B q (m.add t i w wl)) λh'=>R (.tuple #[De q,.int .i64 0]) h'):S.C 115 [(De x),(.int .i64 t),(.int .i64 i),(mW w),(.bool wl)] h R:=by
 refine xK.2<|have c:=Cx.jQ h;c.v2 λ_ _ c=>?_;refine c.v3 λ_ _ c=>c.v2 λ_ _ c=>?_;refine c.rl 0 ?_;refine HQ (B.up u c.gr) H k E hi λ_ g=>have c:=c.more g;vx (v:=.bool false) rfl<|j7<|c.rl 0 ?_;refine c.rl 1 ?_;refine Qy (w:=w) (B.up u c.gr) H k G E hi λq M _ d ok=>have c:=c.jT d;have c:=c.n4;c.w2 2 λ_ c=>?_;refine c.rl 2 ?_;exact J q M _ (c.pick [3]) ok
def Mk.qy (k:Mk T n b m) (q:Nat) (j:Bool):Mk T n b (m.qy t i q am j):=⟨(aV ..).trans k.vs,k.hs,k.le,k.len⟩
def Mk.add (k:Mk T n b m) (hi:i<n) {wl:Bool}:Mk T n (b+1) (m.add t i w wl):=by
 obtain⟨hm,h1,h2⟩:=k.at hi;refine⟨(aV ..).trans k.vs,(aV ..).trans k.hs,k.le,λlx has=>?_⟩;rcases cJ has with h | rfl
 ·have:=k.len lx h;omega
 ·rw[aF,aE];omega
def W3.iff (a b:W3):(a.v=b.v/\a.j8=b.j8/\a.ref=b.ref)↔a=b:=by
 obtain⟨q,u,E⟩:=a;obtain⟨G,H,J⟩:=b;simp
instance:DecidableEq W3:=λa b=>decidable_of_iff _ (W3.iff a b)
def Me.GC (m:Me) (t i:Nat) (old new:W3):Me:=if (m.top i).w=old then(m.qy t i ((m.at i).length - 1) (m.top i) true).add t i new true else m.qy t i ((m.at i).length - 1) (m.top i) true
def RI (a b:W3):uk (zL [true,true,true] (.agg ⟨cW a⟩) (.agg ⟨cW b⟩))=some (.bool (decide (a≠b))):=by
 have:zL [true,true,true] (.agg ⟨cW a⟩) (.agg ⟨cW b⟩)=some (decide (a=b)):=by
  show((some (a.v == b.v)).bind λx=>((some (a.j8 == b.j8)).bind λx=>((some (a.ref == b.ref)).bind λx=>(some true).bind λq=>some (x&&q)).bind λq=>some (x&&q)).bind λq=>some (x&&q))=_;have:=W3.iff a b;by_cases h1:a.v=b.v <;> by_cases h2:a.j8=b.j8 <;> by_cases u:a.ref=b.ref <;> simp[h1,h2,u,<-this]
 rw[this,Ko];by_cases h:a=b <;> simp[h]
def Rr (E:B.p h) (H:MO B x m) (k:Mk T n b m) (K:b<=900000) (G:1<=t/\t<=T) (hi:i<n) {old new:W3}
  (u:∀q,Rt B h (λB=>MO B q (m.GC t i old new)) λh'=>R (.tuple #[De q,mW (m.top i).w,.bool (decide ((m.top i).w=old)),.int .i64 0]) h'):S.C 114 [(De x),(.int .i64 t),(.int .i64 i),(mW old),(mW new)] h R:=by
 refine yk.2 ?_;by_cases e:(m.top i).w=old
 ·rw[Me.GC,if_pos e,decide_eq_true e] at u;have c:=Cx.jQ h;refine c.v2 λ_ _ c=>c.v3 λ_ _ c=>c.v3 λ_ _ c=>c.v2 λ_ _ c=>c.v3 λ_ _ c=>?_;refine c.rl 0 ?_;refine MA (B.up E c.gr) H k (by omega) G hi λq M _ d ok=>have c:=c.jT d;have c:=c.n6;vx rfl<|vx rfl<|vx rfl<|c.v2 λ_ _ c=>?_;refine c.v3 λ_ _ c=>?_;refine c.w2 6 λ_ c=>?_;refine c.w3 7 λ_ c=>?_;refine .here<|vx (v:=.bool false) rfl<|j7<|c.rl 7 ?_;refine c.rl 1 ?_;refine vx ((RI _ _).trans (by rw[decide_eq_false λh=>h e]))<|j7<|c.rl 6 ?_;refine c.rl 2 ?_;refine c.rl 7 ?_;refine Qy (B:=B.and M) (w:=new) ⟨B.up E c.gr,c.get (i:=5) rfl⟩ ok (k.qy _ _) K G hi λO N _ d J=>have c:=c.jT d;have c:=c.n9;c.al 7<|c.w2 3 λ_ c=>?_;refine c.al 7<|c.w3 4 λ_ c=>?_;refine c.rl 3 ?_;refine c.rl 4 ?_;exact u O [jR M,jR N] _ (Cx.pack (L:=[]) (c.pick [5,8])) (J.le Bs.FW)
 ·rw[Me.GC,if_neg e,decide_eq_false e] at u;have c:=Cx.jQ h;refine c.v2 λ_ _ c=>c.v3 λ_ _ c=>c.v3 λ_ _ c=>c.v2 λ_ _ c=>c.v3 λ_ _ c=>?_;refine c.rl 0 ?_;refine MA (B.up E c.gr) H k (by omega) G hi λq M _ d ok=>have c:=c.jT d;have c:=c.n6;vx rfl<|vx rfl<|vx rfl<|c.v2 λ_ _ c=>?_;refine c.v3 λ_ _ c=>?_;refine c.w2 6 λ_ c=>?_;refine c.w3 7 λ_ c=>?_;refine .here<|vx (v:=.bool false) rfl<|j7<|c.rl 7 ?_;refine c.rl 1 ?_;refine vx ((RI _ _).trans (by rw[decide_eq_true e]))<|kV<|c.rl 6 ?_;refine c.rl 7 ?_;refine c.w2 3 λ_ c=>?_;refine c.al 7<|c.w3 4 λ_ c=>?_;refine c.rl 3 ?_;refine c.rl 4 ?_;exact u q M _ (c.pick [5]) ok
end
section
variable {α:Type} {E:pT α} {v:Value} {xs:List α}
def Sl.isNil (H:Sl E h v xs):∃b,S8 v (.slice none 0 0)=some b/\(b=true->xs=[]):=by
 obtain⟨a,cap,rfl,h1,h2,q⟩:=H;cases a with
 | none=>exact⟨true,rfl,λ_=>List.eq_nil_of_length_eq_zero (by have:=h2 rfl; omega)⟩
 | some a=>exact⟨false,rfl,λe=>by cases e⟩
def yu {zero:Array Value} {n bytes:Nat} {e e':TypeId} (hs:Sl E h v xs) (G:n=E.n) (H:zero.size=E.n) (J:xs.length*bytes<=140737488355328) (M:xs.length<=1000000000) (q:∀u h',Cx (λ_=>False) h h' [kz E (jY u) xs]->R (jY u) h') :
  Vb (pos? (S8 v (.slice none 0 0))) λv4=>Br v4 (R (.slice none 0 0) h) (Eb (ED zero n 0 e [] h) λv5 h1=>Ap e' zero n bytes v5 v h1 λv7 h2=>R v7 h2):=by
 obtain⟨b,e,K⟩:=hs.isNil;rw[e];refine En.vb (v:=.bool b) rfl ?_;cases b with
 | true=>
  obtain rfl:=K rfl;exact q (none,0,0) _ ((Cx.jQ h).nil E)
 | false=>
  refine j7 ?_;have c:=Cx.jQ h;refine c.Fy E λu h1 c=>c.ap 0 rfl (ys:=xs) (hs.gr c.gr) G H (by simpa using J) (by simp only[aJ]; omega) λO h2 c=>?_;obtain⟨u,rfl⟩:=(c.sl (i:=0) rfl).tW;exact q u _ c
def NM {n:Nat} {u:Value} (hs:Sl E h v xs) (e:xO n v none (some (.int .i64 xs.length)) (some (.int .i64 xs.length))=some u) (q:R u h) :
  Vb (Ej v) λv5=>Vb (Ej v) λv7=>Vb (xO n v none (some v5) (some v7)) λv8=>R v8 h:=
 En.vb hs.ln (En.vb hs.ln (En.vb e q))
def Sl.Ea (hs:Sl E h v xs) {n:Nat} (q:n=E.n):∃a,xO n v none (some (.int .i64 xs.length)) (some (.int .i64 xs.length))=some (.slice a xs.length xs.length)/\Sl E h (.slice a xs.length xs.length) xs:=by
 obtain⟨a,e,Hc⟩:=hs.clip (n:=n) (k:=.i64) (k':=.i64) q rfl (aP _);rw[dD] at e Hc;exact⟨a,e,Hc⟩
def Cx.YW (c:Cx F0 h0 h L) (i:Nat) (hi:L[i]?=some (kz E v xs)) {p:Nat} {x:α} (H:xs[p]?=some x) (y:α) {n:Nat} (J:n=E.n) {q:IntKind} {z:Int} (K:z=p) {r o j:Nat} (e:sL n v (.int q z)=some (.pointer (some ⟨r,o,none⟩))) {w:Value} (hw:w.oneCell'=true) (M:j<E.n) (O:E.c y=(E.c x).set j w) {k:Hp->Prop}
  (Q:∀h',Cx F0 h0 h' (L.set i (kz E v (xs.set p y)))->k h'):Sb (En.kq 1 (.pointer (some ⟨r,o+j,none⟩)) w h) k:=by
 obtain⟨_,u,_,G,s⟩:=c.Dw i hi H y J K hw M O Q;rw[e] at u;injection u with u;subst u;rw[oi] at G;injection G with G;subst G;exact s
end
abbrev Dv:Type:=Int × W3
def WN:pT Dv:={n:=4,c:=λx=>[.int .i64 x.1,.int .i64 x.2.v,.int .u32 x.2.j8,.int .u32 x.2.ref],len:=λ_=>rfl,one:=λa v h=>by simp only[aU,bF,or_false] at h; rcases h with rfl | rfl | rfl | rfl <;> rfl}
def Ql:pT (SH × Int):={n:=2,c:=λx=>[jY x.1,.int .i64 x.2],len:=λ_=>rfl,one:=λa v h=>by simp only[aU,bF,or_false] at h; rcases h with rfl | rfl <;> rfl}
structure Li where
 fst:List W3
 lg:List (List Dv × Int)
 lx:Option Nat
structure LV where
 f:SH
 l:SH
 a:Option Nat
abbrev cLn (y:LV):List Value:=[jY y.f,jY y.l,.map y.a]
def Pn (y:LV):Value:=.agg #[jY y.f,jY y.l,.map y.a]
structure LO (B:Bs) (y:LV) (l:Li):Prop where
 fst:On B λh=>Sl EW h (jY y.f) l.fst
 lg:∃us:List (SH × Int),(On B λh=>Sl Ql h (jY y.l) us)/\us.length=l.lg.length/\∀(i:Nat) (u:SH × Int) (g:List Dv × Int),us[i]?=some u->l.lg[i]?=some g->u.2=g.2/\On B λh=>Sl WN h (jY u.1) g.1
 lx:y.a=l.lx
def LO.le {y:LV} {l:Li} (H:LO B y l) (le:B.le B'):LO B' y l:=by
 obtain⟨a,⟨us,b,c,d⟩,e⟩:=H;exact⟨a.le le,⟨us,b.le le,c,λi u g h1 h2=>⟨(d i u g h1 h2).1,(d i u g h1 h2).2.le le⟩⟩,e⟩
structure Lk (n b:Nat) (l:Li):Prop where
 fst:l.fst.length=n
 lg:l.lg.length=(n+7) / 8
 le:n<=4096
 len:∀g∈l.lg,g.1.length<=b
def Li.kq (l:Li) (i:Nat) (w:W3):Li:={l with lg:=l.lg.set (i / 8) (((l.lg.getD (i / 8) ([],0)).1++[((i:Int),w)]),(l.lg.getD (i / 8) ([],0)).2)}
def Lk.kq {n b i:Nat} {l:Li} {w:W3} (k:Lk n b l) (hi:i<n):Lk n (b+1) (l.kq i w):=by
 refine⟨k.fst,(aV ..).trans k.lg,k.le,λg q=>?_⟩;rcases cJ q with h | rfl
 ·have:=k.len g h;omega
 ·have u:=k.lg;have:l.lg[i / 8]?=some (l.lg.getD (i / 8) ([],0)):=by
   rw[aI,aB (by omega)];rfl
  have:=k.len _ (aG this);rw[aF,aE];omega
section
variable {n b i:Nat} {y:LV} {l:Li} {w:W3} {ws:List W3}
def yF {v:Value} (hs:Sl EW h v ws) (G:ws.length<=1000000) (q:∀u h',Cx (λ_=>False) h h' [kz EW (jY u) ws]->R (jY u) h'):S.C 82 [v] h R:=by
 refine nC.2 ?_;dsimp only[nC,oH];exact yu hs rfl rfl (by omega) (by omega) q
def BV {v:Value} {us:List (SH × Int)} (hs:Sl Ql h v us) (G:us.length<=1000000) (q:∀u h',Cx (λ_=>False) h h' [kz Ql (jY u) us]->R (jY u) h'):S.C 121 [v] h R:=by
 refine nI.2 ?_;dsimp only[nI,oH];exact yu hs rfl rfl (by omega) (by omega) q
def sA {v:Value} {us:List Int} (hs:Sl rI h v us) (G:us.length<=1000000) (q:∀u h',Cx (λ_=>False) h h' [kz rI (jY u) us]->R (jY u) h'):S.C 58 [v] h R:=by
 refine qL.2 ?_;dsimp only[qL,oH];exact yu hs rfl rfl (by omega) (by omega) q
def Nf {v u:Value} {us:List Dv} (hs:Sl WN h v us) (e:xO 4 v none (some (.int .i64 us.length)) (some (.int .i64 us.length))=some u) (q:R u h):S.C 136 [v] h R:=by
 refine m9.2 ?_;dsimp only[m9,oH];exact NM hs e q
def JN (q:B.p h) (H:LO B y l) (k:Lk n b l) (hi:i<n) (u:∀h',Gr h h'->R (.bool true) h'):S.C 118 [(Pn y),(.int .i64 i)] h R:=by
 refine Ct.2 ?_;have G:=k.fst;have c:=Cx.jQ h;refine c.v3 λ_ _ c=>?_;refine .here<|vx (s0 (by omega))<|kV<|jS<|c.rc 0 ?_;exact vx (H.fst h q).ln<|vx (vF (by omega))<|u _ c.gr
def FH (U:B.p h) (H:LO B y l) (k:Lk n b l) (hb:b<=900000) (hi:i<n)
  (hR:∀y',Rt B h (λB=>LO B y' (l.kq i w)) λh'=>R (.tuple #[Pn y',.int .i64 0]) h'):S.C 116 [(Pn y),(.int .i64 i),(mW w)] h R:=by
 refine AI.2 ?_;obtain⟨us,h1,h2,X⟩:=H.lg;have hl:=k.lg;have hle:=k.le;have Z:i / 8<us.length:=by omega
 have hu:=aB (l:=us) (i:=i / 8) Z;have hg:l.lg[i / 8]?=some (l.lg.getD (i / 8) ([],0)):=by
  rw[aI,aB (by omega)];rfl
 obtain⟨e2,s1⟩:=X _ _ _ hu hg;have eQ:=k.len _ (aG hg);generalize us[i / 8]=u at hu e2 s1;obtain⟨u,kp⟩:=u;dsimp only at e2 s1;obtain⟨ac,ec,Hc⟩:=(s1 h U).Ea (n:=4) rfl;have aS:((i:Int)) / 8=((i / 8:Nat):Int):=by omega
 have fin:∀(f K:SH) (M:List km) (J:SH),M=[kz Ql (jY K) (us.set (i / 8) (J,kp)),kz WN (jY J) ((l.lg.getD (i / 8) ([],0)).1++[((i:Int),w)])]->LO (B.and M) ⟨y.f,K,y.a⟩ (l.kq i w):=λf K M J hM=>by
  subst hM;refine⟨H.fst.le (Bs.jX _ _),⟨_,On.sl (i:=0) rfl,by rw[aV,Li.kq,aV,h2],λj p q Q O=>?_⟩,H.lx⟩;have O:(l.lg.set (i / 8) (((l.lg.getD (i / 8) ([],0)).1++[((i:Int),w)]),(l.lg.getD (i / 8) ([],0)).2))[j]?=some q:=O;rw[bH] at Q O;by_cases ej:i / 8=j
  ·rw[if_pos ej,if_pos (by omega)] at Q O;injection Q with Q;injection O with O;subst Q O;exact⟨e2,On.sl (i:=1) rfl⟩
  ·rw[if_neg ej] at Q O;exact⟨(X j p q Q O).1,(X j p q Q O).2.le (Bs.jX _ _)⟩
 have c:=Cx.jQ h;refine c.v3 λ_ _ c=>c.v3 λ_ _ c=>c.v3 λ_ _ c=>?_;refine c.rl 0 ?_;refine JN (B.up U c.gr) H k hi λ_ g=>have c:=c.more g;vx (v:=.bool false) (rfl)<|j7<|jS<|c.rc 0 ?_;refine BV (h1 _ (B.up U c.gr)) (by omega) λK _ d=>have c:=c.jT d;have c:=c.n4;jS<|c.q3 0 λ_ c=>?_;refine jS<|c.rc 0 ?_;refine vx (FC ⟨by omega,by omega⟩ (by decide)) ?_;rw[aS];obtain⟨r,o,cap,el,V,row⟩:=(c.sl (i:=3) rfl).ix hu (n:=2) rfl (k:=.i64) (z:=((i / 8:Nat):Int)) rfl;refine vx V ?_;refine .here<|vx rfl<|vx (oi _ _ _)<|vx (row.mH (j:=0) rfl)<|c.rl 1 ?_;refine vx (jU (ds:=[_,_,_,_]) rfl)<|⟨?_,?_⟩
 ·refine Nf (s1 _ (B.up U c.gr)) ec ?_;refine c.al 1<|c.lW WN ((i:Int),w) rfl rfl λaT _ c=>have c:=c.n5;c.S9 (Hc.gr c.gr) (c.sl (i:=4) rfl).sl (by simp) rfl rfl (by rw[aE]; omega) (by rw[aE]; omega) λbY _ c=>?_;obtain⟨J,rfl⟩:=(c.sl (i:=5) rfl).tW;replace c:=c.n6;refine vx rfl<|vx (oi _ _ _)<|c.YW 3 rfl hu (J,kp) rfl rfl (j:=0) V rfl (by decide) rfl λ_ c=>have c:=c.n6;c.rl 0 ?_;refine c.w3 2 λ_ c=>?_;refine c.rl 2 ?_;exact hR ⟨y.f,K,y.a⟩ [kz Ql (jY K) (us.set (i / 8) (J,kp)),kz WN (jY J) ((l.lg.getD (i / 8) ([],0)).1++[((i:Int),w)])] _ (Cx.pack (L:=[]) (c.pick [3,5])) (fin y.f K _ J rfl)
 ·refine c.lW WN ((i:Int),w) rfl rfl λaT _ c=>?_;replace c:=c.n5;obtain⟨r',o',dO,iF,G,T⟩:=(c.sl (i:=3) rfl).ix hu (n:=2) rfl (k:=.i64) (z:=((i / 8:Nat):Int)) rfl;rw[V] at G;injection G with G;injection G with G;injection G with G;injection G with e7 e8;subst e7;rw[<-e8] at T;refine aQ (T.mH (j:=0) rfl) ?_;refine Nf (s1 _ (B.up U c.gr)) ec ?_;refine c.S9 (Hc.gr c.gr) (c.sl (i:=4) rfl).sl (by simp) rfl rfl (by rw[aE]; omega) (by rw[aE]; omega) λbY _ c=>?_;obtain⟨J,rfl⟩:=(c.sl (i:=5) rfl).tW;replace c:=c.n6;refine vx rfl<|vx (oi _ _ _)<|c.YW 3 rfl hu (J,kp) rfl rfl (j:=0) V rfl (by decide) rfl λ_ c=>have c:=c.n6;c.rl 0 ?_;refine c.w3 2 λ_ c=>?_;refine c.rl 2 ?_;exact hR ⟨y.f,K,y.a⟩ [kz Ql (jY K) (us.set (i / 8) (J,kp)),kz WN (jY J) ((l.lg.getD (i / 8) ([],0)).1++[((i:Int),w)])] _ (Cx.pack (L:=[]) (c.pick [3,5])) (fin y.f K _ J rfl)
end
structure MV where
 x:SH × SH
 y:LV
 s:SH
 cr:Int
abbrev ZT (v:MV):List Value:=[jY v.x.1,jY v.x.2,jY v.y.f,jY v.y.l,.map v.y.a,jY v.s,.int .i64 v.cr]
def CW (v:MV):Value:=.agg #[jY v.x.1,jY v.x.2,jY v.y.f,jY v.y.l,.map v.y.a,jY v.s,.int .i64 v.cr]
structure Mc where
 me:Me
 li:Li
structure KO (B:Bs) (T:Nat) (v:MV) (m:Mc):Prop where
 me:MO B v.x m.me
 li:LO B v.y m.li
 st:∃ss:List Int,(On B λh=>Sl rI h (jY v.s) ss)/\ss.length=T
def KO.le {T:Nat} {v:MV} {m:Mc} (H:KO B T v m) (l:B.le B'):KO B' T v m:=let⟨a,b,ss,c,d⟩:=H; ⟨a.le l,b.le l,ss,c.le l,d⟩
structure Kk (T n b:Nat) (m:Mc):Prop where
 me:Mk T n b m.me
 li:Lk n b m.li
def Mc.look (m:Mc) (t i:Nat):Mc:={m with me:=m.me.qy t i ((m.me.at i).length - 1) (m.me.top i) true}
def Mc.swap (m:Mc) (t i:Nat) (old new:W3):Mc:={me:=m.me.GC t i old new,li:=if (m.me.top i).w=old then m.li.kq i new else m.li}
def Mc.put (m:Mc) (t i:Nat) (w:W3) (wl:Bool):Mc:={me:=m.me.add t i w wl,li:=m.li.kq i w}
section
variable {T n b t i:Nat} {v:MV} {m:Mc} {w:W3}
def Lk.up {q:Nat} {l:Li} (k:Lk n b l) (u:b<=q):Lk n q l:=⟨k.fst,k.lg,k.le,λg E=>cD (k.len g E) u⟩
def Mk.up {q:Nat} {m:Me} (k:Mk T n b m) (E:b<=q):Mk T n q m:=⟨k.vs,k.hs,k.le,λg u=>⟨(k.len g u).1,cD (k.len g u).2 E⟩⟩
def BE (q:B.p h) (H:KO B T v m) (k:Kk T n b m) (u:∀h',Gr h h'->R (.tuple #[.int .i64 T,.int .i64 n]) h'):S.C 46 [(CW v)] h R:=by
 refine wZ.2<|have c:=Cx.jQ h;c.v7 λ_ _ c=>?_;refine jS<|vx (c.vp (i:=0) (ds:=[_,_]) rfl rfl rfl)<|Tq (x:=v.x) (B.up q c.gr) H.me k.me λ_ g=>have c:=c.more g;vx rfl<|vx rfl<|u _ c.gr
def tm (q:B.p h) (H:KO B T v m) (k:Kk T n b m) (u:b<=1000000) (hi:i<n) (E:∀h',Gr h h'->R (.tuple #[mW (m.me.top i).w,.bool true]) h'):S.C 27 [(CW v),(.int .i64 i)] h R:=by
 refine wQ.2<|have c:=Cx.jQ h;c.v7 λ_ _ c=>?_;refine c.v3 λ_ _ c=>?_;refine jS<|vx (c.vp (i:=0) (ds:=[_,_]) rfl rfl rfl)<|TA (x:=v.x) (B.up q c.gr) H.me k.me u hi λ_ g=>have c:=c.more g;vx rfl<|vx rfl<|c.w3 1 λ_ c=>?_;refine c.rl 1 ?_;exact E _ c.gr
def tM (J:B.p h) (H:KO B T v m) (k:Kk T n b m) (K:1<=t/\t<=T) {a:Ac} (ho:0<=a.op/\a.op<=8) (E:a.op≠0->a.op≠8->0<=a.at'/\a.at'<n) (G:∀h',Gr h h'->R (.int .i64 0) h'):S.C 87 [(CW v),(.int .i64 t),(qZ a)] h R:=by
 refine wu.2<|have c:=Cx.jQ h;c.v7 λ_ _ c=>?_;refine c.v8 λ_ _ c=>?_;refine c.rl 0 ?_;refine BE (v:=v) (B.up J c.gr) H k λ_ g=>have c:=c.more g;vx rfl<|vx rfl ?_;refine .here<|vx (lL (by omega))<|j7<|vx (pW (by omega))<|j7 ?_;refine .here<|jS<|c.rc 1 ?_;refine vx (lL (by omega))<|j7<|jS<|c.rc 1 ?_;refine vx (pW (by omega))<|j7 ?_;refine .here<|jS<|c.rc 1 ?_;refine vx mh<|lV (λq=>?_) λq=>?_
 ·refine jS<|c.rc 1 ?_;refine vx mh<|lV (λu=>?_) λu=>?_
  ·refine jS<|c.rc 1 ?_;refine vx (lL (Int.not_lt.2 (E q u).1))<|j7<|jS<|c.rc 1 ?_;exact vx (oV (Int.not_le.2 (E q u).2))<|j7<|G _ c.gr
  ·exact j7<|G _ c.gr
 ·exact j7<|G _ c.gr
def Ad {a:Ac} {r:Bool} (E:r=decide (a.op=3\/a.op=4\/a.op=6)) (G:∀h',Gr h h'->R (.bool r) h'):S.C 88 [(qZ a)] h R:=by
 refine AP.2 ?_;have h1:a.op=3->∀h',Gr h h'->R (.bool true) h':=λe h' g=>by
  have:=G h' g;rwa [E,decide_eq_true (.inl e)] at this
 have h2:a.op=4->∀h',Gr h h'->R (.bool true) h':=λe h' g=>by
  have:=G h' g;rwa [E,decide_eq_true (.inr (.inl e))] at this
 have H:¬a.op=3->¬a.op=4->∀h',Gr h h'->R (.bool (decide (a.op=6))) h':=λq u h' g=>by
  have:=G h' g;rwa [E,show decide (a.op=3\/a.op=4\/a.op=6)=decide (a.op=6) from decide_eq_decide.2 ⟨λh=>h.elim (λh=>absurd h q) λh=>h.elim (λh=>absurd h u) id,λh=>.inr (.inr h)⟩] at this
 have c:=Cx.jQ h;refine c.v8 λ_ _ c=>?_;refine .here<|jS<|c.rc 0 ?_;refine vx kU<|lV (λq=>?_) λq=>?_
 ·first | exact h1 q _ c.gr | exact h2 u _ c.gr | exact H q u _ c.gr
 ·refine jS<|c.rc 0 ?_;refine vx kU<|lV (λu=>?_) λu=>?_
  ·first | exact h1 q _ c.gr | exact h2 u _ c.gr | exact H q u _ c.gr
  ·refine jS<|c.rc 0 ?_;refine vx kU ?_;first | exact h1 q _ c.gr | exact h2 u _ c.gr | exact H q u _ c.gr
def UN (E:B.p h) (H:KO B T v m) (k:Kk T n b m) (G:b<=1000000) (J:1<=t/\t<=T) (hi:i<n) {K O:W3} {ch:Value} (Q:∀q,Rt B h (λB=>KO B T q (m.look t i)) λh'=>R (.tuple #[CW q,mU ⟨(m.me.top i).w,true⟩]) h'):S.C 92 [(CW v),(.int .i64 t),(qZ ⟨5,i,K,O⟩),ch] h R:=by
 refine ou.2<|have c:=Cx.jQ h;c.v7 λ_ _ c=>?_;refine c.v8 λ_ _ c=>c.v7 λ_ _ c=>c.v4 λ_ _ c=>c.v3 λ_ _ c=>?_;refine .here<|jS<|c.rc 1 ?_;refine vx (v:=.bool true) rfl<|kV<|jS<|vx (c.vp (i:=0) (ds:=[_,_]) rfl rfl rfl)<|jS<|c.rc 1 ?_;refine MA (x:=v.x) (B.up E c.gr) H.me k.me G J hi λU M _ d ok=>have c:=c.jT d;have c:=c.n6;vx rfl<|vx rfl<|vx rfl<|jS<|c.vq 0 rfl (vs:=[_,_]) (ds:=[_,_,_,_,_,_,_]) (by exact rfl) (by exact rfl) (by exact rfl) (by exact rfl) (by exact rfl) λ_ c=>?_;replace c:=c.n6;refine c.w3 4 λ_ c=>?_;refine c.rl 0 ?_;refine c.rl 4 ?_;refine vx (jU (ds:=[_,_,_,_]) rfl)<|c.w7 2 λ_ c=>?_;refine c.al 4<|c.w4 3 λ_ c=>?_;refine c.rl 2 ?_;refine c.rl 3 ?_;exact Q {v with x:=U} M _ (c.pick [5]) (let u:=H.le (Bs.jX B M); ⟨ok,u.li,u.st⟩)
def Vp (E:B.p h) (H:KO B T v m) (k:Kk T n b m) (G:b<=900000) (O:1<=t/\t<=T) (hi:i<n) {old new:W3} (q:∀Q,Rt B h (λB=>KO B T Q (m.swap t i old new)) λh'=>R (.tuple #[CW Q,mU ⟨(m.me.top i).w,decide ((m.me.top i).w=old)⟩]) h'):S.C 89 [(CW v),(.int .i64 t),(qZ ⟨6,i,old,new⟩)] h R:=by
 refine qq.2 ?_;by_cases e:(m.me.top i).w=old
 ·rw[Mc.swap,if_pos e,decide_eq_true e] at q;have c:=Cx.jQ h;refine c.v7 λ_ _ c=>c.v8 λ_ _ c=>c.v7 λ_ _ c=>c.v4 λ_ _ c=>?_;refine vx (jU (ds:=[_,_,_,_]) rfl)<|c.v4 λ_ _ c=>?_;refine c.w4 4 λ_ c=>?_;refine .here<|jS<|c.rc 1 ?_;refine vx (v:=.bool true) rfl<|kV<|jS<|vx (c.vp (i:=0) (ds:=[_,_]) rfl rfl rfl)<|jS<|c.rc 1 ?_;refine jS<|vx (c.vp (i:=1) (ds:=[_,_,_]) rfl rfl rfl)<|jS<|vx (c.vp (i:=1) (ds:=[_,_,_]) rfl rfl rfl)<|Rr (x:=v.x) (old:=old) (new:=new) (B.up E c.gr) H.me k.me G O hi λJ M _ d ok=>?_;rw[decide_eq_true e];have c:=c.jT d;replace c:=c.n6;refine vx rfl<|vx rfl<|vx rfl<|vx rfl<|jS<|c.vq 0 rfl (vs:=[_,_]) (ds:=[_,_,_,_,_,_,_]) (by exact rfl) (by exact rfl) (by exact rfl) (by exact rfl) (by exact rfl) λ_ c=>?_;replace c:=c.n6;refine jS<|c.vq 4 rfl (vs:=[_,_,_]) (ds:=[_,_,_,_]) (by exact rfl) (by exact rfl) (by exact rfl) (by exact rfl) (by exact rfl) λ_ c=>?_;replace c:=c.n6;refine jS<|c.q4 4 λ_ c=>?_;refine .here<|jS<|c.rc 4 ?_;refine kV<|jS<|vx (c.vp (i:=0) (ds:=[_,_,_]) rfl rfl rfl)<|jS<|c.rc 1 ?_;refine jS<|vx (c.vp (i:=1) (ds:=[_,_,_]) rfl rfl rfl)<|FH (y:=v.y) (w:=new) (B.up E c.gr) H.li k.li G hi λU N _ d K=>have c:=c.jT d;have c:=c.n7;vx rfl<|vx rfl<|jS<|c.vq 0 rfl (vs:=[_,_,_]) (ds:=[_,_,_,_,_,_,_]) (by exact rfl) (by exact rfl) (by exact rfl) (by exact rfl) (by exact rfl) λ_ c=>?_;replace c:=c.n7;refine c.rl 0 ?_;refine c.rl 4 ?_;refine c.w7 2 λ_ c=>?_;refine c.al 4<|c.w4 3 λ_ c=>?_;refine c.rl 2 ?_;refine c.rl 3 ?_;exact q {v with x:=J,y:=U} [jR M,jR N] _ (Cx.pack (L:=[]) (c.pick [5,6])) (let u:=H.le (Bs.jX B [jR M,jR N]); ⟨ok.le λh b=>⟨b.1,Bs.star b (i:=0) rfl⟩,K.le λh b=>⟨b.1,Bs.star b (i:=1) rfl⟩,u.st⟩)
 ·rw[Mc.swap,if_neg e,decide_eq_false e] at q;have c:=Cx.jQ h;refine c.v7 λ_ _ c=>c.v8 λ_ _ c=>c.v7 λ_ _ c=>c.v4 λ_ _ c=>?_;refine vx (jU (ds:=[_,_,_,_]) rfl)<|c.v4 λ_ _ c=>?_;refine c.w4 4 λ_ c=>?_;refine .here<|jS<|c.rc 1 ?_;refine vx (v:=.bool true) rfl<|kV<|jS<|vx (c.vp (i:=0) (ds:=[_,_]) rfl rfl rfl)<|jS<|c.rc 1 ?_;refine jS<|vx (c.vp (i:=1) (ds:=[_,_,_]) rfl rfl rfl)<|jS<|vx (c.vp (i:=1) (ds:=[_,_,_]) rfl rfl rfl)<|Rr (x:=v.x) (old:=old) (new:=new) (B.up E c.gr) H.me k.me G O hi λJ M _ d ok=>?_;rw[decide_eq_false e];have c:=c.jT d;replace c:=c.n6;refine vx rfl<|vx rfl<|vx rfl<|vx rfl<|jS<|c.vq 0 rfl (vs:=[_,_]) (ds:=[_,_,_,_,_,_,_]) (by exact rfl) (by exact rfl) (by exact rfl) (by exact rfl) (by exact rfl) λ_ c=>?_;replace c:=c.n6;refine jS<|c.vq 4 rfl (vs:=[_,_,_]) (ds:=[_,_,_,_]) (by exact rfl) (by exact rfl) (by exact rfl) (by exact rfl) (by exact rfl) λ_ c=>?_;replace c:=c.n6;refine jS<|c.q4 4 λ_ c=>?_;refine .here<|jS<|c.rc 4 ?_;refine j7<|c.rl 0 ?_;refine c.rl 4 ?_;refine c.w7 2 λ_ c=>?_;refine c.al 4<|c.w4 3 λ_ c=>?_;refine c.rl 2 ?_;refine c.rl 3 ?_;exact q {v with x:=J} M _ (c.pick [5]) (let u:=H.le (Bs.jX B M); ⟨ok,u.li,u.st⟩)
def XZ (u:B.p h) (H:KO B T v m) (k:Kk T n b m) (E:b<=900000) (O:1<=t/\t<=T) (hi:i<n) {wl:Bool} {V:W3} (Q:∀U,Rt B h (λB=>KO B T U (m.put t i w wl)) λh'=>R (.tuple #[CW U,mU ⟨W0,true⟩]) h'):S.C 89 [(CW v),(.int .i64 t),(qZ ⟨if wl then 4 else 3,i,V,w⟩)] h R:=by
 refine qq.2 ?_;cases wl with
 | true=>
  have c:=Cx.jQ h;refine c.v7 λ_ _ c=>c.v8 λ_ _ c=>c.v7 λ_ _ c=>c.v4 λ_ _ c=>?_;refine vx (jU (ds:=[_,_,_,_]) rfl)<|c.v4 λ_ _ c=>?_;refine c.w4 4 λ_ c=>?_;refine .here<|jS<|c.rc 1 ?_;refine vx (v:=.bool false) rfl<|j7<|jS<|vx (c.vp (i:=0) (ds:=[_,_]) rfl rfl rfl)<|jS<|c.rc 1 ?_;refine jS<|vx (c.vp (i:=1) (ds:=[_,_,_]) rfl rfl rfl)<|jS<|c.rc 1 ?_;refine vx (v:=.bool true) rfl<|NI (x:=v.x) (w:=w) (B.up u c.gr) H.me k.me E O hi λG M _ d ok=>have c:=c.jT d;have c:=c.n6;vx rfl<|vx rfl<|jS<|c.vq 0 rfl (vs:=[_,_]) (ds:=[_,_,_,_,_,_,_]) (by exact rfl) (by exact rfl) (by exact rfl) (by exact rfl) (by exact rfl) λ_ c=>?_;replace c:=c.n6;refine .here<|jS<|c.rc 4 ?_;refine kV<|jS<|vx (c.vp (i:=0) (ds:=[_,_,_]) rfl rfl rfl)<|jS<|c.rc 1 ?_;refine jS<|vx (c.vp (i:=1) (ds:=[_,_,_]) rfl rfl rfl)<|FH (y:=v.y) (w:=w) (B.up u c.gr) H.li k.li E hi λJ N _ d q=>have c:=c.jT d;have c:=c.n7;vx rfl<|vx rfl<|jS<|c.vq 0 rfl (vs:=[_,_,_]) (ds:=[_,_,_,_,_,_,_]) (by exact rfl) (by exact rfl) (by exact rfl) (by exact rfl) (by exact rfl) λ_ c=>?_;replace c:=c.n7;refine c.rl 0 ?_;refine c.rl 4 ?_;refine c.w7 2 λ_ c=>?_;refine c.al 4<|c.w4 3 λ_ c=>?_;refine c.rl 2 ?_;refine c.rl 3 ?_;exact Q {v with x:=G,y:=J} [jR M,jR N] _ (Cx.pack (L:=[]) (c.pick [5,6])) (let K:=H.le (Bs.jX B [jR M,jR N]); ⟨ok.le λh b=>⟨b.1,Bs.star b (i:=0) rfl⟩,q.le λh b=>⟨b.1,Bs.star b (i:=1) rfl⟩,K.st⟩)
 | false=>
  have c:=Cx.jQ h;refine c.v7 λ_ _ c=>c.v8 λ_ _ c=>c.v7 λ_ _ c=>c.v4 λ_ _ c=>?_;refine vx (jU (ds:=[_,_,_,_]) rfl)<|c.v4 λ_ _ c=>?_;refine c.w4 4 λ_ c=>?_;refine .here<|jS<|c.rc 1 ?_;refine vx (v:=.bool false) rfl<|j7<|jS<|vx (c.vp (i:=0) (ds:=[_,_]) rfl rfl rfl)<|jS<|c.rc 1 ?_;refine jS<|vx (c.vp (i:=1) (ds:=[_,_,_]) rfl rfl rfl)<|jS<|c.rc 1 ?_;refine vx (v:=.bool false) rfl<|NI (x:=v.x) (w:=w) (B.up u c.gr) H.me k.me E O hi λG M _ d ok=>have c:=c.jT d;have c:=c.n6;vx rfl<|vx rfl<|jS<|c.vq 0 rfl (vs:=[_,_]) (ds:=[_,_,_,_,_,_,_]) (by exact rfl) (by exact rfl) (by exact rfl) (by exact rfl) (by exact rfl) λ_ c=>?_;replace c:=c.n6;refine .here<|jS<|c.rc 4 ?_;refine kV<|jS<|vx (c.vp (i:=0) (ds:=[_,_,_]) rfl rfl rfl)<|jS<|c.rc 1 ?_;refine jS<|vx (c.vp (i:=1) (ds:=[_,_,_]) rfl rfl rfl)<|FH (y:=v.y) (w:=w) (B.up u c.gr) H.li k.li E hi λJ N _ d q=>have c:=c.jT d;have c:=c.n7;vx rfl<|vx rfl<|jS<|c.vq 0 rfl (vs:=[_,_,_]) (ds:=[_,_,_,_,_,_,_]) (by exact rfl) (by exact rfl) (by exact rfl) (by exact rfl) (by exact rfl) λ_ c=>?_;replace c:=c.n7;refine c.rl 0 ?_;refine c.rl 4 ?_;refine c.w7 2 λ_ c=>?_;refine c.al 4<|c.w4 3 λ_ c=>?_;refine c.rl 2 ?_;refine c.rl 3 ?_;exact Q {v with x:=G,y:=J} [jR M,jR N] _ (Cx.pack (L:=[]) (c.pick [5,6])) (let K:=H.le (Bs.jX B [jR M,jR N]); ⟨ok.le λh b=>⟨b.1,Bs.star b (i:=0) rfl⟩,q.le λh b=>⟨b.1,Bs.star b (i:=1) rfl⟩,K.st⟩)
inductive Ak where
 | rest
 | look (i:Nat)
 | swap (i:Nat) (old new:W3)
 | put (i:Nat) (w:W3) (wl:Bool)
def Ak.ac:Ak->Ac
 | .rest=>o8
 | .look i=>⟨5,i,W0,W0⟩
 | .swap i old new=>⟨6,i,old,new⟩
 | .put i w wl=>⟨if wl then 4 else 3,i,W0,w⟩
def Ak.ok (n:Nat):Ak->Prop
 | .rest=>True
 | .look i=>i<n
 | .swap i _ _=>i<n
 | .put i _ _=>i<n
def Mc.act (m:Mc) (t:Nat):Ak->Mc × lA
 | .rest=>(m,⟨W0,true⟩)
 | .look i=>(m.look t i,⟨(m.me.top i).w,true⟩)
 | .swap i old new=>(m.swap t i old new,⟨(m.me.top i).w,decide ((m.me.top i).w=old)⟩)
 | .put i w wl=>(m.put t i w wl,⟨W0,true⟩)
def NP (q:B.p h) (H:KO B T v m) (k:Kk T n b m) (V:b<=900000) (J:1<=t/\t<=T) {a:Ak} (Q:a.ok n) {ch:Value} (U:∀G,Rt B h (λB=>KO B T G (m.act t a).1) λh'=>R (.tuple #[CW G,mU (m.act t a).2,.int .i64 0]) h'):S.C 60 [(CW v),(.int .i64 t),(qZ a.ac),ch] h R:=by
 refine lE.2 ?_;obtain⟨ss,hs,K⟩:=H.st;have hle:=k.me.le;have u:=aB (l:=ss) (i:=t - 1) (by omega);generalize ss[t - 1]'(by omega)=z at u;have et:((t:Nat):Int) - 1=((t - 1:Nat):Int):=by omega
 cases a with
 | rest=>
  have c:=Cx.jQ h;refine c.v7 λ_ _ c=>c.v8 λ_ _ c=>c.v7 λ_ _ c=>c.v4 λ_ _ c=>?_;refine c.rl 0 ?_;refine c.rl 1 ?_;refine tM (v:=v) (a:=o8) (B.up q c.gr) H k J ⟨by decide,by decide⟩ (λe=>absurd rfl e) λ_ g=>have c:=c.more g;vx (v:=.bool false) rfl<|j7<|vx (jU (ds:=[_,_,_,_]) rfl)<|c.v4 λ_ _ c=>?_;refine c.w4 4 λ_ c=>?_;refine .here<|c.rl 1 ?_;refine Ad (a:=o8) (r:=false) rfl λ_ g=>have c:=c.more g;j7<|jS<|c.rc 1 ?_;refine vx (v:=.bool false) rfl<|j7<|jS<|c.rc 1 ?_;refine vx (v:=.bool false) rfl<|j7<|jS<|c.rc 1 ?_;refine vx (v:=.bool false) rfl<|j7<|jS<|c.rc 0 ?_;refine sA (hs _ (B.up q c.gr)) (by omega) λs' _ d=>have c:=c.jT d;have c:=c.n6;jS<|c.q7 0 λ_ c=>?_;refine jS<|c.rc 0 ?_;refine vx (nu ⟨by omega,by omega⟩) ?_;rw[et];obtain⟨r,o,cap,el,O,row⟩:=(c.sl (i:=5) rfl).ix u (n:=1) rfl (k:=.i64) (z:=((t - 1:Nat):Int)) rfl;refine vx O<|vx (row.yK rfl)<|vx (ni _ _)<|c.Bp 5 rfl (j:=t - 1) (by omega) (tG (z+1)) rfl rfl rfl λ_ c=>have c:=c.n6;c.rl 0 ?_;refine c.rl 4 ?_;refine c.w7 2 λ_ c=>?_;refine c.al 4<|c.w4 3 λ_ c=>?_;refine c.rl 2 ?_;refine c.rl 3 ?_;exact U {v with s:=s'} [kz rI (jY s') (ss.set (t - 1) (tG (z+1)))] _ (Cx.pack (L:=[]) (c.pick [5])) (let E:=H.le (Bs.jX B _); ⟨E.me,E.li,_,On.sl (i:=0) rfl,by rw[aV]; exact K⟩)
 | look i=>
  have c:=Cx.jQ h;refine c.v7 λ_ _ c=>c.v8 λ_ _ c=>c.v7 λ_ _ c=>c.v4 λ_ _ c=>?_;refine c.rl 0 ?_;refine c.rl 1 ?_;refine tM (v:=v) (a:=⟨5,i,W0,W0⟩) (B.up q c.gr) H k J ⟨by dsimp only; decide,by dsimp only; decide⟩ (λ_ _=>⟨bL i,dU.2 Q⟩) λ_ g=>have c:=c.more g;vx (v:=.bool false) rfl<|j7<|vx (jU (ds:=[_,_,_,_]) rfl)<|c.v4 λ_ _ c=>?_;refine c.w4 4 λ_ c=>?_;refine .here<|c.rl 1 ?_;refine Ad (a:=⟨5,i,W0,W0⟩) (r:=false) rfl λ_ g=>have c:=c.more g;j7<|jS<|c.rc 1 ?_;refine vx (v:=.bool false) rfl<|j7<|jS<|c.rc 1 ?_;refine vx (v:=.bool false) rfl<|j7<|jS<|c.rc 1 ?_;refine vx (v:=.bool true) rfl<|kV<|c.rl 0 ?_;refine c.rl 1 ?_;refine UN (v:=v) (B.up q c.gr) H k (by omega) J Q λG M _ d ok=>?_;have c:=c.jT d;obtain⟨ss,hs,K⟩:=ok.st;have u:=aB (l:=ss) (i:=t - 1) (by omega);generalize ss[t - 1]'(by omega)=z at u;replace c:=c.n6;refine vx rfl<|vx rfl<|c.w7 0 λ_ c=>?_;refine c.w4 4 λ_ c=>?_;refine jS<|c.rc 0 ?_;refine sA (hs _ ⟨B.up q c.gr,c.get (i:=5) rfl⟩) (by omega) λs' _ d=>have c:=c.jT d;have c:=c.n7;jS<|c.q7 0 λ_ c=>?_;refine jS<|c.rc 0 ?_;refine vx (nu ⟨by omega,by omega⟩) ?_;rw[et];obtain⟨r,o,cap,el,O,row⟩:=(c.sl (i:=6) rfl).ix u (n:=1) rfl (k:=.i64) (z:=((t - 1:Nat):Int)) rfl;refine vx O<|vx (row.yK rfl)<|vx (ni _ _)<|c.Bp 6 rfl (j:=t - 1) (by omega) (tG (z+1)) rfl rfl rfl λ_ c=>have c:=c.n7;c.rl 0 ?_;refine c.rl 4 ?_;refine c.w7 2 λ_ c=>?_;refine c.al 4<|c.w4 3 λ_ c=>?_;refine c.rl 2 ?_;refine c.rl 3 ?_;exact U {G with s:=s'} [jR M,kz rI (jY s') (ss.set (t - 1) (tG (z+1)))] _ (Cx.pack (L:=[]) (c.pick [5,6])) (let E:=ok.le (B':=B.and [jR M,kz rI (jY s') (ss.set (t - 1) (tG (z+1)))]) λh b=>⟨b.1,Bs.star b (i:=0) rfl⟩; ⟨E.me,E.li,_,On.sl (i:=1) rfl,by rw[aV]; exact K⟩)
 | swap i old new=>
  have c:=Cx.jQ h;refine c.v7 λ_ _ c=>c.v8 λ_ _ c=>c.v7 λ_ _ c=>c.v4 λ_ _ c=>?_;refine c.rl 0 ?_;refine c.rl 1 ?_;refine tM (v:=v) (a:=⟨6,i,old,new⟩) (B.up q c.gr) H k J ⟨by dsimp only; decide,by dsimp only; decide⟩ (λ_ _=>⟨bL i,dU.2 Q⟩) λ_ g=>have c:=c.more g;vx (v:=.bool false) rfl<|j7<|vx (jU (ds:=[_,_,_,_]) rfl)<|c.v4 λ_ _ c=>?_;refine c.w4 4 λ_ c=>?_;refine .here<|c.rl 1 ?_;refine Ad (a:=⟨6,i,old,new⟩) (r:=true) rfl λ_ g=>have c:=c.more g;kV<|c.rl 0 ?_;refine c.rl 1 ?_;refine Vp (v:=v) (B.up q c.gr) H k V J Q λG M _ d ok=>?_;have c:=c.jT d;obtain⟨ss,hs,K⟩:=ok.st;have u:=aB (l:=ss) (i:=t - 1) (by omega);generalize ss[t - 1]'(by omega)=z at u;replace c:=c.n6;refine vx rfl<|vx rfl<|c.w7 0 λ_ c=>?_;refine c.w4 4 λ_ c=>?_;refine jS<|c.rc 0 ?_;refine sA (hs _ ⟨B.up q c.gr,c.get (i:=5) rfl⟩) (by omega) λs' _ d=>have c:=c.jT d;have c:=c.n7;jS<|c.q7 0 λ_ c=>?_;refine jS<|c.rc 0 ?_;refine vx (nu ⟨by omega,by omega⟩) ?_;rw[et];obtain⟨r,o,cap,el,O,row⟩:=(c.sl (i:=6) rfl).ix u (n:=1) rfl (k:=.i64) (z:=((t - 1:Nat):Int)) rfl;refine vx O<|vx (row.yK rfl)<|vx (ni _ _)<|c.Bp 6 rfl (j:=t - 1) (by omega) (tG (z+1)) rfl rfl rfl λ_ c=>have c:=c.n7;c.rl 0 ?_;refine c.rl 4 ?_;refine c.w7 2 λ_ c=>?_;refine c.al 4<|c.w4 3 λ_ c=>?_;refine c.rl 2 ?_;refine c.rl 3 ?_;exact U {G with s:=s'} [jR M,kz rI (jY s') (ss.set (t - 1) (tG (z+1)))] _ (Cx.pack (L:=[]) (c.pick [5,6])) (let E:=ok.le (B':=B.and [jR M,kz rI (jY s') (ss.set (t - 1) (tG (z+1)))]) λh b=>⟨b.1,Bs.star b (i:=0) rfl⟩; ⟨E.me,E.li,_,On.sl (i:=1) rfl,by rw[aV]; exact K⟩)
 | put i w wl=>
  have ho:(0:Int)<=(Ak.put i w wl).ac.op/\(Ak.put i w wl).ac.op<=8:=by cases wl <;> (dsimp only[Ak.ac]; decide)
  have X:true=decide ((Ak.put i w wl).ac.op=3\/(Ak.put i w wl).ac.op=4\/(Ak.put i w wl).ac.op=6):=by cases wl <;> rfl
  have c:=Cx.jQ h;refine c.v7 λ_ _ c=>c.v8 λ_ _ c=>c.v7 λ_ _ c=>c.v4 λ_ _ c=>?_;refine c.rl 0 ?_;refine c.rl 1 ?_;refine tM (v:=v) (a:=(Ak.put i w wl).ac) (B.up q c.gr) H k J ho (λ_ _=>⟨bL i,dU.2 Q⟩) λ_ g=>have c:=c.more g;vx (v:=.bool false) rfl<|j7<|vx (jU (ds:=[_,_,_,_]) rfl)<|c.v4 λ_ _ c=>?_;refine c.w4 4 λ_ c=>?_;refine .here<|c.rl 1 ?_;refine Ad (a:=(Ak.put i w wl).ac) (r:=true) X λ_ g=>have c:=c.more g;kV<|c.rl 0 ?_;refine c.rl 1 ?_;refine XZ (v:=v) (w:=w) (wl:=wl) (B.up q c.gr) H k V J Q λG M _ d ok=>?_;have c:=c.jT d;obtain⟨ss,hs,K⟩:=ok.st;have u:=aB (l:=ss) (i:=t - 1) (by omega);generalize ss[t - 1]'(by omega)=z at u;replace c:=c.n6;refine vx rfl<|vx rfl<|c.w7 0 λ_ c=>?_;refine c.w4 4 λ_ c=>?_;refine jS<|c.rc 0 ?_;refine sA (hs _ ⟨B.up q c.gr,c.get (i:=5) rfl⟩) (by omega) λs' _ d=>have c:=c.jT d;have c:=c.n7;jS<|c.q7 0 λ_ c=>?_;refine jS<|c.rc 0 ?_;refine vx (nu ⟨by omega,by omega⟩) ?_;rw[et];obtain⟨r,o,cap,el,O,row⟩:=(c.sl (i:=6) rfl).ix u (n:=1) rfl (k:=.i64) (z:=((t - 1:Nat):Int)) rfl;refine vx O<|vx (row.yK rfl)<|vx (ni _ _)<|c.Bp 6 rfl (j:=t - 1) (by omega) (tG (z+1)) rfl rfl rfl λ_ c=>have c:=c.n7;c.rl 0 ?_;refine c.rl 4 ?_;refine c.w7 2 λ_ c=>?_;refine c.al 4<|c.w4 3 λ_ c=>?_;refine c.rl 2 ?_;refine c.rl 3 ?_;exact U {G with s:=s'} [jR M,kz rI (jY s') (ss.set (t - 1) (tG (z+1)))] _ (Cx.pack (L:=[]) (c.pick [5,6])) (let E:=ok.le (B':=B.and [jR M,kz rI (jY s') (ss.set (t - 1) (tG (z+1)))]) λh b=>⟨b.1,Bs.star b (i:=0) rfl⟩; ⟨E.me,E.li,_,On.sl (i:=1) rfl,by rw[aV]; exact K⟩)
end
section
variable {T:Nat} {w:W3} {ws:List W3} {v:SH}
def TX (q:∀u h',Cx (λ_=>False) h h' [kz Cf (jY u) [⟨w,0,none⟩]]->R (vH u) h'):S.C 81 [(mW w)] h R:=by
 refine Ga.2<|have c:=Cx.jQ h;c.v3 λ_ _ c=>?_;refine c.v1 λ_ _ c=>?_;refine c.rl 0 ?_;refine vx (jU (ds:=[_,_,_,_,_]) rfl)<|c.lW Cf ⟨w,0,none⟩ rfl rfl λv _ c=>?_;obtain⟨u,rfl⟩:=(c.sl (i:=2) rfl).tW;replace c:=c.n3;refine vx (jU (ds:=[_]) rfl)<|c.w1 1 λ_ c=>?_;refine c.rl 1 ?_;exact q u _ (c.pick [2])
def Me.new (T:Nat) (ws:List W3):Me:=⟨ws.map λw=>[⟨w,λ_=>0⟩],List.replicate T λ_=>0⟩
def Xw (hs:Sl EW h (jY v) ws) (hT:1<=T/\T<=8) (hw:1<=ws.length/\ws.length<=4096) (hR:∀x M h',Cx (λ_=>False) h h' [jR M]->(∀B:Bs,MO (B.and M) x (Me.new T ws))->R (.tuple #[De x,.int .i64 0]) h'):S.C 54 [(.int .i64 T),(jY v)] h R:=by
 refine IJ.2<|have c:=Cx.jQ h;c.v2 λV _ c=>?_;refine .here<|vx (lL (by omega))<|j7<|vx (pW (by omega))<|j7<|vx (hs.gr c.gr).ln<|vx (m6 (by omega))<|j7<|vx (hs.gr c.gr).ln<|vx (pW (by omega))<|j7<|c.Fl EM none rfl rfl rfl (by omega) (by decide) λad _ c=>?_;obtain⟨Q,hu⟩:∃Q:SH,jY Q=.slice (some ad) T T:=⟨(some ad,T,T),rfl⟩;rw[<-hu] at c⊢;replace c:=c.n2;refine vx (jU (ds:=[_,_]) rfl)<|c.v2 λX _ c=>?_;refine c.w2 2 λ_ c=>?_;refine vx (hs.gr c.gr).ln<|sO.by (λ(i:Nat) z h'=>z=.int .i64 i/\i<=ws.length/\∃u us M,us.length=i/\Cx (λ_=>False) h h' [rV V SO,kz EM (jY Q) (List.replicate T none),rV X [jY u,jY Q],kz EH1 (jY u) us,jR M]/\∀H F,(jR M).P H F->∀j u w,us[j]?=some u->ws[j]?=some w->Sl Cf H (jY u) [⟨w,0,none⟩]) (λi=>ws.length - i) 0 ⟨rfl,aO _,(none,0,0),([]:List SH),([]:List km),rfl,Cx.pack (L:=[_,_,_,_]) (M:=[]) ((c.nil EH1).pick [0,1,2,3]),λ_ _ _ j u w hu=>HV hu⟩ ?_;rintro i _ h8 ⟨rfl,hi,u,us,M,hl,c,hM⟩ again K;replace c:=c.n5;refine vx j9<|lV (λZ=>?_) λZ=>?_
 ·obtain⟨w,hw⟩:∃w,ws[i]?=some w:=⟨_,aB (by omega)⟩;refine(hs.gr c.gr).whole rfl hw rfl ?_;refine c.v3 λ_ _ c=>?_;refine c.w3 5 λ_ c=>?_;refine jS<|c.rc 2 ?_;refine c.rl 5 ?_;refine TX λu1 _ d=>have c:=c.jT d;have c:=c.n7;c.ac 2<|c.lW EH1 u1 rfl rfl λaS _ c=>have c:=c.n8;c.ac 2<|c.ap 3 rfl (c.sl (i:=7) rfl).sl rfl rfl (by simp only[aE]; omega) (by simp only[aE]; omega) λaT _ c=>?_;obtain⟨u2,rfl⟩:=(c.sl (i:=3) rfl).tW;replace c:=c.n8;refine jS<|c.q2 2 λ_ c=>?_;refine vx (inc (by omega))<|K (i+1) _ _ ⟨rfl,by omega,u2,us++[u1],[jR M,kz Cf (jY u1) [⟨w,0,none⟩]],by rw[aF,aE,hl],Cx.pack (L:=[_,_,_,_]) (c.pick [0,1,2,3,4,6]),λH F p j u' w' E G=>?_⟩ (by omega);obtain⟨F1,p1⟩:=(Cx.star p).get (i:=0) rfl;obtain⟨F2,p2⟩:=(Cx.star p).get (i:=1) rfl;by_cases hj:j<us.length
  ·rw[aY hj] at E;exact hM H F1 p1 j u' w' E G
  ·rw[bD (by omega)] at E;have e:j - us.length=0:=by
    have:=(aC.1 E).1;rw[aE] at this;omega
   rw[e] at E;simp only[aX,aD] at E;subst E;rw[show j=i by omega,hw] at G;injection G with G;subst G;exact p2.1.sl
 ·refine c.rl 2 ?_;refine c.w2 0 λ_ c=>?_;refine c.rl 0 ?_;have hi:i=ws.length:=by omega
  refine hR (u,Q) [kz EM (jY Q) (List.replicate T none),kz EH1 (jY u) us,jR M] _ (Cx.pack (L:=[]) (c.pick [1,3,4])) λB=>⟨⟨_,On.sl (i:=0) rfl,by rw[bR,Me.new,bR],λj a f U O=>?_⟩,⟨_,On.sl (i:=1) rfl,by rw[hl,hi,Me.new,bE],λj u' lx E has=>?_⟩⟩
  ·have O:(List.replicate T λ_=>(0:Int))[j]?=some f:=O;rw[dJ] at U O;split at U
   ·rename_i hj;rw[if_pos hj] at O;injection U with U;injection O with O;subst U O;exact VO.zero _
   ·cases U
  ·have has:(ws.map λw=>[(⟨w,λ_=>0⟩:AM)])[j]?=some lx:=has;rw[bU] at has;cases G:ws[j]? with
   | none=>rw[G] at has;cases has
   | some w'=>
    rw[G] at has;simp only[cB,aD] at has;subst has;refine⟨_,λH b=>let⟨_,F,p⟩:=b; let⟨F',p'⟩:=(Cx.star p).get (i:=2) rfl; hM H F' p' j u' w' E G,rfl,λq m am hm J=>?_⟩;match q,hm,J with
    | 0,hm,J=>
     simp only[aX,aD] at hm J;subst hm J;exact⟨rfl,VO.zero _⟩
    | q+1,hm,J=>simp at hm
def Li.new (ws:List W3):Li:=⟨ws,List.replicate ((ws.length+7) / 8) ([],0),none⟩
def W1 (hs:Sl EW h (jY v) ws) (hw:1<=ws.length/\ws.length<=4096) (H:∀y M h',Cx (λ_=>False) h h' [jR M]->(∀B:Bs,LO (B.and M) y (Li.new ws))->R (.tuple #[Pn y,.int .i64 0]) h'):S.C 55 [(jY v)] h R:=by
 refine LS.2 ?_;have J:((ws.length:Int)+8 - 1) / 8=(((ws.length+7) / 8:Nat):Int):=by omega
 have fin:∀(f l:SH) h',Cx (λ_=>False) h h' [kz EW (jY f) ws,kz Ql (jY l) (List.replicate ((ws.length+7) / 8) ((none,0,0),0))]->R (.tuple #[Pn ⟨f,l,none⟩,.int .i64 0]) h':=λf l h' c=>by
  refine H ⟨f,l,none⟩ _ _ (Cx.pack (L:=[]) c) λB=>⟨On.sl (i:=0) rfl,⟨_,On.sl (i:=1) rfl,by rw[bR,Li.new,bR],λj u g hu q=>?_⟩,rfl⟩;have q:(List.replicate ((ws.length+7) / 8) (([]:List Dv),(0:Int)))[j]?=some g:=q;rw[dJ] at hu q;split at hu
  ·rename_i K;rw[if_pos K] at q;injection hu with hu;injection q with q;subst hu q;exact⟨rfl,λh b=>⟨none,0,rfl,aP _,(λ_=>rfl),λi x O=>by simp at O⟩⟩
  ·cases hu
 have c:=Cx.jQ h;refine c.v3 λ_ _ c=>?_;refine vx (hs.gr c.gr).ln<|vx (pW (by omega))<|j7 ?_;refine .here<|vx (hs.gr c.gr).ln<|vx (oC ⟨by omega,by omega⟩)<|vx (nu ⟨by omega,by omega⟩)<|vx (FC ⟨by omega,by omega⟩ (by decide)) ?_;rw[J];refine⟨?_,?_⟩
 ·refine yF (hs.gr c.gr) (by omega) λf _ d=>have c:=c.jT d;have c:=c.n2;c.Fl Ql ((none,0,0),0) rfl rfl rfl (by omega) (by decide) λE _ c=>?_;obtain⟨l,G⟩:∃l:SH,jY l=.slice (some E) ((ws.length+7) / 8) ((ws.length+7) / 8):=⟨(some E,(ws.length+7) / 8,(ws.length+7) / 8),rfl⟩;rw[<-G] at c⊢;replace c:=c.n3;refine vx (jU (ds:=[_,_,_]) rfl)<|c.w3 0 λ_ c=>?_;refine c.rl 0 ?_;exact fin f l _ (c.pick [1,2])
 ·refine c.Fl Ql ((none,0,0),0) rfl rfl rfl (by omega) (by decide) λE _ c=>?_;obtain⟨l,G⟩:∃l:SH,jY l=.slice (some E) ((ws.length+7) / 8) ((ws.length+7) / 8):=⟨(some E,(ws.length+7) / 8,(ws.length+7) / 8),rfl⟩;rw[<-G] at c⊢;replace c:=c.n2;refine yF (hs.gr c.gr) (by omega) λf _ d=>have c:=c.jT d;have c:=c.n3;vx (jU (ds:=[_,_,_]) rfl)<|c.w3 0 λ_ c=>?_;refine c.rl 0 ?_;exact fin f l _ (c.pick [2,1])
def Qv (hs:Sl EW h (jY v) ws) (E:1<=T/\T<=8) (hw:1<=ws.length/\ws.length<=4096) (G:∀v M h',Cx (λ_=>False) h h' [jR M]->(∀B:Bs,KO (B.and M) T v ⟨Me.new T ws,Li.new ws⟩)->R (.tuple #[CW v,.int .i64 0]) h'):S.C 31 [(.int .i64 T),(jY v)] h R:=by
 refine FZ.2<|have c:=Cx.jQ h;c.v7 λ_ _ c=>?_;refine Xw (hs.gr c.gr) E hw λx M _ d ok=>have c:=c.jT d;have c:=c.n2;vx rfl<|vx rfl<|c.v2 λ_ _ c=>?_;refine c.w2 2 λ_ c=>?_;refine vx (v:=.bool false) rfl<|j7<|W1 (hs.gr c.gr) hw λy N _ d q=>have c:=c.jT d;have c:=c.n4;vx rfl<|vx rfl<|c.v3 λ_ _ c=>?_;refine c.w3 4 λ_ c=>?_;refine vx (v:=.bool false) rfl<|j7<|c.rl 2 ?_;refine c.rl 4 ?_;refine c.Fl rI 0 rfl rfl rfl (by omega) (by decide) λu _ c=>?_;obtain⟨s,H⟩:∃l:SH,jY l=.slice (some u) T T:=⟨(some u,T,T),rfl⟩;rw[<-H] at c⊢;replace c:=c.n6;refine c.al 4<|c.al 2<|vx (jU (ds:=[_,_,_,_,_,_,_]) rfl)<|c.w7 0 λ_ c=>?_;refine c.rl 0 ?_;exact G ⟨x,y,s,0⟩ [jR M,jR N,kz rI (jY s) (List.replicate T 0)] _ (Cx.pack (L:=[]) (c.pick [1,3,5])) λB=>⟨(ok B).le λh b=>⟨b.1,Bs.star b (i:=0) rfl⟩,(q B).le λh b=>⟨b.1,Bs.star b (i:=1) rfl⟩,_,On.sl (i:=2) rfl,bR⟩
def Kk.new (q:T<=8) (hw:ws.length<=4096):Kk T ws.length 1 ⟨Me.new T ws,Li.new ws⟩:=by
 refine⟨⟨bR,bE _,⟨q,hw⟩,λlx has=>?_⟩,⟨rfl,bR,hw,λg u=>?_⟩⟩
 ·obtain⟨w,_,rfl⟩:=dC.1 has;exact⟨aP _,aP _⟩
 ·rw[fY u];exact aO _
end
def nxV:Bool->TypeId->Value->Value
 | true,_,_=>.nilFunc
 | false,t,v=>.func (.method "Next") #[.iface t v] #[]
structure Tk where
 t:TypeId
 v:Value
 dn:Bool
 act:Ac
 s:SH
def SZ (x:Tk):List Value:=[.iface x.t x.v,nxV x.dn x.t x.v,.int .i64 x.act.op,.int .i64 x.act.at',.int .i64 x.act.old.v,.int .u32 x.act.old.j8,.int .u32 x.act.old.ref,.int .i64 x.act.new.v,.int .u32 x.act.new.j8,.int .u32 x.act.new.ref,jY x.s]
def TJ (d:Bool) (t:TypeId) (v:Value):(nxV d t v).oneCell'=true:=by cases d <;> rfl
def UA (a:Tk) (v:Value) (h:v∈SZ a):v.oneCell'=true:=by
 unfold SZ at h;simp only[aU,bF,or_false] at h;rcases h with rfl | rfl | rfl | rfl | rfl | rfl | rfl | rfl | rfl | rfl | rfl
 all_goals first | rfl | exact TJ _ _ _
def JA:pT Tk:={n:=11,c:=SZ,len:=λ_=>rfl,one:=UA}
def PZ (x:Tk):Value:=.agg ⟨SZ x⟩
def aa3:Value:=.agg #[.nilIface,.nilFunc,.int .i64 0,.int .i64 0,.int .i64 0,.int .u32 0,.int .u32 0,.int .i64 0,.int .u32 0,.int .u32 0,.slice none 0 0]
def Tm:pT lA:={n:=4,c:=λx=>[.int .i64 x.w.v,.int .u32 x.w.j8,.int .u32 x.w.ref,.bool x.ok],len:=λ_=>rfl,one:=λa v h=>by simp only[aU,bF,or_false] at h; rcases h with rfl | rfl | rfl | rfl <;> rfl}
section
variable {t t':TypeId} {v v':Value} {d:Bool} {a a':Ac} {s:SH} {x:Tk} {g:lA}
def Ty (q:∀h',Gr h h'->R (PZ ⟨t',v',d,if d then o8 else a',(none,0,0)⟩) h'):S.C 83 [aa3,(.iface t' v'),(qZ a'),(.bool d)] h R:=by
 refine wz.2 ?_;cases d with
 | true=>
  have c:=Cx.jQ h;refine c.v11 λ_ _ c=>c.v8 λ_ _ c=>c.v11 λ_ _ c=>?_;refine c.rl 1 ?_;refine jS<|c.Qm 0 λ_ c=>?_;refine c.al 1<|jS<|c.vq 0 rfl (vs:=[_,_,_,_,_,_,_,_]) (ds:=[_,_,_,_,_,_,_,_,_,_,_]) (by exact rfl) (by exact rfl) (by exact rfl) (by exact rfl) (by exact rfl) λ_ c=>?_;replace c:=c.n3;refine jS<|c.Qm 0 λ_ c=>?_;refine .here<|kV<|kV<|vx (jU (ds:=[_,_,_,_,_,_,_,_]) rfl)<|jS<|c.vq 0 rfl (vs:=[_,_,_,_,_,_,_,_]) (ds:=[_,_,_,_,_,_,_,_,_,_,_]) (by exact rfl) (by exact rfl) (by exact rfl) (by exact rfl) (by exact rfl) λ_ c=>?_;replace c:=c.n3;refine c.rl 0 ?_;refine c.ZY 2 λ_ c=>?_;refine c.rl 2 ?_;exact q _ c.gr
 | false=>
  have c:=Cx.jQ h;refine c.v11 λ_ _ c=>c.v8 λ_ _ c=>c.v11 λ_ _ c=>?_;refine c.rl 1 ?_;refine jS<|c.Qm 0 λ_ c=>?_;refine c.al 1<|jS<|c.vq 0 rfl (vs:=[_,_,_,_,_,_,_,_]) (ds:=[_,_,_,_,_,_,_,_,_,_,_]) (by exact rfl) (by exact rfl) (by exact rfl) (by exact rfl) (by exact rfl) λ_ c=>?_;replace c:=c.n3;refine jS<|c.Qm 0 λ_ c=>?_;refine .here<|j7<|vx rfl<|j7<|vx rfl<|vx rfl<|jS<|c.Qm 0 λ_ c=>?_;refine c.rl 0 ?_;refine c.ZY 2 λ_ c=>?_;refine c.rl 2 ?_;exact q _ c.gr
def Rl (q:∀h',Gr h h'->R (PZ ⟨t',v',d,if d then o8 else a',s⟩) h'):S.C 83 [(PZ ⟨t,v,false,a,s⟩),(.iface t' v'),(qZ a'),(.bool d)] h R:=by
 refine wz.2 ?_;cases d with
 | true=>
  have c:=Cx.jQ h;refine c.v11 λ_ _ c=>c.v8 λ_ _ c=>c.v11 λ_ _ c=>?_;refine c.rl 1 ?_;refine jS<|c.Qm 0 λ_ c=>?_;refine c.al 1<|jS<|c.vq 0 rfl (vs:=[_,_,_,_,_,_,_,_]) (ds:=[_,_,_,_,_,_,_,_,_,_,_]) (by exact rfl) (by exact rfl) (by exact rfl) (by exact rfl) (by exact rfl) λ_ c=>?_;replace c:=c.n3;refine jS<|c.Qm 0 λ_ c=>?_;refine .here<|kV<|kV<|vx (jU (ds:=[_,_,_,_,_,_,_,_]) rfl)<|jS<|c.vq 0 rfl (vs:=[_,_,_,_,_,_,_,_]) (ds:=[_,_,_,_,_,_,_,_,_,_,_]) (by exact rfl) (by exact rfl) (by exact rfl) (by exact rfl) (by exact rfl) λ_ c=>?_;replace c:=c.n3;refine c.rl 0 ?_;refine c.ZY 2 λ_ c=>?_;refine c.rl 2 ?_;exact q _ c.gr
 | false=>
  have c:=Cx.jQ h;refine c.v11 λ_ _ c=>c.v8 λ_ _ c=>c.v11 λ_ _ c=>?_;refine c.rl 1 ?_;refine jS<|c.Qm 0 λ_ c=>?_;refine c.al 1<|jS<|c.vq 0 rfl (vs:=[_,_,_,_,_,_,_,_]) (ds:=[_,_,_,_,_,_,_,_,_,_,_]) (by exact rfl) (by exact rfl) (by exact rfl) (by exact rfl) (by exact rfl) λ_ c=>?_;replace c:=c.n3;refine jS<|c.Qm 0 λ_ c=>?_;refine .here<|j7<|vx rfl<|j7<|vx rfl<|vx rfl<|jS<|c.Qm 0 λ_ c=>?_;refine c.rl 0 ?_;refine c.ZY 2 λ_ c=>?_;refine c.rl 2 ?_;exact q _ c.gr
def zm (q:∀h',Gr h h'->R (.bool x.dn) h'):S.C 11 [(PZ x)] h R:=by
 refine CM.2 ?_;obtain⟨t,v,d,a,s⟩:=x;cases d with
 | true=>
  have c:=Cx.jQ h;refine c.v11 λ_ _ c=>?_;refine jS<|c.rc 0 ?_;exact vx (v:=.bool true) rfl<|q _ c.gr
 | false=>
  have c:=Cx.jQ h;refine c.v11 λ_ _ c=>?_;refine jS<|c.rc 0 ?_;exact vx (v:=.bool false) rfl<|q _ c.gr
def Ol (q:∀h',Gr h h'->R (.iface x.t x.v) h'):S.C 12 [(PZ x)] h R:=by
 refine CS.2 ?_;obtain⟨t,v,d,a,s⟩:=x;cases d with
 | true=>
  have c:=Cx.jQ h;refine c.v11 λ_ _ c=>?_;refine jS<|c.rc 0 ?_;exact q _ c.gr
 | false=>
  have c:=Cx.jQ h;refine c.v11 λ_ _ c=>?_;refine jS<|c.rc 0 ?_;exact q _ c.gr
def N1 {v u:Value} {us:List lA} (hs:Sl Tm h v us) (e:xO 4 v none (some (.int .i64 us.length)) (some (.int .i64 us.length))=some u) (q:R u h):S.C 93 [v] h R:=by
 refine nZ.2 ?_;dsimp only[nZ,oH];exact NM hs e q
def RK {v:Value} {us:List Tk} (hs:Sl JA h v us) (E:us.length<=1000000) (q:∀u h',Cx (λ_=>False) h h' [kz JA (jY u) us]->R (jY u) h'):S.C 61 [v] h R:=by
 refine nj.2 ?_;dsimp only[nj,oH];exact yu hs rfl rfl (by omega) (by omega) q
def Xr (q:∀h',Gr h h'->R (.tuple #[qZ x.act,.bool !x.dn]) h'):S.C 59 [(PZ x)] h R:=by
 refine Dx.2 ?_;obtain⟨t,v,d,a,s⟩:=x;cases d with
 | true=>
  have c:=Cx.jQ h;refine c.v11 λ_ _ c=>c.v8 λ_ _ c=>?_;refine jS<|vx (c.vp (i:=0) (ds:=[_,_,_,_,_,_,_,_]) rfl rfl rfl)<|c.rl 0 ?_;refine zm (x:=⟨t,v,true,a,s⟩) λ_ g=>have c:=c.more g;aQ (c.vp (i:=0) (ds:=[_,_,_,_,_,_,_,_]) rfl rfl rfl) ?_;refine vx rfl<|c.w8 1 λ_ c=>?_;refine c.rl 1 ?_;exact q _ c.gr
 | false=>
  have c:=Cx.jQ h;refine c.v11 λ_ _ c=>c.v8 λ_ _ c=>?_;refine jS<|vx (c.vp (i:=0) (ds:=[_,_,_,_,_,_,_,_]) rfl rfl rfl)<|c.rl 0 ?_;refine zm (x:=⟨t,v,false,a,s⟩) λ_ g=>have c:=c.more g;aQ (c.vp (i:=0) (ds:=[_,_,_,_,_,_,_,_]) rfl rfl rfl) ?_;refine vx rfl<|c.w8 1 λ_ c=>?_;refine c.rl 1 ?_;exact q _ c.gr
end
structure WV where
 m:MV
 ts:SH
 st:SH
abbrev Nq (w:WV):List Value:=[jY w.m.x.1,jY w.m.x.2,jY w.m.y.f,jY w.m.y.l,.map w.m.y.a,jY w.m.s,.int .i64 w.m.cr,jY w.ts,jY w.st]
def xT (w:WV):Value:=.agg #[jY w.m.x.1,jY w.m.x.2,jY w.m.y.f,jY w.m.y.l,.map w.m.y.a,jY w.m.s,.int .i64 w.m.cr,jY w.ts,jY w.st]
def Wg (k t c:Int):Value:=.agg #[.int .i64 k,.int .i64 t,.int .i64 c]
def VE:pT (TypeId × Value):={n:=1,c:=λx=>[.iface x.1 x.2],len:=λ_=>rfl,one:=λa v h=>by simp only[aN] at h; subst h; rfl}
def NV {r:Int} (h:0<=r/\r<4294967296):bin .shr (.int .u32 r) (.int .u64 24)=some (.int .u32 (r / 16777216)):=by
 obtain⟨n,rfl⟩:=dQ h.1;show some (Value.int .u32 ((n:Int).fdiv (2 ^ (min (24:Int).toNat 32))))=_;rw[Int.fdiv_eq_ediv_of_nonneg _ (by decide)];rfl
def Od {r:Int} (h:0<=r/\r<4294967296):bin .and (.int .u32 r) (.int .u32 16777215)=some (.int .u32 (r % 16777216)):=by
 obtain⟨n,rfl⟩:=dQ h.1;have q:n<4294967296:=by omega
 show some (Value.int .u32 (IntKind.u32.wrap ((BitVec.ofInt 32 (n:Int)&&& BitVec.ofInt 32 16777215).toNat:Nat)))=_;have e:(BitVec.ofInt 32 (n:Int)&&& BitVec.ofInt 32 16777215).toNat=n % 16777216:=by
  rw[BitVec.toNat_and,show(BitVec.ofInt 32 16777215).toNat=2 ^ 24 - 1 from by decide,Nat.and_two_pow_sub_one_eq_mod,show BitVec.ofInt 32 (n:Int)=BitVec.ofNat 32 n from gU ..,hU];omega
 rw[e];show some (Value.int .u32 (((n % 16777216:Nat):Int) % 4294967296))=_;congr 2;omega
def XD {w q:Int} (hw:0<=w/\w<256) (h:0<=q/\q<16777216):bin .or (.int .u32 (w*16777216)) (.int .u32 q)=some (.int .u32 (w*16777216+q)):=by
 obtain⟨a,rfl⟩:=dQ hw.1;obtain⟨b,rfl⟩:=dQ h.1;have u:a<256:=by omega
 have B:b<16777216:=by omega
 show some (Value.int .u32 (IntKind.u32.wrap ((BitVec.ofInt 32 ((a:Int)*16777216)||| BitVec.ofInt 32 (b:Int)).toNat:Nat)))=_;have e:(BitVec.ofInt 32 ((a:Int)*16777216)||| BitVec.ofInt 32 (b:Int)).toNat=a*16777216+b:=by
  rw[show((a:Int)*16777216)=((a*16777216:Nat):Int) by omega,show BitVec.ofInt 32 ((a*16777216:Nat):Int)=BitVec.ofNat 32 (a*16777216) from gU ..,show BitVec.ofInt 32 (b:Int)=BitVec.ofNat 32 b from gU ..,BitVec.toNat_or,hU,hU,iO (by omega),iO (by omega)];have:=Nat.shiftLeft_add_eq_or_of_lt (b:=b) (i:=24) (by omega) a;rw[Nat.shiftLeft_eq] at this;exact this.symm
 rw[e];show some (Value.int .u32 (((a*16777216+b:Nat):Int) % 4294967296))=_;congr 2;omega
def Vz {w:Int} (hw:0<=w/\w<256):bin .shl (.int .u32 w) (.int .u64 24)=some (.int .u32 (w*16777216)):=by
 obtain⟨a,rfl⟩:=dQ hw.1;show some (Value.int .u32 (((a:Int)*2 ^ 24) % 4294967296))=_;congr 2;omega
def kJ (who seq:Int):Int:=who*16777216+seq
def K4 (who seq:Int):Bool:=decide (1<=who/\who<=72/\1<=seq/\seq<=16777215)
def kj (r:Int):Int:=if K4 (r / 16777216) (r % 16777216)=true then r / 16777216 else 0
def oN (r:Int):Int:=if K4 (r / 16777216) (r % 16777216)=true then r % 16777216 else 0
structure Ww (w:W3):Prop where
 v:C5 w.v
 j8:0<=w.j8/\w.j8<4294967296
 ref:0<=w.ref/\w.ref<4294967296
def xw (w:W3):Int:=if w.ref=0 then 0 else if 0<kj w.ref then 1 else 2
def V9 {k:IntKind} {a:Int} (h:0<=a/\a<4294967296):NY .u32 (.int k a)=some (.int .u32 a):=by
 show some (Value.int .u32 (a % 4294967296))=_;rw[gJ h.1 h.2]
def Tw {k:IntKind} {a:Int} (h:C5 a):NY .i64 (.int k a)=some (.int .i64 a):=by
 show some (Value.int .i64 (IntKind.i64.wrap a))=_;rw[EN h]
section
variable {who seq r:Int} {w:W3}
def E5 (q:∀h',Gr h h'->R (.tuple #[.int .u32 (if K4 who seq=true then kJ who seq else 0),.int .i64 (if K4 who seq=true then 0 else 3)]) h'):S.C 109 [(.int .i64 who),(.int .i64 seq)] h R:=by
 refine Ai.2 ?_;by_cases u:K4 who seq=true
 ·rw[if_pos u,if_pos u] at q;have B:=of_decide_eq_true u;dsimp only[Ai,lZ];have c:=Cx.jQ h;exact .here<|vx (lL ((by omega)))<|j7<|vx (pW ((by omega)))<|j7<|vx (lL ((by omega)))<|j7<|vx (pW (by omega))<|j7<|vx (V9 (by omega))<|vx (Vz (by omega))<|vx (V9 (by omega))<|vx (XD (by omega) (by omega))<|q _ c.gr
 ·rw[if_neg u,if_neg u] at q;have B:¬(1<=who/\who<=72/\1<=seq/\seq<=16777215):=λe=>u (decide_eq_true e);dsimp only[Ai,lZ];have c:=Cx.jQ h;refine .here<|vx j9<|lV (λE=>?_) λE=>?_
  ·exact kV<|q _ c.gr
  ·refine vx mV<|lV (λq2=>?_) λq2=>?_
   ·exact kV<|q _ c.gr
   ·refine vx j9<|lV (λq3=>?_) λq3=>?_
    ·exact kV<|q _ c.gr
    ·exact vx (FL (by omega))<|kV<|q _ c.gr
def xo (u:0<=r/\r<4294967296) (B:∀h',Gr h h'->R (.tuple #[.int .i64 (kj r),.int .i64 (oN r)]) h'):S.C 75 [(.int .u32 r)] h R:=by
 refine ME.2 ?_;by_cases q:K4 (r / 16777216) (r % 16777216)=true
 ·rw[kj,oN,if_pos q,if_pos q] at B;have c:=Cx.jQ h;refine vx (NV u)<|vx (Tw ⟨by omega,by omega⟩)<|vx (Od u)<|vx (Tw ⟨by omega,by omega⟩)<|E5 λ_ g=>?_;have c:=c.more g;rw[if_pos q,if_pos q];exact vx rfl<|vx rfl<|vx (v:=.bool false) rfl<|j7<|B _ c.gr
 ·rw[kj,oN,if_neg q,if_neg q] at B;have c:=Cx.jQ h;refine vx (NV u)<|vx (Tw ⟨by omega,by omega⟩)<|vx (Od u)<|vx (Tw ⟨by omega,by omega⟩)<|E5 λ_ g=>?_;have c:=c.more g;rw[if_neg q,if_neg q];exact vx rfl<|vx rfl<|vx (v:=.bool true) rfl<|kV<|B _ c.gr
def Fg (hw:Ww w) (q:∀h',Gr h h'->R (.int .i64 (xw w)) h'):S.C 159 [(mW w)] h R:=by
 refine J3.2 ?_;obtain⟨a,b,r⟩:=w;have B:=hw.ref;dsimp only at B;by_cases u:r=0
 ·rw[xw,if_pos u] at q;have c:=Cx.jQ h;refine c.v3 λ_ _ c=>?_;refine jS<|c.rc 0 ?_;refine xo B λ_ g=>have c:=c.more g;vx rfl<|vx rfl<|jS<|c.rc 0 ?_;exact vx (pN u)<|kV<|q _ c.gr
 ·by_cases E:0<kj r
  ·rw[xw,if_neg u,if_pos E] at q;have c:=Cx.jQ h;refine c.v3 λ_ _ c=>?_;refine jS<|c.rc 0 ?_;refine xo B λ_ g=>have c:=c.more g;vx rfl<|vx rfl<|jS<|c.rc 0 ?_;exact vx (m6 u)<|j7<|vx (FL E)<|kV<|q _ c.gr
  ·rw[xw,if_neg u,if_neg E] at q;have c:=Cx.jQ h;refine c.v3 λ_ _ c=>?_;refine jS<|c.rc 0 ?_;refine xo B λ_ g=>have c:=c.more g;vx rfl<|vx rfl<|jS<|c.rc 0 ?_;exact vx (m6 u)<|j7<|vx (pW E)<|j7<|q _ c.gr
def Bj (hw:Ww w) (q:∀h',Gr h h'->R (.bool (decide (xw w=0))) h'):S.C 154 [(mW w)] h R:=by
 refine IA.2 ?_;obtain⟨a,b,r⟩:=w;have c:=Cx.jQ h;refine c.v3 λ_ _ c=>?_;refine c.rl 0 ?_;refine Fg (w:=⟨a,b,r⟩) hw λ_ g=>have c:=c.more g;vx (kU ..)<|q _ c.gr
def zx (w:W3) (v:Int) (wr:Bool):W3 × Int:=
 if xw w≠1 then(w,13)
 else if wr=true/\w.j8=4294967295 then(w,9)
 else if wr=true then(⟨v,w.j8+1,0⟩,0)
 else(⟨w.v,w.j8,0⟩,0)
end
def uP {q:IntKind} {z:Int} {n sz i r o:Nat} (u:z=i) (hi:i<n):I4 n sz (.pointer (some ⟨r,o,none⟩)) (.int q z)=some (.pointer (some ⟨r,o+i*sz,none⟩)):=by
 subst u;have:(0:Int)<=(i:Int)/\(i:Int)<n:=by omega
 simp only[I4,this,and_self,if_true,Bu,bQ]
def Vr {a b:Int} (h:0<=a+b/\a+b<4294967296):bin .add (.int .u32 a) (.int .u32 b)=some (.int .u32 (a+b)):=by
 show some (Value.int .u32 ((a+b) % 4294967296))=_;rw[gJ h.1 h.2]
section
variable {who seq r:Int} {w:W3}
def yX {v:Int} {b:Bool} (hw:Ww w) (u:∀h',Gr h h'->R (.tuple #[mW (zx w v b).1,.int .i64 (zx w v b).2]) h'):S.C 321 [(mW w),(.int .i64 v),(.bool b)] h R:=by
 refine FD.2 ?_;obtain⟨a,q,r⟩:=w;have hv:=hw.j8;dsimp only at hv;by_cases B:xw ⟨a,q,r⟩=1
 ·cases b with
  | true=>
   by_cases E:q=4294967295
   ·rw[zx,if_neg (λx=>x B),if_pos ⟨rfl,E⟩] at u;have c:=Cx.jQ h;refine c.v3 λ_ _ c=>c.v3 λ_ _ c=>?_;refine c.rl 0 ?_;refine Fg (w:=⟨a,q,r⟩) hw λ_ g=>have c:=c.more g;vx (BM B)<|j7 ?_;refine .here<|kV<|jS<|c.rc 0 ?_;refine vx (pN E)<|kV<|c.rl 0 ?_;refine c.w3 1 λ_ c=>?_;refine c.rl 1 ?_;exact u _ c.gr
   ·rw[zx,if_neg (λx=>x B),if_neg (λx=>E x.2),if_pos rfl] at u;have c:=Cx.jQ h;refine c.v3 λ_ _ c=>c.v3 λ_ _ c=>?_;refine c.rl 0 ?_;refine Fg (w:=⟨a,q,r⟩) hw λ_ g=>have c:=c.more g;vx (BM B)<|j7 ?_;refine .here<|kV<|jS<|c.rc 0 ?_;refine vx (m6 E)<|j7<|kV<|jS<|c.rc 0 ?_;refine vx (v:=.int .u32 (q+1)) (Vr (a:=q) (b:=1) (by omega))<|vx (jU (ds:=[_,_,_]) rfl)<|c.w3 1 λ_ c=>?_;refine c.rl 1 ?_;exact u _ c.gr
  | false=>
   rw[zx,if_neg (λx=>x B),if_neg (λx=>by cases x.1),if_neg (by decide)] at u;have c:=Cx.jQ h;refine c.v3 λ_ _ c=>c.v3 λ_ _ c=>?_;refine c.rl 0 ?_;refine Fg (w:=⟨a,q,r⟩) hw λ_ g=>have c:=c.more g;vx (BM B)<|j7 ?_;refine .here<|j7<|j7<|j7<|jS<|c.rc 0 ?_;refine jS<|c.rc 0 ?_;refine vx (jU (ds:=[_,_,_]) rfl)<|c.w3 1 λ_ c=>?_;refine c.rl 1 ?_;exact u _ c.gr
 ·rw[zx,if_pos B] at u;have c:=Cx.jQ h;refine c.v3 λ_ _ c=>c.v3 λ_ _ c=>?_;refine c.rl 0 ?_;refine Fg (w:=⟨a,q,r⟩) hw λ_ g=>have c:=c.more g;vx (E7 B)<|kV<|c.rl 0 ?_;refine c.w3 1 λ_ c=>?_;refine c.rl 1 ?_;exact u _ c.gr
def nV {s:Int} (hs:0<=seq/\seq<4294967296) (q:∀h',Gr h h'->R (mW ⟨s,seq,0⟩) h'):S.C 255 [(.int .i64 s),(.int .i64 seq)] h R:=by
 refine Gf.2<|have c:=Cx.jQ h;c.v3 λ_ _ c=>?_;refine vx (V9 hs)<|vx (jU (ds:=[_,_,_]) rfl)<|c.w3 0 λ_ c=>?_;refine c.rl 0 ?_;exact q _ c.gr
structure Et where
 at':Int
 old:W3
 new:Int
 wr:Bool
def cE (e:Et):List Value:=[.int .i64 e.at',.int .i64 e.old.v,.int .u32 e.old.j8,.int .u32 e.old.ref,.int .i64 e.new,.bool e.wr]
def Ya (e:Et) (v:Value) (h:v∈cE e):v.oneCell'=true:=by
 unfold cE at h;simp only[aU,bF,or_false] at h;rcases h with rfl | rfl | rfl | rfl | rfl | rfl <;> rfl
def EE:pT Et:={n:=6,c:=cE,len:=λ_=>rfl,one:=λa v h=>Ya a v h}
def vE (e:Et):Value:=.agg #[.int .i64 e.at',.int .i64 e.old.v,.int .u32 e.old.j8,.int .u32 e.old.ref,.int .i64 e.new,.bool e.wr]
def vP (a b c:W3):Value:=.agg #[.int .i64 a.v,.int .u32 a.j8,.int .u32 a.ref,.int .i64 b.v,.int .u32 b.j8,.int .u32 b.ref,.int .i64 c.v,.int .u32 c.j8,.int .u32 c.ref]
def DJ (e:Et):W3:=⟨e.at',if e.wr=true then 1 else 0,0⟩
def DI (e:Et):W3:=⟨e.old.v,e.old.j8,0⟩
def Ee (e:Et):W3:=⟨e.new,0,0⟩
def Ir {e:Et} (u:∀h',Gr h h'->R (vP (DJ e) (DI e) (Ee e)) h'):S.C 130 [(vE e)] h R:=by
 refine J8.2 ?_;obtain⟨a,⟨v,q,r⟩,n,b⟩:=e;cases b with
 | true=>
  have c:=Cx.jQ h;refine c.v6 λ_ _ c=>c.v9 λ_ _ c=>?_;refine jS<|c.rc 0 ?_;refine vx (jU (ds:=[_,_,_]) rfl)<|c.v3 λ_ _ c=>?_;refine c.w3 2 λ_ c=>?_;refine .here<|jS<|c.rc 0 ?_;refine kV<|jS<|c.q3 2 λ_ c=>?_;refine c.rl 2 ?_;refine jS<|jS<|c.rc 0 ?_;refine jS<|jS<|c.rc 0 ?_;refine vx (jU (ds:=[_,_,_]) rfl)<|jS<|c.rc 0 ?_;refine vx (jU (ds:=[_,_,_]) rfl)<|vx (v:=vP ⟨a,1,0⟩ ⟨v,q,0⟩ ⟨n,0,0⟩) (by kernel_rfl)<|c.w9 1 λ_ c=>?_;refine c.rl 1 ?_;exact u _ c.gr
 | false=>
  have c:=Cx.jQ h;refine c.v6 λ_ _ c=>c.v9 λ_ _ c=>?_;refine jS<|c.rc 0 ?_;refine vx (jU (ds:=[_,_,_]) rfl)<|c.v3 λ_ _ c=>?_;refine c.w3 2 λ_ c=>?_;refine .here<|jS<|c.rc 0 ?_;refine j7<|c.rl 2 ?_;refine jS<|jS<|c.rc 0 ?_;refine jS<|jS<|c.rc 0 ?_;refine vx (jU (ds:=[_,_,_]) rfl)<|jS<|c.rc 0 ?_;refine vx (jU (ds:=[_,_,_]) rfl)<|vx (v:=vP ⟨a,0,0⟩ ⟨v,q,0⟩ ⟨n,0,0⟩) (by kernel_rfl)<|c.w9 1 λ_ c=>?_;refine c.rl 1 ?_;exact u _ c.gr
def Ll (who n part:Int):Int:=jP who+(2+3*n+part)
def qP:∀{who:Int},-1000<=who/\who<=1000->Pz 106 [vL,.int .i64 who] (.tuple #[.int .i64 (jP who),.int .i64 (lu who)]):=λhw h R Z k=>oO.2 (N0 Z hw k)
def T1 {n part:Int} (Z:Zs h) (hw : -1000<=who/\who<=1000) (u:0<=n/\n<lu who) (B:0<=part/\part<3) (q:∀h',Gr h h'->R (.tuple #[.int .i64 (Ll who n part),.int .i64 0]) h'):S.C 298 [vL,(.int .i64 who),(.int .i64 n),(.int .i64 part)] h R:=by
 refine IC.2 ?_;have hm:lu who<=32:=by unfold lu;(repeat' split) <;> omega
 have E : -1<=jP who/\jP who<=1000:=by unfold jP lC mR;split <;> split <;> omega
 have c:=Cx.jQ h;refine c.v3 λ_ _ c=>?_;refine c.rl 0 ?_;refine lM _ _ (Z.gr c.gr) λ_ g=>have c:=c.more g;vx (v:=.bool false) rfl<|j7<|c.rl 0 ?_;refine qP hw _ _ (Z.gr c.gr) λ_ g=>have c:=c.more g;vx rfl<|vx rfl ?_;exact .here<|vx (lL ((by omega)))<|j7<|vx (oV ((by omega)))<|j7<|vx (lL ((by omega)))<|j7<|vx (oV (by omega))<|j7<|vx (v:=.int .i64 (3*n)) (by rw[BS,EN ⟨by omega,by omega⟩])<|vx (oC ⟨by omega,by omega⟩)<|vx (oC ⟨by omega,by omega⟩)<|vx (oC ⟨by omega,by omega⟩)<|q _ c.gr
end
def N9:∀xs:List (IntKind × Int × Int),AK (xs.map λ_=>true) (xs.map λp=>.int p.1 p.2.1) (xs.map λp=>.int p.1 p.2.2)=some (decide (∀p∈xs,p.2.1=p.2.2))
 | []=>by simp[AK]
 | (k,a,b)::r=>by
  have:=N9 r;simp only[bS,AK,ZM,if_true,dT,this];by_cases e:a=b <;> simp[e]
def Zw (a b c x y z:W3):uk (zL [true,true,true,true,true,true,true,true,true] (vP a b c) (vP x y z))=some (.bool (decide ¬(a=x/\b=y/\c=z))):=by
 have:=N9 [(.i64,a.v,x.v),(.u32,a.j8,x.j8),(.u32,a.ref,x.ref),(.i64,b.v,y.v),(.u32,b.j8,y.j8),(.u32,b.ref,y.ref),(.i64,c.v,z.v),(.u32,c.j8,z.j8),(.u32,c.ref,z.ref)];have e:zL [true,true,true,true,true,true,true,true,true] (vP a b c) (vP x y z)=some (decide (a=x/\b=y/\c=z)):=by
  refine jO (b:=AK _ _ _) rfl (this.trans ?_);congr 1;refine decide_eq_decide.2 ?_;rw[<-W3.iff a x,<-W3.iff b y,<-W3.iff c z];simp[and_assoc]
 rw[e,Ko];by_cases h:a=x/\b=y/\c=z <;> simp[h]
def Ds (a b c:W3):Et:=⟨a.v,b,c.v,decide (a.j8=1)⟩
def KY (a b c:W3):Bool:=decide ((0<=a.v/\a.v<4096)/\DJ (Ds a b c)=a/\DI (Ds a b c)=b/\Ee (Ds a b c)=c)
abbrev K5:Et:=⟨0,W0,0,false⟩
def JY {a b c:W3} (O:∀h',Gr h h'->R (.tuple #[vE (if KY a b c=true then Ds a b c else K5),.bool (KY a b c)]) h'):S.C 110 [(vP a b c)] h R:=by
 refine F8.2 ?_;obtain⟨u,B,E⟩:=a;obtain⟨G,H,J⟩:=b;obtain⟨K,c2,M⟩:=c;by_cases T:0<=u/\u<4096
 ·by_cases Q:DJ (Ds ⟨u,B,E⟩ ⟨G,H,J⟩ ⟨K,c2,M⟩)=⟨u,B,E⟩/\DI (Ds ⟨u,B,E⟩ ⟨G,H,J⟩ ⟨K,c2,M⟩)=⟨G,H,J⟩/\Ee (Ds ⟨u,B,E⟩ ⟨G,H,J⟩ ⟨K,c2,M⟩)=⟨K,c2,M⟩
  ·rw[show KY ⟨u,B,E⟩ ⟨G,H,J⟩ ⟨K,c2,M⟩=true from decide_eq_true ⟨T,Q⟩,if_pos rfl] at O;have c:=Cx.jQ h;refine c.v9 λ_ _ c=>c.v6 λ_ _ c=>?_;refine .here<|vx (uP (i:=0) rfl (by decide))<|jS<|c.rc 0 ?_;refine vx (lL ((show ¬u<0 by omega)))<|j7<|vx (uP (i:=0) rfl (by decide))<|jS<|c.rc 0 ?_;refine vx (oV (show ¬(4096:Int)<=u by omega))<|j7<|vx (uP (i:=0) rfl (by decide))<|jS<|c.rc 0 ?_;refine vx (uP (i:=1) rfl (by decide))<|vx (c.vp (i:=0) (ds:=[_,_,_]) rfl rfl rfl)<|vx (uP (i:=2) rfl (by decide))<|jS<|c.rc 0 ?_;refine vx (uP (i:=0) rfl (by decide))<|jS<|c.rc 0 ?_;refine vx (kU ..)<|vx (jU (ds:=[_,_,_,_,_,_]) rfl)<|c.v6 λ_ _ c=>?_;refine c.w6 2 λ_ c=>?_;refine c.rl 2 ?_;refine c.rl 0 ?_;refine Ir (e:=Ds ⟨u,B,E⟩ ⟨G,H,J⟩ ⟨K,c2,M⟩) λ_ g=>have c:=c.more g;c.al 0<|vx ((Zw ..).trans (by rw[decide_eq_false (λx=>x Q)]))<|j7<|c.rl 2 ?_;refine c.w6 1 λ_ c=>?_;refine c.rl 1 ?_;exact O _ c.gr
  ·rw[show KY ⟨u,B,E⟩ ⟨G,H,J⟩ ⟨K,c2,M⟩=false from decide_eq_false λx=>Q x.2,if_neg (by decide)] at O;have c:=Cx.jQ h;refine c.v9 λ_ _ c=>c.v6 λ_ _ c=>?_;refine .here<|vx (uP (i:=0) rfl (by decide))<|jS<|c.rc 0 ?_;refine vx (lL ((show ¬u<0 by omega)))<|j7<|vx (uP (i:=0) rfl (by decide))<|jS<|c.rc 0 ?_;refine vx (oV (show ¬(4096:Int)<=u by omega))<|j7<|vx (uP (i:=0) rfl (by decide))<|jS<|c.rc 0 ?_;refine vx (uP (i:=1) rfl (by decide))<|vx (c.vp (i:=0) (ds:=[_,_,_]) rfl rfl rfl)<|vx (uP (i:=2) rfl (by decide))<|jS<|c.rc 0 ?_;refine vx (uP (i:=0) rfl (by decide))<|jS<|c.rc 0 ?_;refine vx (kU ..)<|vx (jU (ds:=[_,_,_,_,_,_]) rfl)<|c.v6 λ_ _ c=>?_;refine c.w6 2 λ_ c=>?_;refine c.rl 2 ?_;refine c.rl 0 ?_;refine Ir (e:=Ds ⟨u,B,E⟩ ⟨G,H,J⟩ ⟨K,c2,M⟩) λ_ g=>have c:=c.more g;c.al 0<|vx ((Zw ..).trans (by rw[decide_eq_true Q]))<|kV<|vx (jU (ds:=[_,_,_,_,_,_]) rfl)<|c.w6 1 λ_ c=>?_;refine c.rl 1 ?_;exact O _ c.gr
 ·rw[show KY ⟨u,B,E⟩ ⟨G,H,J⟩ ⟨K,c2,M⟩=false from decide_eq_false λx=>T x.1,if_neg (by decide)] at O;have c:=Cx.jQ h;refine c.v9 λ_ _ c=>c.v6 λ_ _ c=>?_;refine .here<|vx (uP (i:=0) rfl (by decide))<|jS<|c.rc 0 ?_;refine vx j9<|lV (λq=>?_) λq=>?_
  ·refine kV<|vx (jU (ds:=[_,_,_,_,_,_]) rfl)<|c.w6 1 λ_ c=>?_;refine c.rl 1 ?_;exact O _ c.gr
  ·refine vx (uP (i:=0) rfl (by decide))<|jS<|c.rc 0 ?_;refine vx (s0 (show(4096:Int)<=u by have q:¬u<0:=q; omega))<|kV<|vx (jU (ds:=[_,_,_,_,_,_]) rfl)<|c.w6 1 λ_ c=>?_;refine c.rl 1 ?_;exact O _ c.gr
def xP (e:Et):Int:=
 if e.at'<0\/4096<=e.at' then 3
 else if ¬xw e.old=0 then 13
 else if e.wr=true/\e.old.j8=4294967295 then 9
 else if e.wr=false/\¬e.new=e.old.v then 4
 else 0
def Q6 {e:Et} (hw:Ww e.old) (u:∀h',Gr h h'->R (.int .i64 (xP e)) h'):S.C 142 [(vE e)] h R:=by
 refine F9.2 ?_;obtain⟨a,w,n,b⟩:=e;obtain⟨v,q,r⟩:=w;dsimp only at hw;unfold xP at u;dsimp only at u;by_cases H:a<0\/4096<=a
 ·rw[if_pos H] at u;have c:=Cx.jQ h;refine c.v6 λ_ _ c=>?_;refine .here<|jS<|c.rc 0 ?_;refine vx j9<|lV (λx=>?_) λx=>?_
  ·exact kV<|u _ c.gr
  ·refine jS<|c.rc 0 ?_;exact vx (s0 (show(4096:Int)<=a by have x:¬a<0:=x; omega))<|kV<|u _ c.gr
 rw[if_neg H] at u;by_cases B:xw ⟨v,q,r⟩=0
 ·rw[if_neg (λx=>x B)] at u;cases b with
  | true=>
   by_cases E:q=4294967295
   ·rw[if_pos ⟨rfl,E⟩] at u;have c:=Cx.jQ h;refine c.v6 λ_ _ c=>?_;refine .here<|jS<|c.rc 0 ?_;refine vx (lL ((show ¬a<0 by omega)))<|j7<|jS<|c.rc 0 ?_;refine vx (oV (show ¬(4096:Int)<=a by omega))<|j7<|jS<|vx (c.vp (i:=0) (ds:=[_,_,_]) rfl rfl rfl)<|Bj (w:=⟨v,q,r⟩) hw λ_ g=>?_;have c:=c.more g;rw[decide_eq_true B];refine vx (v:=.bool false) (rfl)<|j7 ?_;refine .here<|jS<|c.rc 0 ?_;refine kV<|jS<|jS<|c.rc 0 ?_;exact vx (pN E)<|kV<|u _ c.gr
   ·rw[if_neg (λx=>E x.2),if_neg (λx=>by cases x.1)] at u;have c:=Cx.jQ h;refine c.v6 λ_ _ c=>?_;refine .here<|jS<|c.rc 0 ?_;refine vx (lL ((show ¬a<0 by omega)))<|j7<|jS<|c.rc 0 ?_;refine vx (oV (show ¬(4096:Int)<=a by omega))<|j7<|jS<|vx (c.vp (i:=0) (ds:=[_,_,_]) rfl rfl rfl)<|Bj (w:=⟨v,q,r⟩) hw λ_ g=>?_;have c:=c.more g;rw[decide_eq_true B];refine vx (v:=.bool false) (rfl)<|j7 ?_;refine .here<|jS<|c.rc 0 ?_;refine kV<|jS<|jS<|c.rc 0 ?_;refine vx (m6 E)<|j7 ?_;refine .here<|jS<|c.rc 0 ?_;exact vx (v:=.bool false) (rfl)<|j7<|j7<|u _ c.gr
  | false=>
   rw[if_neg (λx=>by cases x.1)] at u;by_cases G:n=v
   ·rw[if_neg (λx=>x.2 G)] at u;have c:=Cx.jQ h;refine c.v6 λ_ _ c=>?_;refine .here<|jS<|c.rc 0 ?_;refine vx (lL ((show ¬a<0 by omega)))<|j7<|jS<|c.rc 0 ?_;refine vx (oV (show ¬(4096:Int)<=a by omega))<|j7<|jS<|vx (c.vp (i:=0) (ds:=[_,_,_]) rfl rfl rfl)<|Bj (w:=⟨v,q,r⟩) hw λ_ g=>?_;have c:=c.more g;rw[decide_eq_true B];refine vx (v:=.bool false) (rfl)<|j7 ?_;refine .here<|jS<|c.rc 0 ?_;refine j7<|j7 ?_;refine .here<|jS<|c.rc 0 ?_;refine vx (v:=.bool true) (rfl)<|kV<|jS<|c.rc 0 ?_;refine jS<|jS<|c.rc 0 ?_;exact vx (BM G)<|j7<|u _ c.gr
   ·rw[if_pos ⟨rfl,G⟩] at u;have c:=Cx.jQ h;refine c.v6 λ_ _ c=>?_;refine .here<|jS<|c.rc 0 ?_;refine vx (lL ((show ¬a<0 by omega)))<|j7<|jS<|c.rc 0 ?_;refine vx (oV (show ¬(4096:Int)<=a by omega))<|j7<|jS<|vx (c.vp (i:=0) (ds:=[_,_,_]) rfl rfl rfl)<|Bj (w:=⟨v,q,r⟩) hw λ_ g=>?_;have c:=c.more g;rw[decide_eq_true B];refine vx (v:=.bool false) (rfl)<|j7 ?_;refine .here<|jS<|c.rc 0 ?_;refine j7<|j7 ?_;refine .here<|jS<|c.rc 0 ?_;refine vx (v:=.bool true) (rfl)<|kV<|jS<|c.rc 0 ?_;refine jS<|jS<|c.rc 0 ?_;exact vx (E7 G)<|kV<|u _ c.gr
 ·rw[if_pos B] at u;have c:=Cx.jQ h;refine c.v6 λ_ _ c=>?_;refine .here<|jS<|c.rc 0 ?_;refine vx (lL ((show ¬a<0 by omega)))<|j7<|jS<|c.rc 0 ?_;refine vx (oV (show ¬(4096:Int)<=a by omega))<|j7<|jS<|vx (c.vp (i:=0) (ds:=[_,_,_]) rfl rfl rfl)<|Bj (w:=⟨v,q,r⟩) hw λ_ g=>?_;have c:=c.more g;rw[decide_eq_false B];exact vx (v:=.bool true) (rfl)<|kV<|u _ c.gr
section
variable {v f:Value} {es:List Et} {q:Et->Bool} {r:Nat} {z:Int} {e:Et}
def VS {α:Type} (f:Value) (w:α->Value) (p:α->Bool) (xs:List α) (h:Hp):Prop:=
 ∀h' x (R:Value->Hp->Prop),Gr h h'->x∈xs->(∀u,Gr h' u->R (.bool (p x)) u)->Cw S.C S.Y I.mt f [w x] h' R
def ES {α:Type} {p:α->Bool} {xs:List α} {i:Nat} {x:α} (B:xs[i]?=some x) (E:∀y∈xs.take i,p y=false) (h:p x=false):∀y∈xs.take (i+1),p y=false:=by
 intro y u;rw[bN,B,eS,bB,aN] at u;rcases u with u | rfl
 ·exact E y u
 ·exact h
def Xt (hs:Sl EE h v es) (M:VS f vE q es h) (O:es.length<=1000000) (J:∀h' z,Gr h h'->decide ((0:Int)<=z)=es.any q->R (.int .i64 z) h'):S.C 155 [v,f] h R:=by
 refine pq.2<|En.vb hs.ln ?_;refine sO.by (λ(i:Nat) a h'=>a=.int .i64 i/\i<=es.length/\(∀y∈es.take i,q y=false)/\Gr h h') (λi=>es.length - i) 0 ⟨rfl,aO _,(λy G=>by simp at G),.refl _ _⟩ ?_;rintro i _ h1 ⟨rfl,hi,H,g⟩ again u;refine En.vb j9 ?_;refine lV (λe=>?_) λe=>?_
 ·have B:=aB (l:=es) (i:=i) (by omega);generalize es[i]'(by omega)=x at B;refine(hs.gr g).whole rfl B rfl ?_;refine M _ x _ g (aG B) λh2 K=>?_;cases E:q x with
  | true=>exact kV (J _ _ (g.trans K) (by rw[decide_eq_true (bL i)]; exact(gP.2 ⟨x,aG B,E⟩).symm))
  | false=>
   refine j7 ?_;refine En.vb (inc (by omega)) ?_;exact u (i+1) _ _ ⟨rfl,by omega,ES B H E,g.trans K⟩ (by omega)
 ·refine J _ _ g ?_;rw[decide_eq_false (by omega)];symm;rw[aW (by omega)] at H;exact iG.2 λy G=>by rw[H y G];simp
def Ui (u:∀h',Gr h h'->mH (.pointer (some ⟨r,0+0,none⟩)) h'=some (.int .i64 z)) (B:∀h',Gr h h'->R (.bool (decide (e.at'=z))) h'):S.C 144 [(vE e),(kC r)] h R:=by
 refine DD.2<|have c:=Cx.jQ h;c.v6 λ_ _ c=>?_;refine jS<|c.rc 0 ?_;exact vx (oi _ _ _)<|vx (u _ c.gr)<|vx kU<|B _ c.gr
def Rq (hs:Sl EE h v es) (u:VS f vE q es h) (B:es.length<=1000000) (E:∀h',Gr h h'->R (.bool (es.any q)) h'):S.C 143 [v,f] h R:=by
 refine oK.2<|Xt hs u B λh' z g e=>En.vb qf ?_;rw[e];exact E _ g
end
def Gg:List Et->List Et->Int
 | _,[]=>0
 | pre,e::r=>if ¬xP e=0 then xP e else if pre.any (λy=>decide (y.at'=e.at'))=true then 11 else Gg (pre++[e]) r
def m4 (es:List Et):Int:=if es.length=0 then 8 else if 32<es.length then 15 else Gg [] es
def UF {es:List Et} {i:Nat} {e:Et} (he:es[i]?=some e):Gg (es.take i) (es.drop i)=if ¬xP e=0 then xP e else if (es.take i).any (λy=>decide (y.at'=e.at'))=true then 11 else Gg (es.take (i+1)) (es.drop (i+1)):=by
 obtain⟨hi,rfl⟩:=aC.1 he;rw[bP hi,Gg,bN,he];rfl
section
variable {v:Value} {es:List Et}
def yy (hs:Sl EE h v es) (hw:∀e∈es,Ww e.old) (hl:es.length<=1000) (H:∀h',Gr h h'->R (.int .i64 (m4 es)) h'):S.C 131 [v] h R:=by
 refine Gc.2 ?_;by_cases K:es.length=0
 ·rw[m4,if_pos K] at H;refine En.vb hs.ln ?_;refine En.vb (pN (by omega)) ?_;exact kV (H _ (.refl _ _))
 by_cases U:32<es.length
 ·rw[m4,if_neg K,if_pos U] at H;refine En.vb hs.ln ?_;refine En.vb (m6 (by omega)) ?_;refine j7 ?_;refine En.vb hs.ln ?_;refine En.vb (FL (by omega)) ?_;exact kV (H _ (.refl _ _))
 rw[m4,if_neg K,if_neg U] at H;have M:∀{z:Int} {h'},Gg [] es=z->Gr h h'->R (.int .i64 z) h':=λe g=>e▸H _ g;have c:=Cx.jQ h;refine vx hs.ln<|vx (m6 ((by omega)))<|j7<|vx hs.ln<|vx (pW ((by omega)))<|j7<|vx hs.ln<|sO.by (λ(i:Nat) z h'=>z=.int .i64 i/\i<=es.length/\Gg (es.take i) (es.drop i)=Gg [] es/\Gr h h') (λi=>es.length - i) 0 ⟨rfl,aO _,rfl,.refl _ _⟩ ?_;rintro i _ h8 ⟨rfl,hi,J,V⟩ again B;have c:Cx (λ_=>False) h h8 []:=(Cx.jQ h).more V;refine vx j9<|lV (λO=>?_) λO=>?_
 ·obtain⟨e,he⟩:∃e,es[i]?=some e:=⟨_,aB (by omega)⟩;have Q:=hw e (aG he);rw[UF he] at J;refine(hs.gr c.gr).whole rfl he rfl ?_;refine c.v6 λ_ _ c=>?_;refine c.w6 0 λ_ c=>?_;refine c.rl 0 ?_;refine Q6 (e:=e) Q λ_ g=>have c:=c.more g;vx mh<|lV (λE=>?_) λE=>?_
  ·exact M (J.symm.trans (if_pos E)) c.gr
  ·obtain⟨u,X,hu,_⟩:=(hs.gr c.gr).sub (n:=6) rfl (lo:=none) (hi:=some (.int .i64 i)) (l:=0) (u:=i) (.inl ⟨rfl,rfl⟩) (.inr ⟨_,_,rfl,rfl⟩) (aO _) (by omega);rw[dW] at hu;refine vx X<|vx rfl<|Rq (q:=λy=>decide (y.at'=e.at')) hu (λh9 y R9 Z _ k9=>.inl (.inl ⟨_,_,_,rfl,Ui (λaS T=>((c.more Z).more T).vc (i:=0) rfl rfl) k9⟩)) (by rw[aR]; omega) λ_ g=>have c:=c.more g;En.br (λG=>?_) λG=>?_
   ·exact M (J.symm.trans ((if_neg E).trans (if_pos G))) c.gr
   ·refine vx (inc (by omega)) ?_;rw[if_neg E,G,if_neg (by decide)] at J;exact B (i+1) _ _ ⟨rfl,by omega,J,c.gr⟩ (by omega)
 ·exact M (J.symm.trans (by rw[eO (by omega)]; rfl)) c.gr
end
section
variable {v f:Value} {es:List Et} {a b:Et}
def XR (q:C5 (a.at' - b.at')) (u:∀h',Gr h h'->R (.int .i64 (a.at' - b.at')) h'):BC.1 (vE a) (vE b) h R:=by
 have c:=Cx.jQ h;refine c.v6 λ_ _ c=>c.v6 λ_ _ c=>?_;refine jS<|c.rc 0 ?_;refine jS<|c.rc 1 ?_;exact vx (nu q)<|u _ c.gr
def mK:List Et->Bool
 | a::b::r=>decide (a.at'<=b.at')&&mK (b::r)
 | _=>true
def AF {es:List Et} {i:Nat} {x y:Et} (q:es[i]?=some x) (u:es[i+1]?=some y):mK (es.drop i)=(decide (x.at'<=y.at')&&mK (es.drop (i+1))):=by
 obtain⟨h1,rfl⟩:=aC.1 q;obtain⟨h2,rfl⟩:=aC.1 u;rw[bP h1,bP h2];rfl
def qI {es:List Et} {i:Nat} (h:es.length<=i+1):mK (es.drop i)=true:=by
 have:(es.drop i).length<=1:=by rw[cI];omega
 match es.drop i,this with
 | [],_=>rfl
 | [_],_=>rfl
def B0:∀{es:List Et},mK es=true->∀i,mK (es.drop i)=true
 | es,h,0=>h
 | [],_,i+1=>by simp[mK]
 | [_],_,i+1=>by simp[mK]
 | a::b::r,h,i+1=>by
  rw[mK,bO] at h;exact B0 (es:=b::r) h.2 i
def aaq (f:Value) (xs:List Et) (h:Hp):Prop:=
 ∀h' x y (R:Value->Hp->Prop),Gr h h'->x∈xs->y∈xs->(∀q,Gr h' q->R (.int .i64 (x.at' - y.at')) q)->Cw S.C S.Y I.mt f [vE x,vE y] h' R
def Fv (hs:Sl EE h v es) (M:aaq f es h) (Q:es.length<=1000) (B:∀h',Gr h h'->R (.bool (mK es)) h'):S.C 132 [v,f] h R:=by
 refine oL.2<|En.vb hs.ln ?_;refine En.vb (nu ⟨by omega,by omega⟩) ?_;by_cases O:es.length=0
 ·have:es=[]:=cF.1 O;subst this;refine sO.by (λ(_:Nat) z h'=>z=.int .i64 (-1)/\Gr h h') (λi=>i) 0 ⟨rfl,.refl _ _⟩ ?_;rintro i _ h1 ⟨rfl,g⟩ again u;refine En.vb (pW (by omega)) ?_;exact j7 (B _ g)
 refine sO.by (λ(i:Nat) z h'=>z=.int .i64 i/\i+1<=es.length/\mK (es.drop i)=true/\Gr h h') (λi=>i) (es.length - 1) ⟨by congr 1; omega,by omega,qI (by omega),.refl _ _⟩ ?_;rintro i _ h1 ⟨rfl,hi,E,g⟩ again u;refine En.vb mV ?_;refine lV (λe=>?_) λe=>?_
 ·obtain⟨j,rfl⟩:∃j,i=j+1:=⟨i - 1,by omega⟩;obtain⟨y,G⟩:∃y,es[j+1]?=some y:=⟨_,aB (by omega)⟩;obtain⟨x,H⟩:∃x,es[j]?=some x:=⟨_,aB (by omega)⟩;refine(hs.gr g).whole rfl G rfl ?_;refine En.vb (v:=.int .i64 (j:Int)) ((nu ⟨by omega,by omega⟩).trans (by congr 2; omega)) ?_;refine(hs.gr g).whole rfl H rfl ?_;refine M _ y x _ g (aG G) (aG H) λh2 K=>?_;have J:=AF H G;rw[E,jH] at J;refine En.vb j9 ?_;refine lV (λe=>?_) λe=>?_
  ·have:mK es=false:=by
    cases q:mK es with
    | false=>rfl
    | true=>exact absurd (B0 q j) (by rw[J]; simp; omega)
   have:=this▸B _ (g.trans K);exact this
  ·refine En.vb (v:=.int .i64 (j:Int)) ((nu ⟨by omega,by omega⟩).trans (by congr 2; omega)) ?_;exact u j _ _ ⟨rfl,by omega,by rw[J]; simp; omega,g.trans K⟩ (by omega)
 ·have:i=0:=by omega
  subst this;rw[dW] at E;have:=E▸B _ g;exact this
def Ky {v:Value} {us:List Et} (hs:Sl EE h v us) (B:us.length<=1000000) (q:∀u h',Cx (λ_=>False) h h' [kz EE (jY u) us]->R (jY u) h'):S.C 218 [v] h R:=by
 refine nh.2 ?_;dsimp only[nh,oH];exact yu hs rfl rfl (by omega) (by omega) q
end
structure Hc where
 ref:Int
 at':Int
 who:Int
 seq:Int
 sC:Int
 kY:Bool
 ws:SH
 many:Int
 es:SH
 i:Int
 j8:Int
 met:W3
 inner:Value
 ended:Bool
 nx:Value
 bh:Value
def pY (x:Hc):Value:=.agg #[.int .i64 3,.int .i64 6,.int .i64 4,.int .u32 x.ref,.int .i64 x.at',.int .i64 x.who,.int .i64 x.seq,.int .i64 x.sC,.bool x.kY,jY x.ws,.int .i64 x.many,jY x.es,.int .i64 x.i,.int .i64 x.j8,.int .i64 x.met.v,.int .u32 x.met.j8,.int .u32 x.met.ref,x.inner,.bool x.ended,x.nx,x.bh]
structure Ho (x:Hc):Prop where
 inner:x.inner.oneCell'=true
 nx:x.nx.oneCell'=true
 bh:x.bh.oneCell'=true
def Ek {v:Value} (h:v.oneCell'=true):lI [v]=true:=by simp[lI,h]
section
variable {x:Hc} {n:Value} {a:Ac} {z:Int}
def qQ (o:Ho x) (E:n.oneCell'=true) (q:∀h',Gr h h'->R (.tuple #[pY {x with nx:=n},qZ a,.bool false]) h'):S.C 284 [(pY x),(qZ a),n] h R:=by
 refine BZ.2 ?_;obtain⟨r,kC,who,seq,sC,kY,ws,many,es,i,j8,met,inner,ended,nx,bh⟩:=x;obtain⟨hi,u,B⟩:=o;dsimp only at hi u B;have c:=Cx.jQ h;refine c.l9 λ_ _ c=>c.v8 λ_ _ c=>c.l9 λ_ _ c=>c.v8 λ_ _ c=>?_;refine jS<|c.z6 0 λ_ c=>?_;refine c.rl 0 ?_;refine c.rl 1 ?_;refine c.ZV 2 λ_ c=>?_;refine c.al 1<|c.w8 3 λ_ c=>?_;refine c.rl 2 ?_;refine c.rl 3 ?_;exact q _ c.gr
def yh (o:Ho x) (q:∀h',Gr h h'->R (.tuple #[pY {x with ended:=true,j8:=z,inner:=.nilIface},qZ o8,.bool true]) h'):S.C 286 [(pY x),(.int .i64 z)] h R:=by
 refine Ba.2 ?_;obtain⟨r,kC,who,seq,sC,kY,ws,many,es,i,j8,met,inner,ended,nx,bh⟩:=x;obtain⟨hi,u,B⟩:=o;dsimp only at hi u B;have c:=Cx.jQ h;refine c.l9 λ_ _ c=>c.l9 λ_ _ c=>c.v8 λ_ _ c=>?_;refine jS<|c.z6 0 λ_ c=>?_;refine jS<|c.z6 0 λ_ c=>?_;refine jS<|c.z6 0 λ_ c=>?_;refine c.rl 0 ?_;refine vx (jU (ds:=[_,_,_,_,_,_,_,_]) rfl)<|c.ZV 1 λ_ c=>?_;refine c.w8 2 λ_ c=>?_;refine c.rl 1 ?_;refine c.rl 2 ?_;exact q _ c.gr
def AX (o:Ho x) (q:n.oneCell'=true) (u:∀h',Gr h h'->R (.tuple #[pY {x with nx:=n},qZ ⟨5,x.at',W0,W0⟩,.bool false]) h'):S.C 272 [(pY x),n] h R:=by
 refine AE.2 ?_;obtain⟨r,kC,who,seq,sC,kY,ws,many,es,i,j8,met,inner,ended,nx,bh⟩:=x;have B:=o;obtain⟨hi,E,G⟩:=o;dsimp only at hi E G;have c:=Cx.jQ h;refine c.l9 λ_ _ c=>c.l9 λ_ _ c=>c.v8 λ_ _ c=>?_;refine c.rl 0 ?_;refine jS<|c.rc 0 ?_;refine vx (jU (ds:=[_,_,_,_,_,_,_,_]) rfl)<|qQ (x:=⟨r,kC,who,seq,sC,kY,ws,many,es,i,j8,met,inner,ended,nx,bh⟩) (a:=⟨5,kC,W0,W0⟩) B q λ_ g=>have c:=c.more g;c.lj 1 2 λ_ c=>?_;exact u _ c.gr
end
def Row.part {α:Type} {E:pT α} {r o q n:Nat} {x:α} (e:Row E h r o x) {ds:List Value} (M:q+n<=(E.c x).length) (G:((E.c x).drop q).take n=ds):En.kc n (.pointer (some ⟨r,o+q,none⟩)) h=some (.agg ⟨ds⟩):=by
 subst G;have H:(((E.c x).drop q).take n).length=n:=by rw[aR,cI];omega
 have J:Row (Yi n) h r (o+q) ⟨((E.c x).drop q).take n,H,cG.2 λy K=>E.one x y (fU (dR K))⟩:=λj u hu=>by
  have hu:(((E.c x).drop q).take n)[j]?=some u:=hu;rw[List.getElem?_take] at hu;split at hu
  ·rw[fL] at hu;have:=e (q+j) u hu;rwa [<-fQ] at this
  ·cases hu
 exact J.kc rfl
def Sl.prt {α:Type} {E:pT α} {v:Value} {xs:List α} (H:Sl E h v xs) {n m:Nat} (u:n=E.n) {k:Value->Prop} {i:Nat} {x:α} (G:xs[i]?=some x) {q:IntKind} {z:Int} (J:z=i) {j:Nat} {ds:List Value} (K:j+m<=(E.c x).length) (M:((E.c x).drop j).take m=ds) (O:k (.agg ⟨ds⟩)) :
  Vb (sL n v (.int q z)) λp=>Vb (fa j p) λp=>Vb (kc m p h) k:=by
 obtain⟨r,o,e,Q,_⟩:=H.ix G u J (k:=q);exact vb e (vb (oi _ _ _) (vb (Q.part K M) O))
section
variable {x:Hc} {w:W3}
def wH (x:Hc) (w:W3):Bool:=decide (¬w.j8=x.seq\/¬w.ref=0\/w.v<0\/2<w.v)
def vI (o:Ho x) (J:0<=x.seq/\x.seq<4294967296) (K:∀h',Gr h h'->R (.bool (wH x w)) h'):S.C 285 [(pY x),(mW w)] h R:=by
 refine zB.2 ?_;obtain⟨r,kC,who,seq,sC,kY,ws,many,es,i,j8,met,inner,ended,nx,bh⟩:=x;obtain⟨G,H,wr⟩:=w;obtain⟨hi,M,O⟩:=o;dsimp only at hi M O J;have rt:(¬H=seq\/¬wr=0\/G<0\/2<G)->∀{h'},Gr h h'->R (.bool true) h':=λe _ g=>by
  have:=K _ g;rwa [show wH ⟨r,kC,who,seq,sC,kY,ws,many,es,i,j8,met,inner,ended,nx,bh⟩ ⟨G,H,wr⟩=true from decide_eq_true e] at this
 have rf:¬(¬H=seq\/¬wr=0\/G<0\/2<G)->∀{h'},Gr h h'->R (.bool false) h':=λe _ g=>by
  have:=K _ g;rwa [show wH ⟨r,kC,who,seq,sC,kY,ws,many,es,i,j8,met,inner,ended,nx,bh⟩ ⟨G,H,wr⟩=false from decide_eq_false e] at this
 have rd:H=seq->wr=0->¬G<0->∀{h'},Gr h h'->R (.bool (decide (2<G))) h':=λq u E _ g=>by
  by_cases e:2<G
  ·rw[decide_eq_true e];exact rt (.inr (.inr (.inr e))) g
  ·rw[decide_eq_false e];exact rf (λx=>by omega) g
 have c:=Cx.jQ h;refine c.l9 λ_ _ c=>c.v3 λ_ _ c=>?_;refine .here<|jS<|c.rc 1 ?_;refine jS<|c.rc 0 ?_;refine vx (V9 J)<|vx mh<|lV (λq=>?_) λq=>?_
 ·first | exact rd (cQ.1 q) (cQ.1 u) E c.gr | exact rt (.inr (.inr (.inl E))) c.gr | exact rt (.inr (.inl u)) c.gr | exact rt (.inl q) c.gr
 ·refine jS<|c.rc 1 ?_;refine vx mh<|lV (λu=>?_) λu=>?_
  ·first | exact rd (cQ.1 q) (cQ.1 u) E c.gr | exact rt (.inr (.inr (.inl E))) c.gr | exact rt (.inr (.inl u)) c.gr | exact rt (.inl q) c.gr
  ·refine jS<|c.rc 1 ?_;refine vx j9<|lV (λE=>?_) λE=>?_
   ·first | exact rd (cQ.1 q) (cQ.1 u) E c.gr | exact rt (.inr (.inr (.inl E))) c.gr | exact rt (.inr (.inl u)) c.gr | exact rt (.inl q) c.gr
   ·refine jS<|c.rc 1 ?_;refine vx mV ?_;first | exact rd (cQ.1 q) (cQ.1 u) E c.gr | exact rt (.inr (.inr (.inl E))) c.gr | exact rt (.inr (.inl u)) c.gr | exact rt (.inl q) c.gr
section
variable {es:List Et} {e:Et} {i:Nat}
def BL (o:Ho x) (hs:Sl EE h (jY x.es) es) (q:x.i=i) (he:es[i]?=some e) (E:∀h',Gr h h'->R (.int .i64 e.at') h'):S.C 306 [(pY x)] h R:=by
 refine zA.2 ?_;obtain⟨r,kC,who,seq,sC,kY,ws,many,G,i0,j8,met,inner,ended,nx,bh⟩:=x;obtain⟨hi,H,J⟩:=o;dsimp only at hi H J hs q;subst q;have c:=Cx.jQ h;refine c.l9 λ_ _ c=>?_;refine jS<|c.rc 0 ?_;refine jS<|c.rc 0 ?_;refine(hs.gr c.gr).sN (j:=0) rfl he rfl (u:=.int .i64 e.at') rfl ?_;exact E _ c.gr
def JT (o:Ho x) (hs:Sl EE h (jY x.es) es) (q:x.i=i) (he:es[i]?=some e) (u:∀h',Gr h h'->R (mW e.old) h'):S.C 307 [(pY x)] h R:=by
 refine zE.2 ?_;obtain⟨r,kC,who,seq,sC,kY,ws,many,E,i0,j8,met,inner,ended,nx,bh⟩:=x;obtain⟨K,⟨ev,eq,G⟩,en,eb⟩:=e;obtain⟨hi,H,J⟩:=o;dsimp only at hi H J hs q;subst q;have c:=Cx.jQ h;refine c.l9 λ_ _ c=>c.v3 λ_ _ c=>?_;refine jS<|c.rc 0 ?_;refine jS<|c.rc 0 ?_;refine(hs.gr c.gr).prt (j:=1) (ds:=[.int .i64 ev,.int .u32 eq,.int .u32 G]) rfl he rfl (show 4<=6 by decide) rfl ?_;refine c.w3 1 λ_ c=>?_;refine c.rl 1 ?_;exact u _ c.gr
def DP (o:Ho x) (hs:Sl EE h (jY x.es) es) (u:x.i=i) (he:es[i]?=some e) (E:∀h',Gr h h'->R (mW {e.old with ref:=x.ref}) h'):S.C 308 [(pY x)] h R:=by
 refine Aw.2 ?_;obtain⟨r,kC,who,seq,sC,kY,ws,many,q,i0,j8,met,inner,ended,nx,bh⟩:=x;obtain⟨K,⟨ev,eq,M⟩,en,eb⟩:=e;have G:=o;obtain⟨hi,H,J⟩:=o;dsimp only at hi H J hs u;subst u;have c:=Cx.jQ h;refine c.l9 λ_ _ c=>c.v3 λ_ _ c=>?_;refine c.rl 0 ?_;refine JT (x:=⟨r,kC,who,seq,sC,kY,ws,many,q,(i:Int),j8,met,inner,ended,nx,bh⟩) G (hs.gr c.gr) rfl he λ_ g=>have c:=c.more g;c.v3 λ_ _ c=>?_;refine c.w3 2 λ_ c=>?_;refine jS<|c.rc 0 ?_;refine jS<|c.q3 2 λ_ c=>?_;refine c.rl 2 ?_;refine c.w3 1 λ_ c=>?_;refine c.rl 1 ?_;exact E _ c.gr
end
def B8 (r:Int):0<=kj r/\kj r<=72:=by
 unfold kj;split
 ·rename_i h;have:=of_decide_eq_true h;omega
 ·omega
def yM (x:Hc) (w:W3):Bool:=decide (¬w.ref=x.ref/\¬kj w.ref=0/\0<=jP (kj w.ref))
def Fe (Z:Zs h) (o:Ho x) (hw:Ww w) (H:∀h',Gr h h'->R (.bool (yM x w)) h'):S.C 314 [(pY x),(mW w)] h R:=by
 refine xC.2 ?_;obtain⟨r,kC,who,seq,sC,kY,ws,many,E,i0,j8,met,inner,ended,nx,bh⟩:=x;obtain⟨J,K,wr⟩:=w;obtain⟨hi,M,O⟩:=o;have G:=hw.ref;dsimp only at hi M O G;have Q:=B8 wr;have rf:¬(¬wr=r/\¬kj wr=0/\0<=jP (kj wr))->∀{h'},Gr h h'->R (.bool false) h':=λe _ g=>by
  have:=H _ g;rwa [show yM ⟨r,kC,who,seq,sC,kY,ws,many,E,i0,j8,met,inner,ended,nx,bh⟩ ⟨J,K,wr⟩=false from decide_eq_false e] at this
 have rd:¬wr=r->¬kj wr=0->∀{h'},Gr h h'->R (.bool (decide (0<=jP (kj wr)))) h':=λq u _ g=>by
  have:=H _ g;rwa [show yM ⟨r,kC,who,seq,sC,kY,ws,many,E,i0,j8,met,inner,ended,nx,bh⟩ ⟨J,K,wr⟩=decide (0<=jP (kj wr)) from decide_eq_decide.2 ⟨λx=>x.2.2,λx=>⟨q,u,x⟩⟩] at this
 have c:=Cx.jQ h;refine c.l9 λ_ _ c=>c.v3 λ_ _ c=>?_;refine jS<|c.rc 1 ?_;refine xo G λ_ g=>have c:=c.more g;vx rfl<|vx rfl<|jS<|vx (c.vp (i:=0) (ds:=[_,_,_]) rfl rfl rfl)<|qP (who:=kj wr) ⟨by omega,by omega⟩ _ _ (Z.gr c.gr) λ_ g=>have c:=c.more g;vx rfl<|vx rfl ?_;refine .here<|jS<|c.rc 1 ?_;refine jS<|c.rc 0 ?_;refine vx mh<|lV (λq=>?_) λq=>?_
 ·refine vx mh<|lV (λu=>?_) λu=>?_
  ·refine vx qf ?_;first | exact rd q u c.gr | exact rf (λx=>x.2.1 (cQ.1 u)) c.gr | exact rf (λx=>q x.1) c.gr
  ·first | exact rd q u c.gr | exact rf (λx=>x.2.1 (cQ.1 u)) c.gr | exact rf (λx=>q x.1) c.gr
 ·first | exact rd q u c.gr | exact rf (λx=>x.2.1 (cQ.1 u)) c.gr | exact rf (λx=>q x.1) c.gr
end
inductive HK where
 | begin | first | lJ | mP | checked | lB | again | kN | lP | lG | settle | mS | kH | kT | known | found | through | pn
 deriving DecidableEq
structure Hs where
 ref:Int
 kY:Bool
 ws:List W3
 many:Nat
 es:List Et
 i:Nat
 j8:Int
 met:W3
 ended:Bool
 nx:HK
 bh:Option HK
def Hs.who (s:Hs):Int:=kj s.ref
def Hs.seq (s:Hs):Int:=oN s.ref
def Hs.at' (s:Hs):Int:=jP (kj s.ref)
def Hs.sC (s:Hs):Int:=lu (kj s.ref)
def Hs.new (ref:Int) (kY:Bool):Hs:=⟨ref,kY,[],0,[],0,0,W0,false,.begin,none⟩
abbrev HR:Type:=Hs × Ac × Bool
def hE (s:Hs):Et:=s.es.getD s.i K5
def l6 (s:Hs) (a:Ac) (k:HK):HR:=({s with nx:=k},a,false)
def nL (s:Hs) (k:HK):HR:=l6 s ⟨5,s.at',W0,W0⟩ k
def ur (s:Hs) (z:Int):HR:=({s with ended:=true,j8:=z},o8,true)
def tU (s:Hs) (w:W3):Bool:=decide (¬w.j8=s.seq\/¬w.ref=0\/w.v<0\/2<w.v)
def nc (s:Hs):HR:=
 if s.ws.length=3*s.many then nL s .checked
 else l6 s ⟨1,Ll s.who (s.ws.length / 3:Nat) (s.ws.length % 3:Nat),W0,W0⟩ .mP
def vi:List W3->List Et->Option (List Et)
 | a::b::c::r,out=>
  if KY a b c=true/\oG (Ds a b c).at'=true/\(∀l,out.getLast?=some l->l.at'<(Ds a b c).at') then vi r (out++[Ds a b c]) else none
 | _,out=>if m4 out=0 then some out else none
def kB (s:Hs):HR:=
 if s.i=s.es.length then l6 s ⟨8,0,W0,W0⟩ (s.bh.getD .begin)
 else l6 {s with i:=s.i+1} ⟨7,(hE s).at',W0,W0⟩ .lG
def mB (s:Hs) (k:HK):HR:=kB {s with i:=0,bh:=some k}
def oX (s:Hs):HR:=l6 s ⟨6,s.at',⟨0,s.seq,0⟩,⟨s.j8,s.seq,0⟩⟩ .mS
def lh (s:Hs) (z:Int):HR:=
 if z=1/\s.kY=true then mB {s with j8:=z} .settle else oX {s with j8:=z}
def xp (s:Hs):W3:={(hE s).old with ref:=s.ref}
def ki (s:Hs):HR:=
 if s.i=s.es.length then lh s 1 else l6 s ⟨6,(hE s).at',(hE s).old,xp s⟩ .lB
def ku (s:Hs):HR:=if s.kY=true then l6 s ⟨7,s.at',W0,W0⟩ .kH else nL s .known
def oS (s:Hs):HR:=
 if s.i<s.es.length then l6 s ⟨5,(hE s).at',W0,W0⟩ .found
 else if s.kY=true then mB s .through else ur s s.j8
def rQ (s:Hs):HR:=oS {s with i:=s.i+1}
def tQ (s:Hs) (w:W3):HR:=
 if w.ref=s.ref/\(zx w (hE s).new ((hE s).wr&&decide (s.j8=1))).2=0
 then l6 s ⟨6,(hE s).at',w,(zx w (hE s).new ((hE s).wr&&decide (s.j8=1))).1⟩ .pn else rQ s
def xX (s:Hs) (w:W3):HR:=oS {s with j8:=if w=⟨1,s.seq,0⟩\/w=⟨2,s.seq,0⟩ then w.v else 4,i:=0}
def vY (s:Hs) (w:W3):Bool:=decide (¬w.ref=s.ref/\¬kj w.ref=0/\0<=jP (kj w.ref))
def mZ (s:Hs) (g:lA):HR:=
 if g.ok=true\/g.w=xp s then ki {s with i:=s.i+1}
 else if vY s g.w=true then nL {s with met:=g.w} .again
 else lh s 2
def nB (s:Hs) (w:W3):HR:=
 if tU s w=true then ur s 4
 else match vi s.ws [] with
  | none=>ur s 4
  | some l=>if ¬w.v=0 then ku {s with es:=l} else ki {s with es:=l}
def pz (s:Hs) (w:W3):HR:=
 if w.v<1\/s.sC<w.v\/¬w=⟨w.v,0,0⟩ then ur s 4 else nc {s with many:=w.v.toNat}
def lS (s:Hs) (g:lA):HR:=
 match s.nx with
 | .begin=>nL s .first
 | .first=>if tU s g.w=true then ur s 4 else l6 s ⟨1,s.at'+1,W0,W0⟩ .lJ
 | .lJ=>pz s g.w
 | .mP=>nc {s with ws:=s.ws++[g.w]}
 | .checked=>nB s g.w
 | .lB=>mZ s g
 | .again=>ku s
 | .kN=>ki s
 | .lP=>ki s
 | .lG=>kB s
 | .settle=>oX s
 | .mS=>ku s
 | .kH=>l6 s ⟨8,0,W0,W0⟩ .kT
 | .kT=>nL s .known
 | .known=>xX s g.w
 | .found=>tQ s g.w
 | .through=>ur s s.j8
 | .pn=>rQ s
def kQ:List Hs->lA->List Hs × Ac × Bool
 | [],_=>([],o8,true)
 | s::r,g=>
  if s.ended=true then(s::r,o8,true)
  else match s.nx,r with
   | .kN,t::r=>match kQ (t::r) g with
    | (h,a,false)=>({s with nx:=.kN}::h,a,false)
    | (h,_,true)=>match h with
     | q::_=>if ¬q.j8=4 then([(ki s).1],(ki s).2) else([{s with nx:=.lP}],⟨6,(hE s).at',s.met,⟨s.met.v,s.met.j8,0⟩⟩,false)
     | []=>([],o8,true)
   | .again,_=>if ¬g.w=⟨0,s.seq,0⟩ then([(ku s).1],(ku s).2)
    else([{s with nx:=.kN},{Hs.new s.met.ref s.kY with nx:=.first}],⟨5,jP (kj s.met.ref),W0,W0⟩,false)
   | _,_=>([(lS s g).1],(lS s g).2)
def qw {h:Hs} {g:lA} (q:h.ended=false) (h1:¬h.nx=.again) (l:List Hs) (h2:l=[]\/¬h.nx=.kN):kQ (h::l) g=([(lS h g).1],(lS h g).2):=by
 rw[kQ.eq_def];simp only[q,cC,if_false];split
 ·rcases h2 with h2 | h2
  ·cases h2
  ·rename_i e;exact absurd e h2
 ·rename_i e;exact absurd e h1
 ·rfl
def nE {h:Hs} {g:lA} (q:h.ended=false) (h1:h.nx=.again) (l:List Hs):kQ (h::l) g=if ¬g.w=⟨0,h.seq,0⟩ then([(ku h).1],(ku h).2)
    else([{h with nx:=.kN},{Hs.new h.met.ref h.kY with nx:=.first}],⟨5,jP (kj h.met.ref),W0,W0⟩,false):=by
 rw[kQ.eq_def];simp only[q,cC,if_false];split
 ·rename_i e;rw[h1] at e;cases e
 ·rfl
 ·rename_i e _;exact absurd h1 e
def ot {h k:Hs} {g:lA} (u:h.ended=false) (h1:h.nx=.kN) (l:List Hs):kQ (h::k::l) g=match kQ (k::l) g with
    | (q,a,false)=>({h with nx:=.kN}::q,a,false)
    | (q,_,true)=>match q with
     | B::_=>if ¬B.j8=4 then([(ki h).1],(ki h).2) else([{h with nx:=.lP}],⟨6,(hE h).at',h.met,⟨h.met.v,h.met.j8,0⟩⟩,false)
     | []=>([],o8,true):=by
 rw[kQ.eq_def];simp only[u,cC,if_false,h1] <;> rfl
def kI:HK->Nat
 | .begin=>257
 | .first=>273
 | .lJ=>287
 | .mP=>299
 | .checked=>297
 | .lB=>309
 | .again=>315
 | .kN=>320
 | .lP=>323
 | .lG=>318
 | .settle=>313
 | .mS=>319
 | .kH=>303
 | .kT=>310
 | .known=>304
 | .found=>316
 | .through=>317
 | .pn=>322
def YV:Option HK->Value
 | none=>.nilFunc
 | some k=>qt (kI k)
def lq (k:Option HK):(YV k).oneCell'=true:=by cases k <;> rfl
instance {k:Option HK}:Ov (YV k):=⟨lq k⟩
abbrev kG (s:Hs) (w e:SH) (mA:Value):Hc:=⟨s.ref,s.at',s.who,s.seq,s.sC,s.kY,w,s.many,e,s.i,s.j8,s.met,mA,s.ended,qt (kI s.nx),YV s.bh⟩
def hv (x:HR) (w e:SH):Value:=.tuple #[pY (kG x.1 w e .nilIface),qZ x.2.1,.bool x.2.2]
def ho (s:Hs) (w e:SH):Ho (kG s w e .nilIface):=⟨rfl,rfl,lq s.bh⟩
section
variable {s:Hs} {w e:SH} {g:lA}
def Am (q:∀h',Gr h h'->R (hv (ku s) w e) h'):S.C 301 [(pY (kG s w e .nilIface))] h R:=by
 refine xz.2 ?_;obtain⟨rf,du,ws,mn,es,i,vr,mt,en,nx,bh⟩:=s;have u:=lq bh;cases du with
 | true=>
  have c:=Cx.jQ h;refine c.l9 λ_ _ c=>c.l9 λ_ _ c=>c.v8 λ_ _ c=>?_;refine jS<|c.rc 0 ?_;refine kV<|c.rl 0 ?_;refine jS<|c.rc 0 ?_;refine vx (jU (ds:=[_,_,_,_,_,_,_,_]) rfl)<|qQ (x:=kG ⟨rf,true,ws,mn,es,i,vr,mt,en,nx,bh⟩ w e .nilIface) (a:=⟨7,jP (kj rf),W0,W0⟩) (ho _ w e) rfl λ_ g=>have c:=c.more g;c.lj 1 2 λ_ c=>?_;exact q _ c.gr
 | false=>
  have c:=Cx.jQ h;refine c.l9 λ_ _ c=>c.l9 λ_ _ c=>c.v8 λ_ _ c=>?_;refine jS<|c.rc 0 ?_;refine j7<|c.rl 0 ?_;refine AX (x:=kG ⟨rf,false,ws,mn,es,i,vr,mt,en,nx,bh⟩ w e .nilIface) (ho _ w e) rfl λ_ g=>have c:=c.more g;c.lj 1 2 λ_ c=>?_;exact q _ c.gr
def Fh {v:lA} (q:0<=s.seq/\s.seq<4294967296) (u:∀h',Gr h h'->R (hv (oX s) w e) h'):rY.1 (pY (kG s w e .nilIface)) (mU v) h R:=by
 obtain⟨rf,du,ws,mn,es,i,vr,mt,en,nx,bh⟩:=s;have E:=lq bh;have c:=Cx.jQ h;refine c.l9 λ_ _ c=>c.v4 λ_ _ c=>c.l9 λ_ _ c=>c.v8 λ_ _ c=>?_;refine c.rl 0 ?_;refine jS<|c.rc 0 ?_;refine jS<|c.rc 0 ?_;refine jS<|c.rc 0 ?_;refine jS<|c.rc 0 ?_;refine nV q λ_ g=>have c:=c.more g;c.ac 0<|c.ac 0<|c.ac 0<|c.al 0<|nV q λ_ g=>have c:=c.more g;c.ac 0<|c.al 0<|vx (jU (ds:=[_,_,_,_,_,_,_,_]) rfl)<|qQ (x:=kG ⟨rf,du,ws,mn,es,i,vr,mt,en,nx,bh⟩ w e .nilIface) (a:=⟨6,jP (kj rf),⟨0,oN rf,0⟩,⟨vr,oN rf,0⟩⟩) (ho _ w e) rfl λ_ g=>?_;have c:=c.more g;refine c.lj 2 3 λ_ c=>?_;exact u _ c.gr
def Gw {v:lA} (q:0<=s.seq/\s.seq<4294967296) (u:∀h',Gr h h'->R (hv (oX s) w e) h'):S.C 313 [(pY (kG s w e .nilIface)),(mU v)] h R:=rY.2 (Fh q u)
def C9 {v:lA} (he:Sl EE h (jY e) s.es) (hi:s.i<=s.es.length/\s.es.length<=1000) (u:¬s.bh=none) (q:∀h',Gr h h'->R (hv (kB s) w e) h'):qJ.1 (pY (kG s w e .nilIface)) (mU v) h R:=by
 obtain⟨rf,du,ws,mn,es,i,vr,mt,en,nx,bh⟩:=s;have K:=lq bh;dsimp only at he hi u;unfold kB at q;dsimp only at q;by_cases E:i=es.length
 ·rw[if_pos E] at q;have c:=Cx.jQ h;refine c.l9 λ_ _ c=>c.v4 λ_ _ c=>c.l9 λ_ _ c=>c.v8 λ_ _ c=>?_;refine jS<|c.rc 0 ?_;refine jS<|c.rc 0 ?_;refine vx (he.gr c.gr).ln<|vx (pN (congrArg Nat.cast E))<|kV<|c.rl 0 ?_;refine vx (jU (ds:=[_,_,_,_,_,_,_,_]) rfl)<|jS<|c.rc 0 ?_;refine qQ (x:=kG ⟨rf,du,ws,mn,es,i,vr,mt,en,nx,bh⟩ w e .nilIface) (a:=⟨8,0,W0,W0⟩) (ho _ w e) K λ_ g=>have c:=c.more g;c.lj 2 3 λ_ c=>?_;refine(?_:R (hv (⟨rf,du,ws,mn,es,i,vr,mt,en,bh.getD .begin,bh⟩,⟨8,0,W0,W0⟩,false) w e) _->_) (q _ c.gr);cases bh with
  | none=>exact absurd rfl u
  | some k=>exact id
 ·rw[if_neg E] at q;have G:i<es.length:=by omega
  have H:=aB G;have J:hE ⟨rf,du,ws,mn,es,i,vr,mt,en,nx,bh⟩=es[i]:=by
   unfold hE;dsimp only;rw[aI,H];rfl
  rw[J] at q;generalize es[i]=et at H q;have c:=Cx.jQ h;refine c.l9 λ_ _ c=>c.v4 λ_ _ c=>c.l9 λ_ _ c=>c.v8 λ_ _ c=>?_;refine jS<|c.rc 0 ?_;refine jS<|c.rc 0 ?_;refine vx (he.gr c.gr).ln<|vx (m6 (λh=>E (jI.1 h)))<|j7<|c.rl 0 ?_;refine BL (x:=kG ⟨rf,du,ws,mn,es,i,vr,mt,en,nx,bh⟩ w e .nilIface) (ho _ w e) (he.gr c.gr) rfl H λ_ g=>have c:=c.more g;jS<|c.rc 0 ?_;refine vx (inc (n:=i) (by omega))<|jS<|c.z6 0 λ_ c=>?_;refine c.rl 0 ?_;refine vx (jU (ds:=[_,_,_,_,_,_,_,_]) rfl)<|qQ (x:=kG ⟨rf,du,ws,mn,es,i+1,vr,mt,en,nx,bh⟩ w e .nilIface) (a:=⟨7,et.at',W0,W0⟩) (ho _ w e) rfl λ_ g=>have c:=c.more g;c.lj 2 3 λ_ c=>?_;exact q _ c.gr
def Mm {v:lA} (he:Sl EE h (jY e) s.es) (hi:s.i<=s.es.length/\s.es.length<=1000) (q:¬s.bh=none) (u:∀h',Gr h h'->R (hv (kB s) w e) h'):S.C 318 [(pY (kG s w e .nilIface)),(mU v)] h R:=qJ.2 (C9 he hi q u)
def JH {k:HK} (he:Sl EE h (jY e) s.es) (hi:s.es.length<=1000) (q:∀h',Gr h h'->R (hv (mB s k) w e) h'):S.C 312 [(pY (kG s w e .nilIface)),(qt (kI k))] h R:=by
 refine zD.2 ?_;obtain⟨rf,du,ws,mn,es,i,vr,mt,en,nx,bh⟩:=s;have u:=lq bh;have c:=Cx.jQ h;refine c.l9 λ_ _ c=>c.l9 λ_ _ c=>c.v8 λ_ _ c=>?_;refine jS<|c.z6 0 λ_ c=>?_;refine jS<|c.z6 0 λ_ c=>?_;refine c.rl 0 ?_;refine vx (jU (ds:=[_,_,_,_]) rfl)<|Mm (s:=⟨rf,du,ws,mn,es,0,vr,mt,en,nx,some k⟩) (w:=w) (e:=e) (v:=qa) (he.gr c.gr) ⟨aO _,hi⟩ (λh=>by cases h) λ_ g=>have c:=c.more g;c.lj 1 2 λ_ c=>?_;exact q _ c.gr
end
def JE {s:Hs} (h:s.i<s.es.length):s.es[s.i]?=some (hE s):=by
 unfold hE;rw[aI,aB h];rfl
def nQ (r:Int):0<=oN r/\oN r<4294967296:=by
 unfold oN;split
 ·rename_i h;have:=of_decide_eq_true h;omega
 ·omega
section
variable {s:Hs} {w e:SH} {g:lA} {z:Int}
def GF (he:Sl EE h (jY e) s.es) (hi:s.es.length<=1000) (q:∀h',Gr h h'->R (hv (lh s z) w e) h'):S.C 305 [(pY (kG s w e .nilIface)),(.int .i64 z)] h R:=by
 refine yV.2 ?_;obtain⟨rf,du,ws,mn,es,i,vr,mt,en,nx,bh⟩:=s;have E:=lq bh;unfold lh at q;dsimp only at q;by_cases u:z=1
 ·cases du with
  | true=>
   rw[if_pos ⟨u,rfl⟩] at q;have c:=Cx.jQ h;refine c.l9 λ_ _ c=>c.l9 λ_ _ c=>c.v8 λ_ _ c=>?_;refine jS<|c.z6 0 λ_ c=>?_;refine .here<|vx (pN u)<|kV<|jS<|c.rc 0 ?_;refine kV<|c.rl 0 ?_;refine JH (s:=⟨rf,true,ws,mn,es,i,z,mt,en,nx,bh⟩) (w:=w) (e:=e) (k:=.settle) (he.gr c.gr) hi λ_ g=>have c:=c.more g;c.lj 1 2 λ_ c=>?_;exact q _ c.gr
  | false=>
   rw[if_neg λh=>by cases h.2] at q;have c:=Cx.jQ h;refine c.l9 λ_ _ c=>c.l9 λ_ _ c=>c.v8 λ_ _ c=>?_;refine jS<|c.z6 0 λ_ c=>?_;refine .here<|vx (pN u)<|kV<|jS<|c.rc 0 ?_;refine j7<|c.rl 0 ?_;refine vx (jU (ds:=[_,_,_,_]) rfl)<|Gw (s:=⟨rf,false,ws,mn,es,i,z,mt,en,nx,bh⟩) (w:=w) (e:=e) (v:=qa) (nQ rf) λ_ g=>have c:=c.more g;c.lj 1 2 λ_ c=>?_;exact q _ c.gr
 ·rw[if_neg λh=>u h.1] at q;have c:=Cx.jQ h;refine c.l9 λ_ _ c=>c.l9 λ_ _ c=>c.v8 λ_ _ c=>?_;refine jS<|c.z6 0 λ_ c=>?_;refine .here<|vx (m6 u)<|j7<|j7<|c.rl 0 ?_;refine vx (jU (ds:=[_,_,_,_]) rfl)<|Gw (s:=⟨rf,du,ws,mn,es,i,z,mt,en,nx,bh⟩) (w:=w) (e:=e) (v:=qa) (nQ rf) λ_ g=>have c:=c.more g;c.lj 1 2 λ_ c=>?_;exact q _ c.gr
def tP (he:Sl EE h (jY e) s.es) (hi:s.i<=s.es.length/\s.es.length<=1000) (q:∀h',Gr h h'->R (hv (ki s) w e) h'):S.C 302 [(pY (kG s w e .nilIface))] h R:=by
 refine xE.2 ?_;obtain⟨rf,du,ws,mn,es,i,vr,mt,en,nx,bh⟩:=s;have H:=lq bh;dsimp only at he hi;unfold ki at q;dsimp only at q;by_cases u:i=es.length
 ·rw[if_pos u] at q;have c:=Cx.jQ h;refine c.l9 λ_ _ c=>c.l9 λ_ _ c=>c.v8 λ_ _ c=>?_;refine jS<|c.rc 0 ?_;refine jS<|c.rc 0 ?_;refine vx (he.gr c.gr).ln<|vx (pN (congrArg Nat.cast u))<|kV<|c.rl 0 ?_;refine GF (s:=⟨rf,du,ws,mn,es,i,vr,mt,en,nx,bh⟩) (w:=w) (e:=e) (he.gr c.gr) hi.2 λ_ g=>have c:=c.more g;c.lj 1 2 λ_ c=>?_;exact q _ c.gr
 ·rw[if_neg u] at q;have G:i<es.length:=by omega
  have E:=JE (s:=⟨rf,du,ws,mn,es,i,vr,mt,en,nx,bh⟩) G;unfold xp at q;generalize hE ⟨rf,du,ws,mn,es,i,vr,mt,en,nx,bh⟩=et at E q;have c:=Cx.jQ h;refine c.l9 λ_ _ c=>c.l9 λ_ _ c=>c.v8 λ_ _ c=>?_;refine jS<|c.rc 0 ?_;refine jS<|c.rc 0 ?_;refine vx (he.gr c.gr).ln<|vx (m6 (λh=>u (jI.1 h)))<|j7<|c.rl 0 ?_;refine c.rl 0 ?_;refine c.rl 0 ?_;refine c.rl 0 ?_;refine BL (x:=kG ⟨rf,du,ws,mn,es,i,vr,mt,en,nx,bh⟩ w e .nilIface) (ho _ w e) (he.gr c.gr) rfl E λ_ g=>have c:=c.more g;c.al 0<|c.al 0<|c.al 0<|JT (x:=kG ⟨rf,du,ws,mn,es,i,vr,mt,en,nx,bh⟩ w e .nilIface) (ho _ w e) (he.gr c.gr) rfl E λ_ g=>have c:=c.more g;c.al 0<|c.al 0<|DP (x:=kG ⟨rf,du,ws,mn,es,i,vr,mt,en,nx,bh⟩ w e .nilIface) (ho _ w e) (he.gr c.gr) rfl E λ_ g=>have c:=c.more g;c.al 0<|?_;refine vx (jU (ds:=[_,_,_,_,_,_,_,_]) rfl)<|qQ (x:=kG ⟨rf,du,ws,mn,es,i,vr,mt,en,nx,bh⟩ w e .nilIface) (a:=⟨6,et.at',et.old,{et.old with ref:=rf}⟩) (ho _ w e) rfl λ_ g=>have c:=c.more g;c.lj 1 2 λ_ c=>?_;exact q _ c.gr
def D8 (he:Sl EE h (jY e) s.es) (hi:s.es.length<=1000) (q:∀h',Gr h h'->R (hv (oS s) w e) h'):S.C 311 [(pY (kG s w e .nilIface))] h R:=by
 refine z9.2 ?_;obtain⟨rf,du,ws,mn,es,i,vr,mt,en,nx,bh⟩:=s;have G:=lq bh;dsimp only at he hi;unfold oS at q;dsimp only at q;by_cases u:i<es.length
 ·rw[if_pos u] at q;have E:=JE (s:=⟨rf,du,ws,mn,es,i,vr,mt,en,nx,bh⟩) u;generalize hE ⟨rf,du,ws,mn,es,i,vr,mt,en,nx,bh⟩=et at E q;have c:=Cx.jQ h;refine c.l9 λ_ _ c=>c.l9 λ_ _ c=>c.v8 λ_ _ c=>?_;refine jS<|c.rc 0 ?_;refine jS<|c.rc 0 ?_;refine vx (he.gr c.gr).ln<|vx (vF (dU.2 u))<|kV<|c.rl 0 ?_;refine c.rl 0 ?_;refine BL (x:=kG ⟨rf,du,ws,mn,es,i,vr,mt,en,nx,bh⟩ w e .nilIface) (ho _ w e) (he.gr c.gr) rfl E λ_ g=>have c:=c.more g;c.al 0<|vx (jU (ds:=[_,_,_,_,_,_,_,_]) rfl)<|qQ (x:=kG ⟨rf,du,ws,mn,es,i,vr,mt,en,nx,bh⟩ w e .nilIface) (a:=⟨5,et.at',W0,W0⟩) (ho _ w e) rfl λ_ g=>have c:=c.more g;c.lj 1 2 λ_ c=>?_;exact q _ c.gr
 ·rw[if_neg u] at q;cases du with
  | true=>
   have c:=Cx.jQ h;refine c.l9 λ_ _ c=>c.l9 λ_ _ c=>c.v8 λ_ _ c=>?_;refine jS<|c.rc 0 ?_;refine jS<|c.rc 0 ?_;refine vx (he.gr c.gr).ln<|vx (lL (λh=>u (dU.1 h)))<|j7<|jS<|c.rc 0 ?_;refine kV<|c.rl 0 ?_;refine JH (s:=⟨rf,true,ws,mn,es,i,vr,mt,en,nx,bh⟩) (w:=w) (e:=e) (k:=.through) (he.gr c.gr) hi λ_ g=>have c:=c.more g;c.lj 1 2 λ_ c=>?_;exact q _ c.gr
  | false=>
   have c:=Cx.jQ h;refine c.l9 λ_ _ c=>c.l9 λ_ _ c=>c.v8 λ_ _ c=>?_;refine jS<|c.rc 0 ?_;refine jS<|c.rc 0 ?_;refine vx (he.gr c.gr).ln<|vx (lL (λh=>u (dU.1 h)))<|j7<|jS<|c.rc 0 ?_;refine j7<|c.rl 0 ?_;refine jS<|c.rc 0 ?_;refine yh (x:=kG ⟨rf,false,ws,mn,es,i,vr,mt,en,nx,bh⟩ w e .nilIface) (z:=vr) (ho _ w e) λ_ g=>have c:=c.more g;c.lj 1 2 λ_ c=>?_;exact q _ c.gr
def GR (he:Sl EE h (jY e) s.es) (hi:s.es.length<=1000/\s.i<=1000) (q:∀h',Gr h h'->R (hv (rQ s) w e) h'):tj.1 (pY (kG s w e .nilIface)) (mU g) h R:=by
 obtain⟨rf,du,ws,mn,es,i,vr,mt,en,nx,bh⟩:=s;have u:=lq bh;dsimp only at he hi;have c:=Cx.jQ h;refine c.l9 λ_ _ c=>c.v4 λ_ _ c=>c.l9 λ_ _ c=>c.v8 λ_ _ c=>?_;refine jS<|c.rc 0 ?_;refine vx (inc (n:=i) (by omega))<|jS<|c.z6 0 λ_ c=>?_;refine c.rl 0 ?_;refine D8 (s:=⟨rf,du,ws,mn,es,i+1,vr,mt,en,nx,bh⟩) (w:=w) (e:=e) (he.gr c.gr) hi.1 λ_ g=>have c:=c.more g;c.lj 2 3 λ_ c=>?_;exact q _ c.gr
def FO (he:Sl EE h (jY e) s.es) (hi:s.es.length<=1000/\s.i<=1000) (q:∀h',Gr h h'->R (hv (rQ s) w e) h'):S.C 322 [(pY (kG s w e .nilIface)),(mU g)] h R:=tj.2 (GR he hi q)
def LA (q:∀h',Gr h h'->R (hv (ku s) w e) h'):uc.1 (pY (kG s w e .nilIface)) (mU g) h R:=by
 obtain⟨rf,du,ws,mn,es,i,vr,mt,en,nx,bh⟩:=s;have u:=lq bh;have c:=Cx.jQ h;refine c.l9 λ_ _ c=>c.v4 λ_ _ c=>c.l9 λ_ _ c=>c.v8 λ_ _ c=>?_;refine c.rl 0 ?_;refine Am (s:=⟨rf,du,ws,mn,es,i,vr,mt,en,nx,bh⟩) (w:=w) (e:=e) λ_ g=>have c:=c.more g;c.lj 2 3 λ_ c=>?_;exact q _ c.gr
def PF (he:Sl EE h (jY e) s.es) (hi:s.i<=s.es.length/\s.es.length<=1000) (q:∀h',Gr h h'->R (hv (ki s) w e) h'):u7.1 (pY (kG s w e .nilIface)) (mU g) h R:=by
 obtain⟨rf,du,ws,mn,es,i,vr,mt,en,nx,bh⟩:=s;have u:=lq bh;have c:=Cx.jQ h;refine c.l9 λ_ _ c=>c.v4 λ_ _ c=>c.l9 λ_ _ c=>c.v8 λ_ _ c=>?_;refine c.rl 0 ?_;refine tP (s:=⟨rf,du,ws,mn,es,i,vr,mt,en,nx,bh⟩) (w:=w) (e:=e) (he.gr c.gr) hi λ_ g=>have c:=c.more g;c.lj 2 3 λ_ c=>?_;exact q _ c.gr
def CE (q:∀h',Gr h h'->R (hv (l6 s ⟨8,0,W0,W0⟩ .kT) w e) h'):px.1 (pY (kG s w e .nilIface)) (mU g) h R:=by
 obtain⟨rf,du,ws,mn,es,i,vr,mt,en,nx,bh⟩:=s;have u:=lq bh;have c:=Cx.jQ h;refine c.l9 λ_ _ c=>c.v4 λ_ _ c=>c.l9 λ_ _ c=>c.v8 λ_ _ c=>?_;refine c.rl 0 ?_;refine vx (jU (ds:=[_,_,_,_,_,_,_,_]) rfl)<|qQ (x:=kG ⟨rf,du,ws,mn,es,i,vr,mt,en,nx,bh⟩ w e .nilIface) (a:=⟨8,0,W0,W0⟩) (ho _ w e) rfl λ_ g=>have c:=c.more g;c.lj 2 3 λ_ c=>?_;exact q _ c.gr
def Gl (q:∀h',Gr h h'->R (hv (nL s .known) w e) h'):qH.1 (pY (kG s w e .nilIface)) (mU g) h R:=by
 obtain⟨rf,du,ws,mn,es,i,vr,mt,en,nx,bh⟩:=s;have u:=lq bh;have c:=Cx.jQ h;refine c.l9 λ_ _ c=>c.v4 λ_ _ c=>c.l9 λ_ _ c=>c.v8 λ_ _ c=>?_;refine c.rl 0 ?_;refine AX (x:=kG ⟨rf,du,ws,mn,es,i,vr,mt,en,nx,bh⟩ w e .nilIface) (ho _ w e) rfl λ_ g=>have c:=c.more g;c.lj 2 3 λ_ c=>?_;exact q _ c.gr
def Mb (q:∀h',Gr h h'->R (hv (ur s s.j8) w e) h'):tR.1 (pY (kG s w e .nilIface)) (mU g) h R:=by
 obtain⟨rf,du,ws,mn,es,i,vr,mt,en,nx,bh⟩:=s;have u:=lq bh;have c:=Cx.jQ h;refine c.l9 λ_ _ c=>c.v4 λ_ _ c=>c.l9 λ_ _ c=>c.v8 λ_ _ c=>?_;refine c.rl 0 ?_;refine jS<|c.rc 0 ?_;refine yh (x:=kG ⟨rf,du,ws,mn,es,i,vr,mt,en,nx,bh⟩ w e .nilIface) (z:=vr) (ho _ w e) λ_ g=>have c:=c.more g;c.lj 2 3 λ_ c=>?_;exact q _ c.gr
def Rs (q:∀h',Gr h h'->R (hv (nL s .first) w e) h'):wT.1 (pY (kG s w e .nilIface)) (mU g) h R:=by
 obtain⟨rf,du,ws,mn,es,i,vr,mt,en,nx,bh⟩:=s;have u:=lq bh;have c:=Cx.jQ h;refine c.l9 λ_ _ c=>c.v4 λ_ _ c=>c.l9 λ_ _ c=>c.v8 λ_ _ c=>?_;refine c.rl 0 ?_;refine AX (x:=kG ⟨rf,du,ws,mn,es,i,vr,mt,en,nx,bh⟩ w e .nilIface) (ho _ w e) rfl λ_ g=>have c:=c.more g;c.lj 2 3 λ_ c=>?_;exact q _ c.gr
end
def YR (a b:W3):zL [true,true,true] (.agg ⟨cW a⟩) (.agg ⟨cW b⟩)=some (decide (a=b)):=by
 show((some (a.v == b.v)).bind λx=>((some (a.j8 == b.j8)).bind λx=>((some (a.ref == b.ref)).bind λx=>(some true).bind λq=>some (x&&q)).bind λq=>some (x&&q)).bind λq=>some (x&&q))=_;have:=W3.iff a b;by_cases h1:a.v=b.v <;> by_cases h2:a.j8=b.j8 <;> by_cases u:a.ref=b.ref <;> simp[h1,h2,u,<-this]
def KV {a b:W3} (e:a=b):pos? (zL [true,true,true] (.agg ⟨cW a⟩) (.agg ⟨cW b⟩))=some (.bool true):=by rw[YR,decide_eq_true e]; rfl
def J9 {a b:W3} (e:¬a=b):pos? (zL [true,true,true] (.agg ⟨cW a⟩) (.agg ⟨cW b⟩))=some (.bool false):=by rw[YR,decide_eq_false e]; rfl
def Wh {a b:W3} (e:¬a=b):uk (zL [true,true,true] (.agg ⟨cW a⟩) (.agg ⟨cW b⟩))=some (.bool true):=by rw[YR,decide_eq_false e]; rfl
def VV {a b:W3} (e:a=b):uk (zL [true,true,true] (.agg ⟨cW a⟩) (.agg ⟨cW b⟩))=some (.bool false):=by rw[YR,decide_eq_true e]; rfl
section
variable {s:Hs} {w e:SH} {g:lA} {z:Int}
def RH (he:Sl EE h (jY e) s.es) (hi:s.i<s.es.length/\s.es.length<=1000) (hw:Ww g.w) (q:∀h',Gr h h'->R (hv (tQ s g.w) w e) h'):xg.1 (pY (kG s w e .nilIface)) (mU g) h R:=by
 obtain⟨rf,du,ws,mn,es,i,vr,mt,en,nx,bh⟩:=s;obtain⟨⟨G,H,gr⟩,M⟩:=g;have O:=lq bh;dsimp only at he hi hw;have E:=JE (s:=⟨rf,du,ws,mn,es,i,vr,mt,en,nx,bh⟩) hi.1;unfold tQ at q;generalize hE ⟨rf,du,ws,mn,es,i,vr,mt,en,nx,bh⟩=et at E q;obtain⟨K,⟨ev,eq,Q⟩,J,eb⟩:=et;dsimp only at q E;by_cases u:gr=rf
 ·cases eb with
  | true=>
   by_cases c2:(zx ⟨G,H,gr⟩ J (decide (vr=1))).2=0
   ·rw[if_pos ⟨u,c2⟩] at q;have c:=Cx.jQ h;refine c.l9 λ_ _ c=>c.v4 λ_ _ c=>c.l9 λ_ _ c=>c.v8 λ_ _ c=>?_;refine jS<|c.rc 0 ?_;refine jS<|c.rc 0 ?_;refine(he.gr c.gr).whole rfl E rfl ?_;refine c.v6 λ_ _ c=>?_;refine c.w6 4 λ_ c=>?_;refine .here<|jS<|jS<|c.rc 1 ?_;refine jS<|c.rc 0 ?_;refine vx (pN u)<|kV ?_;refine .here<|jS<|vx (c.vp (i:=1) (ds:=[_,_,_]) rfl rfl rfl)<|jS<|c.rc 4 ?_;refine jS<|c.rc 4 ?_;refine kV<|jS<|c.rc 0 ?_;refine vx kU<|yX hw λ_ g=>have c:=c.more g;vx rfl<|vx rfl<|c.v3 λ_ _ c=>?_;refine c.w3 5 λ_ c=>?_;refine vx (pN c2)<|kV<|c.rl 0 ?_;refine jS<|c.rc 4 ?_;refine jS<|vx (c.vp (i:=1) (ds:=[_,_,_]) rfl rfl rfl)<|c.rl 5 ?_;refine vx (jU (ds:=[_,_,_,_,_,_,_,_]) rfl)<|qQ (x:=kG ⟨rf,du,ws,mn,es,i,vr,mt,en,nx,bh⟩ w e .nilIface) (a:=⟨6,K,⟨G,H,gr⟩,(zx ⟨G,H,gr⟩ J (decide (vr=1))).1⟩) (ho _ w e) rfl λ_ g=>have c:=c.more g;c.lj 2 3 λ_ c=>?_;exact q _ c.gr
   ·rw[if_neg λh=>c2 h.2] at q;have c:=Cx.jQ h;refine c.l9 λ_ _ c=>c.v4 λ_ _ c=>c.l9 λ_ _ c=>c.v8 λ_ _ c=>?_;refine jS<|c.rc 0 ?_;refine jS<|c.rc 0 ?_;refine(he.gr c.gr).whole rfl E rfl ?_;refine c.v6 λ_ _ c=>?_;refine c.w6 4 λ_ c=>?_;refine .here<|jS<|jS<|c.rc 1 ?_;refine jS<|c.rc 0 ?_;refine vx (pN u)<|kV ?_;refine .here<|jS<|vx (c.vp (i:=1) (ds:=[_,_,_]) rfl rfl rfl)<|jS<|c.rc 4 ?_;refine jS<|c.rc 4 ?_;refine kV<|jS<|c.rc 0 ?_;refine vx kU<|yX hw λ_ g=>have c:=c.more g;vx rfl<|vx rfl<|c.v3 λ_ _ c=>?_;refine c.w3 5 λ_ c=>?_;refine vx (m6 c2)<|j7<|c.rl 0 ?_;refine vx (jU (ds:=[_,_,_,_]) rfl)<|FO (s:=⟨rf,du,ws,mn,es,i,vr,mt,en,nx,bh⟩) (w:=w) (e:=e) (g:=qa) (he.gr c.gr) ⟨hi.2,by show i<=1000; omega⟩ λ_ g=>have c:=c.more g;c.lj 2 3 λ_ c=>?_;exact q _ c.gr
  | false=>
   by_cases c2:(zx ⟨G,H,gr⟩ J false).2=0
   ·rw[if_pos ⟨u,c2⟩] at q;have c:=Cx.jQ h;refine c.l9 λ_ _ c=>c.v4 λ_ _ c=>c.l9 λ_ _ c=>c.v8 λ_ _ c=>?_;refine jS<|c.rc 0 ?_;refine jS<|c.rc 0 ?_;refine(he.gr c.gr).whole rfl E rfl ?_;refine c.v6 λ_ _ c=>?_;refine c.w6 4 λ_ c=>?_;refine .here<|jS<|jS<|c.rc 1 ?_;refine jS<|c.rc 0 ?_;refine vx (pN u)<|kV ?_;refine .here<|jS<|vx (c.vp (i:=1) (ds:=[_,_,_]) rfl rfl rfl)<|jS<|c.rc 4 ?_;refine jS<|c.rc 4 ?_;refine j7<|yX hw λ_ g=>have c:=c.more g;vx rfl<|vx rfl<|c.v3 λ_ _ c=>?_;refine c.w3 5 λ_ c=>?_;refine vx (pN c2)<|kV<|c.rl 0 ?_;refine jS<|c.rc 4 ?_;refine jS<|vx (c.vp (i:=1) (ds:=[_,_,_]) rfl rfl rfl)<|c.rl 5 ?_;refine vx (jU (ds:=[_,_,_,_,_,_,_,_]) rfl)<|qQ (x:=kG ⟨rf,du,ws,mn,es,i,vr,mt,en,nx,bh⟩ w e .nilIface) (a:=⟨6,K,⟨G,H,gr⟩,(zx ⟨G,H,gr⟩ J false).1⟩) (ho _ w e) rfl λ_ g=>have c:=c.more g;c.lj 2 3 λ_ c=>?_;exact q _ c.gr
   ·rw[if_neg λh=>c2 h.2] at q;have c:=Cx.jQ h;refine c.l9 λ_ _ c=>c.v4 λ_ _ c=>c.l9 λ_ _ c=>c.v8 λ_ _ c=>?_;refine jS<|c.rc 0 ?_;refine jS<|c.rc 0 ?_;refine(he.gr c.gr).whole rfl E rfl ?_;refine c.v6 λ_ _ c=>?_;refine c.w6 4 λ_ c=>?_;refine .here<|jS<|jS<|c.rc 1 ?_;refine jS<|c.rc 0 ?_;refine vx (pN u)<|kV ?_;refine .here<|jS<|vx (c.vp (i:=1) (ds:=[_,_,_]) rfl rfl rfl)<|jS<|c.rc 4 ?_;refine jS<|c.rc 4 ?_;refine j7<|yX hw λ_ g=>have c:=c.more g;vx rfl<|vx rfl<|c.v3 λ_ _ c=>?_;refine c.w3 5 λ_ c=>?_;refine vx (m6 c2)<|j7<|c.rl 0 ?_;refine vx (jU (ds:=[_,_,_,_]) rfl)<|FO (s:=⟨rf,du,ws,mn,es,i,vr,mt,en,nx,bh⟩) (w:=w) (e:=e) (g:=qa) (he.gr c.gr) ⟨hi.2,by show i<=1000; omega⟩ λ_ g=>have c:=c.more g;c.lj 2 3 λ_ c=>?_;exact q _ c.gr
 ·rw[if_neg λh=>u h.1] at q;have c:=Cx.jQ h;refine c.l9 λ_ _ c=>c.v4 λ_ _ c=>c.l9 λ_ _ c=>c.v8 λ_ _ c=>?_;refine jS<|c.rc 0 ?_;refine jS<|c.rc 0 ?_;refine(he.gr c.gr).whole rfl E rfl ?_;refine c.v6 λ_ _ c=>?_;refine c.w6 4 λ_ c=>?_;refine .here<|jS<|jS<|c.rc 1 ?_;refine jS<|c.rc 0 ?_;refine vx (m6 u)<|j7<|c.rl 0 ?_;refine vx (jU (ds:=[_,_,_,_]) rfl)<|FO (s:=⟨rf,du,ws,mn,es,i,vr,mt,en,nx,bh⟩) (w:=w) (e:=e) (g:=qa) (he.gr c.gr) ⟨hi.2,by show i<=1000; omega⟩ λ_ g=>have c:=c.more g;c.lj 2 3 λ_ c=>?_;exact q _ c.gr
def Sm (he:Sl EE h (jY e) s.es) (hi:s.es.length<=1000) (u:∀h',Gr h h'->R (hv (xX s g.w) w e) h'):wG.1 (pY (kG s w e .nilIface)) (mU g) h R:=by
 obtain⟨rf,du,ws,mn,es,i,vr,mt,en,nx,bh⟩:=s;obtain⟨⟨q,E,gr⟩,H⟩:=g;have J:=lq bh;dsimp only at he hi;unfold xX at u;dsimp only at u;by_cases G:(⟨q,E,gr⟩:W3)=⟨1,oN rf,0⟩
 ·rw[if_pos (.inl G)] at u;have c:=Cx.jQ h;refine c.l9 λ_ _ c=>c.v4 λ_ _ c=>c.l9 λ_ _ c=>c.v8 λ_ _ c=>?_;refine jS<|c.z6 0 λ_ c=>?_;refine jS<|c.z6 0 λ_ c=>?_;refine .here<|jS<|vx (c.vp (i:=1) (ds:=[_,_,_]) rfl rfl rfl) ?_;refine .here<|jS<|c.rc 0 ?_;refine nV (nQ rf) λ_ g=>have c:=c.more g;vx (KV (a:=⟨q,E,gr⟩) (b:=⟨1,oN rf,0⟩) G)<|kV<|kV<|jS<|jS<|c.rc 1 ?_;refine jS<|c.z6 0 λ_ c=>?_;refine c.rl 0 ?_;refine D8 (s:=⟨rf,du,ws,mn,es,0,q,mt,en,nx,bh⟩) (w:=w) (e:=e) (he.gr c.gr) hi λ_ g=>have c:=c.more g;c.lj 2 3 λ_ c=>?_;exact u _ c.gr
 ·by_cases c2:(⟨q,E,gr⟩:W3)=⟨2,oN rf,0⟩
  ·rw[if_pos (.inr c2)] at u;have c:=Cx.jQ h;refine c.l9 λ_ _ c=>c.v4 λ_ _ c=>c.l9 λ_ _ c=>c.v8 λ_ _ c=>?_;refine jS<|c.z6 0 λ_ c=>?_;refine jS<|c.z6 0 λ_ c=>?_;refine .here<|jS<|vx (c.vp (i:=1) (ds:=[_,_,_]) rfl rfl rfl) ?_;refine .here<|jS<|c.rc 0 ?_;refine nV (nQ rf) λ_ g=>have c:=c.more g;vx (J9 (a:=⟨q,E,gr⟩) (b:=⟨1,oN rf,0⟩) G)<|j7<|jS<|c.rc 0 ?_;refine nV (nQ rf) λ_ g=>have c:=c.more g;vx (KV (a:=⟨q,E,gr⟩) (b:=⟨2,oN rf,0⟩) c2)<|kV<|jS<|jS<|c.rc 1 ?_;refine jS<|c.z6 0 λ_ c=>?_;refine c.rl 0 ?_;refine D8 (s:=⟨rf,du,ws,mn,es,0,q,mt,en,nx,bh⟩) (w:=w) (e:=e) (he.gr c.gr) hi λ_ g=>have c:=c.more g;c.lj 2 3 λ_ c=>?_;exact u _ c.gr
  ·rw[if_neg λh=>h.elim G c2] at u;have c:=Cx.jQ h;refine c.l9 λ_ _ c=>c.v4 λ_ _ c=>c.l9 λ_ _ c=>c.v8 λ_ _ c=>?_;refine jS<|c.z6 0 λ_ c=>?_;refine jS<|c.z6 0 λ_ c=>?_;refine .here<|jS<|vx (c.vp (i:=1) (ds:=[_,_,_]) rfl rfl rfl) ?_;refine .here<|jS<|c.rc 0 ?_;refine nV (nQ rf) λ_ g=>have c:=c.more g;vx (J9 (a:=⟨q,E,gr⟩) (b:=⟨1,oN rf,0⟩) G)<|j7<|jS<|c.rc 0 ?_;refine nV (nQ rf) λ_ g=>have c:=c.more g;vx (J9 (a:=⟨q,E,gr⟩) (b:=⟨2,oN rf,0⟩) c2)<|j7<|c.rl 0 ?_;refine D8 (s:=⟨rf,du,ws,mn,es,0,4,mt,en,nx,bh⟩) (w:=w) (e:=e) (he.gr c.gr) hi λ_ g=>have c:=c.more g;c.lj 2 3 λ_ c=>?_;exact u _ c.gr
def H0 (Z:Zs h) (he:Sl EE h (jY e) s.es) (hi:s.i<s.es.length/\s.es.length<=1000) (hw:Ww g.w) (G:∀h',Gr h h'->R (hv (mZ s g) w e) h'):rK.1 (pY (kG s w e .nilIface)) (mU g) h R:=by
 obtain⟨rf,du,ws,mn,es,i,vr,mt,en,nx,bh⟩:=s;obtain⟨⟨H,J,gr⟩,O⟩:=g;obtain⟨q,u,E⟩:=mt;have Q:=lq bh;dsimp only at he hi hw;have K:=JE (s:=⟨rf,du,ws,mn,es,i,vr,⟨q,u,E⟩,en,nx,bh⟩) hi.1;unfold mZ xp at G;generalize hE ⟨rf,du,ws,mn,es,i,vr,⟨q,u,E⟩,en,nx,bh⟩=et at K G;obtain⟨T,⟨ev,eq,U⟩,V,eb⟩:=et;dsimp only at G K;cases O with
 | true=>
  rw[if_pos (.inl rfl)] at G;have c:=Cx.jQ h;refine c.l9 λ_ _ c=>c.v4 λ_ _ c=>c.l9 λ_ _ c=>c.v8 λ_ _ c=>?_;refine .here<|jS<|c.rc 1 ?_;refine kV<|kV<|jS<|c.rc 0 ?_;refine vx (inc (n:=i) (by omega))<|jS<|c.z6 0 λ_ c=>?_;refine c.rl 0 ?_;refine tP (s:=⟨rf,du,ws,mn,es,i+1,vr,⟨q,u,E⟩,en,nx,bh⟩) (w:=w) (e:=e) (he.gr c.gr) ⟨hi.1,hi.2⟩ λ_ g=>have c:=c.more g;c.lj 2 3 λ_ c=>?_;exact G _ c.gr
 | false=>
  by_cases M:(⟨H,J,gr⟩:W3)=⟨ev,eq,rf⟩
  ·rw[if_pos (.inr M)] at G;have c:=Cx.jQ h;refine c.l9 λ_ _ c=>c.v4 λ_ _ c=>c.l9 λ_ _ c=>c.v8 λ_ _ c=>?_;refine .here<|jS<|c.rc 1 ?_;refine j7<|jS<|vx (c.vp (i:=1) (ds:=[_,_,_]) rfl rfl rfl)<|c.rl 0 ?_;refine DP (x:=kG ⟨rf,du,ws,mn,es,i,vr,⟨q,u,E⟩,en,nx,bh⟩ w e .nilIface) (ho _ w e) (he.gr c.gr) rfl K λ_ g=>have c:=c.more g;aQ (c.vp (i:=1) (ds:=[_,_,_]) rfl rfl rfl) ?_;refine vx (KV (a:=⟨H,J,gr⟩) (b:=⟨ev,eq,rf⟩) M)<|kV<|jS<|c.rc 0 ?_;refine vx (inc (n:=i) (by omega))<|jS<|c.z6 0 λ_ c=>?_;refine c.rl 0 ?_;refine tP (s:=⟨rf,du,ws,mn,es,i+1,vr,⟨q,u,E⟩,en,nx,bh⟩) (w:=w) (e:=e) (he.gr c.gr) ⟨hi.1,hi.2⟩ λ_ g=>have c:=c.more g;c.lj 2 3 λ_ c=>?_;exact G _ c.gr
  ·rw[if_neg λh=>h.elim (λh=>by cases h) M] at G;by_cases c2:vY ⟨rf,du,ws,mn,es,i,vr,⟨q,u,E⟩,en,nx,bh⟩ ⟨H,J,gr⟩=true
   ·rw[if_pos c2] at G;have c:=Cx.jQ h;refine c.l9 λ_ _ c=>c.v4 λ_ _ c=>c.l9 λ_ _ c=>c.v8 λ_ _ c=>?_;refine .here<|jS<|c.rc 1 ?_;refine j7<|jS<|vx (c.vp (i:=1) (ds:=[_,_,_]) rfl rfl rfl)<|c.rl 0 ?_;refine DP (x:=kG ⟨rf,du,ws,mn,es,i,vr,⟨q,u,E⟩,en,nx,bh⟩ w e .nilIface) (ho _ w e) (he.gr c.gr) rfl K λ_ g=>have c:=c.more g;aQ (c.vp (i:=1) (ds:=[_,_,_]) rfl rfl rfl) ?_;refine vx (J9 (a:=⟨H,J,gr⟩) (b:=⟨ev,eq,rf⟩) M)<|j7<|c.rl 0 ?_;refine jS<|vx (c.vp (i:=1) (ds:=[_,_,_]) rfl rfl rfl)<|Fe (x:=kG ⟨rf,du,ws,mn,es,i,vr,⟨q,u,E⟩,en,nx,bh⟩ w e .nilIface) (w:=⟨H,J,gr⟩) (Z.gr c.gr) (ho _ w e) hw λ_ g=>?_;have c:=c.more g;rw[show yM (kG ⟨rf,du,ws,mn,es,i,vr,⟨q,u,E⟩,en,nx,bh⟩ w e .nilIface) ⟨H,J,gr⟩=true from c2];refine kV<|jS<|vx (c.vp (i:=1) (ds:=[_,_,_]) rfl rfl rfl)<|jS<|c.vq 0 rfl (vs:=[_,_,_]) (ds:=[_,_,_,_,_,_,_,_,_,_,_,_,_,_,_,_,_,_,_,_,_]) (by exact rfl) (by exact rfl) (by exact rfl) (by exact rfl) (by exact rfl) λ_ c=>?_;replace c:=c.n4;refine c.rl 0 ?_;refine AX (x:=kG ⟨rf,du,ws,mn,es,i,vr,⟨H,J,gr⟩,en,nx,bh⟩ w e .nilIface) (ho _ w e) rfl λ_ g=>have c:=c.more g;c.lj 2 3 λ_ c=>?_;exact G _ c.gr
   ·rw[if_neg c2] at G;have c:=Cx.jQ h;refine c.l9 λ_ _ c=>c.v4 λ_ _ c=>c.l9 λ_ _ c=>c.v8 λ_ _ c=>?_;refine .here<|jS<|c.rc 1 ?_;refine j7<|jS<|vx (c.vp (i:=1) (ds:=[_,_,_]) rfl rfl rfl)<|c.rl 0 ?_;refine DP (x:=kG ⟨rf,du,ws,mn,es,i,vr,⟨q,u,E⟩,en,nx,bh⟩ w e .nilIface) (ho _ w e) (he.gr c.gr) rfl K λ_ g=>have c:=c.more g;aQ (c.vp (i:=1) (ds:=[_,_,_]) rfl rfl rfl) ?_;refine vx (J9 (a:=⟨H,J,gr⟩) (b:=⟨ev,eq,rf⟩) M)<|j7<|c.rl 0 ?_;refine jS<|vx (c.vp (i:=1) (ds:=[_,_,_]) rfl rfl rfl)<|Fe (x:=kG ⟨rf,du,ws,mn,es,i,vr,⟨q,u,E⟩,en,nx,bh⟩ w e .nilIface) (w:=⟨H,J,gr⟩) (Z.gr c.gr) (ho _ w e) hw λ_ g=>?_;have c:=c.more g;rw[show yM (kG ⟨rf,du,ws,mn,es,i,vr,⟨q,u,E⟩,en,nx,bh⟩ w e .nilIface) ⟨H,J,gr⟩=false from fF _▸c2];refine j7<|c.rl 0 ?_;refine GF (s:=⟨rf,du,ws,mn,es,i,vr,⟨q,u,E⟩,en,nx,bh⟩) (w:=w) (e:=e) (he.gr c.gr) hi.2 λ_ g=>have c:=c.more g;c.lj 2 3 λ_ c=>?_;exact G _ c.gr
def QG (H : -1000<=s.at'/\s.at'<=100000) (E:∀h',Gr h h'->R (hv (if tU s g.w=true then ur s 4 else l6 s ⟨1,s.at'+1,W0,W0⟩ .lJ) w e) h'):xj.1 (pY (kG s w e .nilIface)) (mU g) h R:=by
 obtain⟨rf,du,ws,mn,es,i,vr,mt,en,nx,bh⟩:=s;obtain⟨⟨q,u,gr⟩,J⟩:=g;have K:=lq bh;have H : -1000<=jP (kj rf)/\jP (kj rf)<=100000:=H;by_cases G:tU ⟨rf,du,ws,mn,es,i,vr,mt,en,nx,bh⟩ ⟨q,u,gr⟩=true
 ·rw[if_pos G] at E;have c:=Cx.jQ h;refine c.l9 λ_ _ c=>c.v4 λ_ _ c=>c.l9 λ_ _ c=>c.v8 λ_ _ c=>?_;refine c.rl 0 ?_;refine jS<|vx (c.vp (i:=1) (ds:=[_,_,_]) rfl rfl rfl)<|vI (x:=kG ⟨rf,du,ws,mn,es,i,vr,mt,en,nx,bh⟩ w e .nilIface) (w:=⟨q,u,gr⟩) (ho _ w e) (nQ rf) λ_ g=>?_;have c:=c.more g;rw[show wH (kG ⟨rf,du,ws,mn,es,i,vr,mt,en,nx,bh⟩ w e .nilIface) ⟨q,u,gr⟩=true from G];refine kV<|c.rl 0 ?_;refine yh (x:=kG ⟨rf,du,ws,mn,es,i,vr,mt,en,nx,bh⟩ w e .nilIface) (z:=4) (ho _ w e) λ_ g=>have c:=c.more g;c.lj 2 3 λ_ c=>?_;exact E _ c.gr
 ·rw[if_neg G] at E;have c:=Cx.jQ h;refine c.l9 λ_ _ c=>c.v4 λ_ _ c=>c.l9 λ_ _ c=>c.v8 λ_ _ c=>?_;refine c.rl 0 ?_;refine jS<|vx (c.vp (i:=1) (ds:=[_,_,_]) rfl rfl rfl)<|vI (x:=kG ⟨rf,du,ws,mn,es,i,vr,mt,en,nx,bh⟩ w e .nilIface) (w:=⟨q,u,gr⟩) (ho _ w e) (nQ rf) λ_ g=>?_;have c:=c.more g;rw[show wH (kG ⟨rf,du,ws,mn,es,i,vr,mt,en,nx,bh⟩ w e .nilIface) ⟨q,u,gr⟩=false from fF _▸G];refine j7<|c.rl 0 ?_;refine jS<|c.rc 0 ?_;refine vx (oC (a:=jP (kj rf)) ⟨by omega,by omega⟩)<|vx (jU (ds:=[_,_,_,_,_,_,_,_]) rfl)<|qQ (x:=kG ⟨rf,du,ws,mn,es,i,vr,mt,en,nx,bh⟩ w e .nilIface) (a:=⟨1,jP (kj rf)+1,W0,W0⟩) (ho _ w e) rfl λ_ g=>have c:=c.more g;c.lj 2 3 λ_ c=>?_;exact E _ c.gr
end
def Sl.flat {α:Type} {E:pT α} {v:Value} {xs:List α} (H:Sl E h v xs) (G:0<xs.length) (ho:lI (xs.flatMap E.c)=true):∃r o cap,v=.slice (some ⟨r,o,none⟩) xs.length cap/\Row (Yi (xs.flatMap E.c).length) h r o ⟨xs.flatMap E.c,rfl,ho⟩:=by
 obtain⟨a,cap,rfl,h1,h2,q⟩:=H;obtain⟨r,o,rfl,_⟩:=q 0 _ (aB G);refine⟨r,o,cap,rfl,λj u hu=>?_⟩;obtain⟨i,x,J,K,M,rfl⟩:=DX E _ j u hu;obtain⟨Q,T,e,O⟩:=q i x K;simp only[aD,Addr.mk.injEq,and_true] at e;obtain⟨rfl,rfl⟩:=e;have:=O J u M;rwa [fQ] at this
def Sl.YQ {v:Value} {ws:List W3} (H:Sl EW h v ws) {k:Nat} {a b c:W3} {r:List W3} (G:ws.drop k=a::b::c::r) {z q:Int} (M:z=k) (E:q=(k+3:Nat)) {K:Value->Prop} (O:K (vP a b c)) :
  Vb (xO 3 v (some (.int .i64 z)) (some (.int .i64 q)) none) λu=>Vb (Uj 3 u) λp=>Vb (kc 9 p h) K:=by
 have Q:k+3<=ws.length:=by
  have:=congrArg List.length G;rw[cI,aH,aH,aH] at this;omega
 obtain⟨u,e,J,_⟩:=H.sub (n:=3) rfl (lo:=some (.int .i64 z)) (hi:=some (.int .i64 q)) (l:=k) (u:=k+3) (.inr ⟨_,_,rfl,M⟩) (.inr ⟨_,_,rfl,E⟩) (by omega) Q;have T:(ws.take (k+3)).drop k=[a,b,c]:=by
  rw[<-List.take_drop,G];rfl
 rw[T] at J;obtain⟨U,o,cap,rfl,V⟩:=J.flat (by simp) rfl;exact En.vb e (En.vb (v:=.pointer (some ⟨U,o,none⟩)) rfl (En.vb (V.kc rfl) O))
def Gi {a b:Int} (h:C5 (a*b)):bin .mul (.int .i64 a) (.int .i64 b)=some (.int .i64 (a*b)):=by rw[BS,EN h]
section
variable {s:Hs} {w e:SH} {g:lA} {z:Int}
structure Hld (s:Hs):Prop where
 who:0<=jP (kj s.ref)
 many:(s.many:Int)<=lu (kj s.ref)
 ws:s.ws.length<=3*s.many
def Eh (w:Int):lu w<=32:=by
 unfold lu;split
 ·decide
 ·split <;> decide
def NF (Z:Zs h) (hw:Sl EW h (jY w) s.ws) (G:Hld s) (q:∀h',Gr h h'->R (hv (nc s) w e) h'):S.C 294 [(pY (kG s w e .nilIface))] h R:=by
 refine zV.2 ?_;obtain⟨rf,du,ws,mn,es,i,vr,mt,en,nx,bh⟩:=s;have M:=lq bh;obtain⟨H,J,K⟩:=G;dsimp only at hw H J K;have hm:=Eh (kj rf);have u:=B8 rf;unfold nc at q;dsimp only at q;by_cases E:ws.length=3*mn
 ·rw[if_pos E] at q;have c:=Cx.jQ h;refine c.l9 λ_ _ c=>c.l9 λ_ _ c=>c.v8 λ_ _ c=>?_;refine jS<|c.rc 0 ?_;refine vx (hw.gr c.gr).ln<|jS<|c.rc 0 ?_;refine vx (Gi (a:=3) (b:=mn) ⟨by omega,by omega⟩)<|vx (pN (show(ws.length:Int)=3*(mn:Int) by omega))<|kV<|c.rl 0 ?_;refine AX (x:=kG ⟨rf,du,ws,mn,es,i,vr,mt,en,nx,bh⟩ w e .nilIface) (ho _ w e) rfl λ_ g=>have c:=c.more g;c.lj 1 2 λ_ c=>?_;exact q _ c.gr
 ·rw[if_neg E] at q;have c:=Cx.jQ h;refine c.l9 λ_ _ c=>c.l9 λ_ _ c=>c.v8 λ_ _ c=>?_;refine jS<|c.rc 0 ?_;refine vx (hw.gr c.gr).ln<|jS<|c.rc 0 ?_;refine vx (Gi (a:=3) (b:=mn) ⟨by omega,by omega⟩)<|vx (m6 (show ¬(ws.length:Int)=3*(mn:Int) by omega))<|j7<|jS<|vx (c.vp (i:=0) (ds:=[_,_,_]) rfl rfl rfl)<|jS<|c.rc 0 ?_;refine vx (FC ⟨by omega,by omega⟩ (by decide))<|vx (Ah (by omega) (by decide))<|T1 (Z.gr c.gr) (who:=kj rf) ⟨by omega,by omega⟩ ⟨by omega,by omega⟩ ⟨by omega,by omega⟩ λ_ g=>have c:=c.more g;vx rfl<|vx rfl<|c.rl 0 ?_;refine vx (jU (ds:=[_,_,_,_,_,_,_,_]) rfl)<|qQ (x:=kG ⟨rf,du,ws,mn,es,i,vr,mt,en,nx,bh⟩ w e .nilIface) (a:=⟨1,Ll (kj rf) ((ws.length:Int) / 3) ((ws.length:Int) % 3),W0,W0⟩) (ho _ w e) rfl λ_ g=>have c:=c.more g;c.lj 1 2 λ_ c=>?_;exact q _ c.gr
def O5 (Z:Zs h) (hw:Sl EW h (jY w) s.ws) (J:Hld s) (q:s.ws.length<3*s.many) (K:∀w' h',Cx (λ_=>False) h h' [kz EW (jY w') (s.ws++[g.w])]->R (hv (nc {s with ws:=s.ws++[g.w]}) w' e) h'):uZ.1 (pY (kG s w e .nilIface)) (mU g) h R:=by
 obtain⟨rf,du,ws,mn,es,i,vr,mt,en,nx,bh⟩:=s;obtain⟨⟨u,E,gr⟩,U⟩:=g;have V:=lq bh;obtain⟨G,H,M⟩:=J;dsimp only at hw G H M q;have hm:=Eh (kj rf);obtain⟨ac,O,Hc⟩:=hw.Ea (n:=3) rfl;have c:=Cx.jQ h;refine c.l9 λ_ _ c=>c.v4 λ_ _ c=>c.l9 λ_ _ c=>c.v8 λ_ _ c=>?_;refine jS<|c.rc 0 ?_;refine jS<|c.rc 0 ?_;refine vx (hw.gr c.gr).ln<|jS<|c.rc 0 ?_;refine vx (hw.gr c.gr).ln<|vx O<|jS<|vx (c.vp (i:=1) (ds:=[_,_,_]) rfl rfl rfl)<|c.lW EW ⟨u,E,gr⟩ rfl rfl λQ _ c=>have c:=c.n5;c.ac 0<|c.ac 0<|c.ac 0<|c.S9 (Hc.gr c.gr) (c.sl (i:=4) rfl).sl (by simp) rfl rfl (by rw[aE]; omega) (by rw[aE]; omega) λT _ c=>?_;obtain⟨w',rfl⟩:=(c.sl (i:=5) rfl).tW;replace c:=c.n6;refine jS<|c.z6 0 λ_ c=>?_;refine c.rl 0 ?_;refine NF (s:=⟨rf,du,ws++[⟨u,E,gr⟩],mn,es,i,vr,mt,en,nx,bh⟩) (w:=w') (e:=e) (Z.gr c.gr) (c.sl (i:=5) rfl).sl ⟨G,H,by show(ws++[_]).length<=_; rw[aF,aE]; exact q⟩ λ_ g=>have c:=c.more g;c.lj 2 3 λ_ c=>?_;exact K w' _ (c.pick [5])
def Mu (Z:Zs h) (hw:Sl EW h (jY w) s.ws) (h0:s.ws=[]) (K:0<=jP (kj s.ref)) (E:∀h',Gr h h'->R (hv (pz s g.w) w e) h'):tF.1 (pY (kG s w e .nilIface)) (mU g) h R:=by
 obtain⟨rf,du,ws,mn,es,i,vr,mt,en,nx,bh⟩:=s;obtain⟨⟨q,G,gr⟩,M⟩:=g;have O:=lq bh;dsimp only at hw h0 K;subst h0;have hm:=Eh (kj rf);unfold pz at E;dsimp only at E;have J:(q<1\/lu (kj rf)<q\/¬(⟨q,G,gr⟩:W3)=⟨q,0,0⟩)->∀{h'},Gr h h'->R (hv (ur ⟨rf,du,[],mn,es,i,vr,mt,en,nx,bh⟩ 4) w e) h':=λu h' g=>by
  have:=E h' g;unfold Hs.sC at this;dsimp only[Hs.who] at this;rw[if_pos u] at this;exact this
 by_cases u:q<1
 ·have c:=Cx.jQ h;refine c.l9 λ_ _ c=>c.v4 λ_ _ c=>c.l9 λ_ _ c=>c.v8 λ_ _ c=>?_;refine jS<|jS<|c.rc 1 ?_;refine .here<|vx (vF u)<|kV<|kV<|c.rl 0 ?_;refine yh (x:=kG ⟨rf,du,[],mn,es,i,vr,mt,en,nx,bh⟩ w e .nilIface) (z:=4) (ho _ w e) λ_ g=>have c:=c.more g;c.lj 2 3 λ_ c=>?_;exact J (.inl u) c.gr
 by_cases c2:lu (kj rf)<q
 ·have c:=Cx.jQ h;refine c.l9 λ_ _ c=>c.v4 λ_ _ c=>c.l9 λ_ _ c=>c.v8 λ_ _ c=>?_;refine jS<|jS<|c.rc 1 ?_;refine .here<|vx (lL u)<|j7<|jS<|c.rc 0 ?_;refine vx (FL c2)<|kV<|kV<|c.rl 0 ?_;refine yh (x:=kG ⟨rf,du,[],mn,es,i,vr,mt,en,nx,bh⟩ w e .nilIface) (z:=4) (ho _ w e) λ_ g=>have c:=c.more g;c.lj 2 3 λ_ c=>?_;exact J (.inr (.inl c2)) c.gr
 by_cases H:(⟨q,G,gr⟩:W3)=⟨q,0,0⟩
 ·obtain⟨n,rfl⟩:=dQ (show 0<=q by omega);have k2:∀{h'},Gr h h'->R (hv (nc ⟨rf,du,[],n,es,i,vr,mt,en,nx,bh⟩) w e) h':=λ{h'} g=>by
   have:=E h' g;unfold Hs.sC at this;dsimp only[Hs.who] at this;rw[if_neg (λh=>h.elim u λh=>h.elim c2 λh=>h H),bQ] at this;exact this
  have c:=Cx.jQ h;refine c.l9 λ_ _ c=>c.v4 λ_ _ c=>c.l9 λ_ _ c=>c.v8 λ_ _ c=>?_;refine jS<|jS<|c.rc 1 ?_;refine .here<|vx (lL u)<|j7<|jS<|c.rc 0 ?_;refine vx (pW c2)<|j7<|jS<|vx (c.vp (i:=1) (ds:=[_,_,_]) rfl rfl rfl)<|vx (jU (ds:=[_,_,_]) rfl)<|vx (VV (a:=⟨n,G,gr⟩) (b:=⟨n,0,0⟩) H)<|j7<|jS<|c.z6 0 λ_ c=>?_;refine c.rl 0 ?_;refine NF (s:=⟨rf,du,[],n,es,i,vr,mt,en,nx,bh⟩) (w:=w) (e:=e) (Z.gr c.gr) (hw.gr c.gr) ⟨K,Int.not_lt.1 c2,aO _⟩ λ_ g=>have c:=c.more g;c.lj 2 3 λ_ c=>?_;exact k2 c.gr
 ·have c:=Cx.jQ h;refine c.l9 λ_ _ c=>c.v4 λ_ _ c=>c.l9 λ_ _ c=>c.v8 λ_ _ c=>?_;refine jS<|jS<|c.rc 1 ?_;refine .here<|vx (lL u)<|j7<|jS<|c.rc 0 ?_;refine vx (pW c2)<|j7<|jS<|vx (c.vp (i:=1) (ds:=[_,_,_]) rfl rfl rfl)<|vx (jU (ds:=[_,_,_]) rfl)<|vx (Wh (a:=⟨q,G,gr⟩) (b:=⟨q,0,0⟩) H)<|kV<|c.rl 0 ?_;refine yh (x:=kG ⟨rf,du,[],mn,es,i,vr,mt,en,nx,bh⟩ w e .nilIface) (z:=4) (ho _ w e) λ_ g=>have c:=c.more g;c.lj 2 3 λ_ c=>?_;exact J (.inr (.inr H)) c.gr
end
section
variable {s:Hs} {w e:SH} {g:lA} {z:Int}
def Ur {ws:List W3} {k:Nat} {a b c:W3} {r:List W3} {out:List Et} (q:ws.drop k=a::b::c::r):vi (ws.drop k) out=if KY a b c=true/\oG (Ds a b c).at'=true/\(∀l,out.getLast?=some l->l.at'<(Ds a b c).at') then vi (ws.drop (k+3)) (out++[Ds a b c]) else none:=by
 have:ws.drop (k+3)=r:=by rw[<-jC,q];rfl
 rw[this,q,vi]
def VX {ws:List W3} {k:Nat} (h:k+3<=ws.length):∃a b c r,ws.drop k=a::b::c::r:=by
 match e:ws.drop k with
 | a::b::c::r=>exact⟨a,b,c,r,rfl⟩
 | [_,_]=>have:=congrArg List.length e;rw[cI] at this;simp at this;omega
 | [_]=>have:=congrArg List.length e;rw[cI] at this;simp at this;omega
 | []=>have:=congrArg List.length e;rw[cI] at this;simp at this;omega
def o7:∀{a:Int},-1000000<=a/\a<=1000000->Pz 44 [vL,.int .i64 a] (.bool (oG a)):=λq h R Z k=>sZ.2 (YE Z q k)
def xR (Z:Zs h) (hw:Sl EW h (jY w) s.ws) (hl:s.ws.length=3*s.many) (hm:s.many<=32) (hW:∀x∈s.ws,Ww x)
  (h1:∀es u h',vi s.ws []=some es->Cx (λ_=>False) h h' [kz EE (jY u) es]->R (.tuple #[jY u,.bool true]) h')
  (h2:vi s.ws []=none->∀v h',Gr h h'->R (.tuple #[v,.bool false]) h'):S.C 300 [(pY (kG s w e .nilIface))] h R:=by
 refine wD.2 ?_;obtain⟨rf,du,ws,mn,es,i,vr,mt,en,nx,bh⟩:=s;have hb:=lq bh;dsimp only at hw hl hm hW h1 h2;have wd:∀{k:Nat} {a b c:W3} {r:List W3},ws.drop k=a::b::c::r->Ww a/\Ww b:=λ{k a b c r} hd=>
  ⟨hW _ (fU (i:=k) (by rw[hd]; exact aM ..)),hW _ (fU (i:=k) (by rw[hd]; exact aL _ (aM ..)))⟩
 have c:=Cx.jQ h;refine c.l9 λoF _ c=>?_;refine z5.by (λ(st:Nat × List Et) u v h'=>v=.int .i64 ((3*st.1:Nat):Int)/\st.1<=mn/\st.2.length=st.1/\(∀e∈st.2,Ww e.old)/\vi ws []=vi (ws.drop (3*st.1)) st.2/\∃p,u=jY p/\Cx (λ_=>False) h h' [rV oF [.int .i64 3,.int .i64 6,.int .i64 4,.int .u32 rf,.int .i64 (jP (kj rf)),.int .i64 (kj rf),.int .i64 (oN rf),.int .i64 (lu (kj rf)),.bool du,jY w,.int .i64 mn,jY e,.int .i64 i,.int .i64 vr,.int .i64 mt.v,.int .u32 mt.j8,.int .u32 mt.ref,.nilIface,.bool en,qt (kI nx),YV bh],kz EE (jY p) st.2]) (λst=>mn - st.1) (0,[]) ⟨rfl,aO _,rfl,(λe he=>by cases he),rfl,(none,0,0),rfl,c.nil EE⟩ ?_;rintro⟨k,out⟩ _ _ h2' ⟨rfl,hk,oR,bY,dO,p,rfl,c⟩ again X;dsimp only at hk oR bY dO X c;replace c:=c.n2;refine jS<|c.rc 0 ?_;refine vx (hw.gr c.gr).ln<|vx j9<|lV (λe12=>?_) λe12=>?_
 ·refine jS<|c.rc 0 ?_;obtain⟨a,b,cc,r,hd⟩:=VX (ws:=ws) (k:=3*k) (by omega);obtain⟨wa,wb⟩:=wd hd;refine vx (oC (a:=((3*k:Nat):Int)) (b:=3) ⟨by omega,by omega⟩)<|(hw.gr c.gr).YQ hd rfl (by omega) ?_;refine JY λ_ g=>?_;obtain⟨x,hx⟩:∃x,(if KY a b cc=true then Ds a b cc else K5)=x:=⟨_,rfl⟩;obtain⟨q,hq⟩:∃q,KY a b cc=q:=⟨_,rfl⟩;rw[hx,hq];have c:=c.more g;have rW:q=true->0<=x.at'/\x.at'<4096:=λe=>by
   rw[<-hx,if_pos (hq.trans e)];exact(of_decide_eq_true (hq.trans e)).1
  have eQ:q=true->x=Ds a b cc:=λe=>by rw[<-hx,if_pos (hq.trans e)]
  obtain⟨V,⟨xv,xq,xr⟩,xn,xb⟩:=x;dsimp only at rW;have aS:=dO.trans (Ur (out:=out) hd);have Q:¬q=true->vi ws []=none:=λe=>by rw[aS,if_neg λh=>e (hq.symm.trans h.1)]
  have T:q=true->oG V=false->vi ws []=none:=λe e2=>by
   have:=eQ e;rw[aS,if_neg λh=>by have:=h.2.1; rw[<-eQ e] at this; dsimp only at this; rw[e2] at this; cases this]
  have U:q=true->∀l,out.getLast?=some l->V<=l.at'->vi ws []=none:=λe l hl e2=>by
   rw[aS,if_neg λh=>by have:=h.2.2 l hl; rw[<-eQ e] at this; dsimp only at this; omega]
  have J:q=true->oG V=true->(∀l,out.getLast?=some l->l.at'<V)->∀p2 h',Cx (λ_=>False) h h' [rV oF [.int .i64 3,.int .i64 6,.int .i64 4,.int .u32 rf,.int .i64 (jP (kj rf)),.int .i64 (kj rf),.int .i64 (oN rf),.int .i64 (lu (kj rf)),.bool du,jY w,.int .i64 mn,jY e,.int .i64 i,.int .i64 vr,.int .i64 mt.v,.int .u32 mt.j8,.int .u32 mt.ref,.nilIface,.bool en,qt (kI nx),YV bh],kz EE (jY p2) (out++[⟨V,⟨xv,xq,xr⟩,xn,xb⟩])]->again (jY p2) (.int .i64 (((3*k:Nat):Int)+3)) h':=λO H tO p2 h' c=>by
   have iF:=eQ O;refine X (k+1,out++[⟨V,⟨xv,xq,xr⟩,xn,xb⟩]) _ _ _ ⟨by show Value.int .i64 (((3*k:Nat):Int)+3)=Value.int .i64 ((3*(k+1):Nat):Int); congr 1,by show k+1<=mn; omega,by rw[aF,aE,oR],λe he=>?_,?_,p2,rfl,c⟩ (by dsimp only; omega)
   ·rcases bB.1 he with he | he
    ·exact bY e he
    ·rw[aN.1 he,iF];exact wb
   ·dsimp only;rw[aS,if_pos ⟨hq.trans O,by rw[<-iF]; exact H,by rw[<-iF]; exact tO⟩,<-iF];rfl
  refine vx rfl<|vx rfl<|c.v6 λ_ _ c=>?_;refine c.w6 2 λ_ c=>?_;refine .here<|vx (v:=.bool (!q)) rfl<|En.br (λaT=>?_) λaT=>?_
  ·refine En.br (λE=>?_) λE=>?_
   ·first | exact absurd E (by decide) | exact h2 (Q (by simpa using aT)) _ _ c.gr | exact h2 (T O (by simpa using H)) _ _ c.gr | exact h2 (U O l (by rw[bG]; exact G) (of_decide_eq_true E)) _ _ c.gr
   ·refine c.rl 2 ?_;refine c.lW EE ⟨V,⟨xv,xq,xr⟩,xn,xb⟩ rfl rfl λiN _ c=>have c:=c.n4;c.ap 1 rfl (c.sl (i:=3) rfl).sl rfl rfl (by simp only[aE]; omega) (by simp only[aE]; omega) λiS _ c=>?_;obtain⟨p2,rfl⟩:=(c.sl (i:=1) rfl).tW;replace c:=c.n4;refine vx (oC (a:=((3*k:Nat):Int)) (b:=3) ⟨by omega,by omega⟩) ?_;first | exact absurd E (by decide) | exact J O (by simpa using H) (λl2 K=>by rw[bG,G] at K; cases K; have:¬V<=l.at':=of_decide_eq_false E; omega) p2 _ (c.pick [0,1]) | exact J O (by simpa using H) (λl' M=>by rw[bG] at M; have:=(aC.1 M).1; omega) p2 _ (c.pick [0,1])
  ·refine jS<|vx (c.vp (i:=0) (ds:=[_,_,_]) rfl rfl rfl)<|jS<|c.rc 2 ?_;have O:q=true:=by simpa using aT
   have uS:=rW O;refine o7 (a:=V) ⟨by omega,by omega⟩ _ _ (Z.gr c.gr) λ_ g=>have c:=c.more g;vx (v:=.bool (!oG V)) rfl<|En.br (λH=>?_) λH=>?_
   ·refine En.br (λE=>?_) λE=>?_
    ·first | exact absurd E (by decide) | exact h2 (Q (by simpa using aT)) _ _ c.gr | exact h2 (T O (by simpa using H)) _ _ c.gr | exact h2 (U O l (by rw[bG]; exact G) (of_decide_eq_true E)) _ _ c.gr
    ·refine c.rl 2 ?_;refine c.lW EE ⟨V,⟨xv,xq,xr⟩,xn,xb⟩ rfl rfl λiN _ c=>have c:=c.n4;c.ap 1 rfl (c.sl (i:=3) rfl).sl rfl rfl (by simp only[aE]; omega) (by simp only[aE]; omega) λiS _ c=>?_;obtain⟨p2,rfl⟩:=(c.sl (i:=1) rfl).tW;replace c:=c.n4;refine vx (oC (a:=((3*k:Nat):Int)) (b:=3) ⟨by omega,by omega⟩) ?_;first | exact absurd E (by decide) | exact J O (by simpa using H) (λl2 K=>by rw[bG,G] at K; cases K; have:¬V<=l.at':=of_decide_eq_false E; omega) p2 _ (c.pick [0,1]) | exact J O (by simpa using H) (λl' M=>by rw[bG] at M; have:=(aC.1 M).1; omega) p2 _ (c.pick [0,1])
   ·refine vx (c.sl (i:=1) rfl).sl.ln<|vx mV<|lV (λe40=>?_) λe40=>?_
    ·refine vx (c.sl (i:=1) rfl).sl.ln<|vx (nu ⟨by omega,by omega⟩) ?_;have hlt:out.length - 1<out.length:=by omega
     have G:=aB hlt;generalize out[out.length - 1]=l at G;refine(c.sl (i:=1) rfl).sl.sN (j:=0) rfl G (by omega) (u:=.int .i64 l.at') rfl ?_;refine jS<|c.rc 2 ?_;refine vx qf<|En.br (λE=>?_) λE=>?_
     ·first | exact absurd E (by decide) | exact h2 (Q (by simpa using aT)) _ _ c.gr | exact h2 (T O (by simpa using H)) _ _ c.gr | exact h2 (U O l (by rw[bG]; exact G) (of_decide_eq_true E)) _ _ c.gr
     ·refine c.rl 2 ?_;refine c.lW EE ⟨V,⟨xv,xq,xr⟩,xn,xb⟩ rfl rfl λiN _ c=>have c:=c.n4;c.ap 1 rfl (c.sl (i:=3) rfl).sl rfl rfl (by simp only[aE]; omega) (by simp only[aE]; omega) λiS _ c=>?_;obtain⟨p2,rfl⟩:=(c.sl (i:=1) rfl).tW;replace c:=c.n4;refine vx (oC (a:=((3*k:Nat):Int)) (b:=3) ⟨by omega,by omega⟩) ?_;first | exact absurd E (by decide) | exact J O (by simpa using H) (λl2 K=>by rw[bG,G] at K; cases K; have:¬V<=l.at':=of_decide_eq_false E; omega) p2 _ (c.pick [0,1]) | exact J O (by simpa using H) (λl' M=>by rw[bG] at M; have:=(aC.1 M).1; omega) p2 _ (c.pick [0,1])
    ·refine En.br (λE=>?_) λE=>?_
     ·first | exact absurd E (by decide) | exact h2 (Q (by simpa using aT)) _ _ c.gr | exact h2 (T O (by simpa using H)) _ _ c.gr | exact h2 (U O l (by rw[bG]; exact G) (of_decide_eq_true E)) _ _ c.gr
     ·refine c.rl 2 ?_;refine c.lW EE ⟨V,⟨xv,xq,xr⟩,xn,xb⟩ rfl rfl λiN _ c=>have c:=c.n4;c.ap 1 rfl (c.sl (i:=3) rfl).sl rfl rfl (by simp only[aE]; omega) (by simp only[aE]; omega) λiS _ c=>?_;obtain⟨p2,rfl⟩:=(c.sl (i:=1) rfl).tW;replace c:=c.n4;refine vx (oC (a:=((3*k:Nat):Int)) (b:=3) ⟨by omega,by omega⟩) ?_;first | exact absurd E (by decide) | exact J O (by simpa using H) (λl2 K=>by rw[bG,G] at K; cases K; have:¬V<=l.at':=of_decide_eq_false E; omega) p2 _ (c.pick [0,1]) | exact J O (by simpa using H) (λl' M=>by rw[bG] at M; have:=(aC.1 M).1; omega) p2 _ (c.pick [0,1])
 ·have hk':k=mn:=by omega
  subst hk';rw[dH (by omega)] at dO;refine yy (c.sl (i:=1) rfl).sl bY (by omega) λ_ g=>have c:=c.more g;vx kU ?_;by_cases hz:m4 out=0
  ·rw[decide_eq_true hz];exact h1 out p _ (by rw[dO]; show(if m4 out=0 then some out else none)=_; rw[if_pos hz]) (c.pick [1])
  ·rw[decide_eq_false hz];exact h2 (by rw[dO]; show(if m4 out=0 then some out else none)=_; rw[if_neg hz]) _ _ c.gr
def KR:∀{n:Nat} {ws:List W3} {out es:List Et},ws.length<=n->vi ws out=some es->es.length<=out.length+ws.length
 | n,a::b::c::r,out,es,q,h=>by
  cases n with
  | zero=>simp at q
  | succ n=>
   rw[vi] at h;split at h
   ·have:=KR (n:=n) (by simp only[aH] at q; omega) h;simp only[aF,aH,aJ] at this⊢;omega
   ·cases h
 | _,[],out,es,q,h=>by
  have h:(if m4 out=0 then some out else none)=some es:=h;split at h
  ·cases h;simp
  ·cases h
 | _,[a],out,es,q,h=>by
  have h:(if m4 out=0 then some out else none)=some es:=h;split at h
  ·cases h;simp
  ·cases h
 | _,[a,b],out,es,q,h=>by
  have h:(if m4 out=0 then some out else none)=some es:=h;split at h
  ·cases h;simp
  ·cases h
def My (Q:B.p h) (Z:Zs h) (hw:Sl EW h (jY w) s.ws) (he:On B λh=>Sl EE h (jY e) s.es) (K:s.ws.length=3*s.many) (hm:s.many<=32) (M:∀x∈s.ws,Ww x) (hi:s.i=0)
  (E:∀e',Rt B h (λB=>On B λh=>Sl EE h (jY e') (nB s g.w).1.es) λh'=>R (hv (nB s g.w) w e') h'):tI.1 (pY (kG s w e .nilIface)) (mU g) h R:=by
 obtain⟨rf,du,ws,mn,es,i,vr,mt,en,nx,bh⟩:=s;obtain⟨⟨q,G,gr⟩,T⟩:=g;have U:=lq bh;dsimp only at hw he K hm M hi;subst hi;have stop:nB ⟨rf,du,ws,mn,es,0,vr,mt,en,nx,bh⟩ ⟨q,G,gr⟩=ur ⟨rf,du,ws,mn,es,0,vr,mt,en,nx,bh⟩ 4->∀{h'},Gr h h'->R (hv (ur ⟨rf,du,ws,mn,es,0,vr,mt,en,nx,bh⟩ 4) w e) h':=λx h' g=>by
  have:=(E e).nil (h':=h') (by rw[x]; exact he.le (Bs.jX _ _)) g;rwa [x] at this
 unfold nB at stop E;by_cases J:tU ⟨rf,du,ws,mn,es,0,vr,mt,en,nx,bh⟩ ⟨q,G,gr⟩=true
 ·rw[if_pos J] at stop;have c:=Cx.jQ h;refine c.l9 λ_ _ c=>c.v4 λ_ _ c=>c.l9 λ_ _ c=>c.v8 λ_ _ c=>?_;refine c.rl 0 ?_;refine jS<|vx (c.vp (i:=1) (ds:=[_,_,_]) rfl rfl rfl)<|vI (x:=kG ⟨rf,du,ws,mn,es,0,vr,mt,en,nx,bh⟩ w e .nilIface) (w:=⟨q,G,gr⟩) (ho _ w e) (nQ rf) λ_ g=>?_;have c:=c.more g;rw[show wH (kG ⟨rf,du,ws,mn,es,0,vr,mt,en,nx,bh⟩ w e .nilIface) ⟨q,G,gr⟩=true from J];refine kV<|c.rl 0 ?_;refine yh (x:=kG ⟨rf,du,ws,mn,es,0,vr,mt,en,nx,bh⟩ w e .nilIface) (z:=4) (ho _ w e) λ_ g=>have c:=c.more g;c.lj 2 3 λ_ c=>?_;exact stop rfl c.gr
 rw[if_neg J] at stop E;cases hu:vi ws [] with
 | none=>
  rw[hu] at stop E;have c:=Cx.jQ h;refine c.l9 λ_ _ c=>c.v4 λ_ _ c=>c.l9 λ_ _ c=>c.v8 λ_ _ c=>?_;refine c.rl 0 ?_;refine jS<|vx (c.vp (i:=1) (ds:=[_,_,_]) rfl rfl rfl)<|vI (x:=kG ⟨rf,du,ws,mn,es,0,vr,mt,en,nx,bh⟩ w e .nilIface) (w:=⟨q,G,gr⟩) (ho _ w e) (nQ rf) λ_ g=>?_;have c:=c.more g;rw[show wH (kG ⟨rf,du,ws,mn,es,0,vr,mt,en,nx,bh⟩ w e .nilIface) ⟨q,G,gr⟩=false from fF _▸J];refine j7<|c.rl 0 ?_;refine xR (s:=⟨rf,du,ws,mn,es,0,vr,mt,en,nx,bh⟩) (w:=w) (e:=e) (Z.gr c.gr) (hw.gr c.gr) K hm M (λH u h' e' _=>by rw[hu] at e'; cases e') λ_ v _ g=>have c:=c.more g;vx rfl<|vx rfl<|vx (v:=.bool true) (rfl)<|kV<|c.rl 0 ?_;refine yh (x:=kG ⟨rf,du,ws,mn,es,0,vr,mt,en,nx,bh⟩ w e .nilIface) (z:=4) (ho _ w e) λ_ g=>have c:=c.more g;c.lj 2 3 λ_ c=>?_;exact stop rfl c.gr
 | some l=>
  rw[hu] at E;dsimp only at E;have O:=KR (aP _) hu;rw[aJ] at O;clear stop;by_cases c2:q=0
  ·rw[if_neg (λx=>x c2)] at E;have c:=Cx.jQ h;refine c.l9 λ_ _ c=>c.v4 λ_ _ c=>c.l9 λ_ _ c=>c.v8 λ_ _ c=>?_;refine c.rl 0 ?_;refine jS<|vx (c.vp (i:=1) (ds:=[_,_,_]) rfl rfl rfl)<|vI (x:=kG ⟨rf,du,ws,mn,es,0,vr,mt,en,nx,bh⟩ w e .nilIface) (w:=⟨q,G,gr⟩) (ho _ w e) (nQ rf) λ_ g=>?_;have c:=c.more g;rw[show wH (kG ⟨rf,du,ws,mn,es,0,vr,mt,en,nx,bh⟩ w e .nilIface) ⟨q,G,gr⟩=false from fF _▸J];refine j7<|c.rl 0 ?_;refine xR (s:=⟨rf,du,ws,mn,es,0,vr,mt,en,nx,bh⟩) (w:=w) (e:=e) (Z.gr c.gr) (hw.gr c.gr) K hm M (λH u h' e' d=>?_) λe'=>by rw[hu] at e';cases e'
   obtain rfl:l=H:=by rw[hu] at e';cases e';rfl
   have c:=c.jT d;replace c:=c.n5;refine vx rfl<|vx rfl<|vx (v:=.bool false) (rfl)<|j7<|jS<|c.z6 0 λ_ c=>?_;refine jS<|jS<|c.rc 1 ?_;refine vx (BM c2)<|j7<|c.rl 0 ?_;refine tP (s:=⟨rf,du,ws,mn,l,0,vr,mt,en,nx,bh⟩) (w:=w) (e:=u) (c.sl (i:=4) rfl).sl ⟨aO _,by show l.length<=1000; omega⟩ λ_ g=>have c:=c.more g;c.lj 2 3 λ_ c=>?_;refine E u _ _ (Cx.pack (L:=[]) (c.pick [4])) ?_;have:(ki ⟨rf,du,ws,mn,l,0,vr,mt,en,nx,bh⟩).1.es=l:=by unfold ki lh mB kB oX l6;split <;> (try split) <;> (try split) <;> rfl
   rw[this];exact On.sl (i:=0) rfl
  ·rw[if_pos c2] at E;have c:=Cx.jQ h;refine c.l9 λ_ _ c=>c.v4 λ_ _ c=>c.l9 λ_ _ c=>c.v8 λ_ _ c=>?_;refine c.rl 0 ?_;refine jS<|vx (c.vp (i:=1) (ds:=[_,_,_]) rfl rfl rfl)<|vI (x:=kG ⟨rf,du,ws,mn,es,0,vr,mt,en,nx,bh⟩ w e .nilIface) (w:=⟨q,G,gr⟩) (ho _ w e) (nQ rf) λ_ g=>?_;have c:=c.more g;rw[show wH (kG ⟨rf,du,ws,mn,es,0,vr,mt,en,nx,bh⟩ w e .nilIface) ⟨q,G,gr⟩=false from fF _▸J];refine j7<|c.rl 0 ?_;refine xR (s:=⟨rf,du,ws,mn,es,0,vr,mt,en,nx,bh⟩) (w:=w) (e:=e) (Z.gr c.gr) (hw.gr c.gr) K hm M (λH u h' e' d=>?_) λe'=>by rw[hu] at e';cases e'
   obtain rfl:l=H:=by rw[hu] at e';cases e';rfl
   have c:=c.jT d;replace c:=c.n5;refine vx rfl<|vx rfl<|vx (v:=.bool false) (rfl)<|j7<|jS<|c.z6 0 λ_ c=>?_;refine jS<|jS<|c.rc 1 ?_;refine vx (E7 c2)<|kV<|c.rl 0 ?_;refine Am (s:=⟨rf,du,ws,mn,l,0,vr,mt,en,nx,bh⟩) (w:=w) (e:=u) λ_ g=>have c:=c.more g;c.lj 2 3 λ_ c=>?_;refine E u _ _ (Cx.pack (L:=[]) (c.pick [4])) ?_;have:(ku ⟨rf,du,ws,mn,l,0,vr,mt,en,nx,bh⟩).1.es=l:=by unfold ku nL l6;split <;> rfl
   rw[this];exact On.sl (i:=0) rfl
end
def FkI:HK->Value->Value->Hp->(Value->Hp->Prop)->Prop
 | .begin=>wT.1
 | .first=>xj.1
 | .lJ=>tF.1
 | .mP=>uZ.1
 | .checked=>tI.1
 | .lB=>rK.1
 | .again=>wJ.1
 | .kN=>vy.1
 | .lP=>u7.1
 | .lG=>qJ.1
 | .settle=>rY.1
 | .mS=>uc.1
 | .kH=>px.1
 | .kT=>qH.1
 | .known=>wG.1
 | .found=>xg.1
 | .through=>tR.1
 | .pn=>tj.1
def X9 (s:Hs):HK->Prop
 | .lJ=>s.ws=[]
 | .mP=>Hld s/\s.ws.length<3*s.many
 | .checked=>s.ws.length=3*s.many/\s.many<=32/\s.i=0
 | .lB=>s.i<s.es.length
 | .again=>¬kj s.met.ref=0/\0<=jP (kj s.met.ref)
 | .kN=>False
 | .lP=>s.i<=s.es.length
 | .lG=>s.i<=s.es.length/\¬s.bh=none
 | .found=>s.i<s.es.length
 | .pn=>s.i<=1000
 | _=>True
structure WA (s:Hs):Prop where
 ended:s.ended=false
 es:s.es.length<=1000
 at':0<=jP (kj s.ref)
 ws:∀x∈s.ws,Ww x
 met:Ww s.met
 ph:X9 s s.nx
structure Hwt (s:Hs):Prop where
 ended:s.ended=false
 es:s.i<s.es.length/\s.es.length<=1000
 nx:s.nx=.kN
def Du:List Hs->Prop
 | []=>False
 | [s]=>WA s
 | s::k::r=>Hwt s/\Du (k::r)
def B6 (B:Bs):List Hs->Value->Prop
 | [],_=>False
 | [s],v=>∃w e,v=pY (kG s w e .nilIface)/\(On B λh=>Sl EW h (jY w) s.ws)/\On B λh=>Sl EE h (jY e) s.es
 | s::k::r,v=>∃w e q,v=pY (kG s w e (.iface 376 q))/\(On B λh=>Sl EW h (jY w) s.ws)/\(On B λh=>Sl EE h (jY e) s.es)/\B6 B (k::r) q
def B6.le (l:B.le B'):∀{hs:List Hs} {v:Value},B6 B hs v->B6 B' hs v
 | [],_,x=>x
 | [_],_,⟨w,e,a,b,c⟩=>⟨w,e,a,b.le l,c.le l⟩
 | _::_::_,_,⟨w,e,q,a,b,c,d⟩=>⟨w,e,q,a,b.le l,c.le l,B6.le l d⟩
def Oe (B:Bs) (v:Value) (g:lA) (out:List Hs × Ac × Bool):Prop:=
 ∀h (R:Value->Hp->Prop),B.p h->(∀q,Rt B h (λB=>B6 B out.1 q) λh'=>R (.tuple #[.iface 376 q,qZ out.2.1,.bool out.2.2]) h')->S.C 343 [v,mU g] h R
section
variable {s:Hs} {w e:SH} {g:lA} {r:Int} {d:Bool}
def pF (Z:Zs h) (E:0<=r/\r<4294967296) (q:∀h',Gr h h'->R (if ¬kj r=0/\0<=jP (kj r) then .tuple #[.iface 376 (pY (kG (Hs.new r d) (none,0,0) (none,0,0) .nilIface)),.int .i64 0] else .tuple #[.nilIface,.int .i64 3]) h'):S.C 232 [vL,(.int .u32 r),(.bool d)] h R:=by
 refine MD.2 ?_;have G:=B8 r;by_cases u:kj r=0
 ·rw[if_neg (λx=>x.1 u)] at q;have c:=Cx.jQ h;refine c.v3 λ_ _ c=>?_;refine c.rl 0 ?_;refine lM _ _ (Z.gr c.gr) λ_ g=>have c:=c.more g;vx (v:=.bool false) rfl<|j7<|xo E λ_ g=>have c:=c.more g;vx rfl<|vx rfl<|c.rl 0 ?_;refine qP (who:=kj r) ⟨by omega,by omega⟩ _ _ (Z.gr c.gr) λ_ g=>have c:=c.more g;vx rfl<|vx rfl ?_;exact .here<|vx (pN u)<|kV<|kV<|q _ c.gr
 by_cases c2:0<=jP (kj r)
 ·rw[if_pos ⟨u,c2⟩] at q;have c:=Cx.jQ h;refine c.v3 λ_ _ c=>?_;refine c.rl 0 ?_;refine lM _ _ (Z.gr c.gr) λ_ g=>have c:=c.more g;vx (v:=.bool false) rfl<|j7<|xo E λ_ g=>have c:=c.more g;vx rfl<|vx rfl<|c.rl 0 ?_;refine qP (who:=kj r) ⟨by omega,by omega⟩ _ _ (Z.gr c.gr) λ_ g=>have c:=c.more g;vx rfl<|vx rfl ?_;refine .here<|vx (m6 u)<|j7<|vx (lL (Int.not_lt.2 c2))<|j7<|c.rl 0 ?_;exact vx (v:=pY (kG (Hs.new r d) (none,0,0) (none,0,0) .nilIface)) (by kernel_rfl)<|vx rfl<|q _ c.gr
 ·rw[if_neg (λx=>c2 x.2)] at q;have c:=Cx.jQ h;refine c.v3 λ_ _ c=>?_;refine c.rl 0 ?_;refine lM _ _ (Z.gr c.gr) λ_ g=>have c:=c.more g;vx (v:=.bool false) rfl<|j7<|xo E λ_ g=>have c:=c.more g;vx rfl<|vx rfl<|c.rl 0 ?_;refine qP (who:=kj r) ⟨by omega,by omega⟩ _ _ (Z.gr c.gr) λ_ g=>have c:=c.more g;vx rfl<|vx rfl ?_;exact .here<|vx (m6 u)<|j7<|vx (vF (by omega))<|kV<|q _ c.gr
def vB {v:Value} (hs:B6 B [s] v) (he:s.ended=true) (q:∀h',Gr h h'->R (.tuple #[.int .i64 s.j8,.bool true]) h'):S.C 258 [(.iface 376 v)] h R:=by
 refine F3.2 ?_;obtain⟨w,e,rfl,_,_⟩:=hs;obtain⟨rf,du,ws,mn,es,i,vr,mt,en,nx,bh⟩:=s;dsimp only at he;subst he;have u:=lq bh;have c:=Cx.jQ h;refine vx (v:=.tuple #[pY (kG ⟨rf,du,ws,mn,es,i,vr,mt,true,nx,bh⟩ w e .nilIface),.bool true]) (by simp[FV])<|vx rfl<|vx rfl<|c.l9 λ_ _ c=>?_;refine c.ZV 0 λ_ c=>?_;refine .here<|vx (v:=.bool false) (rfl)<|j7<|jS<|c.rc 0 ?_;refine vx rfl<|j7<|jS<|c.rc 0 ?_;exact q _ c.gr
def wW:∀k {x g:Value} {h R},FkI k x g h R->S.C (kI k) [x,g] h R:=λk {x g h R} H=>match k,H with | .begin,H=>wT.2 H | .first,H=>xj.2 H | .lJ,H=>tF.2 H | .mP,H=>uZ.2 H | .checked,H=>tI.2 H | .lB,H=>rK.2 H | .again,H=>wJ.2 H | .kN,H=>vy.2 H | .lP,H=>u7.2 H | .lG,H=>qJ.2 H | .settle,H=>rY.2 H | .mS,H=>uc.2 H | .kH,H=>px.2 H | .kT,H=>qH.2 H | .known,H=>wG.2 H | .found,H=>xg.2 H | .through,H=>tR.2 H | .pn,H=>tj.2 H
def RN (E:B.p h) (T:On B Zs) (hw:On B λh=>Sl EW h (jY w) s.ws) (he:On B λh=>Sl EE h (jY e) s.es) (o:WA s) (U:¬s.nx=.again) (Q:Ww g.w)
  (J:∀w' e',Rt B h (λB=>(On B λh=>Sl EW h (jY w') (lS s g).1.ws)/\On B λh=>Sl EE h (jY e') (lS s g).1.es) λh'=>R (hv (lS s g) w' e') h') :
  S.C (kI s.nx) [pY (kG s w e .nilIface),mU g] h R:=by
 obtain⟨o1,G,V,X,o5,u⟩:=o;have same:∀x:HR,lS s g=x->x.1.ws=s.ws->x.1.es=s.es->∀h',Gr h h'->R (hv x w e) h':=λx K h1 h2 h' gr=>by
  have:=(J w e).nil (h':=h') ⟨by rw[K,h1]; exact hw.le (Bs.jX _ _),by rw[K,h2]; exact he.le (Bs.jX _ _)⟩ gr;rwa [K] at this
 have Z:=T h E;refine wW s.nx ?_;have aS:∀k,(mB s k).1.ws=s.ws/\(mB s k).1.es=s.es:=λk=>by unfold mB kB l6;split <;> exact⟨rfl,rfl⟩
 cases q:s.nx with
 | kN=>rw[q] at u;exact u.elim
 | again=>exact absurd q U
 | begin=>exact Rs (s:=s) (same _ (by unfold lS; rw[q]) rfl rfl)
 | first=>
  refine QG (s:=s) ⟨by show -1000<=jP (kj s.ref); omega,?_⟩ (same _ (by unfold lS; rw[q]) ?_ ?_)
  ·have:=B8 s.ref;unfold Hs.at' jP lC mR;split <;> split <;> omega
  ·split <;> rfl
  ·split <;> rfl
 | lJ=>
  rw[q] at u;refine Mu (s:=s) Z (hw h E) u V (same _ (by unfold lS; rw[q]) ?_ ?_)
  ·unfold pz nc nL l6 ur;split <;> (try split) <;> rfl
  ·unfold pz nc nL l6 ur;split <;> (try split) <;> rfl
 | mP=>
  rw[q] at u;have O:lS s g=nc {s with ws:=s.ws++[g.w]}:=by unfold lS;rw[q]
  have H:(nc {s with ws:=s.ws++[g.w]}).1.ws=s.ws++[g.w]/\(nc {s with ws:=s.ws++[g.w]}).1.es=s.es:=by unfold nc nL l6;split <;> exact⟨rfl,rfl⟩
  refine O5 (s:=s) Z (hw h E) u.1 u.2 λw' h' c=>?_;have:=J w' e [kz EW (jY w') (s.ws++[g.w])] h' (Cx.pack (L:=[]) c);rw[O,H.1,H.2] at this;exact this ⟨On.sl (i:=0) rfl,he.le (Bs.jX _ _)⟩
 | checked=>
  rw[q] at u;have O:lS s g=nB s g.w:=by unfold lS;rw[q]
  have H:(nB s g.w).1.ws=s.ws:=by
   unfold nB ku ki lh mB kB oX nL l6 ur;repeat' split
   all_goals rfl
  refine My (s:=s) E Z (hw h E) he u.1 u.2.1 X u.2.2 λe' M h' c hs=>?_;have:=J w e' M h' c;rw[O,H] at this;exact this ⟨hw.le (Bs.jX _ _),hs⟩
 | lB=>
  rw[q] at u;refine H0 (s:=s) Z (he h E) ⟨u,G⟩ Q (same _ (by unfold lS; rw[q]) ?_ ?_)
  ·unfold mZ ki lh mB kB oX nL l6;repeat' split
   all_goals rfl
  ·unfold mZ ki lh mB kB oX nL l6;repeat' split
   all_goals rfl
 | lP=>
  rw[q] at u;refine PF (s:=s) (he h E) ⟨u,G⟩ (same _ (by unfold lS; rw[q]) ?_ ?_)
  ·unfold ki lh mB kB oX l6;repeat' split
   all_goals rfl
  ·unfold ki lh mB kB oX l6;repeat' split
   all_goals rfl
 | lG=>
  rw[q] at u;refine C9 (s:=s) (he h E) ⟨u.1,G⟩ u.2 (same _ (by unfold lS; rw[q]) ?_ ?_)
  ·unfold kB l6;split <;> rfl
  ·unfold kB l6;split <;> rfl
 | settle=>exact Fh (s:=s) (nQ _) (same _ (by unfold lS; rw[q]) rfl rfl)
 | mS=>
  refine LA (s:=s) (same _ (by unfold lS; rw[q]) ?_ ?_)
  ·unfold ku nL l6;split <;> rfl
  ·unfold ku nL l6;split <;> rfl
 | kH=>exact CE (s:=s) (same _ (by unfold lS; rw[q]) rfl rfl)
 | kT=>exact Gl (s:=s) (same _ (by unfold lS; rw[q]) rfl rfl)
 | known=>
  refine Sm (s:=s) (he h E) G (same _ (by unfold lS; rw[q]) ?_ ?_)
  ·unfold xX oS mB kB ur l6;repeat' split
   all_goals rfl
  ·unfold xX oS mB kB ur l6;repeat' split
   all_goals rfl
 | found=>
  rw[q] at u;refine RH (s:=s) (he h E) ⟨u,G⟩ Q (same _ (by unfold lS; rw[q]) ?_ ?_)
  ·unfold tQ rQ oS mB kB ur l6;repeat' split
   all_goals rfl
  ·unfold tQ rQ oS mB kB ur l6;repeat' split
   all_goals rfl
 | through=>exact Mb (s:=s) (same _ (by unfold lS; rw[q]) rfl rfl)
 | pn=>
  rw[q] at u;refine GR (s:=s) (he h E) ⟨G,u⟩ (same _ (by unfold lS; rw[q]) ?_ ?_)
  ·unfold rQ oS mB kB ur l6;repeat' split
   all_goals rfl
  ·unfold rQ oS mB kB ur l6;repeat' split
   all_goals rfl
end
def uR (s:Hs):List Hs × Ac × Bool->List Hs × Ac × Bool
 | (q,a,false)=>({s with nx:=.kN}::q,a,false)
 | (q,_,true)=>match q with
  | u::_=>if ¬u.j8=4 then([(ki s).1],(ki s).2) else([{s with nx:=.lP}],⟨6,(hE s).at',s.met,⟨s.met.v,s.met.j8,0⟩⟩,false)
  | []=>([],o8,true)
def pD (s:Hs):(ki s).1.ws=s.ws/\(ki s).1.es=s.es/\(ki s).2.2=false:=by
 unfold ki lh mB kB oX l6;repeat' split
 all_goals exact⟨rfl,rfl,rfl⟩
def qU (s:Hs):(ku s).1.ws=s.ws/\(ku s).1.es=s.es/\(ku s).2.2=false:=by
 unfold ku nL l6;split <;> exact⟨rfl,rfl,rfl⟩
def HD (x:List Hs × Ac × Bool):Prop:=x.2.2=true->∃t,x.1=[t]/\t.ended=true
def LR {s:Hs} {g:lA}:(lS s g).2.2=true->(lS s g).1.ended=true:=by
 have F:∀x:Hs,(kB x).2.2=false:=λx=>by unfold kB l6;split <;> rfl
 have E:∀x:Hs,(oS x).2.2=true->(oS x).1.ended=true:=λx=>by
  unfold oS;split
  ·intro h;cases h
  ·split
   ·intro h;rw[show(mB x .through).2.2=false from F _] at h;cases h
   ·intro _;rfl
 have L:∀x:Hs,(nc x).2.2=false:=λx=>by unfold nc nL l6;split <;> rfl
 have q:∀(x:Hs) (z:Int),(lh x z).2.2=false:=λx z=>by
  unfold lh;split
  ·exact F _
  ·rfl
 unfold lS;cases s.nx <;> dsimp only
 case begin=>intro h;cases h
 case first=>
  split
  ·intro _;rfl
  ·intro h;cases h
 case lJ=>
  unfold pz;split
  ·intro _;rfl
  ·intro h;rw[L] at h;cases h
 case mP=>intro h;rw[L] at h;cases h
 case checked=>
  unfold nB;split
  ·intro _;rfl
  ·split
   ·intro _;rfl
   ·split
    ·intro h;rw[(qU _).2.2] at h;cases h
    ·intro h;rw[(pD _).2.2] at h;cases h
 case lB=>
  unfold mZ;split
  ·intro h;rw[(pD _).2.2] at h;cases h
  ·split
   ·intro h;cases h
   ·intro h;rw[q] at h;cases h
 case again=>intro h;rw[(qU _).2.2] at h;cases h
 case kN=>intro h;rw[(pD _).2.2] at h;cases h
 case lP=>intro h;rw[(pD _).2.2] at h;cases h
 case lG=>intro h;rw[F] at h;cases h
 case settle=>intro h;cases h
 case mS=>intro h;rw[(qU _).2.2] at h;cases h
 case kH=>intro h;cases h
 case kT=>intro h;cases h
 case known=>exact E _
 case found=>
  unfold tQ;split
  ·intro h;cases h
  ·exact E _
 case through=>intro _;rfl
 case pn=>exact E _
def pA {g:lA}:∀{hs:List Hs},Du hs->HD (kQ hs g)
 | [],o=>o.elim
 | [s],o=>by
  have o:WA s:=o;intro h;by_cases e:s.nx=.again
  ·rw[nE o.ended e] at h;split at h
   ·rw[(qU s).2.2] at h;cases h
   ·cases h
  ·rw[qw o.ended e [] (.inl rfl)] at h⊢;exact⟨_,rfl,LR h⟩
 | s::k::r,o=>by
  intro h;rw[ot o.1.ended o.1.nx] at h;cases u:kQ (k::r) g with
  | mk G q=>
   obtain⟨H,d⟩:=q;rw[u] at h;cases d with
   | false=>cases h
   | true=>
    obtain⟨t,E,_⟩:=pA o.2 (g:=g) (by rw[u]);rw[u] at E;dsimp only at E;subst E;dsimp only at h;split at h
    ·rw[(pD s).2.2] at h;cases h
    ·cases h
section
variable {s:Hs} {w e:SH} {g:lA} {out:List Hs × Ac × Bool} {v':Value}
def B6.cons {k:Hs} {l:List Hs} (hw:On B λh=>Sl EW h (jY w) s.ws) (he:On B λh=>Sl EE h (jY e) s.es) (hv:B6 B (k::l) v'):B6 B (s::k::l) (pY (kG s w e (.iface 376 v'))):=⟨w,e,v',rfl,hw,he,hv⟩
def B6.head {hs:List Hs} (hv:B6 B hs v'):∃k l,hs=k::l:=by
 cases hs with
 | nil=>exact hv.elim
 | cons k l=>exact⟨k,l,rfl⟩
def qD:I.mt 376 "Next"=some 343:=by kernel_rfl
def GH (H:B.p h) (hw:On B λh=>Sl EW h (jY w) s.ws) (he:On B λh=>Sl EE h (jY e) s.es) (hi:s.i<s.es.length/\s.es.length<=1000) (T:Oe B v' g out) (J:HD out)
  (K:∀E,Rt B h (λB=>B6 B (uR s out).1 E) λh'=>R (.tuple #[E,qZ (uR s out).2.1,.bool (uR s out).2.2]) h') :
  vy.1 (pY (kG s w e (.iface 376 v'))) (mU g) h R:=by
 obtain⟨rf,du,ws,mn,es,i,vr,⟨q,u,G⟩,en,nx,bh⟩:=s;obtain⟨⟨gv,gq,gr⟩,gk⟩:=g;obtain⟨row,a,d⟩:=out;have X:=lq bh;dsimp only at hw he hi;have Z:=JE (s:=⟨rf,du,ws,mn,es,i,vr,⟨q,u,G⟩,en,nx,bh⟩) hi.1;cases d with
 | false=>
  have c:=Cx.jQ h;refine c.l9 λ_ _ c=>c.v4 λ_ _ c=>c.l9 λ_ _ c=>c.v8 λ_ _ c=>?_;refine jS<|c.rc 0 ?_;refine c.rl 1 ?_;refine⟨_,_,_,rfl,qD,T _ _ (B.up H c.gr) λE M _ dd ok=>?_⟩;have c:=c.jT dd;replace c:=c.n5;refine vx rfl<|vx rfl<|vx rfl<|c.v8 λ_ _ c=>?_;refine c.w8 5 λ_ c=>?_;refine jS<|c.z6 0 λ_ c=>?_;refine vx (v:=.bool true) (rfl)<|kV<|c.rl 0 ?_;refine c.rl 5 ?_;refine qQ (x:=kG ⟨rf,du,ws,mn,es,i,vr,⟨q,u,G⟩,en,nx,bh⟩ w e (.iface 376 E)) (a:=a) ⟨rfl,rfl,X⟩ rfl λ_ g=>have c:=c.more g;c.lj 2 3 λ_ c=>?_;obtain⟨k,l,rfl⟩:=ok.head;exact K (pY (kG ⟨rf,du,ws,mn,es,i,vr,⟨q,u,G⟩,en,.kN,bh⟩ w e (.iface 376 E))) M _ (c.pick [4]) (B6.cons (hw.le (Bs.jX _ _)) (he.le (Bs.jX _ _)) ok)
 | true=>
  obtain⟨t,V,O⟩:=J rfl;dsimp only at V;subst V;by_cases Q:t.j8=4
  ·have U:uR ⟨rf,du,ws,mn,es,i,vr,⟨q,u,G⟩,en,nx,bh⟩ ([t],a,true)=([⟨rf,du,ws,mn,es,i,vr,⟨q,u,G⟩,en,.lP,bh⟩],⟨6,(hE ⟨rf,du,ws,mn,es,i,vr,⟨q,u,G⟩,en,nx,bh⟩).at',⟨q,u,G⟩,⟨q,u,0⟩⟩,false):=by
    unfold uR;dsimp only;rw[if_neg (λx=>x Q)]
   rw[U] at K;have c:=Cx.jQ h;refine c.l9 λ_ _ c=>c.v4 λ_ _ c=>c.l9 λ_ _ c=>c.v8 λ_ _ c=>?_;refine jS<|c.rc 0 ?_;refine c.rl 1 ?_;refine⟨_,_,_,rfl,qD,T _ _ (B.up H c.gr) λE M _ dd ok=>?_⟩;have c:=c.jT dd;replace c:=c.n5;refine vx rfl<|vx rfl<|vx rfl<|c.v8 λ_ _ c=>?_;refine c.w8 5 λ_ c=>?_;refine jS<|c.z6 0 λ_ c=>?_;refine vx (v:=.bool false) (rfl)<|j7<|jS<|c.z6 0 λ_ c=>?_;refine vB (v:=E) ok O λ_ g=>have c:=c.more g;vx rfl<|vx rfl<|vx (BM Q)<|j7<|c.rl 0 ?_;refine c.rl 0 ?_;refine jS<|vx (c.vp (i:=0) (ds:=[_,_,_]) rfl rfl rfl)<|jS<|jS<|c.rc 0 ?_;refine jS<|jS<|c.rc 0 ?_;refine vx (jU (ds:=[_,_,_]) rfl)<|BL (x:=kG ⟨rf,du,ws,mn,es,i,vr,⟨q,u,G⟩,en,nx,bh⟩ w e .nilIface) (ho _ w e) (he _ (B.up H c.gr)) rfl Z λ_ g=>have c:=c.more g;c.ac 0<|c.ac 0<|aQ (c.vp (i:=0) (ds:=[_,_,_]) rfl rfl rfl) ?_;refine c.al 0<|vx (jU (ds:=[_,_,_,_,_,_,_,_]) rfl)<|qQ (x:=kG ⟨rf,du,ws,mn,es,i,vr,⟨q,u,G⟩,en,nx,bh⟩ w e .nilIface) (a:=⟨6,(hE ⟨rf,du,ws,mn,es,i,vr,⟨q,u,G⟩,en,nx,bh⟩).at',⟨q,u,G⟩,⟨q,u,0⟩⟩) (ho _ w e) rfl λ_ g=>have c:=c.more g;c.lj 2 3 λ_ c=>?_;exact K (pY (kG ⟨rf,du,ws,mn,es,i,vr,⟨q,u,G⟩,en,.lP,bh⟩ w e .nilIface)) M _ (c.pick [4]) ⟨w,e,rfl,hw.le (Bs.jX _ _),he.le (Bs.jX _ _)⟩
  ·have U:uR ⟨rf,du,ws,mn,es,i,vr,⟨q,u,G⟩,en,nx,bh⟩ ([t],a,true)=([(ki ⟨rf,du,ws,mn,es,i,vr,⟨q,u,G⟩,en,nx,bh⟩).1],(ki ⟨rf,du,ws,mn,es,i,vr,⟨q,u,G⟩,en,nx,bh⟩).2):=by
    unfold uR;dsimp only;rw[if_pos Q]
   rw[U] at K;have sm:=pD ⟨rf,du,ws,mn,es,i,vr,⟨q,u,G⟩,en,nx,bh⟩;have c:=Cx.jQ h;refine c.l9 λ_ _ c=>c.v4 λ_ _ c=>c.l9 λ_ _ c=>c.v8 λ_ _ c=>?_;refine jS<|c.rc 0 ?_;refine c.rl 1 ?_;refine⟨_,_,_,rfl,qD,T _ _ (B.up H c.gr) λE M _ dd ok=>?_⟩;have c:=c.jT dd;replace c:=c.n5;refine vx rfl<|vx rfl<|vx rfl<|c.v8 λ_ _ c=>?_;refine c.w8 5 λ_ c=>?_;refine jS<|c.z6 0 λ_ c=>?_;refine vx (v:=.bool false) (rfl)<|j7<|jS<|c.z6 0 λ_ c=>?_;refine vB (v:=E) ok O λ_ g=>have c:=c.more g;vx rfl<|vx rfl<|vx (E7 Q)<|kV<|c.rl 0 ?_;refine tP (s:=⟨rf,du,ws,mn,es,i,vr,⟨q,u,G⟩,en,nx,bh⟩) (w:=w) (e:=e) (he _ (B.up H c.gr)) ⟨jM hi.1,hi.2⟩ λ_ g=>have c:=c.more g;c.lj 2 3 λ_ c=>?_;exact K (pY (kG (ki ⟨rf,du,ws,mn,es,i,vr,⟨q,u,G⟩,en,nx,bh⟩).1 w e .nilIface)) M _ (c.pick [4]) ⟨w,e,rfl,by rw[sm.1]; exact hw.le (Bs.jX _ _),by rw[sm.2.1]; exact he.le (Bs.jX _ _)⟩
end
end Go.En
