/-
  Own library for the claim, packed by program: the engine, the clean texts, contracts, the plain law. (Part C.)
-/
import Derived.Test.YtcepckpfhbcobaaGreatDoorXB
set_option maxRecDepth 100000
set_option linter.defProp false
namespace Go.En
abbrev Fp:=Nat->Prop
structure Mv (F:Fp) (h:Hp) (F':Fp) (h':Hp):Prop where
 ch:Ch F h h'
 grow:∀r,F' r->F r\/h.size<=r
def Mv.refl (F:Fp) (h:Hp):Mv F h F h:=⟨.refl _ _,λ_ e=>.inl e⟩
def Mv.trans {F F' q:Fp} {a b c:Hp} (x:Mv F a F' b) (y:Mv F' b q c):Mv F a q c:=by
 refine⟨⟨Nat.le_trans x.ch.size y.ch.size,λr u E=>?_⟩,λr u=>?_⟩
 ·rw[y.ch.same r (Nat.lt_of_lt_of_le u x.ch.size) (λe=>(x.grow r e).elim E (λg=>by omega)),x.ch.same r u E]
 ·rcases y.grow r u with h | h
  ·exact x.grow r h
  ·exact .inr (Nat.le_trans x.ch.size h)
structure aX where
 P:Hp->Fp->Prop
 lt:∀{h F},P h F->∀r,F r->r<h.size
 loc:∀{h h' F D},P h F->Ch D h h'->(∀r,F r->¬D r)->P h' F
inductive wx (h:Hp):List aX->List Fp->Prop where
 | nil:wx h [] []
 | cons {A:aX} {F:Fp} {L:List aX} {Fs:List Fp}:A.P h F->(∀G∈Fs,∀r,F r->¬G r)->wx h L Fs->wx h (A::L) (F::Fs)
def wx.lt {h:Hp} {L:List aX} {Fs:List Fp} (o:wx h L Fs):∀G∈Fs,∀r,G r->r<h.size:=by
 induction o with
 | nil=>intro G q; cases q
 | cons a _ _ u=>
  intro G q;rcases List.mem_cons.1 q with rfl | q
  ·exact aX.lt _ a
  ·exact u G q
def wx.loc {h h':Hp} {D:Fp} {L:List aX} {Fs:List Fp} (o:wx h L Fs) (c:Ch D h h') (q:∀G∈Fs,∀r,G r->¬D r):wx h' L Fs:=by
 induction o with
 | nil=>exact .nil
 | cons a d _ u=>exact .cons (aX.loc _ a c (q _ (List.mem_cons_self ..))) d (u λG E=>q G (List.mem_cons_of_mem _ E))
def Cx (F0:Fp) (h0 h:Hp) (L:List aX):Prop:=∃Fs,wx h L Fs/\Ch F0 h0 h/\∀G∈Fs,∀r,G r->F0 r\/h0.size<=r
section
variable {F0:Fp} {h0 h h':Hp} {L:List aX} {A B:aX}
def Cx.gr (c:Cx F0 h0 h L):Ch F0 h0 h:=let⟨_,_,g,_⟩:=c; g
def Cx.start {F:Fp} (a:A.P h F):Cx F h h [A]:=⟨[F],.cons a (λ_ q=>by cases q) .nil,.refl _ _,λG q r u=>by
 rcases List.mem_cons.1 q with rfl | q
 ·exact .inl u
 ·cases q⟩
def Cx.aB (h:Hp):Cx (λ_=>False) h h []:=⟨[],.nil,.refl _ _,λG q=>by cases q⟩
def qc:∀{L:List aX} {Fs:List Fp} {i:Nat} {A:aX},wx h L Fs->L[i]?=some A->∃F,A.P h F/\Fs[i]?=some F/\∀{h':Hp} {F':Fp} {B:aX},B.P h' F'->Mv F h F' h'->wx h' (L.set i B) (Fs.set i F')
 | _,_,i,A,.nil,hi=>by simp at hi
 | _,_,0,A,.cons (F:=F) a d o,hi=>by
  simp only[List.getElem?_cons_zero,Option.some.injEq] at hi;subst hi;refine⟨F,a,rfl,λ{h' F' B} b m=>?_⟩;refine .cons b (λG H r E q=>?_) (o.loc m.ch λG H r E J=>d G H r J E);rcases m.grow r E with h | h
  ·exact d G H r h q
  ·have:=o.lt G H r q; omega
 | _,_,i+1,A,.cons (F:=F0) (A:=A0) a d o,hi=>by
  obtain⟨F,p,J,f⟩:=qc o (by simpa using hi);refine⟨F,p,by simpa using J,λ{h' F' B} b m=>?_⟩;have u:∀r,F0 r->¬F r:=d F (List.mem_of_getElem? J);refine .cons (A0.loc a m.ch u) (λG H r E q=>?_) (f b m);rcases List.mem_or_eq_of_mem_set H with h | h
  ·exact d G h r E q
  ·subst h;rcases m.grow r q with h | h
   ·exact u r E h
   ·have:=A0.lt a r E; omega
def Cx.IA (c:Cx F0 h0 h L) {i:Nat} (hi:L[i]?=some A):∃F,A.P h F/\∀{h':Hp} {F':Fp} {B:aX},B.P h' F'->Mv F h F' h'->Cx F0 h0 h' (L.set i B):=by
 obtain⟨Fs,o,g,k⟩:=c;obtain⟨F,p,u,f⟩:=qc o hi;refine⟨F,p,λ{h' F' B} b m=>⟨_,f b m,?_,λG H r q=>?_⟩⟩
 ·have J:=k F (List.mem_of_getElem? u);refine⟨Nat.le_trans g.size m.ch.size,λr q E=>?_⟩;rw[m.ch.same r (Nat.lt_of_lt_of_le q g.size) (λe=>(J r e).elim E (λx=>by omega)),g.same r q E]
 ·rcases List.mem_or_eq_of_mem_set H with h | h
  ·exact k G h r q
  ·subst h;rcases m.grow r q with h | h
   ·exact k F (List.mem_of_getElem? u) r h
   ·exact .inr (Nat.le_trans g.size h)
def Cx.get (c:Cx F0 h0 h L) {i:Nat} (hi:L[i]?=some A):∃F,A.P h F:=let⟨F,p,_⟩:=c.IA hi; ⟨F,p⟩
def He:∀{L:List aX} {Fs:List Fp} {F':Fp} {h h':Hp} {B:aX},wx h L Fs->B.P h' F'->Gr h h'->(∀r,F' r->h.size<=r)->wx h' (L++[B]) (Fs++[F'])
 | _,_,_,_,_,B,.nil,b,g,n=>.cons b (λG u=>by cases u) .nil
 | _,_,F',h,h',B,.cons (A:=A0) a d o,b,g,n=>by
  refine .cons (A0.loc a g λ_ _ e=>e) (λG u r E q=>?_) (He o b g n);rcases List.mem_append.1 u with h | h
  ·exact d G h r E q
  ·simp only[List.mem_singleton] at h;subst h;have:=n r q;have:=A0.lt a r E;omega
def Cx.add (c:Cx F0 h0 h L) {F':Fp} (b:B.P h' F') (g:Gr h h') (n:∀r,F' r->h.size<=r):Cx F0 h0 h' (L++[B]):=by
 obtain⟨Fs,o,u,k⟩:=c;refine⟨_,He o b g n,⟨Nat.le_trans u.size g.size,λr q E=>by rw[g.same r (Nat.lt_of_lt_of_le q u.size) (λe=>e),u.same r q E]⟩,λG F r q=>?_⟩;rcases List.mem_append.1 F with h | h
 ·exact k G h r q
 ·simp only[List.mem_singleton] at h;subst h;exact .inr (Nat.le_trans u.size (n r q))
def Cx.more (c:Cx F0 h0 h L) (g:Gr h h'):Cx F0 h0 h' L:=by
 obtain⟨Fs,o,q,k⟩:=c;exact⟨Fs,o.loc g λ_ _ _ _ e=>e,⟨Nat.le_trans q.size g.size,λr u E=>by rw[g.same r (Nat.lt_of_lt_of_le u q.size) (λe=>e),q.same r u E]⟩,k⟩
def E4:∀{L E:List aX} {Fs:List Fp},wx h (L++E) Fs->∃q,wx h L q/\∀G∈q,G∈Fs
 | [],E,Fs,_=>⟨[],.nil,λG u=>by cases u⟩
 | A::L,E,_,.cons a d o=>by
  obtain⟨q,F,hs⟩:=E4 (L:=L) o;exact⟨_,.cons a (λG u=>d G (hs G u)) F,λG u=>by
   rcases List.mem_cons.1 u with rfl | u
   ·exact List.mem_cons_self ..
   ·exact List.mem_cons_of_mem _ (hs G u)⟩
def Cx.drop {u:List aX} (c:Cx F0 h0 h (L++u)):Cx F0 h0 h L:=by
 obtain⟨Fs,o,g,k⟩:=c;obtain⟨q,E,hs⟩:=E4 o;exact⟨q,E,g,λG F=>k G (hs G F)⟩
def Na:∀{L:List aX} {Fs:List Fp} {i j:Nat} {A B:aX},wx h L Fs->L[i]?=some A->L[j]?=some B->i≠j->∃F G,A.P h F/\B.P h G/\∀r,F r->¬G r
 | _,_,i,_,_,_,.nil,hi,_,_=>by simp at hi
 | _,_,0,0,_,_,.cons ..,_,_,u=>absurd rfl u
 | _,_,0,j+1,A,B,.cons a d o,hi,q,u=>by
  simp only[List.getElem?_cons_zero,Option.some.injEq] at hi;subst hi;obtain⟨G,b,E,_⟩:=qc o (by simpa using q);exact⟨_,_,a,b,d G (List.mem_of_getElem? E)⟩
 | _,_,i+1,0,A,B,.cons a d o,hi,q,u=>by
  simp only[List.getElem?_cons_zero,Option.some.injEq] at q;subst q;obtain⟨G,b,E,_⟩:=qc o (by simpa using hi);exact⟨_,_,b,a,λr h1 h2=>d G (List.mem_of_getElem? E) r h2 h1⟩
 | _,_,i+1,j+1,A,B,.cons a d o,hi,q,u=>Na o (by simpa using hi) (by simpa using q) (by omega)
end
def yX {α:Type} (E:jZ α) (r:Nat) (x:α):aX where
 P:=λh F=>Va E h r x/\∀q,F q↔q=r
 lt:=λ⟨v,u⟩ q G=>by rw[u] at G; subst G; exact v.lt
 loc:=λ⟨v,u⟩ c H=>⟨v.ch c (H r ((u r).2 rfl)),u⟩
def bJ {α:Type} (E:jZ α) (v:Value) (xs:List α):aX where
 P:=λh F=>Ow E h v xs/\∀q,F q↔cL v=some q
 lt:=λ⟨o,u⟩ q G=>by rw[u] at G; exact o.lt G
 loc:=λ⟨o,u⟩ c H=>⟨o.ch c λr J=>H r ((u r).2 J),u⟩
def AR {α:Type} (H:IntKind) (E:α->Value) (v:Value) (ps:List (Int × α)):aX where
 P:=λh F=>Mp H E h v ps/\∀q,F q↔uV v=some q
 lt:=λ⟨o,u⟩ q G=>by rw[u] at G; exact o.lt G
 loc:=λ⟨o,u⟩ c J=>⟨o.ch c λr K=>J r ((u r).2 K),u⟩
section
variable {F0:Fp} {h0 h h':Hp} {L:List aX}
def Cx.nw {α:Type} (E:jZ α) (x:α) (c:Cx F0 h0 h L) {cs:Array Value} {e:TypeId} (u:cs.toList=E.c x) {k:Value->Hp->Prop}
  (F:∀r h',Cx F0 h0 h' (L++[yX E r x])->k (bE r) h'):Eb (En.nw cs e h) k:=
 eb rfl (F h.size _ (c.add (F':=λq=>q=h.size) ⟨Va.new u,λ_=>Iff.rfl⟩ (Ch.push _ _) λr e=>by omega))
def Cx.va {α:Type} {E:jZ α} {r i:Nat} {x:α} (c:Cx F0 h0 h L) (hi:L[i]?=some (yX E r x)):Va E h r x:=let⟨_,p,_⟩:=c.get hi; p
def Cx.sl {α:Type} {E:jZ α} {v:Value} {i:Nat} {xs:List α} (c:Cx F0 h0 h L) (hi:L[i]?=some (bJ E v xs)):Ow E h v xs:=let⟨_,p,_⟩:=c.get hi; p
def Cx.mp {α:Type} {q:IntKind} {E:α->Value} {v:Value} {i:Nat} {ps:List (Int × α)} (c:Cx F0 h0 h L) (hi:L[i]?=some (AR q E v ps)):Mp q E h v ps:=let⟨_,p,_⟩:=c.get hi; p
def lm {F:Fp} {a b:Hp} (c:Ch F a b):Mv F a F b:=⟨c,λ_ e=>.inl e⟩
def Cx.bF {α:Type} {E:jZ α} {r:Nat} {x:α} (c:Cx F0 h0 h L) (i:Nat) (hi:L[i]?=some (yX E r x)) (y:α) {n:Nat} (G:n=E.n) {w:Value} (hw:w=.agg ⟨E.c y⟩) {k:Hp->Prop}
  (H:∀h',Cx F0 h0 h' (L.set i (yX E r y))->k h'):Sb (En.bF n (bE r) w h) k:=by
 obtain⟨F,⟨v,u⟩,f⟩:=c.IA hi;exact v.bF y G hw λh' J ch=>H h' (f (F':=F) ⟨J,u⟩ (lm (ch.mono λq _ e=>(u q).2 e)))
end
section
variable {F0:Fp} {h0 h h':Hp} {L:List aX} {A B:aX}
def nG:∀{L M:List aX} {Fs Gs:List Fp},wx h L Fs->wx h M Gs->(∀F∈Fs,∀G∈Gs,∀r,F r->¬G r)->wx h (L++M) (Fs++Gs)
 | _,_,_,_,.nil,o,_=>o
 | _,_,_,_,.cons a d H,o,x=>by
  refine .cons a (λG u r E q=>?_) (nG H o λF J G u=>x F (List.mem_cons_of_mem _ J) G u);rcases List.mem_append.1 u with h | h
  ·exact d G h r E q
  ·exact x _ (List.mem_cons_self ..) G h r E q
def wP:∀{L M:List aX} {Fs:List Fp},wx h (L++M) Fs->∃q u,Fs=q++u/\wx h L q/\wx h M u/\∀F∈q,∀G∈u,∀r,F r->¬G r
 | [],M,Fs,o=>⟨[],Fs,rfl,.nil,o,λF E=>by cases E⟩
 | A::L,M,_,.cons a d o=>by
  obtain⟨q,u,rfl,J,K,x⟩:=wP (L:=L) o;refine⟨_::q,u,rfl,.cons a (λG H=>d G (List.mem_append_left _ H)) J,K,λF E G H=>?_⟩;rcases List.mem_cons.1 E with rfl | E
  ·exact d G (List.mem_append_right _ H)
  ·exact x F E G H
def Cx.Kd (c:Cx F0 h0 h L) {i:Nat} (hi:L[i]?=some A):∃F,Cx F h h [A]/\(∀r,F r->F0 r\/h0.size<=r)/\(∀(j:Nat) (B:aX),i≠j->L[j]?=some B->∃G,B.P h G/\∀r,F r->¬G r)/\∀{h':Hp} {A':aX} {M:List aX},Cx F h h' (A'::M)->Cx F0 h0 h' (L.set i A'++M):=by
 obtain⟨Fs,o,g,k⟩:=c;obtain⟨F,a,K,f⟩:=qc o hi;have J:=List.mem_of_getElem? K;refine⟨F,Cx.start a,k F J,λj B N O=>?_,λ{h' A' M} c'=>?_⟩
 ·obtain⟨G,b,H,_⟩:=qc o O;exact⟨G,b,own_apart o K H N⟩
 obtain⟨Gs,Q,R,k'⟩:=c';cases Q with
 | cons a' T Q=>
  rename_i F' Gs;have u:∀r,F' r->F r\/h.size<=r:=λr q=>k' F' (List.mem_cons_self ..) r q;have o1:=f a' ⟨R,u⟩;have U:=o.lt;refine⟨_,nG o1 Q λX V G H r q E=>?_,?_,λG H r q=>?_⟩
  ·rcases k' G (List.mem_cons_of_mem _ H) r E with h1 | h1
   ·
    rcases List.mem_or_eq_of_mem_set V with h2 | h2
    ·
     obtain⟨j,O,rfl⟩:=List.mem_iff_getElem.1 V;rw[List.getElem_set] at q;split at q
     ·exact T G H r q E
     ·rename_i Z;have aS:j<Fs.length:=by simpa using O
      exact own_apart o K (List.getElem?_eq_getElem aS) Z r h1 q
    ·subst h2; exact T G H r q E
   ·rcases List.mem_or_eq_of_mem_set V with h2 | h2
    ·have:=U X h2 r q; omega
    ·subst h2; exact T G H r q E
  ·refine⟨Nat.le_trans g.size R.size,λr q hn=>?_⟩;rw[R.same r (Nat.lt_of_lt_of_le q g.size) (λe=>(k F J r e).elim hn (λx=>by omega)),g.same r q hn]
  ·have fin:F r\/h.size<=r->F0 r\/h0.size<=r:=λe=>e.elim (k F J r) λe=>.inr (Nat.le_trans g.size e);rcases List.mem_append.1 H with h1 | h1
   ·rcases List.mem_or_eq_of_mem_set h1 with h2 | h2
    ·exact k G h2 r q
    ·subst h2; exact fin (u r q)
   ·exact fin (k' G (List.mem_cons_of_mem _ h1) r q)
where
 own_apart:∀{L:List aX} {Fs:List Fp} {h:Hp} {i j:Nat} {F G:Fp},wx h L Fs->Fs[i]?=some F->Fs[j]?=some G->i≠j->∀r,F r->¬G r
  | _,_,_,i,_,_,_,.nil,hi,_,_=>by simp at hi
  | _,_,_,0,0,_,_,.cons ..,_,_,hn=>absurd rfl hn
  | _,_,_,0,j+1,F,G,.cons a d o,hi,hj,hn=>by
   simp only[List.getElem?_cons_zero,Option.some.injEq] at hi
   subst hi
   exact d G (List.mem_of_getElem? (by simpa using hj))
  | _,_,_,i+1,0,F,G,.cons a d o,hi,hj,hn=>by
   simp only[List.getElem?_cons_zero,Option.some.injEq] at hj
   subst hj
   exact λr h1 h2=>d F (List.mem_of_getElem? (by simpa using hi)) r h2 h1
  | _,_,_,i+1,j+1,F,G,.cons a d o,hi,hj,hn=>own_apart o (by simpa using hi) (by simpa using hj) (by omega)
def Cx.aF (c:Cx F0 h0 h L) {M:List aX} (c':Cx (λ_=>False) h h' M):Cx F0 h0 h' (L++M):=by
 obtain⟨Fs,o,g,k⟩:=c;obtain⟨Gs,H,u,k'⟩:=c';refine⟨_,nG (o.loc u λ_ _ _ _ e=>e) H λX J G E r q F=>?_,?_,λG E r q=>?_⟩
 ·have:=o.lt X J r q;rcases k' G E r F with h1 | h1
  ·exact h1
  ·omega
 ·exact⟨Nat.le_trans g.size u.size,λr q K=>by rw[u.same r (Nat.lt_of_lt_of_le q g.size) (λe=>e),g.same r q K]⟩
 ·rcases List.mem_append.1 E with h1 | h1
  ·exact k G h1 r q
  ·rcases k' G h1 r q with h2 | h2
   ·exact h2.elim
   ·exact .inr (Nat.le_trans g.size h2)
def aD (L:List aX):aX where
 P:=λh F=>∃Fs,wx h L Fs/\∀q,F q↔∃G∈Fs,G q
 lt:=λ⟨Fs,o,u⟩ q E=>by
  obtain⟨G,H,E⟩:=(u q).1 E;exact o.lt G H q E
 loc:=λ⟨Fs,o,u⟩ c J=>⟨Fs,o.loc c λG H r K=>J r ((u r).2 ⟨G,H,K⟩),u⟩
def Cx.star {F:Fp} (a:(aD L).P h F):Cx F h h L:=by
 obtain⟨Fs,o,q⟩:=a;exact⟨Fs,o,.refl _ _,λG u r E=>.inl ((q r).2 ⟨G,u,E⟩)⟩
def Cx.Kf {F:Fp} (c:Cx F h0 h L):∃F',(aD L).P h F'/\Mv F h0 F' h:=by
 obtain⟨Fs,o,g,k⟩:=c;exact⟨λq=>∃G∈Fs,G q,⟨Fs,o,λ_=>Iff.rfl⟩,g,λr ⟨G,u,E⟩=>k G u r E⟩
def LN {L H:List aX} (s:L.Perm H):∀{Fs:List Fp},wx h L Fs->∃q,wx h H q/\Fs.Perm q:=by
 induction s with
 | nil=>intro Fs o; exact⟨Fs,o,.refl _⟩
 | cons A _ K=>
  intro Fs o;cases o with
  | cons a d o=>
   obtain⟨q,M,J⟩:=K o;exact⟨_,.cons a (λG u=>d G (J.mem_iff.2 u)) M,J.cons _⟩
 | swap A B l=>
  intro Fs o;cases o with
  | cons a d o=>
   cases o with
   | cons b e o=>
    exact⟨_,.cons b (λG u r h1 h2=>by
     rcases List.mem_cons.1 u with rfl | u
     ·exact d _ (List.mem_cons_self ..) r h2 h1
     ·exact e G u r h1 h2) (.cons a (λG u=>d G (List.mem_cons_of_mem _ u)) o),.swap ..⟩
 | trans _ _ E F=>
  intro Fs o;obtain⟨T,N,O⟩:=E o;obtain⟨Q,R,p2⟩:=F N;exact⟨Q,R,O.trans p2⟩
def Cx.perm {u:List aX} (c:Cx F0 h0 h L) (s:L.Perm u):Cx F0 h0 h u:=by
 obtain⟨Fs,o,g,k⟩:=c;obtain⟨q,E,F⟩:=LN s o;exact⟨q,E,g,λG H=>k G (F.mem_iff.2 H)⟩
def Cx.pack {M:List aX} (c:Cx F0 h0 h (L++M)):Cx F0 h0 h (L++[aD M]):=by
 obtain⟨Fs,o,g,k⟩:=c;obtain⟨K,J,rfl,N,O,x⟩:=wP o;refine⟨K++[λq=>∃G∈J,G q],nG N (.cons ⟨J,O,λ_=>Iff.rfl⟩ (λ_ u=>by cases u) .nil) λF Q G u r H E=>?_,g,λG u r H=>?_⟩
 ·simp only[List.mem_singleton] at u;subst u;obtain⟨G,u,E⟩:=E;exact x F Q G u r H E
 ·rcases List.mem_append.1 u with h1 | h1
  ·exact k G (List.mem_append_left _ h1) r H
  ·simp only[List.mem_singleton] at h1;subst h1;obtain⟨G,u,H⟩:=H;exact k G (List.mem_append_right _ u) r H
def DI {Fs:List Fp} (o:wx h L Fs):∀(idx:List Nat),idx.Nodup->∃q,wx h (idx.filterMap (L[·]?)) q/\∀G∈q,∃i∈idx,Fs[i]?=some G
 | [],_=>⟨[],.nil,λG u=>by cases u⟩
 | i::idx,H=>by
  obtain⟨hi,H⟩:=List.nodup_cons.1 H;obtain⟨q,J,hs⟩:=DI o idx H;rw[List.filterMap_cons];cases M:L[i]? with
  | none=>exact⟨q,J,λG u=>let⟨j,E,e⟩:=hs G u; ⟨j,List.mem_cons_of_mem _ E,e⟩⟩
  | some A=>
   obtain⟨F,a,K,_⟩:=qc o M;refine⟨F::q,.cons a (λG u=>?_) J,λG u=>?_⟩
   ·obtain⟨j,E,e⟩:=hs G u;exact Cx.Kd.own_apart o K e λe=>hi (e▸E)
   ·rcases List.mem_cons.1 u with rfl | u
    ·exact⟨i,List.mem_cons_self ..,K⟩
    ·obtain⟨j,E,e⟩:=hs G u;exact⟨j,List.mem_cons_of_mem _ E,e⟩
def Cx.pick (c:Cx F0 h0 h L) (idx:List Nat) (u:idx.Nodup:=by decide):Cx F0 h0 h (idx.filterMap (L[·]?)):=by
 obtain⟨Fs,o,g,k⟩:=c;obtain⟨q,E,hs⟩:=DI o idx u;exact⟨q,E,g,λG F=>let⟨_,_,e⟩:=hs G F; k G (List.mem_of_getElem? e)⟩
end
abbrev xB (z:Int):Prop:=-9223372036854775808<=z/\z<=9223372036854775807
def uA (z:Int):Int:=IntKind.i64.wrap z
def QO (z:Int):xB (uA z):=by unfold uA; rw[IntKind.wrap_i64]; omega
def hU (a b:Int):bin .add (.int .i64 a) (.int .i64 b)=some (.int .i64 (uA (a+b))):=yV
structure W3 where
 v:Int
 aO:Int
 ref:Int
def EW:jZ W3:={n:=3,c:=λw=>[.int .i64 w.v,.int .u32 w.aO,.int .u32 w.ref],len:=λ_=>rfl,one:=λa v h=>by simp only[List.mem_cons,List.not_mem_nil,or_false] at h; rcases h with rfl | rfl | rfl <;> rfl}
def mW (w:W3):Value:=.agg #[.int .i64 w.v,.int .u32 w.aO,.int .u32 w.ref]
abbrev W0:W3:=⟨0,0,0⟩
def mf:jZ Int:={n:=1,c:=λi=>[.int .i64 i],len:=λ_=>rfl,one:=λa v h=>by simp only[List.mem_singleton] at h; subst h; rfl}
def O5:jZ Bool:={n:=1,c:=λi=>[.bool i],len:=λ_=>rfl,one:=λa v h=>by simp only[List.mem_singleton] at h; subst h; rfl}
def CA:jZ (Int × Int):={n:=2,c:=λo=>[.int .i64 o.1,.int .i64 o.2],len:=λ_=>rfl,one:=λa v h=>by simp only[List.mem_cons,List.not_mem_nil,or_false] at h; rcases h with rfl | rfl <;> rfl}
section
variable {h h0 h':Hp} {F F0:Fp} {R:Value->Hp->Prop} {L M:List aX}
def Cx.wB {α:Type} {F0:Fp} {L:List aX} {E:α->Value} {v:Value} {ps:List (Int × α)} (c:Cx F0 h0 h L) (i:Nat) (hi:L[i]?=some (AR .i64 E v ps)) (k:Int) (x:α) {w:Value} (hw:w=E x) {K:Hp->Prop}
  (A:∀h',Cx F0 h0 h' (L.set i (AR .i64 E v (lC ps k x)))->K h'):Sb (En.wB (.int .i64) v (.int .i64 k) w h) K:=by
 obtain⟨F,⟨m,u⟩,up⟩:=c.IA hi;exact m.wB k x hw λh' B ch=>A h' (up (F':=F) ⟨B,u⟩ (lm (ch.mono λq _ e=>(u q).2 e)))
def UU {α:Type} (ik:IntKind) (E:α->Value) (r m:Nat) (ps:List (Int × α)) (D:List Nat):aX where
 P:=λh F=>It ik E h r m ps D/\∀q,F q↔q=r\/q=m
 lt:=λ{h F} ⟨o,u⟩ q G=>by
  obtain⟨es,clock,h1,h2,A⟩:=o.ex;rcases(u q).1 G with rfl | rfl
  ·exact(Array.getElem?_eq_some_iff.mp A).1
  ·exact(Array.getElem?_eq_some_iff.mp h1).1
 loc:=λ{h h' F H} ⟨o,u⟩ c B=>by
  obtain⟨es,clock,h1,h2,A⟩:=o.ex;refine⟨⟨⟨es,clock,?_,h2,?_⟩,o.nodup,o.lt,o.ne⟩,u⟩
  ·rw[c.same m (Array.getElem?_eq_some_iff.mp h1).1 (B m ((u m).2 (.inr rfl)))]; exact h1
  ·rw[c.same r (Array.getElem?_eq_some_iff.mp A).1 (B r ((u r).2 (.inl rfl)))]; exact A
section
variable {α:Type} {ik:IntKind} {E:α->Value} {v:Value} {ps:List (Int × α)} {D:List Nat} {r m:Nat}
def Cx.next (c:Cx F0 h0 h L) (i:Nat) (hi:L[i]?=some (UU ik E r m ps D)) {k:Value->Hp->Prop} (A:(∀j,j<ps.length->j∈D)->Cx F0 h0 h (L.set i (AR ik E (.map (some m)) ps))->k (.tuple #[.bool false]) h)
  (h1:∀j p h',ps[j]?=some p->j∉D->Cx F0 h0 h' (L.set i (UU ik E r m ps (D++[j])))->oV (bE r) h'=some (.tuple #[.int ik p.1,E p.2])->k (.tuple #[.bool true,.int ik p.1,E p.2]) h'):Nx (bE r) h k:=by
 obtain⟨F,⟨o,B⟩,up⟩:=c.IA hi;refine o.next (λu=>A u (up (F':=λq=>q=m) ⟨o.mp,λq=>by simp[uV,eq_comm]⟩ ⟨.refl _ _,λq G=>.inl ((B q).2 (.inr G))⟩)) λj p h' H J it ch he=>h1 j p h' H J (up (F':=F) ⟨it,B⟩ (lm (ch.mono λq _ e=>(B q).2 (.inl e)))) he
def Cx.Gb {β:Type} (ik:IntKind) (E:β->Value) (c:Cx F0 h0 h L) {k:Value->Hp->Prop} (u:∀m h',Cx F0 h0 h' (L++[AR ik E (.map (some m)) []])->k (.map (some m)) h'):Eb (En.Gb h) k:=
 eb rfl (u _ _ (c.add (F':=λq=>q=h.size) ⟨Mp.new,λq=>by simp[uV,eq_comm]⟩ (Ch.push _ _) λr e=>by omega))
end
def nt (r:Nat) (B:Obj):aX where
 P:=λh F=>h[r]?=some B/\∀q,F q↔q=r
 lt:=λ{h F} ⟨v,u⟩ q A=>by rw[u] at A; subst A; exact(Array.getElem?_eq_some_iff.mp v).1
 loc:=λ{h h' F D} ⟨v,u⟩ c G=>⟨by rw[c.same r (Array.getElem?_eq_some_iff.mp v).1 (G r ((u r).2 rfl))]; exact v,u⟩
def Cx.obj {i r:Nat} {q:Obj} (c:Cx F0 h0 h L) (hi:L[i]?=some (nt r q)):h[r]?=some q:=let⟨_,p,_⟩:=c.get hi; p
def Cx.yB (c:Cx F0 h0 h L) (u:Obj):Cx F0 h0 (h.push u) (L++[nt h.size u]):=
 c.add (F':=λq=>q=h.size) ⟨by simp,λ_=>Iff.rfl⟩ (Ch.push _ _) λr e=>by omega
def Cx.setObj {i r:Nat} {G:Obj} (c:Cx F0 h0 h L) (hi:L[i]?=some (nt r G)) (u:Obj):Cx F0 h0 (h.setIfInBounds r u) (L.set i (nt r u)):=by
 obtain⟨F,⟨v,B⟩,up⟩:=c.IA hi;have A:=(Array.getElem?_eq_some_iff.mp v).1;refine up (F':=F) ⟨by rw[Array.getElem?_setIfInBounds,if_pos rfl,if_pos A],B⟩ (lm ⟨by simp,λq J H=>?_⟩);rw[Array.getElem?_setIfInBounds,if_neg (λe=>H ((B q).2 e.symm))]
def Cx.dN {α:Type} (E:jZ α) (x:α) (c:Cx F0 h0 h L) {e:TypeId} {zero:Array Value} {n:Nat} {w:Value} {k:Value->Hp->Prop} (A:n=E.n) (hw:w.cells.toList=E.c x)
  (B:∀u h',Cx F0 h0 h' (L++[bJ E u [x]])->k u h'):Eb (zO zero n 1 e [(0,w)] h) k:=by
 refine eb (GB (us:=[w]) rfl rfl (λu hu=>by simp only[List.mem_singleton] at hu; subst hu; rw[A,<-E.len x,<-hw]; rfl)) (B _ _ (c.add (F':=λq=>q=h.size) ⟨Ow.lit (xs:=[x]) (by simp[hw]) rfl,λq=>by simp[cL,eq_comm]⟩ (Ch.push _ _) λr e=>by omega))
def Cx.Aj {α:Type} (E:jZ α) (c:Cx F0 h0 h L) {e:TypeId} {zero:Array Value} {n:Nat} {k:Value->Hp->Prop}
  (A:∀u h',Cx F0 h0 h' (L++[bJ E u []])->k u h'):Eb (zO zero n 0 e [] h) k:=by
 refine eb (GB (us:=[]) rfl rfl (λu hu=>by cases hu)) (A _ _ (c.add (F':=λq=>q=h.size) ⟨Ow.lit (xs:=([]:List α)) (by simp) rfl,λq=>by simp[cL,eq_comm]⟩ (Ch.push _ _) λr e=>by omega))
def Cx.ap {α:Type} {E:jZ α} {v:Value} {xs ys:List α} (c:Cx F0 h0 h L) (i:Nat) (hi:L[i]?=some (bJ E v xs)) {x:Value} (B:Sl E h x ys) {e:TypeId} {zero:Array Value} {n bytes:Nat} {k:Value->Hp->Prop}
  (G:n=E.n) (H:zero.size=E.n) (J:(xs.length+ys.length)*bytes<=140737488355328) (K:xs.length+ys.length<=9223372036854775807)
  (N:∀u h',Cx F0 h0 h' (L.set i (bJ E u (xs++ys)))->k u h'):Ap e zero n bytes v x h k:=by
 obtain⟨F,⟨o,A⟩,up⟩:=c.IA hi;refine U5 o B G H J K λu h' O ch nw=>N u h' (up (F':=λq=>cL u=some q) ⟨O,λ_=>Iff.rfl⟩ ⟨ch.mono λq _ e=>(A q).2 e,λr Q=>?_⟩);rcases nw r Q with h1 | h1
 ·exact .inl ((A r).2 h1)
 ·exact .inr h1
def Cx.Su {α:Type} (E:jZ α) (xs:List α) (us:List Value) (c:Cx F0 h0 h L) {e:TypeId} {zero:Array Value} {n len:Nat} {parts:List (Nat × Value)} {k:Value->Hp->Prop}
  (B:parts=us.zipIdx.map λx=>(x.2,x.1)) (G:us.length=len) (A:xs.length=len) (hu:∀u,u∈us->u.cells.size=n) (H:(us.flatMap λu=>u.cells.toList)=xs.flatMap E.c)
  (J:∀a h',Cx F0 h0 h' (L++[bJ E (.slice (some a) len len) xs])->k (.slice (some a) len len) h'):Eb (zO zero n len e parts h) k:=
 eb (GB B G hu) (J _ _ (c.add (F':=λq=>q=h.size) ⟨Ow.lit H A,λq=>by simp[cL,eq_comm]⟩ (Ch.push _ _) λr e=>by omega))
def Cx.nil {α:Type} (E:jZ α) (c:Cx F0 h0 h L):Cx F0 h0 h (L++[bJ E (.slice none 0 0) []]):=
 c.add (F':=λ_=>False) ⟨.nil,λq=>by simp[cL]⟩ (.refl _ _) λr e=>e.elim
def RG {x y:Value} {k:Value->Prop} (q:k x):Vb (ext 0 (.tuple #[x,y])) k:=by
 have e:ext 0 (.tuple #[x,y])=some x:=by rfl
 rw[e,aQ]; exact q
def SB {x y:Value} {k:Value->Prop} (q:k y):Vb (ext 1 (.tuple #[x,y])) k:=by
 have e:ext 1 (.tuple #[x,y])=some y:=by rfl
 rw[e,aQ]; exact q
def Cx.zq {α:Type} (E:jZ α) (B:α) (c:Cx F0 h0 h L) {zero:Array Value} {n:Nat} {size bytes:Nat} {e:TypeId} {z:Int} (G:z=n) (u:zero.toList=E.c B) (hs:size=E.n) (H:n<=1000000000) (A:bytes<=10000) {k:Value->Hp->Prop}
  (J:∀a h',Cx F0 h0 h' (L++[bJ E (.slice (some a) n n) (List.replicate n B)])->k (.slice (some a) n n) h'):Eb (Lw zero size bytes e (.int .i64 z) (.int .i64 z) h) k:=by
 subst G;refine No u hs H A λh' o g K=>J _ h' (c.add (F':=λq=>q=h.size) ⟨o,λq=>by simp[cL,eq_comm]⟩ g λr e=>by omega)
end
section
variable {F0:Fp} {h0 h h':Hp} {L M:List aX}
def Cx.unpack (c:Cx F0 h0 h (L++[aD M])):Cx F0 h0 h (L++M):=by
 obtain⟨Fs,o,g,k⟩:=c;obtain⟨J,Q,rfl,K,u,x⟩:=wP o;cases u with
 | cons a d u=>
  cases u;rename_i F;obtain⟨Gs,N,H⟩:=a;refine⟨J++Gs,nG K N λX O G A r q B=>?_,g,λG A r q=>?_⟩
  ·exact x X O F (List.mem_cons_self ..) r q ((H r).2 ⟨G,A,B⟩)
  ·rcases List.mem_append.1 A with h1 | h1
   ·exact k G (List.mem_append_left _ h1) r q
   ·exact k F (List.mem_append_right _ (List.mem_cons_self ..)) r ((H r).2 ⟨G,h1,q⟩)
end
def iQ {a b:Int} (h:xB (a+b)):bin .add (.int .i64 a) (.int .i64 b)=some (.int .i64 (a+b)):=by rw[yV,zb h]
def fT {a b:Int} (h:xB (a - b)):bin .sub (.int .i64 a) (.int .i64 b)=some (.int .i64 (a - b)):=by rw[N0,zb h]
def zl {a b:Int} (q:0<=a/\a<=9223372036854775807) (u:0<b):bin .quo (.int .i64 a) (.int .i64 b)=some (.int .i64 (a / b)):=by
 have h1:=Int.ediv_nonneg q.1 (Int.le_of_lt u);have h2:=Int.ediv_le_self b q.1;rw[Ot (by omega),Int.tdiv_eq_ediv_of_nonneg q.1,zb ⟨by omega,by omega⟩]
def AQ {k:IntKind} {a b:Int} (q:0<=a) (u:0<b):bin .rem (.int k a) (.int k b)=some (.int k (a % b)):=by
 rw[Il (by omega),Int.tmod_eq_emod_of_nonneg q]
def Ve {k:IntKind} (a:Int):bin .eql (.int k a) (.int k a)=some (.bool true):=by rw[bW]; simp
def MP {α:Type} {E:jZ α} {e:TypeId} {zero:Array Value} {n bytes:Nat} {a:Option Addr} {x:Value} {h:Hp} {xs ys:List α} {k:Value->Hp->Prop}
  (hs:Sl E h (.slice a xs.length xs.length) xs) (H:0<ys.length) (O:Sl E h x ys) (hn:n=E.n) (hz:zero.size=E.n) (T:(xs.length+ys.length)*bytes<=140737488355328) (U:xs.length+ys.length<=9223372036854775807)
  (V:∀v h',Ow E h' v (xs++ys)->Gr h h'->cL v=some h.size->k v h'):Ap e zero n bytes (.slice a xs.length xs.length) x h k:=by
 obtain⟨xa,xc,ex,aS,aT,Q⟩:=id O;have q:=O.row rfl;subst hn;have J:=hs;have A:=J.row rfl;have grow:∀cap,xs.length+ys.length<=cap->k (.slice (some ⟨h.size,0,none⟩) (xs.length+ys.length) cap) (h.push (.cells ((xs.flatMap E.c).toArray++(ys.flatMap E.c).toArray++Builtin.zeroCells zero (cap - (xs.length+ys.length))) e)):=by
  intro cap B;refine V _ _ (.inr ⟨h.size,0,cap,by simp,by simpa using B,by simp,λi y K=>?_,λj X=>?_⟩) (Ch.push h _) rfl
  ·intro j u hu;have G:((xs++ys).flatMap E.c)[i*E.n+j]?=some u:=by
    clear V O q A J hs T U B Q H;generalize xs++ys=Z at K;induction Z generalizing i with
    | nil=>simp at K
    | cons z Z ih=>
     rw[List.flatMap_cons];cases i with
     | zero=>
      simp only[List.getElem?_cons_zero,Option.some.injEq] at K;subst K;rw[Nat.zero_mul,Nat.zero_add,List.getElem?_append_left (List.getElem?_eq_some_iff.mp hu).1];exact hu
     | succ i=>
      have:=ih i (by simpa using K);rw[List.getElem?_append_right (by rw[E.len,Nat.succ_mul]; omega),E.len];have e2:(i+1)*E.n+j - E.n=i*E.n+j:=by rw[Nat.succ_mul]; omega
      rw[e2]; exact this
   have N:=(List.getElem?_eq_some_iff.mp G).1;unfold cl;simp only[Array.getElem?_push_size,Nat.zero_add];rw[Array.getElem?_append_left (by rw[List.flatMap_append,List.length_append] at N; simpa using N)];rw[List.flatMap_append] at G;simpa using G
  ·unfold cl fz;simp only[Array.getElem?_push_size,Nat.zero_add];refine⟨?_,by simp⟩;have:j<((xs.flatMap E.c).toArray++(ys.flatMap E.c).toArray++Builtin.zeroCells zero (cap - (xs.length+ys.length))).size:=by
    have h1:=kR E xs;have h2:=kR E ys;simp only[Array.size_append,List.size_toArray,sr,hz,h1,h2];have:cap=xs.length+ys.length+(cap - (xs.length+ys.length)):=by omega
    rw[this,Nat.add_mul,Nat.add_mul] at X;exact X
   rw[Array.getElem?_eq_getElem this]; rfl
 exact⟨a,xs.length,xs.length,xa,ys.length,xc,_,rfl,ex,q,λhle=>by omega,λ_=>⟨T,U,_,A,λcap hc _=>grow cap hc⟩⟩
def Sl.clip {α:Type} {E:jZ α} {h:Hp} {v:Value} {xs:List α} (H:Sl E h v xs) {n:Nat} (T:n=E.n) {k k':IntKind} {z:Int} {u:Nat} (K:z=u) (h2:u<=xs.length) :
  ∃a,sB n v none (some (.int k z)) (some (.int k' z))=some (.slice a (xs.take u).length (xs.take u).length)/\Sl E h (.slice a (xs.take u).length (xs.take u).length) (xs.take u):=by
 subst K;obtain⟨a,cap,rfl,N,U,J⟩:=H;have A:(xs.take u).length=u:=by rw[List.length_take]; omega
 have O:u<=cap:=Nat.le_trans h2 N;refine⟨if u=0 then a else a.map (·.add (0*n)),?_,?_⟩
 ·rw[A];simp[sB,Jd,LR,FC,AY,O3,JR,O]
 ·refine⟨_,u,by rw[A],by omega,λe=>?_,λi x B=>?_⟩
  ·split at e
   ·rename_i h0; exact h0
   ·rename_i h0;obtain⟨r,o,G,_⟩:=J 0 (xs[0]'(by omega)) (List.getElem?_eq_getElem (by omega));rw[G] at e;cases e
  ·have q:=(List.getElem?_eq_some_iff.mp B).1;rw[A] at q;rw[List.getElem?_take_of_lt q] at B;obtain⟨r,o,G,Q⟩:=J i x B;refine⟨r,o,?_,Q⟩;rw[if_neg (by omega),G];simp[uY]
def Cx.MP {α:Type} {E:jZ α} {F0:Fp} {h h0:Hp} {L:List aX} {a:Option Addr} {xs ys:List α} {x:Value} {e:TypeId} {zero:Array Value} {n bytes:Nat} {k:Value->Hp->Prop} (c:Cx F0 h0 h L)
  (hs:Sl E h (.slice a xs.length xs.length) xs) (G:Sl E h x ys) (u:0<ys.length) (H:n=E.n) (J:zero.size=E.n) (K:(xs.length+ys.length)*bytes<=140737488355328) (N:xs.length+ys.length<=9223372036854775807)
  (O:∀A h',Cx F0 h0 h' (L++[bJ E A (xs++ys)])->k A h'):Ap e zero n bytes (.slice a xs.length xs.length) x h k:=
 En.MP hs u G H J K N λA h' o g B=>O A h' (c.add (F':=λq=>cL A=some q) ⟨o,λ_=>Iff.rfl⟩ g λr e=>by rw[B] at e; injection e with e; omega)
def Ow.CC {α:Type} {E:jZ α} {h:Hp} {v s:Value} {xs ys:List α} (H:Ow E h v xs) (Hs:Sl E h s ys) (J:ys.length=xs.length) {n:Nat} (T:n=E.n):∃h',En.CC n v s h=some (.int .i64 ys.length,h')/\Ow E h' v ys/\Ch (λr=>cL v=some r) h h':=by
 subst T;have A:=Hs.row rfl;obtain⟨sa,sc,es,K⟩:=id Hs;rcases H with ⟨rfl,rfl⟩| ⟨r,o,cap,rfl,O,U,V,hw⟩
 ·have:ys=[]:=List.length_eq_zero_iff.mp J;subst this;refine⟨h,?_,.inl ⟨rfl,rfl⟩,.refl _ _⟩;rw[es] at A⊢;simp only[List.length_nil,Nat.zero_mul] at A;simp[En.CC,A]
 ·obtain⟨h',Q,up⟩:=pA (r:=r) (o:=o) (ys.flatMap E.c) 0 h (λu hu=>by
    obtain⟨y,_,B⟩:=List.mem_flatMap.mp hu;exact E.one y u B) (λj G=>by
    rw[kR] at G;have:=hw j (by
     have:ys.length*E.n<=cap*E.n:=Nat.mul_le_mul_right _ (by omega);omega)
    rw[Nat.add_zero]; exact this)
  refine⟨h',?_,.inr ⟨r,o,cap,by rw[J],by omega,by rw[up.size]; exact U,λi y B j u hu=>?_,λj G=>?_⟩,up.ch.mono λx _ e=>by subst e; rfl⟩
  ·rw[es] at A⊢;have hm:Nat.min ys.length xs.length=ys.length:=by rw[J]; exact Nat.min_self _
   simp only[En.CC,hm,A,Option.bind_some,Q]
  ·have G:j<E.n:=by have:=(List.getElem?_eq_some_iff.mp hu).1; rwa [E.len] at this
   have N:(ys.flatMap E.c)[i*E.n+j]?=some u:=by
    clear A es up Q J Hs K;induction ys generalizing i with
    | nil=>simp at B
    | cons z zs X=>
     rw[List.flatMap_cons];cases i with
     | zero=>
      simp only[List.getElem?_cons_zero,Option.some.injEq] at B;subst B;rw[Nat.zero_mul,Nat.zero_add,List.getElem?_append_left (by rw[E.len]; exact G)];exact hu
     | succ q=>
      have:=X q (by simpa using B);rw[List.getElem?_append_right (by rw[E.len,Nat.succ_mul]; omega),E.len];have Z:(q+1)*E.n+j - E.n=q*E.n+j:=by rw[Nat.succ_mul]; omega
      rw[Z]; exact this
   have:=up.put _ _ N;have hh:o+i*E.n+j=o+0+(i*E.n+j):=by omega
   rw[hh]; exact this
  ·exact⟨up.some (hw j G).1,by rw[up.fz]; exact(hw j G).2⟩
def Cx.CC {α:Type} {E:jZ α} {F0:Fp} {h h0:Hp} {L:List aX} {v s:Value} {xs ys:List α} (c:Cx F0 h0 h L) (i:Nat) (hi:L[i]?=some (bJ E v xs)) (Hs:Sl E h s ys) (A:ys.length=xs.length) {n:Nat} (B:n=E.n) {k:Value->Hp->Prop}
  (G:∀h',Cx F0 h0 h' (L.set i (bJ E v ys))->k (.int .i64 ys.length) h'):Eb (En.CC n v s h) k:=by
 obtain⟨F,⟨o,u⟩,up⟩:=c.IA hi;obtain⟨h',e,H,ch⟩:=o.CC Hs A B;exact En.eb e (G h' (up (F':=F) ⟨H,u⟩ (lm (ch.mono λq _ e=>(u q).2 e))))
def Cx.wX {α:Type} {E:jZ α} {F0:Fp} {h h0:Hp} {L:List aX} {v:Value} {xs:List α} (c:Cx F0 h0 h L) (i:Nat) (hi:L[i]?=some (bJ E v xs)) {j:Nat} (A:j<xs.length) (y:α) {n:Nat} (B:n=E.n) {q:IntKind} {z:Int} (G:z=j) {w:Value} (hw:w=.agg ⟨E.c y⟩) {k:Hp->Prop}
  (H:∀h',Cx F0 h0 h' (L.set i (bJ E v (xs.set j y)))->k h'):Vb (nh n v (.int q z)) λp=>Sb (En.bF n p w h) k:=by
 obtain⟨F,⟨o,u⟩,up⟩:=c.IA hi;exact o.set A y B G hw λh' J ch=>H h' (up (F':=F) ⟨J,u⟩ (lm (ch.mono λq _ e=>(u q).2 e)))
def Cx.EJ {α:Type} {E:jZ α} {F0:Fp} {h h0:Hp} {L:List aX} {v:Value} {xs:List α} {x:α} (c:Cx F0 h0 h L) (i:Nat) (hi:L[i]?=some (bJ E v xs)) {p:Nat} (A:xs[p]?=some x) (y:α) {n:Nat} (B:n=E.n) {q:IntKind} {z:Int} (G:z=p) {j:Nat} {w:Value} (hw:w.oneCell'=true) (H:j<E.n) (J:E.c y=(E.c x).set j w) {k:Hp->Prop}
  (K:∀h',Cx F0 h0 h' (L.set i (bJ E v (xs.set p y)))->k h'):Vb (nh n v (.int q z)) λp=>Vb (fa j p) λp=>Sb (En.bF 1 p w h) k:=by
 obtain⟨F,⟨o,u⟩,up⟩:=c.IA hi;exact o.EJ A y B G hw H J λh' N ch=>K h' (up (F':=F) ⟨N,u⟩ (lm (ch.mono λq _ e=>(u q).2 e)))
end Go.En
namespace Go.En
variable {h h0 h':Hp} {F F0:Fp} {L M:List aX}
def cN (cs:List Value):Bool:=cs.all Value.oneCell'
def nu {cs:List Value} (h:cN cs=true) (v:Value) (hv:v∈cs):v.oneCell'=true:=List.all_eq_true.1 h v hv
abbrev Cells (n:Nat):Type:={cs:List Value // cs.length=n/\cN cs=true}
def RB (n:Nat):jZ (Cells n):={n:=n,c:=λx=>x.1,len:=λx=>x.2.1,one:=λx=>nu x.2.2}
def rV (r:Nat) (cs:List Value):aX where
 P:=λh F=>(∃ho:cN cs=true,Va (RB cs.length) h r ⟨cs,rfl,ho⟩)/\∀q,F q↔q=r
 lt:=λ⟨⟨_,v⟩,u⟩ q A=>by rw[u] at A; subst A; exact v.lt
 loc:=λ⟨⟨ho,v⟩,u⟩ c B=>⟨⟨ho,v.ch c (B r ((u r).2 rfl))⟩,u⟩
section
variable {r i o n:Nat} {cs:List Value}
def Cx.nv {a:Array Value} (c:Cx F0 h0 h L) {e:TypeId} (u:a.toList=cs) (ho:cN cs=true) {k:Value->Hp->Prop}
  (A:∀r h',Cx F0 h0 h' (L++[rV r cs])->k (bE r) h'):Eb (En.nw a e h) k:=by
 subst u;exact eb rfl (A h.size _ (c.add (F':=λq=>q=h.size) ⟨⟨ho,Va.new rfl⟩,λ_=>Iff.rfl⟩ (Ch.push _ _) λr e=>by omega))
def Cx.rv (c:Cx F0 h0 h L) (hi:L[i]?=some (rV r cs)):∃ho:cN cs=true,Va (RB cs.length) h r ⟨cs,rfl,ho⟩:=let⟨_,p,_⟩:=c.get hi; p
def Cx.vl (c:Cx F0 h0 h L) (hi:L[i]?=some (rV r cs)) (u:n=cs.length):aP n (bE r) h=some (.agg ⟨cs⟩):=let⟨_,v⟩:=c.rv hi; v.whole u
def Cx.vc (c:Cx F0 h0 h L) (hi:L[i]?=some (rV r cs)) {u:Value} (ho:cs[o]?=some u):eH (.pointer (some ⟨r,o,none⟩)) h=some u:=by
 obtain⟨_,v⟩:=c.rv hi;have:=v.row.eH (j:=o) ho;rwa [Nat.zero_add] at this
def Cx.vp (c:Cx F0 h0 h L) (hi:L[i]?=some (rV r cs)) {ds:List Value} (A:Nat.ble (o+n) cs.length=true) (B:(cs.drop o).take n=ds):aP n (.pointer (some ⟨r,o,none⟩)) h=some (.agg ⟨ds⟩):=by
 subst B;obtain⟨ho,v⟩:=c.rv hi;have J:=Nat.le_of_ble_eq_true A;have E:((cs.drop o).take n).length=n:=by rw[List.length_take,List.length_drop]; omega
 have G:Row (RB n) h r o ⟨(cs.drop o).take n,E,List.all_eq_true.2 λx H=>nu ho x (List.mem_of_mem_drop (List.mem_of_mem_take H))⟩:=λj u hu=>by
  have hu:((cs.drop o).take n)[j]?=some u:=hu;rw[List.getElem?_take] at hu;split at hu
  ·rw[List.getElem?_drop] at hu;have:=v.row (o+j) u hu;rwa [Nat.zero_add] at this
  ·cases hu
 exact G.aP rfl
def Cx.vS (c:Cx F0 h0 h L) (i:Nat) (hi:L[i]?=some (rV r cs)) {vs ds:List Value} {w:Value} (hw:w.cells.toList=vs) (ho:cN vs=true) (G:vs.length=n) (J:ds.length=cs.length) (B:o+n<=cs.length)
  (N:∀j u,ds[j]?=some u->if o<=j/\j<o+n then vs[j - o]?=some u else cs[j]?=some u) {k:Hp->Prop} (Q:∀h',Cx F0 h0 h' (L.set i (rV r ds))->k h'):Sb (En.bF n (.pointer (some ⟨r,o,none⟩)) w h) k:=by
 obtain⟨F,⟨⟨R,v⟩,O⟩,up⟩:=c.IA hi;have A:cN ds=true:=List.all_eq_true.2 λx T=>by
  obtain⟨j,B,rfl⟩:=List.mem_iff_getElem.1 T;have:=N j _ (List.getElem?_eq_getElem B);split at this
  ·exact nu ho _ (List.mem_of_getElem? this)
  ·exact nu R _ (List.mem_of_getElem? this)
 obtain⟨h1,e,U,ch,_⟩:=Va.put (E:=RB cs.length) v (y:=⟨ds,J,A⟩) (j:=o) (vs:=vs) (λj u hu=>by rw[G]; exact N j u hu) (by rw[G]; exact B) (nu ho);have H:w.cells.size=n:=by rw[<-Array.length_toList,hw,G]
 refine sb (h':=h1) ?_ (Q h1 (up (F':=F) ⟨⟨A,?_⟩,O⟩ (lm (ch.mono λq _ e=>(O q).2 e))))
 ·have V:Nat.beq w.cells.size n=true:=by rw[H]; exact Nat.beq_refl n
  show(match Nat.beq w.cells.size n with | true=>jU h ⟨r,o,none⟩ 0 w.cells.toList | false=>none)=some h1;rw[V,hw];exact e
 ·obtain⟨a,b,d⟩:=U;exact⟨a,b,λj B=>d j (show j<cs.length by rw[<-J]; exact B)⟩
def Cx.vw (c:Cx F0 h0 h L) (i:Nat) (hi:L[i]?=some (rV r cs)) {w:Value} {vs:List Value} (hw:w.cells.toList=vs) (ho:cN vs=true) (A:vs.length=n) (B:n=cs.length) {k:Hp->Prop}
  (E:∀h',Cx F0 h0 h' (L.set i (rV r vs))->k h'):Sb (En.bF n (bE r) w h) k:=
 c.vS i hi hw ho A (A.trans B) (by omega) (λj u hu=>by
  have:=(List.getElem?_eq_some_iff.1 hu).1;rw[if_pos ⟨Nat.zero_le _,by omega⟩]; exact hu) E
def Cx.vq (c:Cx F0 h0 h L) (i:Nat) (hi:L[i]?=some (rV r cs)) {w:Value} {vs ds:List Value} (hw:w.cells.toList=vs) (ho:cN vs=true) (A:vs.length=n) (B:Nat.ble (o+n) cs.length=true) (hs:cs.take o++vs++cs.drop (o+n)=ds) {k:Hp->Prop}
  (E:∀h',Cx F0 h0 h' (L.set i (rV r ds))->k h'):Sb (En.bF n (.pointer (some ⟨r,o,none⟩)) w h) k:=by
 subst hs hw;have G:=Nat.le_of_ble_eq_true B;exact c.vS i hi rfl ho A (by rw[List.length_append,List.length_append,List.length_take,List.length_drop]; omega) G (λj u hu=>by
  have H:(cs.take o).length=o:=by rw[List.length_take]; omega
  rw[List.append_assoc] at hu;by_cases h1:j<o
  ·rw[List.getElem?_append_left (by omega),List.getElem?_take_of_lt h1] at hu;rw[if_neg (by omega)]; exact hu
  ·rw[List.getElem?_append_right (by omega),H] at hu;by_cases h2:j<o+n
   ·rw[List.getElem?_append_left (by omega)] at hu;rw[if_pos (by omega)]; exact hu
   ·rw[List.getElem?_append_right (by omega),List.getElem?_drop] at hu;rw[if_neg (by omega)];rwa [show o+n+(j - o - w.cells.toList.length)=j by omega] at hu) E
def Cx.t3 (c:Cx F0 h0 h L) (i j:Nat) {r q n m:Nat} {csx csy vs ws:List Value} {a b d:Value} {R:Value->Hp->Prop} (hi:L[i]?=some (rV r csx)) (H:L[j]?=some (rV q csy)) (u:Nat.beq i j=false)
  (O:a.cells.toList=vs) (Q:cN vs=true) (J:vs.length=n) (T:n=csx.length) (U:b.cells.toList=ws) (V:cN ws=true) (N:ws.length=m) (X:m=csy.length)
  (Z:∀h',Cx F0 h0 h' ((L.set i (rV r vs)).set j (rV q ws))->R (.tuple #[.agg ⟨vs⟩,.agg ⟨ws⟩,d]) h'):T3 n (bE r) m (bE q) (.tuple #[a,b,d]) h R:=by
 have A:¬i=j:=λe=>by rw[e,Nat.beq_refl] at u; cases u
 refine En.vb (v:=a) rfl (En.vb (v:=b) rfl (En.vb (v:=d) rfl ?_));refine c.vw i hi O Q J T λ_ c=>?_;have B:(L.set i (rV r vs))[j]?=some (rV q csy):=by rw[List.getElem?_set,if_neg A]; exact H
 refine c.vw j B U V N X λ_ c=>?_;have E:i<L.length:=(List.getElem?_eq_some_iff.1 hi).1;have G:j<L.length:=(List.getElem?_eq_some_iff.1 H).1;refine En.vb (c.vl (i:=i) (by rw[List.getElem?_set,if_neg (λe=>A e.symm),List.getElem?_set,if_pos rfl,if_pos E]) J.symm) ?_;refine En.vb (c.vl (i:=j) (by rw[List.getElem?_set,if_pos rfl,if_pos (by rw[List.length_set]; exact G)]) N.symm) ?_;exact Z _ c
def Cx.t2 (c:Cx F0 h0 h L) (j:Nat) {q m:Nat} {csy ws:List Value} {a b d:Value} {R:Value->Hp->Prop} (A:L[j]?=some (rV q csy)) (E:b.cells.toList=ws) (G:cN ws=true) (B:ws.length=m) (H:m=csy.length)
  (J:∀h',Cx F0 h0 h' (L.set j (rV q ws))->R (.tuple #[a,.agg ⟨ws⟩,d]) h'):T2 m (bE q) (.tuple #[a,b,d]) h R:=by
 refine En.vb (v:=a) rfl (En.vb (v:=b) rfl (En.vb (v:=d) rfl ?_));refine c.vw j A E G B H λ_ c=>?_;have u:j<L.length:=(List.getElem?_eq_some_iff.1 A).1;refine En.vb (c.vl (i:=j) (by rw[List.getElem?_set,if_pos rfl,if_pos u]) B.symm) ?_;exact J _ c
def dK {v:Value} (h:v.oneCell'=true):v.cells.toList=[v]:=by
 cases v <;> first | rfl | cases h
end
structure Bs where
 p:Hp->Prop
 up:∀{h h':Hp},p h->Gr h h'->p h'
def Bs.and (B:Bs) (M:List aX):Bs:=⟨λh=>B.p h/\∃F,(aD M).P h F,λ⟨a,F,b⟩ g=>⟨B.up a g,F,(aD M).loc b g λ_ _ e=>e⟩⟩
def Bs.of (h:Hp):Bs:=⟨λh'=>Gr h h',λa g=>a.trans g⟩
def On (B:Bs) (P:Hp->Prop):Prop:=∀h,B.p h->P h
def Bs.le (B B':Bs):Prop:=∀h,B'.p h->B.p h
def Bs.le_refl (B:Bs):B.le B:=λ_ b=>b
def Bs.aJ (B:Bs) (M:List aX):B.le (B.and M):=λ_ b=>b.1
def Bs.le.trans {A B C:Bs} (x:A.le B) (y:B.le C):A.le C:=λh c=>x h (y h c)
def Rt (B:Bs) (h:Hp) (Q:Bs->Prop) (K:Hp->Prop):Prop:=∀M h',Cx (λ_=>False) h h' [aD M]->Q (B.and M)->K h'
def Rt.nil {B:Bs} {Q:Bs->Prop} {K:Hp->Prop} (H:Rt B h Q K) (u:Q (B.and [])) {h':Hp} (g:Gr h h'):K h':=
 H [] h' (((Cx.aB h).more g).pack (L:=[]) (M:=[])) u
def On.le {B B':Bs} {P:Hp->Prop} (H:On B P) (l:B.le B'):On B' P:=λh b=>H h (l h b)
def On.imp {B:Bs} {P Q:Hp->Prop} (H:On B P) (f:∀h,P h->Q h):On B Q:=λh b=>f h (H h b)
def Bs.star {B:Bs} {u:List aX} (b:(B.and u).p h) {M:List aX} {i:Nat} (hi:u[i]?=some (aD M)):∃F,(aD M).P h F:=by
 obtain⟨_,F,p⟩:=b;exact(Cx.star p).get hi
def Bs.iB {B:Bs} {M u:List aX} {i:Nat} (hi:u[i]?=some (aD M)):(B.and M).le (B.and u):=λ_ b=>⟨b.1,Bs.star b hi⟩
def Bs.Ay {B:Bs} {M N:List aX}:((B.and M).and N).le (B.and [aD M,aD N]):=λ_ b=>⟨⟨b.1,Bs.star b (i:=0) rfl⟩,Bs.star b (i:=1) rfl⟩
def On.of {B:Bs} {M:List aX} {A:aX} {i:Nat} (hi:M[i]?=some A):On (B.and M) λh=>∃F,A.P h F:=λ_ b=>by
 obtain⟨_,F,p⟩:=b;exact(Cx.star p).get hi
def On.sl {B:Bs} {M:List aX} {α:Type} {E:jZ α} {v:Value} {xs:List α} {i:Nat} (hi:M[i]?=some (bJ E v xs)):On (B.and M) λh=>Sl E h v xs:=(On.of hi).imp λ_ ⟨_,p⟩=>p.1.sl
def On.mp {B:Bs} {M:List aX} {α:Type} {u:IntKind} {E:α->Value} {v:Value} {xs:List (Int × α)} {i:Nat} (hi:M[i]?=some (AR u E v xs)):On (B.and M) λh=>Mp u E h v xs:=(On.of hi).imp λ_ ⟨_,p⟩=>p.1
def bU {A B:Prop} (h:A):Br (.bool true) A B:=h
def aN {A B:Prop} (h:B):Br (.bool false) A B:=h
section
variable {k:IntKind} {a b:Int}
def jO (h:a=b):bin .eql (.int k a) (.int k b)=some (.bool true):=by rw[bW,decide_eq_true h]
def fG (h:¬a=b):bin .eql (.int k a) (.int k b)=some (.bool false):=by rw[bW,decide_eq_false h]
def zZ (h:¬a=b):bin .neq (.int k a) (.int k b)=some (.bool true):=by rw[dZ,decide_eq_true h]
def uQ (h:a=b):bin .neq (.int k a) (.int k b)=some (.bool false):=by rw[dZ,decide_eq_false λe=>e h]
def qA (h:a<b):bin .lss (.int k a) (.int k b)=some (.bool true):=by rw[aV,decide_eq_true h]
def dA (h:¬a<b):bin .lss (.int k a) (.int k b)=some (.bool false):=by rw[aV,decide_eq_false h]
def Be (h:a<=b):bin .leq (.int k a) (.int k b)=some (.bool true):=by rw[sP,decide_eq_true h]
def KK (h:¬a<=b):bin .leq (.int k a) (.int k b)=some (.bool false):=by rw[sP,decide_eq_false h]
def zH (h:b<a):bin .gtr (.int k a) (.int k b)=some (.bool true):=by rw[eY,decide_eq_true h]
def ka (h:¬b<a):bin .gtr (.int k a) (.int k b)=some (.bool false):=by rw[eY,decide_eq_false h]
def ny (h:b<=a):bin .geq (.int k a) (.int k b)=some (.bool true):=by rw[km,decide_eq_true h]
def iO (h:¬b<=a):bin .geq (.int k a) (.int k b)=some (.bool false):=by rw[km,decide_eq_false h]
end
def C5 {α:Type} {j:Nat} {u:α} {P:Prop} (h:([]:List α)[j]?=some u):P:=by simp at h
def EB (place:Nat->Option (Nat × Nat)):List Value->List (Nat × Value)->Option (List Value)
 | cs,[]=>some cs
 | cs,(i,v)::r=>match place i with
  | none=>none
  | some (o,n)=>match Nat.beq v.cells.toList.length n,Nat.ble (o+n) cs.length with
   | true,true=>EB place (cs.take o++v.cells.toList++cs.drop (o+n)) r
   | _,_=>none
def Hi {place:Nat->Option (Nat × Nat)}:∀{parts:List (Nat × Value)} {cs ds:List Value},EB place cs parts=some ds->Instr.fill place cs.toArray parts=some ds.toArray
 | [],cs,ds,h=>by
  simp only[EB,Option.some.injEq] at h;subst h; rfl
 | (i,v)::r,cs,ds,h=>by
  unfold EB at h;unfold Instr.fill;split at h
  ·cases h
  ·rename_i o n u;simp only[u];split at h
   ·rename_i h1 h2;have h1:=Nat.eq_of_beq_eq_true h1;have h2:=Nat.le_of_ble_eq_true h2;have hs:v.cells.size=n:=by rw[<-Array.length_toList]; exact h1
    have A:(v.cells.size≠n||o+v.cells.size > cs.toArray.size)=false:=by simp[hs]; omega
    simp only[A,Bool.false_eq_true,if_false];have B:(v.cells.zipIdx.foldl (λcs x=>cs.setIfInBounds (o+x.2) x.1) cs.toArray)=(cs.take o++v.cells.toList++cs.drop (o+n)).toArray:=by
     apply Array.ext';rw[<-Array.foldl_toList,Array.toList_zipIdx,z5]
     ·rw[Nat.add_zero,h1]
     ·rw[Nat.add_zero,h1]; omega
    rw[B];exact Hi h
   ·cases h
def aG {places:List (Nat × Nat)} {zero:Array Value} {parts:List (Nat × Value)} {ds:List Value} (h:EB (places[·]?) zero.toList parts=some ds):fV places zero parts=some (.agg ⟨ds⟩):=by
 have:=Hi h;rw[Array.toArray_toList] at this;unfold fV;rw[this]; rfl
def aE {r o j:Nat} {K:Value->Prop} (h:K (.pointer (some ⟨r,o+j,none⟩))):Vb (fa j (.pointer (some ⟨r,o,none⟩))) K:=En.vb (gQ _ _ _) h
section
variable {r o n:Nat} {cs:List Value}
def Cx.rc (c:Cx F0 h0 h L) (i:Nat) {u:Value} {K:Value->Prop} (k:K u) (hi:L[i]?=some (rV r cs):=by exact rfl) (ho:cs[o]?=some u:=by exact rfl):Vb (eH (.pointer (some ⟨r,o,none⟩)) h) K:=En.vb (c.vc hi ho) k
def Cx.rl (c:Cx F0 h0 h L) (i:Nat) {K:Value->Prop} (k:K (.agg ⟨cs⟩)) (hi:L[i]?=some (rV r cs):=by exact rfl) (u:n=cs.length:=by exact rfl):Vb (aP n (bE r) h) K:=En.vb (c.vl hi u) k
def Cx.ac (c:Cx F0 h0 h L) (i:Nat) {u:Value} {K:Prop} (k:K) (hi:L[i]?=some (rV r cs):=by exact rfl) (ho:cs[o]?=some u:=by exact rfl):eH (.pointer (some ⟨r,o,none⟩)) h=some u/\K:=⟨c.vc hi ho,k⟩
def Cx.al (c:Cx F0 h0 h L) (i:Nat) {K:Prop} (k:K) (hi:L[i]?=some (rV r cs):=by exact rfl) (u:n=cs.length:=by exact rfl):aP n (bE r) h=some (.agg ⟨cs⟩)/\K:=⟨c.vl hi u,k⟩
def Cx.n0 (c:Cx F0 h0 h []):Cx F0 h0 h []:=c
def Cx.n1 {u:aX} (c:Cx F0 h0 h [u]):Cx F0 h0 h [u]:=c
def Cx.n2 {u A:aX} (c:Cx F0 h0 h [u,A]):Cx F0 h0 h [u,A]:=c
def Cx.n3 {u A B:aX} (c:Cx F0 h0 h [u,A,B]):Cx F0 h0 h [u,A,B]:=c
def Cx.n4 {u A B E:aX} (c:Cx F0 h0 h [u,A,B,E]):Cx F0 h0 h [u,A,B,E]:=c
def Cx.n5 {u A B E G:aX} (c:Cx F0 h0 h [u,A,B,E,G]):Cx F0 h0 h [u,A,B,E,G]:=c
def Cx.n6 {u A B E G H:aX} (c:Cx F0 h0 h [u,A,B,E,G,H]):Cx F0 h0 h [u,A,B,E,G,H]:=c
def Cx.n7 {u A B E G H J:aX} (c:Cx F0 h0 h [u,A,B,E,G,H,J]):Cx F0 h0 h [u,A,B,E,G,H,J]:=c
def Cx.n8 {u A B E G H J N:aX} (c:Cx F0 h0 h [u,A,B,E,G,H,J,N]):Cx F0 h0 h [u,A,B,E,G,H,J,N]:=c
def Cx.n9 {u A B E G H J N O:aX} (c:Cx F0 h0 h [u,A,B,E,G,H,J,N,O]):Cx F0 h0 h [u,A,B,E,G,H,J,N,O]:=c
def Cx.Oo {u A B E G H J N O Q:aX} (c:Cx F0 h0 h [u,A,B,E,G,H,J,N,O,Q]):Cx F0 h0 h [u,A,B,E,G,H,J,N,O,Q]:=c
def Cx.QH {A B E G H J N O Q R u:aX} (c:Cx F0 h0 h [A,B,E,G,H,J,N,O,Q,R,u]):Cx F0 h0 h [A,B,E,G,H,J,N,O,Q,R,u]:=c
def Cx.Vk {B E G H J N O Q R T u A:aX} (c:Cx F0 h0 h [B,E,G,H,J,N,O,Q,R,T,u,A]):Cx F0 h0 h [B,E,G,H,J,N,O,Q,R,T,u,A]:=c
class Ov (v:Value):Prop where
 h:v.oneCell'=true
def bN {v:Value} {vs:List Value} (h:v.oneCell'=true) (t:cN vs=true):cN (v::vs)=true:=by
 unfold cN at t⊢;rw[List.all_cons,h,t]; rfl
class Sn (L:List aX) (f:outParam (aX->List aX)):Prop where
 e:∀x,L++[x]=f x
instance:Sn [] λx=>[x]:=⟨λ_=>rfl⟩
instance {a:aX} {f:aX->List aX} [s:Sn L f]:Sn (a::L) λx=>a::f x:=⟨λx=>by rw[<-s.e x]; rfl⟩
class Stt (L:List aX) (i:Nat) (f:outParam (aX->List aX)):Prop where
 e:∀x,L.set i x=f x
instance {a:aX}:Stt (a::L) 0 λx=>x::L:=⟨λ_=>rfl⟩
instance {a:aX} {i:Nat} {f:aX->List aX} [s:Stt L i f]:Stt (a::L) (i+1) λx=>a::f x:=⟨λx=>by rw[<-s.e x]; rfl⟩
variable {f f':aX->List aX} {k:Value->Hp->Prop} {K:Hp->Prop} {v w:Value} {i j q:Nat} {csx csy:List Value}
def Cx.v1 {u:Value} {a:Array Value} (c:Cx F0 h0 h L) {e:TypeId} [s:Sn L f] (A:∀r h',Cx F0 h0 h' (f (rV r [u]))->k (bE r) h') (B:a.toList=[u]:=by exact rfl) (ho:cN [u]=true:=by first | exact rfl | repeat' first | exact rfl | assumption | exact Ov.h | apply bN):Eb (En.nw a e h) k:=c.nv B ho λr h' c=>A r h' (s.e _▸c)
def Cx.w1 {u:Value} (c:Cx F0 h0 h L) (i:Nat) [s:Stt L i f] (A:∀h',Cx F0 h0 h' (f (rV r [u]))->K h') (hi:L[i]?=some (rV r cs):=by exact rfl) (hw:w.cells.toList=[u]:=by exact rfl) (ho:cN [u]=true:=by first | exact rfl | repeat' first | exact rfl | assumption | exact Ov.h | apply bN) (B:1=cs.length:=by exact rfl):Sb (En.bF 1 (bE r) w h) K:=c.vw i hi hw ho rfl B λh' c=>A h' (s.e _▸c)
def Cx.v2 {u A:Value} {a:Array Value} (c:Cx F0 h0 h L) {e:TypeId} [s:Sn L f] (B:∀r h',Cx F0 h0 h' (f (rV r [u,A]))->k (bE r) h') (E:a.toList=[u,A]:=by exact rfl) (ho:cN [u,A]=true:=by first | exact rfl | repeat' first | exact rfl | assumption | exact Ov.h | apply bN):Eb (En.nw a e h) k:=c.nv E ho λr h' c=>B r h' (s.e _▸c)
def Cx.w2 {u A:Value} (c:Cx F0 h0 h L) (i:Nat) [s:Stt L i f] (B:∀h',Cx F0 h0 h' (f (rV r [u,A]))->K h') (hi:L[i]?=some (rV r cs):=by exact rfl) (hw:w.cells.toList=[u,A]:=by exact rfl) (ho:cN [u,A]=true:=by first | exact rfl | repeat' first | exact rfl | assumption | exact Ov.h | apply bN) (E:2=cs.length:=by exact rfl):Sb (En.bF 2 (bE r) w h) K:=c.vw i hi hw ho rfl E λh' c=>B h' (s.e _▸c)
def Cx.q2 {u A:Value} (c:Cx F0 h0 h L) (i:Nat) [s:Stt L i f] (B:∀h',Cx F0 h0 h' (f (rV r [u,A]))->K h') (hi:L[i]?=some (rV r cs):=by exact rfl) (hw:w.cells.toList=[v]:=by first | exact rfl | exact dK (by assumption)) (ho:cN [v]=true:=by first | exact rfl | repeat' first | exact rfl | assumption | exact Ov.h | apply bN) (E:Nat.ble (o+1) cs.length=true:=by exact rfl) (hs:cs.take o++[v]++cs.drop (o+1)=[u,A]:=by exact rfl):Sb (En.bF 1 (.pointer (some ⟨r,o,none⟩)) w h) K:=c.vq i hi hw ho rfl E hs λh' c=>B h' (s.e _▸c)
def Cx.v3 {u A B:Value} {a:Array Value} (c:Cx F0 h0 h L) {e:TypeId} [s:Sn L f] (E:∀r h',Cx F0 h0 h' (f (rV r [u,A,B]))->k (bE r) h') (G:a.toList=[u,A,B]:=by exact rfl) (ho:cN [u,A,B]=true:=by first | exact rfl | repeat' first | exact rfl | assumption | exact Ov.h | apply bN):Eb (En.nw a e h) k:=c.nv G ho λr h' c=>E r h' (s.e _▸c)
def Cx.w3 {u A B:Value} (c:Cx F0 h0 h L) (i:Nat) [s:Stt L i f] (E:∀h',Cx F0 h0 h' (f (rV r [u,A,B]))->K h') (hi:L[i]?=some (rV r cs):=by exact rfl) (hw:w.cells.toList=[u,A,B]:=by exact rfl) (ho:cN [u,A,B]=true:=by first | exact rfl | repeat' first | exact rfl | assumption | exact Ov.h | apply bN) (G:3=cs.length:=by exact rfl):Sb (En.bF 3 (bE r) w h) K:=c.vw i hi hw ho rfl G λh' c=>E h' (s.e _▸c)
def Cx.q3 {u A B:Value} (c:Cx F0 h0 h L) (i:Nat) [s:Stt L i f] (E:∀h',Cx F0 h0 h' (f (rV r [u,A,B]))->K h') (hi:L[i]?=some (rV r cs):=by exact rfl) (hw:w.cells.toList=[v]:=by first | exact rfl | exact dK (by assumption)) (ho:cN [v]=true:=by first | exact rfl | repeat' first | exact rfl | assumption | exact Ov.h | apply bN) (G:Nat.ble (o+1) cs.length=true:=by exact rfl) (hs:cs.take o++[v]++cs.drop (o+1)=[u,A,B]:=by exact rfl):Sb (En.bF 1 (.pointer (some ⟨r,o,none⟩)) w h) K:=c.vq i hi hw ho rfl G hs λh' c=>E h' (s.e _▸c)
def Cx.v4 {u A B E:Value} {a:Array Value} (c:Cx F0 h0 h L) {e:TypeId} [s:Sn L f] (G:∀r h',Cx F0 h0 h' (f (rV r [u,A,B,E]))->k (bE r) h') (H:a.toList=[u,A,B,E]:=by exact rfl) (ho:cN [u,A,B,E]=true:=by first | exact rfl | repeat' first | exact rfl | assumption | exact Ov.h | apply bN):Eb (En.nw a e h) k:=c.nv H ho λr h' c=>G r h' (s.e _▸c)
def Cx.w4 {u A B E:Value} (c:Cx F0 h0 h L) (i:Nat) [s:Stt L i f] (G:∀h',Cx F0 h0 h' (f (rV r [u,A,B,E]))->K h') (hi:L[i]?=some (rV r cs):=by exact rfl) (hw:w.cells.toList=[u,A,B,E]:=by exact rfl) (ho:cN [u,A,B,E]=true:=by first | exact rfl | repeat' first | exact rfl | assumption | exact Ov.h | apply bN) (H:4=cs.length:=by exact rfl):Sb (En.bF 4 (bE r) w h) K:=c.vw i hi hw ho rfl H λh' c=>G h' (s.e _▸c)
def Cx.q4 {u A B E:Value} (c:Cx F0 h0 h L) (i:Nat) [s:Stt L i f] (G:∀h',Cx F0 h0 h' (f (rV r [u,A,B,E]))->K h') (hi:L[i]?=some (rV r cs):=by exact rfl) (hw:w.cells.toList=[v]:=by first | exact rfl | exact dK (by assumption)) (ho:cN [v]=true:=by first | exact rfl | repeat' first | exact rfl | assumption | exact Ov.h | apply bN) (H:Nat.ble (o+1) cs.length=true:=by exact rfl) (hs:cs.take o++[v]++cs.drop (o+1)=[u,A,B,E]:=by exact rfl):Sb (En.bF 1 (.pointer (some ⟨r,o,none⟩)) w h) K:=c.vq i hi hw ho rfl H hs λh' c=>G h' (s.e _▸c)
def Cx.v5 {u A B E G:Value} {a:Array Value} (c:Cx F0 h0 h L) {e:TypeId} [s:Sn L f] (H:∀r h',Cx F0 h0 h' (f (rV r [u,A,B,E,G]))->k (bE r) h') (J:a.toList=[u,A,B,E,G]:=by exact rfl) (ho:cN [u,A,B,E,G]=true:=by first | exact rfl | repeat' first | exact rfl | assumption | exact Ov.h | apply bN):Eb (En.nw a e h) k:=c.nv J ho λr h' c=>H r h' (s.e _▸c)
def Cx.w5 {u A B E G:Value} (c:Cx F0 h0 h L) (i:Nat) [s:Stt L i f] (H:∀h',Cx F0 h0 h' (f (rV r [u,A,B,E,G]))->K h') (hi:L[i]?=some (rV r cs):=by exact rfl) (hw:w.cells.toList=[u,A,B,E,G]:=by exact rfl) (ho:cN [u,A,B,E,G]=true:=by first | exact rfl | repeat' first | exact rfl | assumption | exact Ov.h | apply bN) (J:5=cs.length:=by exact rfl):Sb (En.bF 5 (bE r) w h) K:=c.vw i hi hw ho rfl J λh' c=>H h' (s.e _▸c)
def Cx.v6 {u A B E G H:Value} {a:Array Value} (c:Cx F0 h0 h L) {e:TypeId} [s:Sn L f] (J:∀r h',Cx F0 h0 h' (f (rV r [u,A,B,E,G,H]))->k (bE r) h') (N:a.toList=[u,A,B,E,G,H]:=by exact rfl) (ho:cN [u,A,B,E,G,H]=true:=by first | exact rfl | repeat' first | exact rfl | assumption | exact Ov.h | apply bN):Eb (En.nw a e h) k:=c.nv N ho λr h' c=>J r h' (s.e _▸c)
def Cx.w6 {u A B E G H:Value} (c:Cx F0 h0 h L) (i:Nat) [s:Stt L i f] (J:∀h',Cx F0 h0 h' (f (rV r [u,A,B,E,G,H]))->K h') (hi:L[i]?=some (rV r cs):=by exact rfl) (hw:w.cells.toList=[u,A,B,E,G,H]:=by exact rfl) (ho:cN [u,A,B,E,G,H]=true:=by first | exact rfl | repeat' first | exact rfl | assumption | exact Ov.h | apply bN) (N:6=cs.length:=by exact rfl):Sb (En.bF 6 (bE r) w h) K:=c.vw i hi hw ho rfl N λh' c=>J h' (s.e _▸c)
def Cx.q6 {u A B E G H:Value} (c:Cx F0 h0 h L) (i:Nat) [s:Stt L i f] (J:∀h',Cx F0 h0 h' (f (rV r [u,A,B,E,G,H]))->K h') (hi:L[i]?=some (rV r cs):=by exact rfl) (hw:w.cells.toList=[v]:=by first | exact rfl | exact dK (by assumption)) (ho:cN [v]=true:=by first | exact rfl | repeat' first | exact rfl | assumption | exact Ov.h | apply bN) (N:Nat.ble (o+1) cs.length=true:=by exact rfl) (hs:cs.take o++[v]++cs.drop (o+1)=[u,A,B,E,G,H]:=by exact rfl):Sb (En.bF 1 (.pointer (some ⟨r,o,none⟩)) w h) K:=c.vq i hi hw ho rfl N hs λh' c=>J h' (s.e _▸c)
def Cx.v7 {u A B E G H J:Value} {a:Array Value} (c:Cx F0 h0 h L) {e:TypeId} [s:Sn L f] (N:∀r h',Cx F0 h0 h' (f (rV r [u,A,B,E,G,H,J]))->k (bE r) h') (O:a.toList=[u,A,B,E,G,H,J]:=by exact rfl) (ho:cN [u,A,B,E,G,H,J]=true:=by first | exact rfl | repeat' first | exact rfl | assumption | exact Ov.h | apply bN):Eb (En.nw a e h) k:=c.nv O ho λr h' c=>N r h' (s.e _▸c)
def Cx.w7 {u A B E G H J:Value} (c:Cx F0 h0 h L) (i:Nat) [s:Stt L i f] (N:∀h',Cx F0 h0 h' (f (rV r [u,A,B,E,G,H,J]))->K h') (hi:L[i]?=some (rV r cs):=by exact rfl) (hw:w.cells.toList=[u,A,B,E,G,H,J]:=by exact rfl) (ho:cN [u,A,B,E,G,H,J]=true:=by first | exact rfl | repeat' first | exact rfl | assumption | exact Ov.h | apply bN) (O:7=cs.length:=by exact rfl):Sb (En.bF 7 (bE r) w h) K:=c.vw i hi hw ho rfl O λh' c=>N h' (s.e _▸c)
def Cx.q7 {u A B E G H J:Value} (c:Cx F0 h0 h L) (i:Nat) [s:Stt L i f] (N:∀h',Cx F0 h0 h' (f (rV r [u,A,B,E,G,H,J]))->K h') (hi:L[i]?=some (rV r cs):=by exact rfl) (hw:w.cells.toList=[v]:=by first | exact rfl | exact dK (by assumption)) (ho:cN [v]=true:=by first | exact rfl | repeat' first | exact rfl | assumption | exact Ov.h | apply bN) (O:Nat.ble (o+1) cs.length=true:=by exact rfl) (hs:cs.take o++[v]++cs.drop (o+1)=[u,A,B,E,G,H,J]:=by exact rfl):Sb (En.bF 1 (.pointer (some ⟨r,o,none⟩)) w h) K:=c.vq i hi hw ho rfl O hs λh' c=>N h' (s.e _▸c)
def Cx.v8 {u A B E G H J N:Value} {a:Array Value} (c:Cx F0 h0 h L) {e:TypeId} [s:Sn L f] (O:∀r h',Cx F0 h0 h' (f (rV r [u,A,B,E,G,H,J,N]))->k (bE r) h') (Q:a.toList=[u,A,B,E,G,H,J,N]:=by exact rfl) (ho:cN [u,A,B,E,G,H,J,N]=true:=by first | exact rfl | repeat' first | exact rfl | assumption | exact Ov.h | apply bN):Eb (En.nw a e h) k:=c.nv Q ho λr h' c=>O r h' (s.e _▸c)
def Cx.w8 {u A B E G H J N:Value} (c:Cx F0 h0 h L) (i:Nat) [s:Stt L i f] (O:∀h',Cx F0 h0 h' (f (rV r [u,A,B,E,G,H,J,N]))->K h') (hi:L[i]?=some (rV r cs):=by exact rfl) (hw:w.cells.toList=[u,A,B,E,G,H,J,N]:=by exact rfl) (ho:cN [u,A,B,E,G,H,J,N]=true:=by first | exact rfl | repeat' first | exact rfl | assumption | exact Ov.h | apply bN) (Q:8=cs.length:=by exact rfl):Sb (En.bF 8 (bE r) w h) K:=c.vw i hi hw ho rfl Q λh' c=>O h' (s.e _▸c)
def Cx.q8 {u A B E G H J N:Value} (c:Cx F0 h0 h L) (i:Nat) [s:Stt L i f] (O:∀h',Cx F0 h0 h' (f (rV r [u,A,B,E,G,H,J,N]))->K h') (hi:L[i]?=some (rV r cs):=by exact rfl) (hw:w.cells.toList=[v]:=by first | exact rfl | exact dK (by assumption)) (ho:cN [v]=true:=by first | exact rfl | repeat' first | exact rfl | assumption | exact Ov.h | apply bN) (Q:Nat.ble (o+1) cs.length=true:=by exact rfl) (hs:cs.take o++[v]++cs.drop (o+1)=[u,A,B,E,G,H,J,N]:=by exact rfl):Sb (En.bF 1 (.pointer (some ⟨r,o,none⟩)) w h) K:=c.vq i hi hw ho rfl Q hs λh' c=>O h' (s.e _▸c)
def Cx.v9 {u A B E G H J N O:Value} {a:Array Value} (c:Cx F0 h0 h L) {e:TypeId} [s:Sn L f] (Q:∀r h',Cx F0 h0 h' (f (rV r [u,A,B,E,G,H,J,N,O]))->k (bE r) h') (R:a.toList=[u,A,B,E,G,H,J,N,O]:=by exact rfl) (ho:cN [u,A,B,E,G,H,J,N,O]=true:=by first | exact rfl | repeat' first | exact rfl | assumption | exact Ov.h | apply bN):Eb (En.nw a e h) k:=c.nv R ho λr h' c=>Q r h' (s.e _▸c)
def Cx.w9 {u A B E G H J N O:Value} (c:Cx F0 h0 h L) (i:Nat) [s:Stt L i f] (Q:∀h',Cx F0 h0 h' (f (rV r [u,A,B,E,G,H,J,N,O]))->K h') (hi:L[i]?=some (rV r cs):=by exact rfl) (hw:w.cells.toList=[u,A,B,E,G,H,J,N,O]:=by exact rfl) (ho:cN [u,A,B,E,G,H,J,N,O]=true:=by first | exact rfl | repeat' first | exact rfl | assumption | exact Ov.h | apply bN) (R:9=cs.length:=by exact rfl):Sb (En.bF 9 (bE r) w h) K:=c.vw i hi hw ho rfl R λh' c=>Q h' (s.e _▸c)
def Cx.q9 {u A B E G H J N O:Value} (c:Cx F0 h0 h L) (i:Nat) [s:Stt L i f] (Q:∀h',Cx F0 h0 h' (f (rV r [u,A,B,E,G,H,J,N,O]))->K h') (hi:L[i]?=some (rV r cs):=by exact rfl) (hw:w.cells.toList=[v]:=by first | exact rfl | exact dK (by assumption)) (ho:cN [v]=true:=by first | exact rfl | repeat' first | exact rfl | assumption | exact Ov.h | apply bN) (R:Nat.ble (o+1) cs.length=true:=by exact rfl) (hs:cs.take o++[v]++cs.drop (o+1)=[u,A,B,E,G,H,J,N,O]:=by exact rfl):Sb (En.bF 1 (.pointer (some ⟨r,o,none⟩)) w h) K:=c.vq i hi hw ho rfl R hs λh' c=>Q h' (s.e _▸c)
def Cx.v10 {u A B E G H J N O Q:Value} {a:Array Value} (c:Cx F0 h0 h L) {e:TypeId} [s:Sn L f] (R:∀r h',Cx F0 h0 h' (f (rV r [u,A,B,E,G,H,J,N,O,Q]))->k (bE r) h') (T:a.toList=[u,A,B,E,G,H,J,N,O,Q]:=by exact rfl) (ho:cN [u,A,B,E,G,H,J,N,O,Q]=true:=by first | exact rfl | repeat' first | exact rfl | assumption | exact Ov.h | apply bN):Eb (En.nw a e h) k:=c.nv T ho λr h' c=>R r h' (s.e _▸c)
def Cx.Ri {u A B E G H J N O Q:Value} (c:Cx F0 h0 h L) (i:Nat) [s:Stt L i f] (R:∀h',Cx F0 h0 h' (f (rV r [u,A,B,E,G,H,J,N,O,Q]))->K h') (hi:L[i]?=some (rV r cs):=by exact rfl) (hw:w.cells.toList=[u,A,B,E,G,H,J,N,O,Q]:=by exact rfl) (ho:cN [u,A,B,E,G,H,J,N,O,Q]=true:=by first | exact rfl | repeat' first | exact rfl | assumption | exact Ov.h | apply bN) (T:10=cs.length:=by exact rfl):Sb (En.bF 10 (bE r) w h) K:=c.vw i hi hw ho rfl T λh' c=>R h' (s.e _▸c)
def Cx.Pp {u A B E G H J N O Q:Value} (c:Cx F0 h0 h L) (i:Nat) [s:Stt L i f] (R:∀h',Cx F0 h0 h' (f (rV r [u,A,B,E,G,H,J,N,O,Q]))->K h') (hi:L[i]?=some (rV r cs):=by exact rfl) (hw:w.cells.toList=[v]:=by first | exact rfl | exact dK (by assumption)) (ho:cN [v]=true:=by first | exact rfl | repeat' first | exact rfl | assumption | exact Ov.h | apply bN) (T:Nat.ble (o+1) cs.length=true:=by exact rfl) (hs:cs.take o++[v]++cs.drop (o+1)=[u,A,B,E,G,H,J,N,O,Q]:=by exact rfl):Sb (En.bF 1 (.pointer (some ⟨r,o,none⟩)) w h) K:=c.vq i hi hw ho rfl T hs λh' c=>R h' (s.e _▸c)
def Cx.v11 {A B E G H J N O Q R u:Value} {a:Array Value} (c:Cx F0 h0 h L) {e:TypeId} [s:Sn L f] (T:∀r h',Cx F0 h0 h' (f (rV r [A,B,E,G,H,J,N,O,Q,R,u]))->k (bE r) h') (U:a.toList=[A,B,E,G,H,J,N,O,Q,R,u]:=by exact rfl) (ho:cN [A,B,E,G,H,J,N,O,Q,R,u]=true:=by first | exact rfl | repeat' first | exact rfl | assumption | exact Ov.h | apply bN):Eb (En.nw a e h) k:=c.nv U ho λr h' c=>T r h' (s.e _▸c)
def Cx.S2 {A B E G H J N O Q R u:Value} (c:Cx F0 h0 h L) (i:Nat) [s:Stt L i f] (T:∀h',Cx F0 h0 h' (f (rV r [A,B,E,G,H,J,N,O,Q,R,u]))->K h') (hi:L[i]?=some (rV r cs):=by exact rfl) (hw:w.cells.toList=[A,B,E,G,H,J,N,O,Q,R,u]:=by exact rfl) (ho:cN [A,B,E,G,H,J,N,O,Q,R,u]=true:=by first | exact rfl | repeat' first | exact rfl | assumption | exact Ov.h | apply bN) (U:11=cs.length:=by exact rfl):Sb (En.bF 11 (bE r) w h) K:=c.vw i hi hw ho rfl U λh' c=>T h' (s.e _▸c)
def Cx.JX {A B E G H J N O Q R u:Value} (c:Cx F0 h0 h L) (i:Nat) [s:Stt L i f] (T:∀h',Cx F0 h0 h' (f (rV r [A,B,E,G,H,J,N,O,Q,R,u]))->K h') (hi:L[i]?=some (rV r cs):=by exact rfl) (hw:w.cells.toList=[v]:=by first | exact rfl | exact dK (by assumption)) (ho:cN [v]=true:=by first | exact rfl | repeat' first | exact rfl | assumption | exact Ov.h | apply bN) (U:Nat.ble (o+1) cs.length=true:=by exact rfl) (hs:cs.take o++[v]++cs.drop (o+1)=[A,B,E,G,H,J,N,O,Q,R,u]:=by exact rfl):Sb (En.bF 1 (.pointer (some ⟨r,o,none⟩)) w h) K:=c.vq i hi hw ho rfl U hs λh' c=>T h' (s.e _▸c)
def Cx.FT {E G H J N O Q R T U u A B:Value} {a:Array Value} (c:Cx F0 h0 h L) {e:TypeId} [s:Sn L f] (V:∀r h',Cx F0 h0 h' (f (rV r [E,G,H,J,N,O,Q,R,T,U,u,A,B]))->k (bE r) h') (X:a.toList=[E,G,H,J,N,O,Q,R,T,U,u,A,B]:=by exact rfl) (ho:cN [E,G,H,J,N,O,Q,R,T,U,u,A,B]=true:=by first | exact rfl | repeat' first | exact rfl | assumption | exact Ov.h | apply bN):Eb (En.nw a e h) k:=c.nv X ho λr h' c=>V r h' (s.e _▸c)
def Cx.Od {E G H J N O Q R T U u A B:Value} (c:Cx F0 h0 h L) (i:Nat) [s:Stt L i f] (V:∀h',Cx F0 h0 h' (f (rV r [E,G,H,J,N,O,Q,R,T,U,u,A,B]))->K h') (hi:L[i]?=some (rV r cs):=by exact rfl) (hw:w.cells.toList=[E,G,H,J,N,O,Q,R,T,U,u,A,B]:=by exact rfl) (ho:cN [E,G,H,J,N,O,Q,R,T,U,u,A,B]=true:=by first | exact rfl | repeat' first | exact rfl | assumption | exact Ov.h | apply bN) (X:13=cs.length:=by exact rfl):Sb (En.bF 13 (bE r) w h) K:=c.vw i hi hw ho rfl X λh' c=>V h' (s.e _▸c)
def Cx.sR {E G H J N O Q R T U u A B:Value} (c:Cx F0 h0 h L) (i:Nat) [s:Stt L i f] (V:∀h',Cx F0 h0 h' (f (rV r [E,G,H,J,N,O,Q,R,T,U,u,A,B]))->K h') (hi:L[i]?=some (rV r cs):=by exact rfl) (hw:w.cells.toList=[v]:=by first | exact rfl | exact dK (by assumption)) (ho:cN [v]=true:=by first | exact rfl | repeat' first | exact rfl | assumption | exact Ov.h | apply bN) (X:Nat.ble (o+1) cs.length=true:=by exact rfl) (hs:cs.take o++[v]++cs.drop (o+1)=[E,G,H,J,N,O,Q,R,T,U,u,A,B]:=by exact rfl):Sb (En.bF 1 (.pointer (some ⟨r,o,none⟩)) w h) K:=c.vq i hi hw ho rfl X hs λh' c=>V h' (s.e _▸c)
def Cx.lA {H J N O Q R T U V X u A B E G:Value} {a:Array Value} (c:Cx F0 h0 h L) {e:TypeId} [s:Sn L f] (Z:∀r h',Cx F0 h0 h' (f (rV r [H,J,N,O,Q,R,T,U,V,X,u,A,B,E,G]))->k (bE r) h') (hl:a.toList=[H,J,N,O,Q,R,T,U,V,X,u,A,B,E,G]:=by exact rfl) (ho:cN [H,J,N,O,Q,R,T,U,V,X,u,A,B,E,G]=true:=by first | exact rfl | repeat' first | exact rfl | assumption | exact Ov.h | apply bN):Eb (En.nw a e h) k:=c.nv hl ho λr h' c=>Z r h' (s.e _▸c)
def Cx.SF {H J N O Q R T U V X u A B E G:Value} (c:Cx F0 h0 h L) (i:Nat) [s:Stt L i f] (Z:∀h',Cx F0 h0 h' (f (rV r [H,J,N,O,Q,R,T,U,V,X,u,A,B,E,G]))->K h') (hi:L[i]?=some (rV r cs):=by exact rfl) (hw:w.cells.toList=[H,J,N,O,Q,R,T,U,V,X,u,A,B,E,G]:=by exact rfl) (ho:cN [H,J,N,O,Q,R,T,U,V,X,u,A,B,E,G]=true:=by first | exact rfl | repeat' first | exact rfl | assumption | exact Ov.h | apply bN) (hd:15=cs.length:=by exact rfl):Sb (En.bF 15 (bE r) w h) K:=c.vw i hi hw ho rfl hd λh' c=>Z h' (s.e _▸c)
def Cx.Dp {H J N O Q R T U V X u A B E G:Value} (c:Cx F0 h0 h L) (i:Nat) [s:Stt L i f] (Z:∀h',Cx F0 h0 h' (f (rV r [H,J,N,O,Q,R,T,U,V,X,u,A,B,E,G]))->K h') (hi:L[i]?=some (rV r cs):=by exact rfl) (hw:w.cells.toList=[v]:=by first | exact rfl | exact dK (by assumption)) (ho:cN [v]=true:=by first | exact rfl | repeat' first | exact rfl | assumption | exact Ov.h | apply bN) (hb:Nat.ble (o+1) cs.length=true:=by exact rfl) (hs:cs.take o++[v]++cs.drop (o+1)=[H,J,N,O,Q,R,T,U,V,X,u,A,B,E,G]:=by exact rfl):Sb (En.bF 1 (.pointer (some ⟨r,o,none⟩)) w h) K:=c.vq i hi hw ho rfl hb hs λh' c=>Z h' (s.e _▸c)
def Cx.tJ {J N O Q R T U V X Z u A B E G H:Value} {a:Array Value} (c:Cx F0 h0 h L) {e:TypeId} [s:Sn L f] (hk:∀r h',Cx F0 h0 h' (f (rV r [J,N,O,Q,R,T,U,V,X,Z,u,A,B,E,G,H]))->k (bE r) h') (hl:a.toList=[J,N,O,Q,R,T,U,V,X,Z,u,A,B,E,G,H]:=by exact rfl) (ho:cN [J,N,O,Q,R,T,U,V,X,Z,u,A,B,E,G,H]=true:=by first | exact rfl | repeat' first | exact rfl | assumption | exact Ov.h | apply bN):Eb (En.nw a e h) k:=c.nv hl ho λr h' c=>hk r h' (s.e _▸c)
def Cx.Dk {J N O Q R T U V X Z u A B E G H:Value} (c:Cx F0 h0 h L) (i:Nat) [s:Stt L i f] (hk:∀h',Cx F0 h0 h' (f (rV r [J,N,O,Q,R,T,U,V,X,Z,u,A,B,E,G,H]))->K h') (hi:L[i]?=some (rV r cs):=by exact rfl) (hw:w.cells.toList=[J,N,O,Q,R,T,U,V,X,Z,u,A,B,E,G,H]:=by exact rfl) (ho:cN [J,N,O,Q,R,T,U,V,X,Z,u,A,B,E,G,H]=true:=by first | exact rfl | repeat' first | exact rfl | assumption | exact Ov.h | apply bN) (hd:16=cs.length:=by exact rfl):Sb (En.bF 16 (bE r) w h) K:=c.vw i hi hw ho rfl hd λh' c=>hk h' (s.e _▸c)
def Cx.Bb {J N O Q R T U V X Z u A B E G H:Value} (c:Cx F0 h0 h L) (i:Nat) [s:Stt L i f] (hk:∀h',Cx F0 h0 h' (f (rV r [J,N,O,Q,R,T,U,V,X,Z,u,A,B,E,G,H]))->K h') (hi:L[i]?=some (rV r cs):=by exact rfl) (hw:w.cells.toList=[v]:=by first | exact rfl | exact dK (by assumption)) (ho:cN [v]=true:=by first | exact rfl | repeat' first | exact rfl | assumption | exact Ov.h | apply bN) (hb:Nat.ble (o+1) cs.length=true:=by exact rfl) (hs:cs.take o++[v]++cs.drop (o+1)=[J,N,O,Q,R,T,U,V,X,Z,u,A,B,E,G,H]:=by exact rfl):Sb (En.bF 1 (.pointer (some ⟨r,o,none⟩)) w h) K:=c.vq i hi hw ho rfl hb hs λh' c=>hk h' (s.e _▸c)
def Cx.dJ {T U V X Z x5 x6 x7 x8 x9 u A B E G H J N O Q R:Value} {a:Array Value} (c:Cx F0 h0 h L) {e:TypeId} [s:Sn L f] (hk:∀r h',Cx F0 h0 h' (f (rV r [T,U,V,X,Z,x5,x6,x7,x8,x9,u,A,B,E,G,H,J,N,O,Q,R]))->k (bE r) h') (hl:a.toList=[T,U,V,X,Z,x5,x6,x7,x8,x9,u,A,B,E,G,H,J,N,O,Q,R]:=by exact rfl) (ho:cN [T,U,V,X,Z,x5,x6,x7,x8,x9,u,A,B,E,G,H,J,N,O,Q,R]=true:=by first | exact rfl | repeat' first | exact rfl | assumption | exact Ov.h | apply bN):Eb (En.nw a e h) k:=c.nv hl ho λr h' c=>hk r h' (s.e _▸c)
def Cx.Tj {T U V X Z x5 x6 x7 x8 x9 u A B E G H J N O Q R:Value} (c:Cx F0 h0 h L) (i:Nat) [s:Stt L i f] (hk:∀h',Cx F0 h0 h' (f (rV r [T,U,V,X,Z,x5,x6,x7,x8,x9,u,A,B,E,G,H,J,N,O,Q,R]))->K h') (hi:L[i]?=some (rV r cs):=by exact rfl) (hw:w.cells.toList=[T,U,V,X,Z,x5,x6,x7,x8,x9,u,A,B,E,G,H,J,N,O,Q,R]:=by exact rfl) (ho:cN [T,U,V,X,Z,x5,x6,x7,x8,x9,u,A,B,E,G,H,J,N,O,Q,R]=true:=by first | exact rfl | repeat' first | exact rfl | assumption | exact Ov.h | apply bN) (hd:21=cs.length:=by exact rfl):Sb (En.bF 21 (bE r) w h) K:=c.vw i hi hw ho rfl hd λh' c=>hk h' (s.e _▸c)
def Cx.tH {T U V X Z x5 x6 x7 x8 x9 u A B E G H J N O Q R:Value} (c:Cx F0 h0 h L) (i:Nat) [s:Stt L i f] (hk:∀h',Cx F0 h0 h' (f (rV r [T,U,V,X,Z,x5,x6,x7,x8,x9,u,A,B,E,G,H,J,N,O,Q,R]))->K h') (hi:L[i]?=some (rV r cs):=by exact rfl) (hw:w.cells.toList=[v]:=by first | exact rfl | exact dK (by assumption)) (ho:cN [v]=true:=by first | exact rfl | repeat' first | exact rfl | assumption | exact Ov.h | apply bN) (hb:Nat.ble (o+1) cs.length=true:=by exact rfl) (hs:cs.take o++[v]++cs.drop (o+1)=[T,U,V,X,Z,x5,x6,x7,x8,x9,u,A,B,E,G,H,J,N,O,Q,R]:=by exact rfl):Sb (En.bF 1 (.pointer (some ⟨r,o,none⟩)) w h) K:=c.vq i hi hw ho rfl hb hs λh' c=>hk h' (s.e _▸c)
def Cx.bX {U V X Z x4 x5 x6 x7 x8 x9 u A B E G H J N O Q T y0 y1 y2 y3 y4 y5 y6 y7 a b d:Value} (c:Cx F0 h0 h L) (i j:Nat) [s:Stt L i f] [s':Stt (f (rV r [U,V,X,Z,x4,x5,x6,x7,x8,x9,u,A,B,E,G,H,J,N,O,Q,T])) j f'] {R:Value->Hp->Prop} (hk:∀h',Cx F0 h0 h' (f' (rV q [y0,y1,y2,y3,y4,y5,y6,y7]))->R (.tuple #[.agg ⟨[U,V,X,Z,x4,x5,x6,x7,x8,x9,u,A,B,E,G,H,J,N,O,Q,T]⟩,.agg ⟨[y0,y1,y2,y3,y4,y5,y6,y7]⟩,d]) h') (hi:L[i]?=some (rV r csx):=by exact rfl) (hj:L[j]?=some (rV q csy):=by exact rfl) (aS:Nat.beq i j=false:=by exact rfl) (ha:a.cells.toList=[U,V,X,Z,x4,x5,x6,x7,x8,x9,u,A,B,E,G,H,J,N,O,Q,T]:=by exact rfl) (oa:cN [U,V,X,Z,x4,x5,x6,x7,x8,x9,u,A,B,E,G,H,J,N,O,Q,T]=true:=by first | exact rfl | repeat' first | exact rfl | assumption | exact Ov.h | apply bN) (da:21=csx.length:=by exact rfl) (hb:b.cells.toList=[y0,y1,y2,y3,y4,y5,y6,y7]:=by exact rfl) (ob:cN [y0,y1,y2,y3,y4,y5,y6,y7]=true:=by first | exact rfl | repeat' first | exact rfl | assumption | exact Ov.h | apply bN) (db:8=csy.length:=by exact rfl):T3 21 (bE r) 8 (bE q) (.tuple #[a,b,d]) h R:=c.t3 i j hi hj aS ha oa rfl da hb ob rfl db λh' c=>hk h' (by rw[s.e,s'.e] at c; exact c)
def Cx.jP {H J N O Q T U V X Z u A B E G y0 y1 y2 y3 y4 y5 y6 y7 a b d:Value} (c:Cx F0 h0 h L) (i j:Nat) [s:Stt L i f] [s':Stt (f (rV r [H,J,N,O,Q,T,U,V,X,Z,u,A,B,E,G])) j f'] {R:Value->Hp->Prop} (hk:∀h',Cx F0 h0 h' (f' (rV q [y0,y1,y2,y3,y4,y5,y6,y7]))->R (.tuple #[.agg ⟨[H,J,N,O,Q,T,U,V,X,Z,u,A,B,E,G]⟩,.agg ⟨[y0,y1,y2,y3,y4,y5,y6,y7]⟩,d]) h') (hi:L[i]?=some (rV r csx):=by exact rfl) (hj:L[j]?=some (rV q csy):=by exact rfl) (aS:Nat.beq i j=false:=by exact rfl) (ha:a.cells.toList=[H,J,N,O,Q,T,U,V,X,Z,u,A,B,E,G]:=by exact rfl) (oa:cN [H,J,N,O,Q,T,U,V,X,Z,u,A,B,E,G]=true:=by first | exact rfl | repeat' first | exact rfl | assumption | exact Ov.h | apply bN) (da:15=csx.length:=by exact rfl) (hb:b.cells.toList=[y0,y1,y2,y3,y4,y5,y6,y7]:=by exact rfl) (ob:cN [y0,y1,y2,y3,y4,y5,y6,y7]=true:=by first | exact rfl | repeat' first | exact rfl | assumption | exact Ov.h | apply bN) (db:8=csy.length:=by exact rfl):T3 15 (bE r) 8 (bE q) (.tuple #[a,b,d]) h R:=c.t3 i j hi hj aS ha oa rfl da hb ob rfl db λh' c=>hk h' (by rw[s.e,s'.e] at c; exact c)
def Cx.Sr {u A B E G a b d:Value} (c:Cx F0 h0 h L) (i j:Nat) [s:Stt L i f] [s':Stt (f (rV r [u,A])) j f'] {R:Value->Hp->Prop} (J:∀h',Cx F0 h0 h' (f' (rV q [B,E,G]))->R (.tuple #[.agg ⟨[u,A]⟩,.agg ⟨[B,E,G]⟩,d]) h') (hi:L[i]?=some (rV r csx):=by exact rfl) (N:L[j]?=some (rV q csy):=by exact rfl) (H:Nat.beq i j=false:=by exact rfl) (O:a.cells.toList=[u,A]:=by exact rfl) (Q:cN [u,A]=true:=by first | exact rfl | repeat' first | exact rfl | assumption | exact Ov.h | apply bN) (T:2=csx.length:=by exact rfl) (U:b.cells.toList=[B,E,G]:=by exact rfl) (V:cN [B,E,G]=true:=by first | exact rfl | repeat' first | exact rfl | assumption | exact Ov.h | apply bN) (X:3=csy.length:=by exact rfl):T3 2 (bE r) 3 (bE q) (.tuple #[a,b,d]) h R:=c.t3 i j hi N H O Q rfl T U V rfl X λh' c=>J h' (by rw[s.e,s'.e] at c; exact c)
def Cx.t8 {u A B E G H J N a b d:Value} (c:Cx F0 h0 h L) (j:Nat) [s:Stt L j f] {R:Value->Hp->Prop} (O:∀h',Cx F0 h0 h' (f (rV q [u,A,B,E,G,H,J,N]))->R (.tuple #[a,.agg ⟨[u,A,B,E,G,H,J,N]⟩,d]) h') (Q:L[j]?=some (rV q csy):=by exact rfl) (T:b.cells.toList=[u,A,B,E,G,H,J,N]:=by exact rfl) (U:cN [u,A,B,E,G,H,J,N]=true:=by first | exact rfl | repeat' first | exact rfl | assumption | exact Ov.h | apply bN) (V:8=csy.length:=by exact rfl):T2 8 (bE q) (.tuple #[a,b,d]) h R:=c.t2 j Q T U rfl V λh' c=>O h' (s.e _▸c)
def vx {o:Option Value} {v:Value} {k:Value->Prop} (e:o=some v) (h:k v):Vb o k:=⟨v,e,h⟩
end
end Go.En
namespace Go.En
variable {h h0 h':Hp} {F F0:Fp} {R:Value->Hp->Prop} {L:List aX} {B B':Bs}
def Ce:Nat->Int:=λi=>([8,8,8,1,104,0,32]:List Int).getD i 0
structure Zs (h:Hp):Prop where
 row:Row (EAr .i64 7) h 0 0 Ce
def Zs.gr (H:Zs h) (g:Gr h h'):Zs h':=⟨H.row.ch g λe=>e⟩
def Zs.UZ {q:IntKind} {z:Int} {i:Nat} (u:z=i) (hi:i<7):Dl 7 1 (.pointer (some ⟨0,0,none⟩)) (.int q z)=some (.pointer (some ⟨0,0+i,none⟩)):=P8 u hi 0
def Zs.ld (H:Zs h) {i:Nat} (hi:i<7):eH (.pointer (some ⟨0,0+i,none⟩)) h=some (.int .i64 (Ce i)):=H.row.eH (NN hi)
def Pz (f:Nat) (args:List Value) (v:Value):Prop:=∀h (R:Value->Hp->Prop),Zs h->(∀h',Gr h h'->R v h')->S.C f args h R
def EL:jZ (Int × Int × Int):={n:=3,c:=λx=>[.int .i64 x.1,.int .i64 x.2.1,.int .i64 x.2.2],len:=λ_=>rfl,one:=λa v h=>by simp only[List.mem_cons,List.not_mem_nil,or_false] at h; rcases h with rfl | rfl | rfl <;> rfl}
abbrev lay:Int × Int × Int:=(3,6,4)
def vL:Value:=.agg ⟨EL.c lay⟩
def lJ:Nat->Int:=λi=>([1,3,3,6,3,4,4]:List Int).getD i 0
def Ah:Nat->Int:=λi=>([8,24,24,8,312,8,128]:List Int).getD i 0
def kh:Nat->Int:=λi=>([0,8,32,56,64,376,384,512]:List Int).getD i 0
def Qh {p:Nat} {P:Nat->Prop} (h:p<7) (h0:P 0) (h1:P 1) (h2:P 2) (q:P 3) (u:P 4) (A:P 5) (B:P 6):P p:=by
 match p,h with
 | 0,_=>exact h0
 | 1,_=>exact h1
 | 2,_=>exact h2
 | 3,_=>exact q
 | 4,_=>exact u
 | 5,_=>exact A
 | 6,_=>exact B
 | p+7,h=>omega
def QA {p:Nat} (q:p<7) (u:∀h',Gr h h'->R (.int .i64 (lJ p)) h'):mH.1 vL (.int .i64 p) h R:=by
 refine(Cx.aB h).nw EL lay rfl λr h1 c=>?_;refine(c.va (i:=0) rfl).oW (j:=0) rfl ?_;refine(c.va (i:=0) rfl).oW (j:=0) rfl ?_;refine(c.va (i:=0) rfl).oW (j:=1) rfl ?_;refine(c.va (i:=0) rfl).oW (j:=0) rfl ?_;refine(c.va (i:=0) rfl).oW (j:=2) rfl ?_;refine(c.va (i:=0) rfl).oW (j:=2) rfl ?_;refine En.vb (v:=.agg #[.int .i64 1,.int .i64 3,.int .i64 3,.int .i64 6,.int .i64 3,.int .i64 4,.int .i64 4]) (by kernel_rfl) ?_;refine En.vb (v:=.int .i64 (lJ p)) ?_ (u _ c.gr);refine Qh (P:=λp=>Pu 7 1 (.agg #[.int .i64 1,.int .i64 3,.int .i64 3,.int .i64 6,.int .i64 3,.int .i64 4,.int .i64 4]) (.int .i64 (p:Int))=some (.int .i64 (lJ p))) q ?_ ?_ ?_ ?_ ?_ ?_ ?_ <;> kernel_rfl
def tC:∀{p:Nat},p<7->Pz 80 [vL,.int .i64 p] (.int .i64 (lJ p)):=λq h R Z k=>mH.2 (QA q k)
def QB {p:Nat} (Z:Zs h) (q:p<7) (H:∀h',Gr h h'->R (.int .i64 (Ah p)) h'):mL.1 vL (.int .i64 p) h R:=by
 refine(Cx.aB h).nw EL lay rfl λr h1 c=>?_;rw[show aP 3 (bE r) h1=some vL from(c.va (i:=0) rfl).whole rfl,aQ];rw[Zs.UZ rfl q,aQ,(Z.gr c.gr).ld q,aQ];refine tC q h1 _ (Z.gr c.gr) λh2 g=>?_;have c:=c.more g;refine⟨(Z.gr c.gr).ld q,?_⟩;rw[vG,aQ];have fin:∀(n:Int) u,Gr h u->((n+8 - 1).tdiv 8*8=Ah p)->(0<=n/\n<=1000)->Vb (bin .add (.int .i64 n) (.int .i64 8)) λA=>Vb (bin .sub A (.int .i64 1)) λB=>Vb (bin .quo B (.int .i64 8)) λE=>Vb (bin .mul E (.int .i64 8)) λG=>R G u:=λn u g e K=>by
  have h1:0<=(n+8 - 1) / 8:=by omega
  have h2:(n+8 - 1).tdiv 8=(n+8 - 1) / 8:=Int.tdiv_eq_ediv_of_nonneg (by omega);rw[iQ ⟨by omega,by omega⟩,aQ,fT ⟨by omega,by omega⟩,aQ,zl ⟨by omega,by omega⟩ (by decide),aQ,vG,aQ,zb ⟨by omega,by omega⟩,<-h2,e];exact H u g
 refine .here ?_;refine m3.at (λv h'=>v=.bool (decide (Ce p=0/\lJ p > 0))/\Cx (λ_=>False) h h' [yX EL r lay]) ?_ ?_
 ·rw[aQ,(Z.gr c.gr).ld q,aQ,bW,aQ];refine dW (λe=>?_) λe=>?_
  ·rw[show aP 3 (bE r) h2=some vL from(c.va (i:=0) rfl).whole rfl,aQ];refine tC q h2 _ (Z.gr c.gr) λu g=>?_;rw[eY,aQ];exact⟨by congr 1; exact decide_eq_decide.2 ⟨λh=>⟨e,h⟩,λh=>h.2⟩,c.more g⟩
  ·exact⟨by rw[decide_eq_false λh=>e h.1],c⟩
 rintro v u ⟨rfl,c⟩;refine dW (λe=>?_) λe=>?_
 ·refine fin 8 u c.gr ?_ ⟨by decide,by decide⟩;revert e;refine Qh (P:=λp=>Ce p=0/\lJ p > 0->((8:Int)+8 - 1).tdiv 8*8=Ah p) q ?_ ?_ ?_ ?_ ?_ ?_ ?_ <;> decide
 ·have J:IntKind.i64.wrap (lJ p*Ce p)=lJ p*Ce p:=by
   refine Qh (P:=λp=>IntKind.i64.wrap (lJ p*Ce p)=lJ p*Ce p) q ?_ ?_ ?_ ?_ ?_ ?_ ?_ <;> decide
  rw[J];refine fin _ u c.gr ?_ ?_
  ·revert e;refine Qh (P:=λp=>¬(Ce p=0/\lJ p > 0)->(lJ p*Ce p+8 - 1).tdiv 8*8=Ah p) q ?_ ?_ ?_ ?_ ?_ ?_ ?_ <;> decide
  ·refine Qh (P:=λp=>0<=lJ p*Ce p/\lJ p*Ce p<=1000) q ?_ ?_ ?_ ?_ ?_ ?_ ?_ <;> decide
def FL:∀{p:Nat},p<7->Pz 107 [vL,.int .i64 p] (.int .i64 (Ah p)):=λq h R Z k=>mL.2 (QB Z q k)
def P7 {p:Nat} (Z:Zs h) (G:p<8) (B:∀h',Gr h h'->R (.int .i64 (kh p)) h'):mF.1 vL (.int .i64 p) h R:=by
 refine(Cx.aB h).nw EL lay rfl λr h1 c=>?_;refine wA.by (λ(i:Nat) u v h'=>u=.int .i64 (kh i)/\v=.int .i64 i/\i<=p/\Cx (λ_=>False) h h' [yX EL r lay]) (λi=>p - i) 0 ⟨rfl,rfl,Nat.zero_le _,c⟩ ?_;clear c;rintro i u v h2 ⟨rfl,rfl,hi,c⟩ again q;rw[aV,aQ];refine dW (λe=>?_) λe=>?_
 ·have A:i<7:=by omega
  rw[show aP 3 (bE r) h2=some vL from(c.va (i:=0) rfl).whole rfl,aQ];refine FL A h2 _ (Z.gr c.gr) λH g=>?_;have E:bin .add (.int .i64 (kh i)) (.int .i64 (Ah i))=some (.int .i64 (kh (i+1))):=by
   refine Qh (P:=λi=>bin .add (.int .i64 (kh i)) (.int .i64 (Ah i))=some (.int .i64 (kh (i+1)))) A ?_ ?_ ?_ ?_ ?_ ?_ ?_ <;> kernel_rfl
  rw[E,aQ,yV,aQ,UB (by omega)];exact q (i+1) _ _ _ ⟨rfl,rfl,by omega,c.more g⟩ (by omega)
 ·have:i=p:=by omega
  subst this;exact B _ c.gr
def Jh {n a b:Int} (q:∀h',Gr h h'->R (.bool (decide (a<=n/\n<=b))) h'):lY.1 (.int .i64 n) (.int .i64 a) (.int .i64 b) h R:=by
 dsimp only[lY,qf];refine .here ?_;rw[km,aQ];refine dW (λe=>?_) λe=>?_
 ·rw[sP,aQ,show decide (n<=b)=decide (a<=n/\n<=b) from decide_eq_decide.2 ⟨λh=>⟨e,h⟩,λh=>h.2⟩];exact q _ (.refl _ _)
 ·rw[show false=decide (a<=n/\n<=b) from(decide_eq_false λh=>e h.1).symm];exact q _ (.refl _ _)
def oZ:∀{n a b:Int},Pz 108 [.int .i64 n,.int .i64 a,.int .i64 b] (.bool (decide (a<=n/\n<=b))):=λh R Z k=>lY.2 (Jh k)
def fQ:∀{p:Nat},p<8->Pz 73 [vL,.int .i64 p] (.int .i64 (kh p)):=λq h R Z k=>mF.2 (P7 Z q k)
def OS (Z:Zs h) (u:∀h',Gr h h'->R (.int .i64 0) h'):lH.1 vL h R:=by
 refine(Cx.aB h).nw EL lay rfl λr h1 c=>?_;refine m3.at (λv h'=>v=.bool false/\Cx (λ_=>False) h h' [yX EL r lay]) ?_ ?_
 ·refine(c.va (i:=0) rfl).oW (j:=0) rfl ?_;refine oZ h1 _ (Z.gr c.gr) λh2 g=>?_;have c:=c.more g;refine En.vb (v:=.bool false) rfl ?_;rw[kl];refine(c.va (i:=0) rfl).oW (j:=1) rfl ?_;refine oZ h2 _ (Z.gr c.gr) λq g=>?_;have c:=c.more g;refine En.vb (v:=.bool false) rfl ?_;rw[kl];refine(c.va (i:=0) rfl).oW (j:=2) rfl ?_;refine oZ q _ (Z.gr c.gr) λA g=>?_;refine En.vb (v:=.bool false) rfl ?_;exact⟨rfl,c.more g⟩
 rintro v h2 ⟨rfl,c⟩;rw[kl,show aP 3 (bE r) h2=some vL from(c.va (i:=0) rfl).whole rfl,aQ];refine fQ (p:=7) (by decide) h2 _ (Z.gr c.gr) λq g=>?_;refine En.vb (v:=.bool false) (by kernel_rfl) ?_;rw[kl];exact u _ (c.more g).gr
def cS:Pz 74 [vL] (.int .i64 0):=λh R Z k=>lH.2 (OS Z k)
def M7 (Z:Zs h) (q:∀h',Gr h h'->R (.bool true) h'):lF.1 vL h R:=by
 refine(Cx.aB h).nw EL lay rfl λr h1 c=>?_;rw[show aP 3 (bE r) h1=some vL from(c.va (i:=0) rfl).whole rfl,aQ];refine cS h1 _ (Z.gr c.gr) λh2 g=>?_;rw[Ve,aQ];exact q _ (c.more g).gr
def kL:Pz 49 [vL] (.bool true):=λh R Z k=>lF.2 (M7 Z k)
def Ln (Z:Zs h) (q:∀h',Gr h h'->R (.int .i64 512) h'):iW.1 vL h R:=by
 refine(Cx.aB h).nw EL lay rfl λr h1 c=>?_;rw[show aP 3 (bE r) h1=some vL from(c.va (i:=0) rfl).whole rfl,aQ];refine kL h1 _ (Z.gr c.gr) λh2 g=>?_;have c:=c.more g;refine En.vb (v:=.bool false) rfl ?_;rw[kl,show aP 3 (bE r) h2=some vL from(c.va (i:=0) rfl).whole rfl,aQ];exact fQ (p:=7) (by decide) h2 _ (Z.gr c.gr) λu g=>q _ (c.more g).gr
def Pn (p:Nat) (i more:Int):Int:=if 0<=i/\i<lJ p then kh p+i*Ce p+more else -1
def T8 {p:Nat} {i more:Int} (Z:Zs h) (u:p<7) (hm:0<=more/\more<=1000) (q:∀h',Gr h h'->R (.int .i64 (Pn p i more)) h'):nK.1 vL (.int .i64 p) (.int .i64 i) (.int .i64 more) h R:=by
 have A:lJ p<=8/\0<=Ce p/\Ce p<=104/\0<=kh p/\kh p<=512:=by
  refine Qh (P:=λp=>lJ p<=8/\0<=Ce p/\Ce p<=104/\0<=kh p/\kh p<=512) u ?_ ?_ ?_ ?_ ?_ ?_ ?_ <;> decide
 refine(Cx.aB h).nw EL lay rfl λr h1 c=>?_;refine m3.at (λv h'=>v=.bool (decide (¬(0<=i/\i<lJ p)))/\Cx (λ_=>False) h h' [yX EL r lay]) ?_ ?_
 ·rw[show aP 3 (bE r) h1=some vL from(c.va (i:=0) rfl).whole rfl,aQ];refine kL h1 _ (Z.gr c.gr) λh2 g=>?_;have c:=c.more g;refine En.vb (v:=.bool false) rfl ?_;rw[kl,aV,aQ];refine dW (λe=>?_) λe=>?_
  ·exact⟨by rw[decide_eq_true]; omega,c⟩
  rw[show aP 3 (bE r) h2=some vL from(c.va (i:=0) rfl).whole rfl,aQ];refine tC u h2 _ (Z.gr c.gr) λB g=>?_;rw[km,aQ];exact⟨by congr 1; exact decide_eq_decide.2 (by omega),c.more g⟩
 rintro v h2 ⟨rfl,c⟩;refine dW (λe=>?_) λe=>?_
 ·have:=q _ c.gr;rwa [Pn,if_neg e] at this
 have e:=Decidable.not_not.1 e;have q:=q;unfold Pn at q;rw[if_pos e] at q;have hmul:0<=i*Ce p/\i*Ce p<=832:=⟨Int.mul_nonneg e.1 A.2.1,Int.le_trans (Int.mul_le_mul (by omega:i<=8) A.2.2.1 A.2.1 (by decide)) (by decide)⟩;rw[show aP 3 (bE r) h2=some vL from(c.va (i:=0) rfl).whole rfl,aQ,Zs.UZ rfl u,aQ,(Z.gr c.gr).ld u,aQ,vG,aQ,zb ⟨by omega,by omega⟩];refine fQ (p:=p) (by omega) h2 _ (Z.gr c.gr) λB g=>?_;have c:=c.more g;refine⟨(Z.gr c.gr).ld u,?_⟩;rw[iQ ⟨by omega,by omega⟩,aQ,iQ ⟨by omega,by omega⟩,aQ];exact q _ c.gr
abbrev kB (f:Nat):Value:=.func (.func f) #[] #[]
structure Ac where
 op:Int
 at':Int
 old:W3
 new:W3
def lD (x:Ac):Value:=.agg #[.int .i64 x.op,.int .i64 x.at',.int .i64 x.old.v,.int .u32 x.old.aO,.int .u32 x.old.ref,.int .i64 x.new.v,.int .u32 x.new.aO,.int .u32 x.new.ref]
abbrev jG:Ac:=⟨0,0,W0,W0⟩
structure cP where
 w:W3
 ok:Bool
def eI (x:cP):Value:=.agg #[.int .i64 x.w.v,.int .u32 x.w.aO,.int .u32 x.w.ref,.bool x.ok]
abbrev kq:cP:=⟨W0,false⟩
def nJ (i:Int):Int:=if 0<=i/\i<6 then 56+i else -1
def eN (t:Int):Int:=if 1<=t/\t<=3 then 104*t - 40 else -1
def cK (i:Int):Int:=if 0<=i/\i<4 then 384+32*i else -1
def aC (who:Int):Int:=if 9<=who then cK (who - 9) else eN who
def cG (who:Int):Int:=if aC who<0 then 0 else if 9<=who then 10 else 32
def gX (a:Int):Bool:=decide (56<=a/\a<62\/32<=a/\a<56/\a % 8<3)
def U2 {p:Nat} {P:Nat->Prop} (h:p<4) (h0:P 0) (h1:P 1) (h2:P 2) (q:P 3):P p:=by
 match p,h with
 | 0,_=>exact h0
 | 1,_=>exact h1
 | 2,_=>exact h2
 | 3,_=>exact q
 | p+4,h=>omega
def N8 (i:Int):Pn 3 i 0=nJ i:=by
 show(if 0<=i/\i<6 then(56:Int)+i*1+0 else -1)=_;unfold nJ;rw[Int.mul_one,Int.add_zero]
def NC (t:Int):Pn 4 (t - 1) 0=eN t:=by
 show(if 0<=t - 1/\t - 1<3 then(64:Int)+(t - 1)*104+0 else -1)=_;unfold eN;by_cases h:1<=t/\t<=3
 ·rw[if_pos (by omega),if_pos h]; omega
 ·rw[if_neg (by omega),if_neg h]
def LI (i:Int):Pn 6 i 0=cK i:=by
 show(if 0<=i/\i<4 then(384:Int)+i*32+0 else -1)=_;unfold cK;by_cases h:0<=i/\i<4
 ·rw[if_pos h,if_pos h]; omega
 ·rw[if_neg h,if_neg h]
section
variable {t i:Int}
def rS:∀{p:Nat} {i more:Int},p<7->0<=more/\more<=1000->Pz 48 [vL,.int .i64 p,.int .i64 i,.int .i64 more] (.int .i64 (Pn p i more)):=λq hm h R Z k=>nK.2 (T8 Z q hm k)
def RM (Z:Zs h) (q:∀h',Gr h h'->R (.int .i64 1) h'):m6.1 vL h R:=by
 have c:=Cx.aB h;refine c.v3 λ_ _ c=>?_;refine c.rl 0 ?_;refine rS (p:=0) (i:=0) (more:=1) (by decide) (by decide) _ _ (Z.gr c.gr) λ_ g=>?_;have c:=c.more g;exact q _ c.gr
def Q2 (Z:Zs h) (q:∀h',Gr h h'->R (.int .i64 (nJ i)) h'):mz.1 vL (.int .i64 i) h R:=by
 rw[<-N8] at q;have c:=Cx.aB h;refine c.v3 λ_ _ c=>?_;refine c.rl 0 ?_;refine rS (p:=3) (i:=i) (more:=0) (by decide) (by decide) _ _ (Z.gr c.gr) λ_ g=>?_;have c:=c.more g;exact q _ c.gr
def QI (Z:Zs h) (u : -1000<=t/\t<=1000) (q:∀h',Gr h h'->R (.int .i64 (eN t)) h'):mg.1 vL (.int .i64 t) h R:=by
 rw[<-NC] at q;have c:=Cx.aB h;refine c.v3 λ_ _ c=>?_;refine c.rl 0 ?_;refine vx (fT ⟨by omega,by omega⟩)<|rS (p:=4) (i:=t - 1) (more:=0) (by decide) (by decide) _ _ (Z.gr c.gr) λ_ g=>?_;have c:=c.more g;exact q _ c.gr
def NS (Z:Zs h) (q:∀h',Gr h h'->R (.int .i64 (cK i)) h'):lG.1 vL (.int .i64 i) h R:=by
 rw[<-LI] at q;have c:=Cx.aB h;refine c.v3 λ_ _ c=>?_;refine c.rl 0 ?_;refine rS (p:=6) (i:=i) (more:=0) (by decide) (by decide) _ _ (Z.gr c.gr) λ_ g=>?_;have c:=c.more g;exact q _ c.gr
def Q5 {i:Nat} (Z:Zs h) (hi:i<4) (q:∀h',Gr h h'->R (.tuple #[.int .i64 376,.int .i64 (2 ^ i)]) h'):mB.1 vL (.int .i64 i) h R:=by
 have u:Pn 5 i 0=376:=by
  show(if 0<=(i:Int)/\(i:Int)<4 then(376:Int)+i*0+0 else -1)=_;rw[if_pos (by omega)]; omega
 have eq:((i:Int).tdiv 32)=0:=by match i,hi with | 0,_ | 1,_ | 2,_ | 3,_=>rfl
 have A:bin .rem (.int .i64 i) (.int .i64 32)=some (.int .i64 i):=by match i,hi with | 0,_ | 1,_ | 2,_ | 3,_=>rfl
 have es:bin .shl (.int .i64 1) (.int .i64 i)=some (.int .i64 (2 ^ i)):=by
  refine U2 (P:=λi=>bin .shl (.int .i64 1) (.int .i64 (i:Int))=some (.int .i64 (2 ^ i))) hi ?_ ?_ ?_ ?_ <;> kernel_rfl
 have c:=Cx.aB h;refine c.v3 λ_ _ c=>?_;refine c.rl 0 ?_;refine vx (v:=.int .i64 0) (by match i,hi with | 0,_ | 1,_ | 2,_ | 3,_=>rfl)<|rS (p:=5) (i:=i) (more:=0) (by decide) (by decide) _ _ (Z.gr c.gr) λ_ g=>?_;have c:=c.more g;rw[u];exact vx (v:=.bool false) rfl<|aN<|vx A<|vx es<|q _ c.gr
def jJ:∀{t:Int},-1000<=t/\t<=1000->Pz 52 [vL,.int .i64 t] (.int .i64 (eN t)):=λq h R Z k=>mg.2 (QI Z q k)
def l8:∀{i:Int},Pz 53 [vL,.int .i64 i] (.int .i64 (cK i)):=λh R Z k=>lG.2 (NS Z k)
def H9 {who:Int} (Z:Zs h) (hw : -1000<=who/\who<=1000) (u:∀h',Gr h h'->R (.tuple #[.int .i64 (aC who),.int .i64 (cG who)]) h'):iI.1 vL (.int .i64 who) h R:=by
 have G:aC who = -1\/0<=aC who:=by unfold aC cK eN; split <;> split <;> omega
 by_cases A:9<=who
 ·have B:cK (who - 9)=aC who:=by unfold aC; rw[if_pos A]
  by_cases q:aC who<0
  ·have em:cG who=0:=by unfold cG; rw[if_pos q]
   have E:aC who = -1:=by omega
   rw[em,E] at u;have c:=Cx.aB h;refine c.v3 λ_ _ c=>?_;refine c.rl 0 ?_;refine jJ hw _ _ (Z.gr c.gr) λ_ g=>?_;have c:=c.more g;refine .here<|vx (ny A)<|bU<|c.rl 0 ?_;refine vx (fT ⟨by omega,by omega⟩)<|l8 _ _ (Z.gr c.gr) λ_ g=>?_;have c:=c.more g;rw[B];exact vx (qA q)<|bU<|u _ c.gr
  ·have em:cG who=10:=by unfold cG; rw[if_neg q,if_pos A]
   rw[em] at u;have c:=Cx.aB h;refine c.v3 λ_ _ c=>?_;refine c.rl 0 ?_;refine jJ hw _ _ (Z.gr c.gr) λ_ g=>?_;have c:=c.more g;refine .here<|vx (ny A)<|bU<|c.rl 0 ?_;refine vx (fT ⟨by omega,by omega⟩)<|l8 _ _ (Z.gr c.gr) λ_ g=>?_;have c:=c.more g;rw[B];exact vx (dA q)<|aN<|u _ c.gr
 ·have B:eN who=aC who:=by unfold aC; rw[if_neg A]
  by_cases q:aC who<0
  ·have em:cG who=0:=by unfold cG; rw[if_pos q]
   have E:aC who = -1:=by omega
   rw[em,E] at u;have c:=Cx.aB h;refine c.v3 λ_ _ c=>?_;refine c.rl 0 ?_;refine jJ hw _ _ (Z.gr c.gr) λ_ g=>?_;have c:=c.more g;rw[B];exact .here<|vx (iO A)<|aN<|vx (qA q)<|bU<|u _ c.gr
  ·have em:cG who=32:=by unfold cG; rw[if_neg q,if_neg A]
   rw[em] at u;have c:=Cx.aB h;refine c.v3 λ_ _ c=>?_;refine c.rl 0 ?_;refine jJ hw _ _ (Z.gr c.gr) λ_ g=>?_;have c:=c.more g;rw[B];exact .here<|vx (iO A)<|aN<|vx (dA q)<|aN<|u _ c.gr
def RU {a:Int} (Z:Zs h) (E : -1000000<=a/\a<=1000000) (u:∀h',Gr h h'->R (.bool (gX a)) h'):mY.1 vL (.int .i64 a) h R:=by
 by_cases B:56<=a/\a<62
 ·have em:gX a=true:=decide_eq_true (.inl B);rw[em] at u;have c:=Cx.aB h;refine c.v3 λ_ _ c=>?_;refine c.rl 0 ?_;refine kL _ _ (Z.gr c.gr) λ_ g=>?_;have c:=c.more g;refine vx (v:=.bool false) (rfl)<|aN<|c.rl 0 ?_;refine fQ (p:=3) (by decide) _ _ (Z.gr c.gr) λ_ g=>?_;have c:=c.more g;rw[show kh 3=56 from rfl];refine vx (fT ⟨by omega,by omega⟩) ?_;refine .here<|vx (ny ((by omega)))<|bU<|aE<|c.rc 0 ?_;exact vx (qA (show a - 56<6 by omega))<|bU<|u _ c.gr
 ·by_cases A:32<=a/\a<56
  ·have em:gX a=decide (a % 8<3):=decide_eq_decide.2 ⟨λh=>h.elim (λx=>absurd x B) λx=>x.2.2,λh=>.inr ⟨A.1,A.2,h⟩⟩;rw[em] at u;have c:=Cx.aB h;refine c.v3 λ_ _ c=>?_;refine c.rl 0 ?_;refine kL _ _ (Z.gr c.gr) λ_ g=>?_;have c:=c.more g;refine vx (v:=.bool false) (rfl)<|aN<|c.rl 0 ?_;refine fQ (p:=3) (by decide) _ _ (Z.gr c.gr) λ_ g=>?_;have c:=c.more g;rw[show kh 3=56 from rfl];refine vx (fT ⟨by omega,by omega⟩) ?_;refine .here<|vx (iO ((by omega)))<|aN<|aN ?_;refine .here<|c.rl 0 ?_;refine fQ (p:=2) (by decide) _ _ (Z.gr c.gr) λ_ g=>?_;have c:=c.more g;rw[show kh 2=32 from rfl];refine vx (ny A.1)<|bU<|c.rl 0 ?_;refine fQ (p:=3) (by decide) _ _ (Z.gr c.gr) λ_ g=>?_;have c:=c.more g;rw[show kh 3=56 from rfl];exact vx (qA A.2)<|bU<|vx (AQ (by omega) (by decide))<|vx (aV ..)<|u _ c.gr
  ·have em:gX a=false:=decide_eq_false λh=>h.elim B λx=>A ⟨x.1,x.2.1⟩;rw[em] at u;have c:=Cx.aB h;refine c.v3 λ_ _ c=>?_;refine c.rl 0 ?_;refine kL _ _ (Z.gr c.gr) λ_ g=>?_;have c:=c.more g;refine vx (v:=.bool false) (rfl)<|aN<|c.rl 0 ?_;refine fQ (p:=3) (by decide) _ _ (Z.gr c.gr) λ_ g=>?_;have c:=c.more g;rw[show kh 3=56 from rfl];refine vx (fT ⟨by omega,by omega⟩) ?_;refine .here<|vx km<|dW (λq=>?_) λq=>?_
   ·refine aE<|c.rc 0 ?_;refine vx (dA (show ¬a - 56<6 by omega))<|aN ?_;refine .here<|c.rl 0 ?_;refine fQ (p:=2) (by decide) _ _ (Z.gr c.gr) λ_ g=>?_;have c:=c.more g;rw[show kh 2=32 from rfl];refine vx km<|dW (λq2=>?_) λq2=>?_
    ·refine c.rl 0 ?_;refine fQ (p:=3) (by decide) _ _ (Z.gr c.gr) λ_ g=>?_;have c:=c.more g;rw[show kh 3=56 from rfl];exact vx (dA ((by omega)))<|aN<|u _ c.gr
    ·exact u _ c.gr
   ·refine aN ?_;refine .here<|c.rl 0 ?_;refine fQ (p:=2) (by decide) _ _ (Z.gr c.gr) λ_ g=>?_;have c:=c.more g;rw[show kh 2=32 from rfl];refine vx km<|dW (λq2=>?_) λq2=>?_
    ·refine c.rl 0 ?_;refine fQ (p:=3) (by decide) _ _ (Z.gr c.gr) λ_ g=>?_;have c:=c.more g;rw[show kh 3=56 from rfl];exact vx (dA ((by omega)))<|aN<|u _ c.gr
    ·exact u _ c.gr
end
def mI (x:Int):Value:=.int .i64 x
def EM:jZ (Option Nat):={n:=1,c:=λa=>[.map a],len:=λ_=>rfl,one:=λa v h=>by simp only[List.mem_singleton] at h; subst h; rfl}
def vV (a:Option Nat):Value:=.agg #[.map a]
def Mo (h:Hp) (a:Option Nat) (ps:List (Int × Int)):Prop:=(a=none/\ps=[])\/Mp .i64 mI h (.map a) ps
def Mo.gr {a:Option Nat} {ps:List (Int × Int)} (H:Mo h a ps) (g:Gr h h'):Mo h' a ps:=H.imp id λm=>m.gr g
def at' (ps:List (Int × Int)) (l:Int):Int:=(bH ps l).getD 0
def Gh (ps:List (Int × Int)) (k x l:Int):at' (lC ps k x) l=if l=k then x else at' ps l:=by
 unfold at';rw[pZ];split <;> rfl
def Ge (ps:List (Int × Int)) (f:Int->Int):Prop:=∀l,0<=at' ps l/\f l<=at' ps l
def VO (B:Bs) (a:Option Nat) (f:Int->Int):Prop:=∃ps,(On B λh=>Mo h a ps)/\Ge ps f
def VO.le {a:Option Nat} {f:Int->Int} (H:VO B a f) (l:B.le B'):VO B' a f:=let⟨ps,m,g⟩:=H; ⟨ps,m.le l,g⟩
def Mo.look {a:Option Nat} {ps:List (Int × Int)} (H:Mo h a ps) (k:Int):JM (.int .i64) (.int .i64 0) false (.map a) (.int .i64 k) h=some (.int .i64 (at' ps k)):=by
 rcases H with ⟨rfl,rfl⟩| m
 ·rfl
 ·rw[m.look];unfold at';cases bH ps k with
  | none=>rfl
  | some x=>rfl
def fL (f:Int->Int) (l n:Int):Int->Int:=λk=>if k=l then max n (f k) else f k
def y9 (f g:Int->Int):Int->Int:=λk=>max (f k) (g k)
section
variable {a b:Option Nat} {ps qs:List (Int × Int)} {l n:Int} {f g:Int->Int}
def DP (m:Mp .i64 mI h (.map a) ps) (u:∀k h',Cx (λ_=>False) h h' [AR .i64 mI (.map (some k)) ps]->R (.map (some k)) h'):S.C 156 [(.map a)] h R:=by
 refine dS.2 ?_;obtain⟨r,es,clock,e,A,he⟩:=m;injection e with e;subst e;refine En.vb (v:=.bool false) rfl ?_;rw[kl,aQ];refine En.eb (v:=.iface 176 (.map (some h.size))) (h':=h.push (.map es clock)) (by simp only[K9,A]) ?_;refine En.vb (v:=.map (some h.size)) (by simp[Az]) ?_;refine u _ _ ((Cx.aB h).add (F':=λq=>q=h.size) ⟨⟨h.size,es,clock,rfl,by simp,he⟩,λq=>by simp[uV,eq_comm]⟩ (Ch.push _ _) λr e=>by omega)
def I5 (q:R (.map none) h):S.C 156 [(.map none)] h R:=by
 refine dS.2 ?_;refine En.vb (v:=.bool true) rfl ?_;rw[C8];exact q
def jR (u:B.p h) (H:VO B a f) (A:∀h' n,0<=n->f l<=n->Gr h h'->R (.int .i64 n) h'):S.C 152 [(vV a),(.int .i64 l)] h R:=by
 refine z7.2 ?_;obtain⟨ps,E,q⟩:=H;have H:=E h u;have c:=Cx.aB h;refine c.v1 λ_ _ c=>?_;refine aE<|c.rc 0 ?_;exact vx ((H.gr c.gr).look l)<|A _ _ (q l).1 (q l).2 c.gr
def nP (G:B.p h) (H:VO B a f) (h0:0<=l/\l<4096) (J:0<=n) (u:∀b,Rt B h (λB=>VO B b (fL f l n)) λh'=>R (vV b) h'):S.C 146 [(vV a),(.int .i64 l),(.int .i64 n)] h R:=by
 refine xm.2 ?_;obtain⟨ps,Ho,A⟩:=H;have E:=Ho h G;by_cases hle:n<=at' ps l
 ·have c:=Cx.aB h;refine c.v1 λ_ _ c=>?_;refine c.v1 λ_ _ c=>?_;refine .here<|vx (dA (by omega))<|aN<|vx (iO (by omega))<|aN<|aE<|c.rc 0 ?_;refine vx ((E.gr c.gr).look l)<|vx (Be hle)<|bU<|c.rl 0 ?_;refine c.w1 1 λ_ c=>?_;refine c.rl 1 ?_;refine(u a).nil ?_ c.gr;refine⟨ps,Ho.le (Bs.aJ _ _),λx=>?_⟩;have q:=A x;unfold fL;split
  ·rename_i e;subst e;omega
  ·exact q
 ·have fin:∀k h',Cx (λ_=>False) h h' [AR .i64 mI (.map (some k)) (lC ps l n)]->R (vV (some k)) h':=λk h' c=>by
   refine u (some k) [AR .i64 mI (.map (some k)) (lC ps l n)] _ (Cx.pack (L:=[]) c) ⟨_,(On.mp (i:=0) rfl).imp λ_ m=>.inr m,λx=>?_⟩;rw[Gh];have q:=A x;unfold fL;split
   ·rename_i e;subst e;omega
   ·exact q
  rcases E with ⟨rfl,rfl⟩| m
  ·have c:=Cx.aB h;refine c.v1 λ_ _ c=>?_;refine c.v1 λ_ _ c=>?_;refine .here<|vx (dA (by omega))<|aN<|vx (iO (by omega))<|aN<|aE<|c.rc 0 ?_;refine vx (v:=.int .i64 0) rfl<|vx (KK hle)<|aN<|aE<|c.rc 0 ?_;refine I5 ?_;refine .here<|vx (v:=.bool true) (rfl)<|bU<|c.Gb .i64 mI λk _ c=>?_;replace c:=c.n3;refine c.wB 2 rfl l n rfl λ_ c=>?_;replace c:=c.n3;refine vx (aG (ds:=[_]) rfl)<|c.w1 1 λ_ c=>?_;refine c.rl 1 ?_;exact fin k _ (c.pick [2])
  ·have c:=Cx.aB h;refine c.v1 λ_ _ c=>?_;refine c.v1 λ_ _ c=>?_;refine .here<|vx (dA (by omega))<|aN<|vx (iO (by omega))<|aN<|aE<|c.rc 0 ?_;refine vx (Mo.look (.inr (m.gr c.gr)) l)<|vx (KK hle)<|aN<|aE<|c.rc 0 ?_;refine DP (m.gr c.gr) λk _ d=>?_;have c:=c.aF d;replace c:=c.n3;refine .here<|vx (v:=.bool false) (rfl)<|aN<|c.wB 2 rfl l n rfl λ_ c=>?_;replace c:=c.n3;refine vx (aG (ds:=[_]) rfl)<|c.w1 1 λ_ c=>?_;refine c.rl 1 ?_;exact fin k _ (c.pick [2])
def Mp.ln {v:Value} (m:Mp .i64 mI h v ps):Mr v h=some (.int .i64 ps.length):=by
 obtain⟨r,es,clock,rfl,q,he⟩:=m;have:=congrArg List.length he.Nr;simp only[List.length_map,Array.length_toList] at this;simp only[Mr,q];rw[this]
def at_mem {l:Int}:at' ps l=0\/∃(i:Nat) (p:Int × Int),i<ps.length/\ps[i]?=some p/\p.1=l/\p.2=at' ps l:=by
 unfold at';cases e:bH ps l with
 | none=>exact .inl rfl
 | some x=>
  unfold bH at e;cases q:ps.find? λp=>p.1 == l with
  | none=>rw[q] at e; cases e
  | some p=>
   rw[q] at e;simp only[Option.map_some,Option.some.injEq] at e;obtain⟨i,hi,rfl⟩:=List.mem_iff_getElem.1 (List.mem_of_find?_eq_some q);have h1:=List.find?_some q;exact .inr ⟨i,_,hi,List.getElem?_eq_getElem hi,by simpa using h1,by simpa using e⟩
def Qm (b0:B.p h) (H:VO B a f) (H2:VO B b g) (hR:∀d,Rt B h (λB=>VO B d (y9 f g)) λh'=>R (vV d) h'):S.C 158 [(vV a),(vV b)] h R:=by
 refine EC.2 ?_;obtain⟨qs,Ho,hq⟩:=H;obtain⟨ps,eQ,hp⟩:=H2;have Hm:=Ho h b0;have Q:=eQ h b0;have same:ps.length=0->∀h',Gr h h'->R (vV a) h':=λe h' g=>(hR a).nil ⟨qs,Ho.le (Bs.aJ _ _),λx=>by
  have h1:=hq x;have h2:=hp x;rw[List.length_eq_zero_iff] at e;subst e;have:at' [] x=0:=rfl;unfold y9;omega⟩ g
 by_cases hz:ps.length=0
 ·have e:Mr (.map b) h=some (.int .i64 ps.length):=by
   rcases Q with ⟨rfl,rfl⟩| m
   ·rfl
   ·exact m.ln
  have e:∀h',Gr h h'->Mr (.map b) h'=some (.int .i64 ps.length):=λh' gr=>by
   rcases Q with ⟨rfl,rfl⟩| m
   ·rfl
   ·exact(m.gr gr).ln
  have c:=Cx.aB h;refine c.v1 λ_ _ c=>?_;refine c.v1 λ_ _ c=>?_;refine c.v1 λ_ _ c=>?_;refine aE<|c.rc 1 ?_;refine vx (e _ c.gr)<|vx (jO (by omega))<|bU<|c.rl 0 ?_;refine c.w1 2 λ_ c=>?_;refine c.rl 2 ?_;exact same hz _ c.gr
 rcases Q with ⟨rfl,rfl⟩| m
 ·exact absurd rfl hz
 have c:=Cx.aB h;refine c.v1 λT _ c=>?_;refine c.v1 λU _ c=>?_;refine c.v1 λu _ c=>?_;refine aE<|c.rc 1 ?_;refine vx (m.gr c.gr).ln<|vx (fG (by omega))<|aN<|aE<|c.rc 1 ?_;refine DP (m.gr c.gr) λk h4 d=>?_;have c:=c.aF d;replace c:=c.n4;refine aE<|c.rc 0 ?_;have fin:∀A h8,Cx (λ_=>False) h h8 [rV T [.map a],rV U [.map b],rV u [.map none],AR .i64 mI (.map (some k)) A]->(∀l,at' qs l<=at' A l/\at' ps l<=at' A l)->Vb (fV [(0,1)] #[Value.map none] [(0,.map (some k))]) λiF=>Sb (bF 1 (bE u) iF h8) λX=>Vb (aP 1 (bE u) X) λr0=>R r0 X:=λA h8 c hz=>by
  refine vx (aG (ds:=[_]) rfl)<|c.vw 2 rfl (vs:=[_]) (by exact rfl) (by exact rfl) (by exact rfl) (by exact rfl) λ_ c=>?_;refine vx (c.vl (i:=2) rfl rfl)<|hR (some k) [AR .i64 mI (.map (some k)) A] _ (Cx.pack (L:=[]) (c.pick [3])) ⟨A,(On.mp (i:=0) rfl).imp λ_ m=>.inr m,λx=>?_⟩;have h1:=hq x;have h2:=hp x;have h3:=hz x;unfold y9;omega
 rcases Hm with ⟨rfl,rfl⟩| m2
 ·refine En.eb (v:=bE _) (h':=_) (by exact rfl) ?_;have c:=c.more (Ch.push _ (.mapIter none 0 #[] 0));refine Fm.by (λ(_:Unit) h'=>h'=_) (λ_=>0) () rfl ?_;rintro _ h5 rfl again _;refine⟨_,rfl,.inl ⟨0,#[],0,by simp,?_⟩⟩;exact vx (v:=.bool false) rfl<|aN<|fin _ _ c λl=>⟨(hp l).1,Int.le_refl _⟩
 ·obtain⟨mb,es,clock,e,hh,he⟩:=m2;injection e with e;subst e;have J:∀{h5:Hp} {L:List aX},Cx (λ_=>False) h h5 L->h5[mb]?=some (.map es clock):=λc=>by
   rw[c.gr.same mb (Array.getElem?_eq_some_iff.mp hh).1 λe=>e]; exact hh
  refine En.eb (v:=bE _) (h':=_) (by simp only[MJ,rm,J c]; rfl) ?_;have tO:=c.gr.size;have c:=c.yB (.mapIter (some mb) clock #[] clock);obtain⟨r,hr⟩:∃r,r=h4.size:=⟨_,rfl⟩;have Z:r≠mb:=λe=>by
   have h9:=(Array.getElem?_eq_some_iff.mp hh).1;omega
  rw[<-hr] at c⊢;obtain⟨E,hO⟩:∃E:List Nat->Obj,E=λD=>.mapIter (some mb) clock (D.map λi=>((es.toList[i]?).map (·.born)).getD 0).toArray clock:=⟨_,rfl⟩;refine Fm.by (λ(z:List Nat × List (Int × Int)) h'=>Cx (λ_=>False) h h' [rV T [.map (some mb)],rV U [.map b],rV u [.map none],AR .i64 mI (.map (some k)) z.2,nt r (E z.1)]/\z.1.Nodup/\(∀i∈z.1,i<qs.length)/\(∀l,at' ps l<=at' z.2 l)/\∀i∈z.1,∀p,qs[i]?=some p->p.2<=at' z.2 p.1) (λz=>qs.length - z.1.length) ([],ps) ⟨by rw[hO]; exact c,List.nodup_nil,(λi hi=>by cases hi),(λl=>Int.le_refl _),λi hi=>by cases hi⟩ ?_;clear c hr;rintro⟨D,A⟩ h6 ⟨c,iN,iS,V,aS⟩ again K;dsimp only at *;have O:=c.obj (i:=4) rfl;rw[hO] at O;have it:It .i64 mI h6 r mb qs D:=⟨⟨es,clock,J c,he,O⟩,iN,iS,Z⟩;refine it.next (λaT=>?_) λj p h7 oF uS M ch bY=>?_
  ·refine vx (v:=.bool false) rfl<|aN<|fin _ _ (c.pick [0,1,2,3]) λl=>⟨?_,V l⟩;rcases at_mem (ps:=qs) (l:=l) with e | ⟨i,p,hi,oR,rfl,e⟩
   ·have h1:=V l;have h2:=(hp l).1;omega
   ·have:=aS i (aT i hi) p oR;omega
  ·obtain⟨es2,dO,e1,e2,e3⟩:=M.ex;have c:Cx (λ_=>False) h h7 [rV T [.map (some mb)],rV U [.map b],rV u [.map none],AR .i64 mI (.map (some k)) A,nt r (E (D++[j]))]:=by
    obtain⟨F,⟨o,hf⟩,up⟩:=c.IA (i:=4) rfl;have N:h7[mb]?=some (.map es clock):=by
     rw[ch.same mb (Array.getElem?_eq_some_iff.mp (J c)).1 λe=>Z e.symm]; exact J c
    rw[e1] at N;injection N with N;injection N with q1 q2;subst q1; subst q2;exact up (B:=nt r (E (D++[j]))) (F':=F) ⟨by rw[hO]; exact e3,hf⟩ (lm (ch.mono λq _ e=>(hf q).2 e))
   refine vx (v:=.bool true) rfl<|bU<|vx bY<|En.vb (v:=.int .i64 p.1) rfl (En.vb (v:=mI p.2) rfl ?_);refine vx (Mo.look (.inr (c.mp (i:=3) rfl)) p.1) ?_;obtain⟨y,ey,hy1,rW⟩:∃y:Int,mx (.int .i64 (at' A p.1)) (mI p.2)=some (.int .i64 y)/\at' A p.1<=y/\p.2<=y:=by
    refine⟨_,rfl,?_,?_⟩ <;> split <;> omega
   refine vx ey<|c.wB 3 rfl p.1 y rfl λh8 c=>?_;have hDl:(D++[j]).length<=qs.length:=M.len;refine K (D++[j],lC A p.1 y) _ ⟨c,M.nodup,M.lt,(λl=>?_),λi hi p' G=>?_⟩ (by dsimp only; rw[List.length_append,List.length_singleton] at *; omega)
   ·have h1:=V l;rw[Gh];split
    ·rename_i e; subst e; omega
    ·exact h1
   ·rw[Gh];rcases List.mem_append.1 hi with hi | hi
    ·have h1:=aS i hi p' G;split
     ·rename_i e; rw[e] at h1; omega
     ·exact h1
    ·rw[List.mem_singleton] at hi;subst hi;rw[oF] at G;injection G with G;subst G;rw[if_pos rfl]; exact rW
end
abbrev SH:Type:=Option Addr × Nat × Nat
abbrev aK (u:SH):Value:=.slice u.1 u.2.1 u.2.2
def Ow.ol {α:Type} {E:jZ α} {v:Value} {xs:List α} (H:Ow E h v xs):∃u:SH,v=aK u:=by
 rcases H with ⟨rfl,_⟩| ⟨r,o,cap,rfl,_⟩
 ·exact⟨(none,0,0),rfl⟩
 ·exact⟨(some ⟨r,o,none⟩,xs.length,cap),rfl⟩
structure ET where
 w:W3
 t:Int
 a:Option Nat
def wo:jZ ET:={n:=5,c:=λm=>[.int .i64 m.w.v,.int .u32 m.w.aO,.int .u32 m.w.ref,.int .i64 m.t,.map m.a],len:=λ_=>rfl,one:=λa v h=>by simp only[List.mem_cons,List.not_mem_nil,or_false] at h; rcases h with rfl | rfl | rfl | rfl | rfl <;> rfl}
def QN (m:ET):Value:=.agg ⟨wo.c m⟩
abbrev M0:ET:=⟨W0,0,none⟩
def EH1:jZ SH:={n:=1,c:=λa=>[aK a],len:=λ_=>rfl,one:=λa v h=>by simp only[List.mem_singleton] at h; subst h; rfl}
def vH (u:SH):Value:=.agg ⟨EH1.c u⟩
section
variable {u:SH} {ms:List ET} {m l:ET} {w:W3}
def Uo (u:SH):fV [(0,1)] #[Value.slice none 0 0] [(0,aK u)]=some (vH u):=by kernel_rfl
def ru (H:Sl wo h (aK u) ms) (q:∀h',Gr h h'->R (.int .i64 ms.length) h'):S.C 147 [(vH u)] h R:=by
 refine qT.2 ?_;refine(Cx.aB h).nw EH1 u rfl λA h1 c=>?_;refine(c.va (i:=0) rfl).oW (j:=0) rfl ?_;rw[(H.gr c.gr).ln,aQ];exact q _ c.gr
def KJ {i:Nat} (H:Sl wo h (aK u) ms) (hm:ms[i]?=some m) (q:∀h',Gr h h'->R (.tuple #[QN m,.bool true]) h'):S.C 113 [(vH u),(.int .i64 i)] h R:=by
 refine rJ.2 ?_;have A:=(List.getElem?_eq_some_iff.1 hm).1;refine(Cx.aB h).nw EH1 u rfl λG h1 c=>?_;refine c.nw wo M0 rfl λB h2 c=>?_;refine m3.at (λv h'=>v=.bool false/\h'=h2) ?_ ?_
 ·rw[aV,aQ];refine dW (λe=>by omega) λ_=>?_;refine(c.va (i:=0) rfl).oW (j:=0) rfl ?_;rw[(H.gr c.gr).ln,aQ,km,aQ];exact⟨by rw[decide_eq_false]; omega,rfl⟩
 rintro v J ⟨rfl,rfl⟩;rw[kl];refine(c.va (i:=0) rfl).oW (j:=0) rfl ?_;refine(H.gr c.gr).whole rfl hm rfl ?_;refine c.bF 1 rfl m rfl rfl λE c=>?_;rw[show aP 5 (bE B) E=some (QN m) from(c.va (i:=1) rfl).whole rfl,aQ];exact q _ c.gr
def Np (H:Sl wo h (aK u) (ms++[l])) (K:ms.length<=1000000) (q:∀h',Gr h h'->R (QN l) h'):S.C 79 [(vH u)] h R:=by
 refine qj.2 ?_;refine(Cx.aB h).nw EH1 u rfl λA h1 c=>?_;refine c.nw wo M0 rfl λB h2 c=>?_;rw[show aP 1 (bE A) h2=some (vH u) from(c.va (i:=0) rfl).whole rfl,aQ];refine(c.va (i:=0) rfl).oW (j:=0) rfl ?_;rw[(H.gr c.gr).ln,aQ,List.length_append,List.length_singleton,fT ⟨by omega,by omega⟩,aQ];rw[show((ms.length+1:Nat):Int) - 1=(ms.length:Nat) by omega];refine KJ (H.gr c.gr) (i:=ms.length) (m:=l) (by simp) λM g=>?_;have c:=c.more g;refine RG (SB ?_);refine c.nw wo M0 rfl λE N c=>?_;refine c.bF 2 rfl l rfl rfl λG c=>?_;rw[show aP 5 (bE E) G=some (QN l) from(c.va (i:=2) rfl).whole rfl,aQ];refine c.bF 1 rfl l rfl rfl λJ c=>?_;rw[show aP 5 (bE B) J=some (QN l) from(c.va (i:=1) rfl).whole rfl,aQ];exact q _ c.gr
def LC (H:Sl wo h (aK u) ms) (O:ms.length<=1000000) (M:∀A h',Cx (λ_=>False) h h' [bJ wo (aK A) (ms++[m])]->R (vH A) h'):S.C 148 [(vH u),(QN m)] h R:=by
 refine qM.2 ?_;refine(Cx.aB h).nw EH1 u rfl λB h1 c=>?_;refine c.nw wo m rfl λG h2 c=>?_;refine c.nw EH1 (none,0,0) rfl λE J c=>?_;refine .here ?_;rw[show fa 0 (bE B)=some (.pointer (some ⟨B,0+0,none⟩)) from gQ _ _ _,aQ,show eH (.pointer (some ⟨B,0+0,none⟩)) J=some (aK u) from(c.va (i:=0) rfl).row.eH (j:=0) rfl,aQ,show aP 5 (bE G) J=some (QN m) from(c.va (i:=1) rfl).whole rfl,aQ];obtain⟨a,e,Hc⟩:=H.clip (n:=5) (k:=.i64) (k':=.i64) rfl rfl (Nat.le_refl _);rw[List.take_length] at e Hc;have fin:∀(v9:Value) q,Cx (λ_=>False) h q [yX EH1 B u,yX wo G m,yX EH1 E (none,0,0),bJ wo v9 [m]]->Ap 180 #[Value.int IntKind.i64 0,Value.int IntKind.u32 0,Value.int IntKind.u32 0,Value.int IntKind.i64 0,Value.map none] 5 32 (.slice a ms.length ms.length) v9 q λv10 K=>
  Vb (fV [(0,1)] #[Value.slice none 0 0] [(0,v10)]) λv11=>
  Sb (bF 1 (bE E) v11 K) λh8=>Vb (aP 1 (bE E) h8) λN=>R N h8:=λv9 q c=>by
  refine c.MP (Hc.gr c.gr) (c.sl (i:=3) rfl).sl (by simp) rfl rfl (by rw[List.length_singleton]; omega) (by rw[List.length_singleton]; omega) λv10 K c=>?_;obtain⟨A,rfl⟩:=(c.sl (i:=4) rfl).ol;rw[Uo,aQ];refine c.bF 2 rfl A rfl rfl λh8 c=>?_;rw[show aP 1 (bE E) h8=some (vH A) from(c.va (i:=2) rfl).whole rfl,aQ];exact M A _ (c.pick [4])
 refine And.intro ?_ ?_
 ·refine bI.2 ?_;dsimp only[bI,iJ];rw[(H.gr c.gr).ln,aQ,aQ,e,aQ];refine⟨(c.va (i:=1) rfl).whole rfl,?_⟩;refine c.dN wo m rfl rfl λv9 q c=>?_;exact fin v9 q c
 ·refine c.dN wo m rfl rfl λv9 q c=>?_;refine⟨(c.va (i:=0) rfl).row.eH (j:=0) rfl,?_⟩;refine bI.2 ?_;dsimp only[bI,iJ];rw[(H.gr c.gr).ln,aQ,aQ,e,aQ];exact fin v9 q c
end
def xA (x:SH × SH):Value:=.agg #[aK x.1,aK x.2]
structure AM where
 w:W3
 f:Int->Int
structure Me where
 hs:List (List AM)
 vs:List (Int->Int)
def Me.view (m:Me) (t:Nat):Int->Int:=m.vs.getD (t - 1) λ_=>0
def Me.at (m:Me) (i:Nat):List AM:=m.hs.getD i []
def Me.lO (m:Me) (t i n:Nat) (x:AM) (j:Bool):Me:={m with vs:=m.vs.set (t - 1) (if j then y9 (fL (m.view t) i n) x.f else fL (m.view t) i n)}
def Me.add (m:Me) (t i:Nat) (w:W3) (whole:Bool):Me:=
 {hs:=m.hs.set i (m.at i++[⟨w,if whole then fL (m.view t) i (m.at i).length else fL (λ_=>0) i (m.at i).length⟩]),
  vs:=m.vs.set (t - 1) (fL (m.view t) i (m.at i).length)}
def Al (B:Bs) (ms:List ET) (cQ:List AM):Prop:=ms.length=cQ.length/\∀(i:Nat) (m:ET) (a:AM),ms[i]?=some m->cQ[i]?=some a->m.w=a.w/\VO B m.a a.f
def HO (B:Bs) (u:SH) (cQ:List AM):Prop:=∃ms,(On B λh=>Sl wo h (aK u) ms)/\Al B ms cQ
structure MO (B:Bs) (x:SH × SH) (m:Me):Prop where
 vs:∃us:List (Option Nat),(On B λh=>Sl EM h (aK x.2) us)/\us.length=m.vs.length/\∀(i:Nat) (a:Option Nat) (f:Int->Int),us[i]?=some a->m.vs[i]?=some f->VO B a f
 hs:∃us:List SH,(On B λh=>Sl EH1 h (aK x.1) us)/\us.length=m.hs.length/\∀(i:Nat) (u:SH) (cQ:List AM),us[i]?=some u->m.hs[i]?=some cQ->HO B u cQ
structure Mk (T n b:Nat) (m:Me):Prop where
 vs:m.vs.length=T
 hs:m.hs.length=n
 le:T<=8/\n<=4096
 len:∀cQ∈m.hs,1<=cQ.length/\cQ.length<=b
def Al.le {ms:List ET} {cQ:List AM} (H:Al B ms cQ) (l:B.le B'):Al B' ms cQ:=⟨H.1,λi m a h1 h2=>⟨(H.2 i m a h1 h2).1,(H.2 i m a h1 h2).2.le l⟩⟩
def HO.le {u:SH} {cQ:List AM} (H:HO B u cQ) (l:B.le B'):HO B' u cQ:=let⟨ms,a,b⟩:=H; ⟨ms,a.le l,b.le l⟩
def MO.le {x:SH × SH} {m:Me} (H:MO B x m) (l:B.le B'):MO B' x m:=by
 obtain⟨⟨us,a,b,c⟩,⟨vs,d,e,f⟩⟩:=H;exact⟨⟨us,a.le l,b,λi y g h1 h2=>(c i y g h1 h2).le l⟩,⟨vs,d.le l,e,λi u cQ h1 h2=>(f i u cQ h1 h2).le l⟩⟩
def VO.zero (B:Bs):VO B none λ_=>0:=⟨[],λ_ _=>.inl ⟨rfl,rfl⟩,λ_=>⟨Int.le_refl _,Int.le_refl _⟩⟩
section
variable {T n b t i:Nat} {x:SH × SH} {m:Me} {w:W3}
def MO.ln (H:MO B x m) (q:B.p h):B5 (aK x.2)=some (.int .i64 m.vs.length)/\B5 (aK x.1)=some (.int .i64 m.hs.length):=by
 obtain⟨us,a,e,_⟩:=H.vs;obtain⟨vs,d,u,_⟩:=H.hs;rw[<-e,<-u];exact⟨(a h q).ln,(d h q).ln⟩
def EI (q:B.p h) (H:MO B x m) (k:Mk T n b m) (A:1<=t/\t<=T) (u:∀h',Gr h h'->R (.bool true) h'):S.C 150 [(xA x),(.int .i64 t)] h R:=by
 refine pY.2 ?_;have E:=k.vs;have c:=Cx.aB h;refine c.v2 λ_ _ c=>?_;refine .here<|vx (ny (by omega))<|bU<|aE<|c.rc 0 ?_;exact vx (H.ln q).1<|vx (Be (by omega))<|u _ c.gr
def HA (q:B.p h) (H:MO B x m) (k:Mk T n b m) (hi:i<n) (u:∀h',Gr h h'->R (.bool true) h'):S.C 112 [(xA x),(.int .i64 i)] h R:=by
 refine qJ.2 ?_;have A:=k.hs;have c:=Cx.aB h;refine c.v2 λ_ _ c=>?_;refine .here<|vx (ny (by omega))<|bU<|aE<|c.rc 0 ?_;exact vx (H.ln q).2<|vx (qA (by omega))<|u _ c.gr
def N3 (q:B.p h) (H:MO B x m) (k:Mk T n b m) (u:∀h',Gr h h'->R (.tuple #[.int .i64 T,.int .i64 n]) h'):S.C 77 [(xA x)] h R:=by
 refine se.2 ?_;obtain⟨A,E,_,_⟩:=k;subst A E;have c:=Cx.aB h;refine c.v2 λ_ _ c=>?_;refine aE<|c.rc 0 ?_;refine vx (H.ln q).1<|aE<|c.rc 0 ?_;exact vx (H.ln q).2<|u _ c.gr
def CB (q:B.p h) (H:MO B x m) (k:Mk T n b m) (u:1<=t/\t<=T) (hi:i<n) (A:∀h',Gr h h'->R (.int .i64 0) h'):S.C 135 [(xA x),(.int .i64 t),(.int .i64 i)] h R:=by
 refine qR.2 ?_;have c:=Cx.aB h;refine c.v2 λ_ _ c=>?_;refine c.rl 0 ?_;refine EI (B.up q c.gr) H k u λ_ g=>?_;have c:=c.more g;refine vx (v:=.bool false) (rfl)<|aN<|c.rl 0 ?_;refine HA (B.up q c.gr) H k hi λ_ g=>?_;have c:=c.more g;exact vx (v:=.bool false) (rfl)<|aN<|A _ c.gr
def jY (A:B.p h) (H:MO B x m) (k:Mk T n b m) (E:1<=t/\t<=T) (G:∀a,VO B a (m.view t)->∀h',Gr h h'->R (vV a) h'):S.C 145 [(xA x),(.int .i64 t)] h R:=by
 refine sA.2 ?_;obtain⟨us,h1,h2,J⟩:=H.vs;have M:=k.vs;have q:t - 1<us.length:=by omega
 have u:=List.getElem?_eq_getElem q;have K:m.vs[t - 1]?=some (m.view t):=by
  unfold Me.view;rw[List.getD_eq_getElem?_getD,List.getElem?_eq_getElem (by omega)]; rfl
 have Va:=J _ _ _ u K;generalize us[t - 1]=a at u Va;have hle:=k.le;have c:=Cx.aB h;refine c.v2 λ_ _ c=>?_;refine c.v1 λ_ _ c=>?_;refine c.rl 0 ?_;refine EI (B.up A c.gr) H k E λ_ g=>?_;have c:=c.more g;refine vx (v:=.bool false) (rfl)<|aN<|aE<|c.rc 0 ?_;refine vx (fT ⟨by omega,by omega⟩)<|(h1 _ (B.up A c.gr)).whole rfl u (by omega) ?_;refine c.w1 1 λ_ c=>?_;refine c.rl 1 ?_;exact G a Va _ c.gr
def B8 {us:List (Option Nat)} (h1:Sl EM h (aK x.2) us) (E:us.length<=8) (G:1<=t/\t<=us.length) {a:Option Nat} (A:∀u h',Cx (λ_=>False) h h' [bJ EM (aK u) (us.set (t - 1) a)]->R (xA (x.1,u)) h'):S.C 149 [(xA x),(.int .i64 t),(vV a)] h R:=by
 refine rn.2 ?_;have c:=Cx.aB h;refine c.v2 λ_ _ c=>?_;refine c.v1 λ_ _ c=>?_;refine c.v2 λ_ _ c=>?_;refine aE<|c.rc 0 ?_;refine vx (h1.gr c.gr).ln<|c.zq EM none rfl rfl rfl (by omega) (by decide) λq _ c=>?_;obtain⟨u,hu⟩:∃u:SH,aK u=.slice (some q) us.length us.length:=⟨(some q,us.length,us.length),rfl⟩;rw[<-hu] at c⊢;replace c:=c.n4;refine aE<|c.rc 0 ?_;refine c.CC 3 rfl (h1.gr c.gr) (by rw[List.length_replicate]) rfl λ_ c=>?_;replace c:=c.n4;refine vx (fT ⟨by omega,by omega⟩)<|c.rl 1 ?_;refine c.wX 3 rfl (j:=t - 1) (by omega) a rfl (by omega) rfl λ_ c=>?_;replace c:=c.n4;refine aE<|c.q2 0 λ_ c=>?_;refine c.rl 0 ?_;refine c.w2 2 λ_ c=>?_;refine c.rl 2 ?_;exact A u _ (c.pick [3])
def gU {ms:List ET} {u:SH} {q v2:Value} (H:Sl wo h (aK u) ms) (E:ms.length<=2000000) (A:∀h',Gr h h'->R (.int .i64 ((ms.length:Int) - 1)) h'):S.C 139 [q,(vH u),v2] h R:=by
 refine rL.2 ?_;have c:=Cx.aB h;refine c.v1 λ_ _ c=>?_;refine c.rl 0 ?_;refine ru (H.gr c.gr) λ_ g=>?_;have c:=c.more g;exact vx (fT ⟨by omega,by omega⟩)<|A _ c.gr
def MO.UK (H:MO B x m) {us:List (Option Nat)} (h1:On B λh=>Sl EM h (aK x.2) us) (h2:us.length=m.vs.length) (E:∀(i:Nat) (a:Option Nat) (f:Int->Int),us[i]?=some a->m.vs[i]?=some f->VO B a f)
  {a:Option Nat} {f:Int->Int} (Va:VO B a f) (J:t - 1<us.length) {M:List aX} {u:SH} {j:Nat} (G:M[j]?=some (bJ EM (aK u) (us.set (t - 1) a))):MO (B.and M) (x.1,u) {m with vs:=m.vs.set (t - 1) f}:=by
 refine⟨⟨us.set (t - 1) a,On.sl G,by rw[List.length_set,List.length_set,h2],λi y g A q=>?_⟩,(H.le (Bs.aJ _ _)).hs⟩;rw[List.getElem?_set] at A;by_cases e:t - 1=i
 ·rw[if_pos e] at A;have q:(m.vs.set (t - 1) f)[i]?=some g:=q;rw[List.getElem?_set,if_pos e,if_pos (by omega)] at q;rw[if_pos (by omega)] at A;injection A with A; injection q with q;subst A q;exact Va.le (Bs.aJ _ _)
 ·rw[if_neg e] at A;have q:(m.vs.set (t - 1) f)[i]?=some g:=q;rw[List.getElem?_set,if_neg e] at q;exact(E i y g A q).le (Bs.aJ _ _)
def aU (A:B.p h) (H:MO B x m) (k:Mk T n b m) (Q:1<=t/\t<=T) (hi:i<n) {q:Nat} {am:AM} (hq:(m.at i)[q]?=some am) {jn:Bool}
  (hR:∀x',Rt B h (λB=>MO B x' (m.lO t i q am jn)) λh'=>R (.tuple #[xA x',mW am.w]) h'):S.C 151 [(xA x),(.int .i64 t),(.int .i64 i),(.int .i64 q),(.bool jn)] h R:=by
 refine qP.2 ?_;obtain⟨us,h1,h2,h3⟩:=H.hs;obtain⟨vs,v1,v2,v3⟩:=id H.vs;have hn:=k.hs;have hT:=k.vs;have hle:=k.le;have hu:=List.getElem?_eq_getElem (l:=us) (i:=i) (by omega);have hm:m.hs[i]?=some (m.at i):=by
  unfold Me.at;rw[List.getD_eq_getElem?_getD,List.getElem?_eq_getElem (by omega)]; rfl
 obtain⟨ms,hs,U⟩:=h3 _ _ _ hu hm;generalize us[i]=u at hu hs;have O:=(List.getElem?_eq_some_iff.1 hq).1;have E:=List.getElem?_eq_getElem (l:=ms) (i:=q) (by rw[U.1]; exact O);obtain⟨hw,V⟩:=U.2 _ _ _ E hq;generalize ms[q]'(by rw[U.1]; exact O)=l at E hw V;obtain⟨aw,af⟩:=am;dsimp only at hw V;subst hw;cases jn with
 | true=>
  have c:=Cx.aB h;refine c.v2 λ_ _ c=>?_;refine c.v2 λ_ _ c=>?_;refine c.v3 λ_ _ c=>?_;refine aE<|c.rc 0 ?_;refine(h1 _ (B.up A c.gr)).whole rfl hu rfl ?_;refine KJ (hs _ (B.up A c.gr)) E λ_ g=>?_;have c:=c.more g;refine vx rfl<|vx rfl<|c.v5 λ_ _ c=>?_;refine c.w5 3 λ_ c=>?_;refine c.rl 0 ?_;refine jY (B.up A c.gr) H k Q λa Va _ g=>?_;have c:=c.more g;refine nP (B.up A c.gr) Va ⟨by omega,by omega⟩ (Int.natCast_nonneg q) λX M _ d ok=>?_;have c:=c.aF d;replace c:=c.n5;refine c.v1 λ_ _ c=>?_;refine c.w1 5 λ_ c=>?_;refine .here<|bU<|c.rl 5 ?_;refine aE<|vx (c.vp (i:=3) (ds:=[_]) rfl rfl rfl)<|Qm (B:=B.and M) ⟨B.up A c.gr,c.get (i:=4) rfl⟩ ok (V.le (Bs.aJ _ _)) λa3 N _ d Z=>?_;have c:=c.aF d;replace c:=c.n7;refine c.w1 5 λ_ c=>?_;refine c.rl 0 ?_;refine c.rl 5 ?_;refine aE<|vx (c.vp (i:=3) (ds:=[_,_,_]) rfl rfl rfl)<|B8 (t:=t) (v1 _ (B.up A c.gr)) (by omega) ⟨Q.1,by omega⟩ λG _ d=>?_;have c:=c.aF d;replace c:=c.n8;refine And.intro (c.vp (i:=3) (ds:=[_,_,_]) rfl rfl rfl) ?_;refine c.w2 1 λ_ c=>?_;refine And.intro (c.vp (i:=3) (ds:=[_,_,_]) rfl rfl rfl) ?_;refine c.w3 2 λ_ c=>?_;refine c.rl 1 ?_;refine c.rl 2 ?_;refine hR (x.1,G) [aD M,aD N,bJ EM (aK G) (vs.set (t - 1) a3)] _ (Cx.pack (L:=[]) (c.pick [4,6,7])) ?_;have r:MO (((B.and M).and N).and [bJ EM (aK G) (vs.set (t - 1) a3)]) (x.1,G) _:=(H.le ((Bs.aJ B M).trans (Bs.aJ _ N))).UK (v1.le ((Bs.aJ B M).trans (Bs.aJ _ N))) v2 (λi a f e1 e2=>(v3 i a f e1 e2).le ((Bs.aJ B M).trans (Bs.aJ _ N))) Z (by omega) (j:=0) rfl;exact r.le λh b=>⟨⟨⟨b.1,Bs.star b (i:=0) rfl⟩,Bs.star b (i:=1) rfl⟩,let⟨_,F,p⟩:=b; let⟨F',p'⟩:=(Cx.star p).get (i:=2) rfl; let⟨J,K,_⟩:=(Cx.start p').Kf; ⟨J,K⟩⟩
 | false=>
  have c:=Cx.aB h;refine c.v2 λ_ _ c=>?_;refine c.v2 λ_ _ c=>?_;refine c.v3 λ_ _ c=>?_;refine aE<|c.rc 0 ?_;refine(h1 _ (B.up A c.gr)).whole rfl hu rfl ?_;refine KJ (hs _ (B.up A c.gr)) E λ_ g=>?_;have c:=c.more g;refine vx rfl<|vx rfl<|c.v5 λ_ _ c=>?_;refine c.w5 3 λ_ c=>?_;refine c.rl 0 ?_;refine jY (B.up A c.gr) H k Q λa Va _ g=>?_;have c:=c.more g;refine nP (B.up A c.gr) Va ⟨by omega,by omega⟩ (Int.natCast_nonneg q) λX M _ d ok=>?_;have c:=c.aF d;replace c:=c.n5;refine c.v1 λ_ _ c=>?_;refine c.w1 5 λ_ c=>?_;refine .here<|aN<|c.rl 0 ?_;refine c.rl 5 ?_;refine aE<|vx (c.vp (i:=3) (ds:=[_,_,_]) rfl rfl rfl)<|B8 (t:=t) (v1 _ (B.up A c.gr)) (by omega) ⟨Q.1,by omega⟩ λG _ d=>?_;have c:=c.aF d;replace c:=c.n7;refine And.intro (c.vp (i:=3) (ds:=[_,_,_]) rfl rfl rfl) ?_;refine c.w2 1 λ_ c=>?_;refine And.intro (c.vp (i:=3) (ds:=[_,_,_]) rfl rfl rfl) ?_;refine c.w3 2 λ_ c=>?_;refine c.rl 1 ?_;refine c.rl 2 ?_;refine hR (x.1,G) [aD M,bJ EM (aK G) (vs.set (t - 1) X)] _ (Cx.pack (L:=[]) (c.pick [4,6])) ?_;have r:MO ((B.and M).and [bJ EM (aK G) (vs.set (t - 1) X)]) (x.1,G) _:=(H.le (Bs.aJ B M)).UK (v1.le (Bs.aJ B M)) v2 (λi a f e1 e2=>(v3 i a f e1 e2).le (Bs.aJ B M)) ok (by omega) (j:=0) rfl;exact r.le λh b=>⟨⟨b.1,Bs.star b (i:=0) rfl⟩,let⟨_,F,p⟩:=b; let⟨F',p'⟩:=(Cx.star p).get (i:=1) rfl; let⟨J,K,_⟩:=(Cx.start p').Kf; ⟨J,K⟩⟩
end
abbrev Fi (x:SH × SH):List Value:=[aK x.1,aK x.2]
abbrev cW (w:W3):List Value:=[.int .i64 w.v,.int .u32 w.aO,.int .u32 w.ref]
abbrev L3:List Value:=[.slice none 0 0,.slice none 0 0]
section
variable {T n b t i:Nat} {x:SH × SH} {m:Me} {w:W3} {am:AM}
def Me.top (m:Me) (i:Nat):AM:=(m.at i).getLast?.getD ⟨W0,λ_=>0⟩
def Mk.at (k:Mk T n b m) (hi:i<n):m.hs[i]?=some (m.at i)/\1<=(m.at i).length/\(m.at i).length<=b:=by
 have q:=k.hs;have hm:m.hs[i]?=some (m.at i):=by
  unfold Me.at;rw[List.getD_eq_getElem?_getD,List.getElem?_eq_getElem (by omega)]; rfl
 exact⟨hm,k.len _ (List.mem_of_getElem? hm)⟩
def Mk.top (k:Mk T n b m) (hi:i<n):(m.at i)[(m.at i).length - 1]?=some (m.top i):=by
 obtain⟨_,h1,_⟩:=k.at hi;unfold Me.top;rw[List.getLast?_eq_getElem?,List.getElem?_eq_getElem (by omega)];rfl
def Rb (E:B.p h) (H:MO B x m) (k:Mk T n b m) (hb:b<=1000000) (J:1<=t/\t<=T) (hi:i<n)
  (hR:∀G,Rt B h (λB=>MO B G (m.lO t i ((m.at i).length - 1) (m.top i) true)) λh'=>R (.tuple #[xA G,mW (m.top i).w,.int .i64 0]) h'):S.C 138 [(xA x),(.int .i64 t),(.int .i64 i),(.bool true),(.func (.func 139) #[.int .i64 0] #[])] h R:=by
 refine my.2 ?_;obtain⟨us,h1,h2,h3⟩:=H.hs;have hn:=k.hs;have hu:=List.getElem?_eq_getElem (l:=us) (i:=i) (by omega);obtain⟨hm,aT,bY⟩:=k.at hi;have A:=k.top hi;obtain⟨ms,hs,K⟩:=h3 _ _ _ hu hm;generalize us[i]=u at hu hs;have hlen:((ms.length:Nat):Int) - 1=((m.at i).length - 1:Nat):=by have:=K.1; omega
 obtain⟨rp,op,Z,N,_⟩:=(h1 h E).ix hu (n:=1) rfl (k:=.i64) (z:=(i:Int)) rfl;have f33:∀{O:Hp},Gr h O->aP 1 (.pointer (some ⟨rp,op,none⟩)) O=some (vH u):=λg=>(N.ch g λe=>e).aP rfl;have fin:∀(G:SH × SH) (M:List aX) (r1 r2 r3 ro rw:Nat) (h':Hp),Cx (λ_=>False) h h' [rV r1 (Fi x),rV r2 L3,rV r3 (cW W0),rV ro (Fi G),rV rw (cW (m.top i).w),aD M]->MO (B.and M) G (m.lO t i ((m.at i).length - 1) (m.top i) true)->
  ∃Q U G M,bE ro=bE Q/\bE rw=bE U/\Cx (λ_=>False) h h' [rV r1 (Fi x),rV r2 L3,rV r3 (cW W0),rV Q (Fi G),rV U (cW (m.top i).w),aD M]/\MO (B.and M) G (m.lO t i ((m.at i).length - 1) (m.top i) true):=λG M r1 r2 r3 ro rw h' c ok=>⟨ro,rw,G,M,rfl,rfl,c,ok⟩
 have c:=Cx.aB h;refine c.v2 λaS _ c=>?_;refine c.v2 λV _ c=>?_;refine c.v3 λX _ c=>?_;refine c.rl 0 ?_;refine CB (B.up E c.gr) H k J hi λ_ g=>?_;have c:=c.more g;refine vx (v:=.bool false) rfl<|aN<|Du.at (λo q h'=>∃ro rw G M,o=bE ro/\q=bE rw/\Cx (λ_=>False) h h' [rV aS (Fi x),rV V L3,rV X (cW W0),rV ro (Fi G),rV rw (cW (m.top i).w),aD M]/\MO (B.and M) G (m.lO t i ((m.at i).length - 1) (m.top i) true)) ?_ ?_
 ·refine c.rl 0 ?_;refine aE<|c.rc 0 ?_;refine vx Z<|vx (f33 c.gr)<|c.rl 0 ?_;refine⟨?_,?_⟩
  ·refine jY (B.up E c.gr) H k J λa Va _ g=>?_;have c:=c.more g;refine And.intro (f33 c.gr) ?_;refine c.ac 0 ?_;refine c.al 0 ?_;refine⟨?_,?_⟩
   ·refine jR (B.up E c.gr) Va λ_ q _ _ g=>?_;have c:=c.more g;refine And.intro (f33 c.gr) ?_;refine c.ac 0 ?_;refine c.al 0 ?_;refine⟨?_,?_⟩
    ·refine .inl (.inl ⟨_,_,_,rfl,gU (hs _ (B.up E c.gr)) (by have:=K.1; omega) λ_ g=>?_⟩);have c:=c.more g;rw[hlen];refine c.al 0 ?_;refine⟨?_,?_⟩
     ·refine aU (B.up E c.gr) H k J hi A λG M _ d ok=>?_;have c:=c.aF d;replace c:=c.n4;refine vx rfl<|vx rfl<|⟨?_,?_⟩
      ·refine c.v2 λ_ _ c=>?_;refine c.v3 λ_ _ c=>?_;refine c.w2 4 λ_ c=>?_;refine c.w3 5 λ_ c=>?_;exact fin _ M _ _ _ _ _ _ (c.pick [0,1,2,4,5,3]) ok
      ·refine c.v3 λ_ _ c=>?_;refine c.v2 λ_ _ c=>?_;refine c.w2 5 λ_ c=>?_;refine c.w3 4 λ_ c=>?_;exact fin _ M _ _ _ _ _ _ (c.pick [0,1,2,5,4,3]) ok
     ·refine⟨?_,?_⟩
      ·refine c.v2 λ_ _ c=>?_;refine c.al 0 ?_;refine⟨?_,?_⟩
       ·refine aU (B.up E c.gr) H k J hi A λG M _ d ok=>?_;have c:=c.aF d;replace c:=c.n5;refine vx rfl<|vx rfl<|c.v3 λ_ _ c=>?_;refine c.w2 3 λ_ c=>?_;refine c.w3 5 λ_ c=>?_;exact fin _ M _ _ _ _ _ _ (c.pick [0,1,2,3,5,4]) ok
       ·refine c.v3 λ_ _ c=>?_;refine c.al 0 ?_;refine aU (B.up E c.gr) H k J hi A λG M _ d ok=>?_;have c:=c.aF d;replace c:=c.n6;refine vx rfl<|vx rfl<|c.w2 3 λ_ c=>?_;refine c.w3 4 λ_ c=>?_;exact fin _ M _ _ _ _ _ _ (c.pick [0,1,2,3,4,5]) ok
      ·refine c.v3 λ_ _ c=>?_;refine c.al 0 ?_;refine⟨?_,?_⟩
       ·refine aU (B.up E c.gr) H k J hi A λG M _ d ok=>?_;have c:=c.aF d;replace c:=c.n5;refine vx rfl<|vx rfl<|c.v2 λ_ _ c=>?_;refine c.w2 5 λ_ c=>?_;refine c.w3 3 λ_ c=>?_;exact fin _ M _ _ _ _ _ _ (c.pick [0,1,2,5,3,4]) ok
       ·refine c.v2 λ_ _ c=>?_;refine c.al 0 ?_;refine aU (B.up E c.gr) H k J hi A λG M _ d ok=>?_;have c:=c.aF d;replace c:=c.n6;refine vx rfl<|vx rfl<|c.w2 4 λ_ c=>?_;refine c.w3 3 λ_ c=>?_;exact fin _ M _ _ _ _ _ _ (c.pick [0,1,2,4,3,5]) ok
    ·refine⟨?_,?_⟩
     ·refine c.v2 λ_ _ c=>?_;refine And.intro (f33 c.gr) ?_;refine c.ac 0 ?_;refine c.al 0 ?_;refine⟨?_,?_⟩
      ·refine .inl (.inl ⟨_,_,_,rfl,gU (hs _ (B.up E c.gr)) (by have:=K.1; omega) λ_ g=>?_⟩);have c:=c.more g;rw[hlen];refine c.al 0 ?_;refine⟨?_,?_⟩
       ·refine aU (B.up E c.gr) H k J hi A λG M _ d ok=>?_;have c:=c.aF d;replace c:=c.n5;refine vx rfl<|vx rfl<|c.v3 λ_ _ c=>?_;refine c.w2 3 λ_ c=>?_;refine c.w3 5 λ_ c=>?_;exact fin _ M _ _ _ _ _ _ (c.pick [0,1,2,3,5,4]) ok
       ·refine c.v3 λ_ _ c=>?_;refine c.al 0 ?_;refine aU (B.up E c.gr) H k J hi A λG M _ d ok=>?_;have c:=c.aF d;replace c:=c.n6;refine vx rfl<|vx rfl<|c.w2 3 λ_ c=>?_;refine c.w3 4 λ_ c=>?_;exact fin _ M _ _ _ _ _ _ (c.pick [0,1,2,3,4,5]) ok
      ·refine c.v3 λ_ _ c=>?_;refine And.intro (f33 c.gr) ?_;refine c.ac 0 ?_;refine c.al 0 ?_;refine .inl (.inl ⟨_,_,_,rfl,gU (hs _ (B.up E c.gr)) (by have:=K.1; omega) λ_ g=>?_⟩);have c:=c.more g;rw[hlen];refine c.al 0 ?_;refine aU (B.up E c.gr) H k J hi A λG M _ d ok=>?_;have c:=c.aF d;replace c:=c.n6;refine vx rfl<|vx rfl<|c.w2 3 λ_ c=>?_;refine c.w3 4 λ_ c=>?_;exact fin _ M _ _ _ _ _ _ (c.pick [0,1,2,3,4,5]) ok
     ·refine c.v3 λ_ _ c=>?_;refine And.intro (f33 c.gr) ?_;refine c.ac 0 ?_;refine c.al 0 ?_;refine⟨?_,?_⟩
      ·refine .inl (.inl ⟨_,_,_,rfl,gU (hs _ (B.up E c.gr)) (by have:=K.1; omega) λ_ g=>?_⟩);have c:=c.more g;rw[hlen];refine c.al 0 ?_;refine⟨?_,?_⟩
       ·refine aU (B.up E c.gr) H k J hi A λG M _ d ok=>?_;have c:=c.aF d;replace c:=c.n5;refine vx rfl<|vx rfl<|c.v2 λ_ _ c=>?_;refine c.w2 5 λ_ c=>?_;refine c.w3 3 λ_ c=>?_;exact fin _ M _ _ _ _ _ _ (c.pick [0,1,2,5,3,4]) ok
       ·refine c.v2 λ_ _ c=>?_;refine c.al 0 ?_;refine aU (B.up E c.gr) H k J hi A λG M _ d ok=>?_;have c:=c.aF d;replace c:=c.n6;refine vx rfl<|vx rfl<|c.w2 4 λ_ c=>?_;refine c.w3 3 λ_ c=>?_;exact fin _ M _ _ _ _ _ _ (c.pick [0,1,2,4,3,5]) ok
      ·refine c.v2 λ_ _ c=>?_;refine And.intro (f33 c.gr) ?_;refine c.ac 0 ?_;refine c.al 0 ?_;refine .inl (.inl ⟨_,_,_,rfl,gU (hs _ (B.up E c.gr)) (by have:=K.1; omega) λ_ g=>?_⟩);have c:=c.more g;rw[hlen];refine c.al 0 ?_;refine aU (B.up E c.gr) H k J hi A λG M _ d ok=>?_;have c:=c.aF d;replace c:=c.n6;refine vx rfl<|vx rfl<|c.w2 4 λ_ c=>?_;refine c.w3 3 λ_ c=>?_;exact fin _ M _ _ _ _ _ _ (c.pick [0,1,2,4,3,5]) ok
   ·refine⟨?_,?_⟩
    ·refine c.v2 λ_ _ c=>?_;refine And.intro (f33 c.gr) ?_;refine c.ac 0 ?_;refine c.al 0 ?_;refine⟨?_,?_⟩
     ·refine jR (B.up E c.gr) Va λ_ q _ _ g=>?_;have c:=c.more g;refine And.intro (f33 c.gr) ?_;refine c.ac 0 ?_;refine c.al 0 ?_;refine⟨?_,?_⟩
      ·refine .inl (.inl ⟨_,_,_,rfl,gU (hs _ (B.up E c.gr)) (by have:=K.1; omega) λ_ g=>?_⟩);have c:=c.more g;rw[hlen];refine c.al 0 ?_;refine⟨?_,?_⟩
       ·refine aU (B.up E c.gr) H k J hi A λG M _ d ok=>?_;have c:=c.aF d;replace c:=c.n5;refine vx rfl<|vx rfl<|c.v3 λ_ _ c=>?_;refine c.w2 3 λ_ c=>?_;refine c.w3 5 λ_ c=>?_;exact fin _ M _ _ _ _ _ _ (c.pick [0,1,2,3,5,4]) ok
       ·refine c.v3 λ_ _ c=>?_;refine c.al 0 ?_;refine aU (B.up E c.gr) H k J hi A λG M _ d ok=>?_;have c:=c.aF d;replace c:=c.n6;refine vx rfl<|vx rfl<|c.w2 3 λ_ c=>?_;refine c.w3 4 λ_ c=>?_;exact fin _ M _ _ _ _ _ _ (c.pick [0,1,2,3,4,5]) ok
      ·refine c.v3 λ_ _ c=>?_;refine And.intro (f33 c.gr) ?_;refine c.ac 0 ?_;refine c.al 0 ?_;refine .inl (.inl ⟨_,_,_,rfl,gU (hs _ (B.up E c.gr)) (by have:=K.1; omega) λ_ g=>?_⟩);have c:=c.more g;rw[hlen];refine c.al 0 ?_;refine aU (B.up E c.gr) H k J hi A λG M _ d ok=>?_;have c:=c.aF d;replace c:=c.n6;refine vx rfl<|vx rfl<|c.w2 3 λ_ c=>?_;refine c.w3 4 λ_ c=>?_;exact fin _ M _ _ _ _ _ _ (c.pick [0,1,2,3,4,5]) ok
     ·refine c.v3 λ_ _ c=>?_;refine And.intro (f33 c.gr) ?_;refine c.ac 0 ?_;refine c.al 0 ?_;refine jR (B.up E c.gr) Va λ_ q _ _ g=>?_;have c:=c.more g;refine And.intro (f33 c.gr) ?_;refine c.ac 0 ?_;refine c.al 0 ?_;refine .inl (.inl ⟨_,_,_,rfl,gU (hs _ (B.up E c.gr)) (by have:=K.1; omega) λ_ g=>?_⟩);have c:=c.more g;rw[hlen];refine c.al 0 ?_;refine aU (B.up E c.gr) H k J hi A λG M _ d ok=>?_;have c:=c.aF d;replace c:=c.n6;refine vx rfl<|vx rfl<|c.w2 3 λ_ c=>?_;refine c.w3 4 λ_ c=>?_;exact fin _ M _ _ _ _ _ _ (c.pick [0,1,2,3,4,5]) ok
    ·refine c.v3 λ_ _ c=>?_;refine And.intro (f33 c.gr) ?_;refine c.ac 0 ?_;refine c.al 0 ?_;refine⟨?_,?_⟩
     ·refine jR (B.up E c.gr) Va λ_ q _ _ g=>?_;have c:=c.more g;refine And.intro (f33 c.gr) ?_;refine c.ac 0 ?_;refine c.al 0 ?_;refine⟨?_,?_⟩
      ·refine .inl (.inl ⟨_,_,_,rfl,gU (hs _ (B.up E c.gr)) (by have:=K.1; omega) λ_ g=>?_⟩);have c:=c.more g;rw[hlen];refine c.al 0 ?_;refine⟨?_,?_⟩
       ·refine aU (B.up E c.gr) H k J hi A λG M _ d ok=>?_;have c:=c.aF d;replace c:=c.n5;refine vx rfl<|vx rfl<|c.v2 λ_ _ c=>?_;refine c.w2 5 λ_ c=>?_;refine c.w3 3 λ_ c=>?_;exact fin _ M _ _ _ _ _ _ (c.pick [0,1,2,5,3,4]) ok
       ·refine c.v2 λ_ _ c=>?_;refine c.al 0 ?_;refine aU (B.up E c.gr) H k J hi A λG M _ d ok=>?_;have c:=c.aF d;replace c:=c.n6;refine vx rfl<|vx rfl<|c.w2 4 λ_ c=>?_;refine c.w3 3 λ_ c=>?_;exact fin _ M _ _ _ _ _ _ (c.pick [0,1,2,4,3,5]) ok
      ·refine c.v2 λ_ _ c=>?_;refine And.intro (f33 c.gr) ?_;refine c.ac 0 ?_;refine c.al 0 ?_;refine .inl (.inl ⟨_,_,_,rfl,gU (hs _ (B.up E c.gr)) (by have:=K.1; omega) λ_ g=>?_⟩);have c:=c.more g;rw[hlen];refine c.al 0 ?_;refine aU (B.up E c.gr) H k J hi A λG M _ d ok=>?_;have c:=c.aF d;replace c:=c.n6;refine vx rfl<|vx rfl<|c.w2 4 λ_ c=>?_;refine c.w3 3 λ_ c=>?_;exact fin _ M _ _ _ _ _ _ (c.pick [0,1,2,4,3,5]) ok
     ·refine c.v2 λ_ _ c=>?_;refine And.intro (f33 c.gr) ?_;refine c.ac 0 ?_;refine c.al 0 ?_;refine jR (B.up E c.gr) Va λ_ q _ _ g=>?_;have c:=c.more g;refine And.intro (f33 c.gr) ?_;refine c.ac 0 ?_;refine c.al 0 ?_;refine .inl (.inl ⟨_,_,_,rfl,gU (hs _ (B.up E c.gr)) (by have:=K.1; omega) λ_ g=>?_⟩);have c:=c.more g;rw[hlen];refine c.al 0 ?_;refine aU (B.up E c.gr) H k J hi A λG M _ d ok=>?_;have c:=c.aF d;replace c:=c.n6;refine vx rfl<|vx rfl<|c.w2 4 λ_ c=>?_;refine c.w3 3 λ_ c=>?_;exact fin _ M _ _ _ _ _ _ (c.pick [0,1,2,4,3,5]) ok
  ·refine⟨?_,?_⟩
   ·refine c.v2 λ_ _ c=>?_;refine c.al 0 ?_;refine And.intro (f33 c.gr) ?_;refine c.ac 0 ?_;refine c.al 0 ?_;refine⟨?_,?_⟩
    ·refine jY (B.up E c.gr) H k J λa Va _ g=>?_;have c:=c.more g;refine And.intro (f33 c.gr) ?_;refine c.ac 0 ?_;refine c.al 0 ?_;refine⟨?_,?_⟩
     ·refine jR (B.up E c.gr) Va λ_ q _ _ g=>?_;have c:=c.more g;refine And.intro (f33 c.gr) ?_;refine c.ac 0 ?_;refine c.al 0 ?_;refine⟨?_,?_⟩
      ·refine .inl (.inl ⟨_,_,_,rfl,gU (hs _ (B.up E c.gr)) (by have:=K.1; omega) λ_ g=>?_⟩);have c:=c.more g;rw[hlen];refine c.al 0 ?_;refine⟨?_,?_⟩
       ·refine aU (B.up E c.gr) H k J hi A λG M _ d ok=>?_;have c:=c.aF d;replace c:=c.n5;refine vx rfl<|vx rfl<|c.v3 λ_ _ c=>?_;refine c.w2 3 λ_ c=>?_;refine c.w3 5 λ_ c=>?_;exact fin _ M _ _ _ _ _ _ (c.pick [0,1,2,3,5,4]) ok
       ·refine c.v3 λ_ _ c=>?_;refine c.al 0 ?_;refine aU (B.up E c.gr) H k J hi A λG M _ d ok=>?_;have c:=c.aF d;replace c:=c.n6;refine vx rfl<|vx rfl<|c.w2 3 λ_ c=>?_;refine c.w3 4 λ_ c=>?_;exact fin _ M _ _ _ _ _ _ (c.pick [0,1,2,3,4,5]) ok
      ·refine c.v3 λ_ _ c=>?_;refine And.intro (f33 c.gr) ?_;refine c.ac 0 ?_;refine c.al 0 ?_;refine .inl (.inl ⟨_,_,_,rfl,gU (hs _ (B.up E c.gr)) (by have:=K.1; omega) λ_ g=>?_⟩);have c:=c.more g;rw[hlen];refine c.al 0 ?_;refine aU (B.up E c.gr) H k J hi A λG M _ d ok=>?_;have c:=c.aF d;replace c:=c.n6;refine vx rfl<|vx rfl<|c.w2 3 λ_ c=>?_;refine c.w3 4 λ_ c=>?_;exact fin _ M _ _ _ _ _ _ (c.pick [0,1,2,3,4,5]) ok
     ·refine c.v3 λ_ _ c=>?_;refine And.intro (f33 c.gr) ?_;refine c.ac 0 ?_;refine c.al 0 ?_;refine jR (B.up E c.gr) Va λ_ q _ _ g=>?_;have c:=c.more g;refine And.intro (f33 c.gr) ?_;refine c.ac 0 ?_;refine c.al 0 ?_;refine .inl (.inl ⟨_,_,_,rfl,gU (hs _ (B.up E c.gr)) (by have:=K.1; omega) λ_ g=>?_⟩);have c:=c.more g;rw[hlen];refine c.al 0 ?_;refine aU (B.up E c.gr) H k J hi A λG M _ d ok=>?_;have c:=c.aF d;replace c:=c.n6;refine vx rfl<|vx rfl<|c.w2 3 λ_ c=>?_;refine c.w3 4 λ_ c=>?_;exact fin _ M _ _ _ _ _ _ (c.pick [0,1,2,3,4,5]) ok
    ·refine c.v3 λ_ _ c=>?_;refine c.al 0 ?_;refine And.intro (f33 c.gr) ?_;refine c.ac 0 ?_;refine c.al 0 ?_;refine jY (B.up E c.gr) H k J λa Va _ g=>?_;have c:=c.more g;refine And.intro (f33 c.gr) ?_;refine c.ac 0 ?_;refine c.al 0 ?_;refine jR (B.up E c.gr) Va λ_ q _ _ g=>?_;have c:=c.more g;refine And.intro (f33 c.gr) ?_;refine c.ac 0 ?_;refine c.al 0 ?_;refine .inl (.inl ⟨_,_,_,rfl,gU (hs _ (B.up E c.gr)) (by have:=K.1; omega) λ_ g=>?_⟩);have c:=c.more g;rw[hlen];refine c.al 0 ?_;refine aU (B.up E c.gr) H k J hi A λG M _ d ok=>?_;have c:=c.aF d;replace c:=c.n6;refine vx rfl<|vx rfl<|c.w2 3 λ_ c=>?_;refine c.w3 4 λ_ c=>?_;exact fin _ M _ _ _ _ _ _ (c.pick [0,1,2,3,4,5]) ok
   ·refine c.v3 λ_ _ c=>?_;refine c.al 0 ?_;refine And.intro (f33 c.gr) ?_;refine c.ac 0 ?_;refine c.al 0 ?_;refine⟨?_,?_⟩
    ·refine jY (B.up E c.gr) H k J λa Va _ g=>?_;have c:=c.more g;refine And.intro (f33 c.gr) ?_;refine c.ac 0 ?_;refine c.al 0 ?_;refine⟨?_,?_⟩
     ·refine jR (B.up E c.gr) Va λ_ q _ _ g=>?_;have c:=c.more g;refine And.intro (f33 c.gr) ?_;refine c.ac 0 ?_;refine c.al 0 ?_;refine⟨?_,?_⟩
      ·refine .inl (.inl ⟨_,_,_,rfl,gU (hs _ (B.up E c.gr)) (by have:=K.1; omega) λ_ g=>?_⟩);have c:=c.more g;rw[hlen];refine c.al 0 ?_;refine⟨?_,?_⟩
       ·refine aU (B.up E c.gr) H k J hi A λG M _ d ok=>?_;have c:=c.aF d;replace c:=c.n5;refine vx rfl<|vx rfl<|c.v2 λ_ _ c=>?_;refine c.w2 5 λ_ c=>?_;refine c.w3 3 λ_ c=>?_;exact fin _ M _ _ _ _ _ _ (c.pick [0,1,2,5,3,4]) ok
       ·refine c.v2 λ_ _ c=>?_;refine c.al 0 ?_;refine aU (B.up E c.gr) H k J hi A λG M _ d ok=>?_;have c:=c.aF d;replace c:=c.n6;refine vx rfl<|vx rfl<|c.w2 4 λ_ c=>?_;refine c.w3 3 λ_ c=>?_;exact fin _ M _ _ _ _ _ _ (c.pick [0,1,2,4,3,5]) ok
      ·refine c.v2 λ_ _ c=>?_;refine And.intro (f33 c.gr) ?_;refine c.ac 0 ?_;refine c.al 0 ?_;refine .inl (.inl ⟨_,_,_,rfl,gU (hs _ (B.up E c.gr)) (by have:=K.1; omega) λ_ g=>?_⟩);have c:=c.more g;rw[hlen];refine c.al 0 ?_;refine aU (B.up E c.gr) H k J hi A λG M _ d ok=>?_;have c:=c.aF d;replace c:=c.n6;refine vx rfl<|vx rfl<|c.w2 4 λ_ c=>?_;refine c.w3 3 λ_ c=>?_;exact fin _ M _ _ _ _ _ _ (c.pick [0,1,2,4,3,5]) ok
     ·refine c.v2 λ_ _ c=>?_;refine And.intro (f33 c.gr) ?_;refine c.ac 0 ?_;refine c.al 0 ?_;refine jR (B.up E c.gr) Va λ_ q _ _ g=>?_;have c:=c.more g;refine And.intro (f33 c.gr) ?_;refine c.ac 0 ?_;refine c.al 0 ?_;refine .inl (.inl ⟨_,_,_,rfl,gU (hs _ (B.up E c.gr)) (by have:=K.1; omega) λ_ g=>?_⟩);have c:=c.more g;rw[hlen];refine c.al 0 ?_;refine aU (B.up E c.gr) H k J hi A λG M _ d ok=>?_;have c:=c.aF d;replace c:=c.n6;refine vx rfl<|vx rfl<|c.w2 4 λ_ c=>?_;refine c.w3 3 λ_ c=>?_;exact fin _ M _ _ _ _ _ _ (c.pick [0,1,2,4,3,5]) ok
    ·refine c.v2 λ_ _ c=>?_;refine c.al 0 ?_;refine And.intro (f33 c.gr) ?_;refine c.ac 0 ?_;refine c.al 0 ?_;refine jY (B.up E c.gr) H k J λa Va _ g=>?_;have c:=c.more g;refine And.intro (f33 c.gr) ?_;refine c.ac 0 ?_;refine c.al 0 ?_;refine jR (B.up E c.gr) Va λ_ q _ _ g=>?_;have c:=c.more g;refine And.intro (f33 c.gr) ?_;refine c.ac 0 ?_;refine c.al 0 ?_;refine .inl (.inl ⟨_,_,_,rfl,gU (hs _ (B.up E c.gr)) (by have:=K.1; omega) λ_ g=>?_⟩);have c:=c.more g;rw[hlen];refine c.al 0 ?_;refine aU (B.up E c.gr) H k J hi A λG M _ d ok=>?_;have c:=c.aF d;replace c:=c.n6;refine vx rfl<|vx rfl<|c.w2 4 λ_ c=>?_;refine c.w3 3 λ_ c=>?_;exact fin _ M _ _ _ _ _ _ (c.pick [0,1,2,4,3,5]) ok
 ·rintro _ _ h7 ⟨ro,rw,G,M,rfl,rfl,c,ok⟩;replace c:=c.n6;refine c.rl 3 ?_;refine c.rl 4 ?_;refine c.w2 1 λ_ c=>?_;refine c.al 4 ?_;refine c.w3 2 λ_ c=>?_;refine c.rl 1 ?_;refine c.rl 2 ?_;exact hR G M _ (c.pick [5]) ok
def IQ {us:List SH} {u:SH} (q:B.p h) (H:MO B x m) (k:Mk T n b m) (hi:i<n) (h1:On B λh=>Sl EH1 h (aK x.1) us) (hu:us[i]?=some u) (A:∀h',Gr h h'->R (.tuple #[vH u,.bool true]) h'):S.C 78 [(xA x),(.int .i64 i)] h R:=by
 refine pF.2 ?_;have c:=Cx.aB h;refine c.v2 λ_ _ c=>?_;refine c.v1 λ_ _ c=>?_;refine c.rl 0 ?_;refine HA (B.up q c.gr) H k hi λ_ g=>?_;have c:=c.more g;refine vx (v:=.bool false) (rfl)<|aN<|aE<|c.rc 0 ?_;refine(h1 _ (B.up q c.gr)).whole rfl hu rfl ?_;refine c.w1 1 λ_ c=>?_;refine c.rl 1 ?_;exact A _ c.gr
def FZ (u:B.p h) (H:MO B x m) (k:Mk T n b m) (A:b<=1000000) (E:1<=t/\t<=T) (hi:i<n)
  (G:∀q,Rt B h (λB=>MO B q (m.lO t i ((m.at i).length - 1) (m.top i) true)) λh'=>R (.tuple #[xA q,mW (m.top i).w,.int .i64 0]) h'):S.C 122 [(xA x),(.int .i64 t),(.int .i64 i)] h R:=by
 refine rF.2 ?_;have c:=Cx.aB h;refine c.v2 λ_ _ c=>?_;refine c.v2 λ_ _ c=>?_;refine c.v3 λ_ _ c=>?_;refine c.rl 0 ?_;refine vx rfl<|Rb (B.up u c.gr) H k A E hi λq M _ d ok=>?_;have c:=c.aF d;replace c:=c.n4;refine c.Sr 1 2 λ_ c=>?_;exact G q M _ (c.pick [3]) ok
def OW (M:B.p h) (H:MO B x m) (k:Mk T n b m) (hb:b<=1000000) (hi:i<n) (N:∀h',Gr h h'->R (.tuple #[mW (m.top i).w,.bool true]) h'):S.C 47 [(xA x),(.int .i64 i)] h R:=by
 refine rH.2 ?_;obtain⟨us,h1,h2,U⟩:=H.hs;have hn:=k.hs;have hu:=List.getElem?_eq_getElem (l:=us) (i:=i) (by omega);obtain⟨hm,V,X⟩:=k.at hi;have E:=k.top hi;obtain⟨ms,hs,O⟩:=U _ _ _ hu hm;generalize us[i]=u at hu hs;have K:ms.length=(m.at i).length:=O.1;have q:=List.getElem?_eq_getElem (l:=ms) (i:=(m.at i).length - 1) (by omega);have hw:=(O.2 _ _ _ q E).1;generalize ms[(m.at i).length - 1]'(by omega)=l at q hw;have G:ms=ms.dropLast++[l]:=by
  have A:ms≠[]:=λe=>by rw[e] at K; simp at K; omega
  have Q:=List.dropLast_concat_getLast A;have h8:ms.getLast A=l:=by
   have:=List.getLast?_eq_some_getLast A;rw[List.getLast?_eq_getElem?,K,q] at this;injection this with this;exact this.symm
  rw[h8] at Q;exact Q.symm
 rw[<-hw] at N;rw[G] at hs;have J:ms.dropLast.length<=1000000:=by rw[List.length_dropLast]; omega
 generalize ms.dropLast=Z at hs J;have c:=Cx.aB h;refine c.v2 λ_ _ c=>?_;refine c.v3 λ_ _ c=>?_;refine c.rl 0 ?_;refine IQ (B.up M c.gr) H k hi h1 hu λ_ g=>?_;have c:=c.more g;refine vx rfl<|vx rfl<|c.v1 λ_ _ c=>?_;refine c.w1 2 λ_ c=>?_;refine c.rl 2 ?_;refine Np (hs _ (B.up M c.gr)) J λ_ g=>?_;have c:=c.more g;refine vx (v:=mW l.w) (by kernel_rfl)<|c.w3 1 λ_ c=>?_;refine c.rl 1 ?_;exact N _ c.gr
end
section
variable {T n b t i:Nat} {x:SH × SH} {m:Me} {w:W3} {am:AM}
def tw {α:Type}:∀{l:List α} {i:Nat} (y:α),i<l.length->l.take i++[y]++l.drop (i+1)=l.set i y
 | [],i,y,h=>by simp at h
 | a::l,0,y,h=>by simp
 | a::l,i+1,y,h=>by simpa using tw (l:=l) (i:=i) y (by simpa using h)
def MO.PC {G:List aX} {us:List SH} {vs:List (Option Nat)} {M O Q:SH} {ms:List ET} {a U:Option Nat} {f g:Int->Int} (hi:i<us.length) (h2:us.length=m.hs.length) (Z:∀(i:Nat) (u:SH) (cQ:List AM),us[i]?=some u->m.hs[i]?=some cQ->HO B u cQ)
  (v2:vs.length=m.vs.length) (v3:∀(i:Nat) (a:Option Nat) (f:Int->Int),vs[i]?=some a->m.vs[i]?=some f->VO B a f) (ht:t - 1<vs.length) (J:Al B ms (m.at i)) (Va:VO (B.and G) a f) (Vt:VO (B.and G) U g) {tt:Int}
  (s1:On (B.and G) λh=>Sl wo h (aK M) (ms++[⟨w,tt,U⟩])) (s2:On (B.and G) λh=>Sl EH1 h (aK O) (us.take i++[M]++us.drop (i+1))) (s3:On (B.and G) λh=>Sl EM h (aK Q) (vs.set (t - 1) a)) :
  MO (B.and G) (O,Q) {hs:=m.hs.set i (m.at i++[⟨w,g⟩]),vs:=m.vs.set (t - 1) f}:=by
 have N:=Bs.aJ B G;rw[tw M hi] at s2;refine⟨⟨vs.set (t - 1) a,s3,by rw[List.length_set,List.length_set,v2],λj y e A he=>?_⟩,⟨us.set i M,s2,by rw[List.length_set,List.length_set,h2],λj y e A he=>?_⟩⟩
 ·have he:(m.vs.set (t - 1) f)[j]?=some e:=he;rw[List.getElem?_set] at A he;by_cases K:t - 1=j
  ·rw[if_pos K,if_pos (by omega)] at A he;injection A with A; injection he with he;subst A he;exact Va
  ·rw[if_neg K] at A he;exact(v3 j y e A he).le N
 ·have he:(m.hs.set i (m.at i++[⟨w,g⟩]))[j]?=some e:=he;rw[List.getElem?_set] at A he;by_cases K:i=j
  ·rw[if_pos K,if_pos (by omega)] at A he;injection A with A; injection he with he;subst A he;refine⟨_,s1,by rw[List.length_append,List.length_append,J.1,List.length_singleton,List.length_singleton],λp q r E H=>?_⟩;by_cases V:p<ms.length
   ·rw[List.getElem?_append_left V] at E;rw[List.getElem?_append_left (by rw[<-J.1]; exact V)] at H;exact⟨(J.2 p q r E H).1,(J.2 p q r E H).2.le N⟩
   ·rw[List.getElem?_append_right (by omega)] at E;rw[List.getElem?_append_right (by have:=J.1; omega),<-J.1] at H;cases X:p - ms.length with
    | zero=>
     rw[X] at E H;simp only[List.getElem?_cons_zero,Option.some.injEq] at E H;subst E H;exact⟨rfl,Vt⟩
    | succ z=>rw[X] at E; simp at E
  ·rw[if_neg K] at A he;exact(Z j y e A he).le N
def KF (q:B.p h) (H:MO B x m) (k:Mk T n b m) (hb:b<=900000) (Z:1<=t/\t<=T) (hi:i<n) {wl:Bool}
  (hR:∀x',Rt B h (λB=>MO B x' (m.add t i w wl)) λh'=>R (xA x') h'):S.C 134 [(xA x),(.int .i64 t),(.int .i64 i),(mW w),(.bool wl)] h R:=by
 refine sv.2 ?_;obtain⟨us,h1,h2,h3⟩:=H.hs;obtain⟨vs,v1,v2,v3⟩:=id H.vs;have hn:=k.hs;have hT:=k.vs;have hle:=k.le;have hu:=List.getElem?_eq_getElem (l:=us) (i:=i) (by omega);obtain⟨hm,iF,iN⟩:=k.at hi;obtain⟨ms,hs,ha⟩:=h3 _ _ _ hu hm;generalize us[i]=u at hu hs;have A:ms.length=(m.at i).length:=ha.1;obtain⟨vr,er,Hr,_⟩:=(h1 h q).sub (n:=1) rfl (lo:=some (.int .i64 ((i:Int)+1))) (hi:=none) (l:=i+1) (.inr ⟨_,_,rfl,by omega⟩) (.inl ⟨rfl,rfl⟩) (by omega) (Nat.le_refl _);rw[List.take_length] at Hr;obtain⟨ac,ec,Hc⟩:=(h1 h q).clip (n:=1) (k:=.i64) (k':=.i64) rfl (z:=(i:Int)) rfl (by omega:i<=us.length);have E:(us.take i).length=i:=by rw[List.length_take]; omega
 have fin:∀(a:Option Nat) (M:List aX) (r1 r2 r3 r4 ro:Nat) (h':Hp),Cx (λ_=>False) h h' [rV r1 (Fi x),rV r2 (cW w),rV r3 L3,rV r4 [aK u],rV ro [.map a],aD M]->VO (B.and M) a (fL (m.view t) i (m.at i).length)->
  ∃aS a M,bE ro=bE aS/\Cx (λ_=>False) h h' [rV r1 (Fi x),rV r2 (cW w),rV r3 L3,rV r4 [aK u],rV aS [.map a],aD M]/\VO (B.and M) a (fL (m.view t) i (m.at i).length):=λa M r1 r2 r3 r4 ro h' c ok=>⟨ro,a,M,rfl,c,ok⟩
 cases wl with
 | true=>
  have c:=Cx.aB h;refine c.v2 λU _ c=>?_;refine c.v3 λV _ c=>?_;refine c.v2 λJ _ c=>?_;refine aE<|c.rc 0 ?_;refine(h1 _ (B.up q c.gr)).whole rfl hu rfl ?_;refine c.v1 λK _ c=>?_;refine c.w1 3 λ_ c=>?_;refine m3.at (λv h'=>∃ro a M,v=bE ro/\Cx (λ_=>False) h h' [rV U (Fi x),rV V (cW w),rV J L3,rV K [aK u],rV ro [.map a],aD M]/\VO (B.and M) a (fL (m.view t) i (m.at i).length)) ?_ ?_
  ·refine c.rl 0 ?_;refine c.rl 3 ?_;refine⟨?_,?_⟩
   ·refine jY (B.up q c.gr) H k Z λa Va _ g=>?_;have c:=c.more g;refine c.al 3 ?_;refine⟨?_,?_⟩
    ·refine ru (hs _ (B.up q c.gr)) λ_ g=>?_;have c:=c.more g;rw[A];refine⟨?_,?_⟩
     ·refine nP (B.up q c.gr) Va ⟨by omega,by omega⟩ (Int.natCast_nonneg _) λX M _ d ok=>?_;have c:=c.aF d;replace c:=c.n5;refine c.v1 λ_ _ c=>?_;refine c.w1 5 λ_ c=>?_;exact fin _ M _ _ _ _ _ _ (c.pick [0,1,2,3,5,4]) ok
     ·refine c.v1 λ_ _ c=>?_;refine nP (B.up q c.gr) Va ⟨by omega,by omega⟩ (Int.natCast_nonneg _) λX M _ d ok=>?_;have c:=c.aF d;replace c:=c.n6;refine c.w1 4 λ_ c=>?_;exact fin _ M _ _ _ _ _ _ (c.pick [0,1,2,3,4,5]) ok
    ·refine c.v1 λ_ _ c=>?_;refine c.al 3 ?_;refine ru (hs _ (B.up q c.gr)) λ_ g=>?_;have c:=c.more g;rw[A];refine nP (B.up q c.gr) Va ⟨by omega,by omega⟩ (Int.natCast_nonneg _) λX M _ d ok=>?_;have c:=c.aF d;replace c:=c.n6;refine c.w1 4 λ_ c=>?_;exact fin _ M _ _ _ _ _ _ (c.pick [0,1,2,3,4,5]) ok
   ·refine c.v1 λ_ _ c=>?_;refine c.al 3 ?_;refine c.al 0 ?_;refine jY (B.up q c.gr) H k Z λa Va _ g=>?_;have c:=c.more g;refine c.al 3 ?_;refine ru (hs _ (B.up q c.gr)) λ_ g=>?_;have c:=c.more g;rw[A];refine nP (B.up q c.gr) Va ⟨by omega,by omega⟩ (Int.natCast_nonneg _) λX M _ d ok=>?_;have c:=c.aF d;replace c:=c.n6;refine c.w1 4 λ_ c=>?_;exact fin _ M _ _ _ _ _ _ (c.pick [0,1,2,3,4,5]) ok
  ·rintro _ h6 ⟨ro,a,M,rfl,c,ok⟩;replace c:=c.n6;refine c.rl 4 ?_;refine c.v1 λ_ _ c=>?_;refine c.w1 6 λ_ c=>?_;refine .here<|vx (v:=.bool false) (rfl)<|aN<|aE<|c.rc 0 ?_;refine vx (iQ ⟨by omega,by omega⟩)<|vx er<|aE<|c.rc 0 ?_;refine vx ec<|c.rl 3 ?_;refine c.rl 1 ?_;refine c.rl 6 ?_;refine vx (aG (ds:=[_,_,_,_,_]) rfl)<|LC (m:=⟨w,t,a⟩) (hs _ (B.up q c.gr)) (by omega) λG _ d=>?_;have c:=c.aF d;replace c:=c.n8;refine c.ac 0 ?_;refine c.dN EH1 G rfl rfl λaT _ c=>?_;replace c:=c.n9;refine c.ac 0 ?_;refine c.MP (Hc.gr c.gr) (c.sl (i:=8) rfl).sl (by simp) rfl rfl (by rw[E,List.length_singleton]; omega) (by rw[E,List.length_singleton]; omega) λbY _ c=>?_;replace c:=c.Oo;refine c.ap 9 rfl (Hr.gr c.gr) rfl rfl (by simp only[List.length_append,List.length_take,List.length_drop,List.length_singleton]; omega) (by simp only[List.length_append,List.length_take,List.length_drop,List.length_singleton]; omega) λdO _ c=>?_;obtain⟨O,rfl⟩:=(c.sl (i:=9) rfl).ol;replace c:=c.Oo;refine aE<|c.q2 0 λ_ c=>?_;refine c.rl 0 ?_;refine c.rl 4 ?_;refine B8 (x:=(O,x.2)) (t:=t) (v1 _ (B.up q c.gr)) (by omega) ⟨Z.1,by omega⟩ λQ _ d=>?_;have c:=c.aF d;replace c:=c.QH;refine c.w2 2 λ_ c=>?_;refine c.rl 2 ?_;refine hR (O,Q) [aD M,bJ wo (aK G) (ms++[(⟨w,t,a⟩:ET)]),bJ EH1 (aK O) (us.take i++[G]++us.drop (i+1)),bJ EM (aK Q) (vs.set (t - 1) a)] _ (Cx.pack (L:=[]) (c.pick [5,7,9,10])) ?_;have Va:VO (B.and [aD M,bJ wo (aK G) (ms++[(⟨w,t,a⟩:ET)]),bJ EH1 (aK O) (us.take i++[G]++us.drop (i+1)),bJ EM (aK Q) (vs.set (t - 1) a)]) a (fL (m.view t) i (m.at i).length):=ok.le λh b=>⟨b.1,Bs.star b (i:=0) rfl⟩;exact MO.PC (by omega) h2 h3 v2 v3 (by omega) ha Va Va (On.sl (i:=1) rfl) (On.sl (i:=2) rfl) (On.sl (i:=3) rfl)
 | false=>
  have c:=Cx.aB h;refine c.v2 λU _ c=>?_;refine c.v3 λV _ c=>?_;refine c.v2 λJ _ c=>?_;refine aE<|c.rc 0 ?_;refine(h1 _ (B.up q c.gr)).whole rfl hu rfl ?_;refine c.v1 λK _ c=>?_;refine c.w1 3 λ_ c=>?_;refine m3.at (λv h'=>∃ro a M,v=bE ro/\Cx (λ_=>False) h h' [rV U (Fi x),rV V (cW w),rV J L3,rV K [aK u],rV ro [.map a],aD M]/\VO (B.and M) a (fL (m.view t) i (m.at i).length)) ?_ ?_
  ·refine c.rl 0 ?_;refine c.rl 3 ?_;refine⟨?_,?_⟩
   ·refine jY (B.up q c.gr) H k Z λa Va _ g=>?_;have c:=c.more g;refine c.al 3 ?_;refine⟨?_,?_⟩
    ·refine ru (hs _ (B.up q c.gr)) λ_ g=>?_;have c:=c.more g;rw[A];refine⟨?_,?_⟩
     ·refine nP (B.up q c.gr) Va ⟨by omega,by omega⟩ (Int.natCast_nonneg _) λX M _ d ok=>?_;have c:=c.aF d;replace c:=c.n5;refine c.v1 λ_ _ c=>?_;refine c.w1 5 λ_ c=>?_;exact fin _ M _ _ _ _ _ _ (c.pick [0,1,2,3,5,4]) ok
     ·refine c.v1 λ_ _ c=>?_;refine nP (B.up q c.gr) Va ⟨by omega,by omega⟩ (Int.natCast_nonneg _) λX M _ d ok=>?_;have c:=c.aF d;replace c:=c.n6;refine c.w1 4 λ_ c=>?_;exact fin _ M _ _ _ _ _ _ (c.pick [0,1,2,3,4,5]) ok
    ·refine c.v1 λ_ _ c=>?_;refine c.al 3 ?_;refine ru (hs _ (B.up q c.gr)) λ_ g=>?_;have c:=c.more g;rw[A];refine nP (B.up q c.gr) Va ⟨by omega,by omega⟩ (Int.natCast_nonneg _) λX M _ d ok=>?_;have c:=c.aF d;replace c:=c.n6;refine c.w1 4 λ_ c=>?_;exact fin _ M _ _ _ _ _ _ (c.pick [0,1,2,3,4,5]) ok
   ·refine c.v1 λ_ _ c=>?_;refine c.al 3 ?_;refine c.al 0 ?_;refine jY (B.up q c.gr) H k Z λa Va _ g=>?_;have c:=c.more g;refine c.al 3 ?_;refine ru (hs _ (B.up q c.gr)) λ_ g=>?_;have c:=c.more g;rw[A];refine nP (B.up q c.gr) Va ⟨by omega,by omega⟩ (Int.natCast_nonneg _) λX M _ d ok=>?_;have c:=c.aF d;replace c:=c.n6;refine c.w1 4 λ_ c=>?_;exact fin _ M _ _ _ _ _ _ (c.pick [0,1,2,3,4,5]) ok
  ·rintro _ h6 ⟨ro,a,M,rfl,c,ok⟩;replace c:=c.n6;refine c.rl 4 ?_;refine c.v1 λ_ _ c=>?_;refine c.w1 6 λ_ c=>?_;refine .here<|vx (v:=.bool true) (rfl)<|bU<|vx (aG (ds:=[_]) rfl)<|c.rl 3 ?_;refine ru (hs _ (B.up q c.gr)) λ_ g=>?_;have c:=c.more g;rw[A];refine nP (B:=B.and M) (a:=none) ⟨B.up q c.gr,c.get (i:=5) rfl⟩ (VO.zero _) ⟨by omega,by omega⟩ (Int.natCast_nonneg _) λa3 N _ d eQ=>?_;have c:=c.aF d;replace c:=c.n8;refine c.w1 6 λ_ c=>?_;refine aE<|c.rc 0 ?_;refine vx (iQ ⟨by omega,by omega⟩)<|vx er<|aE<|c.rc 0 ?_;refine vx ec<|c.rl 3 ?_;refine c.rl 1 ?_;refine c.rl 6 ?_;refine vx (aG (ds:=[_,_,_,_,_]) rfl)<|LC (m:=⟨w,t,a3⟩) (hs _ (B.up q c.gr)) (by omega) λG _ d=>?_;have c:=c.aF d;replace c:=c.n9;refine c.ac 0 ?_;refine c.dN EH1 G rfl rfl λaT _ c=>?_;replace c:=c.Oo;refine c.ac 0 ?_;refine c.MP (Hc.gr c.gr) (c.sl (i:=9) rfl).sl (by simp) rfl rfl (by rw[E,List.length_singleton]; omega) (by rw[E,List.length_singleton]; omega) λbY _ c=>?_;replace c:=c.QH;refine c.ap 10 rfl (Hr.gr c.gr) rfl rfl (by simp only[List.length_append,List.length_take,List.length_drop,List.length_singleton]; omega) (by simp only[List.length_append,List.length_take,List.length_drop,List.length_singleton]; omega) λdO _ c=>?_;obtain⟨O,rfl⟩:=(c.sl (i:=10) rfl).ol;replace c:=c.QH;refine aE<|c.q2 0 λ_ c=>?_;refine c.rl 0 ?_;refine c.rl 4 ?_;refine B8 (x:=(O,x.2)) (t:=t) (v1 _ (B.up q c.gr)) (by omega) ⟨Z.1,by omega⟩ λQ _ d=>?_;have c:=c.aF d;replace c:=c.Vk;refine c.w2 2 λ_ c=>?_;refine c.rl 2 ?_;refine hR (O,Q) [aD M,bJ wo (aK G) (ms++[(⟨w,t,a3⟩:ET)]),bJ EH1 (aK O) (us.take i++[G]++us.drop (i+1)),bJ EM (aK Q) (vs.set (t - 1) a),aD N] _ (Cx.pack (L:=[]) (c.pick [5,8,10,11,7])) ?_;have Va:VO (B.and [aD M,bJ wo (aK G) (ms++[(⟨w,t,a3⟩:ET)]),bJ EH1 (aK O) (us.take i++[G]++us.drop (i+1)),bJ EM (aK Q) (vs.set (t - 1) a),aD N]) a (fL (m.view t) i (m.at i).length):=ok.le λh b=>⟨b.1,Bs.star b (i:=0) rfl⟩;have Vt:VO (B.and [aD M,bJ wo (aK G) (ms++[(⟨w,t,a3⟩:ET)]),bJ EH1 (aK O) (us.take i++[G]++us.drop (i+1)),bJ EM (aK Q) (vs.set (t - 1) a),aD N]) a3 _:=eQ.le λh b=>⟨⟨b.1,Bs.star b (i:=0) rfl⟩,Bs.star b (i:=4) rfl⟩;exact MO.PC (by omega) h2 h3 v2 v3 (by omega) ha Va Vt (On.sl (i:=1) rfl) (On.sl (i:=2) rfl) (On.sl (i:=3) rfl)
def Io (u:B.p h) (H:MO B x m) (k:Mk T n b m) (E:b<=900000) (A:1<=t/\t<=T) (hi:i<n) {wl:Bool}
  (G:∀q,Rt B h (λB=>MO B q (m.add t i w wl)) λh'=>R (.tuple #[xA q,.int .i64 0]) h'):S.C 115 [(xA x),(.int .i64 t),(.int .i64 i),(mW w),(.bool wl)] h R:=by
 refine qN.2 ?_;have c:=Cx.aB h;refine c.v2 λ_ _ c=>?_;refine c.v3 λ_ _ c=>?_;refine c.v2 λ_ _ c=>?_;refine c.rl 0 ?_;refine CB (B.up u c.gr) H k A hi λ_ g=>?_;have c:=c.more g;refine vx (v:=.bool false) rfl<|aN<|c.rl 0 ?_;refine c.rl 1 ?_;refine KF (w:=w) (B.up u c.gr) H k E A hi λq M _ d ok=>?_;have c:=c.aF d;replace c:=c.n4;refine c.w2 2 λ_ c=>?_;refine c.rl 2 ?_;exact G q M _ (c.pick [3]) ok
def Mk.lO (k:Mk T n b m) (q:Nat) (j:Bool):Mk T n b (m.lO t i q am j):=⟨(List.length_set ..).trans k.vs,k.hs,k.le,k.len⟩
def Mk.add (k:Mk T n b m) (hi:i<n) {wl:Bool}:Mk T n (b+1) (m.add t i w wl):=by
 obtain⟨hm,h1,h2⟩:=k.at hi;refine⟨(List.length_set ..).trans k.vs,(List.length_set ..).trans k.hs,k.le,λcQ has=>?_⟩;rcases List.mem_or_eq_of_mem_set has with h | rfl
 ·have:=k.len cQ h;omega
 ·rw[List.length_append,List.length_singleton];omega
def W3.iff (a b:W3):(a.v=b.v/\a.aO=b.aO/\a.ref=b.ref)↔a=b:=by
 obtain⟨q,u,A⟩:=a;obtain⟨E,G,H⟩:=b;simp
instance:DecidableEq W3:=λa b=>decidable_of_iff _ (W3.iff a b)
def Me.Dm (m:Me) (t i:Nat) (old new:W3):Me:=if (m.top i).w=old then(m.lO t i ((m.at i).length - 1) (m.top i) true).add t i new true else m.lO t i ((m.at i).length - 1) (m.top i) true
def LG (a b:W3):nX (tg [true,true,true] (.agg ⟨cW a⟩) (.agg ⟨cW b⟩))=some (.bool (decide (a≠b))):=by
 have:tg [true,true,true] (.agg ⟨cW a⟩) (.agg ⟨cW b⟩)=some (decide (a=b)):=by
  show((some (a.v == b.v)).bind λx=>((some (a.aO == b.aO)).bind λx=>((some (a.ref == b.ref)).bind λx=>(some true).bind λq=>some (x&&q)).bind λq=>some (x&&q)).bind λq=>some (x&&q))=_;have:=W3.iff a b;by_cases h1:a.v=b.v <;> by_cases h2:a.aO=b.aO <;> by_cases u:a.ref=b.ref <;> simp[h1,h2,u,<-this]
 rw[this,E2];by_cases h:a=b <;> simp[h]
def Kw (A:B.p h) (H:MO B x m) (k:Mk T n b m) (J:b<=900000) (E:1<=t/\t<=T) (hi:i<n) {old new:W3}
  (u:∀q,Rt B h (λB=>MO B q (m.Dm t i old new)) λh'=>R (.tuple #[xA q,mW (m.top i).w,.bool (decide ((m.top i).w=old)),.int .i64 0]) h'):S.C 114 [(xA x),(.int .i64 t),(.int .i64 i),(mW old),(mW new)] h R:=by
 refine rN.2 ?_;by_cases e:(m.top i).w=old
 ·rw[Me.Dm,if_pos e,decide_eq_true e] at u;have c:=Cx.aB h;refine c.v2 λ_ _ c=>?_;refine c.v3 λ_ _ c=>?_;refine c.v3 λ_ _ c=>?_;refine c.v2 λ_ _ c=>?_;refine c.v3 λ_ _ c=>?_;refine c.rl 0 ?_;refine FZ (B.up A c.gr) H k (by omega) E hi λq M _ d ok=>?_;have c:=c.aF d;replace c:=c.n6;refine vx rfl<|vx rfl<|vx rfl<|c.v2 λ_ _ c=>?_;refine c.v3 λ_ _ c=>?_;refine c.w2 6 λ_ c=>?_;refine c.w3 7 λ_ c=>?_;refine .here<|vx (v:=.bool false) rfl<|aN<|c.rl 7 ?_;refine c.rl 1 ?_;refine vx ((LG _ _).trans (by rw[decide_eq_false λh=>h e]))<|aN<|c.rl 6 ?_;refine c.rl 2 ?_;refine c.rl 7 ?_;refine KF (B:=B.and M) (w:=new) ⟨B.up A c.gr,c.get (i:=5) rfl⟩ ok (k.lO _ _) J E hi λK N _ d G=>?_;have c:=c.aF d;replace c:=c.n9;refine c.al 7 ?_;refine c.w2 3 λ_ c=>?_;refine c.al 7 ?_;refine c.w3 4 λ_ c=>?_;refine c.rl 3 ?_;refine c.rl 4 ?_;exact u K [aD M,aD N] _ (Cx.pack (L:=[]) (c.pick [5,8])) (G.le Bs.Ay)
 ·rw[Me.Dm,if_neg e,decide_eq_false e] at u;have c:=Cx.aB h;refine c.v2 λ_ _ c=>?_;refine c.v3 λ_ _ c=>?_;refine c.v3 λ_ _ c=>?_;refine c.v2 λ_ _ c=>?_;refine c.v3 λ_ _ c=>?_;refine c.rl 0 ?_;refine FZ (B.up A c.gr) H k (by omega) E hi λq M _ d ok=>?_;have c:=c.aF d;replace c:=c.n6;refine vx rfl<|vx rfl<|vx rfl<|c.v2 λ_ _ c=>?_;refine c.v3 λ_ _ c=>?_;refine c.w2 6 λ_ c=>?_;refine c.w3 7 λ_ c=>?_;refine .here<|vx (v:=.bool false) rfl<|aN<|c.rl 7 ?_;refine c.rl 1 ?_;refine vx ((LG _ _).trans (by rw[decide_eq_true e]))<|bU<|c.rl 6 ?_;refine c.rl 7 ?_;refine c.w2 3 λ_ c=>?_;refine c.al 7 ?_;refine c.w3 4 λ_ c=>?_;refine c.rl 3 ?_;refine c.rl 4 ?_;exact u q M _ (c.pick [5]) ok
end
section
variable {α:Type} {E:jZ α} {v:Value} {xs:List α}
def Sl.isNil (H:Sl E h v xs):∃b,Mz v (.slice none 0 0)=some b/\(b=true->xs=[]):=by
 obtain⟨a,cap,rfl,h1,h2,q⟩:=H;cases a with
 | none=>exact⟨true,rfl,λ_=>List.eq_nil_of_length_eq_zero (by have:=h2 rfl; omega)⟩
 | some a=>exact⟨false,rfl,λe=>by cases e⟩
def sk {zero:Array Value} {n bytes:Nat} {e A:TypeId} (hs:Sl E h v xs) (G:n=E.n) (H:zero.size=E.n) (J:xs.length*bytes<=140737488355328) (M:xs.length<=1000000000) (q:∀u h',Cx (λ_=>False) h h' [bJ E (aK u) xs]->R (aK u) h') :
  Vb (pos? (Mz v (.slice none 0 0))) λv4=>Br v4 (R (.slice none 0 0) h) (Eb (zO zero n 0 e [] h) λv5 h1=>Ap A zero n bytes v5 v h1 λv7 h2=>R v7 h2):=by
 obtain⟨b,e,K⟩:=hs.isNil;rw[e];refine En.vb (v:=.bool b) rfl ?_;cases b with
 | true=>
  obtain rfl:=K rfl;exact q (none,0,0) _ ((Cx.aB h).nil E)
 | false=>
  refine aN ?_;have c:=Cx.aB h;refine c.Aj E λu h1 c=>?_;refine c.ap 0 rfl (ys:=xs) (hs.gr c.gr) G H (by simpa using J) (by simp only[List.length_nil]; omega) λN h2 c=>?_;obtain⟨u,rfl⟩:=(c.sl (i:=0) rfl).ol;exact q u _ c
def Ia {n:Nat} {u:Value} (hs:Sl E h v xs) (e:sB n v none (some (.int .i64 xs.length)) (some (.int .i64 xs.length))=some u) (q:R u h) :
  Vb (B5 v) λv5=>Vb (B5 v) λv7=>Vb (sB n v none (some v5) (some v7)) λv8=>R v8 h:=
 En.vb hs.ln (En.vb hs.ln (En.vb e q))
def Sl.yP (hs:Sl E h v xs) {n:Nat} (q:n=E.n):∃a,sB n v none (some (.int .i64 xs.length)) (some (.int .i64 xs.length))=some (.slice a xs.length xs.length)/\Sl E h (.slice a xs.length xs.length) xs:=by
 obtain⟨a,e,Hc⟩:=hs.clip (n:=n) (k:=.i64) (k':=.i64) q rfl (Nat.le_refl _);rw[List.take_length] at e Hc;exact⟨a,e,Hc⟩
def Cx.RO (c:Cx F0 h0 h L) (i:Nat) (hi:L[i]?=some (bJ E v xs)) {p:Nat} {x:α} (G:xs[p]?=some x) (y:α) {n:Nat} (H:n=E.n) {q:IntKind} {z:Int} (J:z=p) {r o j:Nat} (e:nh n v (.int q z)=some (.pointer (some ⟨r,o,none⟩))) {w:Value} (hw:w.oneCell'=true) (K:j<E.n) (M:E.c y=(E.c x).set j w) {k:Hp->Prop}
  (N:∀h',Cx F0 h0 h' (L.set i (bJ E v (xs.set p y)))->k h'):Sb (En.bF 1 (.pointer (some ⟨r,o+j,none⟩)) w h) k:=by
 obtain⟨_,u,_,A,s⟩:=c.EJ i hi G y H J hw K M N;rw[e] at u;injection u with u;subst u;rw[gQ] at A;injection A with A;subst A;exact s
end
abbrev RA:Type:=Int × W3
def QS:jZ RA:={n:=4,c:=λx=>[.int .i64 x.1,.int .i64 x.2.v,.int .u32 x.2.aO,.int .u32 x.2.ref],len:=λ_=>rfl,one:=λa v h=>by simp only[List.mem_cons,List.not_mem_nil,or_false] at h; rcases h with rfl | rfl | rfl | rfl <;> rfl}
def J9:jZ (SH × Int):={n:=2,c:=λx=>[aK x.1,.int .i64 x.2],len:=λ_=>rfl,one:=λa v h=>by simp only[List.mem_cons,List.not_mem_nil,or_false] at h; rcases h with rfl | rfl <;> rfl}
structure Li where
 fst:List W3
 lg:List (List RA × Int)
 cQ:Option Nat
structure LV where
 f:SH
 l:SH
 a:Option Nat
def KV (y:LV):Value:=.agg #[aK y.f,aK y.l,.map y.a]
structure LO (B:Bs) (y:LV) (l:Li):Prop where
 fst:On B λh=>Sl EW h (aK y.f) l.fst
 lg:∃us:List (SH × Int),(On B λh=>Sl J9 h (aK y.l) us)/\us.length=l.lg.length/\∀(i:Nat) (u:SH × Int) (g:List RA × Int),us[i]?=some u->l.lg[i]?=some g->u.2=g.2/\On B λh=>Sl QS h (aK u.1) g.1
 cQ:y.a=l.cQ
def LO.le {y:LV} {l:Li} (H:LO B y l) (le:B.le B'):LO B' y l:=by
 obtain⟨a,⟨us,b,c,d⟩,e⟩:=H;exact⟨a.le le,⟨us,b.le le,c,λi u g h1 h2=>⟨(d i u g h1 h2).1,(d i u g h1 h2).2.le le⟩⟩,e⟩
structure Lk (n b:Nat) (l:Li):Prop where
 fst:l.fst.length=n
 lg:l.lg.length=(n+7) / 8
 le:n<=4096
 len:∀g∈l.lg,g.1.length<=b
def Li.bF (l:Li) (i:Nat) (w:W3):Li:={l with lg:=l.lg.set (i / 8) (((l.lg.getD (i / 8) ([],0)).1++[((i:Int),w)]),(l.lg.getD (i / 8) ([],0)).2)}
def Lk.bF {n b i:Nat} {l:Li} {w:W3} (k:Lk n b l) (hi:i<n):Lk n (b+1) (l.bF i w):=by
 refine⟨k.fst,(List.length_set ..).trans k.lg,k.le,λg q=>?_⟩;rcases List.mem_or_eq_of_mem_set q with h | rfl
 ·have:=k.len g h;omega
 ·have u:=k.lg;have:l.lg[i / 8]?=some (l.lg.getD (i / 8) ([],0)):=by
   rw[List.getD_eq_getElem?_getD,List.getElem?_eq_getElem (by omega)]; rfl
  have:=k.len _ (List.mem_of_getElem? this);rw[List.length_append,List.length_singleton];omega
section
variable {n b i:Nat} {y:LV} {l:Li} {w:W3} {ws:List W3}
def uJ {v:Value} (hs:Sl EW h v ws) (A:ws.length<=1000000) (q:∀u h',Cx (λ_=>False) h h' [bJ EW (aK u) ws]->R (aK u) h'):S.C 82 [v] h R:=by
 refine fW.2 ?_;dsimp only[fW,iJ];exact sk hs rfl rfl (by omega) (by omega) q
def wg {v:Value} {us:List (SH × Int)} (hs:Sl J9 h v us) (A:us.length<=1000000) (q:∀u h',Cx (λ_=>False) h h' [bJ J9 (aK u) us]->R (aK u) h'):S.C 121 [v] h R:=by
 refine fR.2 ?_;dsimp only[fR,iJ];exact sk hs rfl rfl (by omega) (by omega) q
def nO {v:Value} {us:List Int} (hs:Sl mf h v us) (A:us.length<=1000000) (q:∀u h',Cx (λ_=>False) h h' [bJ mf (aK u) us]->R (aK u) h'):S.C 58 [v] h R:=by
 refine kU.2 ?_;dsimp only[kU,iJ];exact sk hs rfl rfl (by omega) (by omega) q
def Iw {v u:Value} {us:List RA} (hs:Sl QS h v us) (e:sB 4 v none (some (.int .i64 us.length)) (some (.int .i64 us.length))=some u) (q:R u h):S.C 136 [v] h R:=by
 refine fD.2 ?_;dsimp only[fD,iJ];exact Ia hs e q
def Dy (q:B.p h) (H:LO B y l) (k:Lk n b l) (hi:i<n) (u:∀h',Gr h h'->R (.bool true) h'):S.C 118 [(KV y),(.int .i64 i)] h R:=by
 refine wI.2 ?_;have A:=k.fst;have c:=Cx.aB h;refine c.v3 λ_ _ c=>?_;refine .here<|vx (ny (by omega))<|bU<|aE<|c.rc 0 ?_;exact vx (H.fst h q).ln<|vx (qA (by omega))<|u _ c.gr
def zh (Q:B.p h) (H:LO B y l) (k:Lk n b l) (hb:b<=900000) (hi:i<n)
  (hR:∀y',Rt B h (λB=>LO B y' (l.bF i w)) λh'=>R (.tuple #[KV y',.int .i64 0]) h'):S.C 116 [(KV y),(.int .i64 i),(mW w)] h R:=by
 refine um.2 ?_;obtain⟨us,h1,h2,U⟩:=H.lg;have hl:=k.lg;have hle:=k.le;have V:i / 8<us.length:=by omega
 have hu:=List.getElem?_eq_getElem (l:=us) (i:=i / 8) V;have hg:l.lg[i / 8]?=some (l.lg.getD (i / 8) ([],0)):=by
  rw[List.getD_eq_getElem?_getD,List.getElem?_eq_getElem (by omega)]; rfl
 obtain⟨X,s1⟩:=U _ _ _ hu hg;have dO:=k.len _ (List.mem_of_getElem? hg);generalize us[i / 8]=u at hu X s1;obtain⟨u,kp⟩:=u;dsimp only at X s1;obtain⟨ac,ec,Hc⟩:=(s1 h Q).yP (n:=4) rfl;have Z:((i:Int)) / 8=((i / 8:Nat):Int):=by omega
 have fin:∀(f J:SH) (M:List aX) (G:SH),M=[bJ J9 (aK J) (us.set (i / 8) (G,kp)),bJ QS (aK G) ((l.lg.getD (i / 8) ([],0)).1++[((i:Int),w)])]->LO (B.and M) ⟨y.f,J,y.a⟩ (l.bF i w):=λf J M G hM=>by
  subst hM;refine⟨H.fst.le (Bs.aJ _ _),⟨_,On.sl (i:=0) rfl,by rw[List.length_set,Li.bF,List.length_set,h2],λj p q N K=>?_⟩,H.cQ⟩;have K:(l.lg.set (i / 8) (((l.lg.getD (i / 8) ([],0)).1++[((i:Int),w)]),(l.lg.getD (i / 8) ([],0)).2))[j]?=some q:=K;rw[List.getElem?_set] at N K;by_cases ej:i / 8=j
  ·rw[if_pos ej,if_pos (by omega)] at N K;injection N with N; injection K with K;subst N K;exact⟨X,On.sl (i:=1) rfl⟩
  ·rw[if_neg ej] at N K;exact⟨(U j p q N K).1,(U j p q N K).2.le (Bs.aJ _ _)⟩
 have c:=Cx.aB h;refine c.v3 λ_ _ c=>?_;refine c.v3 λ_ _ c=>?_;refine c.v3 λ_ _ c=>?_;refine c.rl 0 ?_;refine Dy (B.up Q c.gr) H k hi λ_ g=>?_;have c:=c.more g;refine vx (v:=.bool false) (rfl)<|aN<|aE<|c.rc 0 ?_;refine wg (h1 _ (B.up Q c.gr)) (by omega) λJ _ d=>?_;have c:=c.aF d;replace c:=c.n4;refine aE<|c.q3 0 λ_ c=>?_;refine aE<|c.rc 0 ?_;refine vx (zl ⟨by omega,by omega⟩ (by decide)) ?_;rw[Z];obtain⟨r,o,cap,el,T,row⟩:=(c.sl (i:=3) rfl).ix hu (n:=2) rfl (k:=.i64) (z:=((i / 8:Nat):Int)) rfl;refine vx T ?_;refine .here<|vx rfl<|vx (gQ _ _ _)<|vx (row.eH (j:=0) rfl)<|c.rl 1 ?_;refine vx (aG (ds:=[_,_,_,_]) rfl)<|⟨?_,?_⟩
 ·refine Iw (s1 _ (B.up Q c.gr)) ec ?_;refine c.al 1 ?_;refine c.dN QS ((i:Int),w) rfl rfl λaS _ c=>?_;replace c:=c.n5;refine c.MP (Hc.gr c.gr) (c.sl (i:=4) rfl).sl (by simp) rfl rfl (by rw[List.length_singleton]; omega) (by rw[List.length_singleton]; omega) λaT _ c=>?_;obtain⟨G,rfl⟩:=(c.sl (i:=5) rfl).ol;replace c:=c.n6;refine vx rfl<|vx (gQ _ _ _)<|c.RO 3 rfl hu (G,kp) rfl rfl (j:=0) T rfl (by decide) rfl λ_ c=>?_;replace c:=c.n6;refine c.rl 0 ?_;refine c.w3 2 λ_ c=>?_;refine c.rl 2 ?_;exact hR ⟨y.f,J,y.a⟩ [bJ J9 (aK J) (us.set (i / 8) (G,kp)),bJ QS (aK G) ((l.lg.getD (i / 8) ([],0)).1++[((i:Int),w)])] _ (Cx.pack (L:=[]) (c.pick [3,5])) (fin y.f J _ G rfl)
 ·refine c.dN QS ((i:Int),w) rfl rfl λaS _ c=>?_;replace c:=c.n5;obtain⟨r',o',bY,eQ,A,O⟩:=(c.sl (i:=3) rfl).ix hu (n:=2) rfl (k:=.i64) (z:=((i / 8:Nat):Int)) rfl;rw[T] at A;injection A with A;injection A with A;injection A with A;injection A with e7 e8;subst e7;rw[<-e8] at O;refine And.intro (O.eH (j:=0) rfl) ?_;refine Iw (s1 _ (B.up Q c.gr)) ec ?_;refine c.MP (Hc.gr c.gr) (c.sl (i:=4) rfl).sl (by simp) rfl rfl (by rw[List.length_singleton]; omega) (by rw[List.length_singleton]; omega) λaT _ c=>?_;obtain⟨G,rfl⟩:=(c.sl (i:=5) rfl).ol;replace c:=c.n6;refine vx rfl<|vx (gQ _ _ _)<|c.RO 3 rfl hu (G,kp) rfl rfl (j:=0) T rfl (by decide) rfl λ_ c=>?_;replace c:=c.n6;refine c.rl 0 ?_;refine c.w3 2 λ_ c=>?_;refine c.rl 2 ?_;exact hR ⟨y.f,J,y.a⟩ [bJ J9 (aK J) (us.set (i / 8) (G,kp)),bJ QS (aK G) ((l.lg.getD (i / 8) ([],0)).1++[((i:Int),w)])] _ (Cx.pack (L:=[]) (c.pick [3,5])) (fin y.f J _ G rfl)
end
structure MV where
 x:SH × SH
 y:LV
 s:SH
 cr:Int
abbrev S1 (v:MV):List Value:=[aK v.x.1,aK v.x.2,aK v.y.f,aK v.y.l,.map v.y.a,aK v.s,.int .i64 v.cr]
def yC (v:MV):Value:=.agg #[aK v.x.1,aK v.x.2,aK v.y.f,aK v.y.l,.map v.y.a,aK v.s,.int .i64 v.cr]
structure Mc where
 me:Me
 li:Li
structure KO (B:Bs) (T:Nat) (v:MV) (m:Mc):Prop where
 me:MO B v.x m.me
 li:LO B v.y m.li
 st:∃ss:List Int,(On B λh=>Sl mf h (aK v.s) ss)/\ss.length=T
def KO.le {T:Nat} {v:MV} {m:Mc} (H:KO B T v m) (l:B.le B'):KO B' T v m:=let⟨a,b,ss,c,d⟩:=H; ⟨a.le l,b.le l,ss,c.le l,d⟩
structure Kk (T n b:Nat) (m:Mc):Prop where
 me:Mk T n b m.me
 li:Lk n b m.li
def Mc.look (m:Mc) (t i:Nat):Mc:={m with me:=m.me.lO t i ((m.me.at i).length - 1) (m.me.top i) true}
def Mc.swap (m:Mc) (t i:Nat) (old new:W3):Mc:={me:=m.me.Dm t i old new,li:=if (m.me.top i).w=old then m.li.bF i new else m.li}
def Mc.put (m:Mc) (t i:Nat) (w:W3) (wl:Bool):Mc:={me:=m.me.add t i w wl,li:=m.li.bF i w}
section
variable {T n b t i:Nat} {v:MV} {m:Mc} {w:W3}
def Lk.up {q:Nat} {l:Li} (k:Lk n b l) (u:b<=q):Lk n q l:=⟨k.fst,k.lg,k.le,λg A=>Nat.le_trans (k.len g A) u⟩
def Mk.up {q:Nat} {m:Me} (k:Mk T n b m) (A:b<=q):Mk T n q m:=⟨k.vs,k.hs,k.le,λg u=>⟨(k.len g u).1,Nat.le_trans (k.len g u).2 A⟩⟩
def yH (q:B.p h) (H:KO B T v m) (k:Kk T n b m) (u:∀h',Gr h h'->R (.tuple #[.int .i64 T,.int .i64 n]) h'):S.C 46 [(yC v)] h R:=by
 refine qq.2 ?_;have c:=Cx.aB h;refine c.v7 λ_ _ c=>?_;refine aE<|vx (c.vp (i:=0) (ds:=[_,_]) rfl rfl rfl)<|N3 (x:=v.x) (B.up q c.gr) H.me k.me λ_ g=>?_;have c:=c.more g;exact vx rfl<|vx rfl<|u _ c.gr
def nf (q:B.p h) (H:KO B T v m) (k:Kk T n b m) (u:b<=1000000) (hi:i<n) (A:∀h',Gr h h'->R (.tuple #[mW (m.me.top i).w,.bool true]) h'):S.C 27 [(yC v),(.int .i64 i)] h R:=by
 refine qp.2 ?_;have c:=Cx.aB h;refine c.v7 λ_ _ c=>?_;refine c.v3 λ_ _ c=>?_;refine aE<|vx (c.vp (i:=0) (ds:=[_,_]) rfl rfl rfl)<|OW (x:=v.x) (B.up q c.gr) H.me k.me u hi λ_ g=>?_;have c:=c.more g;refine vx rfl<|vx rfl<|c.w3 1 λ_ c=>?_;refine c.rl 1 ?_;exact A _ c.gr
def nH (G:B.p h) (H:KO B T v m) (k:Kk T n b m) (J:1<=t/\t<=T) {a:Ac} (ho:0<=a.op/\a.op<=8) (A:a.op≠0->a.op≠8->0<=a.at'/\a.at'<n) (E:∀h',Gr h h'->R (.int .i64 0) h'):S.C 87 [(yC v),(.int .i64 t),(lD a)] h R:=by
 refine pz.2 ?_;have c:=Cx.aB h;refine c.v7 λ_ _ c=>?_;refine c.v8 λ_ _ c=>?_;refine c.rl 0 ?_;refine yH (v:=v) (B.up G c.gr) H k λ_ g=>?_;have c:=c.more g;refine vx rfl<|vx rfl ?_;refine .here<|vx (dA (by omega))<|aN<|vx (ka (by omega))<|aN ?_;refine .here<|aE<|c.rc 1 ?_;refine vx (dA (by omega))<|aN<|aE<|c.rc 1 ?_;refine vx (ka (by omega))<|aN ?_;refine .here<|aE<|c.rc 1 ?_;refine vx dZ<|dW (λq=>?_) λq=>?_
 ·refine aE<|c.rc 1 ?_;refine vx dZ<|dW (λu=>?_) λu=>?_
  ·refine aE<|c.rc 1 ?_;refine vx (dA (Int.not_lt.2 (A q u).1))<|aN<|aE<|c.rc 1 ?_;exact vx (iO (Int.not_le.2 (A q u).2))<|aN<|E _ c.gr
  ·exact aN<|E _ c.gr
 ·exact aN<|E _ c.gr
def tW {a:Ac} {r:Bool} (A:r=decide (a.op=3\/a.op=4\/a.op=6)) (E:∀h',Gr h h'->R (.bool r) h'):S.C 88 [(lD a)] h R:=by
 refine uK.2 ?_;have h1:a.op=3->∀h',Gr h h'->R (.bool true) h':=λe h' g=>by
  have:=E h' g;rwa [A,decide_eq_true (.inl e)] at this
 have h2:a.op=4->∀h',Gr h h'->R (.bool true) h':=λe h' g=>by
  have:=E h' g;rwa [A,decide_eq_true (.inr (.inl e))] at this
 have G:¬a.op=3->¬a.op=4->∀h',Gr h h'->R (.bool (decide (a.op=6))) h':=λq u h' g=>by
  have:=E h' g;rwa [A,show decide (a.op=3\/a.op=4\/a.op=6)=decide (a.op=6) from decide_eq_decide.2 ⟨λh=>h.elim (λh=>absurd h q) λh=>h.elim (λh=>absurd h u) id,λh=>.inr (.inr h)⟩] at this
 have c:=Cx.aB h;refine c.v8 λ_ _ c=>?_;refine .here<|aE<|c.rc 0 ?_;refine vx bW<|dW (λq=>?_) λq=>?_
 ·first | exact h1 q _ c.gr | exact h2 u _ c.gr | exact G q u _ c.gr
 ·refine aE<|c.rc 0 ?_;refine vx bW<|dW (λu=>?_) λu=>?_
  ·first | exact h1 q _ c.gr | exact h2 u _ c.gr | exact G q u _ c.gr
  ·refine aE<|c.rc 0 ?_;refine vx bW ?_;first | exact h1 q _ c.gr | exact h2 u _ c.gr | exact G q u _ c.gr
def NQ (A:B.p h) (H:KO B T v m) (k:Kk T n b m) (E:b<=1000000) (G:1<=t/\t<=T) (hi:i<n) {J K:W3} {ch:Value} (N:∀q,Rt B h (λB=>KO B T q (m.look t i)) λh'=>R (.tuple #[yC q,eI ⟨(m.me.top i).w,true⟩]) h'):S.C 92 [(yC v),(.int .i64 t),(lD ⟨5,i,J,K⟩),ch] h R:=by
 refine gW.2 ?_;have c:=Cx.aB h;refine c.v7 λ_ _ c=>?_;refine c.v8 λ_ _ c=>?_;refine c.v7 λ_ _ c=>?_;refine c.v4 λ_ _ c=>?_;refine c.v3 λ_ _ c=>?_;refine .here<|aE<|c.rc 1 ?_;refine vx (v:=.bool true) rfl<|bU<|aE<|vx (c.vp (i:=0) (ds:=[_,_]) rfl rfl rfl)<|aE<|c.rc 1 ?_;refine FZ (x:=v.x) (B.up A c.gr) H.me k.me E G hi λO M _ d ok=>?_;have c:=c.aF d;replace c:=c.n6;refine vx rfl<|vx rfl<|vx rfl<|aE<|c.vq 0 rfl (vs:=[_,_]) (ds:=[_,_,_,_,_,_,_]) (by exact rfl) (by exact rfl) (by exact rfl) (by exact rfl) (by exact rfl) λ_ c=>?_;replace c:=c.n6;refine c.w3 4 λ_ c=>?_;refine c.rl 0 ?_;refine c.rl 4 ?_;refine vx (aG (ds:=[_,_,_,_]) rfl)<|c.w7 2 λ_ c=>?_;refine c.al 4 ?_;refine c.w4 3 λ_ c=>?_;refine c.rl 2 ?_;refine c.rl 3 ?_;exact N {v with x:=O} M _ (c.pick [5]) (let u:=H.le (Bs.aJ B M); ⟨ok,u.li,u.st⟩)
def NO (A:B.p h) (H:KO B T v m) (k:Kk T n b m) (E:b<=900000) (K:1<=t/\t<=T) (hi:i<n) {old new:W3} (q:∀O,Rt B h (λB=>KO B T O (m.swap t i old new)) λh'=>R (.tuple #[yC O,eI ⟨(m.me.top i).w,decide ((m.me.top i).w=old)⟩]) h'):S.C 89 [(yC v),(.int .i64 t),(lD ⟨6,i,old,new⟩)] h R:=by
 refine kD.2 ?_;by_cases e:(m.me.top i).w=old
 ·rw[Mc.swap,if_pos e,decide_eq_true e] at q;have c:=Cx.aB h;refine c.v7 λ_ _ c=>?_;refine c.v8 λ_ _ c=>?_;refine c.v7 λ_ _ c=>?_;refine c.v4 λ_ _ c=>?_;refine vx (aG (ds:=[_,_,_,_]) rfl)<|c.v4 λ_ _ c=>?_;refine c.w4 4 λ_ c=>?_;refine .here<|aE<|c.rc 1 ?_;refine vx (v:=.bool true) rfl<|bU<|aE<|vx (c.vp (i:=0) (ds:=[_,_]) rfl rfl rfl)<|aE<|c.rc 1 ?_;refine aE<|vx (c.vp (i:=1) (ds:=[_,_,_]) rfl rfl rfl)<|aE<|vx (c.vp (i:=1) (ds:=[_,_,_]) rfl rfl rfl)<|Kw (x:=v.x) (old:=old) (new:=new) (B.up A c.gr) H.me k.me E K hi λG M _ d ok=>?_;rw[decide_eq_true e];have c:=c.aF d;replace c:=c.n6;refine vx rfl<|vx rfl<|vx rfl<|vx rfl<|aE<|c.vq 0 rfl (vs:=[_,_]) (ds:=[_,_,_,_,_,_,_]) (by exact rfl) (by exact rfl) (by exact rfl) (by exact rfl) (by exact rfl) λ_ c=>?_;replace c:=c.n6;refine aE<|c.vq 4 rfl (vs:=[_,_,_]) (ds:=[_,_,_,_]) (by exact rfl) (by exact rfl) (by exact rfl) (by exact rfl) (by exact rfl) λ_ c=>?_;replace c:=c.n6;refine aE<|c.q4 4 λ_ c=>?_;refine .here<|aE<|c.rc 4 ?_;refine bU<|aE<|vx (c.vp (i:=0) (ds:=[_,_,_]) rfl rfl rfl)<|aE<|c.rc 1 ?_;refine aE<|vx (c.vp (i:=1) (ds:=[_,_,_]) rfl rfl rfl)<|zh (y:=v.y) (w:=new) (B.up A c.gr) H.li k.li E hi λQ N _ d J=>?_;have c:=c.aF d;replace c:=c.n7;refine vx rfl<|vx rfl<|aE<|c.vq 0 rfl (vs:=[_,_,_]) (ds:=[_,_,_,_,_,_,_]) (by exact rfl) (by exact rfl) (by exact rfl) (by exact rfl) (by exact rfl) λ_ c=>?_;replace c:=c.n7;refine c.rl 0 ?_;refine c.rl 4 ?_;refine c.w7 2 λ_ c=>?_;refine c.al 4 ?_;refine c.w4 3 λ_ c=>?_;refine c.rl 2 ?_;refine c.rl 3 ?_;exact q {v with x:=G,y:=Q} [aD M,aD N] _ (Cx.pack (L:=[]) (c.pick [5,6])) (let u:=H.le (Bs.aJ B [aD M,aD N]); ⟨ok.le λh b=>⟨b.1,Bs.star b (i:=0) rfl⟩,J.le λh b=>⟨b.1,Bs.star b (i:=1) rfl⟩,u.st⟩)
 ·rw[Mc.swap,if_neg e,decide_eq_false e] at q;have c:=Cx.aB h;refine c.v7 λ_ _ c=>?_;refine c.v8 λ_ _ c=>?_;refine c.v7 λ_ _ c=>?_;refine c.v4 λ_ _ c=>?_;refine vx (aG (ds:=[_,_,_,_]) rfl)<|c.v4 λ_ _ c=>?_;refine c.w4 4 λ_ c=>?_;refine .here<|aE<|c.rc 1 ?_;refine vx (v:=.bool true) rfl<|bU<|aE<|vx (c.vp (i:=0) (ds:=[_,_]) rfl rfl rfl)<|aE<|c.rc 1 ?_;refine aE<|vx (c.vp (i:=1) (ds:=[_,_,_]) rfl rfl rfl)<|aE<|vx (c.vp (i:=1) (ds:=[_,_,_]) rfl rfl rfl)<|Kw (x:=v.x) (old:=old) (new:=new) (B.up A c.gr) H.me k.me E K hi λG M _ d ok=>?_;rw[decide_eq_false e];have c:=c.aF d;replace c:=c.n6;refine vx rfl<|vx rfl<|vx rfl<|vx rfl<|aE<|c.vq 0 rfl (vs:=[_,_]) (ds:=[_,_,_,_,_,_,_]) (by exact rfl) (by exact rfl) (by exact rfl) (by exact rfl) (by exact rfl) λ_ c=>?_;replace c:=c.n6;refine aE<|c.vq 4 rfl (vs:=[_,_,_]) (ds:=[_,_,_,_]) (by exact rfl) (by exact rfl) (by exact rfl) (by exact rfl) (by exact rfl) λ_ c=>?_;replace c:=c.n6;refine aE<|c.q4 4 λ_ c=>?_;refine .here<|aE<|c.rc 4 ?_;refine aN<|c.rl 0 ?_;refine c.rl 4 ?_;refine c.w7 2 λ_ c=>?_;refine c.al 4 ?_;refine c.w4 3 λ_ c=>?_;refine c.rl 2 ?_;refine c.rl 3 ?_;exact q {v with x:=G} M _ (c.pick [5]) (let u:=H.le (Bs.aJ B M); ⟨ok,u.li,u.st⟩)
def Qj (u:B.p h) (H:KO B T v m) (k:Kk T n b m) (A:b<=900000) (K:1<=t/\t<=T) (hi:i<n) {wl:Bool} {U:W3} (O:∀Q,Rt B h (λB=>KO B T Q (m.put t i w wl)) λh'=>R (.tuple #[yC Q,eI ⟨W0,true⟩]) h'):S.C 89 [(yC v),(.int .i64 t),(lD ⟨if wl then 4 else 3,i,U,w⟩)] h R:=by
 refine kD.2 ?_;cases wl with
 | true=>
  have c:=Cx.aB h;refine c.v7 λ_ _ c=>?_;refine c.v8 λ_ _ c=>?_;refine c.v7 λ_ _ c=>?_;refine c.v4 λ_ _ c=>?_;refine vx (aG (ds:=[_,_,_,_]) rfl)<|c.v4 λ_ _ c=>?_;refine c.w4 4 λ_ c=>?_;refine .here<|aE<|c.rc 1 ?_;refine vx (v:=.bool false) rfl<|aN<|aE<|vx (c.vp (i:=0) (ds:=[_,_]) rfl rfl rfl)<|aE<|c.rc 1 ?_;refine aE<|vx (c.vp (i:=1) (ds:=[_,_,_]) rfl rfl rfl)<|aE<|c.rc 1 ?_;refine vx (v:=.bool true) rfl<|Io (x:=v.x) (w:=w) (B.up u c.gr) H.me k.me A K hi λE M _ d ok=>?_;have c:=c.aF d;replace c:=c.n6;refine vx rfl<|vx rfl<|aE<|c.vq 0 rfl (vs:=[_,_]) (ds:=[_,_,_,_,_,_,_]) (by exact rfl) (by exact rfl) (by exact rfl) (by exact rfl) (by exact rfl) λ_ c=>?_;replace c:=c.n6;refine .here<|aE<|c.rc 4 ?_;refine bU<|aE<|vx (c.vp (i:=0) (ds:=[_,_,_]) rfl rfl rfl)<|aE<|c.rc 1 ?_;refine aE<|vx (c.vp (i:=1) (ds:=[_,_,_]) rfl rfl rfl)<|zh (y:=v.y) (w:=w) (B.up u c.gr) H.li k.li A hi λG N _ d q=>?_;have c:=c.aF d;replace c:=c.n7;refine vx rfl<|vx rfl<|aE<|c.vq 0 rfl (vs:=[_,_,_]) (ds:=[_,_,_,_,_,_,_]) (by exact rfl) (by exact rfl) (by exact rfl) (by exact rfl) (by exact rfl) λ_ c=>?_;replace c:=c.n7;refine c.rl 0 ?_;refine c.rl 4 ?_;refine c.w7 2 λ_ c=>?_;refine c.al 4 ?_;refine c.w4 3 λ_ c=>?_;refine c.rl 2 ?_;refine c.rl 3 ?_;exact O {v with x:=E,y:=G} [aD M,aD N] _ (Cx.pack (L:=[]) (c.pick [5,6])) (let J:=H.le (Bs.aJ B [aD M,aD N]); ⟨ok.le λh b=>⟨b.1,Bs.star b (i:=0) rfl⟩,q.le λh b=>⟨b.1,Bs.star b (i:=1) rfl⟩,J.st⟩)
 | false=>
  have c:=Cx.aB h;refine c.v7 λ_ _ c=>?_;refine c.v8 λ_ _ c=>?_;refine c.v7 λ_ _ c=>?_;refine c.v4 λ_ _ c=>?_;refine vx (aG (ds:=[_,_,_,_]) rfl)<|c.v4 λ_ _ c=>?_;refine c.w4 4 λ_ c=>?_;refine .here<|aE<|c.rc 1 ?_;refine vx (v:=.bool false) rfl<|aN<|aE<|vx (c.vp (i:=0) (ds:=[_,_]) rfl rfl rfl)<|aE<|c.rc 1 ?_;refine aE<|vx (c.vp (i:=1) (ds:=[_,_,_]) rfl rfl rfl)<|aE<|c.rc 1 ?_;refine vx (v:=.bool false) rfl<|Io (x:=v.x) (w:=w) (B.up u c.gr) H.me k.me A K hi λE M _ d ok=>?_;have c:=c.aF d;replace c:=c.n6;refine vx rfl<|vx rfl<|aE<|c.vq 0 rfl (vs:=[_,_]) (ds:=[_,_,_,_,_,_,_]) (by exact rfl) (by exact rfl) (by exact rfl) (by exact rfl) (by exact rfl) λ_ c=>?_;replace c:=c.n6;refine .here<|aE<|c.rc 4 ?_;refine bU<|aE<|vx (c.vp (i:=0) (ds:=[_,_,_]) rfl rfl rfl)<|aE<|c.rc 1 ?_;refine aE<|vx (c.vp (i:=1) (ds:=[_,_,_]) rfl rfl rfl)<|zh (y:=v.y) (w:=w) (B.up u c.gr) H.li k.li A hi λG N _ d q=>?_;have c:=c.aF d;replace c:=c.n7;refine vx rfl<|vx rfl<|aE<|c.vq 0 rfl (vs:=[_,_,_]) (ds:=[_,_,_,_,_,_,_]) (by exact rfl) (by exact rfl) (by exact rfl) (by exact rfl) (by exact rfl) λ_ c=>?_;replace c:=c.n7;refine c.rl 0 ?_;refine c.rl 4 ?_;refine c.w7 2 λ_ c=>?_;refine c.al 4 ?_;refine c.w4 3 λ_ c=>?_;refine c.rl 2 ?_;refine c.rl 3 ?_;exact O {v with x:=E,y:=G} [aD M,aD N] _ (Cx.pack (L:=[]) (c.pick [5,6])) (let J:=H.le (Bs.aJ B [aD M,aD N]); ⟨ok.le λh b=>⟨b.1,Bs.star b (i:=0) rfl⟩,q.le λh b=>⟨b.1,Bs.star b (i:=1) rfl⟩,J.st⟩)
inductive Ak where
 | rest
 | look (i:Nat)
 | swap (i:Nat) (old new:W3)
 | put (i:Nat) (w:W3) (wl:Bool)
def Ak.ac:Ak->Ac
 | .rest=>jG
 | .look i=>⟨5,i,W0,W0⟩
 | .swap i old new=>⟨6,i,old,new⟩
 | .put i w wl=>⟨if wl then 4 else 3,i,W0,w⟩
def Ak.ok (n:Nat):Ak->Prop
 | .rest=>True
 | .look i=>i<n
 | .swap i _ _=>i<n
 | .put i _ _=>i<n
def Mc.act (m:Mc) (t:Nat):Ak->Mc × cP
 | .rest=>(m,⟨W0,true⟩)
 | .look i=>(m.look t i,⟨(m.me.top i).w,true⟩)
 | .swap i old new=>(m.swap t i old new,⟨(m.me.top i).w,decide ((m.me.top i).w=old)⟩)
 | .put i w wl=>(m.put t i w wl,⟨W0,true⟩)
def HJ (q:B.p h) (H:KO B T v m) (k:Kk T n b m) (Q:b<=900000) (G:1<=t/\t<=T) {a:Ak} (N:a.ok n) {ch:Value} (O:∀E,Rt B h (λB=>KO B T E (m.act t a).1) λh'=>R (.tuple #[yC E,eI (m.act t a).2,.int .i64 0]) h'):S.C 60 [(yC v),(.int .i64 t),(lD a.ac),ch] h R:=by
 refine cI.2 ?_;obtain⟨ss,hs,J⟩:=H.st;have hle:=k.me.le;have u:=List.getElem?_eq_getElem (l:=ss) (i:=t - 1) (by omega);generalize ss[t - 1]'(by omega)=z at u;have et:((t:Nat):Int) - 1=((t - 1:Nat):Int):=by omega
 cases a with
 | rest=>
  have c:=Cx.aB h;refine c.v7 λ_ _ c=>?_;refine c.v8 λ_ _ c=>?_;refine c.v7 λ_ _ c=>?_;refine c.v4 λ_ _ c=>?_;refine c.rl 0 ?_;refine c.rl 1 ?_;refine nH (v:=v) (a:=jG) (B.up q c.gr) H k G ⟨by decide,by decide⟩ (λe=>absurd rfl e) λ_ g=>?_;have c:=c.more g;refine vx (v:=.bool false) rfl<|aN<|vx (aG (ds:=[_,_,_,_]) rfl)<|c.v4 λ_ _ c=>?_;refine c.w4 4 λ_ c=>?_;refine .here<|c.rl 1 ?_;refine tW (a:=jG) (r:=false) rfl λ_ g=>?_;have c:=c.more g;refine aN<|aE<|c.rc 1 ?_;refine vx (v:=.bool false) rfl<|aN<|aE<|c.rc 1 ?_;refine vx (v:=.bool false) rfl<|aN<|aE<|c.rc 1 ?_;refine vx (v:=.bool false) rfl<|aN<|aE<|c.rc 0 ?_;refine nO (hs _ (B.up q c.gr)) (by omega) λs' _ d=>?_;have c:=c.aF d;replace c:=c.n6;refine aE<|c.q7 0 λ_ c=>?_;refine aE<|c.rc 0 ?_;refine vx (fT ⟨by omega,by omega⟩) ?_;rw[et];obtain⟨r,o,cap,el,K,row⟩:=(c.sl (i:=5) rfl).ix u (n:=1) rfl (k:=.i64) (z:=((t - 1:Nat):Int)) rfl;refine vx K<|vx (row.rq rfl)<|vx (hU _ _)<|c.wX 5 rfl (j:=t - 1) (by omega) (uA (z+1)) rfl rfl rfl λ_ c=>?_;replace c:=c.n6;refine c.rl 0 ?_;refine c.rl 4 ?_;refine c.w7 2 λ_ c=>?_;refine c.al 4 ?_;refine c.w4 3 λ_ c=>?_;refine c.rl 2 ?_;refine c.rl 3 ?_;exact O {v with s:=s'} [bJ mf (aK s') (ss.set (t - 1) (uA (z+1)))] _ (Cx.pack (L:=[]) (c.pick [5])) (let A:=H.le (Bs.aJ B _); ⟨A.me,A.li,_,On.sl (i:=0) rfl,by rw[List.length_set]; exact J⟩)
 | look i=>
  have c:=Cx.aB h;refine c.v7 λ_ _ c=>?_;refine c.v8 λ_ _ c=>?_;refine c.v7 λ_ _ c=>?_;refine c.v4 λ_ _ c=>?_;refine c.rl 0 ?_;refine c.rl 1 ?_;refine nH (v:=v) (a:=⟨5,i,W0,W0⟩) (B.up q c.gr) H k G ⟨by dsimp only; decide,by dsimp only; decide⟩ (λ_ _=>⟨Int.natCast_nonneg i,Int.ofNat_lt.2 N⟩) λ_ g=>?_;have c:=c.more g;refine vx (v:=.bool false) rfl<|aN<|vx (aG (ds:=[_,_,_,_]) rfl)<|c.v4 λ_ _ c=>?_;refine c.w4 4 λ_ c=>?_;refine .here<|c.rl 1 ?_;refine tW (a:=⟨5,i,W0,W0⟩) (r:=false) rfl λ_ g=>?_;have c:=c.more g;refine aN<|aE<|c.rc 1 ?_;refine vx (v:=.bool false) rfl<|aN<|aE<|c.rc 1 ?_;refine vx (v:=.bool false) rfl<|aN<|aE<|c.rc 1 ?_;refine vx (v:=.bool true) rfl<|bU<|c.rl 0 ?_;refine c.rl 1 ?_;refine NQ (v:=v) (B.up q c.gr) H k (by omega) G N λE M _ d ok=>?_;have c:=c.aF d;obtain⟨ss,hs,J⟩:=ok.st;have u:=List.getElem?_eq_getElem (l:=ss) (i:=t - 1) (by omega);generalize ss[t - 1]'(by omega)=z at u;replace c:=c.n6;refine vx rfl<|vx rfl<|c.w7 0 λ_ c=>?_;refine c.w4 4 λ_ c=>?_;refine aE<|c.rc 0 ?_;refine nO (hs _ ⟨B.up q c.gr,c.get (i:=5) rfl⟩) (by omega) λs' _ d=>?_;have c:=c.aF d;replace c:=c.n7;refine aE<|c.q7 0 λ_ c=>?_;refine aE<|c.rc 0 ?_;refine vx (fT ⟨by omega,by omega⟩) ?_;rw[et];obtain⟨r,o,cap,el,K,row⟩:=(c.sl (i:=6) rfl).ix u (n:=1) rfl (k:=.i64) (z:=((t - 1:Nat):Int)) rfl;refine vx K<|vx (row.rq rfl)<|vx (hU _ _)<|c.wX 6 rfl (j:=t - 1) (by omega) (uA (z+1)) rfl rfl rfl λ_ c=>?_;replace c:=c.n7;refine c.rl 0 ?_;refine c.rl 4 ?_;refine c.w7 2 λ_ c=>?_;refine c.al 4 ?_;refine c.w4 3 λ_ c=>?_;refine c.rl 2 ?_;refine c.rl 3 ?_;exact O {E with s:=s'} [aD M,bJ mf (aK s') (ss.set (t - 1) (uA (z+1)))] _ (Cx.pack (L:=[]) (c.pick [5,6])) (let A:=ok.le (B':=B.and [aD M,bJ mf (aK s') (ss.set (t - 1) (uA (z+1)))]) λh b=>⟨b.1,Bs.star b (i:=0) rfl⟩; ⟨A.me,A.li,_,On.sl (i:=1) rfl,by rw[List.length_set]; exact J⟩)
 | swap i old new=>
  have c:=Cx.aB h;refine c.v7 λ_ _ c=>?_;refine c.v8 λ_ _ c=>?_;refine c.v7 λ_ _ c=>?_;refine c.v4 λ_ _ c=>?_;refine c.rl 0 ?_;refine c.rl 1 ?_;refine nH (v:=v) (a:=⟨6,i,old,new⟩) (B.up q c.gr) H k G ⟨by dsimp only; decide,by dsimp only; decide⟩ (λ_ _=>⟨Int.natCast_nonneg i,Int.ofNat_lt.2 N⟩) λ_ g=>?_;have c:=c.more g;refine vx (v:=.bool false) rfl<|aN<|vx (aG (ds:=[_,_,_,_]) rfl)<|c.v4 λ_ _ c=>?_;refine c.w4 4 λ_ c=>?_;refine .here<|c.rl 1 ?_;refine tW (a:=⟨6,i,old,new⟩) (r:=true) rfl λ_ g=>?_;have c:=c.more g;refine bU<|c.rl 0 ?_;refine c.rl 1 ?_;refine NO (v:=v) (B.up q c.gr) H k Q G N λE M _ d ok=>?_;have c:=c.aF d;obtain⟨ss,hs,J⟩:=ok.st;have u:=List.getElem?_eq_getElem (l:=ss) (i:=t - 1) (by omega);generalize ss[t - 1]'(by omega)=z at u;replace c:=c.n6;refine vx rfl<|vx rfl<|c.w7 0 λ_ c=>?_;refine c.w4 4 λ_ c=>?_;refine aE<|c.rc 0 ?_;refine nO (hs _ ⟨B.up q c.gr,c.get (i:=5) rfl⟩) (by omega) λs' _ d=>?_;have c:=c.aF d;replace c:=c.n7;refine aE<|c.q7 0 λ_ c=>?_;refine aE<|c.rc 0 ?_;refine vx (fT ⟨by omega,by omega⟩) ?_;rw[et];obtain⟨r,o,cap,el,K,row⟩:=(c.sl (i:=6) rfl).ix u (n:=1) rfl (k:=.i64) (z:=((t - 1:Nat):Int)) rfl;refine vx K<|vx (row.rq rfl)<|vx (hU _ _)<|c.wX 6 rfl (j:=t - 1) (by omega) (uA (z+1)) rfl rfl rfl λ_ c=>?_;replace c:=c.n7;refine c.rl 0 ?_;refine c.rl 4 ?_;refine c.w7 2 λ_ c=>?_;refine c.al 4 ?_;refine c.w4 3 λ_ c=>?_;refine c.rl 2 ?_;refine c.rl 3 ?_;exact O {E with s:=s'} [aD M,bJ mf (aK s') (ss.set (t - 1) (uA (z+1)))] _ (Cx.pack (L:=[]) (c.pick [5,6])) (let A:=ok.le (B':=B.and [aD M,bJ mf (aK s') (ss.set (t - 1) (uA (z+1)))]) λh b=>⟨b.1,Bs.star b (i:=0) rfl⟩; ⟨A.me,A.li,_,On.sl (i:=1) rfl,by rw[List.length_set]; exact J⟩)
 | put i w wl=>
  have ho:(0:Int)<=(Ak.put i w wl).ac.op/\(Ak.put i w wl).ac.op<=8:=by cases wl <;> (dsimp only[Ak.ac]; decide)
  have U:true=decide ((Ak.put i w wl).ac.op=3\/(Ak.put i w wl).ac.op=4\/(Ak.put i w wl).ac.op=6):=by cases wl <;> rfl
  have c:=Cx.aB h;refine c.v7 λ_ _ c=>?_;refine c.v8 λ_ _ c=>?_;refine c.v7 λ_ _ c=>?_;refine c.v4 λ_ _ c=>?_;refine c.rl 0 ?_;refine c.rl 1 ?_;refine nH (v:=v) (a:=(Ak.put i w wl).ac) (B.up q c.gr) H k G ho (λ_ _=>⟨Int.natCast_nonneg i,Int.ofNat_lt.2 N⟩) λ_ g=>?_;have c:=c.more g;refine vx (v:=.bool false) rfl<|aN<|vx (aG (ds:=[_,_,_,_]) rfl)<|c.v4 λ_ _ c=>?_;refine c.w4 4 λ_ c=>?_;refine .here<|c.rl 1 ?_;refine tW (a:=(Ak.put i w wl).ac) (r:=true) U λ_ g=>?_;have c:=c.more g;refine bU<|c.rl 0 ?_;refine c.rl 1 ?_;refine Qj (v:=v) (w:=w) (wl:=wl) (B.up q c.gr) H k Q G N λE M _ d ok=>?_;have c:=c.aF d;obtain⟨ss,hs,J⟩:=ok.st;have u:=List.getElem?_eq_getElem (l:=ss) (i:=t - 1) (by omega);generalize ss[t - 1]'(by omega)=z at u;replace c:=c.n6;refine vx rfl<|vx rfl<|c.w7 0 λ_ c=>?_;refine c.w4 4 λ_ c=>?_;refine aE<|c.rc 0 ?_;refine nO (hs _ ⟨B.up q c.gr,c.get (i:=5) rfl⟩) (by omega) λs' _ d=>?_;have c:=c.aF d;replace c:=c.n7;refine aE<|c.q7 0 λ_ c=>?_;refine aE<|c.rc 0 ?_;refine vx (fT ⟨by omega,by omega⟩) ?_;rw[et];obtain⟨r,o,cap,el,K,row⟩:=(c.sl (i:=6) rfl).ix u (n:=1) rfl (k:=.i64) (z:=((t - 1:Nat):Int)) rfl;refine vx K<|vx (row.rq rfl)<|vx (hU _ _)<|c.wX 6 rfl (j:=t - 1) (by omega) (uA (z+1)) rfl rfl rfl λ_ c=>?_;replace c:=c.n7;refine c.rl 0 ?_;refine c.rl 4 ?_;refine c.w7 2 λ_ c=>?_;refine c.al 4 ?_;refine c.w4 3 λ_ c=>?_;refine c.rl 2 ?_;refine c.rl 3 ?_;exact O {E with s:=s'} [aD M,bJ mf (aK s') (ss.set (t - 1) (uA (z+1)))] _ (Cx.pack (L:=[]) (c.pick [5,6])) (let A:=ok.le (B':=B.and [aD M,bJ mf (aK s') (ss.set (t - 1) (uA (z+1)))]) λh b=>⟨b.1,Bs.star b (i:=0) rfl⟩; ⟨A.me,A.li,_,On.sl (i:=1) rfl,by rw[List.length_set]; exact J⟩)
end
section
variable {T:Nat} {w:W3} {ws:List W3} {v:SH}
def NA (q:∀u h',Cx (λ_=>False) h h' [bJ wo (aK u) [⟨w,0,none⟩]]->R (vH u) h'):S.C 81 [(mW w)] h R:=by
 refine AB.2 ?_;have c:=Cx.aB h;refine c.v3 λ_ _ c=>?_;refine c.v1 λ_ _ c=>?_;refine c.rl 0 ?_;refine vx (aG (ds:=[_,_,_,_,_]) rfl)<|c.dN wo ⟨w,0,none⟩ rfl rfl λv _ c=>?_;obtain⟨u,rfl⟩:=(c.sl (i:=2) rfl).ol;replace c:=c.n3;refine vx (aG (ds:=[_]) rfl)<|c.w1 1 λ_ c=>?_;refine c.rl 1 ?_;exact q u _ (c.pick [2])
def Me.new (T:Nat) (ws:List W3):Me:=⟨ws.map λw=>[⟨w,λ_=>0⟩],List.replicate T λ_=>0⟩
def PZ (hs:Sl EW h (aK v) ws) (hT:1<=T/\T<=8) (hw:1<=ws.length/\ws.length<=4096) (hR:∀x M h',Cx (λ_=>False) h h' [aD M]->(∀B:Bs,MO (B.and M) x (Me.new T ws))->R (.tuple #[xA x,.int .i64 0]) h'):S.C 54 [(.int .i64 T),(aK v)] h R:=by
 refine Df.2 ?_;have c:=Cx.aB h;refine c.v2 λQ _ c=>?_;refine .here<|vx (dA (by omega))<|aN<|vx (ka (by omega))<|aN<|vx (hs.gr c.gr).ln<|vx (fG (by omega))<|aN<|vx (hs.gr c.gr).ln<|vx (ka (by omega))<|aN<|c.zq EM none rfl rfl rfl (by omega) (by decide) λad _ c=>?_;obtain⟨N,hu⟩:∃N:SH,aK N=.slice (some ad) T T:=⟨(some ad,T,T),rfl⟩;rw[<-hu] at c⊢;replace c:=c.n2;refine vx (aG (ds:=[_,_]) rfl)<|c.v2 λU _ c=>?_;refine c.w2 2 λ_ c=>?_;refine vx (hs.gr c.gr).ln<|oP.by (λ(i:Nat) z h'=>z=.int .i64 i/\i<=ws.length/\∃u us M,us.length=i/\Cx (λ_=>False) h h' [rV Q L3,bJ EM (aK N) (List.replicate T none),rV U [aK u,aK N],bJ EH1 (aK u) us,aD M]/\∀G F,(aD M).P G F->∀j u w,us[j]?=some u->ws[j]?=some w->Sl wo G (aK u) [⟨w,0,none⟩]) (λi=>ws.length - i) 0 ⟨rfl,Nat.zero_le _,(none,0,0),([]:List SH),([]:List aX),rfl,Cx.pack (L:=[_,_,_,_]) (M:=[]) ((c.nil EH1).pick [0,1,2,3]),λ_ _ _ j u w hu=>C5 hu⟩ ?_;rintro i _ h8 ⟨rfl,hi,u,us,M,hl,c,hM⟩ again J;replace c:=c.n5;refine vx aV<|dW (λV=>?_) λV=>?_
 ·obtain⟨w,hw⟩:∃w,ws[i]?=some w:=⟨_,List.getElem?_eq_getElem (by omega)⟩;refine(hs.gr c.gr).whole rfl hw rfl ?_;refine c.v3 λ_ _ c=>?_;refine c.w3 5 λ_ c=>?_;refine aE<|c.rc 2 ?_;refine c.rl 5 ?_;refine NA λX _ d=>?_;have c:=c.aF d;replace c:=c.n7;refine c.ac 2 ?_;refine c.dN EH1 X rfl rfl λaS _ c=>?_;replace c:=c.n8;refine c.ac 2 ?_;refine c.ap 3 rfl (c.sl (i:=7) rfl).sl rfl rfl (by simp only[List.length_singleton]; omega) (by simp only[List.length_singleton]; omega) λaT _ c=>?_;obtain⟨u2,rfl⟩:=(c.sl (i:=3) rfl).ol;replace c:=c.n8;refine aE<|c.q2 2 λ_ c=>?_;refine vx (inc (by omega))<|J (i+1) _ _ ⟨rfl,by omega,u2,us++[X],[aD M,bJ wo (aK X) [⟨w,0,none⟩]],by rw[List.length_append,List.length_singleton,hl],Cx.pack (L:=[_,_,_,_]) (c.pick [0,1,2,3,4,6]),λG F p j Z w' A E=>?_⟩ (by omega);obtain⟨F1,p1⟩:=(Cx.star p).get (i:=0) rfl;obtain⟨F2,p2⟩:=(Cx.star p).get (i:=1) rfl;by_cases hj:j<us.length
  ·rw[List.getElem?_append_left hj] at A;exact hM G F1 p1 j Z w' A E
  ·rw[List.getElem?_append_right (by omega)] at A;have e:j - us.length=0:=by
    have:=(List.getElem?_eq_some_iff.1 A).1;rw[List.length_singleton] at this;omega
   rw[e] at A;simp only[List.getElem?_cons_zero,Option.some.injEq] at A;subst A;rw[show j=i by omega,hw] at E;injection E with E;subst E;exact p2.1.sl
 ·refine c.rl 2 ?_;refine c.w2 0 λ_ c=>?_;refine c.rl 0 ?_;have hi:i=ws.length:=by omega
  refine hR (u,N) [bJ EM (aK N) (List.replicate T none),bJ EH1 (aK u) us,aD M] _ (Cx.pack (L:=[]) (c.pick [1,3,4])) λB=>⟨⟨_,On.sl (i:=0) rfl,by rw[List.length_replicate,Me.new,List.length_replicate],λj a f O K=>?_⟩,⟨_,On.sl (i:=1) rfl,by rw[hl,hi,Me.new,List.length_map],λj Z cQ A has=>?_⟩⟩
  ·have K:(List.replicate T λ_=>(0:Int))[j]?=some f:=K;rw[List.getElem?_replicate] at O K;split at O
   ·rename_i hj;rw[if_pos hj] at K;injection O with O; injection K with K;subst O K;exact VO.zero _
   ·cases O
  ·have has:(ws.map λw=>[(⟨w,λ_=>0⟩:AM)])[j]?=some cQ:=has;rw[List.getElem?_map] at has;cases E:ws[j]? with
   | none=>rw[E] at has; cases has
   | some w'=>
    rw[E] at has;simp only[Option.map_some,Option.some.injEq] at has;subst has;refine⟨_,λG b=>let⟨_,F,p⟩:=b; let⟨F',p'⟩:=(Cx.star p).get (i:=2) rfl; hM G F' p' j Z w' A E,rfl,λq m am hm H=>?_⟩;match q,hm,H with
    | 0,hm,H=>
     simp only[List.getElem?_cons_zero,Option.some.injEq] at hm H;subst hm H;exact⟨rfl,VO.zero _⟩
    | q+1,hm,H=>simp at hm
def Li.new (ws:List W3):Li:=⟨ws,List.replicate ((ws.length+7) / 8) ([],0),none⟩
def PU (hs:Sl EW h (aK v) ws) (hw:1<=ws.length/\ws.length<=4096) (G:∀y M h',Cx (λ_=>False) h h' [aD M]->(∀B:Bs,LO (B.and M) y (Li.new ws))->R (.tuple #[KV y,.int .i64 0]) h'):S.C 55 [(aK v)] h R:=by
 refine GO.2 ?_;have H:((ws.length:Int)+8 - 1) / 8=(((ws.length+7) / 8:Nat):Int):=by omega
 have fin:∀(f l:SH) h',Cx (λ_=>False) h h' [bJ EW (aK f) ws,bJ J9 (aK l) (List.replicate ((ws.length+7) / 8) ((none,0,0),0))]->R (.tuple #[KV ⟨f,l,none⟩,.int .i64 0]) h':=λf l h' c=>by
  refine G ⟨f,l,none⟩ _ _ (Cx.pack (L:=[]) c) λB=>⟨On.sl (i:=0) rfl,⟨_,On.sl (i:=1) rfl,by rw[List.length_replicate,Li.new,List.length_replicate],λj u g hu q=>?_⟩,rfl⟩;have q:(List.replicate ((ws.length+7) / 8) (([]:List RA),(0:Int)))[j]?=some g:=q;rw[List.getElem?_replicate] at hu q;split at hu
  ·rename_i J;rw[if_pos J] at q;injection hu with hu; injection q with q;subst hu q;exact⟨rfl,λh b=>⟨none,0,rfl,Nat.le_refl _,(λ_=>rfl),λi x K=>by simp at K⟩⟩
  ·cases hu
 have c:=Cx.aB h;refine c.v3 λ_ _ c=>?_;refine vx (hs.gr c.gr).ln<|vx (ka (by omega))<|aN ?_;refine .here<|vx (hs.gr c.gr).ln<|vx (iQ ⟨by omega,by omega⟩)<|vx (fT ⟨by omega,by omega⟩)<|vx (zl ⟨by omega,by omega⟩ (by decide)) ?_;rw[H];refine⟨?_,?_⟩
 ·refine uJ (hs.gr c.gr) (by omega) λf _ d=>?_;have c:=c.aF d;replace c:=c.n2;refine c.zq J9 ((none,0,0),0) rfl rfl rfl (by omega) (by decide) λA _ c=>?_;obtain⟨l,E⟩:∃l:SH,aK l=.slice (some A) ((ws.length+7) / 8) ((ws.length+7) / 8):=⟨(some A,(ws.length+7) / 8,(ws.length+7) / 8),rfl⟩;rw[<-E] at c⊢;replace c:=c.n3;refine vx (aG (ds:=[_,_,_]) rfl)<|c.w3 0 λ_ c=>?_;refine c.rl 0 ?_;exact fin f l _ (c.pick [1,2])
 ·refine c.zq J9 ((none,0,0),0) rfl rfl rfl (by omega) (by decide) λA _ c=>?_;obtain⟨l,E⟩:∃l:SH,aK l=.slice (some A) ((ws.length+7) / 8) ((ws.length+7) / 8):=⟨(some A,(ws.length+7) / 8,(ws.length+7) / 8),rfl⟩;rw[<-E] at c⊢;replace c:=c.n2;refine uJ (hs.gr c.gr) (by omega) λf _ d=>?_;have c:=c.aF d;replace c:=c.n3;refine vx (aG (ds:=[_,_,_]) rfl)<|c.w3 0 λ_ c=>?_;refine c.rl 0 ?_;exact fin f l _ (c.pick [2,1])
def Qe (hs:Sl EW h (aK v) ws) (A:1<=T/\T<=8) (hw:1<=ws.length/\ws.length<=4096) (E:∀v M h',Cx (λ_=>False) h h' [aD M]->(∀B:Bs,KO (B.and M) T v ⟨Me.new T ws,Li.new ws⟩)->R (.tuple #[yC v,.int .i64 0]) h'):S.C 31 [(.int .i64 T),(aK v)] h R:=by
 refine AK.2 ?_;have c:=Cx.aB h;refine c.v7 λ_ _ c=>?_;refine PZ (hs.gr c.gr) A hw λx M _ d ok=>?_;have c:=c.aF d;replace c:=c.n2;refine vx rfl<|vx rfl<|c.v2 λ_ _ c=>?_;refine c.w2 2 λ_ c=>?_;refine vx (v:=.bool false) rfl<|aN<|PU (hs.gr c.gr) hw λy N _ d q=>?_;have c:=c.aF d;replace c:=c.n4;refine vx rfl<|vx rfl<|c.v3 λ_ _ c=>?_;refine c.w3 4 λ_ c=>?_;refine vx (v:=.bool false) rfl<|aN<|c.rl 2 ?_;refine c.rl 4 ?_;refine c.zq mf 0 rfl rfl rfl (by omega) (by decide) λu _ c=>?_;obtain⟨s,G⟩:∃l:SH,aK l=.slice (some u) T T:=⟨(some u,T,T),rfl⟩;rw[<-G] at c⊢;replace c:=c.n6;refine c.al 4 ?_;refine c.al 2 ?_;refine vx (aG (ds:=[_,_,_,_,_,_,_]) rfl)<|c.w7 0 λ_ c=>?_;refine c.rl 0 ?_;exact E ⟨x,y,s,0⟩ [aD M,aD N,bJ mf (aK s) (List.replicate T 0)] _ (Cx.pack (L:=[]) (c.pick [1,3,5])) λB=>⟨(ok B).le λh b=>⟨b.1,Bs.star b (i:=0) rfl⟩,(q B).le λh b=>⟨b.1,Bs.star b (i:=1) rfl⟩,_,On.sl (i:=2) rfl,List.length_replicate⟩
def Kk.new (q:T<=8) (hw:ws.length<=4096):Kk T ws.length 1 ⟨Me.new T ws,Li.new ws⟩:=by
 refine⟨⟨List.length_replicate,List.length_map _,⟨q,hw⟩,λcQ has=>?_⟩,⟨rfl,List.length_replicate,hw,λg u=>?_⟩⟩
 ·obtain⟨w,_,rfl⟩:=List.mem_map.1 has;exact⟨Nat.le_refl _,Nat.le_refl _⟩
 ·rw[List.eq_of_mem_replicate u];exact Nat.zero_le _
end
def UE:Bool->TypeId->Value->Value
 | true,_,_=>.nilFunc
 | false,t,v=>.func (.method "Next") #[.iface t v] #[]
structure Tk where
 t:TypeId
 v:Value
 dn:Bool
 act:Ac
 s:SH
def Ob (x:Tk):List Value:=[.iface x.t x.v,UE x.dn x.t x.v,.int .i64 x.act.op,.int .i64 x.act.at',.int .i64 x.act.old.v,.int .u32 x.act.old.aO,.int .u32 x.act.old.ref,.int .i64 x.act.new.v,.int .u32 x.act.new.aO,.int .u32 x.act.new.ref,aK x.s]
def NV (d:Bool) (t:TypeId) (v:Value):(UE d t v).oneCell'=true:=by cases d <;> rfl
def Nt (a:Tk) (v:Value) (h:v∈Ob a):v.oneCell'=true:=by
 unfold Ob at h;simp only[List.mem_cons,List.not_mem_nil,or_false] at h;rcases h with rfl | rfl | rfl | rfl | rfl | rfl | rfl | rfl | rfl | rfl | rfl
 all_goals first | rfl | exact NV _ _ _
def Ff:jZ Tk:={n:=11,c:=Ob,len:=λ_=>rfl,one:=Nt}
def Jn (x:Tk):Value:=.agg ⟨Ob x⟩
def TV:Value:=.agg #[.nilIface,.nilFunc,.int .i64 0,.int .i64 0,.int .i64 0,.int .u32 0,.int .u32 0,.int .i64 0,.int .u32 0,.int .u32 0,.slice none 0 0]
def Oj:jZ cP:={n:=4,c:=λx=>[.int .i64 x.w.v,.int .u32 x.w.aO,.int .u32 x.w.ref,.bool x.ok],len:=λ_=>rfl,one:=λa v h=>by simp only[List.mem_cons,List.not_mem_nil,or_false] at h; rcases h with rfl | rfl | rfl | rfl <;> rfl}
section
variable {t t':TypeId} {v v':Value} {d:Bool} {a a':Ac} {s:SH} {x:Tk} {gs:List cP} {g:cP}
def NZ (q:∀h',Gr h h'->R (Jn ⟨t',v',d,if d then jG else a',(none,0,0)⟩) h'):S.C 83 [TV,(.iface t' v'),(lD a'),(.bool d)] h R:=by
 refine pO.2 ?_;cases d with
 | true=>
  have c:=Cx.aB h;refine c.v11 λ_ _ c=>?_;refine c.v8 λ_ _ c=>?_;refine c.v11 λ_ _ c=>?_;refine c.rl 1 ?_;refine aE<|c.JX 0 λ_ c=>?_;refine c.al 1 ?_;refine aE<|c.vq 0 rfl (vs:=[_,_,_,_,_,_,_,_]) (ds:=[_,_,_,_,_,_,_,_,_,_,_]) (by exact rfl) (by exact rfl) (by exact rfl) (by exact rfl) (by exact rfl) λ_ c=>?_;replace c:=c.n3;refine aE<|c.JX 0 λ_ c=>?_;refine .here<|bU<|bU<|vx (aG (ds:=[_,_,_,_,_,_,_,_]) rfl)<|aE<|c.vq 0 rfl (vs:=[_,_,_,_,_,_,_,_]) (ds:=[_,_,_,_,_,_,_,_,_,_,_]) (by exact rfl) (by exact rfl) (by exact rfl) (by exact rfl) (by exact rfl) λ_ c=>?_;replace c:=c.n3;refine c.rl 0 ?_;refine c.S2 2 λ_ c=>?_;refine c.rl 2 ?_;exact q _ c.gr
 | false=>
  have c:=Cx.aB h;refine c.v11 λ_ _ c=>?_;refine c.v8 λ_ _ c=>?_;refine c.v11 λ_ _ c=>?_;refine c.rl 1 ?_;refine aE<|c.JX 0 λ_ c=>?_;refine c.al 1 ?_;refine aE<|c.vq 0 rfl (vs:=[_,_,_,_,_,_,_,_]) (ds:=[_,_,_,_,_,_,_,_,_,_,_]) (by exact rfl) (by exact rfl) (by exact rfl) (by exact rfl) (by exact rfl) λ_ c=>?_;replace c:=c.n3;refine aE<|c.JX 0 λ_ c=>?_;refine .here<|aN<|vx rfl<|aN<|vx rfl<|vx rfl<|aE<|c.JX 0 λ_ c=>?_;refine c.rl 0 ?_;refine c.S2 2 λ_ c=>?_;refine c.rl 2 ?_;exact q _ c.gr
def Kc (q:∀h',Gr h h'->R (Jn ⟨t',v',d,if d then jG else a',s⟩) h'):S.C 83 [(Jn ⟨t,v,false,a,s⟩),(.iface t' v'),(lD a'),(.bool d)] h R:=by
 refine pO.2 ?_;cases d with
 | true=>
  have c:=Cx.aB h;refine c.v11 λ_ _ c=>?_;refine c.v8 λ_ _ c=>?_;refine c.v11 λ_ _ c=>?_;refine c.rl 1 ?_;refine aE<|c.JX 0 λ_ c=>?_;refine c.al 1 ?_;refine aE<|c.vq 0 rfl (vs:=[_,_,_,_,_,_,_,_]) (ds:=[_,_,_,_,_,_,_,_,_,_,_]) (by exact rfl) (by exact rfl) (by exact rfl) (by exact rfl) (by exact rfl) λ_ c=>?_;replace c:=c.n3;refine aE<|c.JX 0 λ_ c=>?_;refine .here<|bU<|bU<|vx (aG (ds:=[_,_,_,_,_,_,_,_]) rfl)<|aE<|c.vq 0 rfl (vs:=[_,_,_,_,_,_,_,_]) (ds:=[_,_,_,_,_,_,_,_,_,_,_]) (by exact rfl) (by exact rfl) (by exact rfl) (by exact rfl) (by exact rfl) λ_ c=>?_;replace c:=c.n3;refine c.rl 0 ?_;refine c.S2 2 λ_ c=>?_;refine c.rl 2 ?_;exact q _ c.gr
 | false=>
  have c:=Cx.aB h;refine c.v11 λ_ _ c=>?_;refine c.v8 λ_ _ c=>?_;refine c.v11 λ_ _ c=>?_;refine c.rl 1 ?_;refine aE<|c.JX 0 λ_ c=>?_;refine c.al 1 ?_;refine aE<|c.vq 0 rfl (vs:=[_,_,_,_,_,_,_,_]) (ds:=[_,_,_,_,_,_,_,_,_,_,_]) (by exact rfl) (by exact rfl) (by exact rfl) (by exact rfl) (by exact rfl) λ_ c=>?_;replace c:=c.n3;refine aE<|c.JX 0 λ_ c=>?_;refine .here<|aN<|vx rfl<|aN<|vx rfl<|vx rfl<|aE<|c.JX 0 λ_ c=>?_;refine c.rl 0 ?_;refine c.S2 2 λ_ c=>?_;refine c.rl 2 ?_;exact q _ c.gr
def sS (q:∀h',Gr h h'->R (.bool x.dn) h'):S.C 11 [(Jn x)] h R:=by
 refine wD.2 ?_;obtain⟨t,v,d,a,s⟩:=x;cases d with
 | true=>
  have c:=Cx.aB h;refine c.v11 λ_ _ c=>?_;refine aE<|c.rc 0 ?_;exact vx (v:=.bool true) rfl<|q _ c.gr
 | false=>
  have c:=Cx.aB h;refine c.v11 λ_ _ c=>?_;refine aE<|c.rc 0 ?_;exact vx (v:=.bool false) rfl<|q _ c.gr
def HV (q:∀h',Gr h h'->R (.iface x.t x.v) h'):S.C 12 [(Jn x)] h R:=by
 refine xd.2 ?_;obtain⟨t,v,d,a,s⟩:=x;cases d with
 | true=>
  have c:=Cx.aB h;refine c.v11 λ_ _ c=>?_;refine aE<|c.rc 0 ?_;exact q _ c.gr
 | false=>
  have c:=Cx.aB h;refine c.v11 λ_ _ c=>?_;refine aE<|c.rc 0 ?_;exact q _ c.gr
def Ih {v u:Value} {us:List cP} (hs:Sl Oj h v us) (e:sB 4 v none (some (.int .i64 us.length)) (some (.int .i64 us.length))=some u) (q:R u h):S.C 93 [v] h R:=by
 refine gN.2 ?_;dsimp only[gN,iJ];exact Ia hs e q
def Kg {v:Value} {us:List Tk} (hs:Sl Ff h v us) (A:us.length<=1000000) (q:∀u h',Cx (λ_=>False) h h' [bJ Ff (aK u) us]->R (aK u) h'):S.C 61 [v] h R:=by
 refine fF.2 ?_;dsimp only[fF,iJ];exact sk hs rfl rfl (by omega) (by omega) q
def QL (q:∀h',Gr h h'->R (.tuple #[lD x.act,.bool !x.dn]) h'):S.C 59 [(Jn x)] h R:=by
 refine yd.2 ?_;obtain⟨t,v,d,a,s⟩:=x;cases d with
 | true=>
  have c:=Cx.aB h;refine c.v11 λ_ _ c=>?_;refine c.v8 λ_ _ c=>?_;refine aE<|vx (c.vp (i:=0) (ds:=[_,_,_,_,_,_,_,_]) rfl rfl rfl)<|c.rl 0 ?_;refine sS (x:=⟨t,v,true,a,s⟩) λ_ g=>?_;have c:=c.more g;refine And.intro (c.vp (i:=0) (ds:=[_,_,_,_,_,_,_,_]) rfl rfl rfl) ?_;refine vx rfl<|c.w8 1 λ_ c=>?_;refine c.rl 1 ?_;exact q _ c.gr
 | false=>
  have c:=Cx.aB h;refine c.v11 λ_ _ c=>?_;refine c.v8 λ_ _ c=>?_;refine aE<|vx (c.vp (i:=0) (ds:=[_,_,_,_,_,_,_,_]) rfl rfl rfl)<|c.rl 0 ?_;refine sS (x:=⟨t,v,false,a,s⟩) λ_ g=>?_;have c:=c.more g;refine And.intro (c.vp (i:=0) (ds:=[_,_,_,_,_,_,_,_]) rfl rfl rfl) ?_;refine vx rfl<|c.w8 1 λ_ c=>?_;refine c.rl 1 ?_;exact q _ c.gr
variable {f:Nat} {Q:Bs->Value->Ac->Bool->Prop}
end
structure WV where
 m:MV
 ts:SH
 st:SH
abbrev HU (w:WV):List Value:=[aK w.m.x.1,aK w.m.x.2,aK w.m.y.f,aK w.m.y.l,.map w.m.y.a,aK w.m.s,.int .i64 w.m.cr,aK w.ts,aK w.st]
def rX (w:WV):Value:=.agg #[aK w.m.x.1,aK w.m.x.2,aK w.m.y.f,aK w.m.y.l,.map w.m.y.a,aK w.m.s,.int .i64 w.m.cr,aK w.ts,aK w.st]
def Py (k t c:Int):Value:=.agg #[.int .i64 k,.int .i64 t,.int .i64 c]
def Pm:jZ (TypeId × Value):={n:=1,c:=λx=>[.iface x.1 x.2],len:=λ_=>rfl,one:=λa v h=>by simp only[List.mem_singleton] at h; subst h; rfl}
def Hq {r:Int} (h:0<=r/\r<4294967296):bin .shr (.int .u32 r) (.int .u64 24)=some (.int .u32 (r / 16777216)):=by
 obtain⟨n,rfl⟩:=Int.eq_ofNat_of_zero_le h.1;show some (Value.int .u32 ((n:Int).fdiv (2 ^ (min (24:Int).toNat 32))))=_;rw[Int.fdiv_eq_ediv_of_nonneg _ (by decide)];rfl
def HP {r:Int} (h:0<=r/\r<4294967296):bin .and (.int .u32 r) (.int .u32 16777215)=some (.int .u32 (r % 16777216)):=by
 obtain⟨n,rfl⟩:=Int.eq_ofNat_of_zero_le h.1;have q:n<4294967296:=by omega
 show some (Value.int .u32 (IntKind.u32.wrap ((BitVec.ofInt 32 (n:Int)&&& BitVec.ofInt 32 16777215).toNat:Nat)))=_;have e:(BitVec.ofInt 32 (n:Int)&&& BitVec.ofInt 32 16777215).toNat=n % 16777216:=by
  rw[BitVec.toNat_and,show(BitVec.ofInt 32 16777215).toNat=2 ^ 24 - 1 from by decide,Nat.and_two_pow_sub_one_eq_mod,show BitVec.ofInt 32 (n:Int)=BitVec.ofNat 32 n from BitVec.ofInt_natCast ..,BitVec.toNat_ofNat];omega
 rw[e];show some (Value.int .u32 (((n % 16777216:Nat):Int) % 4294967296))=_;congr 2;omega
def Rd {w q:Int} (hw:0<=w/\w<256) (h:0<=q/\q<16777216):bin .or (.int .u32 (w*16777216)) (.int .u32 q)=some (.int .u32 (w*16777216+q)):=by
 obtain⟨a,rfl⟩:=Int.eq_ofNat_of_zero_le hw.1;obtain⟨b,rfl⟩:=Int.eq_ofNat_of_zero_le h.1;have u:a<256:=by omega
 have A:b<16777216:=by omega
 show some (Value.int .u32 (IntKind.u32.wrap ((BitVec.ofInt 32 ((a:Int)*16777216)||| BitVec.ofInt 32 (b:Int)).toNat:Nat)))=_;have e:(BitVec.ofInt 32 ((a:Int)*16777216)||| BitVec.ofInt 32 (b:Int)).toNat=a*16777216+b:=by
  rw[show((a:Int)*16777216)=((a*16777216:Nat):Int) by omega,show BitVec.ofInt 32 ((a*16777216:Nat):Int)=BitVec.ofNat 32 (a*16777216) from BitVec.ofInt_natCast ..,show BitVec.ofInt 32 (b:Int)=BitVec.ofNat 32 b from BitVec.ofInt_natCast ..,BitVec.toNat_or,BitVec.toNat_ofNat,BitVec.toNat_ofNat,Nat.mod_eq_of_lt (by omega),Nat.mod_eq_of_lt (by omega)];have:=Nat.shiftLeft_add_eq_or_of_lt (b:=b) (i:=24) (by omega) a;rw[Nat.shiftLeft_eq] at this;exact this.symm
 rw[e];show some (Value.int .u32 (((a*16777216+b:Nat):Int) % 4294967296))=_;congr 2;omega
def NR {w:Int} (hw:0<=w/\w<256):bin .shl (.int .u32 w) (.int .u64 24)=some (.int .u32 (w*16777216)):=by
 obtain⟨a,rfl⟩:=Int.eq_ofNat_of_zero_le hw.1;show some (Value.int .u32 (((a:Int)*2 ^ 24) % 4294967296))=_;congr 2;omega
def bT (who seq:Int):Int:=who*16777216+seq
def Fw (who seq:Int):Bool:=decide (1<=who/\who<=72/\1<=seq/\seq<=16777215)
def aZ (r:Int):Int:=if Fw (r / 16777216) (r % 16777216)=true then r / 16777216 else 0
def lB (r:Int):Int:=if Fw (r / 16777216) (r % 16777216)=true then r % 16777216 else 0
structure Ww (w:W3):Prop where
 v:xB w.v
 aO:0<=w.aO/\w.aO<4294967296
 ref:0<=w.ref/\w.ref<4294967296
def qF (w:W3):Int:=if w.ref=0 then 0 else if 0<aZ w.ref then 1 else 2
def O1 {k:IntKind} {a:Int} (h:0<=a/\a<4294967296):J2 .u32 (.int k a)=some (.int .u32 a):=by
 show some (Value.int .u32 (a % 4294967296))=_;rw[Int.emod_eq_of_lt h.1 h.2]
def Nf {k:IntKind} {a:Int} (h:xB a):J2 .i64 (.int k a)=some (.int .i64 a):=by
 show some (Value.int .i64 (IntKind.i64.wrap a))=_;rw[zb h]
section
variable {who seq r:Int} {w:W3}
def zX (q:∀h',Gr h h'->R (.tuple #[.int .u32 (if Fw who seq=true then bT who seq else 0),.int .i64 (if Fw who seq=true then 0 else 3)]) h'):S.C 109 [(.int .i64 who),(.int .i64 seq)] h R:=by
 refine tU.2 ?_;by_cases u:Fw who seq=true
 ·rw[if_pos u,if_pos u] at q;have A:=of_decide_eq_true u;dsimp only[tU,dL];have c:=Cx.aB h;exact .here<|vx (dA ((by omega)))<|aN<|vx (ka ((by omega)))<|aN<|vx (dA ((by omega)))<|aN<|vx (ka (by omega))<|aN<|vx (O1 (by omega))<|vx (NR (by omega))<|vx (O1 (by omega))<|vx (Rd (by omega) (by omega))<|q _ c.gr
 ·rw[if_neg u,if_neg u] at q;have A:¬(1<=who/\who<=72/\1<=seq/\seq<=16777215):=λe=>u (decide_eq_true e);dsimp only[tU,dL];have c:=Cx.aB h;refine .here<|vx aV<|dW (λB=>?_) λB=>?_
  ·exact bU<|q _ c.gr
  ·refine vx eY<|dW (λq2=>?_) λq2=>?_
   ·exact bU<|q _ c.gr
   ·refine vx aV<|dW (λq3=>?_) λq3=>?_
    ·exact bU<|q _ c.gr
    ·exact vx (zH (by omega))<|bU<|q _ c.gr
def qE (u:0<=r/\r<4294967296) (A:∀h',Gr h h'->R (.tuple #[.int .i64 (aZ r),.int .i64 (lB r)]) h'):S.C 75 [(.int .u32 r)] h R:=by
 refine Gi.2 ?_;by_cases q:Fw (r / 16777216) (r % 16777216)=true
 ·rw[aZ,lB,if_pos q,if_pos q] at A;have c:=Cx.aB h;refine vx (Hq u)<|vx (Nf ⟨by omega,by omega⟩)<|vx (HP u)<|vx (Nf ⟨by omega,by omega⟩)<|zX λ_ g=>?_;have c:=c.more g;rw[if_pos q,if_pos q];exact vx rfl<|vx rfl<|vx (v:=.bool false) rfl<|aN<|A _ c.gr
 ·rw[aZ,lB,if_neg q,if_neg q] at A;have c:=Cx.aB h;refine vx (Hq u)<|vx (Nf ⟨by omega,by omega⟩)<|vx (HP u)<|vx (Nf ⟨by omega,by omega⟩)<|zX λ_ g=>?_;have c:=c.more g;rw[if_neg q,if_neg q];exact vx rfl<|vx rfl<|vx (v:=.bool true) rfl<|bU<|A _ c.gr
def Ag (hw:Ww w) (q:∀h',Gr h h'->R (.int .i64 (qF w)) h'):S.C 159 [(mW w)] h R:=by
 refine EV.2 ?_;obtain⟨a,b,r⟩:=w;have A:=hw.ref;dsimp only at A;by_cases u:r=0
 ·rw[qF,if_pos u] at q;have c:=Cx.aB h;refine c.v3 λ_ _ c=>?_;refine aE<|c.rc 0 ?_;refine qE A λ_ g=>?_;have c:=c.more g;refine vx rfl<|vx rfl<|aE<|c.rc 0 ?_;exact vx (jO u)<|bU<|q _ c.gr
 ·by_cases B:0<aZ r
  ·rw[qF,if_neg u,if_pos B] at q;have c:=Cx.aB h;refine c.v3 λ_ _ c=>?_;refine aE<|c.rc 0 ?_;refine qE A λ_ g=>?_;have c:=c.more g;refine vx rfl<|vx rfl<|aE<|c.rc 0 ?_;exact vx (fG u)<|aN<|vx (zH B)<|bU<|q _ c.gr
  ·rw[qF,if_neg u,if_neg B] at q;have c:=Cx.aB h;refine c.v3 λ_ _ c=>?_;refine aE<|c.rc 0 ?_;refine qE A λ_ g=>?_;have c:=c.more g;refine vx rfl<|vx rfl<|aE<|c.rc 0 ?_;exact vx (fG u)<|aN<|vx (ka B)<|aN<|q _ c.gr
def uO (hw:Ww w) (q:∀h',Gr h h'->R (.bool (decide (qF w=0))) h'):S.C 154 [(mW w)] h R:=by
 refine C2.2 ?_;obtain⟨a,b,r⟩:=w;have c:=Cx.aB h;refine c.v3 λ_ _ c=>?_;refine c.rl 0 ?_;refine Ag (w:=⟨a,b,r⟩) hw λ_ g=>?_;have c:=c.more g;exact vx (bW ..)<|q _ c.gr
def s6 (w:W3) (v:Int) (wr:Bool):W3 × Int:=
 if qF w≠1 then(w,13)
 else if wr=true/\w.aO=4294967295 then(w,9)
 else if wr=true then(⟨v,w.aO+1,0⟩,0)
 else(⟨w.v,w.aO,0⟩,0)
end
def oE {q:IntKind} {z:Int} {n sz i r o:Nat} (u:z=i) (hi:i<n):Dl n sz (.pointer (some ⟨r,o,none⟩)) (.int q z)=some (.pointer (some ⟨r,o+i*sz,none⟩)):=by
 subst u;have:(0:Int)<=(i:Int)/\(i:Int)<n:=by omega
 simp only[Dl,this,and_self,if_true,uY,Int.toNat_natCast]
def Nq {a b:Int} (h:0<=a+b/\a+b<4294967296):bin .add (.int .u32 a) (.int .u32 b)=some (.int .u32 (a+b)):=by
 show some (Value.int .u32 ((a+b) % 4294967296))=_;rw[Int.emod_eq_of_lt h.1 h.2]
section
variable {who seq r:Int} {w:W3}
def sO {v:Int} {b:Bool} (hw:Ww w) (u:∀h',Gr h h'->R (.tuple #[mW (s6 w v b).1,.int .i64 (s6 w v b).2]) h'):S.C 321 [(mW w),(.int .i64 v),(.bool b)] h R:=by
 refine zF.2 ?_;obtain⟨a,q,r⟩:=w;have hv:=hw.aO;dsimp only at hv;by_cases A:qF ⟨a,q,r⟩=1
 ·cases b with
  | true=>
   by_cases B:q=4294967295
   ·rw[s6,if_neg (λx=>x A),if_pos ⟨rfl,B⟩] at u;have c:=Cx.aB h;refine c.v3 λ_ _ c=>?_;refine c.v3 λ_ _ c=>?_;refine c.rl 0 ?_;refine Ag (w:=⟨a,q,r⟩) hw λ_ g=>?_;have c:=c.more g;refine vx (uQ A)<|aN ?_;refine .here<|bU<|aE<|c.rc 0 ?_;refine vx (jO B)<|bU<|c.rl 0 ?_;refine c.w3 1 λ_ c=>?_;refine c.rl 1 ?_;exact u _ c.gr
   ·rw[s6,if_neg (λx=>x A),if_neg (λx=>B x.2),if_pos rfl] at u;have c:=Cx.aB h;refine c.v3 λ_ _ c=>?_;refine c.v3 λ_ _ c=>?_;refine c.rl 0 ?_;refine Ag (w:=⟨a,q,r⟩) hw λ_ g=>?_;have c:=c.more g;refine vx (uQ A)<|aN ?_;refine .here<|bU<|aE<|c.rc 0 ?_;refine vx (fG B)<|aN<|bU<|aE<|c.rc 0 ?_;refine vx (v:=.int .u32 (q+1)) (Nq (a:=q) (b:=1) (by omega))<|vx (aG (ds:=[_,_,_]) rfl)<|c.w3 1 λ_ c=>?_;refine c.rl 1 ?_;exact u _ c.gr
  | false=>
   rw[s6,if_neg (λx=>x A),if_neg (λx=>by cases x.1),if_neg (by decide)] at u;have c:=Cx.aB h;refine c.v3 λ_ _ c=>?_;refine c.v3 λ_ _ c=>?_;refine c.rl 0 ?_;refine Ag (w:=⟨a,q,r⟩) hw λ_ g=>?_;have c:=c.more g;refine vx (uQ A)<|aN ?_;refine .here<|aN<|aN<|aN<|aE<|c.rc 0 ?_;refine aE<|c.rc 0 ?_;refine vx (aG (ds:=[_,_,_]) rfl)<|c.w3 1 λ_ c=>?_;refine c.rl 1 ?_;exact u _ c.gr
 ·rw[s6,if_pos A] at u;have c:=Cx.aB h;refine c.v3 λ_ _ c=>?_;refine c.v3 λ_ _ c=>?_;refine c.rl 0 ?_;refine Ag (w:=⟨a,q,r⟩) hw λ_ g=>?_;have c:=c.more g;refine vx (zZ A)<|bU<|c.rl 0 ?_;refine c.w3 1 λ_ c=>?_;refine c.rl 1 ?_;exact u _ c.gr
def gH {s:Int} (hs:0<=seq/\seq<4294967296) (q:∀h',Gr h h'->R (mW ⟨s,seq,0⟩) h'):S.C 255 [(.int .i64 s),(.int .i64 seq)] h R:=by
 refine AP.2 ?_;have c:=Cx.aB h;refine c.v3 λ_ _ c=>?_;refine vx (O1 hs)<|vx (aG (ds:=[_,_,_]) rfl)<|c.w3 0 λ_ c=>?_;refine c.rl 0 ?_;exact q _ c.gr
structure Et where
 at':Int
 old:W3
 new:Int
 wr:Bool
def cE (e:Et):List Value:=[.int .i64 e.at',.int .i64 e.old.v,.int .u32 e.old.aO,.int .u32 e.old.ref,.int .i64 e.new,.bool e.wr]
def Q1 (e:Et) (v:Value) (h:v∈cE e):v.oneCell'=true:=by
 unfold cE at h;simp only[List.mem_cons,List.not_mem_nil,or_false] at h;rcases h with rfl | rfl | rfl | rfl | rfl | rfl <;> rfl
def EE:jZ Et:={n:=6,c:=cE,len:=λ_=>rfl,one:=λa v h=>Q1 a v h}
def vE (e:Et):Value:=.agg #[.int .i64 e.at',.int .i64 e.old.v,.int .u32 e.old.aO,.int .u32 e.old.ref,.int .i64 e.new,.bool e.wr]
def vP (a b c:W3):Value:=.agg #[.int .i64 a.v,.int .u32 a.aO,.int .u32 a.ref,.int .i64 b.v,.int .u32 b.aO,.int .u32 b.ref,.int .i64 c.v,.int .u32 c.aO,.int .u32 c.ref]
def yy (e:Et):W3:=⟨e.at',if e.wr=true then 1 else 0,0⟩
def yD (e:Et):W3:=⟨e.old.v,e.old.aO,0⟩
def yG (e:Et):W3:=⟨e.new,0,0⟩
def Cj {e:Et} (u:∀h',Gr h h'->R (vP (yy e) (yD e) (yG e)) h'):S.C 130 [(vE e)] h R:=by
 refine Eu.2 ?_;obtain⟨a,⟨v,q,r⟩,n,b⟩:=e;cases b with
 | true=>
  have c:=Cx.aB h;refine c.v6 λ_ _ c=>?_;refine c.v9 λ_ _ c=>?_;refine aE<|c.rc 0 ?_;refine vx (aG (ds:=[_,_,_]) rfl)<|c.v3 λ_ _ c=>?_;refine c.w3 2 λ_ c=>?_;refine .here<|aE<|c.rc 0 ?_;refine bU<|aE<|c.q3 2 λ_ c=>?_;refine c.rl 2 ?_;refine aE<|aE<|c.rc 0 ?_;refine aE<|aE<|c.rc 0 ?_;refine vx (aG (ds:=[_,_,_]) rfl)<|aE<|c.rc 0 ?_;refine vx (aG (ds:=[_,_,_]) rfl)<|vx (v:=vP ⟨a,1,0⟩ ⟨v,q,0⟩ ⟨n,0,0⟩) (by kernel_rfl)<|c.w9 1 λ_ c=>?_;refine c.rl 1 ?_;exact u _ c.gr
 | false=>
  have c:=Cx.aB h;refine c.v6 λ_ _ c=>?_;refine c.v9 λ_ _ c=>?_;refine aE<|c.rc 0 ?_;refine vx (aG (ds:=[_,_,_]) rfl)<|c.v3 λ_ _ c=>?_;refine c.w3 2 λ_ c=>?_;refine .here<|aE<|c.rc 0 ?_;refine aN<|c.rl 2 ?_;refine aE<|aE<|c.rc 0 ?_;refine aE<|aE<|c.rc 0 ?_;refine vx (aG (ds:=[_,_,_]) rfl)<|aE<|c.rc 0 ?_;refine vx (aG (ds:=[_,_,_]) rfl)<|vx (v:=vP ⟨a,0,0⟩ ⟨v,q,0⟩ ⟨n,0,0⟩) (by kernel_rfl)<|c.w9 1 λ_ c=>?_;refine c.rl 1 ?_;exact u _ c.gr
def GA (who n part:Int):Int:=aC who+(2+3*n+part)
def kX:∀{who:Int},-1000<=who/\who<=1000->Pz 106 [vL,.int .i64 who] (.tuple #[.int .i64 (aC who),.int .i64 (cG who)]):=λhw h R Z k=>iI.2 (H9 Z hw k)
def NG {n part:Int} (Z:Zs h) (hw : -1000<=who/\who<=1000) (u:0<=n/\n<cG who) (A:0<=part/\part<3) (q:∀h',Gr h h'->R (.tuple #[.int .i64 (GA who n part),.int .i64 0]) h'):S.C 298 [vL,(.int .i64 who),(.int .i64 n),(.int .i64 part)] h R:=by
 refine Co.2 ?_;have hm:cG who<=32:=by unfold cG; (repeat' split) <;> omega
 have B : -1<=aC who/\aC who<=1000:=by unfold aC cK eN; split <;> split <;> omega
 have c:=Cx.aB h;refine c.v3 λ_ _ c=>?_;refine c.rl 0 ?_;refine cS _ _ (Z.gr c.gr) λ_ g=>?_;have c:=c.more g;refine vx (v:=.bool false) rfl<|aN<|c.rl 0 ?_;refine kX hw _ _ (Z.gr c.gr) λ_ g=>?_;have c:=c.more g;refine vx rfl<|vx rfl ?_;exact .here<|vx (dA ((by omega)))<|aN<|vx (iO ((by omega)))<|aN<|vx (dA ((by omega)))<|aN<|vx (iO (by omega))<|aN<|vx (v:=.int .i64 (3*n)) (by rw[vG,zb ⟨by omega,by omega⟩])<|vx (iQ ⟨by omega,by omega⟩)<|vx (iQ ⟨by omega,by omega⟩)<|vx (iQ ⟨by omega,by omega⟩)<|q _ c.gr
end
def H4:∀xs:List (IntKind × Int × Int),uB (xs.map λ_=>true) (xs.map λp=>.int p.1 p.2.1) (xs.map λp=>.int p.1 p.2.2)=some (decide (∀p∈xs,p.2.1=p.2.2))
 | []=>by simp[uB]
 | (k,a,b)::r=>by
  have:=H4 r;simp only[List.map_cons,uB,S8,if_true,Option.bind_some,this];by_cases e:a=b <;> simp[e]
def R2 (a b c x y z:W3):nX (tg [true,true,true,true,true,true,true,true,true] (vP a b c) (vP x y z))=some (.bool (decide ¬(a=x/\b=y/\c=z))):=by
 have:=H4 [(.i64,a.v,x.v),(.u32,a.aO,x.aO),(.u32,a.ref,x.ref),(.i64,b.v,y.v),(.u32,b.aO,y.aO),(.u32,b.ref,y.ref),(.i64,c.v,z.v),(.u32,c.aO,z.aO),(.u32,c.ref,z.ref)];have e:tg [true,true,true,true,true,true,true,true,true] (vP a b c) (vP x y z)=some (decide (a=x/\b=y/\c=z)):=by
  refine Eq.trans (b:=uB _ _ _) rfl (this.trans ?_);congr 1;refine decide_eq_decide.2 ?_;rw[<-W3.iff a x,<-W3.iff b y,<-W3.iff c z];simp[and_assoc]
 rw[e,E2];by_cases h:a=x/\b=y/\c=z <;> simp[h]
def yh (a b c:W3):Et:=⟨a.v,b,c.v,decide (a.aO=1)⟩
def Fe (a b c:W3):Bool:=decide ((0<=a.v/\a.v<4096)/\yy (yh a b c)=a/\yD (yh a b c)=b/\yG (yh a b c)=c)
abbrev Fj:Et:=⟨0,W0,0,false⟩
def Ds {a b c:W3} (M:∀h',Gr h h'->R (.tuple #[vE (if Fe a b c=true then yh a b c else Fj),.bool (Fe a b c)]) h'):S.C 110 [(vP a b c)] h R:=by
 refine AL.2 ?_;obtain⟨u,A,B⟩:=a;obtain⟨E,G,H⟩:=b;obtain⟨J,c2,K⟩:=c;by_cases O:0<=u/\u<4096
 ·by_cases N:yy (yh ⟨u,A,B⟩ ⟨E,G,H⟩ ⟨J,c2,K⟩)=⟨u,A,B⟩/\yD (yh ⟨u,A,B⟩ ⟨E,G,H⟩ ⟨J,c2,K⟩)=⟨E,G,H⟩/\yG (yh ⟨u,A,B⟩ ⟨E,G,H⟩ ⟨J,c2,K⟩)=⟨J,c2,K⟩
  ·rw[show Fe ⟨u,A,B⟩ ⟨E,G,H⟩ ⟨J,c2,K⟩=true from decide_eq_true ⟨O,N⟩,if_pos rfl] at M;have c:=Cx.aB h;refine c.v9 λ_ _ c=>?_;refine c.v6 λ_ _ c=>?_;refine .here<|vx (oE (i:=0) rfl (by decide))<|aE<|c.rc 0 ?_;refine vx (dA ((show ¬u<0 by omega)))<|aN<|vx (oE (i:=0) rfl (by decide))<|aE<|c.rc 0 ?_;refine vx (iO (show ¬(4096:Int)<=u by omega))<|aN<|vx (oE (i:=0) rfl (by decide))<|aE<|c.rc 0 ?_;refine vx (oE (i:=1) rfl (by decide))<|vx (c.vp (i:=0) (ds:=[_,_,_]) rfl rfl rfl)<|vx (oE (i:=2) rfl (by decide))<|aE<|c.rc 0 ?_;refine vx (oE (i:=0) rfl (by decide))<|aE<|c.rc 0 ?_;refine vx (bW ..)<|vx (aG (ds:=[_,_,_,_,_,_]) rfl)<|c.v6 λ_ _ c=>?_;refine c.w6 2 λ_ c=>?_;refine c.rl 2 ?_;refine c.rl 0 ?_;refine Cj (e:=yh ⟨u,A,B⟩ ⟨E,G,H⟩ ⟨J,c2,K⟩) λ_ g=>?_;have c:=c.more g;refine c.al 0 ?_;refine vx ((R2 ..).trans (by rw[decide_eq_false (λx=>x N)]))<|aN<|c.rl 2 ?_;refine c.w6 1 λ_ c=>?_;refine c.rl 1 ?_;exact M _ c.gr
  ·rw[show Fe ⟨u,A,B⟩ ⟨E,G,H⟩ ⟨J,c2,K⟩=false from decide_eq_false λx=>N x.2,if_neg (by decide)] at M;have c:=Cx.aB h;refine c.v9 λ_ _ c=>?_;refine c.v6 λ_ _ c=>?_;refine .here<|vx (oE (i:=0) rfl (by decide))<|aE<|c.rc 0 ?_;refine vx (dA ((show ¬u<0 by omega)))<|aN<|vx (oE (i:=0) rfl (by decide))<|aE<|c.rc 0 ?_;refine vx (iO (show ¬(4096:Int)<=u by omega))<|aN<|vx (oE (i:=0) rfl (by decide))<|aE<|c.rc 0 ?_;refine vx (oE (i:=1) rfl (by decide))<|vx (c.vp (i:=0) (ds:=[_,_,_]) rfl rfl rfl)<|vx (oE (i:=2) rfl (by decide))<|aE<|c.rc 0 ?_;refine vx (oE (i:=0) rfl (by decide))<|aE<|c.rc 0 ?_;refine vx (bW ..)<|vx (aG (ds:=[_,_,_,_,_,_]) rfl)<|c.v6 λ_ _ c=>?_;refine c.w6 2 λ_ c=>?_;refine c.rl 2 ?_;refine c.rl 0 ?_;refine Cj (e:=yh ⟨u,A,B⟩ ⟨E,G,H⟩ ⟨J,c2,K⟩) λ_ g=>?_;have c:=c.more g;refine c.al 0 ?_;refine vx ((R2 ..).trans (by rw[decide_eq_true N]))<|bU<|vx (aG (ds:=[_,_,_,_,_,_]) rfl)<|c.w6 1 λ_ c=>?_;refine c.rl 1 ?_;exact M _ c.gr
 ·rw[show Fe ⟨u,A,B⟩ ⟨E,G,H⟩ ⟨J,c2,K⟩=false from decide_eq_false λx=>O x.1,if_neg (by decide)] at M;have c:=Cx.aB h;refine c.v9 λ_ _ c=>?_;refine c.v6 λ_ _ c=>?_;refine .here<|vx (oE (i:=0) rfl (by decide))<|aE<|c.rc 0 ?_;refine vx aV<|dW (λq=>?_) λq=>?_
  ·refine bU<|vx (aG (ds:=[_,_,_,_,_,_]) rfl)<|c.w6 1 λ_ c=>?_;refine c.rl 1 ?_;exact M _ c.gr
  ·refine vx (oE (i:=0) rfl (by decide))<|aE<|c.rc 0 ?_;refine vx (ny (show(4096:Int)<=u by have q:¬u<0:=q; omega))<|bU<|vx (aG (ds:=[_,_,_,_,_,_]) rfl)<|c.w6 1 λ_ c=>?_;refine c.rl 1 ?_;exact M _ c.gr
def rQ (e:Et):Int:=
 if e.at'<0\/4096<=e.at' then 3
 else if ¬qF e.old=0 then 13
 else if e.wr=true/\e.old.aO=4294967295 then 9
 else if e.wr=false/\¬e.new=e.old.v then 4
 else 0
def Lu {e:Et} (hw:Ww e.old) (u:∀h',Gr h h'->R (.int .i64 (rQ e)) h'):S.C 142 [(vE e)] h R:=by
 refine AU.2 ?_;obtain⟨a,w,n,b⟩:=e;obtain⟨v,q,r⟩:=w;dsimp only at hw;unfold rQ at u;dsimp only at u;by_cases G:a<0\/4096<=a
 ·rw[if_pos G] at u;have c:=Cx.aB h;refine c.v6 λ_ _ c=>?_;refine .here<|aE<|c.rc 0 ?_;refine vx aV<|dW (λx=>?_) λx=>?_
  ·exact bU<|u _ c.gr
  ·refine aE<|c.rc 0 ?_;exact vx (ny (show(4096:Int)<=a by have x:¬a<0:=x; omega))<|bU<|u _ c.gr
 rw[if_neg G] at u;by_cases A:qF ⟨v,q,r⟩=0
 ·rw[if_neg (λx=>x A)] at u;cases b with
  | true=>
   by_cases B:q=4294967295
   ·rw[if_pos ⟨rfl,B⟩] at u;have c:=Cx.aB h;refine c.v6 λ_ _ c=>?_;refine .here<|aE<|c.rc 0 ?_;refine vx (dA ((show ¬a<0 by omega)))<|aN<|aE<|c.rc 0 ?_;refine vx (iO (show ¬(4096:Int)<=a by omega))<|aN<|aE<|vx (c.vp (i:=0) (ds:=[_,_,_]) rfl rfl rfl)<|uO (w:=⟨v,q,r⟩) hw λ_ g=>?_;have c:=c.more g;rw[decide_eq_true A];refine vx (v:=.bool false) (rfl)<|aN ?_;refine .here<|aE<|c.rc 0 ?_;refine bU<|aE<|aE<|c.rc 0 ?_;exact vx (jO B)<|bU<|u _ c.gr
   ·rw[if_neg (λx=>B x.2),if_neg (λx=>by cases x.1)] at u;have c:=Cx.aB h;refine c.v6 λ_ _ c=>?_;refine .here<|aE<|c.rc 0 ?_;refine vx (dA ((show ¬a<0 by omega)))<|aN<|aE<|c.rc 0 ?_;refine vx (iO (show ¬(4096:Int)<=a by omega))<|aN<|aE<|vx (c.vp (i:=0) (ds:=[_,_,_]) rfl rfl rfl)<|uO (w:=⟨v,q,r⟩) hw λ_ g=>?_;have c:=c.more g;rw[decide_eq_true A];refine vx (v:=.bool false) (rfl)<|aN ?_;refine .here<|aE<|c.rc 0 ?_;refine bU<|aE<|aE<|c.rc 0 ?_;refine vx (fG B)<|aN ?_;refine .here<|aE<|c.rc 0 ?_;exact vx (v:=.bool false) (rfl)<|aN<|aN<|u _ c.gr
  | false=>
   rw[if_neg (λx=>by cases x.1)] at u;by_cases E:n=v
   ·rw[if_neg (λx=>x.2 E)] at u;have c:=Cx.aB h;refine c.v6 λ_ _ c=>?_;refine .here<|aE<|c.rc 0 ?_;refine vx (dA ((show ¬a<0 by omega)))<|aN<|aE<|c.rc 0 ?_;refine vx (iO (show ¬(4096:Int)<=a by omega))<|aN<|aE<|vx (c.vp (i:=0) (ds:=[_,_,_]) rfl rfl rfl)<|uO (w:=⟨v,q,r⟩) hw λ_ g=>?_;have c:=c.more g;rw[decide_eq_true A];refine vx (v:=.bool false) (rfl)<|aN ?_;refine .here<|aE<|c.rc 0 ?_;refine aN<|aN ?_;refine .here<|aE<|c.rc 0 ?_;refine vx (v:=.bool true) (rfl)<|bU<|aE<|c.rc 0 ?_;refine aE<|aE<|c.rc 0 ?_;exact vx (uQ E)<|aN<|u _ c.gr
   ·rw[if_pos ⟨rfl,E⟩] at u;have c:=Cx.aB h;refine c.v6 λ_ _ c=>?_;refine .here<|aE<|c.rc 0 ?_;refine vx (dA ((show ¬a<0 by omega)))<|aN<|aE<|c.rc 0 ?_;refine vx (iO (show ¬(4096:Int)<=a by omega))<|aN<|aE<|vx (c.vp (i:=0) (ds:=[_,_,_]) rfl rfl rfl)<|uO (w:=⟨v,q,r⟩) hw λ_ g=>?_;have c:=c.more g;rw[decide_eq_true A];refine vx (v:=.bool false) (rfl)<|aN ?_;refine .here<|aE<|c.rc 0 ?_;refine aN<|aN ?_;refine .here<|aE<|c.rc 0 ?_;refine vx (v:=.bool true) (rfl)<|bU<|aE<|c.rc 0 ?_;refine aE<|aE<|c.rc 0 ?_;exact vx (zZ E)<|bU<|u _ c.gr
 ·rw[if_pos A] at u;have c:=Cx.aB h;refine c.v6 λ_ _ c=>?_;refine .here<|aE<|c.rc 0 ?_;refine vx (dA ((show ¬a<0 by omega)))<|aN<|aE<|c.rc 0 ?_;refine vx (iO (show ¬(4096:Int)<=a by omega))<|aN<|aE<|vx (c.vp (i:=0) (ds:=[_,_,_]) rfl rfl rfl)<|uO (w:=⟨v,q,r⟩) hw λ_ g=>?_;have c:=c.more g;rw[decide_eq_false A];exact vx (v:=.bool true) (rfl)<|bU<|u _ c.gr
section
variable {v f:Value} {es:List Et} {q:Et->Bool} {r:Nat} {z:Int} {e:Et}
def OX {α:Type} (f:Value) (w:α->Value) (p:α->Bool) (xs:List α) (h:Hp):Prop:=
 ∀h' x (R:Value->Hp->Prop),Gr h h'->x∈xs->(∀u,Gr h' u->R (.bool (p x)) u)->Cw S.C S.Y I.mt f [w x] h' R
def zk {α:Type} {p:α->Bool} {xs:List α} {i:Nat} {x:α} (A:xs[i]?=some x) (B:∀y∈xs.take i,p y=false) (h:p x=false):∀y∈xs.take (i+1),p y=false:=by
 intro y u;rw[List.take_add_one,A,Option.toList_some,List.mem_append,List.mem_singleton] at u;rcases u with u | rfl
 ·exact B y u
 ·exact h
def QR (hs:Sl EE h v es) (K:OX f vE q es h) (M:es.length<=1000000) (H:∀h' z,Gr h h'->decide ((0:Int)<=z)=es.any q->R (.int .i64 z) h'):S.C 155 [v,f] h R:=by
 refine jD.2 ?_;refine En.vb hs.ln ?_;refine oP.by (λ(i:Nat) a h'=>a=.int .i64 i/\i<=es.length/\(∀y∈es.take i,q y=false)/\Gr h h') (λi=>es.length - i) 0 ⟨rfl,Nat.zero_le _,(λy E=>by simp at E),.refl _ _⟩ ?_;rintro i _ h1 ⟨rfl,hi,G,g⟩ again u;refine En.vb aV ?_;refine dW (λe=>?_) λe=>?_
 ·have A:=List.getElem?_eq_getElem (l:=es) (i:=i) (by omega);generalize es[i]'(by omega)=x at A;refine(hs.gr g).whole rfl A rfl ?_;refine K _ x _ g (List.mem_of_getElem? A) λh2 J=>?_;cases B:q x with
  | true=>exact bU (H _ _ (g.trans J) (by rw[decide_eq_true (Int.natCast_nonneg i)]; exact(List.any_eq_true.2 ⟨x,List.mem_of_getElem? A,B⟩).symm))
  | false=>
   refine aN ?_;refine En.vb (inc (by omega)) ?_;exact u (i+1) _ _ ⟨rfl,by omega,zk A G B,g.trans J⟩ (by omega)
 ·refine H _ _ g ?_;rw[decide_eq_false (by omega)];symm;rw[List.take_of_length_le (by omega)] at G;exact List.any_eq_false.2 λy E=>by rw[G y E]; simp
def Oe (u:∀h',Gr h h'->eH (.pointer (some ⟨r,0+0,none⟩)) h'=some (.int .i64 z)) (A:∀h',Gr h h'->R (.bool (decide (e.at'=z))) h'):S.C 144 [(vE e),(bE r)] h R:=by
 refine ye.2 ?_;have c:=Cx.aB h;refine c.v6 λ_ _ c=>?_;refine aE<|c.rc 0 ?_;exact vx (gQ _ _ _)<|vx (u _ c.gr)<|vx bW<|A _ c.gr
def KL (hs:Sl EE h v es) (u:OX f vE q es h) (A:es.length<=1000000) (B:∀h',Gr h h'->R (.bool (es.any q)) h'):S.C 143 [v,f] h R:=by
 refine iH.2 ?_;refine QR hs u A λh' z g e=>?_;refine En.vb km ?_;rw[e];exact B _ g
end
def AH:List Et->List Et->Int
 | _,[]=>0
 | pre,e::r=>if ¬rQ e=0 then rQ e else if pre.any (λy=>decide (y.at'=e.at'))=true then 11 else AH (pre++[e]) r
def eP (es:List Et):Int:=if es.length=0 then 8 else if 32<es.length then 15 else AH [] es
def OG {es:List Et} {i:Nat} {e:Et} (he:es[i]?=some e):AH (es.take i) (es.drop i)=if ¬rQ e=0 then rQ e else if (es.take i).any (λy=>decide (y.at'=e.at'))=true then 11 else AH (es.take (i+1)) (es.drop (i+1)):=by
 obtain⟨hi,rfl⟩:=List.getElem?_eq_some_iff.1 he;rw[List.drop_eq_getElem_cons hi,AH,List.take_add_one,he];rfl
section
variable {v:Value} {es:List Et}
def rD (hs:Sl EE h v es) (hw:∀e∈es,Ww e.old) (hl:es.length<=1000) (G:∀h',Gr h h'->R (.int .i64 (eP es)) h'):S.C 131 [v] h R:=by
 refine AG.2 ?_;by_cases J:es.length=0
 ·rw[eP,if_pos J] at G;refine En.vb hs.ln ?_;refine En.vb (jO (by omega)) ?_;exact bU (G _ (.refl _ _))
 by_cases Q:32<es.length
 ·rw[eP,if_neg J,if_pos Q] at G;refine En.vb hs.ln ?_;refine En.vb (fG (by omega)) ?_;refine aN ?_;refine En.vb hs.ln ?_;refine En.vb (zH (by omega)) ?_;exact bU (G _ (.refl _ _))
 rw[eP,if_neg J,if_neg Q] at G;have K:∀{z:Int} {h'},AH [] es=z->Gr h h'->R (.int .i64 z) h':=λe g=>e▸G _ g;have c:=Cx.aB h;refine vx hs.ln<|vx (fG ((by omega)))<|aN<|vx hs.ln<|vx (ka ((by omega)))<|aN<|vx hs.ln<|oP.by (λ(i:Nat) z h'=>z=.int .i64 i/\i<=es.length/\AH (es.take i) (es.drop i)=AH [] es/\Gr h h') (λi=>es.length - i) 0 ⟨rfl,Nat.zero_le _,rfl,.refl _ _⟩ ?_;rintro i _ h8 ⟨rfl,hi,H,T⟩ again A;have c:Cx (λ_=>False) h h8 []:=(Cx.aB h).more T;refine vx aV<|dW (λM=>?_) λM=>?_
 ·obtain⟨e,he⟩:∃e,es[i]?=some e:=⟨_,List.getElem?_eq_getElem (by omega)⟩;have N:=hw e (List.mem_of_getElem? he);rw[OG he] at H;refine(hs.gr c.gr).whole rfl he rfl ?_;refine c.v6 λ_ _ c=>?_;refine c.w6 0 λ_ c=>?_;refine c.rl 0 ?_;refine Lu (e:=e) N λ_ g=>?_;have c:=c.more g;refine vx dZ<|dW (λB=>?_) λB=>?_
  ·exact K (H.symm.trans (if_pos B)) c.gr
  ·obtain⟨u,U,hu,_⟩:=(hs.gr c.gr).sub (n:=6) rfl (lo:=none) (hi:=some (.int .i64 i)) (l:=0) (u:=i) (.inl ⟨rfl,rfl⟩) (.inr ⟨_,_,rfl,rfl⟩) (Nat.zero_le _) (by omega);rw[List.drop_zero] at hu;refine vx U<|vx rfl<|KL (q:=λy=>decide (y.at'=e.at')) hu (λh9 y R9 V _ X=>.inl (.inl ⟨_,_,_,rfl,Oe (λZ O=>((c.more V).more O).vc (i:=0) rfl rfl) X⟩)) (by rw[List.length_take]; omega) λ_ g=>?_;have c:=c.more g;refine En.br (λE=>?_) λE=>?_
   ·exact K (H.symm.trans ((if_neg B).trans (if_pos E))) c.gr
   ·refine vx (inc (by omega)) ?_;rw[if_neg B,E,if_neg (by decide)] at H;exact A (i+1) _ _ ⟨rfl,by omega,H,c.gr⟩ (by omega)
 ·exact K (H.symm.trans (by rw[List.drop_of_length_le (by omega)]; rfl)) c.gr
end
section
variable {v f:Value} {es:List Et} {a b:Et}
def Qa (q:xB (a.at' - b.at')) (u:∀h',Gr h h'->R (.int .i64 (a.at' - b.at')) h'):vC.1 (vE a) (vE b) h R:=by
 have c:=Cx.aB h;refine c.v6 λ_ _ c=>?_;refine c.v6 λ_ _ c=>?_;refine aE<|c.rc 0 ?_;refine aE<|c.rc 1 ?_;exact vx (fT q)<|u _ c.gr
def eC:List Et->Bool
 | a::b::r=>decide (a.at'<=b.at')&&eC (b::r)
 | _=>true
def tY {es:List Et} {i:Nat} {x y:Et} (q:es[i]?=some x) (u:es[i+1]?=some y):eC (es.drop i)=(decide (x.at'<=y.at')&&eC (es.drop (i+1))):=by
 obtain⟨h1,rfl⟩:=List.getElem?_eq_some_iff.1 q;obtain⟨h2,rfl⟩:=List.getElem?_eq_some_iff.1 u;rw[List.drop_eq_getElem_cons h1,List.drop_eq_getElem_cons h2];rfl
def lu {es:List Et} {i:Nat} (h:es.length<=i+1):eC (es.drop i)=true:=by
 have:(es.drop i).length<=1:=by rw[List.length_drop]; omega
 match es.drop i,this with
 | [],_=>rfl
 | [_],_=>rfl
def u7:∀{es:List Et},eC es=true->∀i,eC (es.drop i)=true
 | es,h,0=>h
 | [],_,i+1=>by simp[eC]
 | [_],_,i+1=>by simp[eC]
 | a::b::r,h,i+1=>by
  rw[eC,Bool.and_eq_true] at h;exact u7 (es:=b::r) h.2 i
def Tv (f:Value) (xs:List Et) (h:Hp):Prop:=
 ∀h' x y (R:Value->Hp->Prop),Gr h h'->x∈xs->y∈xs->(∀q,Gr h' q->R (.int .i64 (x.at' - y.at')) q)->Cw S.C S.Y I.mt f [vE x,vE y] h' R
def zt (hs:Sl EE h v es) (K:Tv f es h) (N:es.length<=1000) (A:∀h',Gr h h'->R (.bool (eC es)) h'):S.C 132 [v,f] h R:=by
 refine iD.2 ?_;refine En.vb hs.ln ?_;refine En.vb (fT ⟨by omega,by omega⟩) ?_;by_cases M:es.length=0
 ·have:es=[]:=List.length_eq_zero_iff.1 M;subst this;refine oP.by (λ(_:Nat) z h'=>z=.int .i64 (-1)/\Gr h h') (λi=>i) 0 ⟨rfl,.refl _ _⟩ ?_;rintro i _ h1 ⟨rfl,g⟩ again u;refine En.vb (ka (by omega)) ?_;exact aN (A _ g)
 refine oP.by (λ(i:Nat) z h'=>z=.int .i64 i/\i+1<=es.length/\eC (es.drop i)=true/\Gr h h') (λi=>i) (es.length - 1) ⟨by congr 1; omega,by omega,lu (by omega),.refl _ _⟩ ?_;rintro i _ h1 ⟨rfl,hi,B,g⟩ again u;refine En.vb eY ?_;refine dW (λe=>?_) λe=>?_
 ·obtain⟨j,rfl⟩:∃j,i=j+1:=⟨i - 1,by omega⟩;obtain⟨y,E⟩:∃y,es[j+1]?=some y:=⟨_,List.getElem?_eq_getElem (by omega)⟩;obtain⟨x,G⟩:∃x,es[j]?=some x:=⟨_,List.getElem?_eq_getElem (by omega)⟩;refine(hs.gr g).whole rfl E rfl ?_;refine En.vb (v:=.int .i64 (j:Int)) ((fT ⟨by omega,by omega⟩).trans (by congr 2; omega)) ?_;refine(hs.gr g).whole rfl G rfl ?_;refine K _ y x _ g (List.mem_of_getElem? E) (List.mem_of_getElem? G) λh2 J=>?_;have H:=tY G E;rw[B,Bool.and_true] at H;refine En.vb aV ?_;refine dW (λe=>?_) λe=>?_
  ·have:eC es=false:=by
    cases q:eC es with
    | false=>rfl
    | true=>exact absurd (u7 q j) (by rw[H]; simp; omega)
   have:=this▸A _ (g.trans J);exact this
  ·refine En.vb (v:=.int .i64 (j:Int)) ((fT ⟨by omega,by omega⟩).trans (by congr 2; omega)) ?_;exact u j _ _ ⟨rfl,by omega,by rw[H]; simp; omega,g.trans J⟩ (by omega)
 ·have:i=0:=by omega
  subst this;rw[List.drop_zero] at B;have:=B▸A _ g;exact this
def DH {v:Value} {us:List Et} (hs:Sl EE h v us) (A:us.length<=1000000) (q:∀u h',Cx (λ_=>False) h h' [bJ EE (aK u) us]->R (aK u) h'):S.C 218 [v] h R:=by
 refine fH.2 ?_;dsimp only[fH,iJ];exact sk hs rfl rfl (by omega) (by omega) q
end
structure Hc where
 ref:Int
 at':Int
 who:Int
 seq:Int
 mC:Int
 cH:Bool
 ws:SH
 many:Int
 es:SH
 i:Int
 aO:Int
 met:W3
 inner:Value
 ended:Bool
 nx:Value
 bh:Value
def j7 (x:Hc):Value:=.agg #[.int .i64 3,.int .i64 6,.int .i64 4,.int .u32 x.ref,.int .i64 x.at',.int .i64 x.who,.int .i64 x.seq,.int .i64 x.mC,.bool x.cH,aK x.ws,.int .i64 x.many,aK x.es,.int .i64 x.i,.int .i64 x.aO,.int .i64 x.met.v,.int .u32 x.met.aO,.int .u32 x.met.ref,x.inner,.bool x.ended,x.nx,x.bh]
structure Ho (x:Hc):Prop where
 inner:x.inner.oneCell'=true
 nx:x.nx.oneCell'=true
 bh:x.bh.oneCell'=true
def zY {v:Value} (h:v.oneCell'=true):cN [v]=true:=by simp[cN,h]
section
variable {x:Hc} {n:Value} {a:Ac} {z:Int}
def lp (o:Ho x) (B:n.oneCell'=true) (q:∀h',Gr h h'->R (.tuple #[j7 {x with nx:=n},lD a,.bool false]) h'):S.C 284 [(j7 x),(lD a),n] h R:=by
 refine vA.2 ?_;obtain⟨r,bE,who,seq,mC,cH,ws,many,es,i,aO,met,inner,ended,nx,bh⟩:=x;obtain⟨hi,u,A⟩:=o;dsimp only at hi u A;have c:=Cx.aB h;refine c.dJ λ_ _ c=>?_;refine c.v8 λ_ _ c=>?_;refine c.dJ λ_ _ c=>?_;refine c.v8 λ_ _ c=>?_;refine aE<|c.tH 0 λ_ c=>?_;refine c.rl 0 ?_;refine c.rl 1 ?_;refine c.Tj 2 λ_ c=>?_;refine c.al 1 ?_;refine c.w8 3 λ_ c=>?_;refine c.rl 2 ?_;refine c.rl 3 ?_;exact q _ c.gr
def rC (o:Ho x) (q:∀h',Gr h h'->R (.tuple #[j7 {x with ended:=true,aO:=z,inner:=.nilIface},lD jG,.bool true]) h'):S.C 286 [(j7 x),(.int .i64 z)] h R:=by
 refine vF.2 ?_;obtain⟨r,bE,who,seq,mC,cH,ws,many,es,i,aO,met,inner,ended,nx,bh⟩:=x;obtain⟨hi,u,A⟩:=o;dsimp only at hi u A;have c:=Cx.aB h;refine c.dJ λ_ _ c=>?_;refine c.dJ λ_ _ c=>?_;refine c.v8 λ_ _ c=>?_;refine aE<|c.tH 0 λ_ c=>?_;refine aE<|c.tH 0 λ_ c=>?_;refine aE<|c.tH 0 λ_ c=>?_;refine c.rl 0 ?_;refine vx (aG (ds:=[_,_,_,_,_,_,_,_]) rfl)<|c.Tj 1 λ_ c=>?_;refine c.w8 2 λ_ c=>?_;refine c.rl 1 ?_;refine c.rl 2 ?_;exact q _ c.gr
def vY (o:Ho x) (q:n.oneCell'=true) (u:∀h',Gr h h'->R (.tuple #[j7 {x with nx:=n},lD ⟨5,x.at',W0,W0⟩,.bool false]) h'):S.C 272 [(j7 x),n] h R:=by
 refine tZ.2 ?_;obtain⟨r,bE,who,seq,mC,cH,ws,many,es,i,aO,met,inner,ended,nx,bh⟩:=x;have A:=o;obtain⟨hi,B,E⟩:=o;dsimp only at hi B E;have c:=Cx.aB h;refine c.dJ λ_ _ c=>?_;refine c.dJ λ_ _ c=>?_;refine c.v8 λ_ _ c=>?_;refine c.rl 0 ?_;refine aE<|c.rc 0 ?_;refine vx (aG (ds:=[_,_,_,_,_,_,_,_]) rfl)<|lp (x:=⟨r,bE,who,seq,mC,cH,ws,many,es,i,aO,met,inner,ended,nx,bh⟩) (a:=⟨5,bE,W0,W0⟩) A q λ_ g=>?_;have c:=c.more g;refine c.bX 1 2 λ_ c=>?_;exact u _ c.gr
end
def Row.part {α:Type} {E:jZ α} {r o q n:Nat} {x:α} (e:Row E h r o x) {ds:List Value} (K:q+n<=(E.c x).length) (A:((E.c x).drop q).take n=ds):En.aP n (.pointer (some ⟨r,o+q,none⟩)) h=some (.agg ⟨ds⟩):=by
 subst A;have G:(((E.c x).drop q).take n).length=n:=by rw[List.length_take,List.length_drop]; omega
 have H:Row (RB n) h r (o+q) ⟨((E.c x).drop q).take n,G,List.all_eq_true.2 λy J=>E.one x y (List.mem_of_mem_drop (List.mem_of_mem_take J))⟩:=λj u hu=>by
  have hu:(((E.c x).drop q).take n)[j]?=some u:=hu;rw[List.getElem?_take] at hu;split at hu
  ·rw[List.getElem?_drop] at hu;have:=e (q+j) u hu;rwa [<-Nat.add_assoc] at this
  ·cases hu
 exact H.aP rfl
def Sl.Vz {α:Type} {E:jZ α} {v:Value} {xs:List α} (H:Sl E h v xs) {n m:Nat} (u:n=E.n) {k:Value->Prop} {i:Nat} {x:α} (A:xs[i]?=some x) {q:IntKind} {z:Int} (G:z=i) {j:Nat} {ds:List Value} (J:j+m<=(E.c x).length) (K:((E.c x).drop j).take m=ds) (M:k (.agg ⟨ds⟩)) :
  Vb (nh n v (.int q z)) λp=>Vb (fa j p) λp=>Vb (aP m p h) k:=by
 obtain⟨r,o,e,N,_⟩:=H.ix A u G (k:=q);exact vb e (vb (gQ _ _ _) (vb (N.part J K) M))
section
variable {x:Hc} {n:Value} {a:Ac} {z:Int} {w:W3}
def qx (x:Hc) (w:W3):Bool:=decide (¬w.aO=x.seq\/¬w.ref=0\/w.v<0\/2<w.v)
def pD (o:Ho x) (H:0<=x.seq/\x.seq<4294967296) (J:∀h',Gr h h'->R (.bool (qx x w)) h'):S.C 285 [(j7 x),(mW w)] h R:=by
 refine s4.2 ?_;obtain⟨r,bE,who,seq,mC,cH,ws,many,es,i,aO,met,inner,ended,nx,bh⟩:=x;obtain⟨E,G,wr⟩:=w;obtain⟨hi,K,M⟩:=o;dsimp only at hi K M H;have rt:(¬G=seq\/¬wr=0\/E<0\/2<E)->∀{h'},Gr h h'->R (.bool true) h':=λe _ g=>by
  have:=J _ g;rwa [show qx ⟨r,bE,who,seq,mC,cH,ws,many,es,i,aO,met,inner,ended,nx,bh⟩ ⟨E,G,wr⟩=true from decide_eq_true e] at this
 have rf:¬(¬G=seq\/¬wr=0\/E<0\/2<E)->∀{h'},Gr h h'->R (.bool false) h':=λe _ g=>by
  have:=J _ g;rwa [show qx ⟨r,bE,who,seq,mC,cH,ws,many,es,i,aO,met,inner,ended,nx,bh⟩ ⟨E,G,wr⟩=false from decide_eq_false e] at this
 have rd:G=seq->wr=0->¬E<0->∀{h'},Gr h h'->R (.bool (decide (2<E))) h':=λq u A _ g=>by
  by_cases e:2<E
  ·rw[decide_eq_true e]; exact rt (.inr (.inr (.inr e))) g
  ·rw[decide_eq_false e]; exact rf (λx=>by omega) g
 have c:=Cx.aB h;refine c.dJ λ_ _ c=>?_;refine c.v3 λ_ _ c=>?_;refine .here<|aE<|c.rc 1 ?_;refine aE<|c.rc 0 ?_;refine vx (O1 H)<|vx dZ<|dW (λq=>?_) λq=>?_
 ·first | exact rd (Decidable.not_not.1 q) (Decidable.not_not.1 u) A c.gr | exact rt (.inr (.inr (.inl A))) c.gr | exact rt (.inr (.inl u)) c.gr | exact rt (.inl q) c.gr
 ·refine aE<|c.rc 1 ?_;refine vx dZ<|dW (λu=>?_) λu=>?_
  ·first | exact rd (Decidable.not_not.1 q) (Decidable.not_not.1 u) A c.gr | exact rt (.inr (.inr (.inl A))) c.gr | exact rt (.inr (.inl u)) c.gr | exact rt (.inl q) c.gr
  ·refine aE<|c.rc 1 ?_;refine vx aV<|dW (λA=>?_) λA=>?_
   ·first | exact rd (Decidable.not_not.1 q) (Decidable.not_not.1 u) A c.gr | exact rt (.inr (.inr (.inl A))) c.gr | exact rt (.inr (.inl u)) c.gr | exact rt (.inl q) c.gr
   ·refine aE<|c.rc 1 ?_;refine vx eY ?_;first | exact rd (Decidable.not_not.1 q) (Decidable.not_not.1 u) A c.gr | exact rt (.inr (.inr (.inl A))) c.gr | exact rt (.inr (.inl u)) c.gr | exact rt (.inl q) c.gr
section
variable {es:List Et} {e:Et} {i:Nat} {B:Bs}
def ve (o:Ho x) (hs:Sl EE h (aK x.es) es) (q:x.i=i) (he:es[i]?=some e) (A:∀h',Gr h h'->R (.int .i64 e.at') h'):S.C 306 [(j7 x)] h R:=by
 refine s0.2 ?_;obtain⟨r,bE,who,seq,mC,cH,ws,many,E,i0,aO,met,inner,ended,nx,bh⟩:=x;obtain⟨hi,G,H⟩:=o;dsimp only at hi G H hs q;subst q;have c:=Cx.aB h;refine c.dJ λ_ _ c=>?_;refine aE<|c.rc 0 ?_;refine aE<|c.rc 0 ?_;refine(hs.gr c.gr).oW (j:=0) rfl he rfl (u:=.int .i64 e.at') rfl ?_;exact A _ c.gr
def Ed (o:Ho x) (hs:Sl EE h (aK x.es) es) (q:x.i=i) (he:es[i]?=some e) (u:∀h',Gr h h'->R (mW e.old) h'):S.C 307 [(j7 x)] h R:=by
 refine s8.2 ?_;obtain⟨r,bE,who,seq,mC,cH,ws,many,A,i0,aO,met,inner,ended,nx,bh⟩:=x;obtain⟨J,⟨ev,eq,E⟩,en,eb⟩:=e;obtain⟨hi,G,H⟩:=o;dsimp only at hi G H hs q;subst q;have c:=Cx.aB h;refine c.dJ λ_ _ c=>?_;refine c.v3 λ_ _ c=>?_;refine aE<|c.rc 0 ?_;refine aE<|c.rc 0 ?_;refine(hs.gr c.gr).Vz (j:=1) (ds:=[.int .i64 ev,.int .u32 eq,.int .u32 E]) rfl he rfl (show 4<=6 by decide) rfl ?_;refine c.w3 1 λ_ c=>?_;refine c.rl 1 ?_;exact u _ c.gr
def yJ (o:Ho x) (hs:Sl EE h (aK x.es) es) (u:x.i=i) (he:es[i]?=some e) (A:∀h',Gr h h'->R (mW {e.old with ref:=x.ref}) h'):S.C 308 [(j7 x)] h R:=by
 refine uy.2 ?_;obtain⟨r,bE,who,seq,mC,cH,ws,many,q,i0,aO,met,inner,ended,nx,bh⟩:=x;obtain⟨J,⟨ev,eq,K⟩,en,eb⟩:=e;have E:=o;obtain⟨hi,G,H⟩:=o;dsimp only at hi G H hs u;subst u;have c:=Cx.aB h;refine c.dJ λ_ _ c=>?_;refine c.v3 λ_ _ c=>?_;refine c.rl 0 ?_;refine Ed (x:=⟨r,bE,who,seq,mC,cH,ws,many,q,(i:Int),aO,met,inner,ended,nx,bh⟩) E (hs.gr c.gr) rfl he λ_ g=>?_;have c:=c.more g;refine c.v3 λ_ _ c=>?_;refine c.w3 2 λ_ c=>?_;refine aE<|c.rc 0 ?_;refine aE<|c.q3 2 λ_ c=>?_;refine c.rl 2 ?_;refine c.w3 1 λ_ c=>?_;refine c.rl 1 ?_;exact A _ c.gr
end
def uI (r:Int):0<=aZ r/\aZ r<=72:=by
 unfold aZ;split
 ·rename_i h;have:=of_decide_eq_true h;omega
 ·omega
def rI (x:Hc) (w:W3):Bool:=decide (¬w.ref=x.ref/\¬aZ w.ref=0/\0<=aC (aZ w.ref))
def z8 (Z:Zs h) (o:Ho x) (hw:Ww w) (G:∀h',Gr h h'->R (.bool (rI x w)) h'):S.C 314 [(j7 x),(mW w)] h R:=by
 refine qV.2 ?_;obtain⟨r,bE,who,seq,mC,cH,ws,many,A,i0,aO,met,inner,ended,nx,bh⟩:=x;obtain⟨H,J,wr⟩:=w;obtain⟨hi,K,M⟩:=o;have E:=hw.ref;dsimp only at hi K M E;have N:=uI wr;have rf:¬(¬wr=r/\¬aZ wr=0/\0<=aC (aZ wr))->∀{h'},Gr h h'->R (.bool false) h':=λe _ g=>by
  have:=G _ g;rwa [show rI ⟨r,bE,who,seq,mC,cH,ws,many,A,i0,aO,met,inner,ended,nx,bh⟩ ⟨H,J,wr⟩=false from decide_eq_false e] at this
 have rd:¬wr=r->¬aZ wr=0->∀{h'},Gr h h'->R (.bool (decide (0<=aC (aZ wr)))) h':=λq u _ g=>by
  have:=G _ g;rwa [show rI ⟨r,bE,who,seq,mC,cH,ws,many,A,i0,aO,met,inner,ended,nx,bh⟩ ⟨H,J,wr⟩=decide (0<=aC (aZ wr)) from decide_eq_decide.2 ⟨λx=>x.2.2,λx=>⟨q,u,x⟩⟩] at this
 have c:=Cx.aB h;refine c.dJ λ_ _ c=>?_;refine c.v3 λ_ _ c=>?_;refine aE<|c.rc 1 ?_;refine qE E λ_ g=>?_;have c:=c.more g;refine vx rfl<|vx rfl<|aE<|vx (c.vp (i:=0) (ds:=[_,_,_]) rfl rfl rfl)<|kX (who:=aZ wr) ⟨by omega,by omega⟩ _ _ (Z.gr c.gr) λ_ g=>?_;have c:=c.more g;refine vx rfl<|vx rfl ?_;refine .here<|aE<|c.rc 1 ?_;refine aE<|c.rc 0 ?_;refine vx dZ<|dW (λq=>?_) λq=>?_
 ·refine vx dZ<|dW (λu=>?_) λu=>?_
  ·refine vx km ?_;first | exact rd q u c.gr | exact rf (λx=>x.2.1 (Decidable.not_not.1 u)) c.gr | exact rf (λx=>q x.1) c.gr
  ·first | exact rd q u c.gr | exact rf (λx=>x.2.1 (Decidable.not_not.1 u)) c.gr | exact rf (λx=>q x.1) c.gr
 ·first | exact rd q u c.gr | exact rf (λx=>x.2.1 (Decidable.not_not.1 u)) c.gr | exact rf (λx=>q x.1) c.gr
end
inductive HK where
 | begin | first | dE | fA | checked | cU | again | bR | dH | dX | settle | gC | bQ | cJ | known | found | through | kS
 deriving DecidableEq
structure Hs where
 ref:Int
 cH:Bool
 ws:List W3
 many:Nat
 es:List Et
 i:Nat
 aO:Int
 met:W3
 ended:Bool
 nx:HK
 bh:Option HK
def Hs.who (s:Hs):Int:=aZ s.ref
def Hs.seq (s:Hs):Int:=lB s.ref
def Hs.at' (s:Hs):Int:=aC (aZ s.ref)
def Hs.mC (s:Hs):Int:=cG (aZ s.ref)
def Hs.new (ref:Int) (cH:Bool):Hs:=⟨ref,cH,[],0,[],0,0,W0,false,.begin,none⟩
abbrev HR:Type:=Hs × Ac × Bool
def hE (s:Hs):Et:=s.es.getD s.i Fj
def eF (s:Hs) (a:Ac) (k:HK):HR:=({s with nx:=k},a,false)
def gP (s:Hs) (k:HK):HR:=eF s ⟨5,s.at',W0,W0⟩ k
def nM (s:Hs) (z:Int):HR:=({s with ended:=true,aO:=z},jG,true)
def oX (s:Hs) (w:W3):Bool:=decide (¬w.aO=s.seq\/¬w.ref=0\/w.v<0\/2<w.v)
def fM (s:Hs):HR:=
 if s.ws.length=3*s.many then gP s .checked
 else eF s ⟨1,GA s.who (s.ws.length / 3:Nat) (s.ws.length % 3:Nat),W0,W0⟩ .fA
def pV:List W3->List Et->Option (List Et)
 | a::b::c::r,out=>
  if Fe a b c=true/\gX (yh a b c).at'=true/\(∀l,out.getLast?=some l->l.at'<(yh a b c).at') then pV r (out++[yh a b c]) else none
 | _,out=>if eP out=0 then some out else none
def bG (s:Hs):HR:=
 if s.i=s.es.length then eF s ⟨8,0,W0,W0⟩ (s.bh.getD .begin)
 else eF {s with i:=s.i+1} ⟨7,(hE s).at',W0,W0⟩ .dX
def eX (s:Hs) (k:HK):HR:=bG {s with i:=0,bh:=some k}
def iM (s:Hs):HR:=eF s ⟨6,s.at',⟨0,s.seq,0⟩,⟨s.aO,s.seq,0⟩⟩ .gC
def cD (s:Hs) (z:Int):HR:=
 if z=1/\s.cH=true then eX {s with aO:=z} .settle else iM {s with aO:=z}
def rz (s:Hs):W3:={(hE s).old with ref:=s.ref}
def aW (s:Hs):HR:=
 if s.i=s.es.length then cD s 1 else eF s ⟨6,(hE s).at',(hE s).old,rz s⟩ .cU
def bD (s:Hs):HR:=if s.cH=true then eF s ⟨7,s.at',W0,W0⟩ .bQ else gP s .known
def ke (s:Hs):HR:=
 if s.i<s.es.length then eF s ⟨5,(hE s).at',W0,W0⟩ .found
 else if s.cH=true then eX s .through else nM s s.aO
def lV (s:Hs):HR:=ke {s with i:=s.i+1}
def pj (s:Hs) (w:W3):HR:=
 if w.ref=s.ref/\(s6 w (hE s).new ((hE s).wr&&decide (s.aO=1))).2=0
 then eF s ⟨6,(hE s).at',w,(s6 w (hE s).new ((hE s).wr&&decide (s.aO=1))).1⟩ .kS else lV s
def rY (s:Hs) (w:W3):HR:=ke {s with aO:=if w=⟨1,s.seq,0⟩\/w=⟨2,s.seq,0⟩ then w.v else 4,i:=0}
def rK (s:Hs) (w:W3):Bool:=decide (¬w.ref=s.ref/\¬aZ w.ref=0/\0<=aC (aZ w.ref))
def fJ (s:Hs) (g:cP):HR:=
 if g.ok=true\/g.w=rz s then aW {s with i:=s.i+1}
 else if rK s g.w=true then gP {s with met:=g.w} .again
 else cD s 2
def gJ (s:Hs) (w:W3):HR:=
 if oX s w=true then nM s 4
 else match pV s.ws [] with
  | none=>nM s 4
  | some l=>if ¬w.v=0 then bD {s with es:=l} else aW {s with es:=l}
def j9 (s:Hs) (w:W3):HR:=
 if w.v<1\/s.mC<w.v\/¬w=⟨w.v,0,0⟩ then nM s 4 else fM {s with many:=w.v.toNat}
def dG (s:Hs) (g:cP):HR:=
 match s.nx with
 | .begin=>gP s .first
 | .first=>if oX s g.w=true then nM s 4 else eF s ⟨1,s.at'+1,W0,W0⟩ .dE
 | .dE=>j9 s g.w
 | .fA=>fM {s with ws:=s.ws++[g.w]}
 | .checked=>gJ s g.w
 | .cU=>fJ s g
 | .again=>bD s
 | .bR=>aW s
 | .dH=>aW s
 | .dX=>bG s
 | .settle=>iM s
 | .gC=>bD s
 | .bQ=>eF s ⟨8,0,W0,W0⟩ .cJ
 | .cJ=>gP s .known
 | .known=>rY s g.w
 | .found=>pj s g.w
 | .through=>nM s s.aO
 | .kS=>lV s
def bV:List Hs->cP->List Hs × Ac × Bool
 | [],_=>([],jG,true)
 | s::r,g=>
  if s.ended=true then(s::r,jG,true)
  else match s.nx,r with
   | .bR,t::r=>match bV (t::r) g with
    | (h,a,false)=>({s with nx:=.bR}::h,a,false)
    | (h,_,true)=>match h with
     | q::_=>if ¬q.aO=4 then([(aW s).1],(aW s).2) else([{s with nx:=.dH}],⟨6,(hE s).at',s.met,⟨s.met.v,s.met.aO,0⟩⟩,false)
     | []=>([],jG,true)
   | .again,_=>if ¬g.w=⟨0,s.seq,0⟩ then([(bD s).1],(bD s).2)
    else([{s with nx:=.bR},{Hs.new s.met.ref s.cH with nx:=.first}],⟨5,aC (aZ s.met.ref),W0,W0⟩,false)
   | _,_=>([(dG s g).1],(dG s g).2)
def lS {h:Hs} {g:cP} (q:h.ended=false) (h1:¬h.nx=.again) (l:List Hs) (h2:l=[]\/¬h.nx=.bR):bV (h::l) g=([(dG h g).1],(dG h g).2):=by
 rw[bV.eq_def];simp only[q,Bool.false_eq_true,if_false];split
 ·rcases h2 with h2 | h2
  ·cases h2
  ·rename_i e; exact absurd e h2
 ·rename_i e; exact absurd e h1
 ·rfl
def gL {h:Hs} {g:cP} (q:h.ended=false) (h1:h.nx=.again) (l:List Hs):bV (h::l) g=if ¬g.w=⟨0,h.seq,0⟩ then([(bD h).1],(bD h).2)
    else([{h with nx:=.bR},{Hs.new h.met.ref h.cH with nx:=.first}],⟨5,aC (aZ h.met.ref),W0,W0⟩,false):=by
 rw[bV.eq_def];simp only[q,Bool.false_eq_true,if_false];split
 ·rename_i e; rw[h1] at e; cases e
 ·rfl
 ·rename_i e _; exact absurd h1 e
def jI {h k:Hs} {g:cP} (u:h.ended=false) (h1:h.nx=.bR) (l:List Hs):bV (h::k::l) g=match bV (k::l) g with
    | (q,a,false)=>({h with nx:=.bR}::q,a,false)
    | (q,_,true)=>match q with
     | A::_=>if ¬A.aO=4 then([(aW h).1],(aW h).2) else([{h with nx:=.dH}],⟨6,(hE h).at',h.met,⟨h.met.v,h.met.aO,0⟩⟩,false)
     | []=>([],jG,true):=by
 rw[bV.eq_def];simp only[u,Bool.false_eq_true,if_false,h1] <;> rfl
def kI:HK->Nat
 | .begin=>257
 | .first=>273
 | .dE=>287
 | .fA=>299
 | .checked=>297
 | .cU=>309
 | .again=>315
 | .bR=>320
 | .dH=>323
 | .dX=>318
 | .settle=>313
 | .gC=>319
 | .bQ=>303
 | .cJ=>310
 | .known=>304
 | .found=>316
 | .through=>317
 | .kS=>322
def SO:Option HK->Value
 | none=>.nilFunc
 | some k=>kB (kI k)
def bZ (k:Option HK):(SO k).oneCell'=true:=by cases k <;> rfl
instance {k:Option HK}:Ov (SO k):=⟨bZ k⟩
abbrev bK (s:Hs) (w e:SH) (dU:Value):Hc:=⟨s.ref,s.at',s.who,s.seq,s.mC,s.cH,w,s.many,e,s.i,s.aO,s.met,dU,s.ended,kB (kI s.nx),SO s.bh⟩
def hv (x:HR) (w e:SH):Value:=.tuple #[j7 (bK x.1 w e .nilIface),lD x.2.1,.bool x.2.2]
def ho (s:Hs) (w e:SH):Ho (bK s w e .nilIface):=⟨rfl,rfl,bZ s.bh⟩
section
variable {s:Hs} {w e:SH} {g:cP}
def uh (q:∀h',Gr h h'->R (hv (bD s) w e) h'):S.C 301 [(j7 (bK s w e .nilIface))] h R:=by
 refine qU.2 ?_;obtain⟨rf,du,ws,mn,es,i,vr,mt,en,nx,bh⟩:=s;have u:=bZ bh;cases du with
 | true=>
  have c:=Cx.aB h;refine c.dJ λ_ _ c=>?_;refine c.dJ λ_ _ c=>?_;refine c.v8 λ_ _ c=>?_;refine aE<|c.rc 0 ?_;refine bU<|c.rl 0 ?_;refine aE<|c.rc 0 ?_;refine vx (aG (ds:=[_,_,_,_,_,_,_,_]) rfl)<|lp (x:=bK ⟨rf,true,ws,mn,es,i,vr,mt,en,nx,bh⟩ w e .nilIface) (a:=⟨7,aC (aZ rf),W0,W0⟩) (ho _ w e) rfl λ_ g=>?_;have c:=c.more g;refine c.bX 1 2 λ_ c=>?_;exact q _ c.gr
 | false=>
  have c:=Cx.aB h;refine c.dJ λ_ _ c=>?_;refine c.dJ λ_ _ c=>?_;refine c.v8 λ_ _ c=>?_;refine aE<|c.rc 0 ?_;refine aN<|c.rl 0 ?_;refine vY (x:=bK ⟨rf,false,ws,mn,es,i,vr,mt,en,nx,bh⟩ w e .nilIface) (ho _ w e) rfl λ_ g=>?_;have c:=c.more g;refine c.bX 1 2 λ_ c=>?_;exact q _ c.gr
def zI {v:cP} (q:0<=s.seq/\s.seq<4294967296) (u:∀h',Gr h h'->R (hv (iM s) w e) h'):l6.1 (j7 (bK s w e .nilIface)) (eI v) h R:=by
 obtain⟨rf,du,ws,mn,es,i,vr,mt,en,nx,bh⟩:=s;have A:=bZ bh;have c:=Cx.aB h;refine c.dJ λ_ _ c=>?_;refine c.v4 λ_ _ c=>?_;refine c.dJ λ_ _ c=>?_;refine c.v8 λ_ _ c=>?_;refine c.rl 0 ?_;refine aE<|c.rc 0 ?_;refine aE<|c.rc 0 ?_;refine aE<|c.rc 0 ?_;refine aE<|c.rc 0 ?_;refine gH q λ_ g=>?_;have c:=c.more g;refine c.ac 0 ?_;refine c.ac 0 ?_;refine c.ac 0 ?_;refine c.al 0 ?_;refine gH q λ_ g=>?_;have c:=c.more g;refine c.ac 0 ?_;refine c.al 0 ?_;refine vx (aG (ds:=[_,_,_,_,_,_,_,_]) rfl)<|lp (x:=bK ⟨rf,du,ws,mn,es,i,vr,mt,en,nx,bh⟩ w e .nilIface) (a:=⟨6,aC (aZ rf),⟨0,lB rf,0⟩,⟨vr,lB rf,0⟩⟩) (ho _ w e) rfl λ_ g=>?_;have c:=c.more g;refine c.bX 2 3 λ_ c=>?_;exact u _ c.gr
def B7 {v:cP} (q:0<=s.seq/\s.seq<4294967296) (u:∀h',Gr h h'->R (hv (iM s) w e) h'):S.C 313 [(j7 (bK s w e .nilIface)),(eI v)] h R:=l6.2 (zI q u)
def xY {v:cP} (he:Sl EE h (aK e) s.es) (hi:s.i<=s.es.length/\s.es.length<=1000) (u:¬s.bh=none) (q:∀h',Gr h h'->R (hv (bG s) w e) h'):lh.1 (j7 (bK s w e .nilIface)) (eI v) h R:=by
 obtain⟨rf,du,ws,mn,es,i,vr,mt,en,nx,bh⟩:=s;have J:=bZ bh;dsimp only at he hi u;unfold bG at q;dsimp only at q;by_cases A:i=es.length
 ·rw[if_pos A] at q;have c:=Cx.aB h;refine c.dJ λ_ _ c=>?_;refine c.v4 λ_ _ c=>?_;refine c.dJ λ_ _ c=>?_;refine c.v8 λ_ _ c=>?_;refine aE<|c.rc 0 ?_;refine aE<|c.rc 0 ?_;refine vx (he.gr c.gr).ln<|vx (jO (congrArg Nat.cast A))<|bU<|c.rl 0 ?_;refine vx (aG (ds:=[_,_,_,_,_,_,_,_]) rfl)<|aE<|c.rc 0 ?_;refine lp (x:=bK ⟨rf,du,ws,mn,es,i,vr,mt,en,nx,bh⟩ w e .nilIface) (a:=⟨8,0,W0,W0⟩) (ho _ w e) J λ_ g=>?_;have c:=c.more g;refine c.bX 2 3 λ_ c=>?_;refine(?_:R (hv (⟨rf,du,ws,mn,es,i,vr,mt,en,bh.getD .begin,bh⟩,⟨8,0,W0,W0⟩,false) w e) _->_) (q _ c.gr);cases bh with
  | none=>exact absurd rfl u
  | some k=>exact id
 ·rw[if_neg A] at q;have E:i<es.length:=by omega
  have G:=List.getElem?_eq_getElem E;have H:hE ⟨rf,du,ws,mn,es,i,vr,mt,en,nx,bh⟩=es[i]:=by
   unfold hE;dsimp only;rw[List.getD_eq_getElem?_getD,G]; rfl
  rw[H] at q;generalize es[i]=et at G q;have c:=Cx.aB h;refine c.dJ λ_ _ c=>?_;refine c.v4 λ_ _ c=>?_;refine c.dJ λ_ _ c=>?_;refine c.v8 λ_ _ c=>?_;refine aE<|c.rc 0 ?_;refine aE<|c.rc 0 ?_;refine vx (he.gr c.gr).ln<|vx (fG (λh=>A (Int.ofNat_inj.1 h)))<|aN<|c.rl 0 ?_;refine ve (x:=bK ⟨rf,du,ws,mn,es,i,vr,mt,en,nx,bh⟩ w e .nilIface) (ho _ w e) (he.gr c.gr) rfl G λ_ g=>?_;have c:=c.more g;refine aE<|c.rc 0 ?_;refine vx (inc (n:=i) (by omega))<|aE<|c.tH 0 λ_ c=>?_;refine c.rl 0 ?_;refine vx (aG (ds:=[_,_,_,_,_,_,_,_]) rfl)<|lp (x:=bK ⟨rf,du,ws,mn,es,i+1,vr,mt,en,nx,bh⟩ w e .nilIface) (a:=⟨7,et.at',W0,W0⟩) (ho _ w e) rfl λ_ g=>?_;have c:=c.more g;refine c.bX 2 3 λ_ c=>?_;exact q _ c.gr
def G5 {v:cP} (he:Sl EE h (aK e) s.es) (hi:s.i<=s.es.length/\s.es.length<=1000) (q:¬s.bh=none) (u:∀h',Gr h h'->R (hv (bG s) w e) h'):S.C 318 [(j7 (bK s w e .nilIface)),(eI v)] h R:=lh.2 (xY he hi q u)
def Ee {k:HK} (he:Sl EE h (aK e) s.es) (hi:s.es.length<=1000) (q:∀h',Gr h h'->R (hv (eX s k) w e) h'):S.C 312 [(j7 (bK s w e .nilIface)),(kB (kI k))] h R:=by
 refine sX.2 ?_;obtain⟨rf,du,ws,mn,es,i,vr,mt,en,nx,bh⟩:=s;have u:=bZ bh;have c:=Cx.aB h;refine c.dJ λ_ _ c=>?_;refine c.dJ λ_ _ c=>?_;refine c.v8 λ_ _ c=>?_;refine aE<|c.tH 0 λ_ c=>?_;refine aE<|c.tH 0 λ_ c=>?_;refine c.rl 0 ?_;refine vx (aG (ds:=[_,_,_,_]) rfl)<|G5 (s:=⟨rf,du,ws,mn,es,0,vr,mt,en,nx,some k⟩) (w:=w) (e:=e) (v:=kq) (he.gr c.gr) ⟨Nat.zero_le _,hi⟩ (λh=>by cases h) λ_ g=>?_;have c:=c.more g;refine c.bX 1 2 λ_ c=>?_;exact q _ c.gr
end
def E7 {s:Hs} (h:s.i<s.es.length):s.es[s.i]?=some (hE s):=by
 unfold hE;rw[List.getD_eq_getElem?_getD,List.getElem?_eq_getElem h]; rfl
def gD (r:Int):0<=lB r/\lB r<4294967296:=by
 unfold lB;split
 ·rename_i h;have:=of_decide_eq_true h;omega
 ·omega
section
variable {s:Hs} {w e:SH} {g:cP} {z:Int}
def BV (he:Sl EE h (aK e) s.es) (hi:s.es.length<=1000) (q:∀h',Gr h h'->R (hv (cD s z) w e) h'):S.C 305 [(j7 (bK s w e .nilIface)),(.int .i64 z)] h R:=by
 refine sy.2 ?_;obtain⟨rf,du,ws,mn,es,i,vr,mt,en,nx,bh⟩:=s;have A:=bZ bh;unfold cD at q;dsimp only at q;by_cases u:z=1
 ·cases du with
  | true=>
   rw[if_pos ⟨u,rfl⟩] at q;have c:=Cx.aB h;refine c.dJ λ_ _ c=>?_;refine c.dJ λ_ _ c=>?_;refine c.v8 λ_ _ c=>?_;refine aE<|c.tH 0 λ_ c=>?_;refine .here<|vx (jO u)<|bU<|aE<|c.rc 0 ?_;refine bU<|c.rl 0 ?_;refine Ee (s:=⟨rf,true,ws,mn,es,i,z,mt,en,nx,bh⟩) (w:=w) (e:=e) (k:=.settle) (he.gr c.gr) hi λ_ g=>?_;have c:=c.more g;refine c.bX 1 2 λ_ c=>?_;exact q _ c.gr
  | false=>
   rw[if_neg λh=>by cases h.2] at q;have c:=Cx.aB h;refine c.dJ λ_ _ c=>?_;refine c.dJ λ_ _ c=>?_;refine c.v8 λ_ _ c=>?_;refine aE<|c.tH 0 λ_ c=>?_;refine .here<|vx (jO u)<|bU<|aE<|c.rc 0 ?_;refine aN<|c.rl 0 ?_;refine vx (aG (ds:=[_,_,_,_]) rfl)<|B7 (s:=⟨rf,false,ws,mn,es,i,z,mt,en,nx,bh⟩) (w:=w) (e:=e) (v:=kq) (gD rf) λ_ g=>?_;have c:=c.more g;refine c.bX 1 2 λ_ c=>?_;exact q _ c.gr
 ·rw[if_neg λh=>u h.1] at q;have c:=Cx.aB h;refine c.dJ λ_ _ c=>?_;refine c.dJ λ_ _ c=>?_;refine c.v8 λ_ _ c=>?_;refine aE<|c.tH 0 λ_ c=>?_;refine .here<|vx (fG u)<|aN<|aN<|c.rl 0 ?_;refine vx (aG (ds:=[_,_,_,_]) rfl)<|B7 (s:=⟨rf,du,ws,mn,es,i,z,mt,en,nx,bh⟩) (w:=w) (e:=e) (v:=kq) (gD rf) λ_ g=>?_;have c:=c.more g;refine c.bX 1 2 λ_ c=>?_;exact q _ c.gr
def nD (he:Sl EE h (aK e) s.es) (hi:s.i<=s.es.length/\s.es.length<=1000) (q:∀h',Gr h h'->R (hv (aW s) w e) h'):S.C 302 [(j7 (bK s w e .nilIface))] h R:=by
 refine qI.2 ?_;obtain⟨rf,du,ws,mn,es,i,vr,mt,en,nx,bh⟩:=s;have G:=bZ bh;dsimp only at he hi;unfold aW at q;dsimp only at q;by_cases u:i=es.length
 ·rw[if_pos u] at q;have c:=Cx.aB h;refine c.dJ λ_ _ c=>?_;refine c.dJ λ_ _ c=>?_;refine c.v8 λ_ _ c=>?_;refine aE<|c.rc 0 ?_;refine aE<|c.rc 0 ?_;refine vx (he.gr c.gr).ln<|vx (jO (congrArg Nat.cast u))<|bU<|c.rl 0 ?_;refine BV (s:=⟨rf,du,ws,mn,es,i,vr,mt,en,nx,bh⟩) (w:=w) (e:=e) (he.gr c.gr) hi.2 λ_ g=>?_;have c:=c.more g;refine c.bX 1 2 λ_ c=>?_;exact q _ c.gr
 ·rw[if_neg u] at q;have E:i<es.length:=by omega
  have A:=E7 (s:=⟨rf,du,ws,mn,es,i,vr,mt,en,nx,bh⟩) E;unfold rz at q;generalize hE ⟨rf,du,ws,mn,es,i,vr,mt,en,nx,bh⟩=et at A q;have c:=Cx.aB h;refine c.dJ λ_ _ c=>?_;refine c.dJ λ_ _ c=>?_;refine c.v8 λ_ _ c=>?_;refine aE<|c.rc 0 ?_;refine aE<|c.rc 0 ?_;refine vx (he.gr c.gr).ln<|vx (fG (λh=>u (Int.ofNat_inj.1 h)))<|aN<|c.rl 0 ?_;refine c.rl 0 ?_;refine c.rl 0 ?_;refine c.rl 0 ?_;refine ve (x:=bK ⟨rf,du,ws,mn,es,i,vr,mt,en,nx,bh⟩ w e .nilIface) (ho _ w e) (he.gr c.gr) rfl A λ_ g=>?_;have c:=c.more g;refine c.al 0 ?_;refine c.al 0 ?_;refine c.al 0 ?_;refine Ed (x:=bK ⟨rf,du,ws,mn,es,i,vr,mt,en,nx,bh⟩ w e .nilIface) (ho _ w e) (he.gr c.gr) rfl A λ_ g=>?_;have c:=c.more g;refine c.al 0 ?_;refine c.al 0 ?_;refine yJ (x:=bK ⟨rf,du,ws,mn,es,i,vr,mt,en,nx,bh⟩ w e .nilIface) (ho _ w e) (he.gr c.gr) rfl A λ_ g=>?_;have c:=c.more g;refine c.al 0 ?_;refine vx (aG (ds:=[_,_,_,_,_,_,_,_]) rfl)<|lp (x:=bK ⟨rf,du,ws,mn,es,i,vr,mt,en,nx,bh⟩ w e .nilIface) (a:=⟨6,et.at',et.old,{et.old with ref:=rf}⟩) (ho _ w e) rfl λ_ g=>?_;have c:=c.more g;refine c.bX 1 2 λ_ c=>?_;exact q _ c.gr
def yR (he:Sl EE h (aK e) s.es) (hi:s.es.length<=1000) (q:∀h',Gr h h'->R (hv (ke s) w e) h'):S.C 311 [(j7 (bK s w e .nilIface))] h R:=by
 refine tL.2 ?_;obtain⟨rf,du,ws,mn,es,i,vr,mt,en,nx,bh⟩:=s;have E:=bZ bh;dsimp only at he hi;unfold ke at q;dsimp only at q;by_cases u:i<es.length
 ·rw[if_pos u] at q;have A:=E7 (s:=⟨rf,du,ws,mn,es,i,vr,mt,en,nx,bh⟩) u;generalize hE ⟨rf,du,ws,mn,es,i,vr,mt,en,nx,bh⟩=et at A q;have c:=Cx.aB h;refine c.dJ λ_ _ c=>?_;refine c.dJ λ_ _ c=>?_;refine c.v8 λ_ _ c=>?_;refine aE<|c.rc 0 ?_;refine aE<|c.rc 0 ?_;refine vx (he.gr c.gr).ln<|vx (qA (Int.ofNat_lt.2 u))<|bU<|c.rl 0 ?_;refine c.rl 0 ?_;refine ve (x:=bK ⟨rf,du,ws,mn,es,i,vr,mt,en,nx,bh⟩ w e .nilIface) (ho _ w e) (he.gr c.gr) rfl A λ_ g=>?_;have c:=c.more g;refine c.al 0 ?_;refine vx (aG (ds:=[_,_,_,_,_,_,_,_]) rfl)<|lp (x:=bK ⟨rf,du,ws,mn,es,i,vr,mt,en,nx,bh⟩ w e .nilIface) (a:=⟨5,et.at',W0,W0⟩) (ho _ w e) rfl λ_ g=>?_;have c:=c.more g;refine c.bX 1 2 λ_ c=>?_;exact q _ c.gr
 ·rw[if_neg u] at q;cases du with
  | true=>
   have c:=Cx.aB h;refine c.dJ λ_ _ c=>?_;refine c.dJ λ_ _ c=>?_;refine c.v8 λ_ _ c=>?_;refine aE<|c.rc 0 ?_;refine aE<|c.rc 0 ?_;refine vx (he.gr c.gr).ln<|vx (dA (λh=>u (Int.ofNat_lt.1 h)))<|aN<|aE<|c.rc 0 ?_;refine bU<|c.rl 0 ?_;refine Ee (s:=⟨rf,true,ws,mn,es,i,vr,mt,en,nx,bh⟩) (w:=w) (e:=e) (k:=.through) (he.gr c.gr) hi λ_ g=>?_;have c:=c.more g;refine c.bX 1 2 λ_ c=>?_;exact q _ c.gr
  | false=>
   have c:=Cx.aB h;refine c.dJ λ_ _ c=>?_;refine c.dJ λ_ _ c=>?_;refine c.v8 λ_ _ c=>?_;refine aE<|c.rc 0 ?_;refine aE<|c.rc 0 ?_;refine vx (he.gr c.gr).ln<|vx (dA (λh=>u (Int.ofNat_lt.1 h)))<|aN<|aE<|c.rc 0 ?_;refine aN<|c.rl 0 ?_;refine aE<|c.rc 0 ?_;refine rC (x:=bK ⟨rf,false,ws,mn,es,i,vr,mt,en,nx,bh⟩ w e .nilIface) (z:=vr) (ho _ w e) λ_ g=>?_;have c:=c.more g;refine c.bX 1 2 λ_ c=>?_;exact q _ c.gr
def Bi (he:Sl EE h (aK e) s.es) (hi:s.es.length<=1000/\s.i<=1000) (q:∀h',Gr h h'->R (hv (lV s) w e) h'):ng.1 (j7 (bK s w e .nilIface)) (eI g) h R:=by
 obtain⟨rf,du,ws,mn,es,i,vr,mt,en,nx,bh⟩:=s;have u:=bZ bh;dsimp only at he hi;have c:=Cx.aB h;refine c.dJ λ_ _ c=>?_;refine c.v4 λ_ _ c=>?_;refine c.dJ λ_ _ c=>?_;refine c.v8 λ_ _ c=>?_;refine aE<|c.rc 0 ?_;refine vx (inc (n:=i) (by omega))<|aE<|c.tH 0 λ_ c=>?_;refine c.rl 0 ?_;refine yR (s:=⟨rf,du,ws,mn,es,i+1,vr,mt,en,nx,bh⟩) (w:=w) (e:=e) (he.gr c.gr) hi.1 λ_ g=>?_;have c:=c.more g;refine c.bX 2 3 λ_ c=>?_;exact q _ c.gr
def zC (he:Sl EE h (aK e) s.es) (hi:s.es.length<=1000/\s.i<=1000) (q:∀h',Gr h h'->R (hv (lV s) w e) h'):S.C 322 [(j7 (bK s w e .nilIface)),(eI g)] h R:=ng.2 (Bi he hi q)
def Gu (q:∀h',Gr h h'->R (hv (bD s) w e) h'):nQ.1 (j7 (bK s w e .nilIface)) (eI g) h R:=by
 obtain⟨rf,du,ws,mn,es,i,vr,mt,en,nx,bh⟩:=s;have u:=bZ bh;have c:=Cx.aB h;refine c.dJ λ_ _ c=>?_;refine c.v4 λ_ _ c=>?_;refine c.dJ λ_ _ c=>?_;refine c.v8 λ_ _ c=>?_;refine c.rl 0 ?_;refine uh (s:=⟨rf,du,ws,mn,es,i,vr,mt,en,nx,bh⟩) (w:=w) (e:=e) λ_ g=>?_;have c:=c.more g;refine c.bX 2 3 λ_ c=>?_;exact q _ c.gr
def JU (he:Sl EE h (aK e) s.es) (hi:s.i<=s.es.length/\s.es.length<=1000) (q:∀h',Gr h h'->R (hv (aW s) w e) h'):pg.1 (j7 (bK s w e .nilIface)) (eI g) h R:=by
 obtain⟨rf,du,ws,mn,es,i,vr,mt,en,nx,bh⟩:=s;have u:=bZ bh;have c:=Cx.aB h;refine c.dJ λ_ _ c=>?_;refine c.v4 λ_ _ c=>?_;refine c.dJ λ_ _ c=>?_;refine c.v8 λ_ _ c=>?_;refine c.rl 0 ?_;refine nD (s:=⟨rf,du,ws,mn,es,i,vr,mt,en,nx,bh⟩) (w:=w) (e:=e) (he.gr c.gr) hi λ_ g=>?_;have c:=c.more g;refine c.bX 2 3 λ_ c=>?_;exact q _ c.gr
def wS (q:∀h',Gr h h'->R (hv (eF s ⟨8,0,W0,W0⟩ .cJ) w e) h'):jC.1 (j7 (bK s w e .nilIface)) (eI g) h R:=by
 obtain⟨rf,du,ws,mn,es,i,vr,mt,en,nx,bh⟩:=s;have u:=bZ bh;have c:=Cx.aB h;refine c.dJ λ_ _ c=>?_;refine c.v4 λ_ _ c=>?_;refine c.dJ λ_ _ c=>?_;refine c.v8 λ_ _ c=>?_;refine c.rl 0 ?_;refine vx (aG (ds:=[_,_,_,_,_,_,_,_]) rfl)<|lp (x:=bK ⟨rf,du,ws,mn,es,i,vr,mt,en,nx,bh⟩ w e .nilIface) (a:=⟨8,0,W0,W0⟩) (ho _ w e) rfl λ_ g=>?_;have c:=c.more g;refine c.bX 2 3 λ_ c=>?_;exact q _ c.gr
def AA (q:∀h',Gr h h'->R (hv (gP s .known) w e) h'):ll.1 (j7 (bK s w e .nilIface)) (eI g) h R:=by
 obtain⟨rf,du,ws,mn,es,i,vr,mt,en,nx,bh⟩:=s;have u:=bZ bh;have c:=Cx.aB h;refine c.dJ λ_ _ c=>?_;refine c.v4 λ_ _ c=>?_;refine c.dJ λ_ _ c=>?_;refine c.v8 λ_ _ c=>?_;refine c.rl 0 ?_;refine vY (x:=bK ⟨rf,du,ws,mn,es,i,vr,mt,en,nx,bh⟩ w e .nilIface) (ho _ w e) rfl λ_ g=>?_;have c:=c.more g;refine c.bX 2 3 λ_ c=>?_;exact q _ c.gr
def GS (q:∀h',Gr h h'->R (hv (nM s s.aO) w e) h'):nL.1 (j7 (bK s w e .nilIface)) (eI g) h R:=by
 obtain⟨rf,du,ws,mn,es,i,vr,mt,en,nx,bh⟩:=s;have u:=bZ bh;have c:=Cx.aB h;refine c.dJ λ_ _ c=>?_;refine c.v4 λ_ _ c=>?_;refine c.dJ λ_ _ c=>?_;refine c.v8 λ_ _ c=>?_;refine c.rl 0 ?_;refine aE<|c.rc 0 ?_;refine rC (x:=bK ⟨rf,du,ws,mn,es,i,vr,mt,en,nx,bh⟩ w e .nilIface) (z:=vr) (ho _ w e) λ_ g=>?_;have c:=c.more g;refine c.bX 2 3 λ_ c=>?_;exact q _ c.gr
def La (q:∀h',Gr h h'->R (hv (gP s .first) w e) h'):qk.1 (j7 (bK s w e .nilIface)) (eI g) h R:=by
 obtain⟨rf,du,ws,mn,es,i,vr,mt,en,nx,bh⟩:=s;have u:=bZ bh;have c:=Cx.aB h;refine c.dJ λ_ _ c=>?_;refine c.v4 λ_ _ c=>?_;refine c.dJ λ_ _ c=>?_;refine c.v8 λ_ _ c=>?_;refine c.rl 0 ?_;refine vY (x:=bK ⟨rf,du,ws,mn,es,i,vr,mt,en,nx,bh⟩ w e .nilIface) (ho _ w e) rfl λ_ g=>?_;have c:=c.more g;refine c.bX 2 3 λ_ c=>?_;exact q _ c.gr
end
def RX (a b:W3):tg [true,true,true] (.agg ⟨cW a⟩) (.agg ⟨cW b⟩)=some (decide (a=b)):=by
 show((some (a.v == b.v)).bind λx=>((some (a.aO == b.aO)).bind λx=>((some (a.ref == b.ref)).bind λx=>(some true).bind λq=>some (x&&q)).bind λq=>some (x&&q)).bind λq=>some (x&&q))=_;have:=W3.iff a b;by_cases h1:a.v=b.v <;> by_cases h2:a.aO=b.aO <;> by_cases u:a.ref=b.ref <;> simp[h1,h2,u,<-this]
def E1 {a b:W3} (e:a=b):pos? (tg [true,true,true] (.agg ⟨cW a⟩) (.agg ⟨cW b⟩))=some (.bool true):=by rw[RX,decide_eq_true e]; rfl
def ES {a b:W3} (e:¬a=b):pos? (tg [true,true,true] (.agg ⟨cW a⟩) (.agg ⟨cW b⟩))=some (.bool false):=by rw[RX,decide_eq_false e]; rfl
def Pe {a b:W3} (e:¬a=b):nX (tg [true,true,true] (.agg ⟨cW a⟩) (.agg ⟨cW b⟩))=some (.bool true):=by rw[RX,decide_eq_false e]; rfl
def PH {a b:W3} (e:a=b):nX (tg [true,true,true] (.agg ⟨cW a⟩) (.agg ⟨cW b⟩))=some (.bool false):=by rw[RX,decide_eq_true e]; rfl
section
variable {s:Hs} {w e:SH} {g:cP} {z:Int}
def LB (he:Sl EE h (aK e) s.es) (hi:s.i<s.es.length/\s.es.length<=1000) (hw:Ww g.w) (q:∀h',Gr h h'->R (hv (pj s g.w) w e) h'):qz.1 (j7 (bK s w e .nilIface)) (eI g) h R:=by
 obtain⟨rf,du,ws,mn,es,i,vr,mt,en,nx,bh⟩:=s;obtain⟨⟨E,G,gr⟩,K⟩:=g;have M:=bZ bh;dsimp only at he hi hw;have A:=E7 (s:=⟨rf,du,ws,mn,es,i,vr,mt,en,nx,bh⟩) hi.1;unfold pj at q;generalize hE ⟨rf,du,ws,mn,es,i,vr,mt,en,nx,bh⟩=et at A q;obtain⟨J,⟨ev,eq,N⟩,H,eb⟩:=et;dsimp only at q A;by_cases u:gr=rf
 ·cases eb with
  | true=>
   by_cases c2:(s6 ⟨E,G,gr⟩ H (decide (vr=1))).2=0
   ·rw[if_pos ⟨u,c2⟩] at q;have c:=Cx.aB h;refine c.dJ λ_ _ c=>?_;refine c.v4 λ_ _ c=>?_;refine c.dJ λ_ _ c=>?_;refine c.v8 λ_ _ c=>?_;refine aE<|c.rc 0 ?_;refine aE<|c.rc 0 ?_;refine(he.gr c.gr).whole rfl A rfl ?_;refine c.v6 λ_ _ c=>?_;refine c.w6 4 λ_ c=>?_;refine .here<|aE<|aE<|c.rc 1 ?_;refine aE<|c.rc 0 ?_;refine vx (jO u)<|bU ?_;refine .here<|aE<|vx (c.vp (i:=1) (ds:=[_,_,_]) rfl rfl rfl)<|aE<|c.rc 4 ?_;refine aE<|c.rc 4 ?_;refine bU<|aE<|c.rc 0 ?_;refine vx bW<|sO hw λ_ g=>?_;have c:=c.more g;refine vx rfl<|vx rfl<|c.v3 λ_ _ c=>?_;refine c.w3 5 λ_ c=>?_;refine vx (jO c2)<|bU<|c.rl 0 ?_;refine aE<|c.rc 4 ?_;refine aE<|vx (c.vp (i:=1) (ds:=[_,_,_]) rfl rfl rfl)<|c.rl 5 ?_;refine vx (aG (ds:=[_,_,_,_,_,_,_,_]) rfl)<|lp (x:=bK ⟨rf,du,ws,mn,es,i,vr,mt,en,nx,bh⟩ w e .nilIface) (a:=⟨6,J,⟨E,G,gr⟩,(s6 ⟨E,G,gr⟩ H (decide (vr=1))).1⟩) (ho _ w e) rfl λ_ g=>?_;have c:=c.more g;refine c.bX 2 3 λ_ c=>?_;exact q _ c.gr
   ·rw[if_neg λh=>c2 h.2] at q;have c:=Cx.aB h;refine c.dJ λ_ _ c=>?_;refine c.v4 λ_ _ c=>?_;refine c.dJ λ_ _ c=>?_;refine c.v8 λ_ _ c=>?_;refine aE<|c.rc 0 ?_;refine aE<|c.rc 0 ?_;refine(he.gr c.gr).whole rfl A rfl ?_;refine c.v6 λ_ _ c=>?_;refine c.w6 4 λ_ c=>?_;refine .here<|aE<|aE<|c.rc 1 ?_;refine aE<|c.rc 0 ?_;refine vx (jO u)<|bU ?_;refine .here<|aE<|vx (c.vp (i:=1) (ds:=[_,_,_]) rfl rfl rfl)<|aE<|c.rc 4 ?_;refine aE<|c.rc 4 ?_;refine bU<|aE<|c.rc 0 ?_;refine vx bW<|sO hw λ_ g=>?_;have c:=c.more g;refine vx rfl<|vx rfl<|c.v3 λ_ _ c=>?_;refine c.w3 5 λ_ c=>?_;refine vx (fG c2)<|aN<|c.rl 0 ?_;refine vx (aG (ds:=[_,_,_,_]) rfl)<|zC (s:=⟨rf,du,ws,mn,es,i,vr,mt,en,nx,bh⟩) (w:=w) (e:=e) (g:=kq) (he.gr c.gr) ⟨hi.2,by show i<=1000; omega⟩ λ_ g=>?_;have c:=c.more g;refine c.bX 2 3 λ_ c=>?_;exact q _ c.gr
  | false=>
   by_cases c2:(s6 ⟨E,G,gr⟩ H false).2=0
   ·rw[if_pos ⟨u,c2⟩] at q;have c:=Cx.aB h;refine c.dJ λ_ _ c=>?_;refine c.v4 λ_ _ c=>?_;refine c.dJ λ_ _ c=>?_;refine c.v8 λ_ _ c=>?_;refine aE<|c.rc 0 ?_;refine aE<|c.rc 0 ?_;refine(he.gr c.gr).whole rfl A rfl ?_;refine c.v6 λ_ _ c=>?_;refine c.w6 4 λ_ c=>?_;refine .here<|aE<|aE<|c.rc 1 ?_;refine aE<|c.rc 0 ?_;refine vx (jO u)<|bU ?_;refine .here<|aE<|vx (c.vp (i:=1) (ds:=[_,_,_]) rfl rfl rfl)<|aE<|c.rc 4 ?_;refine aE<|c.rc 4 ?_;refine aN<|sO hw λ_ g=>?_;have c:=c.more g;refine vx rfl<|vx rfl<|c.v3 λ_ _ c=>?_;refine c.w3 5 λ_ c=>?_;refine vx (jO c2)<|bU<|c.rl 0 ?_;refine aE<|c.rc 4 ?_;refine aE<|vx (c.vp (i:=1) (ds:=[_,_,_]) rfl rfl rfl)<|c.rl 5 ?_;refine vx (aG (ds:=[_,_,_,_,_,_,_,_]) rfl)<|lp (x:=bK ⟨rf,du,ws,mn,es,i,vr,mt,en,nx,bh⟩ w e .nilIface) (a:=⟨6,J,⟨E,G,gr⟩,(s6 ⟨E,G,gr⟩ H false).1⟩) (ho _ w e) rfl λ_ g=>?_;have c:=c.more g;refine c.bX 2 3 λ_ c=>?_;exact q _ c.gr
   ·rw[if_neg λh=>c2 h.2] at q;have c:=Cx.aB h;refine c.dJ λ_ _ c=>?_;refine c.v4 λ_ _ c=>?_;refine c.dJ λ_ _ c=>?_;refine c.v8 λ_ _ c=>?_;refine aE<|c.rc 0 ?_;refine aE<|c.rc 0 ?_;refine(he.gr c.gr).whole rfl A rfl ?_;refine c.v6 λ_ _ c=>?_;refine c.w6 4 λ_ c=>?_;refine .here<|aE<|aE<|c.rc 1 ?_;refine aE<|c.rc 0 ?_;refine vx (jO u)<|bU ?_;refine .here<|aE<|vx (c.vp (i:=1) (ds:=[_,_,_]) rfl rfl rfl)<|aE<|c.rc 4 ?_;refine aE<|c.rc 4 ?_;refine aN<|sO hw λ_ g=>?_;have c:=c.more g;refine vx rfl<|vx rfl<|c.v3 λ_ _ c=>?_;refine c.w3 5 λ_ c=>?_;refine vx (fG c2)<|aN<|c.rl 0 ?_;refine vx (aG (ds:=[_,_,_,_]) rfl)<|zC (s:=⟨rf,du,ws,mn,es,i,vr,mt,en,nx,bh⟩) (w:=w) (e:=e) (g:=kq) (he.gr c.gr) ⟨hi.2,by show i<=1000; omega⟩ λ_ g=>?_;have c:=c.more g;refine c.bX 2 3 λ_ c=>?_;exact q _ c.gr
 ·rw[if_neg λh=>u h.1] at q;have c:=Cx.aB h;refine c.dJ λ_ _ c=>?_;refine c.v4 λ_ _ c=>?_;refine c.dJ λ_ _ c=>?_;refine c.v8 λ_ _ c=>?_;refine aE<|c.rc 0 ?_;refine aE<|c.rc 0 ?_;refine(he.gr c.gr).whole rfl A rfl ?_;refine c.v6 λ_ _ c=>?_;refine c.w6 4 λ_ c=>?_;refine .here<|aE<|aE<|c.rc 1 ?_;refine aE<|c.rc 0 ?_;refine vx (fG u)<|aN<|c.rl 0 ?_;refine vx (aG (ds:=[_,_,_,_]) rfl)<|zC (s:=⟨rf,du,ws,mn,es,i,vr,mt,en,nx,bh⟩) (w:=w) (e:=e) (g:=kq) (he.gr c.gr) ⟨hi.2,by show i<=1000; omega⟩ λ_ g=>?_;have c:=c.more g;refine c.bX 2 3 λ_ c=>?_;exact q _ c.gr
def Kz (he:Sl EE h (aK e) s.es) (hi:s.es.length<=1000) (u:∀h',Gr h h'->R (hv (rY s g.w) w e) h'):qa.1 (j7 (bK s w e .nilIface)) (eI g) h R:=by
 obtain⟨rf,du,ws,mn,es,i,vr,mt,en,nx,bh⟩:=s;obtain⟨⟨q,A,gr⟩,G⟩:=g;have H:=bZ bh;dsimp only at he hi;unfold rY at u;dsimp only at u;by_cases E:(⟨q,A,gr⟩:W3)=⟨1,lB rf,0⟩
 ·rw[if_pos (.inl E)] at u;have c:=Cx.aB h;refine c.dJ λ_ _ c=>?_;refine c.v4 λ_ _ c=>?_;refine c.dJ λ_ _ c=>?_;refine c.v8 λ_ _ c=>?_;refine aE<|c.tH 0 λ_ c=>?_;refine aE<|c.tH 0 λ_ c=>?_;refine .here<|aE<|vx (c.vp (i:=1) (ds:=[_,_,_]) rfl rfl rfl) ?_;refine .here<|aE<|c.rc 0 ?_;refine gH (gD rf) λ_ g=>?_;have c:=c.more g;refine vx (E1 (a:=⟨q,A,gr⟩) (b:=⟨1,lB rf,0⟩) E)<|bU<|bU<|aE<|aE<|c.rc 1 ?_;refine aE<|c.tH 0 λ_ c=>?_;refine c.rl 0 ?_;refine yR (s:=⟨rf,du,ws,mn,es,0,q,mt,en,nx,bh⟩) (w:=w) (e:=e) (he.gr c.gr) hi λ_ g=>?_;have c:=c.more g;refine c.bX 2 3 λ_ c=>?_;exact u _ c.gr
 ·by_cases c2:(⟨q,A,gr⟩:W3)=⟨2,lB rf,0⟩
  ·rw[if_pos (.inr c2)] at u;have c:=Cx.aB h;refine c.dJ λ_ _ c=>?_;refine c.v4 λ_ _ c=>?_;refine c.dJ λ_ _ c=>?_;refine c.v8 λ_ _ c=>?_;refine aE<|c.tH 0 λ_ c=>?_;refine aE<|c.tH 0 λ_ c=>?_;refine .here<|aE<|vx (c.vp (i:=1) (ds:=[_,_,_]) rfl rfl rfl) ?_;refine .here<|aE<|c.rc 0 ?_;refine gH (gD rf) λ_ g=>?_;have c:=c.more g;refine vx (ES (a:=⟨q,A,gr⟩) (b:=⟨1,lB rf,0⟩) E)<|aN<|aE<|c.rc 0 ?_;refine gH (gD rf) λ_ g=>?_;have c:=c.more g;refine vx (E1 (a:=⟨q,A,gr⟩) (b:=⟨2,lB rf,0⟩) c2)<|bU<|aE<|aE<|c.rc 1 ?_;refine aE<|c.tH 0 λ_ c=>?_;refine c.rl 0 ?_;refine yR (s:=⟨rf,du,ws,mn,es,0,q,mt,en,nx,bh⟩) (w:=w) (e:=e) (he.gr c.gr) hi λ_ g=>?_;have c:=c.more g;refine c.bX 2 3 λ_ c=>?_;exact u _ c.gr
  ·rw[if_neg λh=>h.elim E c2] at u;have c:=Cx.aB h;refine c.dJ λ_ _ c=>?_;refine c.v4 λ_ _ c=>?_;refine c.dJ λ_ _ c=>?_;refine c.v8 λ_ _ c=>?_;refine aE<|c.tH 0 λ_ c=>?_;refine aE<|c.tH 0 λ_ c=>?_;refine .here<|aE<|vx (c.vp (i:=1) (ds:=[_,_,_]) rfl rfl rfl) ?_;refine .here<|aE<|c.rc 0 ?_;refine gH (gD rf) λ_ g=>?_;have c:=c.more g;refine vx (ES (a:=⟨q,A,gr⟩) (b:=⟨1,lB rf,0⟩) E)<|aN<|aE<|c.rc 0 ?_;refine gH (gD rf) λ_ g=>?_;have c:=c.more g;refine vx (ES (a:=⟨q,A,gr⟩) (b:=⟨2,lB rf,0⟩) c2)<|aN<|c.rl 0 ?_;refine yR (s:=⟨rf,du,ws,mn,es,0,4,mt,en,nx,bh⟩) (w:=w) (e:=e) (he.gr c.gr) hi λ_ g=>?_;have c:=c.more g;refine c.bX 2 3 λ_ c=>?_;exact u _ c.gr
def CN (Z:Zs h) (he:Sl EE h (aK e) s.es) (hi:s.i<s.es.length/\s.es.length<=1000) (hw:Ww g.w) (E:∀h',Gr h h'->R (hv (fJ s g) w e) h'):lU.1 (j7 (bK s w e .nilIface)) (eI g) h R:=by
 obtain⟨rf,du,ws,mn,es,i,vr,mt,en,nx,bh⟩:=s;obtain⟨⟨G,H,gr⟩,M⟩:=g;obtain⟨q,u,A⟩:=mt;have N:=bZ bh;dsimp only at he hi hw;have J:=E7 (s:=⟨rf,du,ws,mn,es,i,vr,⟨q,u,A⟩,en,nx,bh⟩) hi.1;unfold fJ rz at E;generalize hE ⟨rf,du,ws,mn,es,i,vr,⟨q,u,A⟩,en,nx,bh⟩=et at J E;obtain⟨O,⟨ev,eq,Q⟩,T,eb⟩:=et;dsimp only at E J;cases M with
 | true=>
  rw[if_pos (.inl rfl)] at E;have c:=Cx.aB h;refine c.dJ λ_ _ c=>?_;refine c.v4 λ_ _ c=>?_;refine c.dJ λ_ _ c=>?_;refine c.v8 λ_ _ c=>?_;refine .here<|aE<|c.rc 1 ?_;refine bU<|bU<|aE<|c.rc 0 ?_;refine vx (inc (n:=i) (by omega))<|aE<|c.tH 0 λ_ c=>?_;refine c.rl 0 ?_;refine nD (s:=⟨rf,du,ws,mn,es,i+1,vr,⟨q,u,A⟩,en,nx,bh⟩) (w:=w) (e:=e) (he.gr c.gr) ⟨hi.1,hi.2⟩ λ_ g=>?_;have c:=c.more g;refine c.bX 2 3 λ_ c=>?_;exact E _ c.gr
 | false=>
  by_cases K:(⟨G,H,gr⟩:W3)=⟨ev,eq,rf⟩
  ·rw[if_pos (.inr K)] at E;have c:=Cx.aB h;refine c.dJ λ_ _ c=>?_;refine c.v4 λ_ _ c=>?_;refine c.dJ λ_ _ c=>?_;refine c.v8 λ_ _ c=>?_;refine .here<|aE<|c.rc 1 ?_;refine aN<|aE<|vx (c.vp (i:=1) (ds:=[_,_,_]) rfl rfl rfl)<|c.rl 0 ?_;refine yJ (x:=bK ⟨rf,du,ws,mn,es,i,vr,⟨q,u,A⟩,en,nx,bh⟩ w e .nilIface) (ho _ w e) (he.gr c.gr) rfl J λ_ g=>?_;have c:=c.more g;refine And.intro (c.vp (i:=1) (ds:=[_,_,_]) rfl rfl rfl) ?_;refine vx (E1 (a:=⟨G,H,gr⟩) (b:=⟨ev,eq,rf⟩) K)<|bU<|aE<|c.rc 0 ?_;refine vx (inc (n:=i) (by omega))<|aE<|c.tH 0 λ_ c=>?_;refine c.rl 0 ?_;refine nD (s:=⟨rf,du,ws,mn,es,i+1,vr,⟨q,u,A⟩,en,nx,bh⟩) (w:=w) (e:=e) (he.gr c.gr) ⟨hi.1,hi.2⟩ λ_ g=>?_;have c:=c.more g;refine c.bX 2 3 λ_ c=>?_;exact E _ c.gr
  ·rw[if_neg λh=>h.elim (λh=>by cases h) K] at E;by_cases c2:rK ⟨rf,du,ws,mn,es,i,vr,⟨q,u,A⟩,en,nx,bh⟩ ⟨G,H,gr⟩=true
   ·rw[if_pos c2] at E;have c:=Cx.aB h;refine c.dJ λ_ _ c=>?_;refine c.v4 λ_ _ c=>?_;refine c.dJ λ_ _ c=>?_;refine c.v8 λ_ _ c=>?_;refine .here<|aE<|c.rc 1 ?_;refine aN<|aE<|vx (c.vp (i:=1) (ds:=[_,_,_]) rfl rfl rfl)<|c.rl 0 ?_;refine yJ (x:=bK ⟨rf,du,ws,mn,es,i,vr,⟨q,u,A⟩,en,nx,bh⟩ w e .nilIface) (ho _ w e) (he.gr c.gr) rfl J λ_ g=>?_;have c:=c.more g;refine And.intro (c.vp (i:=1) (ds:=[_,_,_]) rfl rfl rfl) ?_;refine vx (ES (a:=⟨G,H,gr⟩) (b:=⟨ev,eq,rf⟩) K)<|aN<|c.rl 0 ?_;refine aE<|vx (c.vp (i:=1) (ds:=[_,_,_]) rfl rfl rfl)<|z8 (x:=bK ⟨rf,du,ws,mn,es,i,vr,⟨q,u,A⟩,en,nx,bh⟩ w e .nilIface) (w:=⟨G,H,gr⟩) (Z.gr c.gr) (ho _ w e) hw λ_ g=>?_;have c:=c.more g;rw[show rI (bK ⟨rf,du,ws,mn,es,i,vr,⟨q,u,A⟩,en,nx,bh⟩ w e .nilIface) ⟨G,H,gr⟩=true from c2];refine bU<|aE<|vx (c.vp (i:=1) (ds:=[_,_,_]) rfl rfl rfl)<|aE<|c.vq 0 rfl (vs:=[_,_,_]) (ds:=[_,_,_,_,_,_,_,_,_,_,_,_,_,_,_,_,_,_,_,_,_]) (by exact rfl) (by exact rfl) (by exact rfl) (by exact rfl) (by exact rfl) λ_ c=>?_;replace c:=c.n4;refine c.rl 0 ?_;refine vY (x:=bK ⟨rf,du,ws,mn,es,i,vr,⟨G,H,gr⟩,en,nx,bh⟩ w e .nilIface) (ho _ w e) rfl λ_ g=>?_;have c:=c.more g;refine c.bX 2 3 λ_ c=>?_;exact E _ c.gr
   ·rw[if_neg c2] at E;have c:=Cx.aB h;refine c.dJ λ_ _ c=>?_;refine c.v4 λ_ _ c=>?_;refine c.dJ λ_ _ c=>?_;refine c.v8 λ_ _ c=>?_;refine .here<|aE<|c.rc 1 ?_;refine aN<|aE<|vx (c.vp (i:=1) (ds:=[_,_,_]) rfl rfl rfl)<|c.rl 0 ?_;refine yJ (x:=bK ⟨rf,du,ws,mn,es,i,vr,⟨q,u,A⟩,en,nx,bh⟩ w e .nilIface) (ho _ w e) (he.gr c.gr) rfl J λ_ g=>?_;have c:=c.more g;refine And.intro (c.vp (i:=1) (ds:=[_,_,_]) rfl rfl rfl) ?_;refine vx (ES (a:=⟨G,H,gr⟩) (b:=⟨ev,eq,rf⟩) K)<|aN<|c.rl 0 ?_;refine aE<|vx (c.vp (i:=1) (ds:=[_,_,_]) rfl rfl rfl)<|z8 (x:=bK ⟨rf,du,ws,mn,es,i,vr,⟨q,u,A⟩,en,nx,bh⟩ w e .nilIface) (w:=⟨G,H,gr⟩) (Z.gr c.gr) (ho _ w e) hw λ_ g=>?_;have c:=c.more g;rw[show rI (bK ⟨rf,du,ws,mn,es,i,vr,⟨q,u,A⟩,en,nx,bh⟩ w e .nilIface) ⟨G,H,gr⟩=false from Bool.not_eq_true _▸c2];refine aN<|c.rl 0 ?_;refine BV (s:=⟨rf,du,ws,mn,es,i,vr,⟨q,u,A⟩,en,nx,bh⟩) (w:=w) (e:=e) (he.gr c.gr) hi.2 λ_ g=>?_;have c:=c.more g;refine c.bX 2 3 λ_ c=>?_;exact E _ c.gr
def Kh (G : -1000<=s.at'/\s.at'<=100000) (A:∀h',Gr h h'->R (hv (if oX s g.w=true then nM s 4 else eF s ⟨1,s.at'+1,W0,W0⟩ .dE) w e) h'):qv.1 (j7 (bK s w e .nilIface)) (eI g) h R:=by
 obtain⟨rf,du,ws,mn,es,i,vr,mt,en,nx,bh⟩:=s;obtain⟨⟨q,u,gr⟩,H⟩:=g;have J:=bZ bh;have G : -1000<=aC (aZ rf)/\aC (aZ rf)<=100000:=G;by_cases E:oX ⟨rf,du,ws,mn,es,i,vr,mt,en,nx,bh⟩ ⟨q,u,gr⟩=true
 ·rw[if_pos E] at A;have c:=Cx.aB h;refine c.dJ λ_ _ c=>?_;refine c.v4 λ_ _ c=>?_;refine c.dJ λ_ _ c=>?_;refine c.v8 λ_ _ c=>?_;refine c.rl 0 ?_;refine aE<|vx (c.vp (i:=1) (ds:=[_,_,_]) rfl rfl rfl)<|pD (x:=bK ⟨rf,du,ws,mn,es,i,vr,mt,en,nx,bh⟩ w e .nilIface) (w:=⟨q,u,gr⟩) (ho _ w e) (gD rf) λ_ g=>?_;have c:=c.more g;rw[show qx (bK ⟨rf,du,ws,mn,es,i,vr,mt,en,nx,bh⟩ w e .nilIface) ⟨q,u,gr⟩=true from E];refine bU<|c.rl 0 ?_;refine rC (x:=bK ⟨rf,du,ws,mn,es,i,vr,mt,en,nx,bh⟩ w e .nilIface) (z:=4) (ho _ w e) λ_ g=>?_;have c:=c.more g;refine c.bX 2 3 λ_ c=>?_;exact A _ c.gr
 ·rw[if_neg E] at A;have c:=Cx.aB h;refine c.dJ λ_ _ c=>?_;refine c.v4 λ_ _ c=>?_;refine c.dJ λ_ _ c=>?_;refine c.v8 λ_ _ c=>?_;refine c.rl 0 ?_;refine aE<|vx (c.vp (i:=1) (ds:=[_,_,_]) rfl rfl rfl)<|pD (x:=bK ⟨rf,du,ws,mn,es,i,vr,mt,en,nx,bh⟩ w e .nilIface) (w:=⟨q,u,gr⟩) (ho _ w e) (gD rf) λ_ g=>?_;have c:=c.more g;rw[show qx (bK ⟨rf,du,ws,mn,es,i,vr,mt,en,nx,bh⟩ w e .nilIface) ⟨q,u,gr⟩=false from Bool.not_eq_true _▸E];refine aN<|c.rl 0 ?_;refine aE<|c.rc 0 ?_;refine vx (iQ (a:=aC (aZ rf)) ⟨by omega,by omega⟩)<|vx (aG (ds:=[_,_,_,_,_,_,_,_]) rfl)<|lp (x:=bK ⟨rf,du,ws,mn,es,i,vr,mt,en,nx,bh⟩ w e .nilIface) (a:=⟨1,aC (aZ rf)+1,W0,W0⟩) (ho _ w e) rfl λ_ g=>?_;have c:=c.more g;refine c.bX 2 3 λ_ c=>?_;exact A _ c.gr
end
def Sl.flat {α:Type} {E:jZ α} {v:Value} {xs:List α} (H:Sl E h v xs) (A:0<xs.length) (ho:cN (xs.flatMap E.c)=true):∃r o cap,v=.slice (some ⟨r,o,none⟩) xs.length cap/\Row (RB (xs.flatMap E.c).length) h r o ⟨xs.flatMap E.c,rfl,ho⟩:=by
 obtain⟨a,cap,rfl,h1,h2,q⟩:=H;obtain⟨r,o,rfl,_⟩:=q 0 _ (List.getElem?_eq_getElem A);refine⟨r,o,cap,rfl,λj u hu=>?_⟩;obtain⟨i,x,G,J,K,rfl⟩:=yu E _ j u hu;obtain⟨N,O,e,M⟩:=q i x J;simp only[Option.some.injEq,Addr.mk.injEq,and_true] at e;obtain⟨rfl,rfl⟩:=e;have:=M G u K;rwa [Nat.add_assoc] at this
def Sl.RJ {v:Value} {ws:List W3} (H:Sl EW h v ws) {k:Nat} {a b c:W3} {r:List W3} (E:ws.drop k=a::b::c::r) {z q:Int} (J:z=k) (A:q=(k+3:Nat)) {K:Value->Prop} (M:K (vP a b c)) :
  Vb (sB 3 v (some (.int .i64 z)) (some (.int .i64 q)) none) λu=>Vb (OK 3 u) λp=>Vb (aP 9 p h) K:=by
 have N:k+3<=ws.length:=by
  have:=congrArg List.length E;rw[List.length_drop,List.length_cons,List.length_cons,List.length_cons] at this;omega
 obtain⟨u,e,G,_⟩:=H.sub (n:=3) rfl (lo:=some (.int .i64 z)) (hi:=some (.int .i64 q)) (l:=k) (u:=k+3) (.inr ⟨_,_,rfl,J⟩) (.inr ⟨_,_,rfl,A⟩) (by omega) N;have O:(ws.take (k+3)).drop k=[a,b,c]:=by
  rw[<-List.take_drop,E];rfl
 rw[O] at G;obtain⟨Q,o,cap,rfl,T⟩:=G.flat (by simp) rfl;exact En.vb e (En.vb (v:=.pointer (some ⟨Q,o,none⟩)) rfl (En.vb (T.aP rfl) M))
def Ec {a b:Int} (h:xB (a*b)):bin .mul (.int .i64 a) (.int .i64 b)=some (.int .i64 (a*b)):=by rw[vG,zb h]
section
variable {s:Hs} {w e:SH} {g:cP} {z:Int}
structure Uv (s:Hs):Prop where
 who:0<=aC (aZ s.ref)
 many:(s.many:Int)<=cG (aZ s.ref)
 ws:s.ws.length<=3*s.many
def ze (w:Int):cG w<=32:=by
 unfold cG;split
 ·decide
 ·split <;> decide
def HX (Z:Zs h) (hw:Sl EW h (aK w) s.ws) (E:Uv s) (q:∀h',Gr h h'->R (hv (fM s) w e) h'):S.C 294 [(j7 (bK s w e .nilIface))] h R:=by
 refine uk.2 ?_;obtain⟨rf,du,ws,mn,es,i,vr,mt,en,nx,bh⟩:=s;have K:=bZ bh;obtain⟨G,H,J⟩:=E;dsimp only at hw G H J;have hm:=ze (aZ rf);have u:=uI rf;unfold fM at q;dsimp only at q;by_cases A:ws.length=3*mn
 ·rw[if_pos A] at q;have c:=Cx.aB h;refine c.dJ λ_ _ c=>?_;refine c.dJ λ_ _ c=>?_;refine c.v8 λ_ _ c=>?_;refine aE<|c.rc 0 ?_;refine vx (hw.gr c.gr).ln<|aE<|c.rc 0 ?_;refine vx (Ec (a:=3) (b:=mn) ⟨by omega,by omega⟩)<|vx (jO (show(ws.length:Int)=3*(mn:Int) by omega))<|bU<|c.rl 0 ?_;refine vY (x:=bK ⟨rf,du,ws,mn,es,i,vr,mt,en,nx,bh⟩ w e .nilIface) (ho _ w e) rfl λ_ g=>?_;have c:=c.more g;refine c.bX 1 2 λ_ c=>?_;exact q _ c.gr
 ·rw[if_neg A] at q;have c:=Cx.aB h;refine c.dJ λ_ _ c=>?_;refine c.dJ λ_ _ c=>?_;refine c.v8 λ_ _ c=>?_;refine aE<|c.rc 0 ?_;refine vx (hw.gr c.gr).ln<|aE<|c.rc 0 ?_;refine vx (Ec (a:=3) (b:=mn) ⟨by omega,by omega⟩)<|vx (fG (show ¬(ws.length:Int)=3*(mn:Int) by omega))<|aN<|aE<|vx (c.vp (i:=0) (ds:=[_,_,_]) rfl rfl rfl)<|aE<|c.rc 0 ?_;refine vx (zl ⟨by omega,by omega⟩ (by decide))<|vx (AQ (by omega) (by decide))<|NG (Z.gr c.gr) (who:=aZ rf) ⟨by omega,by omega⟩ ⟨by omega,by omega⟩ ⟨by omega,by omega⟩ λ_ g=>?_;have c:=c.more g;refine vx rfl<|vx rfl<|c.rl 0 ?_;refine vx (aG (ds:=[_,_,_,_,_,_,_,_]) rfl)<|lp (x:=bK ⟨rf,du,ws,mn,es,i,vr,mt,en,nx,bh⟩ w e .nilIface) (a:=⟨1,GA (aZ rf) ((ws.length:Int) / 3) ((ws.length:Int) % 3),W0,W0⟩) (ho _ w e) rfl λ_ g=>?_;have c:=c.more g;refine c.bX 1 2 λ_ c=>?_;exact q _ c.gr
def JH (Z:Zs h) (hw:Sl EW h (aK w) s.ws) (H:Uv s) (q:s.ws.length<3*s.many) (J:∀w' h',Cx (λ_=>False) h h' [bJ EW (aK w') (s.ws++[g.w])]->R (hv (fM {s with ws:=s.ws++[g.w]}) w' e) h'):o7.1 (j7 (bK s w e .nilIface)) (eI g) h R:=by
 obtain⟨rf,du,ws,mn,es,i,vr,mt,en,nx,bh⟩:=s;obtain⟨⟨u,A,gr⟩,Q⟩:=g;have T:=bZ bh;obtain⟨E,G,K⟩:=H;dsimp only at hw E G K q;have hm:=ze (aZ rf);obtain⟨ac,M,Hc⟩:=hw.yP (n:=3) rfl;have c:=Cx.aB h;refine c.dJ λ_ _ c=>?_;refine c.v4 λ_ _ c=>?_;refine c.dJ λ_ _ c=>?_;refine c.v8 λ_ _ c=>?_;refine aE<|c.rc 0 ?_;refine aE<|c.rc 0 ?_;refine vx (hw.gr c.gr).ln<|aE<|c.rc 0 ?_;refine vx (hw.gr c.gr).ln<|vx M<|aE<|vx (c.vp (i:=1) (ds:=[_,_,_]) rfl rfl rfl)<|c.dN EW ⟨u,A,gr⟩ rfl rfl λN _ c=>?_;replace c:=c.n5;refine c.ac 0 ?_;refine c.ac 0 ?_;refine c.ac 0 ?_;refine c.MP (Hc.gr c.gr) (c.sl (i:=4) rfl).sl (by simp) rfl rfl (by rw[List.length_singleton]; omega) (by rw[List.length_singleton]; omega) λO _ c=>?_;obtain⟨w',rfl⟩:=(c.sl (i:=5) rfl).ol;replace c:=c.n6;refine aE<|c.tH 0 λ_ c=>?_;refine c.rl 0 ?_;refine HX (s:=⟨rf,du,ws++[⟨u,A,gr⟩],mn,es,i,vr,mt,en,nx,bh⟩) (w:=w') (e:=e) (Z.gr c.gr) (c.sl (i:=5) rfl).sl ⟨E,G,by show(ws++[_]).length<=_; rw[List.length_append,List.length_singleton]; exact q⟩ λ_ g=>?_;have c:=c.more g;refine c.bX 2 3 λ_ c=>?_;exact J w' _ (c.pick [5])
def FU (Z:Zs h) (hw:Sl EW h (aK w) s.ws) (h0:s.ws=[]) (J:0<=aC (aZ s.ref)) (A:∀h',Gr h h'->R (hv (j9 s g.w) w e) h'):nC.1 (j7 (bK s w e .nilIface)) (eI g) h R:=by
 obtain⟨rf,du,ws,mn,es,i,vr,mt,en,nx,bh⟩:=s;obtain⟨⟨q,E,gr⟩,K⟩:=g;have M:=bZ bh;dsimp only at hw h0 J;subst h0;have hm:=ze (aZ rf);unfold j9 at A;dsimp only at A;have H:(q<1\/cG (aZ rf)<q\/¬(⟨q,E,gr⟩:W3)=⟨q,0,0⟩)->∀{h'},Gr h h'->R (hv (nM ⟨rf,du,[],mn,es,i,vr,mt,en,nx,bh⟩ 4) w e) h':=λu h' g=>by
  have:=A h' g;unfold Hs.mC at this;dsimp only[Hs.who] at this;rw[if_pos u] at this;exact this
 by_cases u:q<1
 ·have c:=Cx.aB h;refine c.dJ λ_ _ c=>?_;refine c.v4 λ_ _ c=>?_;refine c.dJ λ_ _ c=>?_;refine c.v8 λ_ _ c=>?_;refine aE<|aE<|c.rc 1 ?_;refine .here<|vx (qA u)<|bU<|bU<|c.rl 0 ?_;refine rC (x:=bK ⟨rf,du,[],mn,es,i,vr,mt,en,nx,bh⟩ w e .nilIface) (z:=4) (ho _ w e) λ_ g=>?_;have c:=c.more g;refine c.bX 2 3 λ_ c=>?_;exact H (.inl u) c.gr
 by_cases c2:cG (aZ rf)<q
 ·have c:=Cx.aB h;refine c.dJ λ_ _ c=>?_;refine c.v4 λ_ _ c=>?_;refine c.dJ λ_ _ c=>?_;refine c.v8 λ_ _ c=>?_;refine aE<|aE<|c.rc 1 ?_;refine .here<|vx (dA u)<|aN<|aE<|c.rc 0 ?_;refine vx (zH c2)<|bU<|bU<|c.rl 0 ?_;refine rC (x:=bK ⟨rf,du,[],mn,es,i,vr,mt,en,nx,bh⟩ w e .nilIface) (z:=4) (ho _ w e) λ_ g=>?_;have c:=c.more g;refine c.bX 2 3 λ_ c=>?_;exact H (.inr (.inl c2)) c.gr
 by_cases G:(⟨q,E,gr⟩:W3)=⟨q,0,0⟩
 ·obtain⟨n,rfl⟩:=Int.eq_ofNat_of_zero_le (show 0<=q by omega);have k2:∀{h'},Gr h h'->R (hv (fM ⟨rf,du,[],n,es,i,vr,mt,en,nx,bh⟩) w e) h':=λ{h'} g=>by
   have:=A h' g;unfold Hs.mC at this;dsimp only[Hs.who] at this;rw[if_neg (λh=>h.elim u λh=>h.elim c2 λh=>h G),Int.toNat_natCast] at this;exact this
  have c:=Cx.aB h;refine c.dJ λ_ _ c=>?_;refine c.v4 λ_ _ c=>?_;refine c.dJ λ_ _ c=>?_;refine c.v8 λ_ _ c=>?_;refine aE<|aE<|c.rc 1 ?_;refine .here<|vx (dA u)<|aN<|aE<|c.rc 0 ?_;refine vx (ka c2)<|aN<|aE<|vx (c.vp (i:=1) (ds:=[_,_,_]) rfl rfl rfl)<|vx (aG (ds:=[_,_,_]) rfl)<|vx (PH (a:=⟨n,E,gr⟩) (b:=⟨n,0,0⟩) G)<|aN<|aE<|c.tH 0 λ_ c=>?_;refine c.rl 0 ?_;refine HX (s:=⟨rf,du,[],n,es,i,vr,mt,en,nx,bh⟩) (w:=w) (e:=e) (Z.gr c.gr) (hw.gr c.gr) ⟨J,Int.not_lt.1 c2,Nat.zero_le _⟩ λ_ g=>?_;have c:=c.more g;refine c.bX 2 3 λ_ c=>?_;exact k2 c.gr
 ·have c:=Cx.aB h;refine c.dJ λ_ _ c=>?_;refine c.v4 λ_ _ c=>?_;refine c.dJ λ_ _ c=>?_;refine c.v8 λ_ _ c=>?_;refine aE<|aE<|c.rc 1 ?_;refine .here<|vx (dA u)<|aN<|aE<|c.rc 0 ?_;refine vx (ka c2)<|aN<|aE<|vx (c.vp (i:=1) (ds:=[_,_,_]) rfl rfl rfl)<|vx (aG (ds:=[_,_,_]) rfl)<|vx (Pe (a:=⟨q,E,gr⟩) (b:=⟨q,0,0⟩) G)<|bU<|c.rl 0 ?_;refine rC (x:=bK ⟨rf,du,[],mn,es,i,vr,mt,en,nx,bh⟩ w e .nilIface) (z:=4) (ho _ w e) λ_ g=>?_;have c:=c.more g;refine c.bX 2 3 λ_ c=>?_;exact H (.inr (.inr G)) c.gr
end
section
variable {s:Hs} {w e:SH} {g:cP} {z:Int}
def Oa {ws:List W3} {k:Nat} {a b c:W3} {r:List W3} {out:List Et} (q:ws.drop k=a::b::c::r):pV (ws.drop k) out=if Fe a b c=true/\gX (yh a b c).at'=true/\(∀l,out.getLast?=some l->l.at'<(yh a b c).at') then pV (ws.drop (k+3)) (out++[yh a b c]) else none:=by
 have:ws.drop (k+3)=r:=by rw[<-List.drop_drop,q]; rfl
 rw[this,q,pV]
def PJ {ws:List W3} {k:Nat} (h:k+3<=ws.length):∃a b c r,ws.drop k=a::b::c::r:=by
 match e:ws.drop k with
 | a::b::c::r=>exact⟨a,b,c,r,rfl⟩
 | [_,_]=>have:=congrArg List.length e; rw[List.length_drop] at this; simp at this; omega
 | [_]=>have:=congrArg List.length e; rw[List.length_drop] at this; simp at this; omega
 | []=>have:=congrArg List.length e; rw[List.length_drop] at this; simp at this; omega
def iR:∀{a:Int},-1000000<=a/\a<=1000000->Pz 44 [vL,.int .i64 a] (.bool (gX a)):=λq h R Z k=>mY.2 (RU Z q k)
def rO (Z:Zs h) (hw:Sl EW h (aK w) s.ws) (hl:s.ws.length=3*s.many) (hm:s.many<=32) (hW:∀x∈s.ws,Ww x)
  (h1:∀es u h',pV s.ws []=some es->Cx (λ_=>False) h h' [bJ EE (aK u) es]->R (.tuple #[aK u,.bool true]) h')
  (h2:pV s.ws []=none->∀v h',Gr h h'->R (.tuple #[v,.bool false]) h'):S.C 300 [(j7 (bK s w e .nilIface))] h R:=by
 refine qi.2 ?_;obtain⟨rf,du,ws,mn,es,i,vr,mt,en,nx,bh⟩:=s;have hb:=bZ bh;dsimp only at hw hl hm hW h1 h2;have wd:∀{k:Nat} {a b c:W3} {r:List W3},ws.drop k=a::b::c::r->Ww a/\Ww b:=λ{k a b c r} hd=>
  ⟨hW _ (List.mem_of_mem_drop (i:=k) (by rw[hd]; exact List.mem_cons_self ..)),hW _ (List.mem_of_mem_drop (i:=k) (by rw[hd]; exact List.mem_cons_of_mem _ (List.mem_cons_self ..)))⟩
 have c:=Cx.aB h;refine c.dJ λiN _ c=>?_;refine wA.by (λ(st:Nat × List Et) u v h'=>v=.int .i64 ((3*st.1:Nat):Int)/\st.1<=mn/\st.2.length=st.1/\(∀e∈st.2,Ww e.old)/\pV ws []=pV (ws.drop (3*st.1)) st.2/\∃p,u=aK p/\Cx (λ_=>False) h h' [rV iN [.int .i64 3,.int .i64 6,.int .i64 4,.int .u32 rf,.int .i64 (aC (aZ rf)),.int .i64 (aZ rf),.int .i64 (lB rf),.int .i64 (cG (aZ rf)),.bool du,aK w,.int .i64 mn,aK e,.int .i64 i,.int .i64 vr,.int .i64 mt.v,.int .u32 mt.aO,.int .u32 mt.ref,.nilIface,.bool en,kB (kI nx),SO bh],bJ EE (aK p) st.2]) (λst=>mn - st.1) (0,[]) ⟨rfl,Nat.zero_le _,rfl,(λe he=>by cases he),rfl,(none,0,0),rfl,c.nil EE⟩ ?_;rintro⟨k,out⟩ _ _ h2' ⟨rfl,hk,iS,aS,aT,p,rfl,c⟩ again U;dsimp only at hk iS aS aT U c;replace c:=c.n2;refine aE<|c.rc 0 ?_;refine vx (hw.gr c.gr).ln<|vx aV<|dW (λtO=>?_) λtO=>?_
 ·refine aE<|c.rc 0 ?_;obtain⟨a,b,cc,r,hd⟩:=PJ (ws:=ws) (k:=3*k) (by omega);obtain⟨wa,wb⟩:=wd hd;refine vx (iQ (a:=((3*k:Nat):Int)) (b:=3) ⟨by omega,by omega⟩)<|(hw.gr c.gr).RJ hd rfl (by omega) ?_;refine Ds λ_ g=>?_;obtain⟨x,hx⟩:∃x,(if Fe a b cc=true then yh a b cc else Fj)=x:=⟨_,rfl⟩;obtain⟨q,hq⟩:∃q,Fe a b cc=q:=⟨_,rfl⟩;rw[hx,hq];have c:=c.more g;have oF:q=true->0<=x.at'/\x.at'<4096:=λe=>by
   rw[<-hx,if_pos (hq.trans e)];exact(of_decide_eq_true (hq.trans e)).1
  have bY:q=true->x=yh a b cc:=λe=>by rw[<-hx,if_pos (hq.trans e)]
  obtain⟨T,⟨xv,xq,xr⟩,xn,xb⟩:=x;dsimp only at oF;have V:=aT.trans (Oa (out:=out) hd);have N:¬q=true->pV ws []=none:=λe=>by rw[V,if_neg λh=>e (hq.symm.trans h.1)]
  have O:q=true->gX T=false->pV ws []=none:=λe e2=>by
   have:=bY e;rw[V,if_neg λh=>by have:=h.2.1; rw[<-bY e] at this; dsimp only at this; rw[e2] at this; cases this]
  have Q:q=true->∀l,out.getLast?=some l->T<=l.at'->pV ws []=none:=λe l hl e2=>by
   rw[V,if_neg λh=>by have:=h.2.2 l hl; rw[<-bY e] at this; dsimp only at this; omega]
  have H:q=true->gX T=true->(∀l,out.getLast?=some l->l.at'<T)->∀p2 h',Cx (λ_=>False) h h' [rV iN [.int .i64 3,.int .i64 6,.int .i64 4,.int .u32 rf,.int .i64 (aC (aZ rf)),.int .i64 (aZ rf),.int .i64 (lB rf),.int .i64 (cG (aZ rf)),.bool du,aK w,.int .i64 mn,aK e,.int .i64 i,.int .i64 vr,.int .i64 mt.v,.int .u32 mt.aO,.int .u32 mt.ref,.nilIface,.bool en,kB (kI nx),SO bh],bJ EE (aK p2) (out++[⟨T,⟨xv,xq,xr⟩,xn,xb⟩])]->again (aK p2) (.int .i64 (((3*k:Nat):Int)+3)) h':=λM G oR p2 h' c=>by
   have dO:=bY M;refine U (k+1,out++[⟨T,⟨xv,xq,xr⟩,xn,xb⟩]) _ _ _ ⟨by show Value.int .i64 (((3*k:Nat):Int)+3)=Value.int .i64 ((3*(k+1):Nat):Int); congr 1,by show k+1<=mn; omega,by rw[List.length_append,List.length_singleton,iS],λe he=>?_,?_,p2,rfl,c⟩ (by dsimp only; omega)
   ·rcases List.mem_append.1 he with he | he
    ·exact aS e he
    ·rw[List.mem_singleton.1 he,dO];exact wb
   ·dsimp only;rw[V,if_pos ⟨hq.trans M,by rw[<-dO]; exact G,by rw[<-dO]; exact oR⟩,<-dO];rfl
  refine vx rfl<|vx rfl<|c.v6 λ_ _ c=>?_;refine c.w6 2 λ_ c=>?_;refine .here<|vx (v:=.bool (!q)) rfl<|En.br (λX=>?_) λX=>?_
  ·refine En.br (λA=>?_) λA=>?_
   ·first | exact absurd A (by decide) | exact h2 (N (by simpa using X)) _ _ c.gr | exact h2 (O M (by simpa using G)) _ _ c.gr | exact h2 (Q M l (by rw[List.getLast?_eq_getElem?]; exact E) (of_decide_eq_true A)) _ _ c.gr
   ·refine c.rl 2 ?_;refine c.dN EE ⟨T,⟨xv,xq,xr⟩,xn,xb⟩ rfl rfl λeQ _ c=>?_;replace c:=c.n4;refine c.ap 1 rfl (c.sl (i:=3) rfl).sl rfl rfl (by simp only[List.length_singleton]; omega) (by simp only[List.length_singleton]; omega) λiF _ c=>?_;obtain⟨p2,rfl⟩:=(c.sl (i:=1) rfl).ol;replace c:=c.n4;refine vx (iQ (a:=((3*k:Nat):Int)) (b:=3) ⟨by omega,by omega⟩) ?_;first | exact absurd A (by decide) | exact H M (by simpa using G) (λl2 J=>by rw[List.getLast?_eq_getElem?,E] at J; cases J; have:¬T<=l.at':=of_decide_eq_false A; omega) p2 _ (c.pick [0,1]) | exact H M (by simpa using G) (λl' K=>by rw[List.getLast?_eq_getElem?] at K; have:=(List.getElem?_eq_some_iff.1 K).1; omega) p2 _ (c.pick [0,1])
  ·refine aE<|vx (c.vp (i:=0) (ds:=[_,_,_]) rfl rfl rfl)<|aE<|c.rc 2 ?_;have M:q=true:=by simpa using X
   have rW:=oF M;refine iR (a:=T) ⟨by omega,by omega⟩ _ _ (Z.gr c.gr) λ_ g=>?_;have c:=c.more g;refine vx (v:=.bool (!gX T)) rfl<|En.br (λG=>?_) λG=>?_
   ·refine En.br (λA=>?_) λA=>?_
    ·first | exact absurd A (by decide) | exact h2 (N (by simpa using X)) _ _ c.gr | exact h2 (O M (by simpa using G)) _ _ c.gr | exact h2 (Q M l (by rw[List.getLast?_eq_getElem?]; exact E) (of_decide_eq_true A)) _ _ c.gr
    ·refine c.rl 2 ?_;refine c.dN EE ⟨T,⟨xv,xq,xr⟩,xn,xb⟩ rfl rfl λeQ _ c=>?_;replace c:=c.n4;refine c.ap 1 rfl (c.sl (i:=3) rfl).sl rfl rfl (by simp only[List.length_singleton]; omega) (by simp only[List.length_singleton]; omega) λiF _ c=>?_;obtain⟨p2,rfl⟩:=(c.sl (i:=1) rfl).ol;replace c:=c.n4;refine vx (iQ (a:=((3*k:Nat):Int)) (b:=3) ⟨by omega,by omega⟩) ?_;first | exact absurd A (by decide) | exact H M (by simpa using G) (λl2 J=>by rw[List.getLast?_eq_getElem?,E] at J; cases J; have:¬T<=l.at':=of_decide_eq_false A; omega) p2 _ (c.pick [0,1]) | exact H M (by simpa using G) (λl' K=>by rw[List.getLast?_eq_getElem?] at K; have:=(List.getElem?_eq_some_iff.1 K).1; omega) p2 _ (c.pick [0,1])
   ·refine vx (c.sl (i:=1) rfl).sl.ln<|vx eY<|dW (λuS=>?_) λuS=>?_
    ·refine vx (c.sl (i:=1) rfl).sl.ln<|vx (fT ⟨by omega,by omega⟩) ?_;have hlt:out.length - 1<out.length:=by omega
     have E:=List.getElem?_eq_getElem hlt;generalize out[out.length - 1]=l at E;refine(c.sl (i:=1) rfl).sl.oW (j:=0) rfl E (by omega) (u:=.int .i64 l.at') rfl ?_;refine aE<|c.rc 2 ?_;refine vx km<|En.br (λA=>?_) λA=>?_
     ·first | exact absurd A (by decide) | exact h2 (N (by simpa using X)) _ _ c.gr | exact h2 (O M (by simpa using G)) _ _ c.gr | exact h2 (Q M l (by rw[List.getLast?_eq_getElem?]; exact E) (of_decide_eq_true A)) _ _ c.gr
     ·refine c.rl 2 ?_;refine c.dN EE ⟨T,⟨xv,xq,xr⟩,xn,xb⟩ rfl rfl λeQ _ c=>?_;replace c:=c.n4;refine c.ap 1 rfl (c.sl (i:=3) rfl).sl rfl rfl (by simp only[List.length_singleton]; omega) (by simp only[List.length_singleton]; omega) λiF _ c=>?_;obtain⟨p2,rfl⟩:=(c.sl (i:=1) rfl).ol;replace c:=c.n4;refine vx (iQ (a:=((3*k:Nat):Int)) (b:=3) ⟨by omega,by omega⟩) ?_;first | exact absurd A (by decide) | exact H M (by simpa using G) (λl2 J=>by rw[List.getLast?_eq_getElem?,E] at J; cases J; have:¬T<=l.at':=of_decide_eq_false A; omega) p2 _ (c.pick [0,1]) | exact H M (by simpa using G) (λl' K=>by rw[List.getLast?_eq_getElem?] at K; have:=(List.getElem?_eq_some_iff.1 K).1; omega) p2 _ (c.pick [0,1])
    ·refine En.br (λA=>?_) λA=>?_
     ·first | exact absurd A (by decide) | exact h2 (N (by simpa using X)) _ _ c.gr | exact h2 (O M (by simpa using G)) _ _ c.gr | exact h2 (Q M l (by rw[List.getLast?_eq_getElem?]; exact E) (of_decide_eq_true A)) _ _ c.gr
     ·refine c.rl 2 ?_;refine c.dN EE ⟨T,⟨xv,xq,xr⟩,xn,xb⟩ rfl rfl λeQ _ c=>?_;replace c:=c.n4;refine c.ap 1 rfl (c.sl (i:=3) rfl).sl rfl rfl (by simp only[List.length_singleton]; omega) (by simp only[List.length_singleton]; omega) λiF _ c=>?_;obtain⟨p2,rfl⟩:=(c.sl (i:=1) rfl).ol;replace c:=c.n4;refine vx (iQ (a:=((3*k:Nat):Int)) (b:=3) ⟨by omega,by omega⟩) ?_;first | exact absurd A (by decide) | exact H M (by simpa using G) (λl2 J=>by rw[List.getLast?_eq_getElem?,E] at J; cases J; have:¬T<=l.at':=of_decide_eq_false A; omega) p2 _ (c.pick [0,1]) | exact H M (by simpa using G) (λl' K=>by rw[List.getLast?_eq_getElem?] at K; have:=(List.getElem?_eq_some_iff.1 K).1; omega) p2 _ (c.pick [0,1])
 ·have hk':k=mn:=by omega
  subst hk';rw[List.drop_eq_nil_of_le (by omega)] at aT;refine rD (c.sl (i:=1) rfl).sl aS (by omega) λ_ g=>?_;have c:=c.more g;refine vx bW ?_;by_cases hz:eP out=0
  ·rw[decide_eq_true hz];exact h1 out p _ (by rw[aT]; show(if eP out=0 then some out else none)=_; rw[if_pos hz]) (c.pick [1])
  ·rw[decide_eq_false hz];exact h2 (by rw[aT]; show(if eP out=0 then some out else none)=_; rw[if_neg hz]) _ _ c.gr
def Dz:∀{n:Nat} {ws:List W3} {out es:List Et},ws.length<=n->pV ws out=some es->es.length<=out.length+ws.length
 | n,a::b::c::r,out,es,q,h=>by
  cases n with
  | zero=>simp at q
  | succ n=>
   rw[pV] at h;split at h
   ·have:=Dz (n:=n) (by simp only[List.length_cons] at q; omega) h;simp only[List.length_append,List.length_cons,List.length_nil] at this⊢;omega
   ·cases h
 | _,[],out,es,q,h=>by
  have h:(if eP out=0 then some out else none)=some es:=h;split at h
  ·cases h; simp
  ·cases h
 | _,[a],out,es,q,h=>by
  have h:(if eP out=0 then some out else none)=some es:=h;split at h
  ·cases h; simp
  ·cases h
 | _,[a,b],out,es,q,h=>by
  have h:(if eP out=0 then some out else none)=some es:=h;split at h
  ·cases h; simp
  ·cases h
def Gj (O:B.p h) (Z:Zs h) (hw:Sl EW h (aK w) s.ws) (he:On B λh=>Sl EE h (aK e) s.es) (K:s.ws.length=3*s.many) (hm:s.many<=32) (M:∀x∈s.ws,Ww x) (hi:s.i=0)
  (E:∀q,Rt B h (λB=>On B λh=>Sl EE h (aK q) (gJ s g.w).1.es) λh'=>R (hv (gJ s g.w) w q) h'):nn.1 (j7 (bK s w e .nilIface)) (eI g) h R:=by
 obtain⟨rf,du,ws,mn,es,i,vr,mt,en,nx,bh⟩:=s;obtain⟨⟨A,G,gr⟩,Q⟩:=g;have T:=bZ bh;dsimp only at hw he K hm M hi;subst hi;have stop:gJ ⟨rf,du,ws,mn,es,0,vr,mt,en,nx,bh⟩ ⟨A,G,gr⟩=nM ⟨rf,du,ws,mn,es,0,vr,mt,en,nx,bh⟩ 4->∀{h'},Gr h h'->R (hv (nM ⟨rf,du,ws,mn,es,0,vr,mt,en,nx,bh⟩ 4) w e) h':=λx h' g=>by
  have:=(E e).nil (h':=h') (by rw[x]; exact he.le (Bs.aJ _ _)) g;rwa [x] at this
 unfold gJ at stop E;by_cases J:oX ⟨rf,du,ws,mn,es,0,vr,mt,en,nx,bh⟩ ⟨A,G,gr⟩=true
 ·rw[if_pos J] at stop;have c:=Cx.aB h;refine c.dJ λ_ _ c=>?_;refine c.v4 λ_ _ c=>?_;refine c.dJ λ_ _ c=>?_;refine c.v8 λ_ _ c=>?_;refine c.rl 0 ?_;refine aE<|vx (c.vp (i:=1) (ds:=[_,_,_]) rfl rfl rfl)<|pD (x:=bK ⟨rf,du,ws,mn,es,0,vr,mt,en,nx,bh⟩ w e .nilIface) (w:=⟨A,G,gr⟩) (ho _ w e) (gD rf) λ_ g=>?_;have c:=c.more g;rw[show qx (bK ⟨rf,du,ws,mn,es,0,vr,mt,en,nx,bh⟩ w e .nilIface) ⟨A,G,gr⟩=true from J];refine bU<|c.rl 0 ?_;refine rC (x:=bK ⟨rf,du,ws,mn,es,0,vr,mt,en,nx,bh⟩ w e .nilIface) (z:=4) (ho _ w e) λ_ g=>?_;have c:=c.more g;refine c.bX 2 3 λ_ c=>?_;exact stop rfl c.gr
 rw[if_neg J] at stop E;cases hu:pV ws [] with
 | none=>
  rw[hu] at stop E;have c:=Cx.aB h;refine c.dJ λ_ _ c=>?_;refine c.v4 λ_ _ c=>?_;refine c.dJ λ_ _ c=>?_;refine c.v8 λ_ _ c=>?_;refine c.rl 0 ?_;refine aE<|vx (c.vp (i:=1) (ds:=[_,_,_]) rfl rfl rfl)<|pD (x:=bK ⟨rf,du,ws,mn,es,0,vr,mt,en,nx,bh⟩ w e .nilIface) (w:=⟨A,G,gr⟩) (ho _ w e) (gD rf) λ_ g=>?_;have c:=c.more g;rw[show qx (bK ⟨rf,du,ws,mn,es,0,vr,mt,en,nx,bh⟩ w e .nilIface) ⟨A,G,gr⟩=false from Bool.not_eq_true _▸J];refine aN<|c.rl 0 ?_;refine rO (s:=⟨rf,du,ws,mn,es,0,vr,mt,en,nx,bh⟩) (w:=w) (e:=e) (Z.gr c.gr) (hw.gr c.gr) K hm M (λH u h' q _=>by rw[hu] at q; cases q) λ_ v _ g=>?_;have c:=c.more g;refine vx rfl<|vx rfl<|vx (v:=.bool true) (rfl)<|bU<|c.rl 0 ?_;refine rC (x:=bK ⟨rf,du,ws,mn,es,0,vr,mt,en,nx,bh⟩ w e .nilIface) (z:=4) (ho _ w e) λ_ g=>?_;have c:=c.more g;refine c.bX 2 3 λ_ c=>?_;exact stop rfl c.gr
 | some l=>
  rw[hu] at E;dsimp only at E;have N:=Dz (Nat.le_refl _) hu;rw[List.length_nil] at N;clear stop;by_cases c2:A=0
  ·rw[if_neg (λx=>x c2)] at E;have c:=Cx.aB h;refine c.dJ λ_ _ c=>?_;refine c.v4 λ_ _ c=>?_;refine c.dJ λ_ _ c=>?_;refine c.v8 λ_ _ c=>?_;refine c.rl 0 ?_;refine aE<|vx (c.vp (i:=1) (ds:=[_,_,_]) rfl rfl rfl)<|pD (x:=bK ⟨rf,du,ws,mn,es,0,vr,mt,en,nx,bh⟩ w e .nilIface) (w:=⟨A,G,gr⟩) (ho _ w e) (gD rf) λ_ g=>?_;have c:=c.more g;rw[show qx (bK ⟨rf,du,ws,mn,es,0,vr,mt,en,nx,bh⟩ w e .nilIface) ⟨A,G,gr⟩=false from Bool.not_eq_true _▸J];refine aN<|c.rl 0 ?_;refine rO (s:=⟨rf,du,ws,mn,es,0,vr,mt,en,nx,bh⟩) (w:=w) (e:=e) (Z.gr c.gr) (hw.gr c.gr) K hm M (λH u h' q d=>?_) λq=>by rw[hu] at q; cases q
   obtain rfl:l=H:=by rw[hu] at q; cases q; rfl
   have c:=c.aF d;replace c:=c.n5;refine vx rfl<|vx rfl<|vx (v:=.bool false) (rfl)<|aN<|aE<|c.tH 0 λ_ c=>?_;refine aE<|aE<|c.rc 1 ?_;refine vx (uQ c2)<|aN<|c.rl 0 ?_;refine nD (s:=⟨rf,du,ws,mn,l,0,vr,mt,en,nx,bh⟩) (w:=w) (e:=u) (c.sl (i:=4) rfl).sl ⟨Nat.zero_le _,by show l.length<=1000; omega⟩ λ_ g=>?_;have c:=c.more g;refine c.bX 2 3 λ_ c=>?_;refine E u _ _ (Cx.pack (L:=[]) (c.pick [4])) ?_;have:(aW ⟨rf,du,ws,mn,l,0,vr,mt,en,nx,bh⟩).1.es=l:=by unfold aW cD eX bG iM eF; split <;> (try split) <;> (try split) <;> rfl
   rw[this]; exact On.sl (i:=0) rfl
  ·rw[if_pos c2] at E;have c:=Cx.aB h;refine c.dJ λ_ _ c=>?_;refine c.v4 λ_ _ c=>?_;refine c.dJ λ_ _ c=>?_;refine c.v8 λ_ _ c=>?_;refine c.rl 0 ?_;refine aE<|vx (c.vp (i:=1) (ds:=[_,_,_]) rfl rfl rfl)<|pD (x:=bK ⟨rf,du,ws,mn,es,0,vr,mt,en,nx,bh⟩ w e .nilIface) (w:=⟨A,G,gr⟩) (ho _ w e) (gD rf) λ_ g=>?_;have c:=c.more g;rw[show qx (bK ⟨rf,du,ws,mn,es,0,vr,mt,en,nx,bh⟩ w e .nilIface) ⟨A,G,gr⟩=false from Bool.not_eq_true _▸J];refine aN<|c.rl 0 ?_;refine rO (s:=⟨rf,du,ws,mn,es,0,vr,mt,en,nx,bh⟩) (w:=w) (e:=e) (Z.gr c.gr) (hw.gr c.gr) K hm M (λH u h' q d=>?_) λq=>by rw[hu] at q; cases q
   obtain rfl:l=H:=by rw[hu] at q; cases q; rfl
   have c:=c.aF d;replace c:=c.n5;refine vx rfl<|vx rfl<|vx (v:=.bool false) (rfl)<|aN<|aE<|c.tH 0 λ_ c=>?_;refine aE<|aE<|c.rc 1 ?_;refine vx (zZ c2)<|bU<|c.rl 0 ?_;refine uh (s:=⟨rf,du,ws,mn,l,0,vr,mt,en,nx,bh⟩) (w:=w) (e:=u) λ_ g=>?_;have c:=c.more g;refine c.bX 2 3 λ_ c=>?_;refine E u _ _ (Cx.pack (L:=[]) (c.pick [4])) ?_;have:(bD ⟨rf,du,ws,mn,l,0,vr,mt,en,nx,bh⟩).1.es=l:=by unfold bD gP eF; split <;> rfl
   rw[this]; exact On.sl (i:=0) rfl
end
end Go.En
