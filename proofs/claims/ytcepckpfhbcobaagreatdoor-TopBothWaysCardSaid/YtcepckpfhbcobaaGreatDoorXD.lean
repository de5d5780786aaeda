/-
  Own library for the claim, packed by program: the engine, the clean texts, contracts, the plain law. (Part D.)
-/
import Derived.Test.YtcepckpfhbcobaaGreatDoorXC
namespace Go.En
variable {S:Sys} {I:aZ} {h h0 h':Hp} {F F0:Fp} {R:Value→Hp→Prop} {L:List bQ} {B B':Bs}
abbrev CS (b e:Int) (d:Bool) (n:Value):List Value:=[.int .i64 3,.int .i64 6,.int .i64 4,.int .i64 b,.int .i64 e,.bool d,n]
def Mu (I:aZ) (B:Bs) (W:bQ) (v:Value) (b:Nat):QH→Prop
 | .look=>W=aG []∧∃r n,v=.agg ⟨CS b 0 false (pT I.cU r)⟩ ∧Fr B r (CS b 0 false n)
 | .swap _=>∃r,v=.agg ⟨CS b 0 false (pT I.cR r)⟩ ∧W=rV r (CS b 0 false (pT I.cR r))
 | .done bad=>W=aG []∧∃n,v=.agg ⟨CS b (if bad then 13 else 0) true n⟩ ∧n.oneCell'=true
theorem Mu.le (l:B.le B') {W:bQ} {v:Value} {b:Nat}:∀{k:QH},Mu I B W v b k→Mu I B' W v b k
 | .look,⟨a,r,n,c,d⟩ =>⟨a,r,n,c,d.le l⟩
 | .swap _,x=>x
 | .done _,x=>x
structure YP (S:Sys) (I:aZ):Prop extends Un S I where
 KZ:∀{B:Bs} {p:SH} {b:Int} {n:Value} {r:Nat} {h} {R:Value→Hp→Prop},B.p h→On B Zs→n.oneCell'=true→(On B fun h=>Sl DL h (aX p) [((0:Int),(4:Int))])→Fr B r (zD p b 0 false n)→
  CE I.bA AU h B (fun B W v=>G7 I B W v .look) ⟨5,lP,W0,W0⟩ false R→S.C I.dK [k6 qY,cA r] h R
 kU:∀{B:Bs} {k:Nc} {W:bQ} {v:Value} {g:iM},On B Zs→G7 I B W v k→ML.live k→WL S I.mB I.bA B W v g (fun B W v=>G7 I B W v (kU k g).1) (kU k g).2.1 (kU k g).2.2
 NU:∀{h} {R:Value→Hp→Prop},Zs h→(∀p r h',Cx (fun _=>False) h h' [dA DL (aX p) [((0:Int),(4:Int))],rV r (zD p 0 0 false (pT I.dK r))]→R (.tuple #[.iface I.bA (.agg ⟨zD p 0 0 false (pT I.dK r)⟩),.int .i64 0]) h')→S.C I.tw [vL,.int .i64 0] h R
 Yd:∀{x y z:Value} {h R},rS S I x y z h R→S.C I.dF [x,y,z] h R
 WQ:∀{x y:Value} {h R},pF S I x y h R→S.C I.cU [x,y] h R
 gvf:∀{x y:Value} {h R},j6 S I x y h R→S.C I.cR [x,y] h R
 UL:I.mt I.bJ "Next"=some I.mz
section
variable {p:SH} {b:Nat} {n:Value} {w:W3} {g:iM}
theorem Mz (cs:YP S I) (b0:B.p h) (hZ:On B Zs) (hb:b<4) (hn:n.oneCell'=true)
  (hR:CE I.bJ AU h B (fun B W v=>Mu I B W v b (jP b w).1) (jP b w).2.1 (jP b w).2.2 R):nD S I (.agg ⟨CS b 0 false n⟩) (mW w) h R:=by
 obtain ⟨wv,wq,wr⟩ :=w
 by_cases e:Mr wv (2 ^ b)=0
 ·have e1:jP b ⟨wv,wq,wr⟩=(.done true,mL,true):=by unfold jP; exact if_pos e
  rw [e1] at hR
  unfold nD
  have c:=Cx.aA h
  refine c.v7 fun _ _ c=>?_
  refine c.v3 fun _ _ c=>?_
  refine c.v8 fun _ _ c=>?_
  refine aD<|vx (c.vp (i:=0) (ds:=[_,_,_]) rfl rfl rfl)<|aD<|c.rc 0 ?_
  refine cs.FV (i:=b) hb _ _ (hZ _ (B.up b0 c.gr)) fun _ g=>?_
  have c:=c.more g
  refine vx rfl<|vx rfl<|aD<|c.rc 1 ?_
  refine vx (VS _ _)<|vx (qu e)<|eR<|aD<|c.q7 0 fun _ c=>?_
  refine aD<|c.q7 0 fun _ c=>?_
  refine c.rl 0 ?_
  refine vx rfl<|vx (aL (ds:=[_,_,_,_,_,_,_,_]) rfl)<|c.w8 2 fun _ c=>?_
  refine c.rl 2 ?_
  exact hR _ (aG []) [] _ (Cx.Db (L:=[aG []]) (Cx.Db (L:=[]) (c.pick []))) ⟨rfl,n,rfl,hn⟩
 ·have e1:jP b ⟨wv,wq,wr⟩=(.swap ⟨wv,wq,wr⟩,⟨6,lP,⟨wv,wq,wr⟩,⟨Yy wv (2 ^ b),wq,wr⟩⟩,false):=by unfold jP; exact if_neg e
  rw [e1] at hR
  unfold nD
  have c:=Cx.aA h
  refine c.v7 fun c2_ _ c=>?_
  refine c.v3 fun _ _ c=>?_
  refine c.v8 fun _ _ c=>?_
  refine aD<|vx (c.vp (i:=0) (ds:=[_,_,_]) rfl rfl rfl)<|aD<|c.rc 0 ?_
  refine cs.FV (i:=b) hb _ _ (hZ _ (B.up b0 c.gr)) fun _ g=>?_
  have c:=c.more g
  refine vx rfl<|vx rfl<|aD<|c.rc 1 ?_
  refine vx (VS _ _)<|vx (m6 e)<|bD<|vx rfl<|aD<|c.q7 0 fun _ c=>?_
  refine c.rl 0 ?_
  refine vx rfl<|c.rl 1 ?_
  refine aD<|c.rc 1 ?_
  refine vx (anB _ _)<|aD<|c.rc 1 ?_
  refine aD<|c.rc 1 ?_
  refine vx (aL (ds:=[_,_,_]) rfl)<|vx (aL (ds:=[_,_,_,_,_,_,_,_]) rfl)<|c.w8 2 fun _ c=>?_
  refine c.rl 2 ?_
  exact hR _ (rV c2_ (CS b 0 false (pT I.cR c2_))) [] _ ((c.pick [0]).Db) ⟨c2_,rfl,rfl⟩
structure V9 (S:Sys) (I:aZ):Prop extends YP S I where
 Gy:∀{B:Bs} {b:Nat} {n:Value} {w:W3} {h} {R:Value→Hp→Prop},B.p h→On B Zs→b<4→n.oneCell'=true→
  CE I.bJ AU h B (fun B W v=>Mu I B W v b (jP b w).1) (jP b w).2.1 (jP b w).2.2 R→S.C I.lA [.agg ⟨CS b 0 false n⟩,mW w] h R
theorem P6 (cs:YP S I) (Z:Zs h) (hb:b<4) (hR:∀r q h',Cx (fun _=>False) h h' [rV r (CS b 0 false (.func (.func I.dF) #[] #[cA r,cA q])),rV q [.int .i64 lP]]→R (.tuple #[.iface I.bJ (.agg ⟨CS b 0 false (.func (.func I.dF) #[] #[cA r,cA q])⟩),.int .i64 0]) h'):wN S I vL (.int .i64 b) h R:=by
 unfold wN
 have c:=Cx.aA h
 refine c.v3 fun _ _ c=>?_
 refine c.rl 0 ?_
 refine cs.Gz (b:=b) (Z.gr c.gr) ⟨by omega,by omega⟩ fun _ g=>?_
 have c:=c.more g
 refine vx (v:=.bool false) rfl<|bD<|c.rl 0 ?_
 refine vx (aL (ds:=[_,_,_,_,_,_,_]) rfl)<|c.v7 fun _ _ c=>?_
 refine c.w7 1 fun _ c=>?_
 refine c.rl 0 ?_
 refine cs.FV (i:=b) hb _ _ (Z.gr c.gr) fun _ g=>?_
 have c:=c.more g
 refine vx rfl<|vx rfl<|c.v1 fun _ _ c=>?_
 refine c.w1 2 fun _ c=>?_
 refine vx rfl<|aD<|c.q7 1 fun _ c=>?_
 refine c.rl 1 ?_
 exact vx rfl<|hR _ _ _ (c.pick [1,2])
theorem L4 {r q:Nat} (c:Cx F h h [aG [rV r (CS b 0 false n),rV q [.int .i64 lP]]]) (hn:n.oneCell'=true)
  (hR:∀r M h',Cx F h h' [aG M]→Fr (B.and M) r (CS b 0 false (pT I.cU r))→R (.tuple #[.iface I.bJ (.agg ⟨CS b 0 false (pT I.cU r)⟩),nJ ⟨5,lP,W0,W0⟩,.bool false]) h'):rS S I (k6 g) (cA r) (cA q) h R:=by
 obtain ⟨⟨gv,gq,gr⟩,gk⟩ :=g
 have c:=Cx.unpack (L:=[]) c
 unfold rS
 replace c:Cx _ _ _ [_,_]:=c
 refine c.v4 fun _ _ c=>?_
 refine c.v8 fun _ _ c=>?_
 refine vx rfl<|aD<|c.q7 0 fun _ c=>?_
 refine c.rl 0 ?_
 refine vx rfl<|c.rc 1 ?_
 refine vx (aL (ds:=[_,_,_,_,_,_,_,_]) rfl)<|c.w8 3 fun _ c=>?_
 refine c.rl 3 ?_
 exact hR r [rV r (CS b 0 false (pT I.cU r))] _ (Cx.pack (L:=[]) (c.pick [0])) (Fr.of (i:=0) rfl)
theorem JE (cs:V9 S I) (b0:B.p h) (hZ:On B Zs) (hb:b<4) {r:Nat} (hn:n.oneCell'=true) (hr:Fr B r (CS b 0 false n))
  (hR:CE I.bJ AU h B (fun B W v=>Mu I B W v b (jP b g.w).1) (jP b g.w).2.1 (jP b g.w).2.2 R):pF S I (k6 g) (cA r) h R:=by
 obtain ⟨⟨gv,gq,gr⟩,gk⟩ :=g
 unfold pF
 have c:=Cx.aA h
 refine c.v4 fun _ _ c=>?_
 refine c.v8 fun _ _ c=>?_
 refine vx (hr.ld (B.up b0 c.gr) rfl)<|aD<|vx (c.vp (i:=0) (ds:=[_,_,_]) rfl rfl rfl)<|cs.Gy (n:=n) (w:=⟨gv,gq,gr⟩) (B.up b0 c.gr) hZ hb hn fun v W M _ d ok=>?_
 have c:=c.aE d
 replace c:=c.n4
 refine c.t8 1 fun _ c=>?_
 exact hR v W M _ (c.pick [2,3]) ok
theorem JC (cs:V9 S I) (hB:∀h',Ch F h h'→B.p h') (hZ:On B Zs) (hb:b<4) {r:Nat} (c:Cx F h h [rV r (CS b 0 false (pT I.cR r))])
  (hR:CE I.bJ F h B (fun B W v=>Mu I B W v b (kO b (.swap w) g).1) (kO b (.swap w) g).2.1 (kO b (.swap w) g).2.2 R):j6 S I (k6 g) (cA r) h R:=by
 obtain ⟨⟨gv,gq,gr⟩,gk⟩ :=g
 cases gk with
 | true=>
  have e:kO b (.swap w) ⟨⟨gv,gq,gr⟩,true⟩=(.done false,mL,true):=by unfold kO; exact if_pos rfl
  rw [e] at hR
  unfold j6
  replace c:Cx _ _ _ [_]:=c
  refine c.v4 fun _ _ c=>?_
  refine c.v8 fun _ _ c=>?_
  refine aD<|c.rc 1 ?_
  refine eR<|aD<|c.q7 0 fun _ c=>?_
  refine c.rl 0 ?_
  refine vx rfl<|vx (aL (ds:=[_,_,_,_,_,_,_,_]) rfl)<|c.w8 2 fun _ c=>?_
  refine c.rl 2 ?_
  exact hR _ (aG []) [] _ (Cx.Db (L:=[aG []]) (Cx.Db (L:=[]) (c.pick []))) ⟨rfl,_,rfl,rfl⟩
 | false=>
  have e:kO b (.swap w) ⟨⟨gv,gq,gr⟩,false⟩=jP b ⟨gv,gq,gr⟩ :=by unfold kO; exact if_neg Bool.false_ne_true
  rw [e] at hR
  unfold j6
  replace c:Cx _ _ _ [_]:=c
  refine c.v4 fun _ _ c=>?_
  refine c.v8 fun _ _ c=>?_
  refine aD<|c.rc 1 ?_
  refine bD<|c.rl 0 ?_
  refine aD<|vx (c.vp (i:=1) (ds:=[_,_,_]) rfl rfl rfl)<|cs.Gy (n:=pT I.cR r) (w:=⟨gv,gq,gr⟩) (hB _ c.gr) hZ hb rfl fun v W M _ d ok=>?_
  have c:=c.aE d
  replace c:=c.n5
  refine c.t8 2 fun _ c=>?_
  exact hR v W M _ (c.pick [3,4]) ok
def Qc.live:QH→Prop
 | .done _=>False
 | _=>True
theorem N9 (cs:V9 S I) (hB:∀h',Ch F h h'→B.p h') (hZ:On B Zs) (hb:b<4) {k:QH} {W:bQ} {v:Value} (hv:Mu I B W v b k) (hk:Qc.live k) (c:Cx F h h [W])
  (hR:CE I.bJ F h B (fun B W v=>Mu I B W v b (kO b k g).1) (kO b k g).2.1 (kO b k g).2.2 R):kl S I v (k6 g) h R:=by
 obtain ⟨⟨gv,gq,gr⟩,gk⟩ :=g
 cases k with
 | done i=>exact hk.elim
 | look=>
  obtain ⟨rfl,r,n,rfl,hr⟩ :=hv
  have hn:n.oneCell'=true:=by
   obtain ⟨_,⟨ho,_⟩,_⟩ :=hr _ (hB h (.refl _ _))
   exact uq ho n (by simp)
  unfold kl
  replace c:Cx _ _ _ [_]:=c
  refine c.v7 fun _ _ c=>?_
  refine c.v4 fun _ _ c=>?_
  refine c.v8 fun _ _ c=>?_
  refine aD<|c.rc 1 ?_
  refine bD<|aD<|c.rc 1 ?_
  refine c.rl 2 ?_
  refine .inl (.inl ⟨I.cU,#[],#[cA r],rfl,cs.WQ (JE cs (g:=⟨⟨gv,gq,gr⟩,gk⟩) (n:=n) (hB _ c.gr) hZ hb hn hr fun v W M _ d ok=>?_)⟩)
  have c:=c.aE d
  replace c:=c.n6
  refine c.t8 3 fun _ c=>?_
  exact hR v W M _ (c.pick [4,5]) ok
 | swap w=>
  obtain ⟨r,rfl,rfl⟩ :=hv
  unfold kl
  replace c:Cx _ _ _ [_]:=c
  refine c.v7 fun _ _ c=>?_
  refine c.v4 fun _ _ c=>?_
  refine c.v8 fun _ _ c=>?_
  refine aD<|c.rc 1 ?_
  refine bD<|aD<|c.rc 1 ?_
  refine c.rl 2 ?_
  refine .inl (.inl ⟨I.cR,#[],#[cA r],rfl,cs.gvf ?_⟩)
  obtain ⟨F',c',hF,up⟩ :=c.vA (i:=0) rfl
  refine JC cs (g:=⟨⟨gv,gq,gr⟩,gk⟩) (B:=B) (F:=F') (w:=w) (fun h'' ch=>hB h'' (hF _ ch)) hZ hb c' fun v W M _ d ok=>?_
  have c:=up d
  replace c:=c.n5
  refine c.t8 3 fun _ c=>?_
  exact hR v W M _ (c.pick [0,4]) ok
theorem L9 (cs:V9 S I) {r q:Nat} (c:Cx F h h [aG [rV r (CS b 0 false (.func (.func I.dF) #[] #[cA r,cA q])),rV q [.int .i64 lP]]])
  (hR:∀r M h',Cx F h h' [aG M]→Fr (B.and M) r (CS b 0 false (pT I.cU r))→R (.tuple #[.iface I.bJ (.agg ⟨CS b 0 false (pT I.cU r)⟩),nJ ⟨5,lP,W0,W0⟩,.bool false]) h'):kl S I (.agg ⟨CS b 0 false (.func (.func I.dF) #[] #[cA r,cA q])⟩) (k6 g) h R:=by
 obtain ⟨⟨gv,gq,gr⟩,gk⟩ :=g
 unfold kl
 replace c:Cx _ _ _ [_]:=c
 refine c.v7 fun _ _ c=>?_
 refine c.v4 fun _ _ c=>?_
 refine c.v8 fun _ _ c=>?_
 refine aD<|c.rc 1 ?_
 refine bD<|aD<|c.rc 1 ?_
 refine c.rl 2 ?_
 refine .inl (.inl ⟨I.dF,#[],#[cA r,cA q],rfl,cs.Yd ?_⟩)
 obtain ⟨F',c',hF,up⟩ :=c.vA (i:=0) rfl
 refine L4 (B:=B) (g:=⟨⟨gv,gq,gr⟩,gk⟩) c' rfl fun r M _ d ok=>?_
 have c:=up (A':=aG M) (M:=[]) d
 replace c:Cx _ _ _ [_,_,_,_]:=c
 replace c:=c.n4
 refine c.t8 3 fun _ c=>?_
 exact hR r M _ (c.pick [0]) ok
theorem M5 {W:bQ} {v:Value} {k:Nc} (hv:G7 I B W v k) (hk:¬ML.live k) (hne:¬I.bJ=I.bA) (hR:∀h',Gr h h'→R (match k with | .done i=>.tuple #[.int .i64 i,.int .i64 0,.bool true] | _=>.tuple #[.int .i64 0,.int .i64 9,.bool true]) h'):sL S I (.iface I.bA v) h R:=by
 cases k with
 | look=>exact absurd trivial hk
 | swap i w=>exact absurd trivial hk
 | done i=>
  obtain ⟨hi,rfl,p,n,rfl,hn⟩ :=hv
  unfold sL
  have c:=Cx.aA h
  refine .here<|vx (v:=.tuple #[.agg ⟨zD p i 0 true n⟩,.bool true]) (by simp [C3])<|vx (v:=.bool true) (rfl)<|vx rfl<|eR<|c.v8 fun _ _ c=>?_
  refine c.w8 0 fun _ c=>?_
  refine aD<|c.rc 0 ?_
  refine vx (v:=.bool false) (rfl)<|bD<|aD<|c.rc 0 ?_
  refine vx (v:=.bool false) rfl<|bD<|aD<|c.rc 0 ?_
  exact hR _ c.gr
 | full=>
  obtain ⟨rfl,p,b,n,rfl,hn⟩ :=hv
  unfold sL
  have c:=Cx.aA h
  refine .here<|vx (v:=.tuple #[.agg ⟨zD p b 9 true n⟩,.bool true]) (by simp [C3])<|vx (v:=.bool true) (rfl)<|vx rfl<|eR<|c.v8 fun _ _ c=>?_
  refine c.w8 0 fun _ c=>?_
  refine aD<|c.rc 0 ?_
  refine vx (v:=.bool false) (rfl)<|bD<|aD<|c.rc 0 ?_
  refine vx (v:=.bool true) rfl<|eR<|aD<|c.rc 0 ?_
  exact hR _ c.gr
end
end Go.En
namespace Go.En
variable {S:Sys} {I:aZ} {h h0 h':Hp} {F F0:Fp} {R:Value→Hp→Prop} {L:List bQ} {B B':Bs}
structure Bc where
 du:Bool
 e:SH
 who:Int
 seq:Int
 at':Int
 i:Nat
 pB:Value
 dn:Bool
 bad:Int
 th:Bool
 nx:Value
 bh:Value
abbrev bkC (x:Bc):List Value:=[.int .i64 3,.int .i64 6,.int .i64 4,.bool x.du,aX x.e,.int .i64 x.who,.int .i64 x.seq,.int .i64 x.at',.int .i64 x.i,x.pB,.bool x.dn,.int .i64 x.bad,.bool x.th,x.nx,x.bh]
abbrev se (x:Bc):Value:=.agg ⟨bkC x⟩
structure Bo (x:Bc):Prop where
 pB:x.pB.oneCell'=true
 nx:x.nx.oneCell'=true
 bh:x.bh.oneCell'=true
section
variable {x:Bc} {n:Value} {a:Ac} {z:Int} {g:iM} {es:List Et}
theorem Ut (o:Bo x) (hn:n.oneCell'=true) (hR:∀h',Gr h h'→R (.tuple #[se {x with nx:=n},nJ a,.bool false]) h'):pY S I (se x) (nJ a) n h R:=by
 obtain ⟨du,e,who,seq,cA,i,pB,dn,bad,th,nx,bh⟩ :=x
 obtain ⟨hi,hx,hb⟩ :=o
 dsimp only at hi hx hb
 unfold pY
 have c:=Cx.aA h
 refine c.qW fun _ _ c=>?_
 refine c.v8 fun _ _ c=>?_
 refine c.qW fun _ _ c=>?_
 refine c.v8 fun _ _ c=>?_
 refine aD<|c.Hl 0 fun _ c=>?_
 refine c.rl 0 ?_
 refine c.rl 1 ?_
 refine c.WO 2 fun _ c=>?_
 refine c.al 1 ?_
 refine c.w8 3 fun _ c=>?_
 refine c.rl 2 ?_
 refine c.rl 3 ?_
 exact hR _ c.gr
theorem Vd (o:Bo x) (hR:∀h',Gr h h'→R (.tuple #[se {x with th:=true,pB:=.nilIface},nJ mL,.bool true]) h'):p6 S I (se x) h R:=by
 obtain ⟨du,e,who,seq,cA,i,pB,dn,bad,th,nx,bh⟩ :=x
 obtain ⟨hi,hx,hb⟩ :=o
 dsimp only at hi hx hb
 unfold p6
 have c:=Cx.aA h
 refine c.qW fun _ _ c=>?_
 refine c.qW fun _ _ c=>?_
 refine c.v8 fun _ _ c=>?_
 refine aD<|c.Hl 0 fun _ c=>?_
 refine aD<|c.Hl 0 fun _ c=>?_
 refine c.rl 0 ?_
 refine vx (aL (ds:=[_,_,_,_,_,_,_,_]) rfl)<|c.WO 1 fun _ c=>?_
 refine c.w8 2 fun _ c=>?_
 refine c.rl 1 ?_
 refine c.rl 2 ?_
 exact hR _ c.gr
theorem L3 (o:Bo x) (he:Sl EE h (aX x.e) es) (hl:es.length≤1000) (hR:∀h',Gr h h'→R (.int .i64 (1+3*es.length)) h'):nC S I (se x) h R:=by
 obtain ⟨du,e,who,seq,cA,i,pB,dn,bad,th,nx,bh⟩ :=x
 obtain ⟨hi,hx,hb⟩ :=o
 dsimp only at hi hx hb he
 unfold nC
 have c:=Cx.aA h
 refine c.qW fun _ _ c=>?_
 refine aD<|c.rc 0 ?_
 exact vx (he.gr c.gr).ln<|vx (Jo (a:=3) (b:=es.length) ⟨by omega,by omega⟩)<|vx (qV (a:=1) (b:=3*es.length) ⟨by omega,by omega⟩)<|hR _ c.gr
structure Yz (S:Sys) (I:aZ):Prop extends V9 S I where
 Gj:∀{x:Bc} {n:Value} {a:Ac} {h} {R:Value→Hp→Prop},Bo x→n.oneCell'=true→(∀h',Gr h h'→R (.tuple #[se {x with nx:=n},nJ a,.bool false]) h')→S.C I.cK [se x,nJ a,n] h R
 Uo:∀{x:Bc} {h} {R:Value→Hp→Prop},Bo x→(∀h',Gr h h'→R (.tuple #[se {x with th:=true,pB:=.nilIface},nJ mL,.bool true]) h')→S.C I.kG [se x] h R
 zx:∀{x:Bc} {es:List Et} {h} {R:Value→Hp→Prop},Bo x→Sl EE h (aX x.e) es→es.length≤1000→(∀h',Gr h h'→R (.int .i64 (1+3*es.length)) h')→S.C I.hU [se x] h R
def Pc (es:List Et) (i:Nat):W3:=if i=0 then ⟨es.length,0,0⟩ else
  let e:=es.getD ((i - 1) / 3) HB
  if (i - 1) % 3=0 then CV e else if (i - 1) % 3=1 then Cu e else Cg e
theorem Ot (cs:Yz S I) (o:Bo x) (he:Sl EE h (aX x.e) es) {i:Nat} (hi:i<1+3*es.length) (hl:es.length≤1000) (hR:∀h',Gr h h'→R (mW (Pc es i)) h'):lL S I (se x) (.int .i64 i) h R:=by
 obtain ⟨du,e,who,seq,cA,i0,pB,dn,bad,th,nx,bh⟩ :=x
 obtain ⟨hin,hx,hb⟩ :=o
 dsimp only at hin hx hb he
 unfold Pc at hR
 by_cases e1:i=0
 ·subst e1
  rw [if_pos rfl] at hR
  unfold lL
  have c:=Cx.aA h
  refine c.qW fun _ _ c=>?_
  refine c.v3 fun _ _ c=>?_
  refine vx (qu rfl)<|eR<|aD<|c.rc 0 ?_
  refine vx (he.gr c.gr).ln<|vx (aL (ds:=[_,_,_]) rfl)<|c.w3 1 fun _ c=>?_
  refine c.rl 1 ?_
  exact hR _ c.gr
 ·rw [if_neg e1] at hR
  have hlt:(i - 1) / 3<es.length:=by omega
  have hx2:es[(i - 1) / 3]?=some (es.getD ((i - 1) / 3) HB):=by rw [List.getD_eq_getElem?_getD,List.getElem?_eq_getElem hlt]; rfl
  generalize es.getD ((i - 1) / 3) HB=et at hR hx2
  obtain ⟨ea,⟨ev,eq,er⟩,ew,eb⟩ :=et
  have h3:(i - 1) % 3=0∨(i - 1) % 3=1∨(i - 1) % 3=2:=by omega
  have hida:Yf 3 3 (vP (CV ⟨ea,⟨ev,eq,er⟩,ew,eb⟩) (Cu ⟨ea,⟨ev,eq,er⟩,ew,eb⟩) (Cg ⟨ea,⟨ev,eq,er⟩,ew,eb⟩)) (.int .i64 (((i - 1) % 3:Nat):Int))=some (mW (if (i - 1) % 3=0 then CV ⟨ea,⟨ev,eq,er⟩,ew,eb⟩ else if (i - 1) % 3=1 then Cu ⟨ea,⟨ev,eq,er⟩,ew,eb⟩ else Cg ⟨ea,⟨ev,eq,er⟩,ew,eb⟩)):=by
   rcases h3 with h3 | h3 | h3 <;> rw [h3] <;> kernel_rfl
  generalize (if (i - 1) % 3=0 then CV ⟨ea,⟨ev,eq,er⟩,ew,eb⟩ else if (i - 1) % 3=1 then Cu ⟨ea,⟨ev,eq,er⟩,ew,eb⟩ else Cg ⟨ea,⟨ev,eq,er⟩,ew,eb⟩)=wd at hR hida
  obtain ⟨wv,wq,wr⟩ :=wd
  unfold lL
  have c:=Cx.aA h
  refine c.qW fun _ _ c=>?_
  refine c.v3 fun _ _ c=>?_
  refine vx (m6 (fun h=>e1 (by omega)))<|bD<|aD<|c.rc 0 ?_
  refine vx (nj ⟨by omega,by omega⟩)<|vx (EF ⟨by omega,by omega⟩ (by decide)) ?_
  rw [show ((i:Int) - 1) / 3=(((i - 1) / 3:Nat):Int) by omega]
  refine (he.gr c.gr).whole rfl hx2 rfl ?_
  refine cs.pack (e:=⟨ea,⟨ev,eq,er⟩,ew,eb⟩) fun _ g=>?_
  have c:=c.more g
  refine vx (nj ⟨by omega,by omega⟩)<|vx (Fu (by omega) (by decide)) ?_
  rw [show ((i:Int) - 1) % 3=(((i - 1) % 3:Nat):Int) by omega]
  refine vx hida<|c.w3 1 fun _ c=>?_
  refine c.rl 1 ?_
  exact hR _ c.gr
theorem Mg (cs:Yz S I) (o:Bo x) (hn:n.oneCell'=true) (hq:0≤x.seq∧x.seq<4294967296) (hR:∀h',Gr h h'→R (.tuple #[se {x with bh:=n,nx:=sU I.bL},nJ ⟨4,x.at',W0,⟨z,x.seq,0⟩⟩,.bool false]) h'):nH S I (se x) (.int .i64 z) n h R:=by
 obtain ⟨du,e,who,seq,cA,i,pB,dn,bad,th,nx,bh⟩ :=x
 obtain ⟨hi,hx,hb⟩ :=o
 dsimp only at hi hx hb hq
 unfold nH
 have c:=Cx.aA h
 refine c.qW fun _ _ c=>?_
 refine c.qW fun _ _ c=>?_
 refine c.v8 fun _ _ c=>?_
 refine aD<|c.Hl 0 fun _ c=>?_
 refine c.rl 0 ?_
 refine aD<|c.rc 0 ?_
 refine aD<|c.rc 0 ?_
 refine cs.status hq fun _ g=>?_
 have c:=c.more g
 refine c.ac 0 ?_
 refine c.al 0 ?_
 refine vx (aL (ds:=[_,_,_,_,_,_,_,_]) rfl)<|cs.Gj (x:=⟨du,e,who,seq,cA,i,pB,dn,bad,th,nx,n⟩) (a:=⟨4,cA,W0,⟨z,seq,0⟩⟩) ⟨hi,hx,hn⟩ rfl fun _ g=>?_
 have c:=c.more g
 refine c.pU 1 2 fun _ c=>?_
 exact hR _ c.gr
structure YK (S:Sys) (I:aZ):Prop extends Yz S I where
 G4:∀{x:Bc} {n:Value} {z:Int} {h} {R:Value→Hp→Prop},Bo x→n.oneCell'=true→0≤x.seq∧x.seq<4294967296→(∀h',Gr h h'→R (.tuple #[se {x with bh:=n,nx:=sU I.bL},nJ ⟨4,x.at',W0,⟨z,x.seq,0⟩⟩,.bool false]) h')→S.C I.iD [se x,.int .i64 z,n] h R
 Ob:∀{x:Bc} {es:List Et} {i:Nat} {h} {R:Value→Hp→Prop},Bo x→Sl EE h (aX x.e) es→i<1+3*es.length→es.length≤1000→(∀h',Gr h h'→R (mW (Pc es i)) h')→S.C I.iW [se x,.int .i64 i] h R
theorem QF (cs:YK S I) (o:Bo x) (hq:0≤x.seq∧x.seq<4294967296) (hR:∀h',Gr h h'→R (.tuple #[se {x with bh:=sU I.dL,nx:=sU I.bL},nJ ⟨4,x.at',W0,⟨0,x.seq,0⟩⟩,.bool false]) h'):oO S I (se x) (k6 g) h R:=by
 obtain ⟨du,e,who,seq,cA,i,pB,dn,bad,th,nx,bh⟩ :=x
 have o':=o
 obtain ⟨hi,hx,hb⟩ :=o
 dsimp only at hi hx hb hq
 unfold oO
 have c:=Cx.aA h
 refine c.qW fun _ _ c=>?_
 refine c.v4 fun _ _ c=>?_
 refine c.qW fun _ _ c=>?_
 refine c.v8 fun _ _ c=>?_
 refine c.rl 0 ?_
 refine cs.G4 (x:=⟨du,e,who,seq,cA,i,pB,dn,bad,th,nx,bh⟩) o' rfl hq fun _ g=>?_
 have c:=c.more g
 refine c.pU 2 3 fun _ c=>?_
 exact hR _ c.gr
theorem mxI {a b:Int}:mx (.int .i64 a) (.int .i64 b)=some (.int .i64 (max a b)):=by
 show some (Value.int .i64 (if b > a then b else a))=_
 congr 2
 omega
theorem RZ (cs:YK S I) (o:Bo x) (he:Sl EE h (aX x.e) es) (hl:es.length≤1000) (ha:0≤x.at'∧x.at'≤4096) (hi:x.i≤1000)
  (hR:∀h',Gr h h'→R (if x.at'+(1+3*es.length)<x.at' / 8*8+x.i*8 then .tuple #[se {x with nx:=sU I.cP},nJ ⟨8,0,W0,W0⟩,.bool false] else .tuple #[se {x with i:=x.i+1,nx:=sU I.cO},nJ ⟨7,max (x.at' / 8*8+x.i*8) (x.at'+1),W0,W0⟩,.bool false]) h'):mf S I (se x) (k6 g) h R:=by
 obtain ⟨du,e,who,seq,cA,i,pB,dn,bad,th,nx,bh⟩ :=x
 have o':=o
 obtain ⟨hin,hx,hb⟩ :=o
 dsimp only at hin hx hb he ha hi hR
 by_cases e1:cA+(1+3*(es.length:Int))<cA / 8*8+i*8
 ·rw [if_pos e1] at hR
  unfold mf
  have c:=Cx.aA h
  refine c.qW fun _ _ c=>?_
  refine c.v4 fun _ _ c=>?_
  refine c.qW fun _ _ c=>?_
  refine c.v8 fun _ _ c=>?_
  refine aD<|c.rc 0 ?_
  refine vx (EF (a:=cA) ⟨by omega,by omega⟩ (by decide))<|vx (Jo (a:=cA / 8) (b:=8) ⟨by omega,by omega⟩)<|aD<|c.rc 0 ?_
  refine vx (Jo (a:=i) (b:=8) ⟨by omega,by omega⟩)<|vx (qV (a:=cA / 8*8) (b:=(i:Int)*8) ⟨by omega,by omega⟩)<|aD<|c.rc 0 ?_
  refine c.rl 0 ?_
  refine cs.zx (x:=⟨du,e,who,seq,cA,i,pB,dn,bad,th,nx,bh⟩) o' (he.gr c.gr) hl fun _ g=>?_
  have c:=c.more g
  refine c.ac 0 ?_
  refine vx (qV (a:=cA) (b:=1+3*(es.length:Int)) ⟨by omega,by omega⟩)<|vx (F4 e1)<|eR<|c.rl 0 ?_
  refine vx (aL (ds:=[_,_,_,_,_,_,_,_]) rfl)<|cs.Gj (x:=⟨du,e,who,seq,cA,i,pB,dn,bad,th,nx,bh⟩) (a:=⟨8,0,W0,W0⟩) o' rfl fun _ g=>?_
  have c:=c.more g
  refine c.pU 2 3 fun _ c=>?_
  exact hR _ c.gr
 ·rw [if_neg e1] at hR
  unfold mf
  have c:=Cx.aA h
  refine c.qW fun _ _ c=>?_
  refine c.v4 fun _ _ c=>?_
  refine c.qW fun _ _ c=>?_
  refine c.v8 fun _ _ c=>?_
  refine aD<|c.rc 0 ?_
  refine vx (EF (a:=cA) ⟨by omega,by omega⟩ (by decide))<|vx (Jo (a:=cA / 8) (b:=8) ⟨by omega,by omega⟩)<|aD<|c.rc 0 ?_
  refine vx (Jo (a:=i) (b:=8) ⟨by omega,by omega⟩)<|vx (qV (a:=cA / 8*8) (b:=(i:Int)*8) ⟨by omega,by omega⟩)<|aD<|c.rc 0 ?_
  refine c.rl 0 ?_
  refine cs.zx (x:=⟨du,e,who,seq,cA,i,pB,dn,bad,th,nx,bh⟩) o' (he.gr c.gr) hl fun _ g=>?_
  have c:=c.more g
  refine c.ac 0 ?_
  refine vx (qV (a:=cA) (b:=1+3*(es.length:Int)) ⟨by omega,by omega⟩)<|vx (sf e1)<|bD<|aD<|c.rc 0 ?_
  refine vx (inc (n:=i) (by omega))<|aD<|c.Hl 0 fun _ c=>?_
  refine c.rl 0 ?_
  refine aD<|c.rc 0 ?_
  refine vx (qV (a:=cA) (b:=1) ⟨by omega,by omega⟩)<|vx mxI<|vx (aL (ds:=[_,_,_,_,_,_,_,_]) rfl)<|cs.Gj (x:=⟨du,e,who,seq,cA,i+1,pB,dn,bad,th,nx,bh⟩) (a:=⟨7,max (cA / 8*8+i*8) (cA+1),W0,W0⟩) ⟨hin,hx,hb⟩ rfl fun _ g=>?_
  have c:=c.more g
  refine c.pU 2 3 fun _ c=>?_
  exact hR _ c.gr
structure YV (S:Sys) (I:aZ):Prop extends YK S I where
 Ox:∀{x:Bc} {g:iM} {h} {R:Value→Hp→Prop},Bo x→0≤x.seq∧x.seq<4294967296→(∀h',Gr h h'→R (.tuple #[se {x with bh:=sU I.dL,nx:=sU I.bL},nJ ⟨4,x.at',W0,⟨0,x.seq,0⟩⟩,.bool false]) h')→S.C I.cP [se x,k6 g] h R
 OI:∀{x:Bc} {es:List Et} {g:iM} {h} {R:Value→Hp→Prop},Bo x→Sl EE h (aX x.e) es→es.length≤1000→0≤x.at'∧x.at'≤4096→x.i≤1000→
  (∀h',Gr h h'→R (if x.at'+(1+3*es.length)<x.at' / 8*8+x.i*8 then .tuple #[se {x with nx:=sU I.cP},nJ ⟨8,0,W0,W0⟩,.bool false] else .tuple #[se {x with i:=x.i+1,nx:=sU I.cO},nJ ⟨7,max (x.at' / 8*8+x.i*8) (x.at'+1),W0,W0⟩,.bool false]) h')→S.C I.cO [se x,k6 g] h R
theorem O7 (cs:YV S I) (o:Bo x) (he:Sl EE h (aX x.e) es) (hl:es.length≤300) (ha:0≤x.at'∧x.at'≤4096) (hi:x.i<1+3*es.length)
  (hR:∀h',Gr h h'→R (.tuple #[se {x with i:=x.i+1,nx:=sU I.eC},nJ ⟨3,x.at'+1+x.i,W0,Pc es x.i⟩,.bool false]) h'):fE S I (se x) (k6 g) h R:=by
 obtain ⟨du,e,who,seq,cA,i,pB,dn,bad,th,nx,bh⟩ :=x
 have o':=o
 obtain ⟨hin,hx,hb⟩ :=o
 dsimp only at hin hx hb he ha hi hR
 generalize hw:Pc es i=wd at hR
 obtain ⟨wv,wq,wr⟩ :=wd
 unfold fE
 have c:=Cx.aA h
 refine c.qW fun _ _ c=>?_
 refine c.v4 fun _ _ c=>?_
 refine c.qW fun _ _ c=>?_
 refine c.v8 fun _ _ c=>?_
 refine aD<|c.rc 0 ?_
 refine c.rl 0 ?_
 refine cs.zx (x:=⟨du,e,who,seq,cA,i,pB,dn,bad,th,nx,bh⟩) o' (he.gr c.gr) (by omega) fun _ g=>?_
 have c:=c.more g
 refine c.ac 0 ?_
 refine vx (yH (show (i:Int)<1+3*(es.length:Int) by omega))<|eR<|aD<|c.rc 0 ?_
 refine vx (qV (a:=cA) (b:=1) ⟨by omega,by omega⟩)<|aD<|c.rc 0 ?_
 refine vx (qV (a:=cA+1) (b:=i) ⟨by omega,by omega⟩)<|c.rl 0 ?_
 refine vx rfl<|aD<|c.rc 0 ?_
 refine .inl (.inl ⟨I.iW,#[_],#[],rfl,?_⟩)
 refine cs.Ob (x:=⟨du,e,who,seq,cA,i,pB,dn,bad,th,nx,bh⟩) (i:=i) o' (he.gr c.gr) hi (by omega) fun _ g=>?_
 have c:=c.more g
 rw [hw]
 refine c.v3 fun _ _ c=>?_
 refine c.w3 4 fun _ c=>?_
 refine aD<|c.rc 0 ?_
 refine vx (inc (n:=i) (by omega))<|aD<|c.Hl 0 fun _ c=>?_
 refine c.rl 0 ?_
 refine c.rl 4 ?_
 refine vx (aL (ds:=[_,_,_,_,_,_,_,_]) rfl)<|cs.Gj (x:=⟨du,e,who,seq,cA,i+1,pB,dn,bad,th,nx,bh⟩) (a:=⟨3,cA+1+i,W0,⟨wv,wq,wr⟩⟩) ⟨hin,hx,hb⟩ rfl fun _ g=>?_
 have c:=c.more g
 refine c.pU 2 3 fun _ c=>?_
 exact hR _ c.gr
theorem Pr (cs:YV S I) (o:Bo x) (he:Sl EE h (aX x.e) es) (hl:es.length≤300) (ha:0≤x.at'∧x.at'≤4096) (hi:¬x.i<1+3*es.length) (hq:0≤x.seq∧x.seq<4294967296)
  (hR:∀h',Gr h h'→R (if x.du=true then (if x.at'+(1+3*es.length)<x.at' / 8*8+((0:Nat):Int)*8 then .tuple #[se {x with i:=0,nx:=sU I.cP},nJ ⟨8,0,W0,W0⟩,.bool false] else .tuple #[se {x with i:=0+1,nx:=sU I.cO},nJ ⟨7,max (x.at' / 8*8+((0:Nat):Int)*8) (x.at'+1),W0,W0⟩,.bool false])
   else .tuple #[se {x with bh:=sU I.dL,nx:=sU I.bL},nJ ⟨4,x.at',W0,⟨0,x.seq,0⟩⟩,.bool false]) h'):fE S I (se x) (k6 g) h R:=by
 obtain ⟨du,e,who,seq,cA,i,pB,dn,bad,th,nx,bh⟩ :=x
 have o':=o
 obtain ⟨hin,hx,hb⟩ :=o
 dsimp only at hin hx hb he ha hi hR hq
 cases du with
 | false=>
  rw [if_neg Bool.false_ne_true] at hR
  unfold fE
  have c:=Cx.aA h
  refine c.qW fun _ _ c=>?_
  refine c.v4 fun _ _ c=>?_
  refine c.qW fun _ _ c=>?_
  refine c.v8 fun _ _ c=>?_
  refine aD<|c.rc 0 ?_
  refine c.rl 0 ?_
  refine cs.zx (x:=⟨false,e,who,seq,cA,i,pB,dn,bad,th,nx,bh⟩) o' (he.gr c.gr) (by omega) fun _ g=>?_
  have c:=c.more g
  refine c.ac 0 ?_
  refine vx (iZ (show ¬(i:Int)<1+3*(es.length:Int) by omega))<|bD<|aD<|c.rc 0 ?_
  refine vx (v:=.bool true) (rfl)<|eR<|c.rl 0 ?_
  refine vx (aL (ds:=[_,_,_,_]) rfl)<|cs.Ox (x:=⟨false,e,who,seq,cA,i,pB,dn,bad,th,nx,bh⟩) (g:=qY) o' hq fun _ g=>?_
  have c:=c.more g
  refine c.pU 2 3 fun _ c=>?_
  exact hR _ c.gr
 | true=>
  rw [if_pos rfl] at hR
  have hneg:¬cA+(1+3*(es.length:Int))<cA / 8*8+((0:Nat):Int)*8:=by omega
  rw [if_neg hneg] at hR
  unfold fE
  have c:=Cx.aA h
  refine c.qW fun _ _ c=>?_
  refine c.v4 fun _ _ c=>?_
  refine c.qW fun _ _ c=>?_
  refine c.v8 fun _ _ c=>?_
  refine aD<|c.rc 0 ?_
  refine c.rl 0 ?_
  refine cs.zx (x:=⟨true,e,who,seq,cA,i,pB,dn,bad,th,nx,bh⟩) o' (he.gr c.gr) (by omega) fun _ g=>?_
  have c:=c.more g
  refine c.ac 0 ?_
  refine vx (iZ (show ¬(i:Int)<1+3*(es.length:Int) by omega))<|bD<|aD<|c.rc 0 ?_
  refine vx (v:=.bool false) (rfl)<|bD<|aD<|c.Hl 0 fun _ c=>?_
  refine c.rl 0 ?_
  refine vx (aL (ds:=[_,_,_,_]) rfl)<|cs.OI (x:=⟨true,e,who,seq,cA,0,pB,dn,bad,th,nx,bh⟩) (g:=qY) ⟨hin,hx,hb⟩ (he.gr c.gr) (by omega) ha (Nat.zero_le _) fun _ g=>?_
  have c:=c.more g
  dsimp only
  rw [if_neg hneg]
  refine c.pU 2 3 fun _ c=>?_
  exact hR _ c.gr
end
end Go.En
namespace Go.En
variable {S:Sys} {I:aZ} {h h0 h':Hp} {F F0:Fp} {R:Value→Hp→Prop} {L:List bQ} {B B':Bs}
def Tj (I:aZ) (op:Bool):Value:=if op then sU I.dL else sU I.eC
structure Sq (I:aZ) (B:Bs) (s:Bk) (x:Bc):Prop where
 o:Bo x
 du:x.du=s.fO
 e:On B fun h=>Sl EE h (aX x.e) s.es
 dn:x.dn=s.done
 bad:x.bad=s.bad
 th:x.th=false
structure U5 (I:aZ) (B:Bs) (s:Bk) (x:Bc):Prop extends Sq I B s x where
 who:x.who=s.who
 at':x.at'=s.at'
structure Kg (I:aZ) (B:Bs) (s:Bk) (x:Bc):Prop extends U5 I B s x where
 seq:x.seq=s.seq
 i:x.i=s.i
def Qf (I:aZ) (B:Bs) (W:bQ) (s:Bk) (x:Bc):BP→Prop
 | .take k=>Sq I B s x∧x.i=s.i∧x.nx=sU I.cC∧x.bh=sU I.gB∧∃v,x.pB=.iface I.bA v∧G7 I B W v k
 | .looked=>U5 I B s x∧x.i=s.i∧W=aG []∧x.nx=sU I.iJ
 | .rel op=>Kg I B s x∧W=aG []∧x.nx=sU I.bL∧x.bh=Tj I op
 | .Hz op=>Kg I B s x∧W=aG []∧x.nx=sU I.gT∧x.bh=Tj I op
 | .Hy op=>Kg I B s x∧W=aG []∧x.nx=Tj I op
 | .fill=>Kg I B s x∧W=aG []∧x.nx=sU I.eC
 | .uB=>Kg I B s x∧W=aG []∧x.nx=sU I.cO
 | .RH=>Kg I B s x∧W=aG []∧x.nx=sU I.cP
 | .zL hs=>Kg I B s x∧W=aG []∧x.nx=sU I.cC∧x.bh=sU I.fL∧∃v,x.pB=.iface I.aB v∧B2 I B hs v
 | .zf b k=>Sq I B s x∧x.nx=sU I.cC∧x.bh=sU I.iY∧∃v,x.pB=.iface I.bJ v∧Mu I B W v b k
 | .over=>W=aG []∧x.th=true∧x.dn=s.done∧x.bad=s.bad∧Bo x
def Su (I:aZ) (B:Bs) (W:bQ) (v:Value) (s:Bk):Prop:=∃x,v=se x∧Qf I B W s x s.ph
theorem Sq.le {s:Bk} {x:Bc} (l:B.le B') (H:Sq I B s x):Sq I B' s x:=⟨H.o,H.du,H.e.le l,H.dn,H.bad,H.th⟩
theorem U5.le {s:Bk} {x:Bc} (l:B.le B') (H:U5 I B s x):U5 I B' s x:=⟨H.toSq.le l,H.who,H.at'⟩
theorem Kg.le {s:Bk} {x:Bc} (l:B.le B') (H:Kg I B s x):Kg I B' s x:=⟨H.toU5.le l,H.seq,H.i⟩
theorem Qf.le {W:bQ} {x:Bc} {s:Bk} (l:B.le B'):∀{p:BP},Qf I B W s x p→Qf I B' W s x p
 | .take _,⟨a,b,c,d,v,e,f⟩ =>⟨a.le l,b,c,d,v,e,f.le l⟩
 | .looked,H=>⟨H.1.le l,H.2⟩
 | .rel _,H=>⟨H.1.le l,H.2⟩
 | .Hz _,H=>⟨H.1.le l,H.2⟩
 | .Hy _,H=>⟨H.1.le l,H.2⟩
 | .fill,H=>⟨H.1.le l,H.2⟩
 | .uB,H=>⟨H.1.le l,H.2⟩
 | .RH,H=>⟨H.1.le l,H.2⟩
 | .zL _,⟨a,b,c,d,v,e,f⟩ =>⟨a.le l,b,c,d,v,e,B2.le l f⟩
 | .zf _ _,⟨a,c,d,v,e,f⟩ =>⟨a.le l,c,d,v,e,f.le l⟩
 | .over,H=>H
theorem Qf.o {W:bQ} {x:Bc} {s:Bk}:∀{p:BP},Qf I B W s x p→Bo x
 | .take _,H=>H.1.o
 | .looked,H=>H.1.o
 | .rel _,H=>H.1.o
 | .Hz _,H=>H.1.o
 | .Hy _,H=>H.1.o
 | .fill,H=>H.1.o
 | .uB,H=>H.1.o
 | .RH,H=>H.1.o
 | .zL _,H=>H.1.o
 | .zf _ _,H=>H.1.o
 | .over,H=>H.2.2.2.2
def z3 (I:aZ) (F:Fp) (h:Hp) (B:Bs) (out:BR) (R:Value→Hp→Prop):Prop:=
 ∀x W M h',Cx F h h' [W,aG M]→Qf I (B.and M) W out.1 x out.1.ph→R (.tuple #[se x,nJ out.2.1,.bool out.2.2]) h'
theorem z3.flat {s:Bk} {x:Bc} {a:Ac} {d:Bool} (H:z3 I AU h B (s,a,d) R) (hx:∀M,Qf I (B.and M) (aG []) s x s.ph) {h':Hp} (g:Gr h h'):R (.tuple #[se x,nJ a,.bool d]) h':=
 H x (aG []) [] h' (Cx.Db (L:=[aG []]) (Cx.Db (L:=[]) ((Cx.aA h).more g))) (hx [])
structure U8 (S:Sys) (I:aZ):Prop extends YV S I where
 Oc:∀{x y:Value} {h R},iA S I x y h R→S.C I.cC [x,y] h R
 R2:∀{x y z:Value} {h R},mR S I x y z h R→S.C I.iO [x,y,z] h R
 Pj:∀{x:Value} {h R},lZ S I x h R→S.C I.j9 [x] h R
 N6:∀{x y:Value} {h R},iV S I x y h R→S.C I.gB [x,y] h R
 NX:∀{x y:Value} {h R},lE S I x y h R→S.C I.iY [x,y] h R
 KW:∀{x y:Value} {h R},kT S I x y h R→S.C I.fL [x,y] h R
 PM:∀{b:Nat} {h} {R:Value→Hp→Prop},Zs h→b<4→(∀r q h',Cx (fun _=>False) h h' [rV r (CS b 0 false (.func (.func I.dF) #[] #[cA r,cA q])),rV q [.int .i64 lP]]→R (.tuple #[.iface I.bJ (.agg ⟨CS b 0 false (.func (.func I.dF) #[] #[cA r,cA q])⟩),.int .i64 0]) h')→S.C I.tT [vL,.int .i64 b] h R
 Lq:∀{F:Fp} {b r q:Nat} {g:iM} {h} {R:Value→Hp→Prop},Cx F h h [aG [rV r (CS b 0 false (.func (.func I.dF) #[] #[cA r,cA q])),rV q [.int .i64 lP]]]→
  (∀r M h',Cx F h h' [aG M]→(∀B:Bs,Fr (B.and M) r (CS b 0 false (pT I.cU r)))→R (.tuple #[.iface I.bJ (.agg ⟨CS b 0 false (pT I.cU r)⟩),nJ ⟨5,lP,W0,W0⟩,.bool false]) h')→S.C I.mz [.agg ⟨CS b 0 false (.func (.func I.dF) #[] #[cA r,cA q])⟩,k6 g] h R
 kO:∀{B:Bs} {b:Nat} {k:QH} {W:bQ} {v:Value} {g:iM},On B Zs→b<4→Mu I B W v b k→Qc.live k→WL S I.mz I.bJ B W v g (fun B W v=>Mu I B W v b (kO b k g).1) (kO b k g).2.1 (kO b k g).2.2
 GP:∀{B:Bs} {W:bQ} {v:Value} {k:Nc} {h} {R:Value→Hp→Prop},G7 I B W v k→¬ML.live k→(∀h',Gr h h'→R (match k with | .done i=>.tuple #[.int .i64 i,.int .i64 0,.bool true] | _=>.tuple #[.int .i64 0,.int .i64 9,.bool true]) h')→S.C I.sN [.iface I.bA v] h R
section
variable {x:Bc} {n:Value} {a:Ac} {z:Int} {g:iM} {es:List Et} {s:Bk}
theorem zw {f:Nat} {t:TypeId} {W:bQ} {v:Value} {V:Bs→bQ→Value→Prop} {d:Bool} {out:BR} (cs:U8 S I) (hB:∀h',Ch F h h'→B.p h') (o:Bo x) (hin:x.pB=.iface t v) (hf:I.mt t "Next"=some f) (c:Cx F h h [W])
  (hN:WL S f t B W v g V a d)
  (hmore:d=false→∀v' W' M,V (B.and M) W' v'→Qf I (B.and M) W' out.1 {x with pB:=.iface t v',nx:=sU I.cC} out.1.ph∧out.2=(a,false))
  (hdone:d=true→∀v' W' M h1 K,(B.and M).p h1→V (B.and M) W' v'→z3 I AU h1 (B.and M) out K→Cw S.C S.Y I.mt x.bh [se {x with pB:=.iface t v'},k6 qY] h1 K)
  (hR:z3 I F h B out R):iA S I (se x) (k6 g) h R:=by
 obtain ⟨du,e,who,seq,cA,i,pB,dn,bad,th,nx,bh⟩ :=x
 have o':=o
 obtain ⟨hi,hx,hb⟩ :=o
 dsimp only at hi hx hb hin hmore hdone
 subst hin
 obtain ⟨⟨gv,gq,gr⟩,gk⟩ :=g
 cases d with
 | false=>
  unfold iA
  replace c:Cx _ _ _ [_]:=c
  refine c.qW fun _ _ c=>?_
  refine c.v4 fun _ _ c=>?_
  refine c.qW fun _ _ c=>?_
  refine c.v8 fun _ _ c=>?_
  refine aD<|c.rc 1 ?_
  refine c.rl 2 ?_
  refine ⟨_,_,_,rfl,hf,?_⟩
  obtain ⟨F',c',hF,up⟩ :=c.vA (i:=0) rfl
  refine hN _ F' _ c' (fun h'' ch=>hB h'' (hF _ ch)) fun v' W' M _ d ok=>?_
  have c:=up d
  replace c:=c.n6
  refine vx rfl<|vx rfl<|vx rfl<|c.v8 fun _ _ c=>?_
  refine c.w8 6 fun _ c=>?_
  refine aD<|c.Hl 1 fun _ c=>?_
  refine vx (v:=.bool true) (rfl)<|eR<|c.rl 1 ?_
  refine c.rl 6 ?_
  refine cs.Gj (x:=⟨du,e,who,seq,cA,i,.iface t v',dn,bad,th,nx,bh⟩) (a:=a) ⟨rfl,hx,hb⟩ rfl fun _ g=>?_
  have c:=c.more g
  refine c.pU 3 4 fun _ c=>?_
  obtain ⟨y1,y2⟩ :=hmore rfl v' W' M ok
  have:=hR _ W' M _ (c.pick [0,5]) y1
  rw [y2] at this
  exact this
 | true=>
  unfold iA
  replace c:Cx _ _ _ [_]:=c
  refine c.qW fun _ _ c=>?_
  refine c.v4 fun _ _ c=>?_
  refine c.qW fun _ _ c=>?_
  refine c.v8 fun _ _ c=>?_
  refine aD<|c.rc 1 ?_
  refine c.rl 2 ?_
  refine ⟨_,_,_,rfl,hf,?_⟩
  obtain ⟨F',c',hF,up⟩ :=c.vA (i:=0) rfl
  refine hN _ F' _ c' (fun h'' ch=>hB h'' (hF _ ch)) fun v' W' M _ d ok=>?_
  have c:=up d
  replace c:=c.n6
  refine vx rfl<|vx rfl<|vx rfl<|c.v8 fun _ _ c=>?_
  refine c.w8 6 fun _ c=>?_
  refine aD<|c.Hl 1 fun _ c=>?_
  refine vx (v:=.bool false) (rfl)<|bD<|aD<|c.rc 1 ?_
  refine c.rl 1 ?_
  refine vx (aL (ds:=[_,_,_,_]) rfl)<|hdone rfl v' W' M _ _ ⟨hB _ c.gr,c.get (i:=5) rfl⟩ ok fun x2 W2 M2 _ d2 ok2=>?_
  have c:=c.aE d2
  have oo:=ok2.o
  obtain ⟨du2,e2,who2,seq2,at2,i2,inn2,dn2,bad2,th2,nx2,bh2⟩ :=x2
  obtain ⟨hi2,hx2,hb2⟩ :=oo
  dsimp only at hi2 hx2 hb2
  replace c:=c.n9
  refine c.pU 3 4 fun _ c=>?_
  have c:=Cx.pack (L:=[_]) (M:=[aG M,aG M2]) (c.pick [7,5,8])
  exact hR _ W2 [aG M,aG M2] _ c (ok2.le Bs.MA)
theorem JY {f:Nat} {t:TypeId} {W:bQ} {v:Value} {V:Bs→bQ→Value→Prop} {d:Bool} {out:BR} (cs:U8 S I) (hB:∀h',Ch F h h'→B.p h') (o:Bo x) (hn:n.oneCell'=true) (hf:I.mt t "Next"=some f) (c:Cx F h h [W])
  (hN:WL S f t B W v qY V a d)
  (hmore:d=false→∀v' W' M,V (B.and M) W' v'→Qf I (B.and M) W' out.1 {x with pB:=.iface t v',nx:=sU I.cC,bh:=n} out.1.ph∧out.2=(a,false)) (hd:d=false)
  (hR:z3 I F h B out R):mR S I (se x) (.iface t v) n h R:=by
 obtain ⟨du,e,who,seq,cA,i,pB,dn,bad,th,nx,bh⟩ :=x
 obtain ⟨hi,hx,hb⟩ :=o
 dsimp only at hi hx hb hmore
 unfold mR
 replace c:Cx _ _ _ [_]:=c
 refine c.qW fun _ _ c=>?_
 refine c.qW fun _ _ c=>?_
 refine c.v8 fun _ _ c=>?_
 refine aD<|c.Hl 1 fun _ c=>?_
 refine aD<|c.Hl 1 fun _ c=>?_
 refine c.rl 1 ?_
 refine vx (aL (ds:=[_,_,_,_]) rfl)<|cs.Oc ?_
 obtain ⟨F',c',hF,up⟩ :=c.vA (i:=0) rfl
 refine zw (x:=⟨du,e,who,seq,cA,i,.iface t v,dn,bad,th,nx,n⟩) (g:=qY) cs (B:=B) (F:=F') (fun h'' ch=>hB h'' (hF _ ch)) ⟨rfl,hx,hn⟩ rfl hf c' hN hmore (fun x=>by rw [hd] at x; cases x) fun x2 W2 M _ d2 ok=>?_
 have c:=up d2
 have oo:=ok.o
 obtain ⟨du2,e2,who2,seq2,at2,i2,inn2,dn2,bad2,th2,nx2,bh2⟩ :=x2
 obtain ⟨hi2,hx2,hb2⟩ :=oo
 dsimp only at hi2 hx2 hb2
 replace c:=c.n5
 refine c.pU 2 3 fun _ c=>?_
 exact hR _ W2 M _ (c.pick [0,4]) ok
theorem K6 (cs:U8 S I) (b0:B.p h) (hZ:On B Zs) (hs:U5 I B s x) (hb4:s.s8<4) (hR:z3 I AU h B (EG s) R):lZ S I (se x) h R:=by
 obtain ⟨du,e,who,seq,atv,i,pB,dn,bad,th,nx,bh⟩ :=x
 have hs':=hs
 obtain ⟨⟨⟨hi,hx,hb⟩,h2,h3,h4,h5,h6⟩,h7,h8⟩ :=hs
 dsimp only at hi hx hb h7 h2 h3 h4 h5 h6 h8
 unfold Bk.who at h7
 subst h7
 unfold lZ
 have c:=Cx.aA h
 refine c.qW fun _ _ c=>?_
 refine c.qW fun _ _ c=>?_
 refine c.v8 fun _ _ c=>?_
 refine aD<|vx (c.vp (i:=0) (ds:=[_,_,_]) rfl rfl rfl)<|aD<|c.rc 0 ?_
 refine vx (v:=.int .i64 s.s8) ((nj (a:=9+(s.s8:Int)) (b:=9) ⟨by omega,by omega⟩).trans (congrArg (fun z=>some (Value.int .i64 z)) (by omega)))<|cs.PM (hZ _ (B.up b0 c.gr)) hb4 fun r q _ d=>?_
 have c:=c.aE d
 replace c:=c.n5
 refine vx rfl<|vx rfl<|aD<|c.Hl 0 fun _ c=>?_
 refine c.rl 0 ?_
 refine cs.R2 ?_
 have c:=Cx.pack (L:=[_,_,_]) (M:=[_,_]) c
 obtain ⟨F',c',hF,up⟩ :=c.vA (i:=3) rfl
 refine JY (x:=⟨du,e,0,seq,atv,i,pB,dn,bad,th,nx,bh⟩) cs (B:=B) (F:=F') (t:=I.bJ) (W:=aG [rV r (CS s.s8 0 false (.func (.func I.dF) #[] #[cA r,cA q])),rV q [.int .i64 lP]]) (V:=fun B W v=>Mu I B W v s.s8 .look) (a:=⟨5,lP,W0,W0⟩) (d:=false) (out:=EG s) (fun h'' ch=>B.up b0 (hF _ ch)) ⟨hi,hx,hb⟩ rfl cs.UL c' (fun h F R c hB hR=>?_) (fun _ v' W' M ok=>?_) rfl fun x2 W2 M _ d2 ok=>?_
 ·refine cs.Lq c fun r M h' c' fr=>?_
  exact hR _ (aG []) M h' ((Cx.Db (L:=[aG M]) c').perm (List.Perm.swap ..)) ⟨rfl,r,_,rfl,fr B⟩
 ·refine ⟨⟨⟨⟨rfl,rfl,rfl⟩,h2,h3.le (Bs.aR _ _),h4,h5,h6⟩,rfl,rfl,v',rfl,ok⟩,rfl⟩
 have c:=up d2
 have oo:=ok.o
 obtain ⟨du2,e2,who2,seq2,at2,i2,inn2,dn2,bad2,th2,nx2,bh2⟩ :=x2
 obtain ⟨hi2,hx2,hb2⟩ :=oo
 dsimp only at hi2 hx2 hb2
 have c:=c.pick [0,1,2,3,4]
 replace c:=c.n5
 refine c.pU 1 2 fun _ c=>?_
 exact hR _ W2 M _ (c.pick [3,4]) ok
end
end Go.En
namespace Go.En
variable {S:Sys} {I:aZ} {h h0 h':Hp} {F F0:Fp} {R:Value→Hp→Prop} {L:List bQ} {B B':Bs}
structure Ue (S:Sys) (I:aZ):Prop extends U8 S I where
 SJ:∀{x y:Value} {h R},mm S I x y h R→S.C I.dL [x,y] h R
 S1:∀{x y:Value} {h R},fE S I x y h R→S.C I.eC [x,y] h R
section
variable {x:Bc} {n:Value} {a:Ac} {z:Int} {g:iM} {es:List Et} {s:Bk}
theorem Pq (cs:U8 S I) (o:Bo x) (h1:x.dn=s.done) (h2:x.bad=s.bad) (hR:z3 I AU h B (JM s) R):lE S I (se x) (k6 g) h R:=by
 obtain ⟨du,e,who,seq,atv,i,pB,dn,bad,th,nx,bh⟩ :=x
 have o':=o
 obtain ⟨hi,hx,hb⟩ :=o
 dsimp only at hi hx hb h1 h2
 unfold lE
 have c:=Cx.aA h
 refine c.qW fun _ _ c=>?_
 refine c.v4 fun _ _ c=>?_
 refine c.qW fun _ _ c=>?_
 refine c.v8 fun _ _ c=>?_
 refine c.rl 0 ?_
 refine cs.Uo (x:=⟨du,e,who,seq,atv,i,pB,dn,bad,th,nx,bh⟩) o' fun _ g=>?_
 have c:=c.more g
 refine c.pU 2 3 fun _ c=>?_
 exact z3.flat hR (fun M=>⟨rfl,rfl,h1,h2,⟨rfl,hx,hb⟩⟩) c.gr
theorem Nm (cs:U8 S I) (b0:B.p h) (hZ:On B Zs) (hs:Kg I B s x) (hb4:s.s8<4) {v:Value} {t:Hs} (hv:x.pB=.iface I.aB v) (ht:B2 I B [t] v) (hte:t.ended=true)
  (hR:z3 I AU h B (EG {s with done:=decide (t.dN=1)}) R):kT S I (se x) (k6 g) h R:=by
 obtain ⟨du,e,who,seq,atv,i,pB,dn,bad,th,nx,bh⟩ :=x
 obtain ⟨⟨⟨⟨hi,hx,hb⟩,h2,h3,h4,h5,h6⟩,h7,h8⟩,h9,h10⟩ :=hs
 dsimp only at hi hx hb h2 h3 h4 h5 h6 h7 h8 hv
 subst hv
 unfold kT
 have c:=Cx.aA h
 refine c.qW fun _ _ c=>?_
 refine c.v4 fun _ _ c=>?_
 refine c.qW fun _ _ c=>?_
 refine c.v8 fun _ _ c=>?_
 refine aD<|c.rc 0 ?_
 refine cs.Bd ht hte fun _ g=>?_
 have c:=c.more g
 refine vx rfl<|vx rfl<|vx iQ<|aD<|c.Hl 0 fun _ c=>?_
 refine c.rl 0 ?_
 refine cs.Pj (K6 (s:={s with done:=decide (t.dN=1)}) (x:=⟨du,e,who,seq,atv,i,.iface I.aB v,decide (t.dN=1),bad,th,nx,bh⟩) cs (B.up b0 c.gr) hZ ⟨⟨⟨rfl,hx,hb⟩,h2,h3,rfl,h5,h6⟩,h7,h8⟩ hb4 fun x2 W M _ d ok=>?_)
 have c:=c.aE d
 have oo:=ok.o
 obtain ⟨du2,e2,who2,seq2,at2,i2,inn2,dn2,bad2,th2,nx2,bh2⟩ :=x2
 obtain ⟨hi2,hx2,hb2⟩ :=oo
 dsimp only at hi2 hx2 hb2
 replace c:=c.n6
 refine c.pU 2 3 fun _ c=>?_
 exact hR _ W M _ (c.pick [4,5]) ok
theorem Ez (r:Int) (d:Bool):fP [Hs.new r d] qY=([{Hs.new r d with nx:=.first}],⟨5,bF (cZ r),W0,W0⟩,false):=by
 rw [zG rfl (by simp [Hs.new]) [] (.inl rfl)]
 rfl
theorem Qi (cs:XF S I) (hZ:On B Zs) {r:Int} {d:Bool} (hp:0≤bF (cZ r)):WL S I.jB I.aB B (aG []) (nk (cB I (Hs.new r d) (none,0,0) (none,0,0) .nilIface)) qY (fun B W v=>W=aG []∧B2 I B [{Hs.new r d with nx:=.first}] v) ⟨5,bF (cZ r),W0,W0⟩ false:=by
 intro h F R c hB hR
 have hn:=cs.wJ (B:=B) (g:=qY) (hs:=[Hs.new r d]) (v:=nk (cB I (Hs.new r d) (none,0,0) (none,0,0) .nilIface)) hZ Tc ⟨_,_,rfl,fun _ _=>Sl.nil,fun _ _=>Sl.nil⟩ ⟨rfl,Nat.zero_le _,hp,fun x hx=>(List.not_mem_nil hx).elim,Tc,trivial⟩ fun s hs ha=>by
  obtain rfl:=List.mem_singleton.1 hs
  cases ha
 rw [Ez] at hn
 refine hn h R (hB h (.refl _ _)) fun v' M h' c' ok=>?_
 exact hR v' (aG []) M h' (c.aE c') ⟨rfl,ok⟩
theorem RL (cs:Ue S I) (b0:B.p h) (hZ:On B Zs) (hs:Kg I B s x) (hb4:s.s8<4) (hq:1≤s.seq∧s.seq≤16777215) (hR:z3 I AU h B (K8 s) R):mm S I (se x) (k6 g) h R:=by
 obtain ⟨du,e,who,seq,atv,i,pB,dn,bad,th,nx,bh⟩ :=x
 obtain ⟨⟨⟨⟨hi,hx,hb⟩,h2,h3,h4,h5,h6⟩,h7,h8⟩,h9,h10⟩ :=hs
 dsimp only at hi hx hb h2 h3 h4 h5 h6 h7 h8 h9 h10
 subst h2 h7 h8 h9
 have ng:IQ s.who s.seq=true:=decide_eq_true (by unfold Bk.who; omega)
 have hpt:eU s.who s.seq / 16777216=s.who∧eU s.who s.seq % 16777216=s.seq:=by unfold eU Bk.who; omega
 have hwho:cZ (eU s.who s.seq)=s.who:=by unfold cZ; rw [hpt.1,hpt.2,if_pos ng]
 have hpl:bF s.who=s.at':=by
  unfold bF Bk.at' Bk.who
  rw [if_pos (by omega)]
  congr 1
  omega
 have hpos:0≤s.at':=by unfold Bk.at' lC; split <;> omega
 have hrf:0≤eU s.who s.seq∧eU s.who s.seq<4294967296:=by unfold eU Bk.who; omega
 unfold mm
 have c:=Cx.aA h
 refine c.qW fun _ _ c=>?_
 refine c.v4 fun _ _ c=>?_
 refine c.qW fun _ _ c=>?_
 refine c.v8 fun _ _ c=>?_
 refine aD<|c.rc 0 ?_
 refine aD<|c.rc 0 ?_
 refine cs.ref fun _ g=>?_
 have c:=c.more g
 rw [if_pos ng,if_pos ng]
 refine vx rfl<|vx rfl<|aD<|vx (c.vp (i:=0) (ds:=[_,_,_]) rfl rfl rfl)<|aD<|c.rc 0 ?_
 refine cs.H8 (hZ _ (B.up b0 c.gr)) hrf fun _ g=>?_
 have c:=c.more g
 rw [if_pos ⟨by rw [hwho]; unfold Bk.who; omega,by rw [hwho,hpl]; exact hpos⟩]
 refine vx rfl<|vx rfl<|c.rl 0 ?_
 refine cs.R2 ?_
 have c:=Cx.Db c
 obtain ⟨F',c',hF,up⟩ :=c.vA (i:=4) rfl
 refine JY (n:=sU I.fL) (x:=⟨s.fO,e,s.who,s.seq,s.at',i,pB,dn,bad,th,nx,bh⟩) cs.toU8 (B:=B) (F:=F') (t:=I.aB) (V:=fun B W v=>W=aG []∧B2 I B [{Hs.new (eU s.who s.seq) s.fO with nx:=.first}] v) (a:=⟨5,s.at',W0,W0⟩) (d:=false) (out:=K8 s) (fun h'' ch=>B.up b0 (hF _ ch)) ⟨hi,hx,hb⟩ rfl cs.mt c' ?_ (fun _ v' W' M ok=>?_) rfl fun x2 W2 M _ d2 ok=>?_
 ·have:=Qi cs.toXF hZ (r:=eU s.who s.seq) (d:=s.fO) (by rw [hwho,hpl]; exact hpos)
  rwa [hwho,hpl] at this
 ·exact ⟨⟨⟨⟨⟨⟨rfl,rfl,rfl⟩,rfl,h3.le (Bs.aR _ _),h4,h5,h6⟩,rfl,rfl⟩,rfl,h10⟩,ok.1,rfl,rfl,v',rfl,ok.2⟩,rfl⟩
 have c:=up d2
 have oo:=ok.o
 obtain ⟨du2,e2,who2,seq2,at2,i2,inn2,dn2,bad2,th2,nx2,bh2⟩ :=x2
 obtain ⟨hi2,hx2,hb2⟩ :=oo
 dsimp only at hi2 hx2 hb2
 replace c:=c.n6
 refine c.pU 2 3 fun _ c=>?_
 exact hR _ W2 M _ (c.pick [4,5]) ok
theorem Cm (cs:Ue S I) (b0:B.p h) (hZ:On B Zs) (hs:Kg I B s x) (hb4:s.s8<4) (hq:1≤s.seq∧s.seq≤16777215) (hl:s.es.length≤300) (op:Bool) (hR:z3 I AU h B (sS s op) R):Cw S.C S.Y I.mt (Tj I op) [se x,k6 g] h R:=by
 cases op with
 | true=>
  exact .inl (.inl ⟨_,#[],#[],rfl,cs.SJ (RL cs b0 hZ hs hb4 hq hR)⟩)
 | false=>
  refine .inl (.inl ⟨_,#[],#[],rfl,cs.S1 ?_⟩)
  have hpos:0≤s.at'∧s.at'≤4096:=by unfold Bk.at' lC; split <;> omega
  obtain ⟨du,e,who,seq,atv,i,pB,dn,bad,th,nx,bh⟩ :=x
  have hs':=hs
  obtain ⟨⟨⟨⟨hi,hx,hb⟩,h2,h3,h4,h5,h6⟩,h7,h8⟩,h9,h10⟩ :=hs
  dsimp only at hi hx hb h2 h3 h4 h5 h6 h7 h8 h9 h10
  subst h2 h7 h8 h9 h10
  have hR:z3 I AU h B (yk s) R:=hR
  unfold yk BX at hR
  by_cases e1:s.i<1+3*s.es.length
  ·rw [if_pos e1] at hR
   refine O7 cs.toYV (x:=⟨s.fO,e,s.who,s.seq,s.at',s.i,pB,dn,bad,th,nx,bh⟩) ⟨hi,hx,hb⟩ (h3 h b0) hl hpos e1 fun h' g=>?_
   exact z3.flat hR (fun M=>⟨⟨⟨⟨⟨hi,rfl,hb⟩,rfl,h3.le (Bs.aR _ _),h4,h5,h6⟩,rfl,rfl⟩,rfl,rfl⟩,rfl,rfl⟩) g
  ·rw [if_neg e1] at hR
   refine Pr cs.toYV (x:=⟨s.fO,e,s.who,s.seq,s.at',s.i,pB,dn,bad,th,nx,bh⟩) ⟨hi,hx,hb⟩ (h3 h b0) hl hpos e1 ⟨by show 0≤s.seq; omega,by show s.seq<4294967296; omega⟩ fun h' g=>?_
   dsimp only
   by_cases e2:s.fO=true
   ·rw [if_pos e2] at hR⊢
    unfold vi BX at hR
    dsimp only at hR
    have e3:(Bk.at' {s with i:=0})=s.at':=rfl
    rw [e3] at hR
    have hneg:¬s.at'+((1+3*s.es.length:Nat):Int)<s.at' / 8*8+((0:Nat):Int)*8:=by omega
    rw [if_neg hneg] at hR
    rw [if_neg (by omega)]
    exact z3.flat hR (fun M=>⟨⟨⟨⟨⟨hi,rfl,hb⟩,rfl,h3.le (Bs.aR _ _),h4,h5,h6⟩,rfl,rfl⟩,rfl,rfl⟩,rfl,rfl⟩) g
   ·rw [if_neg e2] at hR⊢
    exact z3.flat hR (fun M=>⟨⟨⟨⟨⟨hi,rfl,rfl⟩,rfl,h3.le (Bs.aR _ _),h4,h5,h6⟩,rfl,rfl⟩,rfl,rfl⟩,rfl,rfl,rfl⟩) g
theorem HQ {op:Bool} (cs:Ue S I) (b0:B.p h) (hZ:On B Zs) (hs:Kg I B s x) (hbh:x.bh=Tj I op) (hb4:s.s8<4) (hq:1≤s.seq∧s.seq≤16777215) (hl:s.es.length≤300)
  (hR:z3 I AU h B (if s.fO=true then ({s with ph:=.Hz op},⟨7,s.at',W0,W0⟩,false) else sS s op) R):gC S I (se x) (k6 g) h R:=by
 obtain ⟨du,e,who,seq,atv,i,pB,dn,bad,th,nx,bh⟩ :=x
 have hs':=hs
 obtain ⟨⟨⟨⟨hi,hx,hb⟩,h2,h3,h4,h5,h6⟩,h7,h8⟩,h9,h10⟩ :=hs
 dsimp only at hi hx hb h2 h3 h4 h5 h6 h7 h8 h9 h10 hbh
 subst hbh
 obtain ⟨⟨gv,gq,gr⟩,gk⟩ :=g
 cases du with
 | false=>
  rw [←h2,if_neg Bool.false_ne_true] at hR
  unfold gC
  have c:=Cx.aA h
  refine c.qW fun _ _ c=>?_
  refine c.v4 fun _ _ c=>?_
  refine c.qW fun _ _ c=>?_
  refine c.v8 fun _ _ c=>?_
  refine aD<|c.rc 0 ?_
  refine vx (v:=.bool true) (rfl)<|eR<|aD<|c.rc 0 ?_
  refine c.rl 0 ?_
  refine c.rl 1 ?_
  refine Cm (g:=⟨⟨gv,gq,gr⟩,gk⟩) cs (B.up b0 c.gr) hZ hs' hb4 hq hl op fun x2 W M _ d ok=>?_
  have c:=c.aE d
  have oo:=ok.o
  obtain ⟨du2,e2,who2,seq2,at2,i2,inn2,dn2,bad2,th2,nx2,bh2⟩ :=x2
  obtain ⟨hi2,hx2,hb2⟩ :=oo
  dsimp only at hi2 hx2 hb2
  replace c:=c.n6
  refine c.pU 2 3 fun _ c=>?_
  exact hR _ W M _ (c.pick [4,5]) ok
 | true=>
  rw [←h2,if_pos rfl] at hR
  subst h8
  unfold gC
  have c:=Cx.aA h
  refine c.qW fun _ _ c=>?_
  refine c.v4 fun _ _ c=>?_
  refine c.qW fun _ _ c=>?_
  refine c.v8 fun _ _ c=>?_
  refine aD<|c.rc 0 ?_
  refine vx (v:=.bool false) (rfl)<|bD<|c.rl 0 ?_
  refine aD<|c.rc 0 ?_
  refine vx (aL (ds:=[_,_,_,_,_,_,_,_]) rfl)<|cs.Gj (x:=⟨true,e,who,seq,s.at',i,pB,dn,bad,th,nx,Tj I op⟩) (a:=⟨7,s.at',W0,W0⟩) ⟨hi,hx,hb⟩ rfl fun _ g=>?_
  have c:=c.more g
  refine c.pU 2 3 fun _ c=>?_
  exact z3.flat hR (fun M=>⟨⟨⟨⟨⟨hi,rfl,hb⟩,rfl,h3.le (Bs.aR _ _),h4,h5,h6⟩,h7,rfl⟩,h9,h10⟩,rfl,rfl,rfl⟩) c.gr
theorem Jr {op:Bool} (cs:Ue S I) (hs:Kg I B s x) (hbh:x.bh=Tj I op) (hR:z3 I AU h B ({s with ph:=.Hy op},⟨8,0,W0,W0⟩,false) R):kD S I (se x) (k6 g) h R:=by
 obtain ⟨du,e,who,seq,atv,i,pB,dn,bad,th,nx,bh⟩ :=x
 obtain ⟨⟨⟨⟨hi,hx,hb⟩,h2,h3,h4,h5,h6⟩,h7,h8⟩,h9,h10⟩ :=hs
 dsimp only at hi hx hb h2 h3 h4 h5 h6 h7 h8 h9 h10 hbh
 subst hbh
 unfold kD
 have c:=Cx.aA h
 refine c.qW fun _ _ c=>?_
 refine c.v4 fun _ _ c=>?_
 refine c.qW fun _ _ c=>?_
 refine c.v8 fun _ _ c=>?_
 refine c.rl 0 ?_
 refine vx (aL (ds:=[_,_,_,_,_,_,_,_]) rfl)<|aD<|c.rc 0 ?_
 refine cs.Gj (x:=⟨du,e,who,seq,atv,i,pB,dn,bad,th,nx,Tj I op⟩) (a:=⟨8,0,W0,W0⟩) ⟨hi,hx,hb⟩ hb fun _ g=>?_
 have c:=c.more g
 refine c.pU 2 3 fun _ c=>?_
 exact z3.flat hR (fun M=>⟨⟨⟨⟨⟨hi,hb,hb⟩,h2,h3.le (Bs.aR _ _),h4,h5,h6⟩,h7,h8⟩,h9,h10⟩,rfl,rfl⟩) c.gr
theorem MJ (cs:Ue S I) (b0:B.p h) (hZ:On B Zs) (hs:U5 I B s x) (hxi:x.i=s.i) (hb4:s.s8<4) (hg:Ww g.w) (hR:z3 I AU h B (xw s g.w) R):iH S I (se x) (k6 g) h R:=by
 obtain ⟨du,e,who,seq,atv,i,pB,dn,bad,th,nx,bh⟩ :=x
 have hs':=hs
 obtain ⟨⟨⟨hi,hx,hb⟩,h2,h3,h4,h5,h6⟩,h7,h8⟩ :=hs
 dsimp only at hi hx hb h2 h3 h4 h5 h6 h7 h8 hxi
 obtain ⟨⟨gv,gq,gr⟩,gk⟩ :=g
 obtain ⟨hg1,hg2,hg3⟩ :=hg
 dsimp only at hg1 hg2 hg3
 unfold xw at hR
 dsimp only at hR
 by_cases e1:16777215≤gq
 ·rw [if_pos e1] at hR
  unfold iH
  have c:=Cx.aA h
  refine c.qW fun _ _ c=>?_
  refine c.v4 fun _ _ c=>?_
  refine c.qW fun _ _ c=>?_
  refine c.v8 fun _ _ c=>?_
  refine aD<|aD<|c.rc 1 ?_
  refine vx (uA e1)<|eR<|aD<|c.Hl 0 fun _ c=>?_
  refine c.rl 0 ?_
  refine cs.Pj (K6 (s:={s with bad:=9}) (x:=⟨du,e,who,seq,atv,i,pB,dn,9,th,nx,bh⟩) cs.toU8 (B.up b0 c.gr) hZ ⟨⟨⟨hi,hx,hb⟩,h2,h3,h4,rfl,h6⟩,h7,h8⟩ hb4 fun x2 W M _ d ok=>?_)
  have c:=c.aE d
  have oo:=ok.o
  obtain ⟨du2,e2,who2,seq2,at2,i2,inn2,dn2,bad2,th2,nx2,bh2⟩ :=x2
  obtain ⟨hi2,hx2,hb2⟩ :=oo
  dsimp only at hi2 hx2 hb2
  replace c:=c.n6
  refine c.pU 2 3 fun _ c=>?_
  exact hR _ W M _ (c.pick [4,5]) ok
 ·rw [if_neg e1] at hR
  subst h8
  unfold iH
  have c:=Cx.aA h
  refine c.qW fun _ _ c=>?_
  refine c.v4 fun _ _ c=>?_
  refine c.qW fun _ _ c=>?_
  refine c.v8 fun _ _ c=>?_
  refine aD<|aD<|c.rc 1 ?_
  refine vx (o8 e1)<|bD<|aD<|aD<|c.rc 1 ?_
  refine vx (v:=.int .i64 gq) ?_ ?_
  ·show some (Value.int .i64 (IntKind.i64.wrap gq))=_
   rw [EZ ⟨by omega,by omega⟩]
  refine vx (qV (a:=gq) (b:=1) ⟨by omega,by omega⟩)<|aD<|c.Hl 0 fun _ c=>?_
  refine c.rl 0 ?_
  refine cs.G4 (x:=⟨du,e,who,gq+1,s.at',i,pB,dn,bad,th,nx,bh⟩) ⟨hi,hx,hb⟩ rfl ⟨by show 0≤gq+1; omega,by show gq+1<_; omega⟩ fun _ g=>?_
  have c:=c.more g
  refine c.pU 2 3 fun _ c=>?_
  exact z3.flat hR (fun M=>⟨⟨⟨⟨⟨hi,rfl,rfl⟩,h2,h3.le (Bs.aR _ _),h4,h5,h6⟩,h7,rfl⟩,rfl,hxi⟩,rfl,rfl,rfl⟩) c.gr
end
end Go.En
namespace Go.En
variable {S:Sys} {I:aZ} {h h0 h':Hp} {F F0:Fp} {R:Value→Hp→Prop} {L:List bQ} {B B':Bs}
structure Yw (S:Sys) (I:aZ):Prop extends Ue S I where
 Ti:∀{x y:Value} {h R},l4 S I x y h R→S.C I.jZ [x,y] h R
 Lr:∀{x y:Value} {h R},iH S I x y h R→S.C I.iJ [x,y] h R
 Ga:∀{x y:Value} {h R},gC S I x y h R→S.C I.bL [x,y] h R
 HM:∀{x y:Value} {h R},kD S I x y h R→S.C I.gT [x,y] h R
theorem Cx.UR (ch:Ch F h h'):Cx F h h' [aG []]:=by
 refine ⟨[fun _=>False],.cons ⟨[],.nil,fun q=>⟨fun e=>e.elim,fun ⟨G,hG,_⟩ =>by cases hG⟩⟩ (fun _ hG=>by cases hG) .nil,ch,fun G hG r hr=>?_⟩
 rcases List.mem_cons.1 hG with rfl | hG
 ·exact hr.elim
 ·cases hG
section
variable {x:Bc} {n:Value} {a:Ac} {z:Int} {g:iM} {es:List Et} {s:Bk}
def Ir (s:Bk):Nc→BR
 | .done i=>({s with s8:=i,ph:=.looked},⟨5,lC i,W0,W0⟩,false)
 | _=>JM {s with bad:=9}
theorem Pv (cs:Yw S I) (b0:B.p h) (hZ:On B Zs) {W:bQ} {v:Value} {k:Nc} (hs:Sq I B s x) (hi0:x.i=s.i) (hv:x.pB=.iface I.bA v) (hk:G7 I B W v k) (hnl:¬ML.live k)
  (hR:z3 I AU h B (Ir s k) R):iV S I (se x) (k6 g) h R:=by
 obtain ⟨du,e,who,seq,atv,i,pB,dn,bad,th,nx,bh⟩ :=x
 obtain ⟨⟨hi,hx,hb⟩,h2,h3,h4,h5,h6⟩ :=hs
 dsimp only at hi hx hb h2 h3 h4 h5 h6 hv hi0
 subst hv
 cases k with
 | look=>exact absurd trivial hnl
 | swap i w=>exact absurd trivial hnl
 | done b=>
  have hb4:b<4:=hk.1
  have hpos:0≤lC b∧lC b≤4096:=by unfold lC; split <;> omega
  unfold iV
  have c:=Cx.aA h
  refine c.qW fun _ _ c=>?_
  refine c.v4 fun _ _ c=>?_
  refine c.qW fun _ _ c=>?_
  refine c.v8 fun _ _ c=>?_
  refine aD<|c.rc 0 ?_
  refine cs.GP hk hnl fun _ g=>?_
  have c:=c.more g
  refine vx rfl<|vx rfl<|vx rfl<|vx (v:=.bool false) rfl<|bD<|vx (qV (a:=9) (b:=b) ⟨by omega,by omega⟩)<|aD<|c.Hl 0 fun _ c=>?_
  refine aD<|vx (c.vp (i:=0) (ds:=[_,_,_]) rfl rfl rfl)<|cs.Eu (i:=b) _ _ (hZ _ (B.up b0 c.gr)) fun _ g=>?_
  have c:=c.more g
  refine aD<|c.Hl 0 fun _ c=>?_
  refine c.rl 0 ?_
  refine aD<|c.rc 0 ?_
  refine vx (aL (ds:=[_,_,_,_,_,_,_,_]) rfl)<|cs.Gj (x:=⟨du,e,9+b,seq,lC b,i,.iface I.bA v,dn,bad,th,nx,bh⟩) (a:=⟨5,lC b,W0,W0⟩) ⟨rfl,hx,hb⟩ rfl fun _ g=>?_
  have c:=c.more g
  refine c.pU 2 3 fun _ c=>?_
  exact z3.flat hR (fun M=>⟨⟨⟨⟨rfl,rfl,hb⟩,h2,h3.le (Bs.aR _ _),h4,h5,h6⟩,rfl,rfl⟩,hi0,rfl,rfl⟩) c.gr
 | full=>
  unfold iV
  have c:=Cx.aA h
  refine c.qW fun _ _ c=>?_
  refine c.v4 fun _ _ c=>?_
  refine c.qW fun _ _ c=>?_
  refine c.v8 fun _ _ c=>?_
  refine aD<|c.rc 0 ?_
  refine cs.GP hk hnl fun _ g=>?_
  have c:=c.more g
  refine vx rfl<|vx rfl<|vx rfl<|vx (v:=.bool true) rfl<|eR<|aD<|c.Hl 0 fun _ c=>?_
  refine c.rl 0 ?_
  refine cs.Uo (x:=⟨du,e,who,seq,atv,i,.iface I.bA v,dn,9,th,nx,bh⟩) ⟨rfl,hx,hb⟩ fun _ g=>?_
  have c:=c.more g
  refine c.pU 2 3 fun _ c=>?_
  exact z3.flat hR (fun M=>⟨rfl,rfl,h4,rfl,⟨rfl,hx,hb⟩⟩) c.gr
theorem MT (cs:Yw S I) (b0:B.p h) (hZ:On B Zs) {p:SH} {b:Int} {r:Nat} {n:Value} (hp:On B fun h=>Sl DL h (aX p) [((0:Int),(4:Int))]) (hr:Fr B r (zD p b 0 false n)) (hn:n.oneCell'=true)
  (hR:CE I.bA AU h B (fun B W v=>G7 I B W v .look) ⟨5,lP,W0,W0⟩ false R):iC S I (.agg ⟨zD p b 0 false (pT I.dK r)⟩) (k6 qY) h R:=by
 unfold iC
 have c:=Cx.aA h
 refine c.v8 fun _ _ c=>?_
 refine c.v4 fun _ _ c=>?_
 refine c.v8 fun _ _ c=>?_
 refine aD<|c.rc 0 ?_
 refine bD<|aD<|c.rc 0 ?_
 refine c.rl 1 ?_
 refine .inl (.inl ⟨I.dK,#[],#[cA r],rfl,cs.KZ (B.up b0 c.gr) hZ hn hp hr fun v W M _ d ok=>?_⟩)
 have c:=c.aE d
 replace c:=c.n5
 refine c.t8 2 fun _ c=>?_
 exact hR v W M _ (c.pick [3,4]) ok
structure Tq (S:Sys) (I:aZ):Prop extends Yw S I where
 tkN:∀{x y:Value} {h R},iC S I x y h R→S.C I.mB [x,y] h R
theorem Sf (cs:Tq S I) (b0:B.p h) (hZ:On B Zs) (hs:Sq I B s x) (hi0:x.i=s.i) (hph:s.ph=.take .look) (hR:z3 I AU h B (s,⟨5,lP,W0,W0⟩,false) R):l4 S I (se x) (k6 g) h R:=by
 obtain ⟨du,e,who,seq,atv,i,pB,dn,bad,th,nx,bh⟩ :=x
 obtain ⟨⟨hi,hx,hb⟩,h2,h3,h4,h5,h6⟩ :=hs
 dsimp only at hi hx hb h2 h3 h4 h5 h6 hi0
 unfold l4
 have c:=Cx.aA h
 refine c.qW fun _ _ c=>?_
 refine c.v4 fun _ _ c=>?_
 refine c.qW fun _ _ c=>?_
 refine c.v8 fun _ _ c=>?_
 refine aD<|vx (c.vp (i:=0) (ds:=[_,_,_]) rfl rfl rfl)<|cs.NU (hZ _ (B.up b0 c.gr)) fun p r _ d=>?_
 have c:=c.aE d
 replace c:=c.n6
 refine vx rfl<|vx rfl<|c.rl 0 ?_
 refine cs.R2 ?_
 have c:=Cx.pack (L:=[_,_,_,_]) (M:=[_,_]) c
 have c:=Cx.Db c
 obtain ⟨F',c',hF,up⟩ :=c.vA (i:=5) rfl
 have hM:∀h'',Ch F' _ h''→(B.and [dA DL (aX p) [((0:Int),(4:Int))],rV r (zD p 0 0 false (pT I.dK r))]).p h'':=fun h'' ch=>by
  have cc:=up (A':=aG []) (M:=[]) (h':=h'') (Cx.UR ch)
  exact ⟨B.up b0 (hF _ ch),cc.get (i:=4) rfl⟩
 refine JY (n:=sU I.gB) (x:=⟨du,e,who,seq,atv,i,pB,dn,bad,th,nx,bh⟩) cs.toU8 (B:=B.and [dA DL (aX p) [((0:Int),(4:Int))],rV r (zD p 0 0 false (pT I.dK r))]) (F:=F') (t:=I.bA) (V:=fun B W v=>G7 I B W v .look) (a:=⟨5,lP,W0,W0⟩) (d:=false) (out:=(s,⟨5,lP,W0,W0⟩,false)) hM ⟨hi,hx,hb⟩ rfl cs.Ub c' (fun h F R c hB hR=>?_) (fun _ v' W' M ok=>?_) rfl fun x2 W2 M _ d2 ok=>?_
 ·refine cs.tkN (MT cs.toYw (hB h (.refl _ _)) (hZ.le (Bs.aR _ _)) (On.sl (i:=0) rfl) (Fr.of (i:=1) rfl) rfl fun v W M h' c2 ok=>?_)
  exact hR v W M h' ((c.aE c2).pick [1,2]) ok
 ·refine ⟨?_,rfl⟩
  dsimp only
  rw [hph]
  exact ⟨⟨⟨rfl,rfl,rfl⟩,h2,h3.le ((Bs.aR _ _).trans (Bs.aR _ _)),h4,h5,h6⟩,hi0,rfl,rfl,v',rfl,ok⟩
 have c:=up d2
 have oo:=ok.o
 obtain ⟨du2,e2,who2,seq2,at2,i2,inn2,dn2,bad2,th2,nx2,bh2⟩ :=x2
 obtain ⟨hi2,hx2,hb2⟩ :=oo
 dsimp only at hi2 hx2 hb2
 replace c:=c.n7
 refine c.pU 2 3 fun _ c=>?_
 exact hR _ W2 [_,aG M] _ (Cx.pack (L:=[_]) (M:=[aG [dA DL (aX p) [((0:Int),(4:Int))],rV r (zD p 0 0 false (pT I.dK r))],aG M]) (c.pick [5,4,6])) (ok.le Bs.MA)
end
end Go.En
namespace Go.En
variable {S:Sys} {I:aZ} {h h0 h':Hp} {F F0:Fp} {R:Value→Hp→Prop} {L:List bQ} {B B':Bs}
def Bok (s:Bk):BP→Prop
 | .take k=>ML.live k
 | .zL hs=>Gv hs∧∀s∈hs,s.nx=.again→s.i<s.es.length
 | .zf b k=>b<4∧Qc.live k
 | .looked=>True
 | .over=>False
 | _=>1≤s.seq∧s.seq≤16777215
structure xT (s:Bk):Prop where
 ph:Bok s s.ph
 s8:s.s8<4
 es:s.es.length≤300
 i:s.i≤1000
section
variable {x:Bc} {n:Value} {a:Ac} {z:Int} {g:iM} {es:List Et} {s:Bk} {W:bQ} {v:Value} {out:BR}
theorem px (hth:x.th=false) (o:Bo x) (c:Cx F h h [W]) (hB:∀h',Ch F h h'→B.p h') (hC:∀h1 F1 K,Cx F1 h1 h1 [W]→(∀h',Ch F1 h1 h'→B.p h')→z3 I F1 h1 B out K→Cw S.C S.Y I.mt x.nx [se x,k6 g] h1 K)
  (hR:CE I.aH F h B (fun B W v=>Su I B W v out.1) out.2.1 out.2.2 R):gU S I (se x) (k6 g) h R:=by
 obtain ⟨du,e,who,seq,atv,i,pB,dn,bad,th,nx,bh⟩ :=x
 obtain ⟨hi,hx,hb⟩ :=o
 dsimp only at hi hx hb hth
 subst hth
 obtain ⟨⟨gv,gq,gr⟩,gk⟩ :=g
 obtain ⟨so,a,d⟩ :=out
 unfold gU
 replace c:Cx _ _ _ [_]:=c
 refine c.qW fun _ _ c=>?_
 refine c.v4 fun _ _ c=>?_
 refine c.v8 fun _ _ c=>?_
 refine aD<|c.rc 1 ?_
 refine bD<|aD<|c.rc 1 ?_
 refine c.rl 1 ?_
 refine c.rl 2 ?_
 obtain ⟨F',c',hF,up⟩ :=c.vA (i:=0) rfl
 refine hC _ F' _ c' (fun h'' ch=>hB h'' (hF _ ch)) fun x2 W2 M _ d2 ok=>?_
 have c:=up d2
 have oo:=ok.o
 obtain ⟨du2,e2,who2,seq2,at2,i2,inn2,dn2,bad2,th2,nx2,bh2⟩ :=x2
 obtain ⟨hi2,hx2,hb2⟩ :=oo
 dsimp only at hi2 hx2 hb2
 replace c:=c.n5
 refine vx rfl<|vx rfl<|vx rfl<|c.qW fun _ _ c=>?_
 refine c.v8 fun _ _ c=>?_
 refine c.WO 5 fun _ c=>?_
 refine c.w8 6 fun _ c=>?_
 refine c.rl 5 ?_
 refine vx rfl<|c.rl 6 ?_
 refine c.w8 3 fun _ c=>?_
 refine c.rl 3 ?_
 exact hR _ W2 M _ (c.pick [0,4]) ⟨_,rfl,ok⟩
theorem z3.SE {h1:Hp} (c:Cx F h1 h1 [W]) (hW:W=aG []) (H:z3 I F h1 B out R):z3 I AU h1 B out R:=fun x W2 M h' c' ok=>H x W2 M h' ((c.aE c').pick [1,2]) ok
theorem H3 {k:Nc} {g:iM} (hk:ML.live k):(kU k g).2.2=true↔¬ML.live (kU k g).1:=by
 have F:∀(w:W3) (k i:Nat),(gH w k i).2.2=true↔¬ML.live (gH w k i).1:=fun w k=>by
  induction k with
  | zero=>intro i; exact ⟨fun _=>id,fun _=>rfl⟩
  | succ k ih=>
   intro i
   rw [gH]
   split
   ·exact ⟨(fun h=>by cases h),fun h=>absurd trivial h⟩
   ·exact ih _
 cases k with
 | look=>exact F _ _ _
 | swap i w=>
  unfold kU
  dsimp only
  split
  ·exact ⟨fun _=>id,fun _=>rfl⟩
  ·exact F _ _ _
 | done i=>exact hk.elim
 | full=>exact hk.elim
theorem IJ {b:Nat} {k:QH} {g:iM} (hk:Qc.live k):(kO b k g).2.2=true↔¬Qc.live (kO b k g).1:=by
 have F:∀(w:W3),(jP b w).2.2=true↔¬Qc.live (jP b w).1:=fun w=>by
  unfold jP
  split
  ·exact ⟨fun _=>id,fun _=>rfl⟩
  ·exact ⟨(fun h=>by cases h),fun h=>absurd trivial h⟩
 cases k with
 | look=>exact F _
 | swap w=>
  unfold kO
  dsimp only
  split
  ·exact ⟨fun _=>id,fun _=>rfl⟩
  ·exact F _
 | done i=>exact hk.elim
theorem UM (cs:Tq S I) (hZ:On B Zs) (hv:Su I B W v s) (ok:xT s) (hg:Ww g.w) (c:Cx F h h [W]) (hB:∀h',Ch F h h'→B.p h')
  (hR:CE I.aH F h B (fun B W v=>Su I B W v (dG s g).1) (dG s g).2.1 (dG s g).2.2 R):gU S I v (k6 g) h R:=by
 obtain ⟨x,rfl,hx⟩ :=hv
 obtain ⟨o1,o2,o3,o4⟩ :=ok
 have hpos:0≤s.at'∧s.at'≤4096:=by unfold Bk.at' lC; split <;> omega
 cases hp:s.ph with
 | over=>rw [hp] at o1; exact o1.elim
 | looked=>
  rw [hp] at hx o1
  obtain ⟨y1,y2,rfl,y4⟩ :=hx
  have e1:dG s g=xw s g.w:=by unfold dG; rw [hp]
  rw [e1] at hR
  refine px y1.th y1.o c hB (fun h1 F1 K c1 hB1 hK=>?_) hR
  rw [y4]
  exact .inl (.inl ⟨_,#[],#[],rfl,cs.Lr (MJ cs.toUe (hB1 _ (.refl _ _)) hZ y1 y2 o2 hg (hK.SE c1 rfl))⟩)
 | rel op=>
  rw [hp] at hx o1
  obtain ⟨y1,rfl,y3,y4⟩ :=hx
  have e1:dG s g=if s.fO=true then ({s with ph:=.Hz op},⟨7,s.at',W0,W0⟩,false) else sS s op:=by unfold dG; rw [hp]
  rw [e1] at hR
  refine px y1.th y1.o c hB (fun h1 F1 K c1 hB1 hK=>?_) hR
  rw [y3]
  exact .inl (.inl ⟨_,#[],#[],rfl,cs.Ga (HQ cs.toUe (hB1 _ (.refl _ _)) hZ y1 y4 o2 o1 o3 (hK.SE c1 rfl))⟩)
 | Hz op=>
  rw [hp] at hx o1
  obtain ⟨y1,rfl,y3,y4⟩ :=hx
  have e1:dG s g=({s with ph:=.Hy op},⟨8,0,W0,W0⟩,false):=by unfold dG; rw [hp]
  rw [e1] at hR
  refine px y1.th y1.o c hB (fun h1 F1 K c1 hB1 hK=>?_) hR
  rw [y3]
  exact .inl (.inl ⟨_,#[],#[],rfl,cs.HM (Jr cs.toUe y1 y4 (hK.SE c1 rfl))⟩)
 | Hy op=>
  rw [hp] at hx o1
  obtain ⟨y1,rfl,y3⟩ :=hx
  have e1:dG s g=sS s op:=by unfold dG; rw [hp]
  rw [e1] at hR
  refine px y1.th y1.o c hB (fun h1 F1 K c1 hB1 hK=>?_) hR
  rw [y3]
  exact Cm cs.toUe (hB1 _ (.refl _ _)) hZ y1 o2 o1 o3 op (hK.SE c1 rfl)
 | fill=>
  rw [hp] at hx o1
  obtain ⟨y1,rfl,y3⟩ :=hx
  have e1:dG s g=sS s false:=by unfold dG; rw [hp]; rfl
  rw [e1] at hR
  refine px y1.th y1.o c hB (fun h1 F1 K c1 hB1 hK=>?_) hR
  rw [y3]
  exact Cm cs.toUe (hB1 _ (.refl _ _)) hZ y1 o2 o1 o3 false (hK.SE c1 rfl)
 | uB=>
  rw [hp] at hx o1
  obtain ⟨y1,rfl,y3⟩ :=hx
  have e1:dG s g=vi s:=by unfold dG; rw [hp]
  rw [e1] at hR
  refine px y1.th y1.o c hB (fun h1 F1 K c1 hB1 hK=>?_) hR
  rw [y3]
  refine .inl (.inl ⟨_,#[],#[],rfl,cs.OI (es:=s.es) y1.o (y1.e _ (hB1 _ (.refl _ _))) (by omega) (by rw [y1.at']; exact hpos) (by rw [y1.i]; exact o4) fun h' gr=>?_⟩)
  have hK:=hK.SE c1 rfl
  rw [y1.at',y1.i]
  unfold vi BX at hK
  dsimp only at hK
  by_cases e2:s.at'+(1+3*(s.es.length:Int))<s.at' / 8*8+s.i*8
  ·rw [if_pos e2]
   rw [if_pos (by omega)] at hK
   exact z3.flat (x:={x with at':=s.at',i:=s.i,nx:=sU I.cP}) hK (fun M=>⟨⟨⟨⟨⟨y1.o.pB,rfl,y1.o.bh⟩,y1.du,y1.e.le (Bs.aR _ _),y1.dn,y1.bad,y1.th⟩,y1.who,rfl⟩,y1.seq,rfl⟩,rfl,rfl⟩) gr
  ·rw [if_neg e2]
   rw [if_neg (by omega)] at hK
   exact z3.flat (x:={x with at':=s.at',i:=s.i+1,nx:=sU I.cO}) hK (fun M=>⟨⟨⟨⟨⟨y1.o.pB,rfl,y1.o.bh⟩,y1.du,y1.e.le (Bs.aR _ _),y1.dn,y1.bad,y1.th⟩,y1.who,rfl⟩,y1.seq,rfl⟩,rfl,rfl⟩) gr
 | RH=>
  rw [hp] at hx o1
  obtain ⟨y1,rfl,y3⟩ :=hx
  have e1:dG s g=K9 s:=by unfold dG; rw [hp]
  rw [e1] at hR
  refine px y1.th y1.o c hB (fun h1 F1 K c1 hB1 hK=>?_) hR
  rw [y3]
  have o1:1≤s.seq∧s.seq≤16777215:=o1
  refine .inl (.inl ⟨_,#[],#[],rfl,cs.Ox y1.o (by rw [y1.seq]; omega) fun h' gr=>?_⟩)
  rw [y1.at',y1.seq]
  exact z3.flat (x:={x with at':=s.at',seq:=s.seq,bh:=sU I.dL,nx:=sU I.bL}) (hK.SE c1 rfl) (fun M=>⟨⟨⟨⟨⟨y1.o.pB,rfl,rfl⟩,y1.du,y1.e.le (Bs.aR _ _),y1.dn,y1.bad,y1.th⟩,y1.who,rfl⟩,rfl,y1.i⟩,rfl,rfl,rfl⟩) gr
 | take k=>
  rw [hp] at hx o1
  obtain ⟨y1,y2,y3,y4,v',y5,y6⟩ :=hx
  have o1:ML.live k:=o1
  have hN:=cs.kU (g:=g) hZ y6 o1
  have hlv:=H3 (g:=g) o1
  refine px y1.th y1.o c hB (fun h1 F1 K c1 hB1 hK=>?_) hR
  rw [y3]
  cases hq:kU k g with
  | mk k' q=>
   obtain ⟨a',d⟩ :=q
   rw [hq] at hN hlv
   refine .inl (.inl ⟨_,#[],#[],rfl,cs.Oc (zw cs.toU8 hB1 y1.o y5 cs.Ub c1 hN (fun hd v2 W2 M ok=>?_) (fun hd v2 W2 M h2 K2 b2 ok hK2=>?_) hK)⟩)
   ·have hd:d=false:=hd
    subst hd
    have e1:dG s g=({s with ph:=.take k'},a',false):=by
     unfold dG
     rw [hp]
     dsimp only
     rw [hq]
     cases k' with
     | look=>rfl
     | swap i w=>rfl
     | done i=>have:=hlv.2 id; cases this
     | full=>have:=hlv.2 id; cases this
    rw [e1]
    exact ⟨⟨⟨⟨rfl,rfl,y1.o.bh⟩,y1.du,y1.e.le (Bs.aR _ _),y1.dn,y1.bad,y1.th⟩,y2,rfl,y4,v2,rfl,ok⟩,rfl⟩
   ·have hd:d=true:=hd
    subst hd
    have hnl:=hlv.1 rfl
    have e1:dG s g=Ir s k':=by
     unfold dG
     rw [hp]
     dsimp only
     rw [hq]
     cases k' with
     | look=>exact absurd trivial hnl
     | swap i w=>exact absurd trivial hnl
     | done i=>rfl
     | full=>rfl
    rw [e1] at hK2
    rw [y4]
    exact .inl (.inl ⟨_,#[],#[],rfl,cs.N6 (Pv cs.toYw b2 (hZ.le (Bs.aR _ _)) ⟨⟨rfl,y1.o.nx,rfl⟩,y1.du,y1.e.le (Bs.aR _ _),y1.dn,y1.bad,y1.th⟩ y2 rfl ok hnl hK2)⟩)
 | zf b k=>
  rw [hp] at hx o1
  obtain ⟨y1,y3,y4,v',y5,y6⟩ :=hx
  have o1:b<4∧Qc.live k:=o1
  have hN:=cs.kO (g:=g) hZ o1.1 y6 o1.2
  have hlv:=IJ (b:=b) (g:=g) o1.2
  refine px y1.th y1.o c hB (fun h1 F1 K c1 hB1 hK=>?_) hR
  rw [y3]
  cases hq:kO b k g with
  | mk k' q=>
   obtain ⟨a',d⟩ :=q
   rw [hq] at hN hlv
   refine .inl (.inl ⟨_,#[],#[],rfl,cs.Oc (zw cs.toU8 hB1 y1.o y5 cs.UL c1 hN (fun hd v2 W2 M ok=>?_) (fun hd v2 W2 M h2 K2 b2 ok hK2=>?_) hK)⟩)
   ·have hd:d=false:=hd
    subst hd
    have e1:dG s g=({s with ph:=.zf b k'},a',false):=by
     unfold dG
     rw [hp]
     dsimp only
     rw [hq]
    rw [e1]
    exact ⟨⟨⟨⟨rfl,rfl,y1.o.bh⟩,y1.du,y1.e.le (Bs.aR _ _),y1.dn,y1.bad,y1.th⟩,rfl,y4,v2,rfl,ok⟩,rfl⟩
   ·have hd:d=true:=hd
    subst hd
    have e1:dG s g=JM s:=by
     unfold dG
     rw [hp]
     dsimp only
     rw [hq]
    rw [e1] at hK2
    rw [y4]
    exact .inl (.inl ⟨_,#[],#[],rfl,cs.NX (Pq cs.toU8 ⟨rfl,y1.o.nx,rfl⟩ y1.dn y1.bad hK2)⟩)
 | zL hs=>
  rw [hp] at hx o1
  obtain ⟨y1,rfl,y3,y4,v',y5,y6⟩ :=hx
  have o1:Gv hs∧∀s∈hs,s.nx=.again→s.i<s.es.length:=o1
  have hN:=cs.wJ (g:=g) hZ hg y6 o1.1 o1.2
  have tM:Il (fP hs g):=s0 o1.1
  refine px y1.th y1.o c hB (fun h1 F1 K c1 hB1 hK=>?_) hR
  rw [y3]
  cases hq:fP hs g with
  | mk hs' q=>
   obtain ⟨a',d⟩ :=q
   rw [hq] at hN tM
   refine .inl (.inl ⟨_,#[],#[],rfl,cs.Oc (zw (W:=aG []) (V:=fun B W v=>W=aG []∧B2 I B hs' v) (a:=a') (d:=d) cs.toU8 hB1 y1.o y5 cs.mt c1 (fun h2 F2 K2 c2 hB2 hK2=>?_) (fun hd v2 W2 M ok=>?_) (fun hd v2 W2 M h2 K2 b2 ok hK2=>?_) hK)⟩)
   ·exact hN h2 K2 (hB2 _ (.refl _ _)) fun v2 M h3 c3 ok=>hK2 v2 (aG []) M h3 (c2.aE c3) ⟨rfl,ok⟩
   ·have hd:d=false:=hd
    subst hd
    have e1:dG s g=({s with ph:=.zL hs'},a',false):=by
     unfold dG
     rw [hp]
     dsimp only
     rw [hq]
    rw [e1]
    exact ⟨⟨⟨⟨⟨⟨rfl,rfl,y1.o.bh⟩,y1.du,y1.e.le (Bs.aR _ _),y1.dn,y1.bad,y1.th⟩,y1.who,y1.at'⟩,y1.seq,y1.i⟩,ok.1,rfl,y4,v2,rfl,ok.2⟩,rfl⟩
   ·have hd:d=true:=hd
    subst hd
    obtain ⟨t,ht,hte⟩ :=tM rfl
    dsimp only at ht
    subst ht
    have e1:dG s g=EG {s with done:=decide (t.dN=1)}:=by
     unfold dG
     rw [hp]
     dsimp only
     rw [hq]
    rw [e1] at hK2
    rw [y4]
    exact .inl (.inl ⟨_,#[],#[],rfl,cs.KW (Nm cs.toU8 b2 (hZ.le (Bs.aR _ _)) ⟨⟨⟨⟨rfl,y1.o.nx,rfl⟩,y1.du,y1.e.le (Bs.aR _ _),y1.dn,y1.bad,y1.th⟩,y1.who,y1.at'⟩,y1.seq,y1.i⟩ o2 rfl ok.2 hte hK2)⟩)
end
end Go.En
namespace Go.En
variable {S:Sys} {I:aZ} {h h0 h':Hp} {F F0:Fp} {R:Value→Hp→Prop} {L:List bQ} {B B':Bs}
structure Kq (es:List Et):Prop where
 UW:lR es=0
 len:es.length≤10
 Qb:∀(i:Nat) (a b:Et),es[i]?=some a→es[i+1]?=some b→a.at'<b.at'
 may:∀e∈es,qD e.at'=true
 old:∀e∈es,Ww e.old
theorem H6 {a:Int} (h:qD a=true):0≤a∧a≤1000:=by
 have:=of_decide_eq_true h
 omega
def VK (I:aZ) (du:Bool) (e:SH):Bc:=⟨du,e,0,0,0,0,.nilIface,false,0,false,sU I.jZ,.nilFunc⟩
section
variable {v:Value} {es:List Et} {g:iM} {du:Bool}
theorem OH (cs:Tq S I) (hZ:Zs h) (hs:Sl EE h v es) (ok:Kq es) (hR:∀h',Gr h h'→R (.int .i64 0) h'):vk S I vL v h R:=by
 have hlen:=ok.len
 unfold vk
 have c:=Cx.aA h
 refine c.v3 fun l2_ _ c=>?_
 refine c.rl 0 ?_
 refine cs.check _ _ (hZ.gr c.gr) fun _ g=>?_
 have c:=c.more g
 refine vx (v:=.bool false) rfl<|bD<|cs.Gm (hs.gr c.gr) ok.old (by omega) fun _ g=>?_
 have c:=c.more g
 rw [ok.UW]
 refine vx (v:=.bool false) rfl<|bD<|vx (hs.gr c.gr).ln<|vx (sf (by omega))<|bD<|xN.by (fun (i:Nat) z h'=>z=.int .i64 ((i+1:Nat):Int)∧Cx (fun _=>False) h h' [rV l2_ [.int .i64 3,.int .i64 6,.int .i64 4]]) (fun i=>es.length - i) 0 ⟨rfl,c⟩ ?_
 rintro i _ h4 ⟨rfl,c⟩ again hagain
 refine vx (hs.gr c.gr).ln<|vx cH<|pC (fun e23=>?_) fun e23=>?_
 ·refine vx (v:=.int .i64 i) ((nj ⟨by omega,by omega⟩).trans (congrArg (fun z=>some (Value.int .i64 z)) (by omega))) ?_
  have h1:=List.getElem?_eq_getElem (l:=es) (i:=i) (by omega)
  have h2:=List.getElem?_eq_getElem (l:=es) (i:=i+1) (by omega)
  have hlt:=ok.Qb i _ _ h1 h2
  generalize es[i]=a at h1 hlt
  generalize es[i+1]=b at h2 hlt
  refine (hs.gr c.gr).A4 (j:=0) rfl h1 rfl (u:=.int .i64 a.at') rfl ?_
  refine (hs.gr c.gr).A4 (j:=0) rfl h2 rfl (u:=.int .i64 b.at') rfl ?_
  exact vx (o8 (Int.not_le.2 hlt))<|bD<|vx (inc (by omega))<|hagain (i+1) _ _ ⟨rfl,c⟩ (by omega)
 ·refine vx (hs.gr c.gr).ln<|xN.by (fun (i:Nat) z h'=>z=.int .i64 i∧i≤es.length∧Cx (fun _=>False) h h' [rV l2_ [.int .i64 3,.int .i64 6,.int .i64 4]]) (fun i=>es.length - i) 0 ⟨rfl,Nat.zero_le _,c⟩ ?_
  rintro j _ h5 ⟨rfl,hj,c⟩ again hagain
  refine vx cH<|pC (fun e41=>?_) fun e41=>?_
  ·have h1:=List.getElem?_eq_getElem (l:=es) (i:=j) (by omega)
   have hm:=ok.may _ (List.mem_of_getElem? h1)
   generalize es[j]=a at h1 hm
   obtain ⟨aa,⟨av,aq,ar⟩,an,ab⟩ :=a
   refine (hs.gr c.gr).whole rfl h1 rfl ?_
   refine c.v6 fun _ _ c=>?_
   refine c.w6 1 fun _ c=>?_
   refine c.rl 0 ?_
   refine aD<|c.rc 1 ?_
   refine cs.LQ (a:=aa) (by have:=H6 hm; dsimp only at this; omega) _ _ (hZ.gr c.gr) fun _ g=>?_
   have c:=c.more g
   rw [show qD aa=true from hm]
   exact vx (v:=.bool false) (rfl)<|bD<|vx (inc (by omega))<|hagain (j+1) _ _ ⟨rfl,by omega,c.pick [0]⟩ (by omega)
  ·refine aD<|c.rc 0 ?_
   exact vx (m6 (by decide))<|bD<|hR _ c.gr
theorem Tw (cs:Tq S I) (hZ:Zs h) (hs:Sl EE h v es) (ok:Kq es) (hw:∀h R,Zs h→Sl EE h v es→(∀h',Gr h h'→R (.int .i64 0) h')→S.C I.sJ [vL,v] h R)
  (hR:∀e h',Cx (fun _=>False) h h' [dA EE (aX e) es]→R (.tuple #[.iface I.aH (se (VK I du e)),.int .i64 0]) h'):yq S I vL (.bool du) v h R:=by
 have hlen:=ok.len
 unfold yq
 have c:=Cx.aA h
 refine c.v3 fun _ _ c=>?_
 refine c.rl 0 ?_
 refine hw _ _ (hZ.gr c.gr) (hs.gr c.gr) fun _ g=>?_
 have c:=c.more g
 refine vx (v:=.bool false) rfl<|bD<|c.Jc EE fun TJ _ c=>?_
 replace c:=c.n2
 refine c.ap 1 rfl (hs.gr c.gr) rfl rfl (by simp only [List.length_nil]; omega) (by simp only [List.length_nil]; omega) fun v18 _ c=>?_
 obtain ⟨e,rfl⟩ :=(c.sl (i:=1) rfl).vO
 replace c:=c.n2
 refine c.rl 0 ?_
 exact vx (aL (ds:=[_,_,_,_,_,_,_,_,_,_,_,_,_,_,_]) rfl)<|vx rfl<|hR e _ (c.pick [1])
theorem L1 (cs:Tq S I) (b0:B.p h) (hZ:On B Zs) {e:SH} (he:On B fun h=>Sl EE h (aX e) es)
  (hR:CE I.aH AU h B (fun B W v=>Su I B W v (Ba du es)) ⟨5,lP,W0,W0⟩ false R):gU S I (se (VK I du e)) (k6 g) h R:=by
 have c:Cx AU h h [aG []]:=FI
 refine px (x:=VK I du e) (out:=(Ba du es,⟨5,lP,W0,W0⟩,false)) rfl ⟨rfl,rfl,rfl⟩ c (fun h' g=>B.up b0 g) (fun h1 F1 K c1 hB1 hK=>?_) hR
 exact .inl (.inl ⟨_,#[],#[],rfl,cs.Ti (Sf (s:=Ba du es) cs (hB1 _ (.refl _ _)) hZ ⟨⟨rfl,rfl,rfl⟩,rfl,he,rfl,rfl,rfl⟩ rfl rfl (hK.SE c1 rfl))⟩)
theorem MP {W:bQ} {s:Bk} (hv:Su I B W v s) (hp:s.ph=.over) (hR:∀h',Gr h h'→R (.tuple #[.bool s.done,.int .i64 s.bad,.bool true]) h'):nh S I (.iface I.aH v) h R:=by
 obtain ⟨x,rfl,hx⟩ :=hv
 rw [hp] at hx
 obtain ⟨_,h1,h2,h3,hi,hx,hb⟩ :=hx
 obtain ⟨du,e,who,seq,atv,i,pB,dn,bad,th,nx,bh⟩ :=x
 dsimp only at h1 h2 h3 hi hx hb
 subst h1
 rw [←h2,←h3] at hR
 unfold nh
 have c:=Cx.aA h
 refine vx (v:=.tuple #[se ⟨du,e,who,seq,atv,i,pB,dn,bad,true,nx,bh⟩,.bool true]) (by simp [C3])<|vx rfl<|vx rfl<|c.qW fun _ _ c=>?_
 refine c.WO 0 fun _ c=>?_
 refine .here<|vx (v:=.bool false) (rfl)<|bD<|aD<|c.rc 0 ?_
 refine vx rfl<|bD<|aD<|c.rc 0 ?_
 refine aD<|c.rc 0 ?_
 exact hR _ c.gr
theorem H5 {t:TypeId} (hne:¬t=I.aH) (hR:∀h',Gr h h'→R (.tuple #[.bool false,.int .i64 0,.bool false]) h'):nh S I (.iface t v) h R:=by
 unfold nh
 have c:=Cx.aA h
 refine vx (v:=.tuple #[.agg lS,.bool false]) (by simp [C3,hne])<|vx rfl<|vx rfl<|c.qW fun _ _ c=>?_
 refine c.WO 0 fun _ c=>?_
 exact .here<|vx (v:=.bool true) (rfl)<|eR<|eR<|hR _ c.gr
end
end Go.En
namespace Go.En
variable {S:Sys} {I:aZ} {h h0 h':Hp} {F F0:Fp} {R:Value→Hp→Prop} {L:List bQ} {B B':Bs}
abbrev WE (x:Ac):List Value:=[.int .i64 x.op,.int .i64 x.at',.int .i64 x.old.v,.int .u32 x.old.dN,.int .u32 x.old.ref,.int .i64 x.new.v,.int .u32 x.new.dN,.int .u32 x.new.ref]
theorem RR (x:Ac) (v:Value) (h:v∈WE x):v.oneCell'=true:=by
 simp only [List.mem_cons,List.not_mem_nil,or_false] at h
 rcases h with rfl | rfl | rfl | rfl | rfl | rfl | rfl | rfl <;> rfl
def D3:qd Ac:={n:=8,c:=fun x=>WE x,len:=fun _=>rfl,one:=RR}
structure Sc where
 t:Int
 seq:Int
 du:Bool
 e:SH
 nx:Value
 ov:Bool
 ok:Bool
abbrev HD (x:Sc):List Value:=[.int .i64 3,.int .i64 6,.int .i64 4,.int .i64 x.t,.int .i64 x.seq,.bool x.du,aX x.e,x.nx,.bool x.ov,.bool x.ok]
abbrev tJ (x:Sc):Value:=.agg ⟨HD x⟩
structure IR (B:Bs) (s:Sw) (x:Sc):Prop where
 t:x.t=s.t
 seq:x.seq=s.seq
 du:x.du=s.fO
 e:On B fun h=>Sl EE h (aX x.e) s.es
 nx:x.nx.oneCell'=true
 ov:x.ov=false
 ok:x.ok=false
theorem IR.le {s:Sw} {x:Sc} (H:IR B s x) (l:B.le B'):IR B' s x:=⟨H.t,H.seq,H.du,H.e.le l,H.nx,H.ov,H.ok⟩
abbrev uw (f r q:Nat):Value:=.func (.func f) #[] #[cA r,cA q]
def O3 (I:aZ) (B:Bs) (hs:List Hs) (thn k:Value):Prop:=∃ri rt v',thn=uw I.dZ ri rt∧Fr B ri [.iface I.aB v']∧B2 I B hs v'∧Fr B rt [k]
def Qe (I:aZ) (B:Bs) (l:List Ac) (thn k:Value):Prop:=∃rl rt u a,thn=uw I.fV rl rt∧Fr B rl [aX u]∧(On B fun h=>Sl D3 h (aX u) (a::l))∧Fr B rt [k]
def S0 (I:aZ) (B:Bs) (s:Sw) (thn:Value):SP→Prop
 | .last hs=>O3 I B hs thn (sU I.iL)
 | .own hs=>O3 I B hs thn (sU I.kA)
 | .Dw l=>Qe I B l thn (sU I.lV)
 | .EV=>thn=sU I.uu
 | .ES w hs=>∃rw,O3 I B hs thn (pT I.uM rw)∧Fr B rw (cW w)
 | .FR=>thn=sU I.tu
 | .FH=>∃re,thn=pT I.ve re∧Fr B re (cE (sE s))
 | .send l ok=>Qe I B l thn (sU (if ok then I.tq else I.vg))
 | .uI=>False
 | .over _=>False
def R6 (I:aZ) (B:Bs) (s:Sw) (v:Value):Prop:=∃x r1 r2 y thn,v=tJ x∧IR B s x∧x.nx=uw I.dV r1 r2∧Fr B r1 [thn]∧Fr B r2 (HD y)∧IR B s y∧S0 I B s thn s.ph
def SwX (I:aZ) (B:Bs) (s:Sw) (v:Value):SP→Prop
 | .uI=>∃x y,v=tJ x∧IR B s x∧x.nx=.func (.func I.bZ) #[tJ y] #[]∧IR B s y
 | .over ok=>∃x,v=tJ x∧x.ov=true∧x.ok=ok∧x.nx.oneCell'=true
 | _=>R6 I B s v
def Jg (I:aZ) (B:Bs) (v:Value) (s:Sw):Prop:=SwX I B s v s.ph
theorem O3.le {hs:List Hs} {thn k:Value} (l:B.le B'):O3 I B hs thn k→O3 I B' hs thn k:=fun ⟨ri,rt,v',a,b,c,d⟩ =>⟨ri,rt,v',a,b.le l,c.le l,d.le l⟩
theorem Qe.le {ls:List Ac} {thn k:Value} (l:B.le B'):Qe I B ls thn k→Qe I B' ls thn k:=fun ⟨rl,rt,u,a,b,c,d,e⟩ =>⟨rl,rt,u,a,b,c.le l,d.le l,e.le l⟩
theorem S0.le {s:Sw} {thn:Value} (l:B.le B'):∀{p:SP},S0 I B s thn p→S0 I B' s thn p
 | .last _,H=>O3.le l H
 | .own _,H=>O3.le l H
 | .Dw _,H=>Qe.le l H
 | .EV,H=>H
 | .ES _ _,⟨rw,a,b⟩ =>⟨rw,a.le l,b.le l⟩
 | .FR,H=>H
 | .FH,⟨re,a,b⟩ =>⟨re,a,b.le l⟩
 | .send _ _,H=>Qe.le l H
theorem R6.le {s:Sw} {v:Value} (l:B.le B'):R6 I B s v→R6 I B' s v:=fun ⟨x,r1,r2,y,thn,a,b,c,d,e,f,g⟩ =>⟨x,r1,r2,y,thn,a,b.le l,c,d.le l,e.le l,f.le l,g.le l⟩
theorem Jg.le {s:Sw} {v:Value} (l:B.le B') (H:Jg I B v s):Jg I B' v s:=by
 unfold Jg at *
 cases hp:s.ph <;> rw [hp] at H
 case uI=>obtain ⟨x,y,a,b,c,d⟩ :=H; exact ⟨x,y,a,b.le l,c,d.le l⟩
 case over ok=>exact H
 all_goals exact R6.le l H
def Hv (I:aZ) (h:Hp) (B:Bs) (out:SR) (R:Value→Hp→Prop):Prop:=∀v',Rt B h (fun B=>Jg I B v' out.1) fun h'=>R (.tuple #[.iface I.aY v',nJ out.2.1,.bool out.2.2]) h'
structure CvA (S:Sys) (I:aZ):Prop extends Tq S I where
 U7:I.mt I.aY "Next"=some I.pH
 Xa:∀{x y z:Value} {h R},sx S I x y z h R→S.C I.dV [x,y,z] h R
section
variable {x:Sc} {n:Value} {a:Ac} {z:Int} {g:iM} {es:List Et} {s:Sw} {b:Bool}
theorem WG (hx:x.nx.oneCell'=true) (hn:n.oneCell'=true) (hR:∀r1 r2 h',Cx (fun _=>False) h h' [rV r1 [n],rV r2 (HD x)]→R (.tuple #[.iface I.aY (tJ {x with nx:=uw I.dV r1 r2}),nJ a,.bool false]) h'):ug S I (tJ x) (nJ a) n h R:=by
 obtain ⟨t,seq,du,e,nx,ov,ok⟩ :=x
 dsimp only at hx
 have hnc:n.cells.toList=[n]:=jD hn
 unfold ug
 have c:=Cx.aA h
 refine c.v10 fun _ _ c=>?_
 refine c.v8 fun _ _ c=>?_
 refine c.nv (cs:=[n]) hnc (Ea hn) fun _ _ c=>?_
 replace c:=c.n3
 refine c.v8 fun _ _ c=>?_
 refine c.rl 0 ?_
 refine c.v10 fun _ _ c=>?_
 refine c.Xd 4 fun _ c=>?_
 refine vx rfl<|aD<|c.T6 0 fun _ c=>?_
 refine c.rl 0 ?_
 refine vx rfl<|c.rl 1 ?_
 refine c.w8 3 fun _ c=>?_
 refine c.rl 3 ?_
 exact hR _ _ _ (c.pick [2,4])
theorem Rd (hx:x.nx.oneCell'=true) (hR:∀h',Gr h h'→R (.tuple #[.iface I.aY (tJ {x with nx:=.nilFunc,ov:=true,ok:=b}),nJ mL,.bool true]) h'):tn S I (tJ x) (.bool b) h R:=by
 obtain ⟨t,seq,du,e,nx,ov,ok⟩ :=x
 dsimp only at hx
 unfold tn
 have c:=Cx.aA h
 refine c.v10 fun _ _ c=>?_
 refine c.v8 fun _ _ c=>?_
 refine aD<|c.T6 0 fun _ c=>?_
 refine aD<|c.T6 0 fun _ c=>?_
 refine aD<|c.T6 0 fun _ c=>?_
 refine c.rl 0 ?_
 refine vx rfl<|vx (aL (ds:=[_,_,_,_,_,_,_,_]) rfl)<|c.w8 1 fun _ c=>?_
 refine c.rl 1 ?_
 exact hR _ c.gr
theorem Q1 (cs:Tq S I) (Z:Zs h) (hx:x.nx.oneCell'=true) (ht : -1000≤x.t∧x.t≤1000) (hR:∀h',Gr h h'→R (.int .i64 (m5 x.t)) h'):sy S I (tJ x) h R:=by
 obtain ⟨t,seq,du,e,nx,ov,ok⟩ :=x
 dsimp only at hx ht
 unfold sy
 have c:=Cx.aA h
 refine c.v10 fun _ _ c=>?_
 refine aD<|vx (c.vp (i:=0) (ds:=[_,_,_]) rfl rfl rfl)<|aD<|c.rc 0 ?_
 refine cs.DZ ht _ _ (Z.gr c.gr) fun _ g=>?_
 have c:=c.more g
 exact hR _ c.gr
def yL (du:Bool) (l:List Int):List Ac:=if du=true then l.map (fun p=>⟨7,p,W0,W0⟩)++[⟨8,0,W0,W0⟩] else []
theorem Rc {v:Value} {ls:List Int} (hx:x.nx.oneCell'=true) (hv:Sl yh h v ls) (hl:ls.length≤1000) (hR:∀u h',Cx (fun _=>False) h h' [dA D3 (aX u) (yL x.du ls)]→R (aX u) h'):pM S I (tJ x) v h R:=by
 obtain ⟨t,seq,du,e,nx,ov,ok⟩ :=x
 dsimp only at hx hR
 cases du with
 | false=>
  unfold pM
  have c:=Cx.aA h
  refine c.v10 fun _ _ c=>?_
  refine aD<|c.rc 0 ?_
  exact vx (v:=.bool true) (rfl)<|eR<|hR (none,0,0) _ ((c.nil D3).pick [1])
 | true=>
  unfold pM
  have c:=Cx.aA h
  refine c.v10 fun c2_ _ c=>?_
  refine aD<|c.rc 0 ?_
  refine vx (v:=.bool false) (rfl)<|bD<|vx (hv.gr c.gr).ln<|Az.by (fun (i:Nat) u v h'=>v=.int .i64 i∧i≤ls.length∧Cx (fun _=>False) h h' [rV c2_ [_,_,_,_,_,_,_,_,_,_],dA D3 u ((ls.take i).map fun p=>⟨7,p,W0,W0⟩)]) (fun i=>ls.length - i) 0 ⟨rfl,Nat.zero_le _,c.nil D3⟩ ?_
  rintro i u _ h2 ⟨rfl,hi,c⟩ again hagain
  replace c:=c.n2
  refine vx cH<|pC (fun e14=>?_) fun e14=>?_
  ·have h1:=List.getElem?_eq_getElem (l:=ls) (i:=i) (by omega)
   have ht1:ls.take (i+1)=ls.take i++[ls[i]'(by omega)]:=by rw [List.take_add_one,h1]; rfl
   generalize ls[i]'(by omega)=p at h1 ht1
   refine (hv.gr c.gr).one rfl h1 rfl (u:=.int .i64 p) rfl ?_
   refine vx (aL (ds:=[_,_,_,_,_,_,_,_]) rfl)<|c.jE D3 ⟨7,p,W0,W0⟩ rfl rfl fun v20 _ c=>?_
   replace c:=c.n3
   refine c.ap 1 rfl (c.sl (i:=2) rfl).sl rfl rfl (by simp only [List.length_map,List.length_take,List.length_singleton]; omega) (by simp only [List.length_map,List.length_take,List.length_singleton]; omega) fun iK _ c=>?_
   replace c:=c.n3
   refine vx (inc (by omega))<|hagain (i+1) _ _ _ ⟨rfl,by omega,?_⟩ (by omega)
   rw [ht1,List.map_append]
   exact c.pick [0,1]
  ·refine vx (aL (ds:=[_,_,_,_,_,_,_,_]) rfl) ?_
   obtain rfl:i=ls.length:=by omega
   rw [List.take_length] at c
   refine c.jE D3 ⟨8,0,W0,W0⟩ rfl rfl fun v25 _ c=>?_
   replace c:=c.n3
   refine c.ap 1 rfl (c.sl (i:=2) rfl).sl rfl rfl (by simp only [List.length_map,List.length_singleton]; omega) (by simp only [List.length_map,List.length_singleton]; omega) fun v26 _ c=>?_
   obtain ⟨u2,rfl⟩ :=(c.sl (i:=1) rfl).vO
   replace c:=c.n3
   exact hR u2 _ (c.pick [1])
end
end Go.En
namespace Go.En
variable {S:Sys} {I:aZ} {h h0 h':Hp} {F F0:Fp} {R:Value→Hp→Prop} {L:List bQ} {B B':Bs}
structure V8 (S:Sys) (I:aZ):Prop extends CvA S I where
 sdo:∀{x:Sc} {n:Value} {a:Ac} {h} {R:Value→Hp→Prop},x.nx.oneCell'=true→n.oneCell'=true→(∀r1 r2 h',Cx (fun _=>False) h h' [rV r1 [n],rV r2 (HD x)]→R (.tuple #[.iface I.aY (tJ {x with nx:=uw I.dV r1 r2}),nJ a,.bool false]) h')→S.C I.pr [tJ x,nJ a,n] h R
 PI:∀{x:Sc} {b:Bool} {h} {R:Value→Hp→Prop},x.nx.oneCell'=true→(∀h',Gr h h'→R (.tuple #[.iface I.aY (tJ {x with nx:=.nilFunc,ov:=true,ok:=b}),nJ mL,.bool true]) h')→S.C I.lX [tJ x,.bool b] h R
 PD:∀{x:Sc} {h} {R:Value→Hp→Prop},Zs h→x.nx.oneCell'=true→-1000≤x.t∧x.t≤1000→(∀h',Gr h h'→R (.int .i64 (m5 x.t)) h')→S.C I.nf [tJ x] h R
 Dd:∀{x:Sc} {v:Value} {ls:List Int} {h} {R:Value→Hp→Prop},x.nx.oneCell'=true→Sl yh h v ls→ls.length≤1000→(∀u h',Cx (fun _=>False) h h' [dA D3 (aX u) (yL x.du ls)]→R (aX u) h')→S.C I.eT [tJ x,v] h R
 Ux:∀{x y z:Value} {h R},nM S I x y z h R→S.C I.nO [x,y,z] h R
 SS:∀{x y z w:Value} {h R},rM S I x y z w h R→S.C I.fV [x,y,z,w] h R
 B4:∀{x y z w:Value} {h R},lm S I x y z w h R→S.C I.jG [x,y,z,w] h R
 IG:∀{x y z w:Value} {h R},pj S I x y z w h R→S.C I.dZ [x,y,z,w] h R
theorem Fr.lc {r o:Nat} {cs:List Value} {u:Value} (H:Fr B r cs) (b:B.p h) (hu:cs[o]?=some u):dU (.pointer (some ⟨r,o,none⟩)) h=some u:=let ⟨_,p⟩ :=H h b; rV.lc p hu
section
variable {x:Sc} {n k:Value} {a:Ac} {z:Int} {g:iM} {es:List Et} {s:Sw} {b:Bool} {out:SR}
theorem PF (cs:V8 S I) (b0:B.p h) (hx:IR B s x) (hk:k.oneCell'=true) {u:SH} {l:List Ac} (hl:On B fun h=>Sl D3 h (aX u) l) {p:List Ac→SP}
  (hp:∀B' thn r,Qe I B' r thn k→S0 I B' {s with ph:=p r} thn (p r)) (hsx:∀r B' v,R6 I B' {s with ph:=p r} v→Jg I B' v {s with ph:=p r})
  (hnil:l=[]→∀h1 K,Gr h h1→Hv I h1 B out K→Cw S.C S.Y I.mt k [tJ x] h1 K) (hcons:∀a r,l=a::r→out=({s with ph:=p r},a,false))
  (hR:Hv I h B out R):nM S I (tJ x) (aX u) k h R:=by
 obtain ⟨t,seq,du,e,nx,ov,ok⟩ :=x
 have hx':=hx
 obtain ⟨h1,h2,h3,h4,hn,h6,h7⟩ :=hx
 dsimp only at hn h1 h2 h3 h4 h6 h7
 have hkc:k.cells.toList=[k]:=jD hk
 cases l with
 | nil=>
  unfold nM
  have c:=Cx.aA h
  refine c.v10 fun _ _ c=>?_
  refine c.v1 fun _ _ c=>?_
  refine c.nv (cs:=[k]) hkc (Ea hk) fun _ _ c=>?_
  replace c:=c.n3
  refine c.v8 fun _ _ c=>?_
  refine c.rc 1 ?_
  refine vx ((hl _ (B.up b0 c.gr)).ln)<|vx (qu rfl)<|eR<|c.rc 2 ?_
  refine c.rl 0 ?_
  refine hnil rfl _ _ c.gr fun v' M _ d ok2=>?_
  have c:=c.aE d
  replace c:=c.n5
  refine c.t8 3 fun _ c=>?_
  exact hR v' M _ (c.pick [4]) ok2
 | cons a r=>
  have e1:=hcons a r rfl
  subst e1
  unfold nM
  have c:=Cx.aA h
  refine c.v10 fun _ _ c=>?_
  refine c.v1 fun l4_ _ c=>?_
  refine c.nv (cs:=[k]) hkc (Ea hk) fun then5_ _ c=>?_
  replace c:=c.n3
  refine c.v8 fun _ _ c=>?_
  refine c.rc 1 ?_
  refine vx ((hl _ (B.up b0 c.gr)).ln)<|vx (m6 (by simp only [List.length_cons]; omega))<|bD<|c.rl 0 ?_
  refine c.rc 1 ?_
  refine (hl _ (B.up b0 c.gr)).whole rfl (i:=0) (x:=a) rfl rfl ?_
  refine vx rfl<|cs.sdo (x:=⟨t,seq,du,e,nx,ov,ok⟩) (a:=a) hn rfl fun r1 r2 _ d=>?_
  have c:=c.aE d
  replace c:=c.n6
  refine c.t8 3 fun _ c=>?_
  have c:=Cx.pack (L:=[]) (c.pick [4,5,1,2])
  refine hR _ [rV r1 [uw I.fV l4_ then5_],rV r2 (HD ⟨t,seq,du,e,nx,ov,ok⟩),rV l4_ [aX u],rV then5_ [k]] _ c (hsx r _ _ ?_)
  have hx2:=hx'.le (Bs.aR B [rV r1 [uw I.fV l4_ then5_],rV r2 (HD ⟨t,seq,du,e,nx,ov,ok⟩),rV l4_ [aX u],rV then5_ [k]])
  exact ⟨⟨t,seq,du,e,uw I.dV r1 r2,ov,ok⟩,r1,r2,⟨t,seq,du,e,nx,ov,ok⟩,_,rfl,⟨hx2.t,hx2.seq,hx2.du,hx2.e,rfl,hx2.ov,hx2.ok⟩,rfl,Fr.of (i:=0) rfl,Fr.of (i:=1) rfl,⟨hx2.t,hx2.seq,hx2.du,hx2.e,hx2.nx,hx2.ov,hx2.ok⟩,hp _ _ _ ⟨l4_,then5_,u,a,rfl,Fr.of (i:=2) rfl,hl.le (Bs.aR _ _),Fr.of (i:=3) rfl⟩⟩
theorem QE (cs:V8 S I) (b0:B.p h) (hx:IR B s x) (hk:k.oneCell'=true) {l:List Ac} {thn:Value} (ht:Qe I B l thn k) {p:List Ac→SP}
  (hp:∀B' thn r,Qe I B' r thn k→S0 I B' {s with ph:=p r} thn (p r)) (hsx:∀r B' v,R6 I B' {s with ph:=p r} v→Jg I B' v {s with ph:=p r})
  (hnil:l=[]→∀h1 K,Gr h h1→Hv I h1 B out K→Cw S.C S.Y I.mt k [tJ x] h1 K) (hcons:∀a r,l=a::r→out=({s with ph:=p r},a,false))
  (hR:Hv I h B out R):Cw S.C S.Y I.mt thn [tJ x,k6 g] h R:=by
 obtain ⟨rl,rt,u,a,rfl,f1,f2,f3⟩ :=ht
 refine .inl (.inl ⟨I.fV,#[],#[cA rl,cA rt],rfl,cs.SS ?_⟩)
 obtain ⟨t,seq,du,e,nx,ov,ok⟩ :=x
 have hx':=hx
 obtain ⟨h1,h2,h3,h4,hn,h6,h7⟩ :=hx
 dsimp only at hn
 obtain ⟨⟨gv,gq,gr⟩,gk⟩ :=g
 have sub:=fun h' b'=>(f2 h' b').sub (n:=8) rfl (lo:=some (.int .i64 1)) (hi:=none) (l:=1) (u:=(a::l).length) (.inr ⟨_,_,rfl,rfl⟩) (.inl ⟨rfl,rfl⟩) (by simp only [List.length_cons]; omega) (Nat.le_refl _)
 obtain ⟨w,ew,Hw,_⟩ :=sub h b0
 obtain ⟨u2,rfl⟩:∃u2:SH,w=aX u2:=by
  obtain ⟨a2,cap,e2,_⟩ :=Hw
  exact ⟨(a2,_,cap),e2⟩
 have hu:On B fun h=>Sl D3 h (aX u2) l:=fun h' b'=>by
  obtain ⟨w',ew',Hw',_⟩ :=sub h' b'
  rw [List.take_length] at Hw'
  rw [ew] at ew'
  injection ew' with ew'
  rw [ew']; exact Hw'
 unfold rM
 have c:=Cx.aA h
 refine c.v10 fun _ _ c=>?_
 refine c.v4 fun _ _ c=>?_
 refine c.v8 fun _ _ c=>?_
 refine c.rl 0 ?_
 refine vx (f1.lc (B.up b0 c.gr) (o:=0) rfl)<|vx ew<|vx (f3.lc (B.up b0 c.gr) (o:=0) rfl)<|cs.Ux (PF (x:=⟨t,seq,du,e,nx,ov,ok⟩) cs (B.up b0 c.gr) hx' hk hu hp hsx (fun e h1 K g hK=>hnil e h1 K (Gr.trans c.gr g) hK) hcons fun v' M _ d ok2=>?_)
 have c:=c.aE d
 replace c:=c.n4
 refine c.t8 2 fun _ c=>?_
 exact hR v' M _ (c.pick [3]) ok2
theorem zu (cs:V8 S I) (b0:B.p h) (hx:IR B s x) (hk:k.oneCell'=true) {v:Value} {ho:List Hs × Ac × Bool} (hN:Oy S I B v g ho) (tM:Il ho) {p:List Hs→SP}
  (hp:∀B' thn hs,B.le B'→O3 I B' hs thn k→S0 I B' {s with ph:=p hs} thn (p hs)) (hsx:∀hs B' v,R6 I B' {s with ph:=p hs} v→Jg I B' v {s with ph:=p hs})
  (hdone:∀t a,ho=([t],a,true)→∀M h1 K,(B.and M).p h1→Hv I h1 (B.and M) out K→Cw S.C S.Y I.mt k [tJ x,.int .i64 t.dN] h1 K) (hmore:∀hs a,ho=(hs,a,false)→out=({s with ph:=p hs},a,false))
  (hR:Hv I h B out R):lm S I (tJ x) (.iface I.aB v) (k6 g) k h R:=by
 obtain ⟨t,seq,du,e,nx,ov,ok⟩ :=x
 have hx':=hx
 obtain ⟨h1,h2,h3,h4,hn,h6,h7⟩ :=hx
 dsimp only at hn
 have hkc:k.cells.toList=[k]:=jD hk
 obtain ⟨⟨gv,gq,gr⟩,gk⟩ :=g
 obtain ⟨hs,a,d⟩ :=ho
 cases d with
 | true=>
  obtain ⟨tt,ht,hte⟩ :=tM rfl
  dsimp only at ht
  subst ht
  unfold lm
  have c:=Cx.aA h
  refine c.v10 fun _ _ c=>?_
  refine c.v1 fun _ _ c=>?_
  refine c.v4 fun _ _ c=>?_
  refine c.nv (cs:=[k]) hkc (Ea hk) fun _ _ c=>?_
  replace c:=c.n4
  refine c.v8 fun _ _ c=>?_
  refine c.rc 1 ?_
  refine c.rl 2 ?_
  refine ⟨_,_,_,rfl,cs.mt,hN _ _ (B.up b0 c.gr) fun v'' M _ dd ok2=>?_⟩
  have c:=c.aE dd
  replace c:=c.n6
  refine vx rfl<|vx rfl<|vx (v:=.bool true) (rfl)<|c.v8 fun _ _ c=>?_
  refine c.w1 1 fun _ c=>?_
  refine c.w8 6 fun _ c=>?_
  refine eR<|c.rc 1 ?_
  refine cs.Bd ok2 hte fun _ g=>?_
  have c:=c.more g
  refine vx rfl<|vx rfl<|c.rc 3 ?_
  refine c.rl 0 ?_
  refine hdone tt a rfl M _ _ ⟨B.up b0 c.gr,c.get (i:=5) rfl⟩ fun v3 N _ d3 ok3=>?_
  have c:=c.aE d3
  replace c:=c.n8
  refine c.t8 4 fun _ c=>?_
  exact hR v3 [aG M,aG N] _ (Cx.pack (L:=[]) (c.pick [5,7])) (Jg.le Bs.MA ok3)
 | false=>
  have e1:=hmore hs a rfl
  subst e1
  unfold lm
  have c:=Cx.aA h
  refine c.v10 fun _ _ c=>?_
  refine c.v1 fun inner5_ _ c=>?_
  refine c.v4 fun _ _ c=>?_
  refine c.nv (cs:=[k]) hkc (Ea hk) fun then7_ _ c=>?_
  replace c:=c.n4
  refine c.v8 fun _ _ c=>?_
  refine c.rc 1 ?_
  refine c.rl 2 ?_
  refine ⟨_,_,_,rfl,cs.mt,hN _ _ (B.up b0 c.gr) fun v'' M _ dd ok2=>?_⟩
  have c:=c.aE dd
  replace c:=c.n6
  refine vx rfl<|vx rfl<|vx (v:=.bool false) (rfl)<|c.v8 fun _ _ c=>?_
  refine c.w1 1 fun _ c=>?_
  refine c.w8 6 fun _ c=>?_
  refine bD<|c.rl 0 ?_
  refine c.rl 6 ?_
  refine vx rfl<|cs.sdo (x:=⟨t,seq,du,e,nx,ov,ok⟩) (a:=a) hn rfl fun r1 r2 _ d=>?_
  have c:=c.aE d
  replace c:=c.n9
  refine c.t8 4 fun _ c=>?_
  have c:=Cx.pack (L:=[]) (c.pick [7,8,1,3,5])
  refine hR _ [rV r1 [uw I.dZ inner5_ then7_],rV r2 (HD ⟨t,seq,du,e,nx,ov,ok⟩),rV inner5_ [.iface I.aB v''],rV then7_ [k],aG M] _ c (hsx hs _ _ ?_)
  have hx2:=hx'.le (Bs.aR B [rV r1 [uw I.dZ inner5_ then7_],rV r2 (HD ⟨t,seq,du,e,nx,ov,ok⟩),rV inner5_ [.iface I.aB v''],rV then7_ [k],aG M])
  exact ⟨⟨t,seq,du,e,uw I.dV r1 r2,ov,ok⟩,r1,r2,⟨t,seq,du,e,nx,ov,ok⟩,_,rfl,⟨hx2.t,hx2.seq,hx2.du,hx2.e,rfl,hx2.ov,hx2.ok⟩,rfl,Fr.of (i:=0) rfl,Fr.of (i:=1) rfl,⟨hx2.t,hx2.seq,hx2.du,hx2.e,hx2.nx,hx2.ov,hx2.ok⟩,hp _ _ _ (Bs.aR _ _) ⟨inner5_,then7_,v'',rfl,Fr.of (i:=2) rfl,B2.le (Bs.Eg (i:=4) rfl) ok2,Fr.of (i:=3) rfl⟩⟩
theorem D5 (cs:V8 S I) (b0:B.p h) (hx:IR B s x) (hk:k.oneCell'=true) {hs:List Hs} {thn:Value} (ht:O3 I B hs thn k) {ho:List Hs × Ac × Bool} (hN:∀v,B2 I B hs v→Oy S I B v g ho) (tM:Il ho) {p:List Hs→SP}
  (hp:∀B' thn hs,B.le B'→O3 I B' hs thn k→S0 I B' {s with ph:=p hs} thn (p hs)) (hsx:∀hs B' v,R6 I B' {s with ph:=p hs} v→Jg I B' v {s with ph:=p hs})
  (hdone:∀t a,ho=([t],a,true)→∀M h1 K,(B.and M).p h1→Hv I h1 (B.and M) out K→Cw S.C S.Y I.mt k [tJ x,.int .i64 t.dN] h1 K) (hmore:∀hs a,ho=(hs,a,false)→out=({s with ph:=p hs},a,false))
  (hR:Hv I h B out R):Cw S.C S.Y I.mt thn [tJ x,k6 g] h R:=by
 obtain ⟨ri,rt,v',rfl,f1,f2,f3⟩ :=ht
 refine .inl (.inl ⟨I.dZ,#[],#[cA ri,cA rt],rfl,cs.IG ?_⟩)
 obtain ⟨t,seq,du,e,nx,ov,ok⟩ :=x
 have hx':=hx
 obtain ⟨h1,h2,h3,h4,hn,h6,h7⟩ :=hx
 dsimp only at hn
 obtain ⟨⟨gv,gq,gr⟩,gk⟩ :=g
 unfold pj
 have c:=Cx.aA h
 refine c.v10 fun _ _ c=>?_
 refine c.v4 fun _ _ c=>?_
 refine c.v8 fun _ _ c=>?_
 refine c.rl 0 ?_
 refine vx (f1.lc (B.up b0 c.gr) (o:=0) rfl)<|c.rl 1 ?_
 refine vx (f3.lc (B.up b0 c.gr) (o:=0) rfl)<|cs.B4 (zu (x:=⟨t,seq,du,e,nx,ov,ok⟩) (g:=⟨⟨gv,gq,gr⟩,gk⟩) cs (B.up b0 c.gr) hx' hk (hN v' f2) tM hp hsx hdone hmore fun v' M _ d ok2=>?_)
 have c:=c.aE d
 replace c:=c.n4
 refine c.t8 2 fun _ c=>?_
 exact hR v' M _ (c.pick [3]) ok2
end
end Go.En
namespace Go.En
variable {S:Sys} {I:aZ} {h h0 h':Hp} {F F0:Fp} {R:Value→Hp→Prop} {L:List bQ} {B B':Bs}
theorem Z2 (r:Nat):YO 3 3 (cA r) none none none=some (.slice (some ⟨r,0,none⟩) 3 3):=by rfl
theorem Cx.arr {r i:Nat} {a b d:W3} (c:Cx F0 h0 h L) (hi:L[i]?=some (rV r (cW a++cW b++cW d))):Sl EW h (.slice (some ⟨r,0,none⟩) 3 3) [a,b,d]:=by
 obtain ⟨_,v⟩ :=c.rv hi
 refine ⟨some ⟨r,0,none⟩,3,rfl,Nat.le_refl _,(fun e=>by cases e),fun j x hx=>⟨r,0,rfl,fun q u hu=>?_⟩⟩
 have key:(cW a++cW b++cW d)[j*3+q]?=some u:=by
  match j,hx with
  | 0,hx=>
   cases hx
   match q,hu with
   | 0,hu=>exact hu
   | 1,hu=>exact hu
   | 2,hu=>exact hu
   | q+3,hu=>cases hu
  | 1,hx=>
   cases hx
   match q,hu with
   | 0,hu=>exact hu
   | 1,hu=>exact hu
   | 2,hu=>exact hu
   | q+3,hu=>cases hu
  | 2,hx=>
   cases hx
   match q,hu with
   | 0,hu=>exact hu
   | 1,hu=>exact hu
   | 2,hu=>exact hu
   | q+3,hu=>cases hu
  | j+3,hx=>cases hx
 have:=v.row (j*3+q) u key
 show cl h r (0+j*3+q)=some u
 rw [Nat.zero_add] at this⊢
 exact this
theorem C9:∀(l:List W3) (w:W3) (p:Int),kS (l++[w]) p=kS l p++[⟨3,p+l.length,W0,w⟩]
 | [],w,p=>by show [_]=[_]; simp
 | x::l,w,p=>by
  rw [List.cons_append,kS,C9 l w,kS,List.cons_append]
  congr 3
  simp only [List.length_cons]
  congr 1
  omega
theorem IA (a:Int) (n:Nat):gW a (n+1)=gW a n++(if n=0∨(a+1+n) % 8=0 then [a+1+(n:Int)] else []):=by
 unfold gW
 rw [List.range_succ,List.map_append,List.filter_append]
 congr 1
 simp only [List.map_cons,List.map_nil]
 by_cases h:n=0∨(a+1+n) % 8=0
 ·rw [if_pos h,List.filter_cons_of_pos]
  ·rfl
  ·rw [decide_eq_true_eq]; omega
 ·rw [if_neg h,List.filter_cons_of_neg]
  ·rfl
  ·rw [decide_eq_true_eq]; omega
theorem uR:∀(l:List W3) (p:Int),(kS l p).length=l.length
 | [],p=>rfl
 | _::l,p=>by rw [kS,List.length_cons,uR l,List.length_cons]
theorem JU (a:Int) (n:Nat):(gW a n).length≤n:=by
 unfold gW
 refine Nat.le_trans (List.length_filter_le _ _) ?_
 rw [List.length_map,List.length_range]
 exact Nat.le_refl _
theorem FG (d:Bool) (l:List Int):(yL d l).length≤l.length+1:=by
 unfold yL
 split
 ·rw [List.length_append,List.length_map,List.length_singleton]; exact Nat.le_refl _
 ·exact Nat.zero_le _
structure Wm (S:Sys) (I:aZ):Prop extends V8 S I where
 KK:∀{x:Value} {h R},pL S I x h R→S.C I.k0 [x] h R
 Xe:∀{x:Value} {h R},qx S I x h R→S.C I.lV [x] h R
 S8:∀{x y:Value} {h R},ow S I x y h R→S.C I.kA [x,y] h R
section
variable {x:Sc} {n k:Value} {a:Ac} {z:Int} {g:iM} {es:List Et} {s:Sw} {b:Bool} {out:SR}
theorem Q0 (cs:Wm S I) (hx:IR B s x) {dN:Int} (hR:Hv I h B (Na s (decide (dN=1))) R):ow S I (tJ x) (.int .i64 dN) h R:=by
 obtain ⟨t,seq,du,e,nx,ov,ok⟩ :=x
 obtain ⟨h1,h2,h3,h4,hn,h6,h7⟩ :=hx
 dsimp only at hn
 unfold ow
 have c:=Cx.aA h
 refine c.v10 fun _ _ c=>?_
 refine c.v8 fun _ _ c=>?_
 refine c.rl 0 ?_
 refine vx iQ<|cs.PI (x:=⟨t,seq,du,e,nx,ov,ok⟩) hn fun _ g=>?_
 have c:=c.more g
 refine c.t8 1 fun _ c=>?_
 exact (hR _).nil ⟨⟨t,seq,du,e,.nilFunc,true,decide (dN=1)⟩,rfl,rfl,rfl,rfl⟩ c.gr
theorem Uc (cs:Wm S I) (b0:B.p h) (hZ:On B Zs) (hx:IR B s x) (ht:1≤s.t∧s.t≤3) (hq:1≤s.seq∧s.seq≤16777215) (hR:Hv I h B (Rn s) R):qx S I (tJ x) h R:=by
 obtain ⟨t,seq,du,e,nx,ov,ok⟩ :=x
 have hx':=hx
 obtain ⟨h1,h2,h3,h4,hn,h6,h7⟩ :=hx
 dsimp only at hn h1 h2 h3
 subst h1 h2 h3
 have ng:IQ s.t s.seq=true:=decide_eq_true (by omega)
 have hpt:eU s.t s.seq / 16777216=s.t∧eU s.t s.seq % 16777216=s.seq:=by unfold eU; omega
 have hwho:cZ (eU s.t s.seq)=s.t:=by unfold cZ; rw [hpt.1,hpt.2,if_pos ng]
 have hpl:0≤bF s.t:=by
  unfold bF m5
  rw [if_neg (by omega),if_pos (by omega)]
  omega
 have hrf:0≤eU s.t s.seq∧eU s.t s.seq<4294967296:=by unfold eU; omega
 have hnew:∀B',B.le B'→Oy S I B' (nk (cB I (Hs.new (eU s.t s.seq) s.fO) (none,0,0) (none,0,0) .nilIface)) qY ([{Hs.new (eU s.t s.seq) s.fO with nx:=.first}],⟨5,bF s.t,W0,W0⟩,false):=fun B' l=>by
  have:=cs.wJ (B:=B') (g:=qY) (hs:=[Hs.new (eU s.t s.seq) s.fO]) (v:=nk (cB I (Hs.new (eU s.t s.seq) s.fO) (none,0,0) (none,0,0) .nilIface)) (hZ.le l) Tc ⟨_,_,rfl,fun _ _=>Sl.nil,fun _ _=>Sl.nil⟩ ⟨rfl,Nat.zero_le _,by show 0≤bF (cZ (eU s.t s.seq)); rw [hwho]; exact hpl,fun x hx=>(List.not_mem_nil hx).elim,Tc,trivial⟩ fun s hs ha=>by
   obtain rfl:=List.mem_singleton.1 hs
   cases ha
  rw [Ez,hwho] at this
  exact this
 unfold qx
 have c:=Cx.aA h
 refine c.v10 fun _ _ c=>?_
 refine c.v8 fun _ _ c=>?_
 refine aD<|c.rc 0 ?_
 refine aD<|c.rc 0 ?_
 refine cs.ref fun _ g=>?_
 have c:=c.more g
 rw [if_pos ng,if_pos ng]
 refine vx rfl<|vx rfl<|aD<|vx (c.vp (i:=0) (ds:=[_,_,_]) rfl rfl rfl)<|aD<|c.rc 0 ?_
 refine cs.H8 (hZ _ (B.up b0 c.gr)) hrf fun _ g=>?_
 have c:=c.more g
 rw [if_pos ⟨by rw [hwho]; omega,by rw [hwho]; exact hpl⟩]
 refine vx rfl<|vx rfl<|vx (v:=.bool false) rfl<|bD<|c.rl 0 ?_
 refine vx (aL (ds:=[_,_,_,_]) rfl)<|cs.B4 (zu (s:=s) (x:=⟨s.t,s.seq,s.fO,e,nx,ov,ok⟩) (g:=qY) (p:=fun hs=>.own hs) cs.toV8 (B.up b0 c.gr) hx' rfl (hnew B (Bs.le_refl B)) (fun x=>by cases x) (fun _ _ _ _ H=>H) (fun _ _ _ H=>H) (fun _ _ e=>by cases e) (fun hs a e=>by cases e; rfl) fun v' M _ d ok2=>?_)
 have c:=c.aE d
 replace c:=c.n3
 refine c.t8 1 fun _ c=>?_
 exact hR v' M _ (c.pick [2]) ok2
theorem G0 (cs:Wm S I) (b0:B.p h) (hZ:On B Zs) (hx:IR B s x) (ht:1≤s.t∧s.t≤3) (hq:1≤s.seq∧s.seq≤16777215) (hl:s.es.length≤300) (hR:Hv I h B (z6 s) R):pL S I (tJ x) h R:=by
 obtain ⟨t,seq,du,e,nx,ov,ok⟩ :=x
 have hx':=hx
 obtain ⟨h1,h2,h3,h4,hn,h6,h7⟩ :=hx
 dsimp only at hn h1 h2 h3 h4 h6 h7
 subst h1 h2 h3 h6 h7
 have hsl:m5 s.t=104*s.t - 40:=by unfold m5; rw [if_pos (by omega)]
 have hf:(dS s.es).length=1+3*s.es.length:=by
  have:(s.es.flatMap fun e=>[CV e,Cu e,Cg e]).length=3*s.es.length:=by
   induction s.es with
   | nil=>rfl
   | cons e r ih=>rw [List.flatMap_cons,List.length_append,ih]; show 3+_=3*(_+1); omega
  rw [dS,List.length_cons,this]; omega
 generalize hA:m5 s.t=A at hsl
 have k1:=FG s.fO [A]
 rw [List.length_singleton] at k1
 unfold pL
 have c:=Cx.aA h
 refine c.v10 fun c1_ _ c=>?_
 refine c.v8 fun v3_ _ c=>?_
 refine c.rl 0 ?_
 refine cs.PD (x:=⟨s.t,s.seq,s.fO,e,nx,false,false⟩) (hZ _ (B.up b0 c.gr)) hn ⟨by show -1000≤(s.t:Int); omega,by show (s.t:Int)≤1000; omega⟩ fun _ g=>?_
 have c:=c.more g
 rw [show m5 (Sc.t ⟨s.t,s.seq,s.fO,e,nx,false,false⟩)=A from hA]
 refine lq.at (fun v h'=>Cx (fun _=>False) h h' [rV c1_ (HD ⟨s.t,s.seq,s.fO,e,nx,false,false⟩),rV v3_ (WE mL),dA D3 v (⟨4,A,W0,⟨3,s.seq,0⟩⟩::yL s.fO [A])]) ?_ ?_
 ·refine aD<|c.rc 0 ?_
  refine c.rl 0 ?_
  refine ⟨?_,?_⟩
  ·refine cs.status (seq:=s.seq) ⟨by omega,by omega⟩ fun _ g=>?_
   have c:=c.more g
   refine c.al 0 ?_
   refine vx (aL (ds:=[_,_,_,_,_,_,_,_]) rfl)<|⟨?_,?_⟩
   ·refine c.jE D3 ⟨4,A,W0,⟨3,s.seq,0⟩⟩ rfl rfl fun v22 _ c=>?_
    replace c:=c.n3
    refine c.al 0 ?_
    refine c.jE yh A rfl rfl fun v25 _ c=>?_
    replace c:=c.n4
    refine c.al 0 ?_
    refine cs.Dd (x:=⟨s.t,s.seq,s.fO,e,nx,false,false⟩) (ls:=[A]) hn (c.sl (i:=3) rfl).sl (by simp) fun kp _ d=>?_
    have c:=c.aE d
    replace c:=c.n5
    refine c.ap 2 rfl (c.sl (i:=4) rfl).sl rfl rfl (by simp only [List.length_singleton]; omega) (by simp only [List.length_singleton]; omega) fun v27 _ c=>?_
    replace c:=c.n5
    exact c.pick [0,1,2]
   ·refine c.jE yh A rfl rfl fun v25 _ c=>?_
    replace c:=c.n3
    refine c.al 0 ?_
    refine ⟨?_,?_⟩
    ·refine c.jE D3 ⟨4,A,W0,⟨3,s.seq,0⟩⟩ rfl rfl fun v22 _ c=>?_
     replace c:=c.n4
     refine c.al 0 ?_
     refine cs.Dd (x:=⟨s.t,s.seq,s.fO,e,nx,false,false⟩) (ls:=[A]) hn (c.sl (i:=2) rfl).sl (by simp) fun kp _ d=>?_
     have c:=c.aE d
     replace c:=c.n5
     refine c.ap 3 rfl (c.sl (i:=4) rfl).sl rfl rfl (by simp only [List.length_singleton]; omega) (by simp only [List.length_singleton]; omega) fun v27 _ c=>?_
     replace c:=c.n5
     exact c.pick [0,1,3]
    ·refine cs.Dd (x:=⟨s.t,s.seq,s.fO,e,nx,false,false⟩) (ls:=[A]) hn (c.sl (i:=2) rfl).sl (by simp) fun kp _ d=>?_
     have c:=c.aE d
     replace c:=c.n4
     refine c.jE D3 ⟨4,A,W0,⟨3,s.seq,0⟩⟩ rfl rfl fun v22 _ c=>?_
     replace c:=c.n5
     refine c.ap 4 rfl (c.sl (i:=3) rfl).sl rfl rfl (by simp only [List.length_singleton]; omega) (by simp only [List.length_singleton]; omega) fun v27 _ c=>?_
     replace c:=c.n5
     exact c.pick [0,1,4]
  ·refine c.jE yh A rfl rfl fun v25 _ c=>?_
   replace c:=c.n3
   refine c.al 0 ?_
   refine c.ac 0 ?_
   refine cs.status (seq:=s.seq) ⟨by omega,by omega⟩ fun _ g=>?_
   have c:=c.more g
   refine c.al 0 ?_
   refine vx (aL (ds:=[_,_,_,_,_,_,_,_]) rfl)<|⟨?_,?_⟩
   ·refine c.jE D3 ⟨4,A,W0,⟨3,s.seq,0⟩⟩ rfl rfl fun v22 _ c=>?_
    replace c:=c.n4
    refine c.al 0 ?_
    refine cs.Dd (x:=⟨s.t,s.seq,s.fO,e,nx,false,false⟩) (ls:=[A]) hn (c.sl (i:=2) rfl).sl (by simp) fun kp _ d=>?_
    have c:=c.aE d
    replace c:=c.n5
    refine c.ap 3 rfl (c.sl (i:=4) rfl).sl rfl rfl (by simp only [List.length_singleton]; omega) (by simp only [List.length_singleton]; omega) fun v27 _ c=>?_
    replace c:=c.n5
    exact c.pick [0,1,3]
   ·refine cs.Dd (x:=⟨s.t,s.seq,s.fO,e,nx,false,false⟩) (ls:=[A]) hn (c.sl (i:=2) rfl).sl (by simp) fun kp _ d=>?_
    have c:=c.aE d
    replace c:=c.n4
    refine c.jE D3 ⟨4,A,W0,⟨3,s.seq,0⟩⟩ rfl rfl fun v22 _ c=>?_
    replace c:=c.n5
    refine c.ap 4 rfl (c.sl (i:=3) rfl).sl rfl rfl (by simp only [List.length_singleton]; omega) (by simp only [List.length_singleton]; omega) fun v27 _ c=>?_
    replace c:=c.n5
    exact c.pick [0,1,4]
 ·rintro acts6 _ c
  replace c:=c.n3
  refine aD<|c.rc 0 ?_
  refine vx (h4 _ (B.up b0 c.gr)).ln<|vx (aL (ds:=[_,_,_]) rfl)<|c.jE EW ⟨s.es.length,0,0⟩ rfl rfl fun v32 _ c=>?_
  replace c:=c.n4
  refine aD<|c.rc 0 ?_
  refine vx (h4 _ (B.up b0 c.gr)).ln<|Az.by (fun (i:Nat) u v h'=>v=.int .i64 i∧i≤s.es.length∧Cx (fun _=>False) h h' [rV c1_ (HD ⟨s.t,s.seq,s.fO,e,nx,false,false⟩),rV v3_ (WE mL),dA D3 acts6 (⟨4,A,W0,⟨3,s.seq,0⟩⟩::yL s.fO [A]),dA EW u (dS (s.es.take i) |>.tail.cons ⟨s.es.length,0,0⟩)]) (fun i=>s.es.length - i) 0 ⟨rfl,Nat.zero_le _,c⟩ ?_
  rintro i u _ h6 ⟨rfl,hi,c⟩ again hagain
  refine vx cH<|pC (fun e37=>?_) fun e37=>?_
  ·have hx1:=List.getElem?_eq_getElem (l:=s.es) (i:=i) (by omega)
   have ht1:s.es.take (i+1)=s.es.take i++[s.es[i]'(by omega)]:=by rw [List.take_add_one,hx1]; rfl
   generalize s.es[i]'(by omega)=et at hx1 ht1
   obtain ⟨ea,⟨ev,eq,er⟩,ew,eb⟩ :=et
   refine (h4 _ (B.up b0 c.gr)).whole rfl hx1 rfl ?_
   refine c.v6 fun _ _ c=>?_
   refine c.w6 4 fun _ c=>?_
   refine c.rl 4 ?_
   refine cs.pack (e:=⟨ea,⟨ev,eq,er⟩,ew,eb⟩) fun _ g=>?_
   have c:=c.more g
   refine c.v9 fun _ _ c=>?_
   refine c.w9 5 fun _ c=>?_
   refine vx (Z2 _) ?_
   have hlen1:(s.es.take i).length≤300:=by rw [List.length_take]; omega
   have hlf:((dS (s.es.take i)).tail.cons (⟨s.es.length,0,0⟩:W3)).length≤1000:=by
    have:∀l:List Et,(l.flatMap fun e=>[CV e,Cu e,Cg e]).length=3*l.length:=fun l=>by
     induction l with
     | nil=>rfl
     | cons e r ih=>rw [List.flatMap_cons,List.length_append,ih]; show 3+_=3*(_+1); omega
    show ((s.es.take i).flatMap fun e=>[CV e,Cu e,Cg e]).length+1≤1000
    rw [this]; omega
   refine c.ap 3 rfl (c.arr (i:=5) (a:=CV ⟨ea,⟨ev,eq,er⟩,ew,eb⟩) (b:=Cu ⟨ea,⟨ev,eq,er⟩,ew,eb⟩) (d:=Cg ⟨ea,⟨ev,eq,er⟩,ew,eb⟩) rfl) rfl rfl (by simp only [List.length_cons,List.length_nil] at hlf⊢; omega) (by simp only [List.length_cons,List.length_nil] at hlf⊢; omega) fun v44 _ c=>?_
   replace c:=c.n6
   refine vx (inc (by omega))<|hagain (i+1) _ _ _ ⟨rfl,by omega,?_⟩ (by omega)
   have c:=c.pick [0,1,2,3]
   have ee:(dS (s.es.take (i+1))).tail.cons (⟨s.es.length,0,0⟩:W3)=(dS (s.es.take i)).tail.cons ⟨s.es.length,0,0⟩++[CV ⟨ea,⟨ev,eq,er⟩,ew,eb⟩,Cu ⟨ea,⟨ev,eq,er⟩,ew,eb⟩,Cg ⟨ea,⟨ev,eq,er⟩,ew,eb⟩]:=by
    show ⟨s.es.length,0,0⟩::(s.es.take (i+1)).flatMap (fun e=>[CV e,Cu e,Cg e])=⟨s.es.length,0,0⟩::(s.es.take i).flatMap (fun e=>[CV e,Cu e,Cg e])++_
    rw [ht1,List.flatMap_append]
    rfl
   rw [ee]
   exact c
  ·obtain rfl:i=s.es.length:=by omega
   rw [List.take_length] at c
   have hff:(dS s.es).tail.cons (⟨s.es.length,0,0⟩:W3)=dS s.es:=rfl
   rw [hff] at c
   generalize hfd:dS s.es=f at c hf
   refine vx (c.sl (i:=3) rfl).sl.ln<|UJ.by (fun (i:Nat) ua l v h'=>v=.int .i64 i∧i≤f.length∧Cx (fun _=>False) h h' [rV c1_ (HD ⟨s.t,s.seq,s.fO,e,nx,false,false⟩),rV v3_ (WE mL),dA D3 ua ((⟨4,A,W0,⟨3,s.seq,0⟩⟩::yL s.fO [A])++kS (f.take i) (A+1)),dA EW u f,dA yh l (gW A i)]) (fun i=>f.length - i) 0 ⟨rfl,Nat.zero_le _,by rw [List.take_zero]; show Cx _ _ _ [_,_,dA D3 _ ((⟨4,A,W0,⟨3,s.seq,0⟩⟩::yL s.fO [A])++[]),_,_]; rw [List.append_nil]; exact c.nil yh⟩ ?_
   rintro i Dw lns _ h13 ⟨rfl,hi,c⟩ again hagain
   have hll:=JU A i
   replace c:=c.n5
   refine vx cH<|pC (fun e49=>?_) fun e49=>?_
   ·refine .here ?_
    have hx1:=List.getElem?_eq_getElem (l:=f) (i:=i) (by omega)
    have ht1:f.take (i+1)=f.take i++[f[i]'(by omega)]:=by rw [List.take_add_one,hx1]; rfl
    have ht2:kS (f.take (i+1)) (A+1)=kS (f.take i) (A+1)++[⟨3,A+1+i,W0,f[i]'(by omega)⟩]:=by
     rw [ht1,C9,List.length_take,Nat.min_eq_left hi]
    have hsl2:=IA A i
    generalize f[i]'(by omega)=wd at hx1 ht2
    obtain ⟨wv,wq,wr⟩ :=wd
    refine (c.sl (i:=3) rfl).sl.whole rfl hx1 rfl ?_
    refine c.v3 fun _ _ c=>?_
    refine c.w3 5 fun _ c=>?_
    refine vx (qV (a:=A) (b:=1) ⟨by omega,by omega⟩)<|vx (qV (a:=A+1) (b:=i) ⟨by omega,by omega⟩)<|c.rl 5 ?_
    refine vx (aL (ds:=[_,_,_,_,_,_,_,_]) rfl)<|c.jE D3 ⟨3,A+1+i,W0,⟨wv,wq,wr⟩⟩ rfl rfl fun v61 _ c=>?_
    replace c:=c.n7
    have hs1:=uR (f.take i) (A+1)
    rw [List.length_take] at hs1
    refine c.ap 2 rfl (c.sl (i:=6) rfl).sl rfl rfl (by simp only [List.length_append,List.length_cons,List.length_nil]; omega) (by simp only [List.length_append,List.length_cons,List.length_nil]; omega) fun v62 _ c=>?_
    rw [List.append_assoc,←ht2] at c
    replace c:=c.n7
    refine .here<|vx iQ<|pC (fun e64=>?_) fun e64=>?_
    ·refine En.br (fun e69=>?_) fun e69=>?_
     ·refine c.jE yh (A+1+i) rfl rfl fun v72 _ c=>?_
      replace c:=c.n8
      refine c.ap 4 rfl (c.sl (i:=7) rfl).sl rfl rfl (by simp only [List.length_cons,List.length_nil]; omega) (by simp only [List.length_cons,List.length_nil]; omega) fun v73 _ c=>?_
      rw [show gW A i++[A+1+(i:Int)]=gW A (i+1) from by rw [hsl2,if_pos (by first | exact .inl (by omega) | exact .inr (of_decide_eq_true e69))]] at c
      replace c:=c.n8
      refine vx (inc (by omega)) ?_
      first | exact absurd e69 (by decide) | exact hagain (i+1) _ _ _ _ ⟨rfl,by omega,c.pick [0,1,2,3,4]⟩ (by omega) | (have c:=c.pick [0,1,2,3,4]; rw [show gW A i=gW A (i+1) from by rw [hsl2,if_neg (fun x=>x.elim (fun y=>e64 (by omega)) (fun y=>of_decide_eq_false e69 y)),List.append_nil]] at c; exact hagain (i+1) _ _ _ _ ⟨rfl,by omega,c⟩ (by omega))
     ·refine vx (inc (by omega)) ?_
      first | exact absurd e69 (by decide) | exact hagain (i+1) _ _ _ _ ⟨rfl,by omega,c.pick [0,1,2,3,4]⟩ (by omega) | (have c:=c.pick [0,1,2,3,4]; rw [show gW A i=gW A (i+1) from by rw [hsl2,if_neg (fun x=>x.elim (fun y=>e64 (by omega)) (fun y=>of_decide_eq_false e69 y)),List.append_nil]] at c; exact hagain (i+1) _ _ _ _ ⟨rfl,by omega,c⟩ (by omega))
    ·refine vx (Fu (by omega) (by decide))<|vx iQ<|En.br (fun e69=>?_) fun e69=>?_
     ·refine c.jE yh (A+1+i) rfl rfl fun v72 _ c=>?_
      replace c:=c.n8
      refine c.ap 4 rfl (c.sl (i:=7) rfl).sl rfl rfl (by simp only [List.length_cons,List.length_nil]; omega) (by simp only [List.length_cons,List.length_nil]; omega) fun v73 _ c=>?_
      rw [show gW A i++[A+1+(i:Int)]=gW A (i+1) from by rw [hsl2,if_pos (by first | exact .inl (by omega) | exact .inr (of_decide_eq_true e69))]] at c
      replace c:=c.n8
      refine vx (inc (by omega)) ?_
      first | exact absurd e69 (by decide) | exact hagain (i+1) _ _ _ _ ⟨rfl,by omega,c.pick [0,1,2,3,4]⟩ (by omega) | (have c:=c.pick [0,1,2,3,4]; rw [show gW A i=gW A (i+1) from by rw [hsl2,if_neg (fun x=>x.elim (fun y=>e64 (by omega)) (fun y=>of_decide_eq_false e69 y)),List.append_nil]] at c; exact hagain (i+1) _ _ _ _ ⟨rfl,by omega,c⟩ (by omega))
     ·refine vx (inc (by omega)) ?_
      first | exact absurd e69 (by decide) | exact hagain (i+1) _ _ _ _ ⟨rfl,by omega,c.pick [0,1,2,3,4]⟩ (by omega) | (have c:=c.pick [0,1,2,3,4]; rw [show gW A i=gW A (i+1) from by rw [hsl2,if_neg (fun x=>x.elim (fun y=>e64 (by omega)) (fun y=>of_decide_eq_false e69 y)),List.append_nil]] at c; exact hagain (i+1) _ _ _ _ ⟨rfl,by omega,c⟩ (by omega))
   ·refine c.rl 0 ?_
    obtain rfl:i=f.length:=by omega
    rw [List.take_length] at c
    have hs1:=uR f (A+1)
    have hk2:=FG s.fO (gW A f.length)
    refine cs.Dd (x:=⟨s.t,s.seq,s.fO,e,nx,false,false⟩) (ls:=gW A f.length) hn (c.sl (i:=4) rfl).sl (by omega) fun kp2 _ d=>?_
    have c:=c.aE d
    replace c:=c.n6
    refine c.ap 2 rfl (c.sl (i:=5) rfl).sl rfl rfl (by simp only [List.length_append,List.length_cons]; omega) (by simp only [List.length_append,List.length_cons]; omega) fun v79 _ c=>?_
    replace c:=c.n6
    refine aD<|c.rc 0 ?_
    refine cs.status (seq:=s.seq) ⟨by omega,by omega⟩ fun _ g=>?_
    have c:=c.more g
    refine vx (aL (ds:=[_,_,_,_,_,_,_,_]) rfl)<|c.jE D3 ⟨4,A,W0,⟨0,s.seq,0⟩⟩ rfl rfl fun v86 _ c=>?_
    replace c:=c.n7
    refine c.ap 2 rfl (c.sl (i:=6) rfl).sl rfl rfl (by simp only [List.length_append,List.length_cons,List.length_nil]; omega) (by simp only [List.length_append,List.length_cons,List.length_nil]; omega) fun v87 _ c=>?_
    replace c:=c.n7
    refine c.rl 0 ?_
    refine c.jE yh A rfl rfl fun v91 _ c=>?_
    replace c:=c.n8
    refine cs.Dd (x:=⟨s.t,s.seq,s.fO,e,nx,false,false⟩) (ls:=[A]) hn (c.sl (i:=7) rfl).sl (by simp) fun kp3 _ d=>?_
    have c:=c.aE d
    replace c:=c.n9
    refine c.ap 2 rfl (c.sl (i:=8) rfl).sl rfl rfl (by simp only [List.length_append,List.length_cons,List.length_nil]; omega) (by simp only [List.length_append,List.length_cons,List.length_nil]; omega) fun v93 _ c=>?_
    obtain ⟨u9,rfl⟩ :=(c.sl (i:=2) rfl).vO
    replace c:=c.n9
    refine c.rl 0 ?_
    have hacts:((⟨4,A,W0,⟨3,s.seq,0⟩⟩::yL s.fO [A])++kS f (A+1)++yL s.fO (gW A f.length)++[⟨4,A,W0,⟨0,s.seq,0⟩⟩]++yL s.fO [A]:List Ac)=lW s:=by
     unfold lW Tm
     rw [hA,hfd]
     rfl
    have c:=Cx.pack (L:=[_,_]) (c.pick [0,1,2])
    rw [hacts] at c
    have hb1:=c.get (i:=2) rfl
    refine cs.Ux (PF (B:=B.and [dA D3 (aX u9) (lW s)]) (x:=⟨s.t,s.seq,s.fO,e,nx,false,false⟩) (s:=s) (p:=fun l=>.Dw l) (out:=z6 s) cs.toV8 ⟨B.up b0 c.gr,hb1⟩ (hx'.le (Bs.aR _ _)) rfl (On.sl (i:=0) rfl) (fun _ _ _ H=>H) (fun _ _ _ H=>H) (fun e=>by unfold lW at e; cases e) (fun a r e=>by unfold z6; rw [e]; rfl) fun v' M _ d ok2=>?_)
    have c:=c.aE d
    replace c:=c.n4
    refine c.t8 1 fun _ c=>?_
    exact hR v' [aG [dA D3 (aX u9) (lW s)],aG M] _ (Cx.pack (L:=[]) (c.pick [2,3])) (Jg.le Bs.MA ok2)
end
end Go.En
namespace Go.En
variable {S:Sys} {I:aZ} {h h0 h':Hp} {F F0:Fp} {R:Value→Hp→Prop} {L:List bQ} {B B':Bs}
structure XR (S:Sys) (I:aZ):Prop extends Wm S I where
 Od:∀{x y:Value} {h R},gZ S I x y h R→S.C I.bZ [x,y] h R
 Lb:∀{x y:Value} {h R},mN S I x y h R→S.C I.iL [x,y] h R
 S2:∀{x y z:Value} {h R},tL S I x y z h R→S.C I.dT [x,y,z] h R
section
variable {x:Sc} {n k:Value} {a:Ac} {z:Int} {g:iM} {es:List Et} {s:Sw} {b:Bool} {out:SR}
theorem MS (cs:XR S I) (b0:B.p h) (hZ:On B Zs) (hx:IR B s x) (ht:1≤s.t∧s.t≤3) (hq:1≤s.seq∧s.seq≤16777215) (hl:s.es.length≤300) {v:Value} (hR:Hv I h B (z6 s) R):mN S I (tJ x) v h R:=by
 obtain ⟨t,seq,du,e,nx,ov,ok⟩ :=x
 have hx':=hx
 obtain ⟨h1,h2,h3,h4,hn,h6,h7⟩ :=hx
 dsimp only at hn
 unfold mN
 have c:=Cx.aA h
 refine c.v10 fun _ _ c=>?_
 refine c.v8 fun _ _ c=>?_
 refine c.rl 0 ?_
 refine cs.KK (G0 (x:=⟨t,seq,du,e,nx,ov,ok⟩) cs.toWm (B.up b0 c.gr) hZ hx' ht hq hl fun v' M _ d ok2=>?_)
 have c:=c.aE d
 replace c:=c.n3
 refine c.t8 1 fun _ c=>?_
 exact hR v' M _ (c.pick [2]) ok2
theorem OY (cs:XR S I) (b0:B.p h) (hZ:On B Zs) (hx:IR B s x) (ht:1≤s.t∧s.t≤3) (hq:1≤s.seq∧s.seq≤16777215) (hl:s.es.length≤300) (hg:Ww g.w) (hR:Hv I h B (xx s g.w) R):gZ S I (tJ x) (k6 g) h R:=by
 obtain ⟨t,seq,du,e,nx,ov,ok⟩ :=x
 have hx':=hx
 obtain ⟨h1,h2,h3,h4,hn,h6,h7⟩ :=hx
 dsimp only at hn h1 h2 h3 h4 h6 h7
 obtain ⟨⟨gv,gq,gr⟩,gk⟩ :=g
 obtain ⟨hg1,hg2,hg3⟩ :=hg
 dsimp only at hg1 hg2 hg3
 subst h1 h2 h3
 unfold xx at hR
 dsimp only at hR
 have hcv:HA .i64 (.int .u32 gq)=some (.int .i64 gq):=by
  show some (Value.int .i64 (IntKind.i64.wrap gq))=_
  rw [EZ ⟨by omega,by omega⟩]
 by_cases c1:s.seq≤gq
 ·rw [if_pos c1] at hR
  unfold gZ
  have c:=Cx.aA h
  refine c.v10 fun _ _ c=>?_
  refine c.v4 fun _ _ c=>?_
  refine c.v8 fun _ _ c=>?_
  refine aD<|vx (c.vp (i:=1) (ds:=[_,_,_]) rfl rfl rfl)<|c.v3 fun _ _ c=>?_
  refine c.w3 3 fun _ c=>?_
  refine aD<|c.rc 3 ?_
  refine aD<|c.rc 0 ?_
  refine vx (SB (a:=s.seq) ⟨by omega,by omega⟩)<|vx (uA c1)<|eR<|c.rl 0 ?_
  refine cs.PI (x:=⟨s.t,s.seq,s.fO,e,nx,ov,ok⟩) hn fun _ g=>?_
  have c:=c.more g
  refine c.t8 2 fun _ c=>?_
  exact (hR _).nil ⟨⟨s.t,s.seq,s.fO,e,.nilFunc,true,false⟩,rfl,rfl,rfl,rfl⟩ c.gr
 rw [if_neg c1] at hR
 by_cases c2:IQ s.t gq=true
 ·by_cases c3:gv=0∨gv=1
  ·rw [if_neg (fun x=>x.elim (fun y=>by rw [c2] at y; cases y) fun y=>y c3)] at hR
   have hq1:=of_decide_eq_true c2
   have hpt:eU s.t gq / 16777216=s.t∧eU s.t gq % 16777216=gq:=by unfold eU; omega
   have hwho:cZ (eU s.t gq)=s.t:=by unfold cZ; rw [hpt.1,hpt.2,if_pos c2]
   have hpl:0≤bF s.t:=by
    unfold bF m5
    rw [if_neg (by omega),if_pos (by omega)]
    omega
   have hrf:0≤eU s.t gq∧eU s.t gq<4294967296:=by unfold eU; omega
   have hnew:∀B',B.le B'→Oy S I B' (nk (cB I (Hs.new (eU s.t gq) s.fO) (none,0,0) (none,0,0) .nilIface)) qY ([{Hs.new (eU s.t gq) s.fO with nx:=.first}],⟨5,bF s.t,W0,W0⟩,false):=fun B' l=>by
    have:=cs.wJ (B:=B') (g:=qY) (hs:=[Hs.new (eU s.t gq) s.fO]) (v:=nk (cB I (Hs.new (eU s.t gq) s.fO) (none,0,0) (none,0,0) .nilIface)) (hZ.le l) Tc ⟨_,_,rfl,fun _ _=>Sl.nil,fun _ _=>Sl.nil⟩ ⟨rfl,Nat.zero_le _,by show 0≤bF (cZ (eU s.t gq)); rw [hwho]; exact hpl,fun x hx=>(List.not_mem_nil hx).elim,Tc,trivial⟩ fun s hs ha=>by
     obtain rfl:=List.mem_singleton.1 hs
     cases ha
    rw [Ez,hwho] at this
    exact this
   unfold gZ
   have c:=Cx.aA h
   refine c.v10 fun _ _ c=>?_
   refine c.v4 fun _ _ c=>?_
   refine c.v8 fun _ _ c=>?_
   refine aD<|vx (c.vp (i:=1) (ds:=[_,_,_]) rfl rfl rfl)<|c.v3 fun _ _ c=>?_
   refine c.w3 3 fun _ c=>?_
   refine aD<|c.rc 3 ?_
   refine aD<|c.rc 0 ?_
   refine vx (SB (a:=s.seq) ⟨by omega,by omega⟩)<|vx (o8 c1)<|bD<|aD<|c.rc 0 ?_
   refine aD<|c.rc 3 ?_
   refine vx hcv<|cs.ref fun _ g=>?_
   have c:=c.more g
   rw [if_pos c2,if_pos c2]
   refine vx rfl<|vx rfl ?_
   refine .here<|vx (v:=.bool false) rfl<|bD<|aD<|c.rc 3 ?_
   refine vx pJ<|pC (fun e38=>?_) fun e38=>?_
   ·refine aD<|c.rc 3 ?_
    refine vx (EJ (show gv=1 from c3.resolve_left e38))<|bD<|aD<|vx (c.vp (i:=0) (ds:=[_,_,_]) rfl rfl rfl)<|aD<|c.rc 0 ?_
    refine cs.H8 (hZ _ (B.up b0 c.gr)) hrf fun _ g=>?_
    have c:=c.more g
    rw [if_pos ⟨by rw [hwho]; omega,by rw [hwho]; exact hpl⟩]
    refine vx rfl<|vx rfl<|vx (v:=.bool false) rfl<|bD<|c.rl 0 ?_
    refine vx (aL (ds:=[_,_,_,_]) rfl)<|cs.B4 (zu (s:=s) (x:=⟨s.t,s.seq,s.fO,e,nx,ov,ok⟩) (g:=qY) (p:=fun hs=>.last hs) cs.toV8 (B.up b0 c.gr) hx' rfl (hnew B (Bs.le_refl B)) (fun x=>by cases x) (fun _ _ _ _ H=>H) (fun _ _ _ H=>H) (fun _ _ e=>by cases e) (fun hs a e=>by cases e; rfl) fun v' M _ d ok2=>?_)
    have c:=c.aE d
    replace c:=c.n5
    refine c.t8 2 fun _ c=>?_
    exact hR v' M _ (c.pick [4]) ok2
   ·refine bD<|aD<|vx (c.vp (i:=0) (ds:=[_,_,_]) rfl rfl rfl)<|aD<|c.rc 0 ?_
    refine cs.H8 (hZ _ (B.up b0 c.gr)) hrf fun _ g=>?_
    have c:=c.more g
    rw [if_pos ⟨by rw [hwho]; omega,by rw [hwho]; exact hpl⟩]
    refine vx rfl<|vx rfl<|vx (v:=.bool false) rfl<|bD<|c.rl 0 ?_
    refine vx (aL (ds:=[_,_,_,_]) rfl)<|cs.B4 (zu (s:=s) (x:=⟨s.t,s.seq,s.fO,e,nx,ov,ok⟩) (g:=qY) (p:=fun hs=>.last hs) cs.toV8 (B.up b0 c.gr) hx' rfl (hnew B (Bs.le_refl B)) (fun x=>by cases x) (fun _ _ _ _ H=>H) (fun _ _ _ H=>H) (fun _ _ e=>by cases e) (fun hs a e=>by cases e; rfl) fun v' M _ d ok2=>?_)
    have c:=c.aE d
    replace c:=c.n5
    refine c.t8 2 fun _ c=>?_
    exact hR v' M _ (c.pick [4]) ok2
  ·rw [if_pos (.inr c3)] at hR
   unfold gZ
   have c:=Cx.aA h
   refine c.v10 fun _ _ c=>?_
   refine c.v4 fun _ _ c=>?_
   refine c.v8 fun _ _ c=>?_
   refine aD<|vx (c.vp (i:=1) (ds:=[_,_,_]) rfl rfl rfl)<|c.v3 fun _ _ c=>?_
   refine c.w3 3 fun _ c=>?_
   refine aD<|c.rc 3 ?_
   refine aD<|c.rc 0 ?_
   refine vx (SB (a:=s.seq) ⟨by omega,by omega⟩)<|vx (o8 c1)<|bD<|aD<|c.rc 0 ?_
   refine aD<|c.rc 3 ?_
   refine vx hcv<|cs.ref fun _ g=>?_
   have c:=c.more g
   rw [if_pos c2,if_pos c2]
   refine vx rfl<|vx rfl ?_
   refine .here<|vx (v:=.bool false) rfl<|bD<|aD<|c.rc 3 ?_
   refine vx (FP (fun e=>c3 (.inl e)))<|eR<|aD<|c.rc 3 ?_
   refine vx (FP fun e=>c3 (.inr e))<|eR<|c.rl 0 ?_
   refine cs.KK (G0 (x:=⟨s.t,s.seq,s.fO,e,nx,ov,ok⟩) cs.toWm (B.up b0 c.gr) hZ hx' ht hq hl fun v' M _ d ok2=>?_)
   have c:=c.aE d
   replace c:=c.n5
   refine c.t8 2 fun _ c=>?_
   exact hR v' M _ (c.pick [4]) ok2
 ·have c2':IQ s.t gq=false:=by simpa using c2
  rw [if_pos (.inl c2')] at hR
  unfold gZ
  have c:=Cx.aA h
  refine c.v10 fun _ _ c=>?_
  refine c.v4 fun _ _ c=>?_
  refine c.v8 fun _ _ c=>?_
  refine aD<|vx (c.vp (i:=1) (ds:=[_,_,_]) rfl rfl rfl)<|c.v3 fun _ _ c=>?_
  refine c.w3 3 fun _ c=>?_
  refine aD<|c.rc 3 ?_
  refine aD<|c.rc 0 ?_
  refine vx (SB (a:=s.seq) ⟨by omega,by omega⟩)<|vx (o8 c1)<|bD<|aD<|c.rc 0 ?_
  refine aD<|c.rc 3 ?_
  refine vx hcv<|cs.ref fun _ g=>?_
  have c:=c.more g
  rw [if_neg c2,if_neg c2]
  refine vx rfl<|vx rfl ?_
  refine .here<|vx (v:=.bool true) rfl<|eR<|eR<|c.rl 0 ?_
  refine cs.KK (G0 (x:=⟨s.t,s.seq,s.fO,e,nx,ov,ok⟩) cs.toWm (B.up b0 c.gr) hZ hx' ht hq hl fun v' M _ d ok2=>?_)
  have c:=c.aE d
  replace c:=c.n5
  refine c.t8 2 fun _ c=>?_
  exact hR v' M _ (c.pick [4]) ok2
theorem A9 (hx:IR B s x) (hC:∀h1 K,Gr h h1→Hv I h1 B out K→Cw S.C S.Y I.mt x.nx [k6 g] h1 K) (hR:Hv I h B out R):jI S I (tJ x) (k6 g) h R:=by
 obtain ⟨t,seq,du,e,nx,ov,ok⟩ :=x
 obtain ⟨h1,h2,h3,h4,hn,h6,h7⟩ :=hx
 dsimp only at hn h6 hC
 subst h6
 obtain ⟨⟨gv,gq,gr⟩,gk⟩ :=g
 obtain ⟨so,a,d⟩ :=out
 unfold jI
 have c:=Cx.aA h
 refine c.v10 fun _ _ c=>?_
 refine c.v4 fun _ _ c=>?_
 refine c.v8 fun _ _ c=>?_
 refine aD<|c.rc 0 ?_
 refine bD<|aD<|c.rc 0 ?_
 refine c.rl 1 ?_
 refine hC _ _ c.gr fun v' M _ d2 ok2=>?_
 have c:=c.aE d2
 replace c:=c.n4
 refine c.t8 2 fun _ c=>?_
 exact hR v' M _ (c.pick [3]) ok2
theorem JX (cs:XR S I) (b0:B.p h) {y:Sc} {thn:Value} {r1 r2:Nat} (f1:Fr B r1 [thn]) (f2:Fr B r2 (HD y)) (hC:∀h1 K,Gr h h1→Hv I h1 B out K→Cw S.C S.Y I.mt thn [tJ y,k6 g] h1 K) (hR:Hv I h B out R):Cw S.C S.Y I.mt (uw I.dV r1 r2) [k6 g] h R:=by
 refine .inl (.inl ⟨I.dV,#[],#[cA r1,cA r2],rfl,cs.Xa ?_⟩)
 obtain ⟨⟨gv,gq,gr⟩,gk⟩ :=g
 obtain ⟨so,a,d⟩ :=out
 unfold sx
 have c:=Cx.aA h
 refine c.v4 fun _ _ c=>?_
 refine c.v8 fun _ _ c=>?_
 refine vx (f1.lc (B.up b0 c.gr) (o:=0) rfl)<|vx (f2.ld (B.up b0 c.gr) rfl)<|c.rl 0 ?_
 refine hC _ _ c.gr fun v' M _ d2 ok2=>?_
 have c:=c.aE d2
 replace c:=c.n3
 refine c.t8 1 fun _ c=>?_
 exact hR v' M _ (c.pick [2]) ok2
theorem MU {v:Value} {ok:Bool} (hv:SwX I B s v (.over ok)) (hR:∀h',Gr h h'→R (.tuple #[.bool ok,.bool true]) h'):nW S I (.iface I.aY v) h R:=by
 obtain ⟨x,rfl,h1,h2,hn⟩ :=hv
 obtain ⟨t,seq,du,e,nx,ov,ok2⟩ :=x
 dsimp only at h1 h2 hn
 subst h1 h2
 unfold nW
 have c:=Cx.aA h
 refine vx (v:=.tuple #[tJ ⟨t,seq,du,e,nx,true,ok2⟩,.bool true]) (by simp [C3])<|vx rfl<|vx (v:=.bool true) (rfl)<|c.v10 fun _ _ c=>?_
 refine c.Xd 0 fun _ c=>?_
 refine .here<|eR<|aD<|c.rc 0 ?_
 refine eR<|aD<|c.rc 0 ?_
 exact hR _ c.gr
theorem Io {v:Value} {t:TypeId} (hne:¬t=I.aY) (hR:∀h',Gr h h'→R (.tuple #[.bool false,.bool false]) h'):nW S I (.iface t v) h R:=by
 unfold nW
 have c:=Cx.aA h
 refine vx (v:=.tuple #[.agg ze,.bool false]) (by simp [C3,hne])<|vx rfl<|vx (v:=.bool false) (rfl)<|c.v10 fun _ _ c=>?_
 refine c.Xd 0 fun _ c=>?_
 exact .here<|bD<|bD<|hR _ c.gr
end
end Go.En
namespace Go.En
variable {S:Sys} {I:aZ} {h h0 h':Hp} {F F0:Fp} {R:Value→Hp→Prop} {L:List bQ} {B B':Bs}
structure Tl (S:Sys) (I:aZ):Prop extends XR S I where
 SA:∀{x y:Value} {h R},tR S I x y h R→S.C I.rO [x,y] h R
 SY:∀{x y:Value} {h R},tQ S I x y h R→S.C I.rY [x,y] h R
 isSorted:∀{v f:Value} {es:List Et} {h R},Sl EE h v es→X0 S I f es h→es.length≤1000→(∀h',Gr h h'→R (.bool (kV es)) h')→S.C I.cX [v,f] h R
 J4:∀{v:Value} {us:List Et} {h R},Sl EE h v us→us.length≤1000000→(∀u h',Cx (fun _=>False) h h' [dA EE (aX u) us]→R (aX u) h')→S.C I.dB [v] h R
structure SO (s:Sw):Prop where
 t:1≤s.t∧s.t≤3
 seq:1≤s.seq∧s.seq≤16777215
 es:s.es.length≤300
def OP:SP→Prop
 | .last hs=>Gv hs∧∀s∈hs,s.nx=.again→s.i<s.es.length
 | .own hs=>Gv hs∧∀s∈hs,s.nx=.again→s.i<s.es.length
 | .uI=>True
 | .Dw _=>True
 | _=>False
section
variable {x:Sc} {n k:Value} {a:Ac} {z:Int} {g:iM} {es:List Et} {s:Sw} {b:Bool} {v:Value}
theorem TW (cs:Tl S I) (b0:B.p h) (hZ:On B Zs) (hv:Jg I B v s) (ok:SO s) (okp:OP s.ph) (hg:Ww g.w) (hR:Hv I h B (j8 s g) R):jI S I v (k6 g) h R:=by
 obtain ⟨k1,k2,k3⟩ :=ok
 unfold Jg at hv
 cases hp:s.ph with
 | uI=>
  rw [hp] at hv
  obtain ⟨x,y,rfl,hx,hnx,hy⟩ :=hv
  have e1:j8 s g=xx s g.w:=by unfold j8; rw [hp]
  rw [e1] at hR
  refine A9 hx (fun h1 K gr hK=>?_) hR
  rw [hnx]
  exact .inl (.inl ⟨_,#[tJ y],#[],rfl,cs.Od (OY cs.toXR (B.up b0 gr) hZ hy k1 k2 k3 hg hK)⟩)
 | last hs=>
  rw [hp] at hv okp
  obtain ⟨x,r1,r2,y,thn,rfl,hx,hnx,f1,f2,hy,ht⟩ :=hv
  rw [hp] at ht
  refine A9 hx (fun h1 K gr hK=>?_) hR
  rw [hnx]
  refine JX cs.toXR (B.up b0 gr) f1 f2 (fun h2 K2 gr2 hK2=>?_) hK
  refine D5 cs.toV8 (B.up b0 (Gr.trans gr gr2)) hy (k:=sU I.iL) rfl ht (ho:=fP hs g) (p:=fun hs=>.last hs) (fun v hv=>cs.wJ hZ hg hv okp.1 okp.2) (s0 okp.1) (fun _ _ _ _ H=>H) (fun _ _ _ H=>H) (fun t a e M h3 K3 b3 hK3=>?_) (fun hs' a e=>?_) hK2
  ·have e1:j8 s g=z6 s:=by
    unfold j8
    rw [hp]
    dsimp only
    rw [e]
   rw [e1] at hK3
   exact .inl (.inl ⟨_,#[],#[],rfl,cs.Lb (MS cs.toXR b3 (hZ.le (Bs.aR _ _)) (hy.le (Bs.aR _ _)) k1 k2 k3 hK3)⟩)
  ·unfold j8
   rw [hp]
   dsimp only
   rw [e]
 | Dw l=>
  rw [hp] at hv okp
  obtain ⟨x,r1,r2,y,thn,rfl,hx,hnx,f1,f2,hy,ht⟩ :=hv
  rw [hp] at ht
  have e1:j8 s g=IZ s l:=by unfold j8; rw [hp]
  rw [e1] at hR
  refine A9 hx (fun h1 K gr hK=>?_) hR
  rw [hnx]
  refine JX cs.toXR (B.up b0 gr) f1 f2 (fun h2 K2 gr2 hK2=>?_) hK
  refine QE cs.toV8 (B.up b0 (Gr.trans gr gr2)) hy (k:=sU I.lV) rfl ht (p:=fun l=>.Dw l) (fun _ _ _ H=>H) (fun _ _ _ H=>H) (fun e h3 K3 gr3 hK3=>?_) (fun a r e=>by subst e; rfl) hK2
  subst e
  exact .inl (.inl ⟨_,#[],#[],rfl,cs.Xe (Uc cs.toWm (B.up b0 (Gr.trans gr (Gr.trans gr2 gr3))) hZ hy k1 k2 hK3)⟩)
 | own hs=>
  rw [hp] at hv okp
  obtain ⟨x,r1,r2,y,thn,rfl,hx,hnx,f1,f2,hy,ht⟩ :=hv
  rw [hp] at ht
  refine A9 hx (fun h1 K gr hK=>?_) hR
  rw [hnx]
  refine JX cs.toXR (B.up b0 gr) f1 f2 (fun h2 K2 gr2 hK2=>?_) hK
  refine D5 cs.toV8 (B.up b0 (Gr.trans gr gr2)) hy (k:=sU I.kA) rfl ht (ho:=fP hs g) (p:=fun hs=>.own hs) (fun v hv=>cs.wJ hZ hg hv okp.1 okp.2) (s0 okp.1) (fun _ _ _ _ H=>H) (fun _ _ _ H=>H) (fun t a e M h3 K3 b3 hK3=>?_) (fun hs' a e=>?_) hK2
  ·have e1:j8 s g=Na s (decide (t.dN=1)):=by
    unfold j8
    rw [hp]
    dsimp only
    rw [e]
    rfl
   rw [e1] at hK3
   exact .inl (.inl ⟨_,#[],#[],rfl,cs.S8 (Q0 cs.toWm (hy.le (Bs.aR _ _)) hK3)⟩)
  ·unfold j8
   rw [hp]
   dsimp only
   rw [e]
 | over ok=>rw [hp] at okp; exact okp.elim
 | EV=>rw [hp] at okp; exact okp.elim
 | ES w hs=>rw [hp] at okp; exact okp.elim
 | FR=>rw [hp] at okp; exact okp.elim
 | FH=>rw [hp] at okp; exact okp.elim
 | send l ok=>rw [hp] at okp; exact okp.elim
def DE (t:Int) (seq:Int) (du:Bool) (e:SH) (nx:Value):Sc:=⟨t,seq,du,e,nx,false,false⟩
theorem Ry {e:Et} (cs:Tl S I) (hZ:Zs h) {r:Nat} (hl:aF 3 (cA r) h=some vL) (hlg:∀h',Gr h h'→aF 3 (cA r) h'=some vL) (hm:0≤e.at'∧e.at'≤10000) (hR:∀h',Gr h h'→R (.bool (!qD e.at')) h'):tQ S I (vE e) (cA r) h R:=by
 obtain ⟨ea,⟨ev,eq,er⟩,ew,eb⟩ :=e
 dsimp only at hm
 unfold tQ
 have c:=Cx.aA h
 refine c.v6 fun _ _ c=>?_
 refine vx (hlg _ c.gr)<|aD<|c.rc 0 ?_
 refine cs.LQ (a:=ea) ⟨by omega,by omega⟩ _ _ (hZ.gr c.gr) fun _ g=>?_
 have c:=c.more g
 exact vx rfl<|hR _ c.gr
theorem RP {t seq:Int} {du:Bool} (cs:Tl S I) (hZ:Zs h) (hs:Sl EE h v es) (ok:Kq es) (ht:1≤t∧t≤3) (hq:1≤seq∧seq≤16777215)
  (hR:∀e r1 r2 h',Cx (fun _=>False) h h' [dA EE (aX e) es,rV r1 [.func (.func I.bZ) #[tJ (DE t seq du e .nilFunc)] #[]],rV r2 (HD (DE t seq du e (uw I.dT r1 r2)))]→R (.tuple #[.iface I.aY (tJ (DE t seq du e (uw I.dT r1 r2))),.int .i64 0]) h'):Am S I vL (.int .i64 t) (.int .i64 seq) (.bool du) v h R:=by
 have hlen:=ok.len
 have hsort:kV es=true:=by
  have:∀(n i:Nat),es.length - i=n→kV (es.drop i)=true:=fun n=>by
   induction n with
   | zero=>intro i h; exact rX (by omega)
   | succ n ih=>
    intro i h
    by_cases h2:i+1<es.length
    ·have h3:=List.getElem?_eq_getElem (l:=es) (i:=i) (by omega)
     have h4:=List.getElem?_eq_getElem (l:=es) (i:=i+1) h2
     rw [Af h3 h4,ih (i+1) (by omega),Bool.and_true]
     exact decide_eq_true (Int.le_of_lt (ok.Qb i _ _ h3 h4))
    ·exact rX (by omega)
  exact this _ 0 rfl
 have hrng:∀e∈es,0≤e.at'∧e.at'≤1000:=fun e he=>H6 (ok.may e he)
 unfold Am
 have c:=Cx.aA h
 refine c.v3 fun l5_ _ c=>?_
 refine c.rl 0 ?_
 refine cs.check _ _ (hZ.gr c.gr) fun _ g=>?_
 have c:=c.more g
 refine vx (v:=.bool false) rfl<|bD ?_
 refine .here<|vx (iZ (by omega))<|bD<|aD<|c.rc 0 ?_
 refine vx (sf (show ¬(3:Int)<t by omega))<|bD<|vx (iZ (by omega))<|bD<|vx (sf (show ¬(16777215:Int)<seq by omega))<|bD<|cs.Gm (hs.gr c.gr) ok.old (by omega) fun _ g=>?_
 have c:=c.more g
 rw [ok.UW]
 refine vx (v:=.bool false) rfl<|bD<|cs.isSorted (hs.gr c.gr) (fun h' a b R g ha hb hR=>.inl (.inl ⟨I.rO,#[],#[],rfl,cs.SA (Ug (by have:=hrng a ha; have:=hrng b hb; constructor <;> omega) hR)⟩)) (by omega) fun _ g=>?_
 have c:=c.more g
 rw [hsort]
 refine vx (v:=.bool false) (rfl)<|bD<|vx rfl<|cs.U1 (q:=fun e=>!qD e.at') (hs.gr c.gr) (fun h' e R g he hR=>.inl (.inl ⟨I.rY,#[],#[cA l5_],rfl,cs.SY (Ry cs ((hZ.gr c.gr).gr g) (c.more g |>.vl (i:=0) rfl rfl) (fun h'' g2=>(c.more g).more g2 |>.vl (i:=0) rfl rfl) (by have:=hrng e he; omega) hR)⟩)) (by omega) fun _ g=>?_
 have c:=c.more g
 rw [show es.any (fun e=>!qD e.at')=false from by
  rw [List.any_eq_false]
  intro e he
  rw [ok.may e he]; decide]
 refine bD ?_
 refine .here<|c.rl 0 ?_
 refine ⟨?_,?_⟩
 ·refine cs.J4 (hs.gr c.gr) (by omega) fun e _ d=>?_
  have c:=c.aE d
  replace c:=c.n2
  refine c.al 0 ?_
  refine vx (aL (ds:=[_,_,_,_,_,_,_,_,_,_]) rfl)<|c.v10 fun _ _ c=>?_
  refine c.al 0 ?_
  refine c.Xd 2 fun _ c=>?_
  refine c.rl 2 ?_
  refine vx rfl<|c.v1 fun look14_ _ c=>?_
  refine c.w1 3 fun _ c=>?_
  refine vx rfl<|aD<|c.T6 2 fun _ c=>?_
  refine c.rl 2 ?_
  exact vx rfl<|hR e _ _ _ (c.pick [1,3,2])
 ·refine c.v10 fun _ _ c=>?_
  refine c.al 0 ?_
  refine cs.J4 (hs.gr c.gr) (by omega) fun e _ d=>?_
  have c:=c.aE d
  replace c:=c.n3
  refine c.al 0 ?_
  refine vx (aL (ds:=[_,_,_,_,_,_,_,_,_,_]) rfl)<|c.Xd 1 fun _ c=>?_
  refine c.rl 1 ?_
  refine vx rfl<|c.v1 fun look14_ _ c=>?_
  refine c.w1 3 fun _ c=>?_
  refine vx rfl<|aD<|c.T6 1 fun _ c=>?_
  refine c.rl 1 ?_
  exact vx rfl<|hR e _ _ _ (c.pick [2,3,1])
theorem Si {t seq:Int} {du:Bool} {e:SH} {r1 r2:Nat} (cs:Tl S I) (ht:1≤t∧t≤3) (c:Cx F h h [aG [rV r1 [.func (.func I.bZ) #[tJ (DE t seq du e .nilFunc)] #[]],rV r2 (HD (DE t seq du e (uw I.dT r1 r2)))]]) (hS:∀h',Ch F h h'→Zs h')
  (hR:∀h',Cx F h h' [aG []]→R (.tuple #[.iface I.aY (tJ (DE t seq du e (.func (.func I.bZ) #[tJ (DE t seq du e .nilFunc)] #[]))),nJ ⟨5,m5 t,W0,W0⟩,.bool false]) h'):tL S I (k6 g) (cA r1) (cA r2) h R:=by
 obtain ⟨⟨gv,gq,gr⟩,gk⟩ :=g
 unfold DE at c hR
 have c:=Cx.unpack (L:=[]) c
 unfold tL
 replace c:Cx _ _ _ [_,_]:=c
 refine c.v4 fun _ _ c=>?_
 refine c.v8 fun _ _ c=>?_
 refine c.rc 0 ?_
 refine aD<|c.T6 1 fun _ c=>?_
 refine c.rl 1 ?_
 refine vx rfl<|c.rl 1 ?_
 refine cs.PD (x:=⟨t,seq,du,e,.func (.func I.bZ) #[tJ ⟨t,seq,du,e,.nilFunc,false,false⟩] #[],false,false⟩) (hS _ c.gr) rfl ⟨by show -1000≤t; omega,by show t≤1000; omega⟩ fun _ g=>?_
 have c:=c.more g
 refine c.al 1 ?_
 refine vx (aL (ds:=[_,_,_,_,_,_,_,_]) rfl)<|c.w8 3 fun _ c=>?_
 refine c.rl 3 ?_
 exact hR _ (Cx.Db (L:=[]) (c.pick []))
theorem MY {t seq:Int} {du:Bool} {e:SH} {r1 r2:Nat} (cs:Tl S I) (ht:1≤t∧t≤3) (c:Cx F h h [aG [rV r1 [.func (.func I.bZ) #[tJ (DE t seq du e .nilFunc)] #[]],rV r2 (HD (DE t seq du e (uw I.dT r1 r2)))]]) (hS:∀h',Ch F h h'→Zs h')
  (hR:∀h',Cx F h h' []→R (.tuple #[.iface I.aY (tJ (DE t seq du e (.func (.func I.bZ) #[tJ (DE t seq du e .nilFunc)] #[]))),nJ ⟨5,m5 t,W0,W0⟩,.bool false]) h'):jI S I (tJ (DE t seq du e (uw I.dT r1 r2))) (k6 g) h R:=by
 obtain ⟨⟨gv,gq,gr⟩,gk⟩ :=g
 unfold jI
 replace c:Cx _ _ _ [_]:=c
 refine c.v10 fun _ _ c=>?_
 refine c.v4 fun _ _ c=>?_
 refine c.v8 fun _ _ c=>?_
 refine aD<|c.rc 1 ?_
 refine bD<|aD<|c.rc 1 ?_
 refine c.rl 2 ?_
 obtain ⟨F',c',hF,up⟩ :=c.vA (i:=0) rfl
 refine .inl (.inl ⟨I.dT,#[],#[cA r1,cA r2],rfl,cs.S2 (Si (g:=⟨⟨gv,gq,gr⟩,gk⟩) cs ht c' (fun h'' ch=>hS h'' (hF _ ch)) fun h' d=>?_)⟩)
 have c:=up (M:=[]) d
 replace c:=c.n4
 refine c.t8 3 fun _ c=>?_
 exact hR _ (c.pick [])
end
end Go.En
namespace Go.En
variable {S:Sys} {I:aZ} {h h0 h':Hp} {F F0:Fp} {R:Value→Hp→Prop} {L:List bQ} {B B':Bs}
def Dj:qd Pt:={n:=3,c:=fun p=>[.int .u8 p.cell,.int .i8 p.more,.bool p.wr],len:=fun _=>rfl,one:=fun a v h=>by simp only [List.mem_cons,List.not_mem_nil,or_false] at h; rcases h with rfl | rfl | rfl <;> rfl}
def EMx:qd (Int × SH):={n:=2,c:=fun x=>[.int .u8 x.1,aX x.2],len:=fun _=>rfl,one:=fun a v h=>by simp only [List.mem_cons,List.not_mem_nil,or_false] at h; rcases h with rfl | rfl <;> rfl}
structure KX (o:m9):Prop where
 d:o.d<256
 ps:o.ps.length≤9223372036854775807
 pt:∀p∈o.ps,p.cell<256∧-128≤p.more∧p.more≤127
def um (B:Bs) (u:SH) (ops:List m9):Prop:=∃us:List (Int × SH),(On B fun h=>Sl EMx h (aX u) us)∧us.length=ops.length∧∀(i:Nat) (a:Int × SH) (o:m9),us[i]?=some a→ops[i]?=some o→a.1=o.d∧On B fun h=>Sl Dj h (aX a.2) o.ps
theorem um.le {u:SH} {ops:List m9} (H:um B u ops) (l:B.le B'):um B' u ops:=let ⟨us,a,b,c⟩ :=H; ⟨us,a.le l,b,fun i x o h1 h2=>⟨(c i x o h1 h2).1,(c i x o h1 h2).2.le l⟩⟩
theorem um.head {u:SH} {o:m9} {r:List m9} (H:um B u (o::r)):∃us p,(On B fun h=>Sl EMx h (aX u) (((o.d:Int),p)::us))∧On B fun h=>Sl Dj h (aX p) o.ps:=by
 obtain ⟨us,a,b,c⟩ :=H
 cases us with
 | nil=>simp at b
 | cons x us=>
  obtain ⟨h1,h2⟩ :=c 0 x o rfl rfl
  obtain ⟨x1,x2⟩ :=x
  dsimp only at h1 h2
  subst h1
  exact ⟨us,x2,a,h2⟩
theorem um.ln {u:SH} {ops:List m9} (H:um B u ops) (b:B.p h):lu (aX u)=some (.int .i64 ops.length):=by
 obtain ⟨us,a,e,_⟩ :=H
 rw [←e]; exact (a h b).ln
theorem um.tail {u:SH} {o:m9} {r:List m9} (H:um B u (o::r)) (b0:B.p h):∃u',vR 2 (aX u) (some (.int .i64 1)) none none=some (aX u')∧um B u' r:=by
 obtain ⟨us,a,b,c⟩ :=H
 cases us with
 | nil=>simp at b
 | cons x us=>
  have sub:=fun h' b'=>(a h' b').sub (n:=2) rfl (lo:=some (.int .i64 1)) (hi:=none) (l:=1) (u:=(x::us).length) (.inr ⟨_,_,rfl,rfl⟩) (.inl ⟨rfl,rfl⟩) (by simp only [List.length_cons]; omega) (Nat.le_refl _)
  obtain ⟨w,ew,Hw,_⟩ :=sub h b0
  obtain ⟨u2,rfl⟩:∃u2:SH,w=aX u2:=by
   obtain ⟨a2,cap,e2,_⟩ :=Hw
   exact ⟨(a2,_,cap),e2⟩
  refine ⟨u2,ew,us,fun h' b'=>?_,by simpa using b,fun i y o h1 h2=>c (i+1) y o (by simpa using h1) (by simpa using h2)⟩
  obtain ⟨w',ew',Hw',_⟩ :=sub h' b'
  rw [List.take_length] at Hw'
  rw [ew] at ew'
  injection ew' with ew'
  rw [ew']; exact Hw'
structure Cc where
 t:Int
 seq:Int
 du:Bool
 ops:SH
 seen:SH
 now:Value
 zA:SH
 dn:SH
 sm:SH
 br:Bool
abbrev Pb (x:Cc):List Value:=[.int .i64 3,.int .i64 6,.int .i64 4,.int .i64 x.t,.int .i64 x.seq,.bool x.du,aX x.ops,aX x.seen,x.now,aX x.zA,aX x.dn,aX x.sm,.bool x.br]
abbrev C8 (x:Cc):Value:=.agg ⟨Pb x⟩
def BV (ps:List Pt) (n:Nat):List Pt:=(List.range n).filterMap fun i=>ps.find? fun p=>p.cell % 6 == i
theorem yn (ps:List Pt) (n:Nat):BV ps (n+1)=BV ps n++(ps.find? fun p=>p.cell % 6 == n).toList:=by
 unfold BV
 rw [List.range_succ,List.filterMap_append]
 congr 1
theorem B5 (ps:List Pt) (n:Nat):(BV ps n).length≤n:=by
 unfold BV
 refine Nat.le_trans (List.length_filterMap_le _ _) ?_
 rw [List.length_range]; exact Nat.le_refl _
theorem KJ {α:Type} {p:α→Bool}:∀{xs:List α} {j:Nat} {x:α},xs[j]?=some x→(∀y∈xs.take j,p y=false)→p x=true→xs.find? p=some x
 | [],j,x,h,_,_=>by simp at h
 | a::xs,0,x,h,_,hp=>by
  simp only [List.getElem?_cons_zero,Option.some.injEq] at h
  subst h
  rw [List.find?_cons,hp]
 | a::xs,j+1,x,h,hn,hp=>by
  rw [List.find?_cons,hn a (by simp)]
  exact KJ (j:=j) (by simpa using h) (fun y hy=>hn y (by simp [hy])) hp
theorem KN {α:Type} {p:α→Bool} {xs:List α} (h:∀y∈xs,p y=false):xs.find? p=none:=by
 rw [List.find?_eq_none]
 intro y hy
 rw [h y hy]; decide
section
variable {x:Cc} {o:m9} {r:List m9}
theorem P5 (b0:B.p h) (hn:x.now.oneCell'=true) (ho:um B x.ops (o::r)) (hk:KX o) (hd:¬o.d % 4=2) (hR:∀u h',Cx (fun _=>False) h h' [dA Dj (aX u) (dY o)]→R (aX u) h'):kf S I (C8 x) h R:=by
 obtain ⟨t,seq,du,ops,seen,now,zA,dn,sm,br⟩ :=x
 dsimp only at hn ho
 obtain ⟨us,p,h1,h2⟩ :=ho.head
 obtain ⟨k1,k2,k3⟩ :=hk
 have hc:dY o=BV o.ps 6:=by unfold dY; rw [if_neg hd]; rfl
 rw [hc] at hR
 unfold kf
 have c:=Cx.aA h
 refine c.KG fun c1_ _ c=>?_
 refine aD<|aD<|c.rc 0 ?_
 refine Az.by (fun (i:Nat) u v h'=>v=.int .i64 i∧i≤6∧Cx (fun _=>False) h h' [rV c1_ (Pb ⟨t,seq,du,ops,seen,now,zA,dn,sm,br⟩),dA Dj u (BV o.ps i)]) (fun i=>6 - i) 0 ⟨rfl,by decide,c.nil Dj⟩ ?_
 rintro i u _ h2' ⟨rfl,hi,c⟩ again hagain
 have hpl:=B5 o.ps i
 replace c:=c.n2
 refine vx cH<|pC (fun e11=>?_) fun e11=>?_
 ·refine .here<|aD<|c.rc 0 ?_
  refine (h1 _ (B.up b0 c.gr)).A4 (i:=0) (j:=1) rfl rfl rfl (u:=aX p) rfl ?_
  refine vx (h2 _ (B.up b0 c.gr)).ln<|Az.by (fun (j:Nat) u v h'=>v=.int .i64 j∧j≤o.ps.length∧(∀y∈o.ps.take j,(y.cell % 6 == i)=false)∧Cx (fun _=>False) h h' [rV c1_ (Pb ⟨t,seq,du,ops,seen,now,zA,dn,sm,br⟩),dA Dj u (BV o.ps i)]) (fun j=>o.ps.length - j) 0 ⟨rfl,Nat.zero_le _,(fun y hy=>by simp at hy),c⟩ ?_
  rintro j u _ h4' ⟨rfl,hj,hno,c⟩ again1 hagain1
  refine vx cH<|pC (fun e20=>?_) fun e20=>?_
  ·have hx:=List.getElem?_eq_getElem (l:=o.ps) (i:=j) (by omega)
   generalize o.ps[j]'(by omega)=pt at hx
   have hpt:=k3 pt (List.mem_of_getElem? hx)
   obtain ⟨pc,pm,pw⟩ :=pt
   dsimp only at hpt
   refine (h2 _ (B.up b0 c.gr)).whole rfl hx rfl ?_
   refine c.v3 fun _ _ c=>?_
   refine c.w3 2 fun _ c=>?_
   refine aD<|c.rc 2 ?_
   refine vx (S6 (a:=(pc:Int)) ⟨by omega,by omega⟩)<|aD<|aD<|c.rc 0 ?_
   refine vx (Fu (a:=(pc:Int)) (b:=6) (by omega) (by decide))<|vx iQ<|pC (fun e31=>?_) fun e31=>?_
   ·refine c.rl 2 ?_
    refine c.jE Dj ⟨pc,pm,pw⟩ rfl rfl fun v34 _ c=>?_
    replace c:=c.n4
    refine c.ap 1 rfl (c.sl (i:=3) rfl).sl rfl rfl (by simp only [List.length_cons,List.length_nil]; omega) (by simp only [List.length_cons,List.length_nil]; omega) fun v35 _ c=>?_
    rw [show BV o.ps i++[(⟨pc,pm,pw⟩:Pt)]=BV o.ps (i+1) from by rw [yn,KJ hx hno (by simp only [beq_iff_eq]; omega)]; rfl] at c
    replace c:=c.n4
    refine vx (inc (by omega)) ?_
    first | exact hagain (i+1) _ _ _ ⟨rfl,by omega,c.pick [0,1]⟩ (by omega) | (have c:=c.pick [0,1]; rw [show BV o.ps i=BV o.ps (i+1) from by rw [yn,KN (fun y hy=>hno y (by rw [List.take_of_length_le (by omega)]; exact hy))]; simp] at c; exact hagain (i+1) _ _ _ ⟨rfl,by omega,c⟩ (by omega))
   ·refine vx (inc (by omega))<|hagain1 (j+1) _ _ _ ⟨rfl,by omega,Ja hx hno ?_,c.pick [0,1]⟩ (by omega)
    simp only [beq_eq_false_iff_ne,ne_eq]
    omega
  ·refine vx (inc (by omega)) ?_
   first | exact hagain (i+1) _ _ _ ⟨rfl,by omega,c.pick [0,1]⟩ (by omega) | (have c:=c.pick [0,1]; rw [show BV o.ps i=BV o.ps (i+1) from by rw [yn,KN (fun y hy=>hno y (by rw [List.take_of_length_le (by omega)]; exact hy))]; simp] at c; exact hagain (i+1) _ _ _ ⟨rfl,by omega,c⟩ (by omega))
 ·refine .here ?_
  refine .here<|aD<|c.rc 0 ?_
  obtain rfl:i=6:=by omega
  refine (h1 _ (B.up b0 c.gr)).A4 (i:=0) (j:=0) rfl rfl rfl (u:=.int .u8 o.d) rfl ?_
  refine vx (Fu (by omega) (by decide))<|vx (m6 (show ¬(o.d:Int) % 4=2 by omega))<|bD<|bD ?_
  obtain ⟨u2,rfl⟩ :=(c.sl (i:=1) rfl).vO
  exact hR u2 _ (c.pick [1])
theorem LJ (cs:Tl S I) (b0:B.p h) (hZ:On B Zs) (hn:x.now.oneCell'=true) {v:Value} {l:List Pt} (hv:On B fun h=>Sl Dj h v l) (hl:l.length≤100) (hk:∀p∈l,p.cell<256) (hR:∀u h',Cx (fun _=>False) h h' [dA yh (aX u) (l.map eJ)]→R (aX u) h'):jH S I (C8 x) v h R:=by
 obtain ⟨t,seq,du,ops,seen,now,zA,dn,sm,br⟩ :=x
 dsimp only at hn
 unfold jH
 have c:=Cx.aA h
 refine c.KG fun c2_ _ c=>?_
 refine vx (hv _ (B.up b0 c.gr)).ln<|Az.by (fun (i:Nat) u v h'=>v=.int .i64 i∧i≤l.length∧Cx (fun _=>False) h h' [rV c2_ (Pb ⟨t,seq,du,ops,seen,now,zA,dn,sm,br⟩),dA yh u ((l.take i).map eJ)]) (fun i=>l.length - i) 0 ⟨rfl,Nat.zero_le _,c.nil yh⟩ ?_
 rintro i u _ h2' ⟨rfl,hi,c⟩ again hagain
 replace c:=c.n2
 refine vx cH<|pC (fun e11=>?_) fun e11=>?_
 ·have hx:=List.getElem?_eq_getElem (l:=l) (i:=i) (by omega)
  have ht1:l.take (i+1)=l.take i++[l[i]'(by omega)]:=by rw [List.take_add_one,hx]; rfl
  generalize l[i]'(by omega)=pt at hx ht1
  have hpt:=hk pt (List.mem_of_getElem? hx)
  obtain ⟨pc,pm,pw⟩ :=pt
  dsimp only at hpt
  refine (hv _ (B.up b0 c.gr)).whole rfl hx rfl ?_
  refine c.v3 fun _ _ c=>?_
  refine c.w3 2 fun _ c=>?_
  refine aD<|vx (c.vp (i:=0) (ds:=[_,_,_]) rfl rfl rfl)<|aD<|c.rc 2 ?_
  refine vx (S6 (a:=(pc:Int)) ⟨by omega,by omega⟩)<|aD<|aD<|c.rc 0 ?_
  refine vx (Fu (a:=(pc:Int)) (b:=6) (by omega) (by decide))<|cs.cell (i:=(pc:Int) % 6) _ _ (hZ _ (B.up b0 c.gr)) fun _ g=>?_
  have c:=c.more g
  refine c.jE yh (ux ((pc:Int) % 6)) rfl rfl fun v25 _ c=>?_
  replace c:=c.n4
  refine c.ap 1 rfl (c.sl (i:=3) rfl).sl rfl rfl (by simp only [List.length_map,List.length_take,List.length_cons,List.length_nil]; omega) (by simp only [List.length_map,List.length_take,List.length_cons,List.length_nil]; omega) fun v26 _ c=>?_
  replace c:=c.n4
  refine vx (inc (by omega))<|hagain (i+1) _ _ _ ⟨rfl,by omega,?_⟩ (by omega)
  rw [ht1,List.map_append]
  have e:eJ ⟨pc,pm,pw⟩=ux ((pc:Int) % 6):=by
   unfold eJ ux
   rw [if_pos (by omega)]
   dsimp only
   omega
  rw [List.map_cons,e]
  exact c.pick [0,1]
 ·obtain rfl:i=l.length:=by omega
  rw [List.take_length] at c
  obtain ⟨u2,rfl⟩ :=(c.sl (i:=1) rfl).vO
  exact hR u2 _ (c.pick [1])
end
end Go.En
namespace Go.En
variable {S:Sys} {I:aZ} {h h0 h':Hp} {F F0:Fp} {R:Value→Hp→Prop} {L:List bQ} {B B':Bs}
structure ZV (S:Sys) (I:aZ):Prop extends Tl S I where
 OA:∀{B:Bs} {x:Cc} {o:m9} {r:List m9} {h} {R:Value→Hp→Prop},B.p h→x.now.oneCell'=true→um B x.ops (o::r)→KX o→¬o.d % 4=2→(∀u h',Cx (fun _=>False) h h' [dA Dj (aX u) (dY o)]→R (aX u) h')→S.C I.fU [C8 x] h R
 Gn:∀{B:Bs} {x:Cc} {v:Value} {l:List Pt} {h} {R:Value→Hp→Prop},B.p h→On B Zs→x.now.oneCell'=true→(On B fun h=>Sl Dj h v l)→l.length≤100→(∀p∈l,p.cell<256)→(∀u h',Cx (fun _=>False) h h' [dA yh (aX u) (l.map eJ)]→R (aX u) h')→S.C I.cV [C8 x,v] h R
 Tg:∀{v:Value} {es:List Et} {du:Bool} {h} {R:Value→Hp→Prop},Zs h→Sl EE h v es→Kq es→(∀e h',Cx (fun _=>False) h h' [dA EE (aX e) es]→R (.tuple #[.iface I.aH (se (VK I du e)),.int .i64 0]) h')→S.C I.vd [vL,.bool du,v] h R
 SW:∀{v:Value} {es:List Et} {t seq:Int} {du:Bool} {h} {R:Value→Hp→Prop},Zs h→Sl EE h v es→Kq es→1≤t∧t≤3→1≤seq∧seq≤16777215→
  (∀e r1 r2 h',Cx (fun _=>False) h h' [dA EE (aX e) es,rV r1 [.func (.func I.bZ) #[tJ (DE t seq du e .nilFunc)] #[]],rV r2 (HD (DE t seq du e (uw I.dT r1 r2)))]→R (.tuple #[.iface I.aY (tJ (DE t seq du e (uw I.dT r1 r2))),.int .i64 0]) h')→S.C I.xd [vL,.int .i64 t,.int .i64 seq,.bool du,v] h R
theorem E7 {l:List Pt} {seen:List W3} {i:Nat} {p:Pt} {w:W3} (h1:l[i]?=some p) (h2:seen[i]?=some w):fQ (l.take (i+1)) (seen.take (i+1))=fQ (l.take i) (seen.take i)++[AB p w]:=by
 have a1:=(List.getElem?_eq_some_iff.1 h1).1
 have a2:=(List.getElem?_eq_some_iff.1 h2).1
 unfold fQ
 rw [List.take_add_one,List.take_add_one,h1,h2,List.zip_append (by rw [List.length_take,List.length_take]; omega),List.map_append]
 rfl
section
variable {x:Cc} {o:m9} {r:List m9} {v:Value} {l:List Pt} {seen:List W3}
theorem N8 (cs:ZV S I) (b0:B.p h) (hZ:On B Zs) (hn:x.now.oneCell'=true) (ho:um B x.ops (o::r)) (hk:KX o) (hv:On B fun h=>Sl Dj h v l) (hl:l.length≤100) (hpt:∀p∈l,p.cell<256∧-128≤p.more∧p.more≤127)
  (hs:On B fun h=>Sl EW h (aX x.seen) seen) (hsl:seen.length=l.length) (ng:Kq (fQ l seen)) (ht:1≤x.t∧x.t≤3) (hq:0≤x.seq∧x.seq<16777215) (hd:o.d % 4=0∨o.d % 4=1)
  (h1:o.d % 4=1→∀en e h',Cx (fun _=>False) h h' [dA EE (aX e) (fQ l seen)]→R (.tuple #[C8 {x with seen:=(none,0,0),zA:=en,now:=.iface I.aH (se (VK I x.du e))},.int .i64 0]) h')
  (h2:o.d % 4=0→∀en e r1 r2 h',Cx (fun _=>False) h h' [dA EE (aX e) (fQ l seen),rV r1 [.func (.func I.bZ) #[tJ (DE x.t (x.seq+1) x.du e .nilFunc)] #[]],rV r2 (HD (DE x.t (x.seq+1) x.du e (uw I.dT r1 r2)))]→R (.tuple #[C8 {x with seq:=x.seq+1,seen:=(none,0,0),zA:=en,now:=.iface I.aY (tJ (DE x.t (x.seq+1) x.du e (uw I.dT r1 r2)))},.int .i64 0]) h') :
  eD S I (C8 x) v h R:=by
 obtain ⟨t,seq,du,ops,sn,now,zA,dn,sm,br⟩ :=x
 dsimp only at hn ho hs ht hq h1 h2
 obtain ⟨us,p,g1,g2⟩ :=ho.head
 obtain ⟨k1,k2,k3⟩ :=hk
 have hel:∀i,(fQ (l.take i) (seen.take i)).length≤100:=fun i=>by
  unfold fQ
  rw [List.length_map,List.length_zip,List.length_take,List.length_take]
  omega
 unfold eD
 have c:=Cx.aA h
 refine c.KG fun c2_ _ c=>?_
 refine c.KG fun v4_ _ c=>?_
 refine aD<|c.Dz 0 fun _ c=>?_
 refine c.rl 0 ?_
 refine cs.Gn (x:=⟨t,seq,du,ops,sn,now,(none,0,0),dn,sm,br⟩) (B.up b0 c.gr) hZ hn hv hl (fun p hp=>(hpt p hp).1) fun pl _ d=>?_
 have c:=c.aE d
 replace c:=c.n3
 refine vx (hv _ (B.up b0 c.gr)).ln<|xN.by (fun (i:Nat) z h'=>z=.int .i64 i∧i≤l.length∧∃en,Cx (fun _=>False) h h' [rV c2_ (Pb ⟨t,seq,du,ops,sn,now,en,dn,sm,br⟩),rV v4_ yQ.toList,dA yh (aX pl) (l.map eJ),dA EE (aX en) (fQ (l.take i) (seen.take i))]) (fun i=>l.length - i) 0 ⟨rfl,Nat.zero_le _,(none,0,0),c.nil EE⟩ ?_
 rintro i _ h5 ⟨rfl,hi,en,c⟩ again hagain
 replace c:=c.n4
 refine vx cH<|pC (fun e20=>?_) fun e20=>?_
 ·have hx:=List.getElem?_eq_getElem (l:=l) (i:=i) (by omega)
  have hw:=List.getElem?_eq_getElem (l:=seen) (i:=i) (by omega)
  have hce:=E7 hx hw
  have hxp:(l.map eJ)[i]?=some (eJ (l[i]'(by omega))):=by rw [List.getElem?_map,hx]; rfl
  generalize l[i]'(by omega)=pt at hx hce hxp
  generalize seen[i]'(by omega)=w at hw hce
  have hpr:=hpt pt (List.mem_of_getElem? hx)
  obtain ⟨pc,pm,pw⟩ :=pt
  obtain ⟨wv,wq,wr⟩ :=w
  dsimp only at hpr
  refine (hv _ (B.up b0 c.gr)).whole rfl hx rfl ?_
  refine c.v3 fun _ _ c=>?_
  refine c.w3 4 fun _ c=>?_
  refine aD<|c.rc 0 ?_
  refine (hs _ (B.up b0 c.gr)).whole rfl hw rfl ?_
  refine c.v3 fun _ _ c=>?_
  refine c.w3 5 fun _ c=>?_
  obtain ⟨r5,o5,e5,row5,_⟩ :=(c.sl (i:=2) rfl).sl.ix hxp (n:=1) rfl (k:=.i64) (z:=(i:Int)) rfl
  refine vx e5<|vx (row5.Co rfl)<|aD<|c.rc 5 ?_
  refine aD<|c.rc 5 ?_
  refine vx (aL (ds:=[_,_,_]) rfl)<|aD<|c.rc 5 ?_
  refine aD<|c.rc 4 ?_
  refine vx (aL (ds:=[_,_,_,_,_,_]) rfl)<|c.v6 fun _ _ c=>?_
  refine c.ac 4 ?_
  refine c.ac 5 ?_
  refine c.ac 5 ?_
  refine c.ac 5 ?_
  refine And.intro (by obtain ⟨r6,o6,e6,row6,_⟩ :=(c.sl (i:=2) rfl).sl.ix hxp (n:=1) rfl (k:=.i64) (z:=(i:Int)) rfl; rw [e5] at e6; injection e6 with e6; injection e6 with e6; injection e6 with e6; injection e6 with e7 e8; subst e7 e8; exact row6.Co rfl) ?_
  refine c.w6 6 fun _ c=>?_
  refine .here<|aD<|c.rc 4 ?_
  refine En.br (fun e44=>?_) fun e44=>?_
  ·refine aD<|c.rc 5 ?_
   refine aD<|c.rc 4 ?_
   refine vx (S6 (a:=pm) ⟨by omega,by omega⟩)<|vx (qo _ _)<|aD<|c.q6 6 fun _ c=>?_
   refine aD<|c.rc 0 ?_
   refine c.rl 6 ?_
   refine c.jE EE (AB ⟨pc,pm,pw⟩ ⟨wv,wq,wr⟩) rfl (by subst e44; rfl) fun v55 _ c=>?_
   replace c:=c.n8
   have hl1:=hel i
   refine c.ap 3 rfl (c.sl (i:=7) rfl).sl rfl rfl (by simp only [List.length_cons,List.length_nil]; omega) (by simp only [List.length_cons,List.length_nil]; omega) fun v56 _ c=>?_
   rw [←hce] at c
   obtain ⟨en2,rfl⟩ :=(c.sl (i:=3) rfl).vO
   replace c:=c.n8
   refine aD<|c.Dz 0 fun _ c=>?_
   exact vx (inc (by omega))<|hagain (i+1) _ _ ⟨rfl,by omega,en2,c.pick [0,1,2,3]⟩ (by omega)
  ·refine aD<|c.rc 0 ?_
   refine c.rl 6 ?_
   refine c.jE EE (AB ⟨pc,pm,pw⟩ ⟨wv,wq,wr⟩) rfl (by subst e44; rfl) fun v55 _ c=>?_
   replace c:=c.n8
   have hl1:=hel i
   refine c.ap 3 rfl (c.sl (i:=7) rfl).sl rfl rfl (by simp only [List.length_cons,List.length_nil]; omega) (by simp only [List.length_cons,List.length_nil]; omega) fun v56 _ c=>?_
   rw [←hce] at c
   obtain ⟨en2,rfl⟩ :=(c.sl (i:=3) rfl).vO
   replace c:=c.n8
   refine aD<|c.Dz 0 fun _ c=>?_
   exact vx (inc (by omega))<|hagain (i+1) _ _ ⟨rfl,by omega,en2,c.pick [0,1,2,3]⟩ (by omega)
 ·refine aD<|c.Dz 0 fun _ c=>?_
  refine .here<|aD<|c.rc 0 ?_
  obtain rfl:i=l.length:=by omega
  rw [List.take_of_length_le (Nat.le_refl _),List.take_of_length_le (by omega)] at c
  refine (g1 _ (B.up b0 c.gr)).A4 (i:=0) (j:=0) rfl rfl rfl (u:=.int .u8 o.d) rfl ?_
  refine vx (Fu (a:=(o.d:Int)) (b:=4) (by omega) (by decide))<|vx iQ<|pC (fun e87=>?_) fun e87=>?_
  ·refine aD<|vx (c.vp (i:=0) (ds:=[_,_,_]) rfl rfl rfl)<|aD<|c.rc 0 ?_
   refine aD<|c.rc 0 ?_
   refine cs.Tg (hZ _ (B.up b0 c.gr)) (c.sl (i:=3) rfl).sl ng fun e _ d=>?_
   have c:=c.aE d
   replace c:=c.n5
   refine vx rfl<|vx rfl<|aD<|c.Dz 0 fun _ c=>?_
   refine c.rl 0 ?_
   refine c.RT 1 fun _ c=>?_
   refine c.rl 1 ?_
   first | exact h1 (by omega) en e _ (c.pick [4]) | exact h2 (by omega) en e _ _ _ (c.pick [4,5,6])
  ·refine .here<|vx (m6 (show ¬(o.d:Int) % 4=2 by omega))<|bD<|bD<|aD<|c.rc 0 ?_
   refine vx (qV (a:=seq) (b:=1) ⟨by omega,by omega⟩)<|aD<|c.Dz 0 fun _ c=>?_
   refine aD<|vx (c.vp (i:=0) (ds:=[_,_,_]) rfl rfl rfl)<|aD<|c.rc 0 ?_
   refine aD<|c.rc 0 ?_
   refine aD<|c.rc 0 ?_
   refine aD<|c.rc 0 ?_
   refine cs.SW (hZ _ (B.up b0 c.gr)) (c.sl (i:=3) rfl).sl ng ht ⟨by omega,by omega⟩ fun e r1 r2 _ d=>?_
   have c:=c.aE d
   replace c:=c.n7
   refine vx rfl<|vx rfl<|aD<|c.Dz 0 fun _ c=>?_
   refine c.rl 0 ?_
   refine c.RT 1 fun _ c=>?_
   refine c.rl 1 ?_
   first | exact h1 (by omega) en e _ (c.pick [4]) | exact h2 (by omega) en e _ _ _ (c.pick [4,5,6])
end
end Go.En
namespace Go.En
variable {S:Sys} {I:aZ} {h h0 h':Hp} {F F0:Fp} {R:Value→Hp→Prop} {L:List bQ} {B B':Bs}
def P7:qd Bool:={n:=1,c:=fun b=>[.bool b],len:=fun _=>rfl,one:=fun a v h=>by simp only [List.mem_singleton] at h; subst h; rfl}
def Ff (I:aZ) (B:Bs) (W:bQ) (v:Value):Cd→Prop
 | .sw s=>∃u,v=.iface I.aY u∧W=aG []∧Jg I B u s
 | .bl s=>∃u,v=.iface I.aH u∧Su I B W u s
 | .pk _=>False
def VZ (I:aZ) (B:Bs) (W:bQ) (v:Value):Option Cd→Prop
 | none=>v=.nilIface∧W=aG []
 | some d=>Ff I B W v d
structure SM (B:Bs) (c:Cn) (x:Cc):Prop where
 t:x.t=c.t
 seq:x.seq=c.seq
 du:x.du=c.fO
 ops:um B x.ops c.ops
 seen:On B fun h=>Sl EW h (aX x.seen) c.seen
 dn:On B fun h=>Sl P7 h (aX x.dn) c.done
 sm:On B fun h=>Sl yh h (aX x.sm) c.OD
 br:x.br=c.broken
def N7 (I:aZ) (B:Bs) (W:bQ) (v:Value) (c:Cn):Prop:=∃x,v=C8 x∧SM B c x∧VZ I B W x.now c.now
theorem Ff.le {W:bQ} {v:Value} {d:Cd} (H:Ff I B W v d) (l:B.le B'):Ff I B' W v d:=by
 cases d with
 | sw s=>obtain ⟨u,a,b,c⟩ :=H; exact ⟨u,a,b,c.le l⟩
 | bl s=>obtain ⟨u,a,x,b,c⟩ :=H; exact ⟨u,a,x,b,c.le l⟩
 | pk s=>exact H
theorem VZ.le {W:bQ} {v:Value} {d:Option Cd} (H:VZ I B W v d) (l:B.le B'):VZ I B' W v d:=by
 cases d with
 | none=>exact H
 | some d=>exact Ff.le H l
theorem SM.le {c:Cn} {x:Cc} (H:SM B c x) (l:B.le B'):SM B' c x:=⟨H.t,H.seq,H.du,H.ops.le l,H.seen.le l,H.dn.le l,H.sm.le l,H.br⟩
theorem N7.le {W:bQ} {v:Value} {c:Cn} (H:N7 I B W v c) (l:B.le B'):N7 I B' W v c:=let ⟨x,a,b,d⟩ :=H; ⟨x,a,b.le l,d.le l⟩
theorem Ff.one {W:bQ} {v:Value} {d:Cd} (H:Ff I B W v d):v.oneCell'=true:=by
 cases d with
 | sw s=>obtain ⟨u,rfl,b,c⟩ :=H; rfl
 | bl s=>obtain ⟨u,rfl,b⟩ :=H; rfl
 | pk s=>exact H.elim
def Ny (S:Sys) (I:aZ) (B:Bs) (W:bQ) (v:Value) (g:iM) (V:Bs→bQ→Value→Prop) (a:Ac) (d:Bool):Prop:=
 ∀h F (R:Value→Hp→Prop),Cx F h h [W]→(∀h',Ch F h h'→B.p h')→(∀v W M h',Cx F h h' [W,aG M]→V (B.and M) W v→R (.tuple #[v,nJ a,.bool d]) h')→Ci S.C I.mt "Next" v [k6 g] h R
section
variable {x:Cc} {W:bQ} {g:iM} {a:Ac} {V:Bs→bQ→Value→Prop}
theorem IY (hn:x.now.oneCell'=true) (hN:Ny S I B W x.now g V a false) (hV:∀B W v,V B W v→v.oneCell'=true) (c:Cx F h h [W]) (hB:∀h',Ch F h h'→B.p h')
  (hR:CE I.aK F h B (fun B W v=>∃u,v=C8 {x with now:=u}∧V B W u) a false R):bT S I (C8 x) (k6 g) h R:=by
 obtain ⟨t,seq,du,ops,sn,now,zA,dn,sm,br⟩ :=x
 dsimp only at hn hN hR
 obtain ⟨⟨gv,gq,gr⟩,gk⟩ :=g
 obtain ⟨ao,aa,⟨ov,oq,or⟩,⟨nv,nq,nr⟩⟩ :=a
 unfold bT
 replace c:Cx _ _ _ [_]:=c
 refine c.KG fun _ _ c=>?_
 refine c.v4 fun _ _ c=>?_
 refine c.v8 fun _ _ c=>?_
 refine aD<|c.rc 1 ?_
 refine c.rl 2 ?_
 obtain ⟨F',c',hF,up⟩ :=c.vA (i:=0) rfl
 refine hN _ F' _ c' (fun h'' ch=>hB h'' (hF _ ch)) fun v' W' M _ d ok=>?_
 have c:=up d
 have hn':=hV _ _ _ ok
 replace c:=c.n5
 refine vx rfl<|vx rfl<|vx rfl<|c.v8 fun _ _ c=>?_
 refine c.w8 5 fun _ c=>?_
 refine aD<|c.Dz 1 fun _ c=>?_
 refine vx (v:=.bool true) (rfl)<|eR<|c.rl 1 ?_
 refine vx rfl<|c.rl 5 ?_
 refine c.w8 3 fun _ c=>?_
 refine c.rl 3 ?_
 exact hR _ W' M _ (c.pick [0,4]) ⟨v',rfl,ok⟩
end
end Go.En
namespace Go.En
variable {S:Sys} {I:aZ} {h h0 h':Hp} {F F0:Fp} {R:Value→Hp→Prop} {L:List bQ} {B B':Bs}
structure NY (S:Sys) (I:aZ) (B:Bs) (v:Value) (q2 ok:Bool):Prop where
 one:v.oneCell'=true
 ans:∃(p q p2:Bool) (b:Int),((q2=true∧p2=ok)∨(q2=false∧q=true∧p=ok))∧(∀h (R:Value→Hp→Prop),B.p h→(∀h',Gr h h'→R (.tuple #[.bool p,.bool q]) h')→S.C I.qg [v] h R)∧
  (∀h (R:Value→Hp→Prop),B.p h→(∀h',Gr h h'→R (.tuple #[.bool p2,.int .i64 b,.bool q2]) h')→S.C I.po [v] h R)∧
  (∀h (R:Value→Hp→Prop),B.p h→(∀h',Gr h h'→R (.tuple #[aX (none,0,0),.bool false]) h')→S.C I.rJ [v] h R)
structure YF (S:Sys) (I:aZ):Prop extends ZV S I where
 NH:∀{x:Value} {h R},nW S I x h R→S.C I.qg [x] h R
 NO:∀{x:Value} {h R},nh S I x h R→S.C I.po [x] h R
 PK:∀{x:Value} {h R},tV S I x h R→S.C I.rJ [x] h R
 ne1:¬I.aY=I.aH
 ne2:¬I.aY=I.qO
 ne3:¬I.aH=I.qO
theorem E2 {v:Value} {t:TypeId} (hne:¬t=I.qO) (hR:∀h',Gr h h'→R (.tuple #[aX (none,0,0),.bool false]) h'):tV S I (.iface t v) h R:=by
 unfold tV
 have c:=Cx.aA h
 refine vx (v:=.tuple #[.agg G2,.bool false]) (by simp [C3,hne])<|vx rfl<|vx rfl<|c.TJ fun _ _ c=>?_
 refine c.w16 0 fun _ c=>?_
 exact .here<|vx (v:=.bool true) (rfl)<|eR<|eR<|hR _ c.gr
theorem Xp (cs:YF S I) {u:Value} {s:Sw} {ok:Bool} (hv:Jg I B u s) (hp:s.ph=.over ok):NY S I B (.iface I.aY u) false ok:=by
 unfold Jg at hv
 rw [hp] at hv
 exact ⟨rfl,ok,true,false,0,.inr ⟨rfl,rfl,rfl⟩,fun h R b hR=>cs.NH (MU hv hR),fun h R b hR=>cs.NO (H5 cs.ne1 hR),fun h R b hR=>cs.PK (E2 cs.ne2 hR)⟩
theorem We (cs:YF S I) {u:Value} {s:Bk} {W:bQ} (hv:Su I B W u s) (hp:s.ph=.over):NY S I B (.iface I.aH u) true s.done:=
 ⟨rfl,false,false,s.done,s.bad,.inl ⟨rfl,rfl⟩,fun h R b hR=>cs.NH (Io (fun e=>cs.ne1 e.symm) hR),fun h R b hR=>cs.NO (MP hv hp hR),fun h R b hR=>cs.PK (E2 cs.ne3 hR)⟩
section
variable {x:Cc} {W:bQ} {g:iM} {a:Ac} {ok:Bool} {c':Cn} {o:m9} {r:List m9} {out:CR} {q2:Bool}
theorem O0 (hn:x.now.oneCell'=true) (hx:SM B c' x) (hb:c'.broken=false) (ho:c'.ops=o::r) (hlen:c'.done.length≤1000) (hN:Ny S I B W x.now g (fun B W v=>W=aG []∧NY S I B v q2 ok) a true) (c:Cx F h h [W]) (hB:∀h',Ch F h h'→B.p h')
  (hI:∀(x':Cc) (B':Bs) h1 K,B.le B'→B'.p h1→SM B' {c' with done:=c'.done++[ok],ops:=r,now:=none} x'→x'.now=.nilIface→CE I.aK AU h1 B' (fun B W v=>N7 I B W v out.1) out.2.1 out.2.2 K→S.C I.dC [C8 x',k6 qY] h1 K)
  (hR:CE I.aK F h B (fun B W v=>N7 I B W v out.1) out.2.1 out.2.2 R):bT S I (C8 x) (k6 g) h R:=by
 obtain ⟨t,seq,du,ops,sn,now,zA,dn,sm,br⟩ :=x
 dsimp only at hn hN
 obtain ⟨⟨gv,gq,gr⟩,gk⟩ :=g
 obtain ⟨y1,y2,y3,y4,y5,y6,y7,y8⟩ :=hx
 dsimp only at y1 y2 y3 y4 y5 y6 y7 y8
 rw [hb] at y8
 subst y8
 rw [ho] at y4
 obtain ⟨co,ca,cd⟩ :=out
 obtain ⟨ao,aa,⟨ov,oq,or⟩,⟨nv,nq,nr⟩⟩ :=a
 cases q2 with
 | false=>
  unfold bT
  replace c:Cx _ _ _ [_]:=c
  refine c.KG fun _ _ c=>?_
  refine c.v4 fun _ _ c=>?_
  refine c.v8 fun _ _ c=>?_
  refine aD<|c.rc 1 ?_
  refine c.rl 2 ?_
  obtain ⟨F',d',hF,up⟩ :=c.vA (i:=0) rfl
  refine hN _ F' _ d' (fun h'' ch=>hB h'' (hF _ ch)) fun v' W' M _ d ok'=>?_
  have c:=up d
  obtain ⟨rfl,hone,p,q,p2,bb,hpq,a1,a2,a3⟩ :=ok'
  obtain ⟨rfl,rfl⟩:q=true∧p=ok:=hpq.elim (fun x=>Bool.noConfusion x.1) (fun x=>⟨x.2.1,x.2.2⟩)
  replace c:=c.n5
  refine vx rfl<|vx rfl<|vx rfl<|c.v8 fun _ _ c=>?_
  refine c.w8 5 fun _ c=>?_
  refine aD<|c.Dz 1 fun _ c=>?_
  refine vx (v:=.bool false) (rfl)<|bD<|a1 _ _ ⟨hB _ c.gr,c.get (i:=4) rfl⟩ fun _ g=>?_
  have c:=c.more g
  refine vx rfl<|vx rfl ?_
  refine .here<|a2 _ _ ⟨hB _ c.gr,c.get (i:=4) rfl⟩ fun _ g=>?_
  have c:=c.more g
  refine vx rfl<|vx rfl<|vx (v:=.bool false) (rfl)<|bD ?_
  refine .here<|a3 _ _ ⟨hB _ c.gr,c.get (i:=4) rfl⟩ fun _ g=>?_
  have c:=c.more g
  refine vx rfl<|vx (v:=.bool false) (rfl)<|bD ?_
  refine .here<|aD<|c.rc 1 ?_
  refine bD<|vx rfl<|aD<|c.Dz 1 fun _ c=>?_
  refine c.Jc P7 fun v80 _ c=>?_
  replace c:=c.n7
  refine aD<|c.rc 1 ?_
  refine c.ap 6 rfl (y6 _ (hB _ c.gr)) rfl rfl (by simp only [List.length_nil]; omega) (by simp only [List.length_nil]; omega) fun v83 _ c=>?_
  replace c:=c.n7
  refine c.jE P7 p rfl rfl fun v85 _ c=>?_
  replace c:=c.n8
  refine c.ap 6 rfl (c.sl (i:=7) rfl).sl rfl rfl (by simp only [List.length_nil,List.length_append,List.length_cons]; omega) (by simp only [List.length_nil,List.length_append,List.length_cons]; omega) fun v86 _ c=>?_
  obtain ⟨dn',rfl⟩ :=(c.sl (i:=6) rfl).vO
  obtain ⟨u',hsl,hops⟩ :=y4.tail (hB _ c.gr)
  replace c:=c.n8
  refine aD<|c.Dz 1 fun _ c=>?_
  refine aD<|c.rc 1 ?_
  refine vx hsl<|aD<|c.Dz 1 fun _ c=>?_
  refine aD<|c.Dz 1 fun _ c=>?_
  refine aD<|c.Dz 1 fun _ c=>?_
  refine c.rl 1 ?_
  refine vx (aL (ds:=[_,_,_,_]) rfl) ?_
  have c:=Cx.pack (L:=[_]) (M:=[aG M,dA P7 (aX dn') (([]++c'.done)++[p])]) (c.pick [3,4,6])
  refine hI ⟨t,seq,du,u',sn,.nilIface,(none,0,0),dn',sm,false⟩ (B.and [aG M,dA P7 (aX dn') (([]++c'.done)++[p])]) _ _ (Bs.aR _ _) ⟨hB _ c.gr,c.get (i:=1) rfl⟩ ⟨y1,y2,y3,hops.le (Bs.aR _ _),y5.le (Bs.aR _ _),?_,y7.le (Bs.aR _ _),hb.symm⟩ rfl fun v2 W2 M2 _ d ok2=>?_
  ·intro h b; obtain ⟨_,F,p⟩ :=b; exact ((Cx.star p).sl (i:=1) rfl).sl
  have c:=c.aE d
  replace c:=c.n4
  refine c.t8 0 fun _ c=>?_
  exact hR v2 W2 _ _ (Cx.pack (L:=[_]) (M:=[_,_]) (c.pick [2,1,3])) (ok2.le Bs.MA)
 | true=>
  unfold bT
  replace c:Cx _ _ _ [_]:=c
  refine c.KG fun _ _ c=>?_
  refine c.v4 fun _ _ c=>?_
  refine c.v8 fun _ _ c=>?_
  refine aD<|c.rc 1 ?_
  refine c.rl 2 ?_
  obtain ⟨F',d',hF,up⟩ :=c.vA (i:=0) rfl
  refine hN _ F' _ d' (fun h'' ch=>hB h'' (hF _ ch)) fun v' W' M _ d ok'=>?_
  have c:=up d
  obtain ⟨rfl,hone,p,q,p2,bb,hpq,a1,a2,a3⟩ :=ok'
  obtain rfl:p2=ok:=hpq.elim (fun x=>x.2) (fun x=>Bool.noConfusion x.1)
  replace c:=c.n5
  refine vx rfl<|vx rfl<|vx rfl<|c.v8 fun _ _ c=>?_
  refine c.w8 5 fun _ c=>?_
  refine aD<|c.Dz 1 fun _ c=>?_
  refine vx (v:=.bool false) (rfl)<|bD<|a1 _ _ ⟨hB _ c.gr,c.get (i:=4) rfl⟩ fun _ g=>?_
  have c:=c.more g
  refine vx rfl<|vx rfl ?_
  refine .here<|a2 _ _ ⟨hB _ c.gr,c.get (i:=4) rfl⟩ fun _ g=>?_
  have c:=c.more g
  refine vx rfl<|vx rfl<|vx (v:=.bool true) (rfl)<|eR ?_
  refine .here<|a3 _ _ ⟨hB _ c.gr,c.get (i:=4) rfl⟩ fun _ g=>?_
  have c:=c.more g
  refine vx rfl<|vx (v:=.bool false) (rfl)<|bD ?_
  refine .here<|aD<|c.rc 1 ?_
  refine bD<|vx rfl<|aD<|c.Dz 1 fun _ c=>?_
  refine c.Jc P7 fun v80 _ c=>?_
  replace c:=c.n7
  refine aD<|c.rc 1 ?_
  refine c.ap 6 rfl (y6 _ (hB _ c.gr)) rfl rfl (by simp only [List.length_nil]; omega) (by simp only [List.length_nil]; omega) fun v83 _ c=>?_
  replace c:=c.n7
  refine c.jE P7 p2 rfl rfl fun v85 _ c=>?_
  replace c:=c.n8
  refine c.ap 6 rfl (c.sl (i:=7) rfl).sl rfl rfl (by simp only [List.length_nil,List.length_append,List.length_cons]; omega) (by simp only [List.length_nil,List.length_append,List.length_cons]; omega) fun v86 _ c=>?_
  obtain ⟨dn',rfl⟩ :=(c.sl (i:=6) rfl).vO
  obtain ⟨u',hsl,hops⟩ :=y4.tail (hB _ c.gr)
  replace c:=c.n8
  refine aD<|c.Dz 1 fun _ c=>?_
  refine aD<|c.rc 1 ?_
  refine vx hsl<|aD<|c.Dz 1 fun _ c=>?_
  refine aD<|c.Dz 1 fun _ c=>?_
  refine aD<|c.Dz 1 fun _ c=>?_
  refine c.rl 1 ?_
  refine vx (aL (ds:=[_,_,_,_]) rfl) ?_
  have c:=Cx.pack (L:=[_]) (M:=[aG M,dA P7 (aX dn') (([]++c'.done)++[p2])]) (c.pick [3,4,6])
  refine hI ⟨t,seq,du,u',sn,.nilIface,(none,0,0),dn',sm,false⟩ (B.and [aG M,dA P7 (aX dn') (([]++c'.done)++[p2])]) _ _ (Bs.aR _ _) ⟨hB _ c.gr,c.get (i:=1) rfl⟩ ⟨y1,y2,y3,hops.le (Bs.aR _ _),y5.le (Bs.aR _ _),?_,y7.le (Bs.aR _ _),hb.symm⟩ rfl fun v2 W2 M2 _ d ok2=>?_
  ·intro h b; obtain ⟨_,F,p⟩ :=b; exact ((Cx.star p).sl (i:=1) rfl).sl
  have c:=c.aE d
  replace c:=c.n4
  refine c.t8 0 fun _ c=>?_
  exact hR v2 W2 _ _ (Cx.pack (L:=[_]) (M:=[_,_]) (c.pick [2,1,3])) (ok2.le Bs.MA)
end
end Go.En
namespace Go.En
variable {S:Sys} {I:aZ} {h h0 h':Hp} {F F0:Fp} {R:Value→Hp→Prop} {L:List bQ} {B B':Bs}
structure XJ (S:Sys) (I:aZ):Prop extends YF S I where
 Kn:∀{x y:Value} {h R},gU S I x y h R→S.C I.l5 [x,y] h R
 JO:∀{x y:Value} {h R},jI S I x y h R→S.C I.pH [x,y] h R
 TH:I.mt I.aH "Next"=some I.l5
theorem Lp:∀{es:List Et},(∀(i:Nat) (a b:Et),es[i]?=some a→es[i+1]?=some b→a.at'<b.at')→Rj es=true
 | [],_=>rfl
 | [a],_=>rfl
 | a::b::r,H=>by
  unfold Rj
  rw [decide_eq_true (H 0 a b rfl rfl),Bool.true_and]
  exact Lp fun i a b h1 h2=>H (i+1) a b h1 h2
theorem Kq.bw {es:List Et} (ok:Kq es):Gu es=0:=by
 unfold Gu
 have h1:=ok.UW
 have h2:=ok.len
 rw [if_neg (fun x=>x h1),if_neg (by omega),Lp ok.Qb,if_neg (fun x=>Bool.noConfusion x),List.all_eq_true.2 ok.may,if_neg (fun x=>Bool.noConfusion x)]
theorem Kq.srt {es:List Et} (ok:Kq es):kV es=true:=by
 have:∀(n i:Nat),es.length - i=n→kV (es.drop i)=true:=fun n=>by
  induction n with
  | zero=>intro i h; exact rX (by omega)
  | succ n ih=>
   intro i h
   by_cases h2:i+1<es.length
   ·have h3:=List.getElem?_eq_getElem (l:=es) (i:=i) (by omega)
    have h4:=List.getElem?_eq_getElem (l:=es) (i:=i+1) h2
    rw [Af h3 h4,ih (i+1) (by omega),Bool.and_true]
    exact decide_eq_true (Int.le_of_lt (ok.Qb i _ _ h3 h4))
   ·exact rX (by omega)
 exact this _ 0 rfl
theorem Kq.sw {es:List Et} (ok:Kq es) {t:Nat} {seq:Int} (ht:1≤t∧t≤3) (hq:1≤seq∧seq≤16777215):GI t seq es=0:=by
 unfold GI
 have h1:=ok.UW
 rw [if_neg (by omega),if_neg (fun x=>x h1),ok.srt,if_neg (fun x=>Bool.noConfusion x),if_neg]
 intro x
 obtain ⟨e,he,hm⟩ :=List.any_eq_true.1 x
 rw [ok.may e he] at hm
 exact Bool.noConfusion hm
section
variable {g:iM} {es:List Et} {du:Bool} {e:SH}
theorem Zh (cs:XJ S I) (hZ:On B Zs) (he:On B fun h=>Sl EE h (aX e) es):Ny S I B (aG []) (.iface I.aH (se (VK I du e))) g (fun B W v=>Ff I B W v (.bl (Ba du es))) ⟨5,lP,W0,W0⟩ false:=by
 intro h F R c hB hR
 refine ⟨_,_,_,rfl,cs.TH,cs.Kn (L1 cs.toTq (hB _ c.gr) hZ he fun v W M h' c' ok=>?_)⟩
 exact hR _ W M h' ((c.aE c').pick [1,2]) ⟨v,rfl,ok⟩
theorem aak (cs:XJ S I) (hZ:On B Zs) (he:On B fun h=>Sl EE h (aX e) es) {t:Nat} {seq:Int} {r1 r2:Nat} (ht:1≤t∧t≤3) :
  Ny S I B (aG [rV r1 [.func (.func I.bZ) #[tJ (DE t seq du e .nilFunc)] #[]],rV r2 (HD (DE t seq du e (uw I.dT r1 r2)))]) (.iface I.aY (tJ (DE t seq du e (uw I.dT r1 r2)))) g (fun B W v=>Ff I B W v (.sw (J8 t seq du es))) ⟨5,m5 t,W0,W0⟩ false:=by
 intro h F R c hB hR
 refine ⟨_,_,_,rfl,cs.U7,cs.JO (MY cs.toTl (by omega) c (fun h' ch=>hZ _ (hB _ ch)) fun h' c'=>?_)⟩
 exact hR _ (aG []) [] h' (Cx.Db (L:=[aG []]) (Cx.Db (L:=[]) c')) ⟨_,rfl,rfl,DE t seq du e _,DE t seq du e .nilFunc,rfl,⟨rfl,rfl,rfl,he.le (Bs.aR _ _),rfl,rfl,rfl⟩,rfl,⟨rfl,rfl,rfl,he.le (Bs.aR _ _),rfl,rfl,rfl⟩⟩
end
section
variable {x:Cc} {c:Cn} {o:m9} {r:List m9} {v:Value} {l:List Pt} {seen:List W3} {g:iM}
theorem LM (cs:XJ S I) (b0:B.p h) (hZ:On B Zs) (hx:SM B c x) (hn:x.now.oneCell'=true) (ho:c.ops=o::r) (hk:KX o) (hv:On B fun h=>Sl Dj h v l) (hl:l.length≤100) (hpt:∀p∈l,p.cell<256∧-128≤p.more∧p.more≤127)
  (hs:On B fun h=>Sl EW h (aX x.seen) seen) (hsl:seen.length=l.length) (ng:Kq (fQ l seen)) (ht:1≤c.t∧c.t≤3) (hq:0≤c.seq∧c.seq<16777215) (hd:o.d % 4=0∨o.d % 4=1)
  (hR:∀en u sq d a W M h',Cx AU h h' [aG M,W]→u.oneCell'=true→inl .eql u=some (.bool false)→Ny S I (B.and M) W u g (fun B W v=>Ff I B W v d) a false→tf c o l seen=(some {c with seen:=[],seq:=sq,now:=some d},a)→R (.tuple #[C8 {x with seq:=sq,seen:=(none,0,0),zA:=en,now:=u},.int .i64 0]) h') :
  eD S I (C8 x) v h R:=by
 have y4:=hx.ops
 rw [ho] at y4
 have e1:=hx.t
 have e2:=hx.seq
 have e3:=hx.du
 have hsub:∀{e:SH} {L:List bQ},On (B.and (dA EE (aX e) (fQ l seen)::L)) fun h=>Sl EE h (aX e) (fQ l seen):=fun {e L} h b=>by
  obtain ⟨_,F,p⟩ :=b
  exact ((Cx.star p).sl (i:=0) rfl).sl
 refine N8 cs.toZV b0 hZ hn y4 hk hv hl hpt hs hsl ng (by omega) (by omega) hd (fun hd1 en e h' c'=>?_) (fun hd0 en e r1 r2 h' c'=>?_)
 ·refine hR en (.iface I.aH (se (VK I x.du e))) x.seq (.bl (Ba c.fO (fQ l seen))) ⟨5,lP,W0,W0⟩ (aG []) [dA EE (aX e) (fQ l seen)] h' (Cx.Db (L:=[_]) (c'.pack (L:=[]) (M:=[_]))) rfl rfl ?_ ?_
  ·rw [e3]
   exact Zh cs (hZ.le (Bs.aR _ _)) hsub
  ·unfold tf
   dsimp only
   rw [if_pos hd1,if_pos ng.bw,e2]
 ·refine hR en _ (x.seq+1) (.sw (J8 c.t (c.seq+1) c.fO (fQ l seen))) ⟨5,m5 c.t,W0,W0⟩ (aG _) [dA EE (aX e) (fQ l seen)] h' ?_ rfl rfl (by rw [e1,e2,e3]; exact aak cs (hZ.le (Bs.aR _ _)) hsub ht) ?_
  ·rw [e1,e2,e3] at c'
   have c2:=Cx.pack (L:=[_,_]) (M:=[_]) (c'.pick [1,2,0])
   exact Cx.pack (L:=[_]) (M:=[_,_]) (c2.pick [2,0,1])
  ·unfold tf
   dsimp only
   rw [if_neg (by omega),if_neg (by omega),if_pos (ng.sw ht (by omega)),e2]
end
end Go.En
namespace Go.En
variable {S:Sys} {I:aZ} {h h0 h':Hp} {F F0:Fp} {R:Value→Hp→Prop} {L:List bQ} {B B':Bs}
structure ZC (S:Sys) (I:aZ):Prop extends XJ S I where
 OZ:∀{x y:Value} {h R},eD S I x y h R→S.C I.fT [x,y] h R
 OQ:∀{x y:Value} {h R},bT S I x y h R→S.C I.eO [x,y] h R
def bU (c:Cn) (g:iM):List W3:=if c.seen=[] then [] else c.seen.dropLast++[g.w]
structure YT (c:Cn) (g:iM):Prop where
 t:1≤c.t∧c.t≤3
 seq:0≤c.seq∧c.seq<16777215
 ops:∀o∈c.ops,KX o∧(o.d % 4=0∨o.d % 4=1)
 seen:c.seen.length≤6
 beg:∀o r,oG c.ops=o::r→¬(bU c g).length<(dY o).length→(bU c g).length=(dY o).length∧Kq (fQ (dY o) (bU c g))
theorem vT:∀{l:List m9} {o:m9} {r:List m9},oG l=o::r→o∈l
 | [],_,_,h=>by cases h
 | x::l,o,r,h=>by
  rw [oG] at h
  split at h
  ·exact List.mem_cons_of_mem _ (vT h)
  ·injection h with h1 h2
   subst h1
   exact List.mem_cons_self
theorem si {o:m9} {r:List m9} (h:o.ps=[]):oG (o::r)=oG r:=by rw [oG,if_pos h]
theorem qM {o:m9} {r:List m9} (h:¬o.ps=[]):oG (o::r)=o::r:=by rw [oG,if_neg h]
theorem rF {o:m9} (hd:¬o.d % 4=2):dY o=BV o.ps 6:=by unfold dY; rw [if_neg hd]; rfl
theorem DU {o:m9} (hd:¬o.d % 4=2) {p:Pt} (h:p∈dY o):p∈o.ps:=by
 rw [rF hd] at h
 unfold BV at h
 obtain ⟨i,_,h⟩ :=List.mem_filterMap.1 h
 exact List.mem_of_find?_eq_some h
section
variable {x:Cc} {c':Cn} {g:iM}
theorem KV (cs:ZC S I) (b0:B.p h) (hZ:On B Zs) (hx:SM B c' x) (hn:x.now=.nilIface) (hc:c'.now=none) (hb:c'.broken=false) (ok:YT c' g)
  (hR:CE I.aK AU h B (fun B W v=>N7 I B W v (mC c' g).1) (mC c' g).2.1 (mC c' g).2.2 R):cJ S I (C8 x) (k6 g) h R:=by
 obtain ⟨t,seq,du,ops,sn,now,zA,dn,sm,br⟩ :=x
 dsimp only at hn
 subst hn
 obtain ⟨k1,k2,k3,k4,k5⟩ :=ok
 obtain ⟨⟨gv,gq,gr⟩,gk⟩ :=g
 obtain ⟨y1,y2,y3,y4,y5,y6,y7,y8⟩ :=hx
 dsimp only at y1 y2 y3 y4 y5 y6 y7 y8
 rw [hb] at y8
 subst y8
 unfold cJ
 have c:=Cx.aA h
 refine c.KG fun c2_ _ c=>?_
 refine c.v4 fun g3_ _ c=>?_
 refine c.v8 fun v5_ _ c=>?_
 refine aD<|c.rc 0 ?_
 refine vx (v:=.bool false) (rfl)<|bD<|NB.by (fun (z:SH × List m9) h'=>um B z.1 z.2∧oG z.2=oG c'.ops∧z.2.length≤c'.ops.length∧Cx (fun _=>False) h h' [rV c2_ (Pb ⟨t,seq,du,z.1,sn,.nilIface,zA,dn,sm,false⟩),rV g3_ [.int .i64 gv,.int .u32 gq,.int .u32 gr,.bool gk],rV v5_ aV.toList]) (fun z=>z.2.length) (ops,c'.ops) ⟨y4,rfl,Nat.le_refl _,c⟩ ?_
 rintro ⟨u,l⟩ h4' ⟨ho,hdr,hle,c⟩ again hagain
 dsimp only at ho hdr hle c hagain
 refine lq.at (fun v h'=>∃b,v=.bool b∧(b=true→∃o r,l=o::r∧o.ps=[])∧(b=false→l=[]∨∃o r,l=o::r∧¬o.ps=[])∧Cx (fun _=>False) h h' [rV c2_ (Pb ⟨t,seq,du,u,sn,.nilIface,zA,dn,sm,false⟩),rV g3_ [.int .i64 gv,.int .u32 gq,.int .u32 gr,.bool gk],rV v5_ aV.toList]) ?_ ?_
 ·refine aD<|c.rc 0 ?_
  refine vx (ho.ln (B.up b0 c.gr))<|vx pP<|pC (fun e22=>?_) fun e22=>?_
  ·refine aD<|c.rc 0 ?_
   obtain ⟨o,r,rfl⟩:∃o r,l=o::r:=by cases l with | nil=>simp at e22 | cons o r=>exact ⟨o,r,rfl⟩
   obtain ⟨us,p,q1,q2⟩ :=ho.head
   refine (q1 _ (B.up b0 c.gr)).A4 (i:=0) (j:=1) rfl rfl rfl (u:=aX p) rfl ?_
   refine vx (q2 _ (B.up b0 c.gr)).ln<|vx iQ ?_
   first | exact ⟨_,rfl,fun e=>⟨_,_,rfl,List.length_eq_zero_iff.1 (by have:=of_decide_eq_true e; omega)⟩,fun e=>.inr ⟨_,_,rfl,fun e2=>by rw [e2] at e; exact absurd e (by decide)⟩,c⟩ | exact ⟨_,rfl,fun e=>Bool.noConfusion e,fun _=>.inl (List.length_eq_zero_iff.1 (by omega)),c⟩
  ·first | exact ⟨_,rfl,fun e=>⟨_,_,rfl,List.length_eq_zero_iff.1 (by have:=of_decide_eq_true e; omega)⟩,fun e=>.inr ⟨_,_,rfl,fun e2=>by rw [e2] at e; exact absurd e (by decide)⟩,c⟩ | exact ⟨_,rfl,fun e=>Bool.noConfusion e,fun _=>.inl (List.length_eq_zero_iff.1 (by omega)),c⟩
 ·rintro _ h5' ⟨b,rfl,hT,hF,c⟩
  replace c:=c.n3
  refine En.br (fun e31=>?_) fun e31=>?_
  ·refine aD<|c.rc 0 ?_
   obtain ⟨o,r,rfl,ep⟩ :=hT e31
   obtain ⟨u',hsl,hops⟩ :=ho.tail (B.up b0 c.gr)
   refine vx hsl<|aD<|c.Dz 0 fun _ c=>?_
   exact hagain (u',r) _ ⟨hops,(si ep).symm.trans hdr,by simp only [List.length_cons] at hle; dsimp only; omega,c⟩ (by simp only [List.length_cons]; omega)
  ·refine lq.at (fun v h'=>∃b,v=.bool b∧(b=true→l=[])∧(b=false→∃o r,l=o::r∧¬o.ps=[])∧Cx (fun _=>False) h h' [rV c2_ (Pb ⟨t,seq,du,u,sn,.nilIface,zA,dn,sm,false⟩),rV g3_ [.int .i64 gv,.int .u32 gq,.int .u32 gr,.bool gk],rV v5_ aV.toList]) ?_ ?_
   ·refine aD<|c.rc 0 ?_
    refine vx (ho.ln (B.up b0 c.gr))<|vx iQ<|pC (fun e39=>?_) fun e39=>?_
    ·first | exact ⟨_,rfl,fun _=>List.length_eq_zero_iff.1 (by omega),fun e=>Bool.noConfusion e,c⟩ | exact ⟨_,rfl,fun e=>Bool.noConfusion e,fun _=>(hF e31).resolve_left fun e=>e39 (by rw [e]; rfl),c⟩
    ·refine aD<|c.rc 0 ?_
     first | exact ⟨_,rfl,fun _=>List.length_eq_zero_iff.1 (by omega),fun e=>Bool.noConfusion e,c⟩ | exact ⟨_,rfl,fun e=>Bool.noConfusion e,fun _=>(hF e31).resolve_left fun e=>e39 (by rw [e]; rfl),c⟩
   ·rintro _ h6' ⟨b,rfl,hT1,hF1,c⟩
    replace c:=c.n3
    refine En.br (fun e43=>?_) fun e43=>?_
    ·refine c.rl 0 ?_
     refine vx rfl<|vx (aL (ds:=[_,_,_,_,_,_,_,_]) rfl)<|c.w8 2 fun _ c=>?_
     refine c.rl 2 ?_
     obtain rfl:=hT1 e43
     have e1:mC c' ⟨⟨gv,gq,gr⟩,gk⟩=({c' with ops:=[]},mL,true):=by unfold mC; rw [←hdr]; rfl
     rw [e1] at hR
     refine hR _ (aG []) [] _ (Cx.Db (L:=[_]) (Cx.Db (L:=[]) (c.pick []))) ⟨_,rfl,⟨y1,y2,y3,ho.le (Bs.aR _ _),y5.le (Bs.aR _ _),y6.le (Bs.aR _ _),y7.le (Bs.aR _ _),hb.symm⟩,?_⟩
     dsimp only
     rw [hc]
     exact ⟨rfl,rfl⟩
    ·refine c.rl 0 ?_
     obtain ⟨o,r,rfl,hps⟩ :=hF1 e43
     rw [qM hps] at hdr
     obtain ⟨hmk,hd⟩ :=k3 o (vT hdr.symm)
     have hd2:¬o.d % 4=2:=by omega
     obtain ⟨us,p,q1,q2⟩ :=ho.head
     refine cs.OA (x:=⟨t,seq,du,u,sn,.nilIface,zA,dn,sm,false⟩) (B.up b0 c.gr) rfl ho hmk hd2 fun pl _ d=>?_
     have c:=c.aE d
     have hpl:(dY o).length≤6:=by rw [rF hd2]; exact B5 _ _
     replace c:=c.n4
     refine .here<|aD<|c.rc 0 ?_
     refine (q1 _ (B.up b0 c.gr)).A4 (i:=0) (j:=0) rfl rfl rfl (u:=.int .u8 o.d) rfl ?_
     refine vx (Fu (by omega) (by decide))<|vx (m6 (show ¬(o.d:Int) % 4=3 by omega))<|bD<|CY.at (fun h'=>∃u4 M,Cx (fun _=>False) h h' [rV c2_ (Pb ⟨t,seq,du,u,u4,.nilIface,zA,dn,sm,false⟩),rV g3_ [.int .i64 gv,.int .u32 gq,.int .u32 gr,.bool gk],rV v5_ aV.toList,aG M]∧(On (B.and M) fun h=>Sl Dj h (aX pl) (dY o))∧On (B.and M) fun h=>Sl EW h (aX u4) (bU c' ⟨⟨gv,gq,gr⟩,gk⟩)) ?_ ?_
     ·refine aD<|c.rc 0 ?_
      refine vx (y5 _ (B.up b0 c.gr)).ln<|vx pP<|pC (fun e71=>?_) fun e71=>?_
      ·refine aD<|c.rc 0 ?_
       refine aD<|c.rc 0 ?_
       refine vx (y5 _ (B.up b0 c.gr)).ln<|vx (v:=.int .i64 ((c'.seen.length - 1:Nat):Int)) ((nj ⟨by omega,by omega⟩).trans (congrArg (fun z=>some (Value.int .i64 z)) (by omega))) ?_
       have hsub:=fun h' b'=>(y5 h' b').sub (n:=3) rfl (lo:=none) (hi:=some (.int .i64 ((c'.seen.length - 1:Nat):Int))) (l:=0) (u:=c'.seen.length - 1) (.inl ⟨rfl,rfl⟩) (.inr ⟨_,_,rfl,rfl⟩) (Nat.zero_le _) (by omega)
       obtain ⟨w,ew,Hw,_⟩ :=hsub _ (B.up b0 c.gr)
       have hwB:On B fun h=>Sl EW h w c'.seen.dropLast:=fun h' b'=>by
        obtain ⟨w',ew',Hw',_⟩ :=hsub h' b'
        rw [ew] at ew'
        injection ew' with ew'
        rw [ew',List.dropLast_eq_take]
        exact Hw'
       have hse:bU c' ⟨⟨gv,gq,gr⟩,gk⟩=([]++c'.seen.dropLast)++[⟨gv,gq,gr⟩]:=by
        unfold bU
        rw [if_neg (fun e=>by rw [e] at e71; exact absurd e71 (by decide))]; rfl
       refine vx ew<|aD<|vx (c.vp (i:=1) (ds:=[_,_,_]) rfl rfl rfl)<|⟨?_,?_⟩
       ·refine c.Jc EW fun v72 _ c=>?_
        replace c:=c.n5
        refine And.intro (c.vp (i:=1) (ds:=[_,_,_]) rfl rfl rfl) ?_
        refine c.ac 0 ?_
        refine c.ac 0 ?_
        refine ⟨?_,?_⟩
        ·refine c.ap 4 rfl (hwB _ (B.up b0 c.gr)) rfl rfl (by simp only [List.length_nil,List.length_dropLast]; omega) (by simp only [List.length_nil,List.length_dropLast]; omega) fun v80 _ c=>?_
         replace c:=c.n5
         refine And.intro (c.vp (i:=1) (ds:=[_,_,_]) rfl rfl rfl) ?_
         refine c.jE EW ⟨gv,gq,gr⟩ rfl rfl fun v83 _ c=>?_
         replace c:=c.n6
         refine c.ap 4 rfl (c.sl (i:=5) rfl).sl rfl rfl (by simp only [List.length_nil,List.length_append,List.length_dropLast,List.length_cons]; omega) (by simp only [List.length_nil,List.length_append,List.length_dropLast,List.length_cons]; omega) fun v84 _ c=>?_
         obtain ⟨u4,rfl⟩ :=(c.sl (i:=4) rfl).vO
         replace c:=c.n6
         refine aD<|c.Dz 0 fun _ c=>?_
         exact ⟨u4,[_,_],Cx.pack (L:=[_,_,_]) (M:=[_,_]) (c.pick [0,1,2,3,4]),On.sl (i:=0) rfl,by rw [hse]; exact On.sl (i:=1) rfl⟩
        ·refine c.jE EW ⟨gv,gq,gr⟩ rfl rfl fun v83 _ c=>?_
         replace c:=c.n6
         refine c.ac 0 ?_
         refine c.ac 0 ?_
         refine c.ap 4 rfl (hwB _ (B.up b0 c.gr)) rfl rfl (by simp only [List.length_nil,List.length_dropLast]; omega) (by simp only [List.length_nil,List.length_dropLast]; omega) fun v80 _ c=>?_
         replace c:=c.n6
         refine c.ap 4 rfl (c.sl (i:=5) rfl).sl rfl rfl (by simp only [List.length_nil,List.length_append,List.length_dropLast,List.length_cons]; omega) (by simp only [List.length_nil,List.length_append,List.length_dropLast,List.length_cons]; omega) fun v84 _ c=>?_
         obtain ⟨u4,rfl⟩ :=(c.sl (i:=4) rfl).vO
         replace c:=c.n6
         refine aD<|c.Dz 0 fun _ c=>?_
         exact ⟨u4,[_,_],Cx.pack (L:=[_,_,_]) (M:=[_,_]) (c.pick [0,1,2,3,4]),On.sl (i:=0) rfl,by rw [hse]; exact On.sl (i:=1) rfl⟩
       ·refine c.jE EW ⟨gv,gq,gr⟩ rfl rfl fun v83 _ c=>?_
        replace c:=c.n5
        refine c.ac 0 ?_
        refine c.ac 0 ?_
        refine c.Jc EW fun v72 _ c=>?_
        replace c:=c.n6
        refine c.ac 0 ?_
        refine c.ac 0 ?_
        refine c.ap 5 rfl (hwB _ (B.up b0 c.gr)) rfl rfl (by simp only [List.length_nil,List.length_dropLast]; omega) (by simp only [List.length_nil,List.length_dropLast]; omega) fun v80 _ c=>?_
        replace c:=c.n6
        refine c.ap 5 rfl (c.sl (i:=4) rfl).sl rfl rfl (by simp only [List.length_nil,List.length_append,List.length_dropLast,List.length_cons]; omega) (by simp only [List.length_nil,List.length_append,List.length_dropLast,List.length_cons]; omega) fun v84 _ c=>?_
        obtain ⟨u4,rfl⟩ :=(c.sl (i:=5) rfl).vO
        replace c:=c.n6
        refine aD<|c.Dz 0 fun _ c=>?_
        exact ⟨u4,[_,_],Cx.pack (L:=[_,_,_]) (M:=[_,_]) (c.pick [0,1,2,3,5]),On.sl (i:=0) rfl,by rw [hse]; exact On.sl (i:=1) rfl⟩
      ·exact ⟨sn,[_],Cx.pack (L:=[_,_,_]) (M:=[_]) c,On.sl (i:=0) rfl,by unfold bU; rw [if_pos (List.length_eq_zero_iff.1 (by omega))]; rw [List.length_eq_zero_iff.1 (show c'.seen.length=0 by omega)] at y5; exact y5.le (Bs.aR _ _)⟩
     ·rintro h7' ⟨u4,M,c,hpl4,ok4⟩
      replace c:=c.n4
      refine aD<|c.rc 0 ?_
      have hsn:(bU c' ⟨⟨gv,gq,gr⟩,gk⟩).length≤7:=by
       unfold bU
       split
       ·decide
       ·rw [List.length_append,List.length_dropLast,List.length_singleton]; omega
      refine vx (ok4 _ ⟨B.up b0 c.gr,c.get (i:=3) rfl⟩).ln<|vx (hpl4 _ ⟨B.up b0 c.gr,c.get (i:=3) rfl⟩).ln<|vx cH<|pC (fun e92=>?_) fun e92=>?_
      ·refine c.Jc EW fun v93 _ c=>?_
       replace c:=c.n5
       refine aD<|c.rc 0 ?_
       refine c.ap 4 rfl (ok4 _ ⟨B.up b0 c.gr,c.get (i:=3) rfl⟩) rfl rfl (by simp only [List.length_nil]; omega) (by simp only [List.length_nil]; omega) fun v96 _ c=>?_
       replace c:=c.n5
       refine vx (aL (ds:=[_,_,_]) rfl)<|c.jE EW W0 rfl rfl fun v98 _ c=>?_
       replace c:=c.n6
       refine c.ap 4 rfl (c.sl (i:=5) rfl).sl rfl rfl (by simp only [List.length_nil,List.length_append,List.length_cons]; omega) (by simp only [List.length_nil,List.length_append,List.length_cons]; omega) fun v99 _ c=>?_
       obtain ⟨u5,rfl⟩ :=(c.sl (i:=4) rfl).vO
       replace c:=c.n6
       refine aD<|c.Dz 0 fun _ c=>?_
       refine c.rl 0 ?_
       refine vx rfl<|c.rl 0 ?_
       refine cs.Gn (B:=B.and M) (x:=⟨t,seq,du,u,u5,.nilIface,zA,dn,sm,false⟩) ⟨B.up b0 c.gr,c.get (i:=3) rfl⟩ (hZ.le (Bs.aR _ _)) rfl hpl4 (by omega) (fun p hp=>(hmk.pt p (DU hd2 hp)).1) fun at5 _ d=>?_
       have c:=c.aE d
       replace c:=c.n7
       refine c.al 0 ?_
       have hxp:((dY o).map eJ)[(bU c' ⟨⟨gv,gq,gr⟩,gk⟩).length]?=some (((dY o).map eJ).getD (bU c' ⟨⟨gv,gq,gr⟩,gk⟩).length 0):=by
        have:=List.getElem?_eq_getElem (l:=(dY o).map eJ) (i:=(bU c' ⟨⟨gv,gq,gr⟩,gk⟩).length) (by rw [List.length_map]; omega)
        rw [List.getD_eq_getElem?_getD,this]; rfl
       obtain ⟨r5,o5,e5,row5,_⟩ :=(c.sl (i:=6) rfl).sl.ix hxp (n:=1) rfl (k:=.i64) (z:=((bU c' ⟨⟨gv,gq,gr⟩,gk⟩).length:Int)) rfl
       refine vx e5<|vx (row5.Co rfl)<|vx (aL (ds:=[_,_,_,_,_,_,_,_]) rfl)<|c.w8 2 fun _ c=>?_
       refine c.rl 2 ?_
       have e1:mC c' ⟨⟨gv,gq,gr⟩,gk⟩=({c' with ops:=o::r,seen:=([]++bU c' ⟨⟨gv,gq,gr⟩,gk⟩)++[W0]},⟨5,((dY o).map eJ).getD (bU c' ⟨⟨gv,gq,gr⟩,gk⟩).length 0,W0,W0⟩,false):=by
        unfold mC
        rw [←hdr]
        dsimp only
        rw [if_neg (by rw [hb]; decide),if_neg (by omega)]
        exact if_pos (show (bU c' ⟨⟨gv,gq,gr⟩,gk⟩).length<_ by omega)
       rw [e1] at hR
       have c9:=Cx.Db (L:=[_,_]) (c.pick [3,4])
       refine hR _ (aG []) [aG M,_] _ (Cx.pack (L:=[_]) (M:=[_,_]) (c9.pick [2,0,1])) ⟨⟨t,seq,du,u,u5,.nilIface,zA,dn,sm,false⟩,rfl,⟨y1,y2,y3,ho.le (Bs.aR _ _),On.sl (i:=1) rfl,y6.le (Bs.aR _ _),y7.le (Bs.aR _ _),hb.symm⟩,?_⟩
       dsimp only
       rw [hc]
       exact ⟨rfl,rfl⟩
      ·refine c.rl 0 ?_
       obtain ⟨hle2,hEok⟩ :=k5 o r hdr.symm (by omega)
       refine cs.OZ (LM (B:=B.and M) (g:=qY) (c:={c' with ops:=o::r,seen:=bU c' ⟨⟨gv,gq,gr⟩,gk⟩}) (x:=⟨t,seq,du,u,u4,.nilIface,zA,dn,sm,false⟩) cs.toXJ ⟨B.up b0 c.gr,c.get (i:=3) rfl⟩ (hZ.le (Bs.aR _ _)) ⟨y1,y2,y3,ho.le (Bs.aR _ _),ok4,y6.le (Bs.aR _ _),y7.le (Bs.aR _ _),hb.symm⟩ rfl rfl hmk hpl4 (by omega) (fun p hp=>hmk.pt p (DU hd2 hp)) ok4 hle2 hEok k1 k2 hd fun en u6 sq d6 a6 W6 M6 _ c6 hone hinl hN hbeg=>?_)
       have c:=c.aE c6
       have e1:mC c' ⟨⟨gv,gq,gr⟩,gk⟩=({c' with ops:=o::r,seen:=[],seq:=sq,now:=some d6},a6,false):=by
        unfold mC
        rw [←hdr]
        dsimp only
        rw [if_neg (by rw [hb]; decide),if_neg (by omega)]
        refine (if_neg (show ¬(bU c' ⟨⟨gv,gq,gr⟩,gk⟩).length<_ by omega)).trans ?_
        have hbeg2:tf {c' with ops:=o::r} o (dY o) (bU c' ⟨⟨gv,gq,gr⟩,gk⟩)=(some {c' with ops:=o::r,seen:=[],seq:=sq,now:=some d6},a6):=hbeg
        unfold bU at hbeg2
        dsimp only at hbeg2
        rw [hbeg2]
       rw [e1] at hR
       replace c:=c.n6
       refine vx rfl<|vx rfl<|c.RT 0 fun _ c=>?_
       refine .here<|vx (v:=.bool false) rfl<|bD<|aD<|c.rc 0 ?_
       refine vx hinl<|bD<|c.rl 0 ?_
       refine vx (aL (ds:=[_,_,_,_]) rfl) ?_
       obtain ⟨F',d',hF,up⟩ :=c.vA (i:=5) rfl
       have hM:∀h'',Ch F' _ h''→((B.and M).and M6).p h'':=fun h'' ch=>by
        have cc:=up (A':=aG []) (M:=[]) (h':=h'') (Cx.UR ch)
        exact ⟨⟨B.up b0 (hF _ ch),cc.get (i:=3) rfl⟩,cc.get (i:=4) rfl⟩
       refine cs.OQ (IY (x:=⟨t,sq,du,u,(none,0,0),u6,en,dn,sm,false⟩) (g:=qY) hone hN (fun B W v H=>H.one) d' hM fun v2 W2 M2 _ d2 ok2=>?_)
       have c:=up d2
       replace c:=c.n7
       refine c.t8 2 fun _ c=>?_
       obtain ⟨u2,rfl,H⟩ :=ok2
       have lz:B.le (B.and [aG M,aG M6,aG M2]):=Bs.aR _ _
       exact hR _ W2 [aG M,aG M6,aG M2] _ (Cx.pack (L:=[_]) (M:=[_,_,_]) (c.pick [5,3,4,6])) ⟨⟨t,sq,du,u,(none,0,0),u2,en,dn,sm,false⟩,rfl,⟨y1,rfl,y3,ho.le lz,(fun _ _=>Sl.nil),y6.le lz,y7.le lz,hb.symm⟩,H.le fun h b=>⟨⟨⟨b.1,Bs.star b (i:=0) rfl⟩,Bs.star b (i:=1) rfl⟩,Bs.star b (i:=2) rfl⟩⟩
end
end Go.En
namespace Go.En
variable {S:Sys} {I:aZ} {h h0 h':Hp} {F F0:Fp} {R:Value→Hp→Prop} {L:List bQ} {B B':Bs}
structure S3 (S:Sys) (I:aZ):Prop extends ZC S I where
 GQ:∀{x y:Value} {h R},cJ S I x y h R→S.C I.dC [x,y] h R
 Uh:I.mt I.aK "Next"=some I.dC
theorem CP {s:Sw} {l:List Ac}:(IZ s l).2.2=false:=by cases l <;> rfl
theorem Ks {s:Sw} {w:W3} (h:(xx s w).2.2=true):∃ok,(xx s w).1.ph=.over ok:=by
 unfold xx at h⊢
 split
 ·exact ⟨_,rfl⟩
 ·rename_i n1
  rw [if_neg n1] at h
  split
  ·rename_i n2
   rw [if_pos n2] at h
   exact Bool.noConfusion (h.symm.trans (CP (s:=s) (l:=lW s)))
  ·rename_i n2
   rw [if_neg n2] at h
   exact Bool.noConfusion h
theorem LF {s:Sw} {g:iM} (okp:OP s.ph) (h:(j8 s g).2.2=true):∃ok,(j8 s g).1.ph=.over ok:=by
 unfold j8 at h⊢
 cases hp:s.ph with
 | uI=>rw [hp] at h; dsimp only at h⊢; exact Ks h
 | last hs=>
  rw [hp] at h
  dsimp only at h⊢
  cases hq:fP hs g with
  | mk hs' q=>
   obtain ⟨a,d⟩ :=q
   rw [hq] at h
   cases d with
   | false=>exact Bool.noConfusion h
   | true=>exact Bool.noConfusion (h.symm.trans (CP (s:=s) (l:=lW s)))
 | Dw l=>rw [hp] at h; exact Bool.noConfusion (h.symm.trans (CP (s:=s) (l:=l)))
 | own hs=>
  rw [hp] at h
  dsimp only at h⊢
  cases hq:fP hs g with
  | mk hs' q=>
   obtain ⟨a,d⟩ :=q
   rw [hq] at h
   cases d with
   | false=>exact Bool.noConfusion h
   | true=>exact ⟨_,rfl⟩
 | over ok=>rw [hp] at okp; exact okp.elim
 | EV=>rw [hp] at okp; exact okp.elim
 | ES w hs=>rw [hp] at okp; exact okp.elim
 | FR=>rw [hp] at okp; exact okp.elim
 | FH=>rw [hp] at okp; exact okp.elim
 | send l ok=>rw [hp] at okp; exact okp.elim
theorem FN {s:Bk}:(yk s).2.2=false:=by
 unfold yk
 split
 ·rfl
 ·split
  ·unfold vi; dsimp only; split <;> rfl
  ·rfl
theorem MC {s:Bk}:(vi s).2.2=false:=by unfold vi; dsimp only; split <;> rfl
theorem Dm {s:Bk} {op:Bool}:(sS s op).2.2=false:=by
 unfold sS
 split
 ·rfl
 ·exact FN
theorem Ma {s:Bk} {g:iM} (h:(dG s g).2.2=true):(dG s g).1.ph=.over:=by
 unfold dG at h⊢
 cases hp:s.ph with
 | take k=>
  rw [hp] at h
  dsimp only at h⊢
  cases hq:kU k g with
  | mk k' q=>
   obtain ⟨a,d⟩ :=q
   rw [hq] at h
   cases d with
   | false=>cases k' <;> exact Bool.noConfusion h
   | true=>cases k' <;> first | exact Bool.noConfusion h | rfl
 | looked=>rw [hp] at h; dsimp only at h; unfold xw at h; split at h <;> exact Bool.noConfusion h
 | rel op=>
  rw [hp] at h
  dsimp only at h
  split at h
  ·exact Bool.noConfusion h
  ·exact Bool.noConfusion (h.symm.trans Dm)
 | Hz op=>rw [hp] at h; exact Bool.noConfusion h
 | Hy op=>rw [hp] at h; exact Bool.noConfusion (h.symm.trans Dm)
 | fill=>rw [hp] at h; exact Bool.noConfusion (h.symm.trans FN)
 | uB=>rw [hp] at h; exact Bool.noConfusion (h.symm.trans MC)
 | RH=>rw [hp] at h; exact Bool.noConfusion h
 | zL hs=>
  rw [hp] at h
  dsimp only at h⊢
  cases hq:fP hs g with
  | mk hs' q=>
   obtain ⟨a,d⟩ :=q
   rw [hq] at h
   cases d <;> exact Bool.noConfusion h
 | zf b k=>
  rw [hp] at h
  dsimp only at h⊢
  cases hq:kO b k g with
  | mk k' q=>
   obtain ⟨a,d⟩ :=q
   rw [hq] at h
   cases d with
   | false=>exact Bool.noConfusion h
   | true=>rfl
 | over=>exact hp
def RX:Cd→Prop
 | .sw s=>SO s∧OP s.ph
 | .bl s=>xT s
 | .pk _=>False
def XI:Cd→Bool
 | .bl _=>true
 | _=>false
def Dy (c:Cn) (d:Cd):Cn:={c with done:=c.done++[vz d],OD:=c.OD++KU d,ops:=c.ops.tail,now:=none}
structure Ht (c:Cn) (g:iM):Prop where
 br:c.broken=false
 dn:c.done.length≤1000
 idle:c.now=none→YT c g
 now:∀d,c.now=some d→RX d∧c.ops≠[]∧((mE d g).2.2=true→YT (Dy c (mE d g).1) qY)
section
variable {x:Cc} {W:bQ} {g:iM} {v:Value} {d:Cd} {c':Cn} {V:Bs→bQ→Value→Prop} {a:Ac} {dn:Bool} {out:CR}
theorem ZS (cs:S3 S I) (hZ:On B Zs) {s:Sw} {u:Value} (hv:Jg I B u s) (ok:SO s) (okp:OP s.ph) (hg:Ww g.w):Ny S I B (aG []) (.iface I.aY u) g (fun B W v=>Ff I B W v (.sw (j8 s g).1)) (j8 s g).2.1 (j8 s g).2.2:=by
 intro h F R c hB hR
 refine ⟨_,_,_,rfl,cs.U7,cs.JO (TW cs.toTl (hB _ c.gr) hZ hv ok okp hg fun v' M h' c2 ok2=>?_)⟩
 exact hR _ (aG []) M h' (c.aE c2) ⟨v',rfl,rfl,ok2⟩
theorem Zt (cs:S3 S I) (hZ:On B Zs) {s:Bk} {u:Value} (hv:Su I B W u s) (ok:xT s) (hg:Ww g.w):Ny S I B W (.iface I.aH u) g (fun B W v=>Ff I B W v (.bl (dG s g).1)) (dG s g).2.1 (dG s g).2.2:=by
 intro h F R c hB hR
 exact ⟨_,_,_,rfl,cs.TH,cs.Kn (UM cs.toTq hZ hv ok hg c hB fun v' W M h' c2 ok2=>hR _ W M h' c2 ⟨v',rfl,ok2⟩)⟩
theorem Ny.imp {V':Bs→bQ→Value→Prop} (H:Ny S I B W v g V a dn) (f:∀B W v,V B W v→V' B W v):Ny S I B W v g V' a dn:=
 fun h F R c hB hR=>H h F R c hB fun v W M h' c2 ok=>hR v W M h' c2 (f _ _ _ ok)
theorem aad (cs:S3 S I) (hZ:On B Zs) (hv:Ff I B W v d) (ok:RX d) (hg:Ww g.w):Ny S I B W v g (fun B W v=>Ff I B W v (mE d g).1) (mE d g).2.1 (mE d g).2.2:=by
 cases d with
 | sw s=>
  obtain ⟨u,rfl,rfl,hv⟩ :=hv
  exact ZS cs hZ hv ok.1 ok.2 hg
 | bl s=>
  obtain ⟨u,rfl,hv⟩ :=hv
  exact Zt cs hZ hv ok hg
 | pk s=>exact ok.elim
theorem Ff.end (cs:S3 S I) (hv:Ff I B W v (mE d g).1) (ok:RX d) (ht:(mE d g).2.2=true):W=aG []∧NY S I B v (XI d) (vz (mE d g).1):=by
 cases d with
 | sw s=>
  obtain ⟨u,rfl,rfl,hv⟩ :=hv
  obtain ⟨k,hk⟩ :=LF ok.2 ht
  have e:vz (mE (.sw s) g).1=k:=by
   show (match (j8 s g).1.ph with | .over ok=>ok | _=>false)=k
   rw [hk]
  rw [e]
  exact ⟨rfl,Xp cs.toYF hv hk⟩
 | bl s=>
  obtain ⟨u,rfl,hv⟩ :=hv
  have hk:=Ma ht
  refine ⟨?_,We cs.toYF hv hk⟩
  obtain ⟨x,_,hx⟩ :=hv
  rw [hk] at hx
  exact hx.1
 | pk s=>exact ok.elim
theorem Ff.neq (hv:Ff I B W v d):inl .neq v=some (.bool true):=by
 cases d with
 | sw s=>obtain ⟨u,rfl,_⟩ :=hv; rfl
 | bl s=>obtain ⟨u,rfl,_⟩ :=hv; rfl
 | pk s=>exact hv.elim
theorem OJ (cs:S3 S I) (hone:x.now.oneCell'=true) (hn:inl .neq x.now=some (.bool true)) (c:Cx F h h [W]) (hB:∀h',Ch F h h'→B.p h')
  (hw:∀h1 F1 K,Cx F1 h1 h1 [W]→(∀h',Ch F1 h1 h'→B.p h')→CE I.aK F1 h1 B V a dn K→bT S I (C8 x) (k6 g) h1 K)
  (hR:CE I.aK F h B V a dn R):cJ S I (C8 x) (k6 g) h R:=by
 obtain ⟨t,seq,du,ops,sn,now,zA,dn,sm,br⟩ :=x
 dsimp only at hn hone
 obtain ⟨⟨gv,gq,gr⟩,gk⟩ :=g
 obtain ⟨ao,aa,⟨ov,oq,or⟩,⟨nv,nq,nr⟩⟩ :=a
 unfold cJ
 replace c:Cx _ _ _ [_]:=c
 refine c.KG fun _ _ c=>?_
 refine c.v4 fun _ _ c=>?_
 refine c.v8 fun _ _ c=>?_
 refine aD<|c.rc 1 ?_
 refine vx hn<|eR<|c.rl 1 ?_
 refine c.rl 2 ?_
 obtain ⟨F',d',hF,up⟩ :=c.vA (i:=0) rfl
 refine cs.OQ (hw _ F' _ d' (fun h'' ch=>hB h'' (hF _ ch)) fun v2 W2 M2 _ d2 ok2=>?_)
 have c:=up d2
 replace c:=c.n5
 refine c.t8 3 fun _ c=>?_
 exact hR _ W2 M2 _ (c.pick [0,4]) ok2
theorem Oa (cs:S3 S I) (hZ:On B Zs) (hv:N7 I B W v c') (ok:Ht c' g) (hg:Ww g.w) (c:Cx F h h [W]) (hB:∀h',Ch F h h'→B.p h')
  (hR:CE I.aK F h B (fun B W v=>N7 I B W v (kL c' g).1) (kL c' g).2.1 (kL c' g).2.2 R):cJ S I v (k6 g) h R:=by
 obtain ⟨x,rfl,hx,hnow⟩ :=hv
 cases hc:c'.now with
 | none=>
  rw [hc] at hnow
  obtain ⟨hn,rfl⟩ :=hnow
  have e1:kL c' g=mC c' g:=by unfold kL; rw [hc]
  rw [e1] at hR
  exact KV cs.toZC (hB _ (.refl _ _)) hZ hx hn hc ok.br (ok.idle hc) (hR.of0 c)
 | some d=>
  rw [hc] at hnow
  have hnow:Ff I B W x.now d:=hnow
  obtain ⟨o1,o2,o3⟩ :=ok.now d hc
  have hN:=aad (g:=g) cs hZ hnow o1 hg
  have e1:kL c' g=uT c' d g:=by unfold kL; rw [hc]
  rw [e1] at hR
  refine OJ cs hnow.one hnow.neq c hB (fun h1 F1 K c1 hB1 hK=>?_) hR
  cases ht:(mE d g).2.2 with
  | false=>
   have e2:uT c' d g=({c' with now:=some (mE d g).1},(mE d g).2.1,false):=by
    unfold uT
    generalize mE d g=q at ht
    obtain ⟨q1,q2,q3⟩ :=q
    dsimp only at ht
    subst ht
    rfl
   rw [e2] at hK
   rw [ht] at hN
   refine IY hnow.one hN (fun B W v H=>H.one) c1 hB1 fun v W M h' c2 ok2=>?_
   obtain ⟨u,rfl,H⟩ :=ok2
   exact hK _ W M h' c2 ⟨_,rfl,⟨hx.t,hx.seq,hx.du,hx.ops.le (Bs.aR _ _),hx.seen.le (Bs.aR _ _),hx.dn.le (Bs.aR _ _),hx.sm.le (Bs.aR _ _),hx.br⟩,H⟩
  | true=>
   have e2:uT c' d g=mC (Dy c' (mE d g).1) qY:=by
    unfold uT Dy
    generalize mE d g=q at ht
    obtain ⟨q1,q2,q3⟩ :=q
    dsimp only at ht
    subst ht
    rfl
   rw [e2] at hK
   rw [ht] at hN
   have hs:KU (mE d g).1=[]:=by cases d with | sw s=>rfl | bl s=>rfl | pk s=>exact o1.elim
   have hN2:Ny S I B W x.now g (fun B W v=>W=aG []∧NY S I B v (XI d) (vz (mE d g).1)) (mE d g).2.1 true:=hN.imp fun B W v H=>Ff.end cs H o1 ht
   obtain ⟨o,r,ho⟩:∃o r,c'.ops=o::r:=by cases hh:c'.ops with | nil=>exact absurd hh o2 | cons o r=>exact ⟨o,r,rfl⟩
   have hce:Dy c' (mE d g).1={c' with done:=c'.done++[vz (mE d g).1],ops:=r,now:=none}:=by
    unfold Dy
    rw [hs,List.append_nil,ho]; rfl
   have ok3:=o3 ht
   rw [hce] at ok3 hK
   refine O0 hnow.one hx ok.br ho ok.dn hN2 c1 hB1 (fun x' B' h2 K2 l b2 hx2 hn2 hK2=>?_) hK
   exact cs.GQ (KV cs.toZC b2 (hZ.le l) hx2 hn2 rfl ok.br ok3 hK2)
end
end Go.En
namespace Go.En
variable {S:Sys} {I:aZ} {h h0 h':Hp} {F F0:Fp} {R:Value→Hp→Prop} {L:List bQ} {B B':Bs}
section
variable {T n b t i:Nat} {x:SH × SH} {m:Me} {w:W3} {am:AM} {v:MV} {mc:Mc}
theorem Py {ms:List Df} {u:SH} {f z:Int} (H:Sl wH h (aX u) ms) (h1:1≤ms.length∧ms.length≤2000000) (hR:∀(q:Nat) h',q<ms.length→(∀g:Int,g≤f→g≤(ms.length - 1:Nat)→g≤q)→Gr h h'→R (.int .i64 q) h'):mG S I (vH u) (.int .i64 f) (.int .i64 z) h R:=by
 unfold mG
 have c:=Cx.aA h
 refine c.v1 fun _ _ c=>?_
 refine aD<|c.rc 0 ?_
 refine vx (H.gr c.gr).ln<|vx (nj ⟨by omega,by omega⟩)<|vx (iZ (by omega))<|bD<|vx (v:=.int .i64 (if (ms.length:Int) - 1<f then (ms.length:Int) - 1 else f)) rfl<|vx (v:=.int .i64 (if (if (ms.length:Int) - 1<f then (ms.length:Int) - 1 else f) > 0 then (if (ms.length:Int) - 1<f then (ms.length:Int) - 1 else f) else 0)) rfl ?_
 obtain ⟨lo,hlo,k1,k2,k3⟩:∃lo:Int,(if (if (ms.length:Int) - 1<f then (ms.length:Int) - 1 else f) > 0 then (if (ms.length:Int) - 1<f then (ms.length:Int) - 1 else f) else 0)=lo∧0≤lo∧lo≤ms.length - 1∧(∀g:Int,g≤f→g≤(ms.length:Int) - 1→g≤lo):=⟨_,rfl,by split <;> split <;> omega,by split <;> split <;> omega,fun g e1 e2=>by split <;> split <;> omega⟩
 rw [hlo]
 refine vx (v:=.int .i64 (if 0 > z then 0 else z)) rfl ?_
 obtain ⟨zz,hz,z0⟩:∃zz:Int,(if 0 > z then 0 else z)=zz∧0≤zz:=⟨_,rfl,by split <;> omega⟩
 rw [hz]
 refine vx (nj ⟨by omega,by omega⟩)<|vx (qV ⟨by omega,by omega⟩)<|vx (Fu z0 (by omega)) ?_
 have r1:=Int.emod_nonneg zz (show (ms.length:Int) - 1 - lo+1≠0 by omega)
 have r2:=Int.emod_lt_of_pos zz (show 0<(ms.length:Int) - 1 - lo+1 by omega)
 refine vx (nj ⟨by omega,by omega⟩) ?_
 obtain ⟨q,hq⟩:∃q:Nat,(ms.length:Int) - 1 - zz % ((ms.length:Int) - 1 - lo+1)=q:=⟨((ms.length:Int) - 1 - zz % ((ms.length:Int) - 1 - lo+1)).toNat,by omega⟩
 rw [hq]
 exact hR q _ (by omega) (fun g e1 e2=>by have:=k3 g e1 (by omega); omega) c.gr
structure Zj (S:Sys) (I:aZ):Prop extends CqA S I where
 choose:∀{ms:List Df} {u:SH} {f z:Int} {h} {R:Value→Hp→Prop},Sl wH h (aX u) ms→(1≤ms.length∧ms.length≤2000000)→(∀(q:Nat) h',q<ms.length→(∀g:Int,g≤f→g≤(ms.length - 1:Nat)→g≤q)→Gr h h'→R (.int .i64 q) h')→S.C I.jN [vH u,.int .i64 f,.int .i64 z] h R
theorem kW (cs:Zj S I) {ms:List Df} {u:SH} {f z:Int} (H:Sl wH h (aX u) ms) (h1:1≤ms.length∧ms.length≤2000000) (hR:∀(q:Nat) h',q<ms.length→(∀g:Int,g≤f→g≤(ms.length - 1:Nat)→g≤q)→Gr h h'→R (.int .i64 q) h'):mD S I (.int .i64 z) (vH u) (.int .i64 f) h R:=by
 unfold mD
 have c:=Cx.aA h
 refine c.v1 fun _ _ c=>?_
 refine c.rl 0 ?_
 refine cs.choose (H.gr c.gr) h1 fun q _ e1 e2 g=>?_
 have c:=c.more g
 exact hR q _ e1 e2 c.gr
structure Z8 (S:Sys) (I:aZ):Prop extends Zj S I where
 qR:∀{x y z:Value} {h R},mD S I x y z h R→S.C I.aU [x,y,z] h R
theorem Rr (cs:Z8 S I) (b0:B.p h) (H:MO B x m) (k:Mk T n b m) (hb:b≤1000000) (ht:1≤t∧t≤T) (hi:i<n) (hv:m.view t i≤((m.at i).length - 1:Nat)) {jn:Bool} {z:Int}
  (hR:∀(q:Nat) (am:AM) x',(m.at i)[q]?=some am→m.view t i≤q→Rt B h (fun B=>MO B x' (m.xB t i q am jn)) fun h'=>R (.tuple #[s7 x',mW am.w,.int .i64 0]) h'):jU S I (s7 x) (.int .i64 t) (.int .i64 i) (.bool jn) (.func (.func I.aU) #[.int .i64 z] #[]) h R:=by
 obtain ⟨us,h1,h2,h3⟩ :=H.hs
 have hn:=k.hs
 have hu:=List.getElem?_eq_getElem (l:=us) (i:=i) (by omega)
 obtain ⟨hm,hl1,hl2⟩ :=k.at hi
 obtain ⟨ms,hs,ha⟩ :=h3 _ _ _ hu hm
 generalize us[i]=u at hu hs
 have hml:ms.length=(m.at i).length:=ha.1
 obtain ⟨rp,op,e33,row33,_⟩ :=(h1 h b0).ix hu (n:=1) rfl (k:=.i64) (z:=(i:Int)) rfl
 have f33:∀{h'':Hp},Gr h h''→aF 1 (.pointer (some ⟨rp,op,none⟩)) h''=some (vH u):=fun g=>(row33.ch g fun e=>e).aF rfl
 have fin:∀(q:Nat) (am:AM) (x':SH × SH) (M:List bQ) (r1 r2 r3 ro rw:Nat) (h':Hp),Cx (fun _=>False) h h' [rV r1 (Ji x),rV r2 Og,rV r3 (cW W0),rV ro (Ji x'),rV rw (cW am.w),aG M]→(m.at i)[q]?=some am→m.view t i≤q→MO (B.and M) x' (m.xB t i q am jn)→
  ∃(q:Nat) (am:AM) (ro' rw':Nat) (x':SH × SH) (M:List bQ),cA ro=cA ro'∧cA rw=cA rw'∧(m.at i)[q]?=some am∧m.view t i≤q∧Cx (fun _=>False) h h' [rV r1 (Ji x),rV r2 Og,rV r3 (cW W0),rV ro' (Ji x'),rV rw' (cW am.w),aG M]∧MO (B.and M) x' (m.xB t i q am jn):=fun q am x' M r1 r2 r3 ro rw h' c e1 e2 ok=>⟨q,am,ro,rw,x',M,rfl,rfl,e1,e2,c,ok⟩
 unfold jU
 have c:=Cx.aA h
 refine c.v2 fun m5_ _ c=>?_
 refine c.v2 fun v10_ _ c=>?_
 refine c.v3 fun v11_ _ c=>?_
 refine c.rl 0 ?_
 refine cs.FW (B.up b0 c.gr) H k ht hi fun _ g=>?_
 have c:=c.more g
 refine vx (v:=.bool false) rfl<|bD<|MQ.at (fun o q' h'=>∃(q:Nat) (am:AM) (ro rw:Nat) (x':SH × SH) (M:List bQ),o=cA ro∧q'=cA rw∧(m.at i)[q]?=some am∧m.view t i≤q∧Cx (fun _=>False) h h' [rV m5_ (Ji x),rV v10_ Og,rV v11_ (cW W0),rV ro (Ji x'),rV rw (cW am.w),aG M]∧MO (B.and M) x' (m.xB t i q am jn)) ?_ ?_
 ·refine c.rl 0 ?_
  refine aD<|c.rc 0 ?_
  refine vx e33<|vx (f33 c.gr)<|c.rl 0 ?_
  refine ⟨?_,?_⟩
  ·refine cs.seen (B.up b0 c.gr) H k ht fun a Va _ g=>?_
   have c:=c.more g
   refine And.intro (f33 c.gr) ?_
   refine c.ac 0 ?_
   refine c.al 0 ?_
   refine ⟨?_,?_⟩
   ·refine cs.Ef (B.up b0 c.gr) Va fun _ p hp1 hp2 g=>?_
    have c:=c.more g
    refine And.intro (f33 c.gr) ?_
    refine c.ac 0 ?_
    refine c.al 0 ?_
    refine ⟨?_,?_⟩
    ·refine .inl (.inl ⟨I.aU,#[.int .i64 z],#[],rfl,cs.qR (kW cs.toZj (hs _ (B.up b0 c.gr)) (by omega) fun q _ hq e2 g=>?_)⟩)
     have c:=c.more g
     have e2:m.view t i≤q:=e2 _ hp2 (by omega)
     have e1:=List.getElem?_eq_getElem (l:=m.at i) (i:=q) (by omega)
     generalize (m.at i)[q]'(by omega)=am at e1
     refine c.al 0 ?_
     refine ⟨?_,?_⟩
     ·refine cs.dI (jn:=jn) (B.up b0 c.gr) H k ht hi e1 fun x' M _ d ok=>?_
      have c:=c.aE d
      replace c:=c.n4
      refine vx rfl<|vx rfl<|⟨?_,?_⟩
      ·refine c.v2 fun _ _ c=>?_
       refine c.v3 fun _ _ c=>?_
       refine c.w2 4 fun _ c=>?_
       refine c.w3 5 fun _ c=>?_
       exact fin q am _ M _ _ _ _ _ _ (c.pick [0,1,2,4,5,3]) e1 e2 ok
      ·refine c.v3 fun _ _ c=>?_
       refine c.v2 fun _ _ c=>?_
       refine c.w2 5 fun _ c=>?_
       refine c.w3 4 fun _ c=>?_
       exact fin q am _ M _ _ _ _ _ _ (c.pick [0,1,2,5,4,3]) e1 e2 ok
     ·refine ⟨?_,?_⟩
      ·refine c.v2 fun _ _ c=>?_
       refine c.al 0 ?_
       refine ⟨?_,?_⟩
       ·refine cs.dI (jn:=jn) (B.up b0 c.gr) H k ht hi e1 fun x' M _ d ok=>?_
        have c:=c.aE d
        replace c:=c.n5
        refine vx rfl<|vx rfl<|c.v3 fun _ _ c=>?_
        refine c.w2 3 fun _ c=>?_
        refine c.w3 5 fun _ c=>?_
        exact fin q am _ M _ _ _ _ _ _ (c.pick [0,1,2,3,5,4]) e1 e2 ok
       ·refine c.v3 fun _ _ c=>?_
        refine c.al 0 ?_
        refine cs.dI (jn:=jn) (B.up b0 c.gr) H k ht hi e1 fun x' M _ d ok=>?_
        have c:=c.aE d
        replace c:=c.n6
        refine vx rfl<|vx rfl<|c.w2 3 fun _ c=>?_
        refine c.w3 4 fun _ c=>?_
        exact fin q am _ M _ _ _ _ _ _ (c.pick [0,1,2,3,4,5]) e1 e2 ok
      ·refine c.v3 fun _ _ c=>?_
       refine c.al 0 ?_
       refine ⟨?_,?_⟩
       ·refine cs.dI (jn:=jn) (B.up b0 c.gr) H k ht hi e1 fun x' M _ d ok=>?_
        have c:=c.aE d
        replace c:=c.n5
        refine vx rfl<|vx rfl<|c.v2 fun _ _ c=>?_
        refine c.w2 5 fun _ c=>?_
        refine c.w3 3 fun _ c=>?_
        exact fin q am _ M _ _ _ _ _ _ (c.pick [0,1,2,5,3,4]) e1 e2 ok
       ·refine c.v2 fun _ _ c=>?_
        refine c.al 0 ?_
        refine cs.dI (jn:=jn) (B.up b0 c.gr) H k ht hi e1 fun x' M _ d ok=>?_
        have c:=c.aE d
        replace c:=c.n6
        refine vx rfl<|vx rfl<|c.w2 4 fun _ c=>?_
        refine c.w3 3 fun _ c=>?_
        exact fin q am _ M _ _ _ _ _ _ (c.pick [0,1,2,4,3,5]) e1 e2 ok
    ·refine ⟨?_,?_⟩
     ·refine c.v2 fun _ _ c=>?_
      refine And.intro (f33 c.gr) ?_
      refine c.ac 0 ?_
      refine c.al 0 ?_
      refine ⟨?_,?_⟩
      ·refine .inl (.inl ⟨I.aU,#[.int .i64 z],#[],rfl,cs.qR (kW cs.toZj (hs _ (B.up b0 c.gr)) (by omega) fun q _ hq e2 g=>?_)⟩)
       have c:=c.more g
       have e2:m.view t i≤q:=e2 _ hp2 (by omega)
       have e1:=List.getElem?_eq_getElem (l:=m.at i) (i:=q) (by omega)
       generalize (m.at i)[q]'(by omega)=am at e1
       refine c.al 0 ?_
       refine ⟨?_,?_⟩
       ·refine cs.dI (jn:=jn) (B.up b0 c.gr) H k ht hi e1 fun x' M _ d ok=>?_
        have c:=c.aE d
        replace c:=c.n5
        refine vx rfl<|vx rfl<|c.v3 fun _ _ c=>?_
        refine c.w2 3 fun _ c=>?_
        refine c.w3 5 fun _ c=>?_
        exact fin q am _ M _ _ _ _ _ _ (c.pick [0,1,2,3,5,4]) e1 e2 ok
       ·refine c.v3 fun _ _ c=>?_
        refine c.al 0 ?_
        refine cs.dI (jn:=jn) (B.up b0 c.gr) H k ht hi e1 fun x' M _ d ok=>?_
        have c:=c.aE d
        replace c:=c.n6
        refine vx rfl<|vx rfl<|c.w2 3 fun _ c=>?_
        refine c.w3 4 fun _ c=>?_
        exact fin q am _ M _ _ _ _ _ _ (c.pick [0,1,2,3,4,5]) e1 e2 ok
      ·refine c.v3 fun _ _ c=>?_
       refine And.intro (f33 c.gr) ?_
       refine c.ac 0 ?_
       refine c.al 0 ?_
       refine .inl (.inl ⟨I.aU,#[.int .i64 z],#[],rfl,cs.qR (kW cs.toZj (hs _ (B.up b0 c.gr)) (by omega) fun q _ hq e2 g=>?_)⟩)
       have c:=c.more g
       have e2:m.view t i≤q:=e2 _ hp2 (by omega)
       have e1:=List.getElem?_eq_getElem (l:=m.at i) (i:=q) (by omega)
       generalize (m.at i)[q]'(by omega)=am at e1
       refine c.al 0 ?_
       refine cs.dI (jn:=jn) (B.up b0 c.gr) H k ht hi e1 fun x' M _ d ok=>?_
       have c:=c.aE d
       replace c:=c.n6
       refine vx rfl<|vx rfl<|c.w2 3 fun _ c=>?_
       refine c.w3 4 fun _ c=>?_
       exact fin q am _ M _ _ _ _ _ _ (c.pick [0,1,2,3,4,5]) e1 e2 ok
     ·refine c.v3 fun _ _ c=>?_
      refine And.intro (f33 c.gr) ?_
      refine c.ac 0 ?_
      refine c.al 0 ?_
      refine ⟨?_,?_⟩
      ·refine .inl (.inl ⟨I.aU,#[.int .i64 z],#[],rfl,cs.qR (kW cs.toZj (hs _ (B.up b0 c.gr)) (by omega) fun q _ hq e2 g=>?_)⟩)
       have c:=c.more g
       have e2:m.view t i≤q:=e2 _ hp2 (by omega)
       have e1:=List.getElem?_eq_getElem (l:=m.at i) (i:=q) (by omega)
       generalize (m.at i)[q]'(by omega)=am at e1
       refine c.al 0 ?_
       refine ⟨?_,?_⟩
       ·refine cs.dI (jn:=jn) (B.up b0 c.gr) H k ht hi e1 fun x' M _ d ok=>?_
        have c:=c.aE d
        replace c:=c.n5
        refine vx rfl<|vx rfl<|c.v2 fun _ _ c=>?_
        refine c.w2 5 fun _ c=>?_
        refine c.w3 3 fun _ c=>?_
        exact fin q am _ M _ _ _ _ _ _ (c.pick [0,1,2,5,3,4]) e1 e2 ok
       ·refine c.v2 fun _ _ c=>?_
        refine c.al 0 ?_
        refine cs.dI (jn:=jn) (B.up b0 c.gr) H k ht hi e1 fun x' M _ d ok=>?_
        have c:=c.aE d
        replace c:=c.n6
        refine vx rfl<|vx rfl<|c.w2 4 fun _ c=>?_
        refine c.w3 3 fun _ c=>?_
        exact fin q am _ M _ _ _ _ _ _ (c.pick [0,1,2,4,3,5]) e1 e2 ok
      ·refine c.v2 fun _ _ c=>?_
       refine And.intro (f33 c.gr) ?_
       refine c.ac 0 ?_
       refine c.al 0 ?_
       refine .inl (.inl ⟨I.aU,#[.int .i64 z],#[],rfl,cs.qR (kW cs.toZj (hs _ (B.up b0 c.gr)) (by omega) fun q _ hq e2 g=>?_)⟩)
       have c:=c.more g
       have e2:m.view t i≤q:=e2 _ hp2 (by omega)
       have e1:=List.getElem?_eq_getElem (l:=m.at i) (i:=q) (by omega)
       generalize (m.at i)[q]'(by omega)=am at e1
       refine c.al 0 ?_
       refine cs.dI (jn:=jn) (B.up b0 c.gr) H k ht hi e1 fun x' M _ d ok=>?_
       have c:=c.aE d
       replace c:=c.n6
       refine vx rfl<|vx rfl<|c.w2 4 fun _ c=>?_
       refine c.w3 3 fun _ c=>?_
       exact fin q am _ M _ _ _ _ _ _ (c.pick [0,1,2,4,3,5]) e1 e2 ok
   ·refine ⟨?_,?_⟩
    ·refine c.v2 fun _ _ c=>?_
     refine And.intro (f33 c.gr) ?_
     refine c.ac 0 ?_
     refine c.al 0 ?_
     refine ⟨?_,?_⟩
     ·refine cs.Ef (B.up b0 c.gr) Va fun _ p hp1 hp2 g=>?_
      have c:=c.more g
      refine And.intro (f33 c.gr) ?_
      refine c.ac 0 ?_
      refine c.al 0 ?_
      refine ⟨?_,?_⟩
      ·refine .inl (.inl ⟨I.aU,#[.int .i64 z],#[],rfl,cs.qR (kW cs.toZj (hs _ (B.up b0 c.gr)) (by omega) fun q _ hq e2 g=>?_)⟩)
       have c:=c.more g
       have e2:m.view t i≤q:=e2 _ hp2 (by omega)
       have e1:=List.getElem?_eq_getElem (l:=m.at i) (i:=q) (by omega)
       generalize (m.at i)[q]'(by omega)=am at e1
       refine c.al 0 ?_
       refine ⟨?_,?_⟩
       ·refine cs.dI (jn:=jn) (B.up b0 c.gr) H k ht hi e1 fun x' M _ d ok=>?_
        have c:=c.aE d
        replace c:=c.n5
        refine vx rfl<|vx rfl<|c.v3 fun _ _ c=>?_
        refine c.w2 3 fun _ c=>?_
        refine c.w3 5 fun _ c=>?_
        exact fin q am _ M _ _ _ _ _ _ (c.pick [0,1,2,3,5,4]) e1 e2 ok
       ·refine c.v3 fun _ _ c=>?_
        refine c.al 0 ?_
        refine cs.dI (jn:=jn) (B.up b0 c.gr) H k ht hi e1 fun x' M _ d ok=>?_
        have c:=c.aE d
        replace c:=c.n6
        refine vx rfl<|vx rfl<|c.w2 3 fun _ c=>?_
        refine c.w3 4 fun _ c=>?_
        exact fin q am _ M _ _ _ _ _ _ (c.pick [0,1,2,3,4,5]) e1 e2 ok
      ·refine c.v3 fun _ _ c=>?_
       refine And.intro (f33 c.gr) ?_
       refine c.ac 0 ?_
       refine c.al 0 ?_
       refine .inl (.inl ⟨I.aU,#[.int .i64 z],#[],rfl,cs.qR (kW cs.toZj (hs _ (B.up b0 c.gr)) (by omega) fun q _ hq e2 g=>?_)⟩)
       have c:=c.more g
       have e2:m.view t i≤q:=e2 _ hp2 (by omega)
       have e1:=List.getElem?_eq_getElem (l:=m.at i) (i:=q) (by omega)
       generalize (m.at i)[q]'(by omega)=am at e1
       refine c.al 0 ?_
       refine cs.dI (jn:=jn) (B.up b0 c.gr) H k ht hi e1 fun x' M _ d ok=>?_
       have c:=c.aE d
       replace c:=c.n6
       refine vx rfl<|vx rfl<|c.w2 3 fun _ c=>?_
       refine c.w3 4 fun _ c=>?_
       exact fin q am _ M _ _ _ _ _ _ (c.pick [0,1,2,3,4,5]) e1 e2 ok
     ·refine c.v3 fun _ _ c=>?_
      refine And.intro (f33 c.gr) ?_
      refine c.ac 0 ?_
      refine c.al 0 ?_
      refine cs.Ef (B.up b0 c.gr) Va fun _ p hp1 hp2 g=>?_
      have c:=c.more g
      refine And.intro (f33 c.gr) ?_
      refine c.ac 0 ?_
      refine c.al 0 ?_
      refine .inl (.inl ⟨I.aU,#[.int .i64 z],#[],rfl,cs.qR (kW cs.toZj (hs _ (B.up b0 c.gr)) (by omega) fun q _ hq e2 g=>?_)⟩)
      have c:=c.more g
      have e2:m.view t i≤q:=e2 _ hp2 (by omega)
      have e1:=List.getElem?_eq_getElem (l:=m.at i) (i:=q) (by omega)
      generalize (m.at i)[q]'(by omega)=am at e1
      refine c.al 0 ?_
      refine cs.dI (jn:=jn) (B.up b0 c.gr) H k ht hi e1 fun x' M _ d ok=>?_
      have c:=c.aE d
      replace c:=c.n6
      refine vx rfl<|vx rfl<|c.w2 3 fun _ c=>?_
      refine c.w3 4 fun _ c=>?_
      exact fin q am _ M _ _ _ _ _ _ (c.pick [0,1,2,3,4,5]) e1 e2 ok
    ·refine c.v3 fun _ _ c=>?_
     refine And.intro (f33 c.gr) ?_
     refine c.ac 0 ?_
     refine c.al 0 ?_
     refine ⟨?_,?_⟩
     ·refine cs.Ef (B.up b0 c.gr) Va fun _ p hp1 hp2 g=>?_
      have c:=c.more g
      refine And.intro (f33 c.gr) ?_
      refine c.ac 0 ?_
      refine c.al 0 ?_
      refine ⟨?_,?_⟩
      ·refine .inl (.inl ⟨I.aU,#[.int .i64 z],#[],rfl,cs.qR (kW cs.toZj (hs _ (B.up b0 c.gr)) (by omega) fun q _ hq e2 g=>?_)⟩)
       have c:=c.more g
       have e2:m.view t i≤q:=e2 _ hp2 (by omega)
       have e1:=List.getElem?_eq_getElem (l:=m.at i) (i:=q) (by omega)
       generalize (m.at i)[q]'(by omega)=am at e1
       refine c.al 0 ?_
       refine ⟨?_,?_⟩
       ·refine cs.dI (jn:=jn) (B.up b0 c.gr) H k ht hi e1 fun x' M _ d ok=>?_
        have c:=c.aE d
        replace c:=c.n5
        refine vx rfl<|vx rfl<|c.v2 fun _ _ c=>?_
        refine c.w2 5 fun _ c=>?_
        refine c.w3 3 fun _ c=>?_
        exact fin q am _ M _ _ _ _ _ _ (c.pick [0,1,2,5,3,4]) e1 e2 ok
       ·refine c.v2 fun _ _ c=>?_
        refine c.al 0 ?_
        refine cs.dI (jn:=jn) (B.up b0 c.gr) H k ht hi e1 fun x' M _ d ok=>?_
        have c:=c.aE d
        replace c:=c.n6
        refine vx rfl<|vx rfl<|c.w2 4 fun _ c=>?_
        refine c.w3 3 fun _ c=>?_
        exact fin q am _ M _ _ _ _ _ _ (c.pick [0,1,2,4,3,5]) e1 e2 ok
      ·refine c.v2 fun _ _ c=>?_
       refine And.intro (f33 c.gr) ?_
       refine c.ac 0 ?_
       refine c.al 0 ?_
       refine .inl (.inl ⟨I.aU,#[.int .i64 z],#[],rfl,cs.qR (kW cs.toZj (hs _ (B.up b0 c.gr)) (by omega) fun q _ hq e2 g=>?_)⟩)
       have c:=c.more g
       have e2:m.view t i≤q:=e2 _ hp2 (by omega)
       have e1:=List.getElem?_eq_getElem (l:=m.at i) (i:=q) (by omega)
       generalize (m.at i)[q]'(by omega)=am at e1
       refine c.al 0 ?_
       refine cs.dI (jn:=jn) (B.up b0 c.gr) H k ht hi e1 fun x' M _ d ok=>?_
       have c:=c.aE d
       replace c:=c.n6
       refine vx rfl<|vx rfl<|c.w2 4 fun _ c=>?_
       refine c.w3 3 fun _ c=>?_
       exact fin q am _ M _ _ _ _ _ _ (c.pick [0,1,2,4,3,5]) e1 e2 ok
     ·refine c.v2 fun _ _ c=>?_
      refine And.intro (f33 c.gr) ?_
      refine c.ac 0 ?_
      refine c.al 0 ?_
      refine cs.Ef (B.up b0 c.gr) Va fun _ p hp1 hp2 g=>?_
      have c:=c.more g
      refine And.intro (f33 c.gr) ?_
      refine c.ac 0 ?_
      refine c.al 0 ?_
      refine .inl (.inl ⟨I.aU,#[.int .i64 z],#[],rfl,cs.qR (kW cs.toZj (hs _ (B.up b0 c.gr)) (by omega) fun q _ hq e2 g=>?_)⟩)
      have c:=c.more g
      have e2:m.view t i≤q:=e2 _ hp2 (by omega)
      have e1:=List.getElem?_eq_getElem (l:=m.at i) (i:=q) (by omega)
      generalize (m.at i)[q]'(by omega)=am at e1
      refine c.al 0 ?_
      refine cs.dI (jn:=jn) (B.up b0 c.gr) H k ht hi e1 fun x' M _ d ok=>?_
      have c:=c.aE d
      replace c:=c.n6
      refine vx rfl<|vx rfl<|c.w2 4 fun _ c=>?_
      refine c.w3 3 fun _ c=>?_
      exact fin q am _ M _ _ _ _ _ _ (c.pick [0,1,2,4,3,5]) e1 e2 ok
  ·refine ⟨?_,?_⟩
   ·refine c.v2 fun _ _ c=>?_
    refine c.al 0 ?_
    refine And.intro (f33 c.gr) ?_
    refine c.ac 0 ?_
    refine c.al 0 ?_
    refine ⟨?_,?_⟩
    ·refine cs.seen (B.up b0 c.gr) H k ht fun a Va _ g=>?_
     have c:=c.more g
     refine And.intro (f33 c.gr) ?_
     refine c.ac 0 ?_
     refine c.al 0 ?_
     refine ⟨?_,?_⟩
     ·refine cs.Ef (B.up b0 c.gr) Va fun _ p hp1 hp2 g=>?_
      have c:=c.more g
      refine And.intro (f33 c.gr) ?_
      refine c.ac 0 ?_
      refine c.al 0 ?_
      refine ⟨?_,?_⟩
      ·refine .inl (.inl ⟨I.aU,#[.int .i64 z],#[],rfl,cs.qR (kW cs.toZj (hs _ (B.up b0 c.gr)) (by omega) fun q _ hq e2 g=>?_)⟩)
       have c:=c.more g
       have e2:m.view t i≤q:=e2 _ hp2 (by omega)
       have e1:=List.getElem?_eq_getElem (l:=m.at i) (i:=q) (by omega)
       generalize (m.at i)[q]'(by omega)=am at e1
       refine c.al 0 ?_
       refine ⟨?_,?_⟩
       ·refine cs.dI (jn:=jn) (B.up b0 c.gr) H k ht hi e1 fun x' M _ d ok=>?_
        have c:=c.aE d
        replace c:=c.n5
        refine vx rfl<|vx rfl<|c.v3 fun _ _ c=>?_
        refine c.w2 3 fun _ c=>?_
        refine c.w3 5 fun _ c=>?_
        exact fin q am _ M _ _ _ _ _ _ (c.pick [0,1,2,3,5,4]) e1 e2 ok
       ·refine c.v3 fun _ _ c=>?_
        refine c.al 0 ?_
        refine cs.dI (jn:=jn) (B.up b0 c.gr) H k ht hi e1 fun x' M _ d ok=>?_
        have c:=c.aE d
        replace c:=c.n6
        refine vx rfl<|vx rfl<|c.w2 3 fun _ c=>?_
        refine c.w3 4 fun _ c=>?_
        exact fin q am _ M _ _ _ _ _ _ (c.pick [0,1,2,3,4,5]) e1 e2 ok
      ·refine c.v3 fun _ _ c=>?_
       refine And.intro (f33 c.gr) ?_
       refine c.ac 0 ?_
       refine c.al 0 ?_
       refine .inl (.inl ⟨I.aU,#[.int .i64 z],#[],rfl,cs.qR (kW cs.toZj (hs _ (B.up b0 c.gr)) (by omega) fun q _ hq e2 g=>?_)⟩)
       have c:=c.more g
       have e2:m.view t i≤q:=e2 _ hp2 (by omega)
       have e1:=List.getElem?_eq_getElem (l:=m.at i) (i:=q) (by omega)
       generalize (m.at i)[q]'(by omega)=am at e1
       refine c.al 0 ?_
       refine cs.dI (jn:=jn) (B.up b0 c.gr) H k ht hi e1 fun x' M _ d ok=>?_
       have c:=c.aE d
       replace c:=c.n6
       refine vx rfl<|vx rfl<|c.w2 3 fun _ c=>?_
       refine c.w3 4 fun _ c=>?_
       exact fin q am _ M _ _ _ _ _ _ (c.pick [0,1,2,3,4,5]) e1 e2 ok
     ·refine c.v3 fun _ _ c=>?_
      refine And.intro (f33 c.gr) ?_
      refine c.ac 0 ?_
      refine c.al 0 ?_
      refine cs.Ef (B.up b0 c.gr) Va fun _ p hp1 hp2 g=>?_
      have c:=c.more g
      refine And.intro (f33 c.gr) ?_
      refine c.ac 0 ?_
      refine c.al 0 ?_
      refine .inl (.inl ⟨I.aU,#[.int .i64 z],#[],rfl,cs.qR (kW cs.toZj (hs _ (B.up b0 c.gr)) (by omega) fun q _ hq e2 g=>?_)⟩)
      have c:=c.more g
      have e2:m.view t i≤q:=e2 _ hp2 (by omega)
      have e1:=List.getElem?_eq_getElem (l:=m.at i) (i:=q) (by omega)
      generalize (m.at i)[q]'(by omega)=am at e1
      refine c.al 0 ?_
      refine cs.dI (jn:=jn) (B.up b0 c.gr) H k ht hi e1 fun x' M _ d ok=>?_
      have c:=c.aE d
      replace c:=c.n6
      refine vx rfl<|vx rfl<|c.w2 3 fun _ c=>?_
      refine c.w3 4 fun _ c=>?_
      exact fin q am _ M _ _ _ _ _ _ (c.pick [0,1,2,3,4,5]) e1 e2 ok
    ·refine c.v3 fun _ _ c=>?_
     refine c.al 0 ?_
     refine And.intro (f33 c.gr) ?_
     refine c.ac 0 ?_
     refine c.al 0 ?_
     refine cs.seen (B.up b0 c.gr) H k ht fun a Va _ g=>?_
     have c:=c.more g
     refine And.intro (f33 c.gr) ?_
     refine c.ac 0 ?_
     refine c.al 0 ?_
     refine cs.Ef (B.up b0 c.gr) Va fun _ p hp1 hp2 g=>?_
     have c:=c.more g
     refine And.intro (f33 c.gr) ?_
     refine c.ac 0 ?_
     refine c.al 0 ?_
     refine .inl (.inl ⟨I.aU,#[.int .i64 z],#[],rfl,cs.qR (kW cs.toZj (hs _ (B.up b0 c.gr)) (by omega) fun q _ hq e2 g=>?_)⟩)
     have c:=c.more g
     have e2:m.view t i≤q:=e2 _ hp2 (by omega)
     have e1:=List.getElem?_eq_getElem (l:=m.at i) (i:=q) (by omega)
     generalize (m.at i)[q]'(by omega)=am at e1
     refine c.al 0 ?_
     refine cs.dI (jn:=jn) (B.up b0 c.gr) H k ht hi e1 fun x' M _ d ok=>?_
     have c:=c.aE d
     replace c:=c.n6
     refine vx rfl<|vx rfl<|c.w2 3 fun _ c=>?_
     refine c.w3 4 fun _ c=>?_
     exact fin q am _ M _ _ _ _ _ _ (c.pick [0,1,2,3,4,5]) e1 e2 ok
   ·refine c.v3 fun _ _ c=>?_
    refine c.al 0 ?_
    refine And.intro (f33 c.gr) ?_
    refine c.ac 0 ?_
    refine c.al 0 ?_
    refine ⟨?_,?_⟩
    ·refine cs.seen (B.up b0 c.gr) H k ht fun a Va _ g=>?_
     have c:=c.more g
     refine And.intro (f33 c.gr) ?_
     refine c.ac 0 ?_
     refine c.al 0 ?_
     refine ⟨?_,?_⟩
     ·refine cs.Ef (B.up b0 c.gr) Va fun _ p hp1 hp2 g=>?_
      have c:=c.more g
      refine And.intro (f33 c.gr) ?_
      refine c.ac 0 ?_
      refine c.al 0 ?_
      refine ⟨?_,?_⟩
      ·refine .inl (.inl ⟨I.aU,#[.int .i64 z],#[],rfl,cs.qR (kW cs.toZj (hs _ (B.up b0 c.gr)) (by omega) fun q _ hq e2 g=>?_)⟩)
       have c:=c.more g
       have e2:m.view t i≤q:=e2 _ hp2 (by omega)
       have e1:=List.getElem?_eq_getElem (l:=m.at i) (i:=q) (by omega)
       generalize (m.at i)[q]'(by omega)=am at e1
       refine c.al 0 ?_
       refine ⟨?_,?_⟩
       ·refine cs.dI (jn:=jn) (B.up b0 c.gr) H k ht hi e1 fun x' M _ d ok=>?_
        have c:=c.aE d
        replace c:=c.n5
        refine vx rfl<|vx rfl<|c.v2 fun _ _ c=>?_
        refine c.w2 5 fun _ c=>?_
        refine c.w3 3 fun _ c=>?_
        exact fin q am _ M _ _ _ _ _ _ (c.pick [0,1,2,5,3,4]) e1 e2 ok
       ·refine c.v2 fun _ _ c=>?_
        refine c.al 0 ?_
        refine cs.dI (jn:=jn) (B.up b0 c.gr) H k ht hi e1 fun x' M _ d ok=>?_
        have c:=c.aE d
        replace c:=c.n6
        refine vx rfl<|vx rfl<|c.w2 4 fun _ c=>?_
        refine c.w3 3 fun _ c=>?_
        exact fin q am _ M _ _ _ _ _ _ (c.pick [0,1,2,4,3,5]) e1 e2 ok
      ·refine c.v2 fun _ _ c=>?_
       refine And.intro (f33 c.gr) ?_
       refine c.ac 0 ?_
       refine c.al 0 ?_
       refine .inl (.inl ⟨I.aU,#[.int .i64 z],#[],rfl,cs.qR (kW cs.toZj (hs _ (B.up b0 c.gr)) (by omega) fun q _ hq e2 g=>?_)⟩)
       have c:=c.more g
       have e2:m.view t i≤q:=e2 _ hp2 (by omega)
       have e1:=List.getElem?_eq_getElem (l:=m.at i) (i:=q) (by omega)
       generalize (m.at i)[q]'(by omega)=am at e1
       refine c.al 0 ?_
       refine cs.dI (jn:=jn) (B.up b0 c.gr) H k ht hi e1 fun x' M _ d ok=>?_
       have c:=c.aE d
       replace c:=c.n6
       refine vx rfl<|vx rfl<|c.w2 4 fun _ c=>?_
       refine c.w3 3 fun _ c=>?_
       exact fin q am _ M _ _ _ _ _ _ (c.pick [0,1,2,4,3,5]) e1 e2 ok
     ·refine c.v2 fun _ _ c=>?_
      refine And.intro (f33 c.gr) ?_
      refine c.ac 0 ?_
      refine c.al 0 ?_
      refine cs.Ef (B.up b0 c.gr) Va fun _ p hp1 hp2 g=>?_
      have c:=c.more g
      refine And.intro (f33 c.gr) ?_
      refine c.ac 0 ?_
      refine c.al 0 ?_
      refine .inl (.inl ⟨I.aU,#[.int .i64 z],#[],rfl,cs.qR (kW cs.toZj (hs _ (B.up b0 c.gr)) (by omega) fun q _ hq e2 g=>?_)⟩)
      have c:=c.more g
      have e2:m.view t i≤q:=e2 _ hp2 (by omega)
      have e1:=List.getElem?_eq_getElem (l:=m.at i) (i:=q) (by omega)
      generalize (m.at i)[q]'(by omega)=am at e1
      refine c.al 0 ?_
      refine cs.dI (jn:=jn) (B.up b0 c.gr) H k ht hi e1 fun x' M _ d ok=>?_
      have c:=c.aE d
      replace c:=c.n6
      refine vx rfl<|vx rfl<|c.w2 4 fun _ c=>?_
      refine c.w3 3 fun _ c=>?_
      exact fin q am _ M _ _ _ _ _ _ (c.pick [0,1,2,4,3,5]) e1 e2 ok
    ·refine c.v2 fun _ _ c=>?_
     refine c.al 0 ?_
     refine And.intro (f33 c.gr) ?_
     refine c.ac 0 ?_
     refine c.al 0 ?_
     refine cs.seen (B.up b0 c.gr) H k ht fun a Va _ g=>?_
     have c:=c.more g
     refine And.intro (f33 c.gr) ?_
     refine c.ac 0 ?_
     refine c.al 0 ?_
     refine cs.Ef (B.up b0 c.gr) Va fun _ p hp1 hp2 g=>?_
     have c:=c.more g
     refine And.intro (f33 c.gr) ?_
     refine c.ac 0 ?_
     refine c.al 0 ?_
     refine .inl (.inl ⟨I.aU,#[.int .i64 z],#[],rfl,cs.qR (kW cs.toZj (hs _ (B.up b0 c.gr)) (by omega) fun q _ hq e2 g=>?_)⟩)
     have c:=c.more g
     have e2:m.view t i≤q:=e2 _ hp2 (by omega)
     have e1:=List.getElem?_eq_getElem (l:=m.at i) (i:=q) (by omega)
     generalize (m.at i)[q]'(by omega)=am at e1
     refine c.al 0 ?_
     refine cs.dI (jn:=jn) (B.up b0 c.gr) H k ht hi e1 fun x' M _ d ok=>?_
     have c:=c.aE d
     replace c:=c.n6
     refine vx rfl<|vx rfl<|c.w2 4 fun _ c=>?_
     refine c.w3 3 fun _ c=>?_
     exact fin q am _ M _ _ _ _ _ _ (c.pick [0,1,2,4,3,5]) e1 e2 ok
 ·rintro _ _ h7 ⟨q,am,ro,rw,x',M,rfl,rfl,e1,e2,c,ok⟩
  replace c:=c.n6
  refine c.rl 3 ?_
  refine c.rl 4 ?_
  refine c.w2 1 fun _ c=>?_
  refine c.al 4 ?_
  refine c.w3 2 fun _ c=>?_
  refine c.rl 1 ?_
  refine c.rl 2 ?_
  exact hR q am x' e1 e2 M _ (c.pick [5]) ok
end
end Go.En
namespace Go.En
variable {S:Sys} {I:aZ} {h h0 h':Hp} {F F0:Fp} {R:Value→Hp→Prop} {L:List bQ} {B B':Bs}
structure ZT (S:Sys) (I:aZ):Prop extends Z8 S I where
 Sm:∀{B:Bs} {T n b t i:Nat} {x:SH × SH} {m:Me} {jn:Bool} {z:Int} {h R},B.p h→MO B x m→Mk T n b m→b≤1000000→(1≤t∧t≤T)→i<n→m.view t i≤((m.at i).length - 1:Nat)→
  (∀(q:Nat) (am:AM) x',(m.at i)[q]?=some am→m.view t i≤q→Rt B h (fun B=>MO B x' (m.xB t i q am jn)) fun h'=>R (.tuple #[s7 x',mW am.w,.int .i64 0]) h')→S.C I.gP [s7 x,.int .i64 t,.int .i64 i,.bool jn,.func (.func I.aU) #[.int .i64 z] #[]] h R
section
variable {T n b t i:Nat} {x:SH × SH} {m:Me} {w:W3} {am:AM} {v:MV} {mc:Mc}
theorem VF (cs:ZT S I) (b0:B.p h) (H:MO B x m) (k:Mk T n b m) (hb:b≤1000000) (ht:1≤t∧t≤T) (hi:i<n) (hv:m.view t i≤((m.at i).length - 1:Nat)) {jn:Bool} {z:Int}
  (hR:∀(q:Nat) (am:AM) x',(m.at i)[q]?=some am→m.view t i≤q→Rt B h (fun B=>MO B x' (m.xB t i q am jn)) fun h'=>R (.tuple #[s7 x',mW am.w,.int .i64 0]) h'):pu S I (s7 x) (.int .i64 t) (.int .i64 i) (.bool jn) (.int .i64 z) h R:=by
 unfold pu
 have c:=Cx.aA h
 refine c.v2 fun _ _ c=>?_
 refine c.v2 fun _ _ c=>?_
 refine c.v3 fun _ _ c=>?_
 refine c.rl 0 ?_
 refine vx rfl<|cs.Sm (B.up b0 c.gr) H k hb ht hi hv fun q am x' e1 e2 M _ d ok=>?_
 have c:=c.aE d
 replace c:=c.n4
 refine c.X6 1 2 fun _ c=>?_
 exact hR q am x' e1 e2 M _ (c.pick [3]) ok
end
structure Lj where
 fst:List W3
 lg:List (List UE × Int)
 asn:Int→Int→Option Int
def Lj.aQ (l:Lj) (i:Nat) (w:W3):Lj:={l with lg:=l.lg.set (i / 8) (((l.lg.getD (i / 8) ([],0)).1++[((i:Int),w)]),(l.lg.getD (i / 8) ([],0)).2)}
def Lj.Hz (l:Lj) (t i:Nat):Lj:={l with asn:=fun x n=>if x=t∧n=(i / 8:Nat) then some ((l.lg.getD (i / 8) ([],0)).1.length:Nat) else l.asn x n}
def Lj.Hy (l:Lj) (t:Nat):Lj:={l with lg:=l.lg.mapIdx (fun n g=>(g.1,max g.2 ((l.asn t n).getD g.2))),asn:=fun x n=>if x=t then none else l.asn x n}
def mM (o:Option Nat):Value:=.map o
def Yi (B:Bs) (a:Option Nat) (f:Int→Int→Option Int):Prop:=
 ∃es:List (Int × Option Nat),(On B fun h=>(a=none∧es=[])∨Mp .i64 mM h (.map a) es)∧(es.map (·.1)).Nodup∧∀t:Int,∃ps,(On B fun h=>Mo h ((gD es t).getD none) ps)∧(ps.map (·.1)).Nodup∧∀n,f t n=gD ps n
theorem Yi.le {a:Option Nat} {f:Int→Int→Option Int} (H:Yi B a f) (l:B.le B'):Yi B' a f:=let ⟨es,m,nd,g⟩ :=H; ⟨es,m.le l,nd,fun t=>let ⟨ps,p,q⟩ :=g t; ⟨ps,p.le l,q⟩⟩
structure Nq (B:Bs) (y:LV) (l:Lj):Prop where
 lo:LO B y ⟨l.fst,l.lg,y.a⟩
 asn:Yi B y.a l.asn
theorem Nq.le {y:LV} {l:Lj} (H:Nq B y l) (l':B.le B'):Nq B' y l:=⟨H.lo.le l',H.asn.le l'⟩
structure Hx (n b:Nat) (l:Lj):Prop where
 k:∀a,Lk n b ⟨l.fst,l.lg,a⟩
 asn:∀t j q,l.asn t j=some q→0≤j∧j<l.lg.length
theorem Hx.up {n b b':Nat} {l:Lj} (k:Hx n b l) (h:b≤b'):Hx n b' l:=⟨fun a=>(k.k a).up h,k.asn⟩
theorem Hx.aQ {n b i:Nat} {l:Lj} {w:W3} (k:Hx n b l) (hi:i<n):Hx n (b+1) (l.aQ i w):=⟨fun a=>(k.k a).aQ hi,fun t j q h=>by
 have:=k.asn t j q h
 show 0≤j∧j<((l.lg.set _ _).length:Nat)
 rw [List.length_set]; exact this⟩
theorem Hx.Hz {n b i t:Nat} {l:Lj} (k:Hx n b l) (hi:i<n):Hx n b (l.Hz t i):=⟨k.k,fun t' j q h=>by
 have h:(if t'=t∧j=(i / 8:Nat) then some ((l.lg.getD (i / 8) ([],0)).1.length:Int) else l.asn t' j)=some q:=h
 have e:=(k.k none).lg
 have e:l.lg.length=(n+7) / 8:=e
 by_cases c:t'=t∧j=(i / 8:Nat)
 ·show 0≤j∧j<(l.lg.length:Nat)
  omega
 ·rw [if_neg c] at h
  exact k.asn t' j q h⟩
theorem Hx.Hy {n b t:Nat} {l:Lj} (k:Hx n b l):Hx n b (l.Hy t):=by
 refine ⟨fun a=>⟨(k.k a).fst,by show (l.lg.mapIdx _).length=_; rw [List.length_mapIdx]; exact (k.k a).lg,(k.k a).le,fun g hg=>?_⟩,fun t' j q h=>?_⟩
 ·have hg:g∈l.lg.mapIdx (fun n g=>(g.1,max g.2 ((l.asn t n).getD g.2))):=hg
  obtain ⟨i,hi,rfl⟩ :=List.mem_mapIdx.1 hg
  exact (k.k a).len (l.lg[i]) (List.getElem_mem _)
 ·have h:(if t'=t then none else l.asn t' j)=some q:=h
  by_cases c:t'=t
  ·rw [if_pos c] at h; cases h
  ·rw [if_neg c] at h
   show 0≤j∧j<((l.lg.mapIdx _).length:Nat)
   rw [List.length_mapIdx]
   exact k.asn t' j q h
section
variable {n b t i:Nat} {y:LV} {l:Lj} {w:W3} {a:Option Nat} {ps:List (Int × Int)} {es:List (Int × Option Nat)}
theorem LR (ht:1≤t∧t≤8) (hR:∀h',Gr h h'→R (.bool true) h'):vM S I (.int .i64 t) h R:=by
 unfold vM
 have c:=Cx.aA h
 exact .here<|vx (uA (by omega))<|eR<|vx (IU (by omega))<|hR _ c.gr
theorem Oh (m:Mp .i64 mI h (.map a) ps) (hR:∀k h',Cx (fun _=>False) h h' [DT .i64 mI (.map (some k)) ps]→R (.map (some k)) h'):dP S I (.map a) h R:=by
 obtain ⟨r,es,clock,e,hh,he⟩ :=m
 injection e with e
 subst e
 unfold dP
 refine En.vb (v:=.bool false) rfl ?_
 rw [p9,bC]
 refine En.eb (v:=.iface I.tK (.map (some h.size))) (h':=h.push (.map es clock)) (by simp only [Qv,hh]) ?_
 refine En.vb (v:=.map (some h.size)) (by simp [C3]) ?_
 refine hR _ _ ((Cx.aA h).add (F':=fun q=>q=h.size) ⟨⟨h.size,es,clock,rfl,by simp,he⟩,fun q=>by simp [Bw,eq_comm]⟩ (Ch.push _ _) fun r e=>by omega)
theorem My (hR:R (.map none) h):dP S I (.map none) h R:=by
 unfold dP
 refine En.vb (v:=.bool true) rfl ?_
 rw [Gi]
 exact hR
theorem NZ (m:Mp .i64 mM h (.map a) es) (hR:∀k h',Cx (fun _=>False) h h' [DT .i64 mM (.map (some k)) es]→R (.map (some k)) h'):bM S I (.map a) h R:=by
 obtain ⟨r,es,clock,e,hh,he⟩ :=m
 injection e with e
 subst e
 unfold bM
 refine En.vb (v:=.bool false) rfl ?_
 rw [p9,bC]
 refine En.eb (v:=.iface I.l6 (.map (some h.size))) (h':=h.push (.map es clock)) (by simp only [Qv,hh]) ?_
 refine En.vb (v:=.map (some h.size)) (by simp [C3]) ?_
 refine hR _ _ ((Cx.aA h).add (F':=fun q=>q=h.size) ⟨⟨h.size,es,clock,rfl,by simp,he⟩,fun q=>by simp [Bw,eq_comm]⟩ (Ch.push _ _) fun r e=>by omega)
theorem L7 (hR:R (.map none) h):bM S I (.map none) h R:=by
 unfold bM
 refine En.vb (v:=.bool true) rfl ?_
 rw [Gi]
 exact hR
end
end Go.En
namespace Go.En
section
variable {α:Type} {ik:IntKind} {E:α→Value} {h h':Hp} {v:Value} {ps:List (Int × α)}
def Bj (ps:List (Int × α)) (k:Int):List (Int × α):=ps.eraseP fun p=>p.1 == k
theorem I0 {p:Int × α} {k:Int}:∀{ps1 ps2:List (Int × α)},(∀q∈ps1,q.1≠k)→p.1=k→Bj (ps1++p::ps2) k=ps1++ps2
 | [],ps2,_,h=>by unfold Bj; rw [List.nil_append,List.eraseP_cons_of_pos (by simpa using h),List.nil_append]
 | q::ps1,ps2,h1,h2=>by
  have ih:=I0 (ps1:=ps1) (ps2:=ps2) (fun q hq=>h1 q (List.mem_cons_of_mem _ hq)) h2
  unfold Bj at ih⊢
  rw [List.cons_append,List.eraseP_cons_of_neg (by simpa using h1 q (by simp)),ih,List.cons_append]
theorem Gb {k:Int}:∀{ps:List (Int × α)},gD ps k=none→Bj ps k=ps
 | [],_=>rfl
 | p::ps,h=>by
  unfold gD at h
  by_cases e:p.1=k
  ·rw [List.find?_cons_of_pos (by simpa using e)] at h; simp at h
  ·rw [List.find?_cons_of_neg (by simpa using e)] at h
   have ih:=Gb (ps:=ps) h
   unfold Bj at ih⊢
   rw [List.eraseP_cons_of_neg (by simpa using e),ih]
theorem E0 {k k':Int}:∀{ps:List (Int × α)},(ps.map (·.1)).Nodup→gD (Bj ps k) k'=if k'=k then none else gD ps k'
 | [],_=>by simp [Bj,gD]
 | p::ps,hn=>by
  rw [List.map_cons,List.nodup_cons] at hn
  have ih:=E0 (k:=k) (k':=k') hn.2
  unfold Bj at ih⊢
  by_cases h:p.1=k
  ·rw [List.eraseP_cons_of_pos (by simpa using h)]
   by_cases h2:k'=k
   ·rw [if_pos h2]
    unfold gD
    rw [List.find?_eq_none.2 fun q hq=>by
     intro e
     simp only [beq_iff_eq] at e
     exact hn.1 (List.mem_map.2 ⟨q,hq,by rw [e,h2,h]⟩)]
    rfl
   ·rw [if_neg h2]
    unfold gD
    rw [List.find?_cons_of_neg (by rw [h]; simpa using fun e=>h2 e.symm)]
  ·rw [List.eraseP_cons_of_neg (by simpa using h)]
   unfold gD at ih⊢
   by_cases h3:p.1=k'
   ·rw [List.find?_cons_of_pos (by simpa using h3),List.find?_cons_of_pos (by simpa using h3),if_neg (by rw [←h3]; exact h)]
   ·rw [List.find?_cons_of_neg (by simpa using h3),List.find?_cons_of_neg (by simpa using h3)]; exact ih
theorem Kt {k:Int} (h:(ps.map (·.1)).Nodup):((Bj ps k).map (·.1)).Nodup:=h.sublist (List.eraseP_sublist.map _)
theorem Mp.del (H:Mp ik E h v ps) (k:Int):∃h',OM (.int ik) v (.int ik k) h=some (.tuple #[],h')∧Mp ik E h' v (Bj ps k)∧Ch (fun r=>Bw v=some r) h h':=by
 obtain ⟨r,es,clock,rfl,hh,he⟩ :=H
 obtain ⟨f,h1,h2,h3⟩ :=DD (k:=k) 0 he.Qt
 have hlt:=(Array.getElem?_eq_some_iff.mp hh).1
 have hch:∀o,Ch (fun r'=>Bw (.map (some r))=some r') h (h.setIfInBounds r o):=fun o=>⟨by simp,fun r' _ hn=>by rw [Array.getElem?_setIfInBounds,if_neg (fun e=>hn (by rw [←e]; rfl))]⟩
 cases f with
 | some y=>
  obtain ⟨j,u⟩ :=y
  refine ⟨_,by simp only [OM,zg,hh,h1]; rfl,⟨r,_,clock,rfl,by rw [Array.getElem?_setIfInBounds,if_pos rfl,if_pos hlt],?_⟩,hch _⟩
  obtain ⟨es1,e,es2,ps1,p,ps2,a1,rfl,a3,a4,a5,a6,a7,a8⟩ :=h3 j u rfl
  have hj:j=es1.length:=by omega
  have hlen:j<es.size:=by
   have:=congrArg List.length a1
   simp only [Array.length_toList,List.length_append,List.length_cons] at this
   omega
  have hm:(es.eraseIdxIfInBounds j).toList=es1++es2:=by
   rw [Array.toList_eraseIdxIfInBounds,a1,hj,List.eraseIdx_append_of_length_le (Nat.le_refl _),Nat.sub_self]
   rfl
  rw [hm]
  have hd:=he.Qt
  rw [a1,List.map_append,List.map_append,List.map_cons,List.map_cons] at hd
  obtain ⟨d1,d2⟩ :=List.append_inj hd (by simp [a5])
  simp only [List.cons.injEq] at d2
  refine ⟨?_,?_,?_⟩
  ·rw [I0 a7 a6,List.map_append,List.map_append,d1,d2.2]
  ·intro e' he'
   rcases List.mem_append.mp he' with m | m
   ·exact he.born e' (by rw [a1]; simp [m])
   ·exact he.born e' (by rw [a1]; simp [m])
  ·have hs:(es1++es2).Sublist es.toList:=by
    rw [a1]
    exact (List.Sublist.refl es1).append (List.sublist_cons_self e es2)
   exact he.nodup.sublist (hs.map _)
 | none=>
  have hnone:gD ps k=none:=by simpa using h2.symm
  refine ⟨_,by simp only [OM,zg,hh,h1]; rfl,⟨r,_,clock,rfl,by rw [Array.getElem?_setIfInBounds,if_pos rfl,if_pos hlt],?_⟩,hch _⟩
  rw [Gb hnone]
  exact he
theorem Cx.OM {F0:Fp} {h0:Hp} {L:List bQ} {E:α→Value} {v:Value} {ps:List (Int × α)} (c:Cx F0 h0 h L) (i:Nat) (hi:L[i]?=some (DT .i64 E v ps)) (k:Int) {K:Value→Hp→Prop}
  (hK:∀h',Cx F0 h0 h' (L.set i (DT .i64 E v (Bj ps k)))→K (.tuple #[]) h'):Eb (En.OM (.int .i64) v (.int .i64 k) h) K:=by
 obtain ⟨F,⟨m,hf⟩,up⟩ :=c.Nz hi
 obtain ⟨h',e,m',ch⟩ :=m.del k
 exact eb e (hK h' (up (F':=F) ⟨m',hf⟩ (sF (ch.mono fun q _ e=>(hf q).2 e))))
end
end Go.En
namespace Go.En
variable {S:Sys} {I:aZ} {h h0 h':Hp} {F F0:Fp} {R:Value→Hp→Prop} {L:List bQ} {B B':Bs}
structure YD (S:Sys) (I:aZ):Prop extends ZT S I where
 uJ:∀{t:Nat} {h} {R:Value→Hp→Prop},(1≤t∧t≤8)→(∀h',Gr h h'→R (.bool true) h')→S.C I.qp [.int .i64 t] h R
 J6:∀{a:Option Nat} {ps:List (Int × Int)} {h R},Mp .i64 mI h (.map a) ps→(∀k h',Cx (fun _=>False) h h' [DT .i64 mI (.map (some k)) ps]→R (.map (some k)) h')→S.C I.dQ [.map a] h R
 GS:∀{h} {R:Value→Hp→Prop},R (.map none) h→S.C I.dQ [.map none] h R
 EN:∀{a:Option Nat} {es:List (Int × Option Nat)} {h R},Mp .i64 mM h (.map a) es→(∀k h',Cx (fun _=>False) h h' [DT .i64 mM (.map (some k)) es]→R (.map (some k)) h')→S.C I.bE [.map a] h R
 DH:∀{h} {R:Value→Hp→Prop},R (.map none) h→S.C I.bE [.map none] h R
theorem WR {a:Option Nat} {es:List (Int × Option Nat)} (H:(a=none∧es=[])∨Mp .i64 mM h (.map a) es) (k:Int):MF (.int .i64) (.map none) false (.map a) (.int .i64 k) h=some (.map ((gD es k).getD none)):=by
 rcases H with ⟨rfl,rfl⟩ | m
 ·rfl
 ·rw [m.look]
  cases gD es k with
  | none=>rfl
  | some x=>rfl
section
variable {n b t i:Nat} {y:LV} {l:Lj}
theorem QL (cs:YD S I) (b0:B.p h) (H:Nq B y l) (k:Hx n b l) (ht:1≤t∧t≤8) (hi:i<n) (hR:∀y',Rt B h (fun B=>Nq B y' (l.Hz t i)) fun h'=>R (.tuple #[Gw y',.int .i64 0]) h'):jF S I (Gw y) (.int .i64 t) (.int .i64 i) h R:=by
 obtain ⟨us,h1,h2,h3⟩ :=H.lo.lg
 obtain ⟨es,A1,A2,A3⟩ :=H.asn
 obtain ⟨ps,P1,P3,P2⟩ :=A3 t
 have hl:=(k.k none).lg
 have hle:=(k.k none).le
 have hl:l.lg.length=(n+7) / 8:=hl
 have h2:us.length=l.lg.length:=h2
 have hlt:i / 8<us.length:=by omega
 have hu:=List.getElem?_eq_getElem (l:=us) (i:=i / 8) hlt
 have hg:l.lg[i / 8]?=some (l.lg.getD (i / 8) ([],0)):=by
  rw [List.getD_eq_getElem?_getD,List.getElem?_eq_getElem (by omega)]; rfl
 obtain ⟨e2,s1⟩ :=h3 _ _ _ hu hg
 have hgl:=(k.k none).len _ (List.mem_of_getElem? hg)
 generalize us[i / 8]=u at hu e2 s1
 obtain ⟨u,kp⟩ :=u
 dsimp only at e2 s1
 have eq8:((i:Int)) / 8=((i / 8:Nat):Int):=by omega
 have e24:∀{h'':Hp},Gr h h''→MF (.int .i64) (.map none) false (.map y.a) (.int .i64 t) h''=some (.map ((gD es t).getD none)):=fun g=>WR (A1 _ (B.up b0 g)) t
 have fin:∀(k1 k2:Nat) (h':Hp),Cx (fun _=>False) h h' [DT .i64 mI (.map (some k1)) (r8 ps (i / 8:Nat) ((l.lg.getD (i / 8) ([],0)).1.length:Nat)),DT .i64 mM (.map (some k2)) (r8 es t (some k1))]→R (.tuple #[Gw ⟨y.f,y.l,some k2⟩,.int .i64 0]) h':=fun k1 k2 h' c=>by
  refine hR ⟨y.f,y.l,some k2⟩ [DT .i64 mI (.map (some k1)) (r8 ps (i / 8:Nat) ((l.lg.getD (i / 8) ([],0)).1.length:Nat)),DT .i64 mM (.map (some k2)) (r8 es t (some k1))] h' (Cx.pack (L:=[]) c) ⟨⟨H.lo.fst.le (Bs.aR _ _),(H.lo.le (Bs.aR _ _)).lg,rfl⟩,r8 es t (some k1),(On.mp (i:=1) rfl).imp fun _ m=>.inr m,Aw _ _ A2,fun t'=>?_⟩
  rw [wU]
  by_cases ct:t'=t
  ·subst ct
   rw [if_pos rfl]
   refine ⟨_,(On.mp (i:=0) rfl).imp fun _ m=>.inr m,Aw _ _ P3,fun n'=>?_⟩
   rw [wU,←P2 n']
   show (if (t:Int)=t∧n'=(i / 8:Nat) then _ else _)=_
   by_cases cn:n'=(i / 8:Nat)
   ·rw [if_pos ⟨rfl,cn⟩,if_pos cn]
   ·rw [if_neg (fun x=>cn x.2),if_neg cn]
  ·rw [if_neg ct]
   obtain ⟨qs,q1,q2⟩ :=A3 t'
   refine ⟨qs,q1.le (Bs.aR _ _),q2.1,fun n'=>?_⟩
   show (if t'=t∧n'=(i / 8:Nat) then _ else _)=_
   rw [if_neg (fun x=>ct x.1)]
   exact q2.2 n'
 obtain ⟨yf,yl,ya⟩ :=y
 dsimp only at h1 A1 A3 e24 fin
 generalize (gD es t).getD none=o at P1 e24
 rcases P1 _ b0 with ⟨rfl,rfl⟩ | mi
 ·rcases A1 _ b0 with ⟨rfl,rfl⟩ | mo
  ·skip
   unfold jF
   have c:=Cx.aA h
   refine c.v3 fun _ _ c=>?_
   refine c.v3 fun _ _ c=>?_
   refine cs.uJ ht fun _ g=>?_
   have c:=c.more g
   refine vx (v:=.bool false) (rfl)<|bD<|c.rl 0 ?_
   refine cs.has (B.up b0 c.gr) H.lo (k.k _) hi fun _ g=>?_
   have c:=c.more g
   refine vx (v:=.bool false) (rfl)<|bD<|aD<|c.rc 0 ?_
   refine vx (e24 c.gr)<|cs.GS ?_
   refine .here<|vx (v:=.bool true) (rfl)<|eR<|c.MZ .i64 mI fun k1 _ c=>?_
   replace c:=c.n3
   refine vx (EF ⟨by omega,by omega⟩ (by decide)) ?_
   rw [eq8]
   refine aD<|c.rc 0 ?_
   obtain ⟨r,oo,el,ei,_⟩ :=(h1 _ (B.up b0 c.gr)).ix hu (n:=2) rfl (k:=.i64) (z:=((i / 8:Nat):Int)) rfl
   refine vx el<|vx (oZ _ _ _)<|vx (ei.dU (j:=0) rfl)<|vx (s1 _ (B.up b0 c.gr)).ln<|c.CZ 2 rfl (i / 8:Nat) ((l.lg.getD (i / 8) ([],0)).1.length:Nat) rfl fun _ c=>?_
   replace c:=c.n3
   refine aD<|c.rc 0 ?_
   refine cs.DH ?_
   refine aD<|c.q3 0 fun _ c=>?_
   refine .here<|aD<|c.rc 0 ?_
   refine vx (v:=.bool true) (rfl)<|eR<|c.MZ .i64 mM fun k2 _ c=>?_
   replace c:=c.n4
   refine aD<|c.q3 0 fun _ c=>?_
   refine aD<|c.rc 0 ?_
   refine c.CZ 3 rfl t (some k1) rfl fun _ c=>?_
   replace c:=c.n4
   refine c.rl 0 ?_
   refine c.w3 1 fun _ c=>?_
   refine c.rl 1 ?_
   exact fin k1 k2 _ (c.pick [2,3])
  ·skip
   unfold jF
   have c:=Cx.aA h
   refine c.v3 fun _ _ c=>?_
   refine c.v3 fun _ _ c=>?_
   refine cs.uJ ht fun _ g=>?_
   have c:=c.more g
   refine vx (v:=.bool false) (rfl)<|bD<|c.rl 0 ?_
   refine cs.has (B.up b0 c.gr) H.lo (k.k _) hi fun _ g=>?_
   have c:=c.more g
   refine vx (v:=.bool false) (rfl)<|bD<|aD<|c.rc 0 ?_
   refine vx (e24 c.gr)<|cs.GS ?_
   refine .here<|vx (v:=.bool true) (rfl)<|eR<|c.MZ .i64 mI fun k1 _ c=>?_
   replace c:=c.n3
   refine vx (EF ⟨by omega,by omega⟩ (by decide)) ?_
   rw [eq8]
   refine aD<|c.rc 0 ?_
   obtain ⟨r,oo,el,ei,_⟩ :=(h1 _ (B.up b0 c.gr)).ix hu (n:=2) rfl (k:=.i64) (z:=((i / 8:Nat):Int)) rfl
   refine vx el<|vx (oZ _ _ _)<|vx (ei.dU (j:=0) rfl)<|vx (s1 _ (B.up b0 c.gr)).ln<|c.CZ 2 rfl (i / 8:Nat) ((l.lg.getD (i / 8) ([],0)).1.length:Nat) rfl fun _ c=>?_
   replace c:=c.n3
   refine aD<|c.rc 0 ?_
   refine cs.EN (mo.gr c.gr) fun k2 _ d=>?_
   have c:=c.aE d
   replace c:=c.n4
   refine aD<|c.q3 0 fun _ c=>?_
   refine .here<|aD<|c.rc 0 ?_
   refine vx (v:=.bool false) (rfl)<|bD<|aD<|c.rc 0 ?_
   refine c.CZ 3 rfl t (some k1) rfl fun _ c=>?_
   replace c:=c.n4
   refine c.rl 0 ?_
   refine c.w3 1 fun _ c=>?_
   refine c.rl 1 ?_
   exact fin k1 k2 _ (c.pick [2,3])
 ·rcases A1 _ b0 with ⟨rfl,rfl⟩ | mo
  ·skip
   unfold jF
   have c:=Cx.aA h
   refine c.v3 fun _ _ c=>?_
   refine c.v3 fun _ _ c=>?_
   refine cs.uJ ht fun _ g=>?_
   have c:=c.more g
   refine vx (v:=.bool false) (rfl)<|bD<|c.rl 0 ?_
   refine cs.has (B.up b0 c.gr) H.lo (k.k _) hi fun _ g=>?_
   have c:=c.more g
   refine vx (v:=.bool false) (rfl)<|bD<|aD<|c.rc 0 ?_
   refine vx (e24 c.gr)<|cs.J6 (mi.gr c.gr) fun k1 _ d=>?_
   have c:=c.aE d
   replace c:=c.n3
   refine .here<|vx (v:=.bool false) (rfl)<|bD<|vx (EF ⟨by omega,by omega⟩ (by decide)) ?_
   rw [eq8]
   refine aD<|c.rc 0 ?_
   obtain ⟨r,oo,el,ei,_⟩ :=(h1 _ (B.up b0 c.gr)).ix hu (n:=2) rfl (k:=.i64) (z:=((i / 8:Nat):Int)) rfl
   refine vx el<|vx (oZ _ _ _)<|vx (ei.dU (j:=0) rfl)<|vx (s1 _ (B.up b0 c.gr)).ln<|c.CZ 2 rfl (i / 8:Nat) ((l.lg.getD (i / 8) ([],0)).1.length:Nat) rfl fun _ c=>?_
   replace c:=c.n3
   refine aD<|c.rc 0 ?_
   refine cs.DH ?_
   refine aD<|c.q3 0 fun _ c=>?_
   refine .here<|aD<|c.rc 0 ?_
   refine vx (v:=.bool true) (rfl)<|eR<|c.MZ .i64 mM fun k2 _ c=>?_
   replace c:=c.n4
   refine aD<|c.q3 0 fun _ c=>?_
   refine aD<|c.rc 0 ?_
   refine c.CZ 3 rfl t (some k1) rfl fun _ c=>?_
   replace c:=c.n4
   refine c.rl 0 ?_
   refine c.w3 1 fun _ c=>?_
   refine c.rl 1 ?_
   exact fin k1 k2 _ (c.pick [2,3])
  ·skip
   unfold jF
   have c:=Cx.aA h
   refine c.v3 fun _ _ c=>?_
   refine c.v3 fun _ _ c=>?_
   refine cs.uJ ht fun _ g=>?_
   have c:=c.more g
   refine vx (v:=.bool false) (rfl)<|bD<|c.rl 0 ?_
   refine cs.has (B.up b0 c.gr) H.lo (k.k _) hi fun _ g=>?_
   have c:=c.more g
   refine vx (v:=.bool false) (rfl)<|bD<|aD<|c.rc 0 ?_
   refine vx (e24 c.gr)<|cs.J6 (mi.gr c.gr) fun k1 _ d=>?_
   have c:=c.aE d
   replace c:=c.n3
   refine .here<|vx (v:=.bool false) (rfl)<|bD<|vx (EF ⟨by omega,by omega⟩ (by decide)) ?_
   rw [eq8]
   refine aD<|c.rc 0 ?_
   obtain ⟨r,oo,el,ei,_⟩ :=(h1 _ (B.up b0 c.gr)).ix hu (n:=2) rfl (k:=.i64) (z:=((i / 8:Nat):Int)) rfl
   refine vx el<|vx (oZ _ _ _)<|vx (ei.dU (j:=0) rfl)<|vx (s1 _ (B.up b0 c.gr)).ln<|c.CZ 2 rfl (i / 8:Nat) ((l.lg.getD (i / 8) ([],0)).1.length:Nat) rfl fun _ c=>?_
   replace c:=c.n3
   refine aD<|c.rc 0 ?_
   refine cs.EN (mo.gr c.gr) fun k2 _ d=>?_
   have c:=c.aE d
   replace c:=c.n4
   refine aD<|c.q3 0 fun _ c=>?_
   refine .here<|aD<|c.rc 0 ?_
   refine vx (v:=.bool false) (rfl)<|bD<|aD<|c.rc 0 ?_
   refine c.CZ 3 rfl t (some k1) rfl fun _ c=>?_
   replace c:=c.n4
   refine c.rl 0 ?_
   refine c.w3 1 fun _ c=>?_
   refine c.rl 1 ?_
   exact fin k1 k2 _ (c.pick [2,3])
end
end Go.En
namespace Go.En
variable {S:Sys} {I:aZ} {h h0 h':Hp} {F F0:Fp} {R:Value→Hp→Prop} {L:List bQ} {B B':Bs}
section
variable {n b t i:Nat} {y:LV} {l:Lj}
theorem Tv (cs:YD S I) (b0:B.p h) (H:Nq B y l) (k:Hx n b l) (ht:1≤t∧t≤8) (hR:∀y',Rt B h (fun B=>Nq B y' (l.Hy t)) fun h'=>R (.tuple #[Gw y',.int .i64 0]) h'):my S I (Gw y) (.int .i64 t) h R:=by
 obtain ⟨us,h1,h2,h3⟩ :=H.lo.lg
 obtain ⟨es,A1,A2,A3⟩ :=H.asn
 obtain ⟨ps,P1,P3,P2⟩ :=A3 t
 have hl:=(k.k none).lg
 have hle:=(k.k none).le
 have hl:l.lg.length=(n+7) / 8:=hl
 have h2:us.length=l.lg.length:=h2
 have e24:∀{h'':Hp},Gr h h''→MF (.int .i64) (.map none) false (.map y.a) (.int .i64 t) h''=some (.map ((gD es t).getD none)):=fun g=>WR (A1 _ (B.up b0 g)) t
 have fin0:∀(ls:SH) (a':Option Nat) (M:List bQ) (us':List (SH × Int)) (h':Hp),Cx (fun _=>False) h h' [aG M]→(On (B.and M) fun h=>Sl Lw h (aX ls) us')→(∀(j:Nat) (u:SH × Int),us[j]?=some u→us'[j]?=some (u.1,max u.2 ((gD ps j).getD u.2)))→us'.length=us.length→
   (On (B.and M) fun h=>(a'=none∧Bj es t=[])∨Mp .i64 mM h (.map a') (Bj es t))→R (.tuple #[Gw ⟨y.f,ls,a'⟩,.int .i64 0]) h':=fun ls a' M us' h' c q1 q2 q3 q4=>by
  refine hR ⟨y.f,ls,a'⟩ M h' c ⟨⟨H.lo.fst.le (Bs.aR _ _),⟨us',q1,?_,fun j u g hu hg=>?_⟩,rfl⟩,Bj es t,q4,Kt A2,fun t'=>?_⟩
  ·show us'.length=(l.lg.mapIdx _).length
   rw [List.length_mapIdx,q3,h2]
  ·have hg:(l.lg.mapIdx (fun n g=>(g.1,max g.2 ((l.asn t n).getD g.2))))[j]?=some g:=hg
   rw [List.getElem?_mapIdx] at hg
   cases hg0:l.lg[j]? with
   | none=>rw [hg0] at hg; cases hg
   | some g0=>
    rw [hg0] at hg
    simp only [Option.map_some,Option.some.injEq] at hg
    have hj:=(List.getElem?_eq_some_iff.1 hg0).1
    have hu0:=List.getElem?_eq_getElem (l:=us) (i:=j) (by omega)
    generalize us[j]'(by omega)=u0 at hu0
    rw [q2 j u0 hu0] at hu
    injection hu with hu
    subst hu hg
    obtain ⟨r1,r2⟩ :=h3 j u0 g0 hu0 hg0
    refine ⟨?_,r2.le (Bs.aR _ _)⟩
    dsimp only
    rw [r1,←P2]
  ·rw [E0 A2]
   by_cases ct:t'=t
   ·subst ct
    rw [if_pos rfl]
    exact ⟨[],fun _ _=>.inl ⟨rfl,rfl⟩,List.nodup_nil,fun n'=>if_pos rfl⟩
   ·rw [if_neg ct]
    obtain ⟨qs,r1,r2,r3⟩ :=A3 t'
    exact ⟨qs,r1.le (Bs.aR _ _),r2,fun n'=>(if_neg ct).trans (r3 n')⟩
 obtain ⟨yf,yl,ya⟩ :=y
 dsimp only at h1 A1 A3 e24 fin0
 rcases A1 _ b0 with ⟨rfl,rfl⟩ | mo
 ·obtain rfl:ps=[]:=by
   rcases P1 _ b0 with ⟨_,e⟩ | m
   ·exact e
   ·exact absurd m (fun ⟨_,_,_,e,_⟩ =>by cases e)
  unfold my
  have c:=Cx.aA h
  refine c.v3 fun _ _ c=>?_
  refine c.v3 fun _ _ c=>?_
  refine cs.uJ ht fun _ g=>?_
  have c:=c.more g
  refine vx (v:=.bool false) (rfl)<|bD<|aD<|c.rc 0 ?_
  refine cs.ER (h1 _ (B.up b0 c.gr)) (by omega) fun l' _ d=>?_
  have c:=c.aE d
  replace c:=c.n3
  refine aD<|c.q3 0 fun _ c=>?_
  refine aD<|c.rc 0 ?_
  refine vx (e24 c.gr)<|En.eb (v:=cA _) (h':=_) (by exact rfl) ?_
  have c:=c.more (Ch.push _ (.mapIter none 0 #[] 0))
  replace c:=c.n3
  refine NB.by (fun (_:Unit) h'=>h'=_) (fun _=>0) () rfl ?_
  rintro _ h5 rfl again _
  refine ⟨_,rfl,.inl ⟨0,#[],0,by simp,?_⟩⟩
  refine vx (v:=.bool false) (rfl)<|bD<|aD<|c.rc 0 ?_
  refine cs.DH ?_
  refine aD<|c.q3 0 fun _ c=>?_
  refine aD<|c.rc 0 ?_
  refine En.eb (v:=.tuple #[]) (by exact rfl) ?_
  refine c.rl 0 ?_
  refine c.w3 1 fun _ c=>?_
  refine c.rl 1 ?_
  exact fin0 l' none _ us _ (Cx.pack (L:=[]) (M:=[_]) (c.pick [2])) (On.sl (i:=0) rfl) (fun j u e=>by rw [e]; simp [gD]) rfl fun _ _=>.inl ⟨rfl,rfl⟩
 ·generalize ho:(gD es t).getD none=o at P1 e24
  rcases P1 _ b0 with ⟨rfl,rfl⟩ | mi
  ·skip
   unfold my
   have c:=Cx.aA h
   refine c.v3 fun _ _ c=>?_
   refine c.v3 fun _ _ c=>?_
   refine cs.uJ ht fun _ g=>?_
   have c:=c.more g
   refine vx (v:=.bool false) (rfl)<|bD<|aD<|c.rc 0 ?_
   refine cs.ER (h1 _ (B.up b0 c.gr)) (by omega) fun l' _ d=>?_
   have c:=c.aE d
   replace c:=c.n3
   refine aD<|c.q3 0 fun _ c=>?_
   refine aD<|c.rc 0 ?_
   refine vx (e24 c.gr)<|En.eb (v:=cA _) (h':=_) (by exact rfl) ?_
   have c:=c.more (Ch.push _ (.mapIter none 0 #[] 0))
   replace c:=c.n3
   refine NB.by (fun (_:Unit) h'=>h'=_) (fun _=>0) () rfl ?_
   rintro _ h5 rfl again _
   refine ⟨_,rfl,.inl ⟨0,#[],0,by simp,?_⟩⟩
   refine vx (v:=.bool false) (rfl)<|bD<|aD<|c.rc 0 ?_
   refine cs.EN (mo.gr c.gr) fun k2 _ d=>?_
   have c:=c.aE d
   replace c:=c.n4
   refine aD<|c.q3 0 fun _ c=>?_
   refine aD<|c.rc 0 ?_
   refine c.OM 3 rfl t fun _ c=>?_
   replace c:=c.n4
   refine c.rl 0 ?_
   refine c.w3 1 fun _ c=>?_
   refine c.rl 1 ?_
   exact fin0 l' (some k2) _ us _ (Cx.pack (L:=[]) (M:=[_,_]) (c.pick [2,3])) (On.sl (i:=0) rfl) (fun j u e=>by rw [e]; simp [gD]) rfl fun h b=>.inr ((On.mp (B:=B) (i:=1) rfl) h b)
  ·skip
   unfold my
   have c:=Cx.aA h
   refine c.v3 fun l2_ _ c=>?_
   refine c.v3 fun v4_ _ c=>?_
   refine cs.uJ ht fun _ g=>?_
   have c:=c.more g
   refine vx (v:=.bool false) (rfl)<|bD<|aD<|c.rc 0 ?_
   refine cs.ER (h1 _ (B.up b0 c.gr)) (by omega) fun l' _ d=>?_
   have c:=c.aE d
   replace c:=c.n3
   refine aD<|c.vq 0 rfl (vs:=[_]) (ds:=[_,_,_]) (by exact rfl) (by exact rfl) (by exact rfl) (by exact rfl) (by exact rfl) fun h6' c=>?_
   replace c:=c.n3
   refine aD<|c.rc 0 ?_
   refine vx (e24 c.gr) ?_
   obtain ⟨mb,mes,clock,e,hh,he⟩ :=mi
   injection e with e
   subst e
   have hmb:∀{h5:Hp} {L:List bQ},Cx (fun _=>False) h h5 L→h5[mb]?=some (.map mes clock):=fun c=>by
    rw [c.gr.same mb (Array.getElem?_eq_some_iff.mp hh).1 fun e=>e]; exact hh
   refine En.eb (v:=cA _) (h':=_) (by simp only [TD,zg,hmb c]; rfl) ?_
   have hs4:=c.gr.size
   have c:=c.La (.mapIter (some mb) clock #[] clock)
   obtain ⟨itO,hO⟩:∃itO:List Nat→Obj,itO=fun D=>.mapIter (some mb) clock (D.map fun i=>((mes.toList[i]?).map (·.born)).getD 0).toArray clock:=⟨_,rfl⟩
   rw [show Obj.mapIter (some mb) clock #[] clock=itO [] from by rw [hO]; rfl] at c⊢
   replace c:=c.n4
   obtain ⟨r,hr,hne⟩:∃r,r=Array.size h6'∧r≠mb:=⟨_,rfl,fun e=>by
    have h9:=(Array.getElem?_eq_some_iff.mp hh).1
    omega⟩
   rw [←hr] at c⊢
   refine NB.by (fun (z:List Nat × List (SH × Int)) h'=>Cx (fun _=>False) h h' [rV l2_ [aX yf,aX l',.map ya],rV v4_ [.slice none 0 0,.slice none 0 0,.map none],dA Lw (aX l') z.2,I5 r (itO z.1)]∧z.1.Nodup∧(∀i∈z.1,i<ps.length)∧z.2.length=us.length∧∀(j:Nat) (u:SH × Int),us[j]?=some u→∃q,z.2[j]?=some (u.1,q)∧((∃i∈z.1,∃p,ps[i]?=some p∧p.1=j)→q=max u.2 ((gD ps j).getD u.2))∧((∀i∈z.1,∀p,ps[i]?=some p→p.1≠j)→q=u.2)) (fun z=>ps.length - z.1.length) ([],us) ⟨c,List.nodup_nil,(fun i hi=>by cases hi),rfl,fun j u e=>⟨u.2,e,(fun ⟨i,hi,_⟩ =>by cases hi),fun _=>rfl⟩⟩ ?_
   clear c hr
   rintro ⟨D,zs⟩ h6 ⟨c,hnd,hlt,hzl,hzq⟩ again hagain
   dsimp only at *
   have hobj:=c.obj (i:=3) rfl
   rw [hO] at hobj
   have it:It .i64 mI h6 r mb ps D:=⟨⟨mes,clock,hmb c,he,hobj⟩,hnd,hlt,hne⟩
   refine it.next (fun hall=>?_) fun j p h7 hpj hjD it2 ch hent=>?_
   ·have hfin:∀(j:Nat) (u:SH × Int),us[j]?=some u→zs[j]?=some (u.1,max u.2 ((gD ps j).getD u.2)):=fun j u hu=>by
     obtain ⟨q,q1,q2,q3⟩ :=hzq j u hu
     rw [q1]
     cases hlk:gD ps j with
     | none=>
      rw [q3 fun i hi p hp e=>by
       have:(p.1,p.2)∈ps:=List.mem_of_getElem? hp
       rw [Cs P3,e,hlk] at this
       cases this]
      simp
     | some x=>
      have:=(Cs P3).2 hlk
      obtain ⟨i,hi,e⟩ :=List.getElem_of_mem this
      rw [q2 ⟨i,hall i hi,_,List.getElem?_eq_getElem hi,by rw [e]⟩,hlk]
    refine vx rfl<|bD<|aD<|c.rc 0 ?_
    refine cs.EN (mo.gr c.gr) fun k2 _ d=>?_
    have c:=c.aE d
    replace c:=c.n5
    refine aD<|c.q3 0 fun _ c=>?_
    refine aD<|c.rc 0 ?_
    refine c.OM 4 rfl t fun _ c=>?_
    replace c:=c.n5
    refine c.rl 0 ?_
    refine c.w3 1 fun _ c=>?_
    refine c.rl 1 ?_
    exact fin0 l' (some k2) _ zs _ (Cx.pack (L:=[]) (M:=[_,_]) (c.pick [2,4])) (On.sl (i:=0) rfl) hfin hzl fun h b=>.inr ((On.mp (B:=B) (i:=1) rfl) h b)
   ·obtain ⟨es2,clock2,e1,e2,e3⟩ :=it2.ex
    have c:Cx (fun _=>False) h h7 [rV l2_ [aX yf,aX l',.map ya],rV v4_ [.slice none 0 0,.slice none 0 0,.map none],dA Lw (aX l') zs,I5 r (itO (D++[j]))]:=by
     obtain ⟨F,⟨o,hf⟩,up⟩ :=c.Nz (i:=3) rfl
     have hm7:h7[mb]?=some (.map mes clock):=by
      rw [ch.same mb (Array.getElem?_eq_some_iff.mp (hmb c)).1 fun e=>hne e.symm]; exact hmb c
     rw [e1] at hm7
     injection hm7 with hm7
     injection hm7 with q1 q2
     subst q1; subst q2
     exact up (B:=I5 r (itO (D++[j]))) (F':=F) ⟨by rw [hO]; exact e3,hf⟩ (sF (ch.mono fun q _ e=>(hf q).2 e))
    obtain ⟨pk,pv⟩ :=p
    have hlkp:gD ps pk=some pv:=(Cs P3).1 (List.mem_of_getElem? hpj)
    obtain ⟨hk1,hk2⟩ :=k.asn t pk pv (by rw [P2]; exact hlkp)
    obtain ⟨kn,rfl⟩:∃kn:Nat,pk=kn:=⟨pk.toNat,by omega⟩
    have hu:=List.getElem?_eq_getElem (l:=us) (i:=kn) (by omega)
    generalize us[kn]'(by omega)=u at hu
    obtain ⟨q,Wc,Xr,hz3⟩ :=hzq kn u hu
    have hq:q=u.2:=hz3 fun i hi p hp e=>hjD (by
     have h1:i<ps.length:=hlt i hi
     have hmm:(ps.map (·.1))[i]?=some (kn:Int):=by rw [List.getElem?_map,hp]; exact congrArg some e
     have hm2:(ps.map (·.1))[j]?=some (kn:Int):=by rw [List.getElem?_map,hpj]; rfl
     have:=(List.getElem?_inj (l:=ps.map (·.1)) (by rw [List.length_map]; exact h1) P3).1 (hmm.trans hm2.symm)
     rw [←this]; exact hi)
    refine vx rfl<|eR<|vx hent<|vx rfl<|vx rfl<|aD<|c.rc 0 ?_
    refine aD<|c.rc 0 ?_
    obtain ⟨r9,o9,e9,row9,_⟩ :=(c.sl (i:=2) rfl).sl.ix Wc (n:=2) rfl (k:=.i64) (z:=(kn:Int)) rfl
    refine vx e9<|vx (oZ _ _ _)<|vx (row9.dU (j:=1) rfl)<|En.vb (v:=.int .i64 (max q pv)) (by
     show some (Value.int .i64 (if pv > q then pv else q))=_
     rw [show (if pv > q then pv else q)=max q pv from by split <;> omega]) ?_
    refine c.II 2 rfl Wc (u.1,max q pv) rfl rfl rfl (by decide) rfl fun _ c=>?_
    replace c:=c.n4
    have hDl:(D++[j]).length≤ps.length:=it2.len
    refine hagain (D++[j],zs.set kn (u.1,max q pv)) _ ⟨c,it2.nodup,it2.lt,by rw [List.length_set]; exact hzl,fun j' u' hu'=>?_⟩ (by dsimp only; rw [List.length_append,List.length_singleton] at *; omega)
    dsimp only
    rw [List.getElem?_set]
    by_cases ej:kn=j'
    ·subst ej
     rw [if_pos rfl,if_pos (by omega)]
     rw [hu] at hu'
     injection hu' with hu'
     subst hu'
     exact ⟨_,rfl,(fun _=>by rw [hlkp,hq]; rfl),fun hno=>absurd rfl (hno j (by simp) _ hpj)⟩
    ·rw [if_neg ej]
     obtain ⟨q',a1,a2,a3⟩ :=hzq j' u' hu'
     refine ⟨q',a1,fun ⟨i,hi,p,hp,e⟩ =>?_,fun hno=>a3 fun i hi p hp=>hno i (List.mem_append_left _ hi) p hp⟩
     rcases List.mem_append.1 hi with hi | hi
     ·exact a2 ⟨i,hi,p,hp,e⟩
     ·rw [List.mem_singleton] at hi
      subst hi
      rw [hpj] at hp
      injection hp with hp
      subst hp
      exact absurd (Int.ofNat_inj.1 e) ej
end
end Go.En
namespace Go.En
variable {S:Sys} {I:aZ} {h h0 h':Hp} {F F0:Fp} {R:Value→Hp→Prop} {L:List bQ} {B B':Bs}
structure Mj where
 me:Me
 li:Lj
structure B8 (B:Bs) (T:Nat) (v:MV) (m:Mj):Prop where
 me:MO B v.x m.me
 li:Nq B v.y m.li
 st:∃ss:List Int,(On B fun h=>Sl yh h (aX v.s) ss)∧ss.length=T
theorem B8.le {T:Nat} {v:MV} {m:Mj} (H:B8 B T v m) (l:B.le B'):B8 B' T v m:=let ⟨a,b,ss,c,d⟩ :=H; ⟨a.le l,b.le l,ss,c.le l,d⟩
structure Ek (T n b:Nat) (m:Mj):Prop where
 me:Mk T n b m.me
 li:Hx n b m.li
def B8.mc {T:Nat} {v:MV} {m:Mj} (_:B8 B T v m):Mc:=⟨m.me,⟨m.li.fst,m.li.lg,v.y.a⟩⟩
theorem B8.ko {T:Nat} {v:MV} {m:Mj} (H:B8 B T v m):KO B T v H.mc:=⟨H.me,H.li.lo,H.st⟩
theorem Ek.kk {T n b:Nat} {v:MV} {m:Mj} (k:Ek T n b m) (H:B8 B T v m):Kk T n b H.mc:=⟨k.me,k.li.k _⟩
inductive Nl (m:Mj) (t:Nat):Ac→Mj→iM→Prop where
 | look (i:Nat) (o n:W3):i<m.me.hs.length→Nl m t ⟨5,i,o,n⟩ {m with me:=m.me.xB t i ((m.me.at i).length - 1) (m.me.top i) true} ⟨(m.me.top i).w,true⟩
 | load (i q:Nat) (x:AM) (o n:W3):i<m.me.hs.length→(m.me.at i)[q]?=some x→m.me.view t i≤q→Nl m t ⟨1,i,o,n⟩ {m with me:=m.me.xB t i q x false} ⟨x.w,true⟩
 | put (i:Nat) (o w:W3) (wl:Bool):i<m.me.hs.length→Nl m t ⟨if wl then 4 else 3,i,o,w⟩ ⟨m.me.add t i w wl,m.li.aQ i w⟩ ⟨W0,true⟩
 | swap (i:Nat) (old new:W3):i<m.me.hs.length→Nl m t ⟨6,i,old,new⟩ ⟨m.me.Qd t i old new,if (m.me.top i).w=old then m.li.aQ i new else m.li⟩ ⟨(m.me.top i).w,decide ((m.me.top i).w=old)⟩
 | flush (i:Nat) (o n:W3):i<m.me.hs.length→Nl m t ⟨7,i,o,n⟩ {m with li:=m.li.Hz t i} ⟨W0,true⟩
 | sync (p:Int) (o n:W3):Nl m t ⟨8,p,o,n⟩ {m with li:=m.li.Hy t} ⟨W0,true⟩
structure Zr (S:Sys) (I:aZ):Prop extends YD S I where
 NN:∀{B:Bs} {T n b t:Nat} {v:MV} {m:Mc} {a:Ak} {ch:Value} {h R},B.p h→KO B T v m→Kk T n b m→b≤900000→(1≤t∧t≤T)→a.ok n→(∀v',Rt B h (fun B=>KO B T v' (m.act t a).1) fun h'=>R (.tuple #[xF v',k6 (m.act t a).2,.int .i64 0]) h')→S.C I.fB [xF v,.int .i64 t,nJ a.ac,ch] h R
 Xn:∀{B:Bs} {T n b t i:Nat} {x:SH × SH} {m:Me} {jn:Bool} {z:Int} {h R},B.p h→MO B x m→Mk T n b m→b≤1000000→(1≤t∧t≤T)→i<n→m.view t i≤((m.at i).length - 1:Nat)→
  (∀(q:Nat) (am:AM) x',(m.at i)[q]?=some am→m.view t i≤q→Rt B h (fun B=>MO B x' (m.xB t i q am jn)) fun h'=>R (.tuple #[s7 x',mW am.w,.int .i64 0]) h')→S.C I.mu [s7 x,.int .i64 t,.int .i64 i,.bool jn,.int .i64 z] h R
 Te:∀{B:Bs} {n b t i:Nat} {y:LV} {l:Lj} {h R},B.p h→Nq B y l→Hx n b l→(1≤t∧t≤8)→i<n→(∀y',Rt B h (fun B=>Nq B y' (l.Hz t i)) fun h'=>R (.tuple #[Gw y',.int .i64 0]) h')→S.C I.nA [Gw y,.int .i64 t,.int .i64 i] h R
 Sync:∀{B:Bs} {n b t:Nat} {y:LV} {l:Lj} {h R},B.p h→Nq B y l→Hx n b l→(1≤t∧t≤8)→(∀y',Rt B h (fun B=>Nq B y' (l.Hy t)) fun h'=>R (.tuple #[Gw y',.int .i64 0]) h')→S.C I.oC [Gw y,.int .i64 t] h R
section
variable {T n b t i:Nat} {v:MV} {m:Mj} {w:W3} {z:Int}
theorem B8.of {v':MV} {mc:Mc} (H:B8 B T v m) (H':KO B' T v' mc) (l:B.le B') (e:mc.li.asn=v.y.a):B8 B' T v' ⟨mc.me,⟨mc.li.fst,mc.li.lg,m.li.asn⟩⟩ :=by
 have e2:v'.y.a=v.y.a:=H'.li.asn.trans e
 refine ⟨H'.me,⟨?_,?_⟩,H'.st⟩
 ·have:=H'.li
  rw [e2]
  rw [show (⟨mc.li.fst,mc.li.lg,v.y.a⟩:Li)=mc.li from by rw [←e]]
  exact this
 ·rw [e2]; exact H.li.asn.le l
theorem RQ (cs:Zr S I) (b0:B.p h) (H:B8 B T v m) (k:Ek T n b m) (hb:b≤1000000) (ht:1≤t∧t≤T) (hi:i<n) (hv:m.me.view t i≤((m.me.at i).length - 1:Nat)) {o1 o2:W3}
  (hR:∀(q:Nat) (am:AM) v',(m.me.at i)[q]?=some am→m.me.view t i≤q→Rt B h (fun B=>B8 B T v' {m with me:=m.me.xB t i q am false}) fun h'=>R (.tuple #[xF v',k6 ⟨am.w,true⟩]) h'):fM S I (xF v) (.int .i64 t) (nJ ⟨1,i,o1,o2⟩) (.int .i64 z) h R:=by
 unfold fM
 have c:=Cx.aA h
 refine c.v7 fun _ _ c=>?_
 refine c.v8 fun _ _ c=>?_
 refine c.v7 fun _ _ c=>?_
 refine c.v4 fun _ _ c=>?_
 refine c.v3 fun _ _ c=>?_
 refine .here<|aD<|c.rc 1 ?_
 refine vx (v:=.bool false) rfl<|bD<|aD<|vx (c.vp (i:=0) (ds:=[_,_]) rfl rfl rfl)<|aD<|c.rc 1 ?_
 refine aD<|c.rc 1 ?_
 refine vx (v:=.bool false) rfl<|cs.Xn (x:=v.x) (jn:=false) (B.up b0 c.gr) H.me k.me hb ht hi hv fun q am x' e1 e2 M _ d ok=>?_
 have c:=c.aE d
 replace c:=c.n6
 refine vx rfl<|vx rfl<|vx rfl<|aD<|c.vq 0 rfl (vs:=[_,_]) (ds:=[_,_,_,_,_,_,_]) (by exact rfl) (by exact rfl) (by exact rfl) (by exact rfl) (by exact rfl) fun _ c=>?_
 replace c:=c.n6
 refine c.w3 4 fun _ c=>?_
 refine c.rl 0 ?_
 refine c.rl 4 ?_
 refine vx (aL (ds:=[_,_,_,_]) rfl)<|c.w7 2 fun _ c=>?_
 refine c.al 4 ?_
 refine c.w4 3 fun _ c=>?_
 refine c.rl 2 ?_
 refine c.rl 3 ?_
 exact hR q am {v with x:=x'} e1 e2 M _ (c.pick [5]) (let H':=H.le (Bs.aR B M); ⟨ok,H'.li,H'.st⟩)
end
structure X4 (S:Sys) (I:aZ):Prop extends Zr S I where
 S7:∀{x y z w:Value} {h R},fM S I x y z w h R→S.C I.iI [x,y,z,w] h R
section
variable {T n b t i:Nat} {v:MV} {m:Mj} {w:W3} {z:Int}
theorem VD (cs:X4 S I) (b0:B.p h) (H:B8 B T v m) (k:Ek T n b m) (hb:b≤1000000) (ht:1≤t∧t≤T) (hi:i<n) (hv:m.me.view t i≤((m.me.at i).length - 1:Nat)) {o1 o2:W3}
  (hR:∀(q:Nat) (am:AM) v',(m.me.at i)[q]?=some am→m.me.view t i≤q→Rt B h (fun B=>B8 B T v' {m with me:=m.me.xB t i q am false}) fun h'=>R (.tuple #[xF v',k6 ⟨am.w,true⟩,.int .i64 0]) h'):bP S I (xF v) (.int .i64 t) (nJ ⟨1,i,o1,o2⟩) (.int .i64 z) h R:=by
 have hle:=k.me.le
 have et:((t:Nat):Int) - 1=((t - 1:Nat):Int):=by omega
 unfold bP
 have c:=Cx.aA h
 refine c.v7 fun _ _ c=>?_
 refine c.v8 fun _ _ c=>?_
 refine c.v7 fun _ _ c=>?_
 refine c.v4 fun _ _ c=>?_
 refine c.rl 0 ?_
 refine c.rl 1 ?_
 refine cs.yw (v:=v) (a:=⟨1,i,o1,o2⟩) (B.up b0 c.gr) H.ko (k.kk H) ht ⟨by dsimp only; decide,by dsimp only; decide⟩ (fun _ _=>⟨Int.natCast_nonneg i,Int.ofNat_lt.2 hi⟩) fun _ g=>?_
 have c:=c.more g
 refine vx (v:=.bool false) rfl<|bD<|vx (aL (ds:=[_,_,_,_]) rfl)<|c.v4 fun _ _ c=>?_
 refine c.w4 4 fun _ c=>?_
 refine .here<|c.rl 1 ?_
 refine cs.I3 (a:=⟨1,i,o1,o2⟩) (r:=false) rfl fun _ g=>?_
 have c:=c.more g
 refine bD<|aD<|c.rc 1 ?_
 refine vx (v:=.bool false) rfl<|bD<|aD<|c.rc 1 ?_
 refine vx (v:=.bool false) rfl<|bD<|aD<|c.rc 1 ?_
 refine vx (v:=.bool true) rfl<|eR<|c.rl 0 ?_
 refine c.rl 1 ?_
 refine cs.S7 (RQ cs.toZr (v:=v) (B.up b0 c.gr) H k hb ht hi hv fun q am v' e1 e2 M _ d ok=>?_)
 have c:=c.aE d
 obtain ⟨ss,hs,hl⟩ :=ok.st
 have hx:=List.getElem?_eq_getElem (l:=ss) (i:=t - 1) (by omega)
 generalize ss[t - 1]'(by omega)=y at hx
 replace c:=c.n6
 refine vx rfl<|vx rfl<|c.w7 0 fun _ c=>?_
 refine c.w4 4 fun _ c=>?_
 refine aD<|c.rc 0 ?_
 refine cs.yi (hs _ ⟨B.up b0 c.gr,c.get (i:=5) rfl⟩) (by omega) fun s' _ d=>?_
 have c:=c.aE d
 replace c:=c.n7
 refine aD<|c.q7 0 fun _ c=>?_
 refine aD<|c.rc 0 ?_
 refine vx (nj ⟨by omega,by omega⟩) ?_
 rw [et]
 obtain ⟨r,o,cap,el,ei,row⟩ :=(c.sl (i:=6) rfl).ix hx (n:=1) rfl (k:=.i64) (z:=((t - 1:Nat):Int)) rfl
 refine vx ei<|vx (row.Co rfl)<|vx (qo _ _)<|c.D7 6 rfl (j:=t - 1) (by omega) (BA (y+1)) rfl rfl rfl fun _ c=>?_
 replace c:=c.n7
 refine c.rl 0 ?_
 refine c.rl 4 ?_
 refine c.w7 2 fun _ c=>?_
 refine c.al 4 ?_
 refine c.w4 3 fun _ c=>?_
 refine c.rl 2 ?_
 refine c.rl 3 ?_
 exact hR q am {v' with s:=s'} e1 e2 [aG M,dA yh (aX s') (ss.set (t - 1) (BA (y+1)))] _ (Cx.pack (L:=[]) (c.pick [5,6])) (let H':=ok.le (B':=B.and [aG M,dA yh (aX s') (ss.set (t - 1) (BA (y+1)))]) fun h b=>⟨b.1,Bs.star b (i:=0) rfl⟩; ⟨H'.me,H'.li,_,On.sl (i:=1) rfl,by rw [List.length_set]; exact hl⟩)
theorem UF (cs:X4 S I) (b0:B.p h) (H:B8 B T v m) (k:Ek T n b m) (ht:1≤t∧t≤T) (hi:i<n) {o1 o2:W3} {ch:Value}
  (hR:∀v',Rt B h (fun B=>B8 B T v' {m with li:=m.li.Hz t i}) fun h'=>R (.tuple #[xF v',k6 ⟨W0,true⟩,.int .i64 0]) h'):bP S I (xF v) (.int .i64 t) (nJ ⟨7,i,o1,o2⟩) ch h R:=by
 have hle:=k.me.le
 obtain ⟨ss,hs,hl⟩ :=H.st
 have hx:=List.getElem?_eq_getElem (l:=ss) (i:=t - 1) (by omega)
 generalize ss[t - 1]'(by omega)=y at hx
 have et:((t:Nat):Int) - 1=((t - 1:Nat):Int):=by omega
 unfold bP
 have c:=Cx.aA h
 refine c.v7 fun _ _ c=>?_
 refine c.v8 fun _ _ c=>?_
 refine c.v7 fun _ _ c=>?_
 refine c.v4 fun _ _ c=>?_
 refine c.rl 0 ?_
 refine c.rl 1 ?_
 refine cs.yw (v:=v) (a:=⟨7,i,o1,o2⟩) (B.up b0 c.gr) H.ko (k.kk H) ht ⟨by dsimp only; decide,by dsimp only; decide⟩ (fun _ _=>⟨Int.natCast_nonneg i,Int.ofNat_lt.2 hi⟩) fun _ g=>?_
 have c:=c.more g
 refine vx (v:=.bool false) rfl<|bD<|vx (aL (ds:=[_,_,_,_]) rfl)<|c.v4 fun _ _ c=>?_
 refine c.w4 4 fun _ c=>?_
 refine .here<|c.rl 1 ?_
 refine cs.I3 (a:=⟨7,i,o1,o2⟩) (r:=false) rfl fun _ g=>?_
 have c:=c.more g
 refine bD<|aD<|c.rc 1 ?_
 refine vx (v:=.bool true) rfl<|eR<|aD<|vx (c.vp (i:=0) (ds:=[_,_,_]) rfl rfl rfl)<|aD<|c.rc 1 ?_
 refine cs.Te (y:=v.y) (B.up b0 c.gr) H.li k.li ⟨ht.1,by omega⟩ hi fun y' M _ d ok=>?_
 have c:=c.aE d
 replace c:=c.n6
 refine vx rfl<|vx rfl<|aD<|c.vq 0 rfl (vs:=[_,_,_]) (ds:=[_,_,_,_,_,_,_]) (by exact rfl) (by exact rfl) (by exact rfl) (by exact rfl) (by exact rfl) fun _ c=>?_
 replace c:=c.n6
 refine aD<|c.rc 0 ?_
 refine cs.yi (hs _ (B.up b0 c.gr)) (by omega) fun s' _ d=>?_
 have c:=c.aE d
 replace c:=c.n7
 refine aD<|c.q7 0 fun _ c=>?_
 refine aD<|c.rc 0 ?_
 refine vx (nj ⟨by omega,by omega⟩) ?_
 rw [et]
 obtain ⟨r,o,cap,el,ei,row⟩ :=(c.sl (i:=6) rfl).ix hx (n:=1) rfl (k:=.i64) (z:=((t - 1:Nat):Int)) rfl
 refine vx ei<|vx (row.Co rfl)<|vx (qo _ _)<|c.D7 6 rfl (j:=t - 1) (by omega) (BA (y+1)) rfl rfl rfl fun _ c=>?_
 replace c:=c.n7
 refine c.rl 0 ?_
 refine c.rl 4 ?_
 refine c.w7 2 fun _ c=>?_
 refine c.al 4 ?_
 refine c.w4 3 fun _ c=>?_
 refine c.rl 2 ?_
 refine c.rl 3 ?_
 exact hR {v with y:=y',s:=s'} [aG M,dA yh (aX s') (ss.set (t - 1) (BA (y+1)))] _ (Cx.pack (L:=[]) (c.pick [5,6])) ⟨H.me.le (Bs.aR _ _),ok.le (fun h b=>⟨b.1,Bs.star b (i:=0) rfl⟩),_,On.sl (i:=1) rfl,by rw [List.length_set]; exact hl⟩
theorem Um (cs:X4 S I) (b0:B.p h) (H:B8 B T v m) (k:Ek T n b m) (ht:1≤t∧t≤T) {o1 o2:W3} {ch:Value} {p:Int}
  (hR:∀v',Rt B h (fun B=>B8 B T v' {m with li:=m.li.Hy t}) fun h'=>R (.tuple #[xF v',k6 ⟨W0,true⟩,.int .i64 0]) h'):bP S I (xF v) (.int .i64 t) (nJ ⟨8,p,o1,o2⟩) ch h R:=by
 have hle:=k.me.le
 obtain ⟨ss,hs,hl⟩ :=H.st
 have hx:=List.getElem?_eq_getElem (l:=ss) (i:=t - 1) (by omega)
 generalize ss[t - 1]'(by omega)=y at hx
 have et:((t:Nat):Int) - 1=((t - 1:Nat):Int):=by omega
 unfold bP
 have c:=Cx.aA h
 refine c.v7 fun _ _ c=>?_
 refine c.v8 fun _ _ c=>?_
 refine c.v7 fun _ _ c=>?_
 refine c.v4 fun _ _ c=>?_
 refine c.rl 0 ?_
 refine c.rl 1 ?_
 refine cs.yw (v:=v) (a:=⟨8,p,o1,o2⟩) (B.up b0 c.gr) H.ko (k.kk H) ht ⟨by dsimp only; decide,by dsimp only; decide⟩ (fun _ e=>absurd rfl e) fun _ g=>?_
 have c:=c.more g
 refine vx (v:=.bool false) rfl<|bD<|vx (aL (ds:=[_,_,_,_]) rfl)<|c.v4 fun _ _ c=>?_
 refine c.w4 4 fun _ c=>?_
 refine .here<|c.rl 1 ?_
 refine cs.I3 (a:=⟨8,p,o1,o2⟩) (r:=false) rfl fun _ g=>?_
 have c:=c.more g
 refine bD<|aD<|c.rc 1 ?_
 refine vx (v:=.bool false) rfl<|bD<|aD<|c.rc 1 ?_
 refine vx (v:=.bool true) rfl<|eR<|aD<|vx (c.vp (i:=0) (ds:=[_,_,_]) rfl rfl rfl)<|cs.Sync (y:=v.y) (B.up b0 c.gr) H.li k.li ⟨ht.1,by omega⟩ fun y' M _ d ok=>?_
 have c:=c.aE d
 replace c:=c.n6
 refine vx rfl<|vx rfl<|aD<|c.vq 0 rfl (vs:=[_,_,_]) (ds:=[_,_,_,_,_,_,_]) (by exact rfl) (by exact rfl) (by exact rfl) (by exact rfl) (by exact rfl) fun _ c=>?_
 replace c:=c.n6
 refine aD<|c.rc 0 ?_
 refine cs.yi (hs _ (B.up b0 c.gr)) (by omega) fun s' _ d=>?_
 have c:=c.aE d
 replace c:=c.n7
 refine aD<|c.q7 0 fun _ c=>?_
 refine aD<|c.rc 0 ?_
 refine vx (nj ⟨by omega,by omega⟩) ?_
 rw [et]
 obtain ⟨r,o,cap,el,ei,row⟩ :=(c.sl (i:=6) rfl).ix hx (n:=1) rfl (k:=.i64) (z:=((t - 1:Nat):Int)) rfl
 refine vx ei<|vx (row.Co rfl)<|vx (qo _ _)<|c.D7 6 rfl (j:=t - 1) (by omega) (BA (y+1)) rfl rfl rfl fun _ c=>?_
 replace c:=c.n7
 refine c.rl 0 ?_
 refine c.rl 4 ?_
 refine c.w7 2 fun _ c=>?_
 refine c.al 4 ?_
 refine c.w4 3 fun _ c=>?_
 refine c.rl 2 ?_
 refine c.rl 3 ?_
 exact hR {v with y:=y',s:=s'} [aG M,dA yh (aX s') (ss.set (t - 1) (BA (y+1)))] _ (Cx.pack (L:=[]) (c.pick [5,6])) ⟨H.me.le (Bs.aR _ _),ok.le (fun h b=>⟨b.1,Bs.star b (i:=0) rfl⟩),_,On.sl (i:=1) rfl,by rw [List.length_set]; exact hl⟩
structure Y7 (S:Sys) (I:aZ):Prop extends X4 S I where
 Yt:∀{x y z w:Value} {h R},bP S I x y z w h R→S.C I.fB [x,y,z,w] h R
def I2 (n:Nat) (a:Ac):Prop:=a.op=8∨((a.op=1∨a.op=3∨a.op=4∨a.op=5∨a.op=6∨a.op=7)∧0≤a.at'∧a.at'<n)
theorem VB (cs:Y7 S I) (b0:B.p h) (H:B8 B T v m) (k:Ek T n b m) (hb:b≤900000) (ht:1≤t∧t≤T) {a:Ac} (ha:I2 n a) (ha0:a.op=5∨a.op=3∨a.op=4→a.old=W0) (ha1:a.op=5→a.new=W0) (hv:a.op=1→∀i:Nat,a.at'=i→m.me.view t i≤((m.me.at i).length - 1:Nat))
  (hR:∀m' g v',Nl m t a m' g→Rt B h (fun B=>B8 B T v' m') fun h'=>R (.tuple #[xF v',k6 g,.int .i64 0]) h'):S.C I.fB [xF v,.int .i64 t,nJ a,.int .i64 z] h R:=by
 obtain ⟨op,at',old,new⟩ :=a
 dsimp only [I2] at ha
 dsimp only at ha0 ha1 hv
 have hn:=k.me.hs
 rcases ha with rfl | ⟨ha,hp1,hp2⟩
 ·exact cs.Yt (Um cs.toX4 b0 H k ht fun v'=>hR _ _ v' (.sync at' old new))
 ·obtain ⟨i,rfl⟩:∃i:Nat,at'=i:=⟨at'.toNat,by omega⟩
  have hi:i<n:=by omega
  have hi2:i<m.me.hs.length:=by omega
  rcases ha with rfl | rfl | rfl | rfl | rfl | rfl
  ·exact cs.Yt (VD cs.toX4 b0 H k (by omega) ht hi (hv rfl i rfl) fun q am v' e1 e2=>hR _ _ v' (.load i q am old new hi2 e1 e2))
  ·obtain rfl:=ha0 (.inr (.inl rfl))
   exact cs.NN (a:=.put i new false) b0 H.ko (k.kk H) hb ht hi fun v' M h' c ok=>hR _ _ v' (.put i W0 new false hi2) M h' c (H.of ok (Bs.aR _ _) rfl)
  ·obtain rfl:=ha0 (.inr (.inr rfl))
   exact cs.NN (a:=.put i new true) b0 H.ko (k.kk H) hb ht hi fun v' M h' c ok=>hR _ _ v' (.put i W0 new true hi2) M h' c (H.of ok (Bs.aR _ _) rfl)
  ·obtain rfl:=ha0 (.inl rfl)
   obtain rfl:=ha1 rfl
   exact cs.NN (a:=.look i) b0 H.ko (k.kk H) hb ht hi fun v' M h' c ok=>hR _ _ v' (.look i W0 W0 hi2) M h' c (H.of ok (Bs.aR _ _) rfl)
  ·refine cs.NN (a:=.swap i old new) b0 H.ko (k.kk H) hb ht hi fun v' M h' c ok=>hR _ _ v' (.swap i old new hi2) M h' c ?_
   have:=H.of ok (Bs.aR _ _) (by unfold Mc.act Mc.swap; dsimp only; split <;> rfl)
   unfold Mc.act Mc.swap at this
   dsimp only at this
   by_cases e:(m.me.top i).w=old
   ·rw [if_pos e]
    rw [if_pos (show (H.mc.me.top i).w=old from e)] at this
    exact this
   ·rw [if_neg e]
    rw [if_neg (show ¬(H.mc.me.top i).w=old from e)] at this
    exact this
  ·exact cs.Yt (UF cs.toX4 b0 H k ht hi fun v'=>hR _ _ v' (.flush i old new hi2))
end
end Go.En
namespace Go.En
variable {S:Sys} {I:aZ} {h h0 h':Hp} {F F0:Fp} {R:Value→Hp→Prop} {L:List bQ} {B B':Bs}
def L5 (S:Sys) (B:Bs) (W:bQ) (f:Nat) (t:TypeId) (v:Value) (g:iM) (Q:Bs→bQ→Value→Ac→Bool→Prop):Prop:=
 ∀h F (R:Value→Hp→Prop),Cx F h h [W]→(∀h',Ch F h h'→B.p h')→(∀v' a' d W' M h',Cx F h h' [W',aG M]→Q (B.and M) W' v' a' d→R (.tuple #[.iface t v',nJ a',.bool d]) h')→S.C f [v,k6 g] h R
theorem Cx.Iv (c:Cx F h0 h L) (hB:∀h',Ch F h0 h'→B.p h') {i j:Nat} {A:bQ} {M:List bQ} (hi:L[i]?=some A) (hj:L[j]?=some (aG M)) (hij:i≠j) :
  ∃F',Cx F' h h [A]∧(∀h'',Ch F' h h''→(B.and M).p h'')∧∀{h':Hp} {A':bQ} {M':List bQ},Cx F' h h' (A'::M')→Cx F h0 h' (L.set i A'++M'):=by
 obtain ⟨F',d',hF,up⟩ :=c.vA hi
 refine ⟨F',d',fun h'' ch=>?_,up⟩
 have cc:=up (A':=aG []) (M:=[]) (h':=h'') (Cx.UR ch)
 refine ⟨hB _ (hF _ ch),cc.get (i:=j) ?_⟩
 rw [List.append_nil,List.getElem?_set,if_neg hij]
 exact hj
structure Pp (S:Sys) (I:aZ):Prop extends Y7 S I where
 WJ:∀{x y z w:Value} {h R},gR S I x y z w h R→S.C I.jJ [x,y,z,w] h R
 S4:∀{x y:Value} {h R},k8 S I x y h R→S.C I.m7 [x,y] h R
 NS:∀{x:Value} {h R},pN S I x h R→S.C I.r7 [x] h R
 Kc:∀{x:Value} {h R},oK S I x h R→S.C I.oL [x] h R
 zB:∀{x y:Value} {h R},mA S I x y h R→S.C I.jY [x,y] h R
 DI:∀{x y:Value} {h R},fA S I x y h R→S.C I.lj [x,y] h R
 Ol:∀{x y z:Value} {h R},oB S I x y z h R→S.C I.oH [x,y,z] h R
 JS:∀{x y:Value} {h R},kr S I x y h R→S.C I.kE [x,y] h R
section
variable {W:bQ} {t:TypeId} {v:Value} {d:Bool} {a:Ac} {s:SH} {x:Tk} {gs:List iM} {g:iM} {f:Nat} {Q:Bs→bQ→Value→Ac→Bool→Prop}
theorem Ng (cs:Pp S I) (c:Cx F h h [W]) (hB:∀h',Ch F h h'→B.p h') (hf:I.mt t "Next"=some f) (hN:L5 S B W f t v qY Q)
  (hR:∀v' a' d W' M h',Cx F h h' [W',aG M]→Q (B.and M) W' v' a' d→R (Aq ⟨t,v',d,if d then mL else a',(none,0,0)⟩) h'):pN S I (.iface t v) h R:=by
 have fin:∀v' a' d W' M h',Cx F h h' [W',aG M]→Q (B.and M) W' v' a' d→R (Aq ⟨t,v',d,if d then mL else a',(none,0,0)⟩) h':=hR
 unfold pN
 replace c:Cx _ _ _ [_]:=c
 refine c.v11 fun _ _ c=>?_
 refine vx (v:=.bool false) (rfl)<|bD<|vx (aL (ds:=[_,_,_,_,_,_,_,_,_,_,_]) rfl)<|vx (aL (ds:=[_,_,_,_]) rfl) ?_
 obtain ⟨F',d',hF,up⟩ :=c.vA (i:=0) rfl
 refine ⟨_,_,_,rfl,hf,hN _ F' _ d' (fun h'' ch=>hB h'' (hF _ ch)) fun v' a' d W' M _ dd ok=>?_⟩
 have c:=up dd
 replace c:=c.n3
 refine vx rfl<|vx rfl<|vx rfl<|cs.NK fun _ g=>?_
 have c:=c.more g
 have hcs:(Aq ⟨t,v',d,if d then mL else a',(none,0,0)⟩).cells.toList=Nt ⟨t,v',d,if d then mL else a',(none,0,0)⟩ :=rfl
 refine c.vw 1 rfl (vs:=Nt ⟨t,v',d,if d then mL else a',(none,0,0)⟩) hcs (List.all_eq_true.2 fun x hx=>FD.one ⟨t,v',d,if d then mL else a',(none,0,0)⟩ x hx) rfl rfl fun _ c=>?_
 replace c:=c.n3
 refine c.rl 1 ?_
 exact fin v' a' d W' M _ (c.pick [0,2]) ok
theorem NP (cs:Pp S I) (c:Cx F h h [W]) (hB:∀h',Ch F h h'→B.p h') (hf:I.mt t "Next"=some f) (hs:On B fun h=>Sl F6 h (aX s) gs) (hl:gs.length≤1000000) (hN:L5 S B W f t v g Q) (hQ:∀{B B':Bs},B.le B'→∀{W v a d},Q B W v a d→Q B' W v a d)
  (hR:∀v' a' d s' W' M h',Cx F h h' [W',aG M]→Q (B.and M) W' v' a' d→(On (B.and M) fun h=>Sl F6 h (aX s') (gs++[g]))→R (Aq ⟨t,v',d,if d then mL else a',s'⟩) h'):k8 S I (Aq ⟨t,v,false,a,s⟩) (k6 g) h R:=by
 obtain ⟨ac,ec,_⟩ :=(hs h (hB _ (.refl _ _))).Bz (n:=4) rfl
 have Hc:∀h',Ch F h h'→Sl F6 h' (.slice ac gs.length gs.length) gs:=fun h' ch=>by
  obtain ⟨ac',ec',Hc'⟩ :=(hs h' (hB _ ch)).Bz (n:=4) rfl
  rw [ec] at ec'
  injection ec' with ec'
  rw [ec']; exact Hc'
 have fin:∀v' a' d s' W' M h',Cx F h h' [W',aG M,dA F6 (aX s') (gs++[g])]→Q (B.and M) W' v' a' d→R (Aq ⟨t,v',d,if d then mL else a',s'⟩) h':=fun v' a' d s' W' M h' c q=>hR v' a' d s' W' [aG M,dA F6 (aX s') (gs++[g])] h' (Cx.pack (L:=[_]) c) (hQ (Bs.Eg (i:=0) rfl) q) (On.sl (i:=1) rfl)
 unfold k8
 replace c:Cx _ _ _ [_]:=c
 refine c.v11 fun _ _ c=>?_
 refine c.v4 fun _ _ c=>?_
 refine c.v11 fun _ _ c=>?_
 refine c.rl 1 ?_
 refine cs.DY fun _ gr=>?_
 have c:=c.more gr
 refine bD<|aD<|c.rc 1 ?_
 refine .here<|aD<|c.rc 1 ?_
 refine c.rl 2 ?_
 refine ⟨?_,?_⟩
 ·refine cs.HF (hs _ (hB _ c.gr)) ec ?_
  refine c.al 2 ?_
  refine c.jE F6 g rfl rfl fun qW _ c=>?_
  replace c:=c.n5
  refine c.Nu (Hc _ c.gr) (c.sl (i:=4) rfl).sl (by simp) rfl rfl (by rw [List.length_singleton]; omega) (by rw [List.length_singleton]; omega) fun TJ _ c=>?_
  obtain ⟨s',rfl⟩ :=(c.sl (i:=5) rfl).vO
  replace c:=c.n6
  refine aD<|c.Ly 1 fun _ c=>?_
  refine c.rl 1 ?_
  refine c.rl 2 ?_
  obtain ⟨F',d',hF,up⟩ :=c.vA (i:=0) rfl
  refine .inr ⟨_,_,rfl,_,_,_,rfl,hf,hN _ F' _ d' (fun h'' ch=>hB h'' (hF _ ch)) fun v' a' d W' M _ dd ok=>?_⟩
  have c:=up dd
  replace c:=c.n7
  refine c.al 1 ?_
  refine vx rfl<|vx rfl<|vx rfl<|cs.told (t:=t) (v:=v) (a:=a) (s:=s') fun _ gr=>?_
  have c:=c.more gr
  refine c.vw 3 rfl (vs:=Nt ⟨t,v',d,if d then mL else a',s'⟩) rfl (List.all_eq_true.2 fun x hx=>FD.one ⟨t,v',d,if d then mL else a',s'⟩ x hx) rfl rfl fun _ c=>?_
  replace c:=c.n7
  refine c.rl 3 ?_
  exact fin v' a' d s' W' M _ (c.pick [0,6,5]) ok
 ·refine c.jE F6 g rfl rfl fun qW _ c=>?_
  replace c:=c.n5
  refine c.ac 1 ?_
  refine cs.HF (hs _ (hB _ c.gr)) ec ?_
  refine c.Nu (Hc _ c.gr) (c.sl (i:=4) rfl).sl (by simp) rfl rfl (by rw [List.length_singleton]; omega) (by rw [List.length_singleton]; omega) fun TJ _ c=>?_
  obtain ⟨s',rfl⟩ :=(c.sl (i:=5) rfl).vO
  replace c:=c.n6
  refine aD<|c.Ly 1 fun _ c=>?_
  refine c.rl 1 ?_
  refine c.rl 2 ?_
  obtain ⟨F',d',hF,up⟩ :=c.vA (i:=0) rfl
  refine .inr ⟨_,_,rfl,_,_,_,rfl,hf,hN _ F' _ d' (fun h'' ch=>hB h'' (hF _ ch)) fun v' a' d W' M _ dd ok=>?_⟩
  have c:=up dd
  replace c:=c.n7
  refine c.al 1 ?_
  refine vx rfl<|vx rfl<|vx rfl<|cs.told (t:=t) (v:=v) (a:=a) (s:=s') fun _ gr=>?_
  have c:=c.more gr
  refine c.vw 3 rfl (vs:=Nt ⟨t,v',d,if d then mL else a',s'⟩) rfl (List.all_eq_true.2 fun x hx=>FD.one ⟨t,v',d,if d then mL else a',s'⟩ x hx) rfl rfl fun _ c=>?_
  replace c:=c.n7
  refine c.rl 3 ?_
  exact fin v' a' d s' W' M _ (c.pick [0,6,5]) ok
end
structure HC (B:Bs) (T:Nat) (w:WV) (m:Mj) (tks:List Tk) (gss:List (List iM)) (sts:List Bool):Prop where
 ko:B8 B T w.m m
 ts:On B fun h=>Sl FD h (aX w.ts) tks
 st:On B fun h=>Sl V6 h (aX w.st) sts
 sl:sts.length=tks.length
 gl:gss.length=tks.length
 gs:∀(i:Nat) (tk:Tk) (gs:List iM),tks[i]?=some tk→gss[i]?=some gs→On B fun h=>Sl F6 h (aX tk.s) gs
theorem HC.le {T:Nat} {w:WV} {m:Mj} {tks:List Tk} {gss:List (List iM)} {sts:List Bool} (H:HC B T w m tks gss sts) (l:B.le B'):HC B' T w m tks gss sts:=
 ⟨H.ko.le l,H.ts.le l,H.st.le l,H.sl,H.gl,fun i tk gs h1 h2=>(H.gs i tk gs h1 h2).le l⟩
section
variable {W:bQ} {T n b t:Nat} {w:WV} {m:Mj} {tks:List Tk} {gss:List (List iM)} {sts:List Bool} {tk:Tk} {gs:List iM} {z:Int}
theorem K4 (cs:Pp S I) (b0:B.p h) (H:HC B T w m tks gss sts) (k:Ek T n b m) (hT:1≤T) (hR:∀h',Gr h h'→R (.bool false) h'):oK S I (FA w) h R:=by
 unfold oK
 have c:=Cx.aA h
 refine c.v9 fun _ _ c=>?_
 refine aD<|vx (c.vp (i:=0) (ds:=[_,_,_,_,_,_,_]) rfl rfl rfl)<|cs.Jh (v:=w.m) (B.up b0 c.gr) H.ko.ko (k.kk H.ko) fun _ g=>?_
 have c:=c.more g
 exact vx rfl<|vx rfl<|vx (m6 (by omega))<|hR _ c.gr
theorem Ao (b0:B.p h) (H:HC B T w m tks gss sts) {i:Nat} {q:Bool} (hq:sts[i]?=some q) (hR:∀h',Gr h h'→R (.bool q) h'):mA S I (FA w) (.int .i64 i) h R:=by
 have hlt:=(List.getElem?_eq_some_iff.1 hq).1
 unfold mA
 have c:=Cx.aA h
 refine c.v9 fun _ _ c=>?_
 refine .here<|aD<|c.rc 0 ?_
 refine vx (H.st h b0).ln<|vx (yH (by omega))<|eR<|aD<|c.rc 0 ?_
 refine (H.st _ (B.up b0 c.gr)).one rfl hq rfl (u:=.bool q) rfl ?_
 exact hR _ c.gr
theorem IH (cs:Pp S I) (b0:B.p h) (H:HC B T w m tks gss sts) (hl:tks.length≤8) (ht:1≤t) (hx:tks[t - 1]?=some tk) {q:Bool} (hq:sts[t - 1]?=some q) (hR:∀h',Gr h h'→R (.bool (!q&&!tk.dn)) h'):fA S I (FA w) (.int .i64 t) h R:=by
 have hlt:=(List.getElem?_eq_some_iff.1 hx).1
 have et:((t:Nat):Int) - 1=((t - 1:Nat):Int):=by omega
 cases q with
 | true=>
  unfold fA
  have c:=Cx.aA h
  refine c.v9 fun _ _ c=>?_
  refine .here<|vx (uA (by omega))<|eR<|aD<|c.rc 0 ?_
  refine vx (H.ts h b0).ln<|vx (IU (by omega))<|eR<|c.rl 0 ?_
  refine vx (nj ⟨by omega,by omega⟩) ?_
  rw [et]
  refine cs.zB (Ao (w:=w) (B.up b0 c.gr) H hq fun _ g=>?_)
  have c:=c.more g
  exact vx (v:=.bool false) (rfl)<|bD<|hR _ c.gr
 | false=>
  unfold fA
  have c:=Cx.aA h
  refine c.v9 fun _ _ c=>?_
  refine .here<|vx (uA (by omega))<|eR<|aD<|c.rc 0 ?_
  refine vx (H.ts h b0).ln<|vx (IU (by omega))<|eR<|c.rl 0 ?_
  refine vx (nj ⟨by omega,by omega⟩) ?_
  rw [et]
  refine cs.zB (Ao (w:=w) (B.up b0 c.gr) H hq fun _ g=>?_)
  have c:=c.more g
  refine vx (v:=.bool true) (rfl)<|eR<|aD<|c.rc 0 ?_
  refine vx (nj ⟨by omega,by omega⟩) ?_
  rw [et]
  refine (H.ts _ (B.up b0 c.gr)).whole rfl hx rfl ?_
  refine cs.DY (x:=tk) fun _ g=>?_
  have c:=c.more g
  exact vx rfl<|hR _ c.gr
theorem Kr (b0:B.p h) (H:HC B T w m tks gss sts) (hz:¬(1≤z∧z≤tks.length)) (hR:∀h',Gr h h'→R (.bool false) h'):fA S I (FA w) (.int .i64 z) h R:=by
 by_cases h1:1≤z
 ·unfold fA
  have c:=Cx.aA h
  refine c.v9 fun _ _ c=>?_
  refine .here<|vx (uA h1)<|eR<|aD<|c.rc 0 ?_
  exact vx (H.ts h b0).ln<|vx (PS (by omega))<|bD<|hR _ c.gr
 ·unfold fA
  have c:=Cx.aA h
  refine c.v9 fun _ _ c=>?_
  exact .here<|vx (o8 h1)<|bD<|hR _ c.gr
theorem Ph (cs:Pp S I) (c:Cx F h h [W]) (hB:∀h',Ch F h h'→B.p h') (H:HC B T w m tks gss sts) (k:Ek T n b m) (hb:b≤900000) (hl:tks.length≤T) (ht:1≤t) (hx:tks[t - 1]?=some tk) (hg:gss[t - 1]?=some gs) (hgl:gs.length≤900000) (hd:tk.dn=false)
  (ha:I2 n tk.act) (ha0:tk.act.op=5∨tk.act.op=3∨tk.act.op=4→tk.act.old=W0) (ha1:tk.act.op=5→tk.act.new=W0) (hv:tk.act.op=1→∀i:Nat,tk.act.at'=i→m.me.view t i≤((m.me.at i).length - 1:Nat))
  {f:Nat} (hf:I.mt tk.t "Next"=some f) {Q:Mj→iM→Bs→bQ→Value→Ac→Bool→Prop} (hQ:∀{m' g} {B B':Bs},B.le B'→∀{W v a d},Q m' g B W v a d→Q m' g B' W v a d) (hN:∀m' g,Nl m t tk.act m' g→∀B',B.le B'→L5 S B' W f tk.t tk.v g (Q m' g)) {ch:Int}
  (hR:∀m' g w' v' a' d s' W' M h',Nl m t tk.act m' g→Cx F h h' [W',aG M]→Q m' g (B.and M) W' v' a' d→HC (B.and M) T w' m' (tks.set (t - 1) ⟨tk.t,v',d,if d then mL else a',s'⟩) (gss.set (t - 1) (gs++[g])) sts→R (FA w') h'):oB S I (FA w) (.int .i64 t) (.int .i64 ch) h R:=by
 have hlt:=(List.getElem?_eq_some_iff.1 hx).1
 have hT:=k.me.le.1
 have et:((t:Nat):Int) - 1=((t - 1:Nat):Int):=by omega
 obtain ⟨tt,tv,td,ta,ts⟩ :=tk
 dsimp only at hd ha ha0 ha1 hv hf hN hR
 subst hd
 unfold oB
 replace c:Cx _ _ _ [_]:=c
 refine c.v9 fun _ _ c=>?_
 refine c.v9 fun _ _ c=>?_
 refine aD<|c.rc 1 ?_
 refine vx (nj ⟨by omega,by omega⟩) ?_
 rw [et]
 refine (H.ts _ (hB _ c.gr)).whole rfl hx rfl ?_
 refine cs.W4 (x:=⟨tt,tv,false,ta,ts⟩) fun _ g=>?_
 have c:=c.more g
 refine vx rfl<|vx rfl<|c.v8 fun _ _ c=>?_
 refine c.w8 3 fun _ c=>?_
 refine aD<|vx (c.vp (i:=1) (ds:=[_,_,_,_,_,_,_]) rfl rfl rfl)<|c.rl 3 ?_
 refine VB cs.toY7 (v:=w.m) (hB _ c.gr) H.ko k hb ⟨ht,by omega⟩ ha ha0 ha1 hv fun m' g v1 hstp M _ d ok=>?_
 have c:=c.aE d
 replace c:=c.n5
 refine vx rfl<|vx rfl<|vx rfl<|c.v7 fun _ _ c=>?_
 refine c.v4 fun _ _ c=>?_
 refine c.w7 5 fun _ c=>?_
 refine c.w4 6 fun _ c=>?_
 refine .here<|vx (v:=.bool false) rfl<|bD<|c.rl 5 ?_
 refine aD<|c.vq 1 rfl (vs:=[_,_,_,_,_,_,_]) (ds:=[_,_,_,_,_,_,_,_,_]) (by exact rfl) (by exact rfl) (by exact rfl) (by exact rfl) (by exact rfl) fun _ c=>?_
 replace c:=c.n7
 refine aD<|c.rc 1 ?_
 refine cs.OC (H.ts _ (hB _ c.gr)) (by omega) fun s' _ d=>?_
 have c:=c.aE d
 replace c:=c.n8
 refine aD<|c.q9 1 fun _ c=>?_
 refine aD<|c.rc 1 ?_
 refine vx (nj ⟨by omega,by omega⟩) ?_
 rw [et]
 refine aD<|c.rc 1 ?_
 refine vx (nj ⟨by omega,by omega⟩) ?_
 rw [et]
 refine (c.sl (i:=7) rfl).sl.whole rfl hx rfl ?_
 refine c.rl 6 ?_
 obtain ⟨F',d',hM,up⟩ :=c.Iv hB (i:=0) (j:=4) rfl rfl (by decide)
 refine cs.S4 (NP (B:=B.and M) (t:=tt) (v:=tv) (a:=ta) (s:=ts) (g:=g) cs d' hM hf ((H.gs _ _ _ hx hg).le (Bs.aR _ _)) (by omega) (hN m' g hstp _ (Bs.aR _ _)) hQ fun v' a' d s2 W' N _ dd ok2 ok3=>?_)
 have c:=up dd
 replace c:=c.n9
 refine c.ac 1 ?_
 refine c.D7 7 rfl (j:=t - 1) hlt ⟨tt,v',d,if d then mL else a',s2⟩ rfl rfl rfl fun _ c=>?_
 replace c:=c.n9
 refine c.rl 1 ?_
 refine c.w9 2 fun _ c=>?_
 refine c.rl 2 ?_
 refine hR m' g ⟨v1,s',w.st⟩ v' a' d s2 W' [aG M,dA FD (aX s') (tks.set (t - 1) ⟨tt,v',d,if d then mL else a',s2⟩),aG N] _ hstp (Cx.pack (L:=[_]) (c.pick [0,4,7,8])) ?_ ?_
 ·exact hQ (B:=(B.and M).and N) (B':=B.and [aG M,dA FD (aX s') (tks.set (t - 1) ⟨tt,v',d,if d then mL else a',s2⟩),aG N]) (fun h b=>⟨⟨b.1,Bs.star b (i:=0) rfl⟩,Bs.star b (i:=2) rfl⟩) ok2
 have l1:(B.and M).le (B.and [aG M,dA FD (aX s') (tks.set (t - 1) ⟨tt,v',d,if d then mL else a',s2⟩),aG N]):=Bs.Eg (i:=0) rfl
 have l2:((B.and M).and N).le (B.and [aG M,dA FD (aX s') (tks.set (t - 1) ⟨tt,v',d,if d then mL else a',s2⟩),aG N]):=fun h b=>⟨⟨b.1,Bs.star b (i:=0) rfl⟩,Bs.star b (i:=2) rfl⟩
 have l0:=Bs.aR B [aG M,dA FD (aX s') (tks.set (t - 1) ⟨tt,v',d,if d then mL else a',s2⟩),aG N]
 have hgl2:=H.gl
 refine ⟨ok.le l1,On.sl (i:=1) rfl,H.st.le l0,by rw [List.length_set]; exact H.sl,by rw [List.length_set,List.length_set]; exact H.gl,fun j tk' gs' h1 h2=>?_⟩
 rw [List.getElem?_set] at h1 h2
 by_cases ej:t - 1=j
 ·rw [if_pos ej,if_pos (by omega)] at h1 h2
  injection h1 with h1; injection h2 with h2
  subst h1 h2
  exact ok3.le l2
 ·rw [if_neg ej] at h1 h2
  exact (H.gs j tk' gs' h1 h2).le l0
end
end Go.En
namespace Go.En
variable {S:Sys} {I:aZ} {h h0 h':Hp} {F F0:Fp} {R:Value→Hp→Prop} {L:List bQ} {B B':Bs}
section
variable {W:bQ} {T n b t:Nat} {w:WV} {m:Mj} {tks:List Tk} {gss:List (List iM)} {sts:List Bool} {tk:Tk} {gs:List iM} {z:Int}
theorem L0 (cs:Pp S I) (b0:B.p h) (H:HC B T w m tks gss sts) (k:Ek T n b m) (hT:1≤T) (hl:tks.length≤8) {kd:Int} (hk:¬kd=2) (hz:(∀t:Nat,1≤t→z=t→∃tk q,tks[t - 1]?=some tk∧sts[t - 1]?=some q∧(q=true∨tk.dn=true))∨¬(1≤z∧z≤tks.length)) {ch:Int} (hR:∀h',Gr h h'→R (.tuple #[FA w,.bool false]) h'):kr S I (FA w) (Yo kd z ch) h R:=by
 have ht:∀h R,B.p h→(∀h',Gr h h'→R (.bool false) h')→S.C I.lj [FA w,.int .i64 z] h R:=fun h R b0 hR=>by
  by_cases Xr:1≤z∧z≤tks.length
  ·rcases hz with hz | hz
   ·obtain ⟨t,rfl⟩:∃t:Nat,z=t:=⟨z.toNat,by omega⟩
    obtain ⟨tk,q,h1,h2,h3⟩ :=hz t (by omega) rfl
    refine cs.DI (IH cs b0 H hl (by omega) h1 h2 ?_)
    rcases h3 with rfl | h3
    ·exact hR
    ·rw [h3,show (!q&&!true)=false from Bool.and_false _]; exact hR
   ·exact absurd Xr hz
  ·exact cs.DI (Kr b0 H Xr hR)
 unfold kr
 have c:=Cx.aA h
 refine c.v9 fun _ _ c=>?_
 refine c.v3 fun _ _ c=>?_
 refine c.v9 fun _ _ c=>?_
 refine .here<|c.rl 0 ?_
 refine cs.Kc (K4 (w:=w) cs (B.up b0 c.gr) H k hT fun _ g=>?_)
 have c:=c.more g
 refine bD<|aD<|c.rc 1 ?_
 refine vx (m6 hk)<|bD<|c.rl 0 ?_
 refine aD<|c.rc 1 ?_
 refine ht _ _ (B.up b0 c.gr) fun _ g=>?_
 have c:=c.more g
 refine vx (v:=.bool true) (rfl)<|eR<|c.rl 0 ?_
 refine c.w9 2 fun _ c=>?_
 refine c.rl 2 ?_
 exact hR _ c.gr
theorem RN (cs:Pp S I) (c:Cx F h h [W]) (hB:∀h',Ch F h h'→B.p h') (H:HC B T w m tks gss sts) (k:Ek T n b m) (hb:b≤900000) (hl:tks.length≤T) (ht:1≤t) (hx:tks[t - 1]?=some tk) (hs:sts[t - 1]?=some false) (hg:gss[t - 1]?=some gs) (hgl:gs.length≤900000) (hd:tk.dn=false)
  (ha:I2 n tk.act) (ha0:tk.act.op=5∨tk.act.op=3∨tk.act.op=4→tk.act.old=W0) (ha1:tk.act.op=5→tk.act.new=W0) (hv:tk.act.op=1→∀i:Nat,tk.act.at'=i→m.me.view t i≤((m.me.at i).length - 1:Nat))
  {f:Nat} (hf:I.mt tk.t "Next"=some f) {Q:Mj→iM→Bs→bQ→Value→Ac→Bool→Prop} (hQ:∀{m' g} {B B':Bs},B.le B'→∀{W v a d},Q m' g B W v a d→Q m' g B' W v a d) (hN:∀m' g,Nl m t tk.act m' g→∀B',B.le B'→L5 S B' W f tk.t tk.v g (Q m' g)) {ch:Int}
  (hR:∀m' g w' v' a' d s' W' M h',Nl m t tk.act m' g→Cx F h h' [W',aG M]→Q m' g (B.and M) W' v' a' d→HC (B.and M) T w' m' (tks.set (t - 1) ⟨tk.t,v',d,if d then mL else a',s'⟩) (gss.set (t - 1) (gs++[g])) sts→R (.tuple #[FA w',.bool true]) h'):kr S I (FA w) (Yo 0 t ch) h R:=by
 have hT:=k.me.le.1
 have hlt:=(List.getElem?_eq_some_iff.1 hx).1
 unfold kr
 replace c:Cx _ _ _ [_]:=c
 refine c.v9 fun _ _ c=>?_
 refine c.v3 fun _ _ c=>?_
 refine c.v9 fun _ _ c=>?_
 refine .here<|c.rl 1 ?_
 refine cs.Kc (K4 (w:=w) cs (hB _ c.gr) H k (by omega) fun _ g=>?_)
 have c:=c.more g
 refine bD<|aD<|c.rc 2 ?_
 refine vx (v:=.bool false) rfl<|bD<|c.rl 1 ?_
 refine aD<|c.rc 2 ?_
 refine cs.DI (IH cs (hB _ c.gr) H (by omega) ht hx hs fun _ g=>?_)
 rw [hd]
 have c:=c.more g
 refine vx (v:=.bool false) (rfl)<|bD<|aD<|c.rc 2 ?_
 refine vx (v:=.bool true) rfl<|eR<|c.rl 1 ?_
 refine aD<|c.rc 2 ?_
 refine aD<|c.rc 2 ?_
 obtain ⟨F',d',hF,up⟩ :=c.vA (i:=0) rfl
 refine cs.Ol (Ph (Q:=Q) cs d' (fun h'' ch=>hB h'' (hF _ ch)) H k hb hl ht hx hg hgl hd ha ha0 ha1 hv hf hQ hN fun m' g w' v' a' d s' W' M _ hst dd ok ok2=>?_)
 have c:=up dd
 replace c:=c.n5
 refine c.w9 3 fun _ c=>?_
 refine c.rl 3 ?_
 exact hR m' g w' v' a' d s' W' M _ hst (c.pick [0,4]) ok ok2
theorem N4 (cs:Pp S I) {σ:Type} {done:σ→Bool} {rk:σ→Nat} {P:Bs→bQ→WV→σ→Prop} (hP:∀{B B':Bs},B.le B'→∀{W w s},P B W w s→P B' W w s) {k:Nat} (hk:k≤1000000) (ht:1≤t)
  (hwo:∀{B:Bs} {W w s},P B W w s→∃T mj tks gss sts tk,HC B T w mj tks gss sts∧tks.length≤8∧tks[t - 1]?=some tk∧sts[t - 1]?=some false∧tk.dn=done s)
  (hyes:∀{B:Bs} {W w s} h F R,Cx F h h [W]→(∀h',Ch F h h'→B.p h')→P B W w s→done s=false→(∀w' s' W' M h',Cx F h h' [W',aG M]→P (B.and M) W' w' s'→rk s'<rk s→R (.tuple #[FA w',.bool true]) h')→S.C I.kE [FA w,Yo 0 t 0] h R)
  (hno:∀{B:Bs} {W w s} h R,B.p h→P B W w s→done s=true→(∀h',Gr h h'→R (.tuple #[FA w,.bool false]) h')→S.C I.kE [FA w,Yo 0 t 0] h R)
  (hz:∀{B:Bs} {W w s},P B W w s→rk s=0→done s=true)
  {s:σ} (c:Cx F h h [W]) (hB:∀h',Ch F h h'→B.p h') (H:P B W w s) (hrk:rk s≤k) (hR:∀w' s' W' M h',Cx F h h' [W',aG M]→P (B.and M) W' w' s'→done s'=true→R (.tuple #[FA w',.bool true]) h'):lh S I (FA w) (.int .i64 t) (.int .i64 k) h R:=by
 obtain ⟨T,mc,tks,gss,sts,tk,hO,hl,hx,hs,hd⟩ :=hwo H
 have hlt:=(List.getElem?_eq_some_iff.1 hx).1
 have et:((t:Nat):Int) - 1=((t - 1:Nat):Int):=by omega
 have fin:∀(w':WV) s' W' M r1 r2 h',Cx F h h' [rV r1 (Np w'),rV r2 [.slice none 0 0,.slice none 0 0,.slice none 0 0,.slice none 0 0,.map none,.slice none 0 0,.int .i64 0,.slice none 0 0,.slice none 0 0],W',aG M]→P (B.and M) W' w' s'→done s'=true→
  Vb (aF 9 (cA r1) h') fun v41=>Vb (fa 7 (cA r1)) fun v42=>Vb (dU v42 h') fun v43=>Vb (bin .sub (.int .i64 t) (.int .i64 1)) fun v45=>Vb (lQ 11 v43 v45) fun v46=>Vb (aF 11 v46 h') fun v47=>S.C I.gL [v47] h' fun v48 h6=>aF 9 (cA r1) h6=some v41∧Sb (aQ 9 (cA r2) v41 h6) fun h7=>Vb (aF 9 (cA r2) h7) fun r0=>R (.tuple #[r0,v48]) h7:=fun w' s' W' M r1 r2 h' c hW' e=>by
  obtain ⟨T,mc,tks,gss,sts,tk,hO,hl,hx,hs,hd⟩ :=hwo hW'
  refine En.vb (c.vl (i:=0) rfl rfl) ?_
  refine En.vb (oZ _ _ _) ?_
  refine En.vb (c.vc (i:=0) rfl rfl) ?_
  refine En.vb (nj ⟨by omega,by omega⟩) ?_
  rw [et]
  refine (hO.ts _ ⟨hB _ c.gr,c.get (i:=3) rfl⟩).whole rfl hx rfl ?_
  refine cs.DY (x:=tk) fun _ g=>?_
  have c:=c.more g
  refine And.intro (c.vl (i:=0) rfl rfl) ?_
  refine c.vw 1 rfl (vs:=[_,_,_,_,_,_,_,_,_]) (by exact rfl) (by exact rfl) (by exact rfl) (by exact rfl) fun _ c=>?_
  refine En.vb (c.vl (i:=1) rfl rfl) ?_
  rw [hd,e]
  exact hR w' s' W' M _ (c.pick [2,3]) hW' e
 unfold lh
 replace c:Cx _ _ _ [_]:=c
 refine c.v9 fun w3_ _ c=>?_
 refine c.v9 fun v6_ _ c=>?_
 refine .here<|vx (iZ (by omega))<|bD<|aD<|c.rc 1 ?_
 refine vx (hO.ts h (hB _ (.refl _ _))).ln<|vx (sf (by omega))<|bD<|c.rl 1 ?_
 refine vx (nj ⟨by omega,by omega⟩) ?_
 rw [et]
 refine cs.zB (Ao (w:=w) (hB _ c.gr) hO hs fun _ g=>?_)
 have c:=c.more g
 refine bD ?_
 refine .here<|En.vb (v:=.int .i64 k) (by
  show some (Value.int .i64 (if (0:Int) > k then 0 else k))=_
  rw [if_neg (by omega)]) ?_
 refine xN.by (fun (z:Nat × σ) x h'=>x=.int .i64 z.1∧z.1≤k∧rk z.2+z.1≤k∧∃w' W' M,Cx F h h' [rV w3_ (Np w'),rV v6_ [.slice none 0 0,.slice none 0 0,.slice none 0 0,.slice none 0 0,.map none,.slice none 0 0,.int .i64 0,.slice none 0 0,.slice none 0 0],W',aG M]∧P (B.and M) W' w' z.2) (fun z=>k - z.1) (0,s) ⟨rfl,Nat.zero_le _,hrk,w,W,[],Cx.pack (L:=[_,_,_]) (M:=[]) (c.pick [1,2,0]),hP (Bs.aR _ _) H⟩ ?_
 rintro ⟨i,s'⟩ _ h8 ⟨rfl,hi,hri,w',W',M,c,hW'⟩ again hagain
 dsimp only at hi hri hW' hagain
 replace c:=c.n4
 refine vx cH<|pC (fun e29=>?_) fun e29=>?_
 ·refine c.rl 0 ?_
  refine vx (aL (ds:=[_,_,_]) rfl) ?_
  by_cases hds:done s'=true
  ·refine hno (B:=B.and M) _ _ ⟨hB _ c.gr,c.get (i:=3) rfl⟩ hW' hds fun _ g=>?_
   have c:=c.more g
   refine En.vb rfl (En.vb rfl ?_)
   refine c.nv (cs:=[_,_,_,_,_,_,_,_,_]) rfl rfl fun _ _ c=>?_
   refine c.vw 4 rfl (vs:=[_,_,_,_,_,_,_,_,_]) (by exact rfl) (by exact rfl) (by exact rfl) (by exact rfl) fun _ c=>?_
   exact vx rfl<|eR<|fin w' s' W' M _ _ _ (c.pick [0,1,2,3]) hW' hds
  have hds:done s'=false:=by simpa using hds
  obtain ⟨F',d',hM,up⟩ :=c.Iv hB (i:=2) (j:=3) rfl rfl (by decide)
  refine hyes (B:=B.and M) _ F' _ d' hM hW' hds fun w2 s2 W2 N _ d ok hrs=>?_
  have c:=up d
  replace c:=c.n5
  refine vx rfl<|vx rfl<|c.v9 fun _ _ c=>?_
  refine c.w9 5 fun _ c=>?_
  refine vx (v:=.bool false) (rfl)<|bD<|c.rl 5 ?_
  refine c.w9 0 fun _ c=>?_
  refine vx (inc (by omega))<|hagain (i+1,s2) _ _ ⟨rfl,by dsimp only; omega,by dsimp only; omega,w2,W2,[aG M,aG N],Cx.pack (L:=[_,_,_]) (c.pick [0,1,2,3,4]),hP Bs.MA ok⟩ (by dsimp only; omega)
 ·exact fin w' s' W' M _ _ _ (c.pick [0,1,2,3]) hW' (hz hW' (by omega))
end
end Go.En
namespace Go.En
variable {S:Sys} {I:aZ} {h h0 h':Hp} {F F0:Fp} {R:Value→Hp→Prop} {L:List bQ} {B B':Bs}
theorem Cx.snoc {W':bQ} {Ws:List bQ} (c:Cx F h0 h (L++[W',aG Ws])):Cx F h0 h (L++[aG (Ws++[W'])]):=by
 have c:Cx F h0 h ((L++[W'])++[aG Ws]):=by rw [List.append_assoc]; exact c
 have c:=Cx.unpack c
 rw [List.append_assoc] at c
 exact Cx.pack (c.perm (List.Perm.append_left L (List.perm_append_comm (l₁:=[W']) (l₂:=Ws))))
section
variable {T n b t:Nat} {w:WV} {m:Mj} {v:MV} {s:SH} {cds:List (TypeId × Value)}
def Q4 (Q:Nat→Bs→bQ→Value→Ac→Bool→Prop) (B:Bs) (cds:List (TypeId × Value)) (tks:List Tk) (Ws:List bQ):Prop:=
 ∀(j:Nat) (tk:Tk) (W:bQ),tks[j]?=some tk→Ws[j]?=some W→∃a c,cds[j]?=some c∧tk.t=c.1∧Q j B W tk.v a tk.dn∧tk.act=(if tk.dn then mL else a)∧tk.s=(none,0,0)
theorem Ru (cs:Pp S I) (b0:B.p h) (H:B8 B T v m) (k:Ek T n b m) (hs:On B fun h=>Sl Ss h (aX s) cds) (hl:cds.length≤T) {Q:Nat→Bs→bQ→Value→Ac→Bool→Prop} (hQ:∀{j} {B B':Bs},B.le B'→∀{W v a d},Q j B W v a d→Q j B' W v a d)
  (hN:∀(j:Nat) (c:TypeId × Value),cds[j]?=some c→∃f,I.mt c.1 "Next"=some f∧∀B',B.le B'→L5 S B' (aG []) f c.1 c.2 qY (Q j))
  (hR:∀w tks Ws M h',tks.length=cds.length→Ws.length=cds.length→Cx (fun _=>False) h h' [aG M,aG Ws]→Q4 Q (B.and M) cds tks Ws→HC (B.and M) T w m tks (List.replicate cds.length []) (List.replicate cds.length false)→R (.tuple #[FA w,.int .i64 0]) h'):uX S I (xF v) (aX s) h R:=by
 have hT:=k.me.le.1
 unfold uX
 have c:=Cx.aA h
 refine c.v7 fun m2_ _ c=>?_
 refine c.v9 fun v4_ _ c=>?_
 refine c.rl 0 ?_
 refine cs.Jh (v:=v) (B.up b0 c.gr) H.ko (k.kk H) fun _ g=>?_
 have c:=c.more g
 refine vx rfl<|vx rfl<|vx (hs h b0).ln<|vx (sf (by omega))<|bD<|lq.at (fun z h'=>∃(r3:Nat) (u:SH),z=cA r3∧Cx (fun _=>False) h h' [rV m2_ (YS v),rV v4_ [.slice none 0 0,.slice none 0 0,.slice none 0 0,.slice none 0 0,.map none,.slice none 0 0,.int .i64 0,.slice none 0 0,.slice none 0 0],rV r3 (Np ⟨v,(none,0,0),u⟩),dA V6 (aX u) (List.replicate cds.length false)]) ?_ ?_
 ·refine c.rl 0 ?_
  refine vx (hs h b0).ln<|⟨?_,?_⟩
  ·refine c.IL V6 false rfl rfl rfl (by omega) (by decide) fun ad _ c=>?_
   obtain ⟨u,hu⟩:∃l:SH,aX l=.slice (some ad) cds.length cds.length:=⟨(some ad,cds.length,cds.length),rfl⟩
   rw [←hu] at c⊢
   replace c:=c.n3
   refine c.al 0 ?_
   refine vx (aL (ds:=[_,_,_,_,_,_,_,_,_]) rfl)<|c.v9 fun _ _ c=>?_
   refine c.al 0 ?_
   refine c.w9 3 fun _ c=>?_
   exact ⟨_,u,rfl,c.pick [0,1,3,2]⟩
  ·refine c.v9 fun _ _ c=>?_
   refine c.al 0 ?_
   refine c.IL V6 false rfl rfl rfl (by omega) (by decide) fun ad _ c=>?_
   obtain ⟨u,hu⟩:∃l:SH,aX l=.slice (some ad) cds.length cds.length:=⟨(some ad,cds.length,cds.length),rfl⟩
   rw [←hu] at c⊢
   replace c:=c.n4
   refine c.al 0 ?_
   refine vx (aL (ds:=[_,_,_,_,_,_,_,_,_]) rfl)<|c.w9 2 fun _ c=>?_
   exact ⟨_,u,rfl,c.pick [0,1,2,3]⟩
 ·rintro _ h5 ⟨r3,u,rfl,c⟩
  replace c:=c.n4
  refine vx (hs h b0).ln<|xN.by (fun (i:Nat) z h'=>z=.int .i64 i∧i≤cds.length∧∃(p:SH) (tks:List Tk) (M Ws:List bQ),tks.length=i∧Ws.length=i∧Cx (fun _=>False) h h' [rV m2_ (YS v),rV v4_ [.slice none 0 0,.slice none 0 0,.slice none 0 0,.slice none 0 0,.map none,.slice none 0 0,.int .i64 0,.slice none 0 0,.slice none 0 0],rV r3 (Np ⟨v,p,u⟩),dA V6 (aX u) (List.replicate cds.length false),dA FD (aX p) tks,aG M,aG Ws]∧Q4 Q (B.and M) cds tks Ws) (fun i=>cds.length - i) 0 ⟨rfl,Nat.zero_le _,(none,0,0),([]:List Tk),([]:List bQ),([]:List bQ),rfl,rfl,Cx.Db (L:=[_,_,_,_,_,_]) (Cx.Db (L:=[_,_,_,_,_]) ((c.nil FD).pick [0,1,2,3,4])),fun j tk W hj=>G3 hj⟩ ?_
  rintro i _ h8 ⟨rfl,hi,p,tks,M,Ws,hlen,hwl,c,hM⟩ again hagain
  replace c:=c.n7
  refine vx cH<|pC (fun e29=>?_) fun e29=>?_
  ·obtain ⟨cd,hcd⟩:∃cd,cds[i]?=some cd:=⟨_,List.getElem?_eq_getElem (by omega)⟩
   obtain ⟨f,hf,hNx⟩ :=hN i cd hcd
   refine (hs _ (B.up b0 c.gr)).one rfl hcd rfl (u:=.iface cd.1 cd.2) rfl ?_
   refine aD<|c.rc 2 ?_
   refine cs.NS (Ng (B:=B) cs (FI (F:=AU)) (fun h' ch=>B.up b0 (Gr.trans c.gr ch)) hf (hNx B (Bs.le_refl B)) fun v' a' d W N _ dd ok=>?_)
   have c:=c.aE dd
   replace c:=c.n9
   refine c.ac 2 ?_
   refine c.jE FD ⟨cd.1,v',d,if d then mL else a',(none,0,0)⟩ rfl rfl fun v36 _ c=>?_
   replace c:=c.Wq
   refine c.ac 2 ?_
   refine c.ap 4 rfl (c.sl (i:=9) rfl).sl rfl rfl (by simp only [List.length_singleton]; omega) (by simp only [List.length_singleton]; omega) fun v37 _ c=>?_
   obtain ⟨p2,rfl⟩ :=(c.sl (i:=4) rfl).vO
   replace c:=c.Wq
   refine aD<|c.q9 2 fun _ c=>?_
   refine vx (inc (by omega)) ?_
   have c:=Cx.pack (L:=[_,_,_,_,_,_,_]) (M:=[_,_]) (c.pick [0,1,2,3,4,7,6,5,8])
   have c:=Cx.snoc (L:=[_,_,_,_,_,_]) (c.pick [0,1,2,3,4,7,5,6])
   refine hagain (i+1) _ _ ⟨rfl,by omega,p2,tks++[(⟨cd.1,v',d,if d then mL else a',(none,0,0)⟩:Tk)],[aG M,aG N],Ws++[W],by rw [List.length_append,List.length_singleton,hlen],by rw [List.length_append,List.length_singleton,hwl],c,fun j tk W' hj hw=>?_⟩ (by omega)
   by_cases hjl:j<tks.length
   ·rw [List.getElem?_append_left hjl] at hj
    rw [List.getElem?_append_left (by omega)] at hw
    obtain ⟨a,cc,h1,h2,h3,h4,h5⟩ :=hM j tk W' hj hw
    exact ⟨a,cc,h1,h2,hQ (Bs.Eg (i:=0) rfl) h3,h4,h5⟩
   ·rw [List.getElem?_append_right (by omega)] at hj hw
    have e:j - tks.length=0:=by
     have:=(List.getElem?_eq_some_iff.1 hj).1
     rw [List.length_singleton] at this
     omega
    rw [e] at hj
    rw [show j - Ws.length=0 by omega] at hw
    simp only [List.getElem?_cons_zero,Option.some.injEq] at hj hw
    subst hj hw
    obtain rfl:j=i:=by omega
    exact ⟨a',cd,hcd,rfl,hQ (Bs.Eg (i:=1) rfl) ok,rfl,rfl⟩
  ·refine c.rl 2 ?_
   refine c.w9 1 fun _ c=>?_
   refine c.rl 1 ?_
   have hi:i=cds.length:=by omega
   subst hi
   have c:=Cx.pack (L:=[_]) (M:=[_,_,_]) (c.pick [6,4,3,5])
   refine hR ⟨v,p,u⟩ tks Ws [dA FD (aX p) tks,dA V6 (aX u) (List.replicate cds.length false),aG M] _ hlen hwl (c.pick [1,0]) (fun j tk W hj hw=>?_) ⟨H.le (Bs.aR _ _),On.sl (i:=0) rfl,On.sl (i:=1) rfl,by rw [List.length_replicate,hlen],by rw [List.length_replicate,hlen],fun j tk gs h1 h2=>?_⟩
   ·obtain ⟨a,cc,h1,h2,h3,h4,h5⟩ :=hM j tk W hj hw
    exact ⟨a,cc,h1,h2,hQ (Bs.Eg (i:=2) rfl) h3,h4,h5⟩
   ·have hjl:=(List.getElem?_eq_some_iff.1 h1).1
    obtain ⟨a,cc,_,_,_,_,h5⟩ :=hM j tk _ h1 (List.getElem?_eq_getElem (by omega))
    rw [List.getElem?_replicate] at h2
    split at h2
    ·injection h2 with h2
     subst h2
     rw [h5]
     exact fun h b=>⟨none,0,rfl,Nat.le_refl _,(fun _=>rfl),fun i x hx=>G3 hx⟩
    ·cases h2
end
end Go.En
