/-
  Own library for the claim, packed by program: the engine, the clean texts, contracts, the plain law. (Part C.)
-/
import Derived.Test.YtcepckpfhbcobaaGreatDoorXB
namespace Go.En
variable {S:Sys} {I:aZ} {h h0 h':Hp} {F F0:Fp} {R:Value→Hp→Prop} {L:List bQ} {B B':Bs}
def s7 (x:SH × SH):Value:=.agg #[aX x.1,aX x.2]
structure AM where
 w:W3
 f:Int→Int
structure Me where
 hs:List (List AM)
 vs:List (Int→Int)
def Me.view (m:Me) (t:Nat):Int→Int:=m.vs.getD (t - 1) fun _=>0
def Me.at (m:Me) (i:Nat):List AM:=m.hs.getD i []
def Me.xB (m:Me) (t i n:Nat) (x:AM) (j:Bool):Me:={m with vs:=m.vs.set (t - 1) (if j then Ev (rz (m.view t) i n) x.f else rz (m.view t) i n)}
def Me.add (m:Me) (t i:Nat) (w:W3) (whole:Bool):Me:=
 {hs:=m.hs.set i (m.at i++[⟨w,if whole then rz (m.view t) i (m.at i).length else rz (fun _=>0) i (m.at i).length⟩]),
  vs:=m.vs.set (t - 1) (rz (m.view t) i (m.at i).length)}
def Al (B:Bs) (ms:List Df) (asn:List AM):Prop:=ms.length=asn.length∧∀(i:Nat) (m:Df) (a:AM),ms[i]?=some m→asn[i]?=some a→m.w=a.w∧VO B m.a a.f
def HO (B:Bs) (u:SH) (asn:List AM):Prop:=∃ms,(On B fun h=>Sl wH h (aX u) ms)∧Al B ms asn
structure MO (B:Bs) (x:SH × SH) (m:Me):Prop where
 vs:∃us:List (Option Nat),(On B fun h=>Sl EM h (aX x.2) us)∧us.length=m.vs.length∧∀(i:Nat) (a:Option Nat) (f:Int→Int),us[i]?=some a→m.vs[i]?=some f→VO B a f
 hs:∃us:List SH,(On B fun h=>Sl xE h (aX x.1) us)∧us.length=m.hs.length∧∀(i:Nat) (u:SH) (asn:List AM),us[i]?=some u→m.hs[i]?=some asn→HO B u asn
structure Mk (T n b:Nat) (m:Me):Prop where
 vs:m.vs.length=T
 hs:m.hs.length=n
 le:T≤8∧n≤4096
 len:∀asn∈m.hs,1≤asn.length∧asn.length≤b
theorem Al.le {ms:List Df} {asn:List AM} (H:Al B ms asn) (l:B.le B'):Al B' ms asn:=⟨H.1,fun i m a h1 h2=>⟨(H.2 i m a h1 h2).1,(H.2 i m a h1 h2).2.le l⟩⟩
theorem HO.le {u:SH} {asn:List AM} (H:HO B u asn) (l:B.le B'):HO B' u asn:=let ⟨ms,a,b⟩ :=H; ⟨ms,a.le l,b.le l⟩
theorem MO.le {x:SH × SH} {m:Me} (H:MO B x m) (l:B.le B'):MO B' x m:=by
 obtain ⟨⟨us,a,b,c⟩,⟨vs,d,e,f⟩⟩ :=H
 exact ⟨⟨us,a.le l,b,fun i y g h1 h2=>(c i y g h1 h2).le l⟩,⟨vs,d.le l,e,fun i u asn h1 h2=>(f i u asn h1 h2).le l⟩⟩
theorem VO.zero (B:Bs):VO B none fun _=>0:=⟨[],fun _ _=>.inl ⟨rfl,rfl⟩,fun _=>⟨Int.le_refl _,Int.le_refl _⟩⟩
section
variable {T n b t i:Nat} {x:SH × SH} {m:Me} {w:W3}
theorem MO.ln (H:MO B x m) (b0:B.p h):lu (aX x.2)=some (.int .i64 m.vs.length)∧lu (aX x.1)=some (.int .i64 m.hs.length):=by
 obtain ⟨us,a,e,_⟩ :=H.vs
 obtain ⟨vs,d,e2,_⟩ :=H.hs
 rw [←e,←e2]
 exact ⟨(a h b0).ln,(d h b0).ln⟩
theorem OV (b0:B.p h) (H:MO B x m) (k:Mk T n b m) (ht:1≤t∧t≤T) (hR:∀h',Gr h h'→R (.bool true) h'):nn S I (s7 x) (.int .i64 t) h R:=by
 have hT:=k.vs
 unfold nn
 have c:=Cx.aA h
 refine c.v2 fun _ _ c=>?_
 refine .here<|vx (uA (by omega))<|eR<|aD<|c.rc 0 ?_
 exact vx (H.ln b0).1<|vx (IU (by omega))<|hR _ c.gr
theorem RD (b0:B.p h) (H:MO B x m) (k:Mk T n b m) (hi:i<n) (hR:∀h',Gr h h'→R (.bool true) h'):nX S I (s7 x) (.int .i64 i) h R:=by
 have hn:=k.hs
 unfold nX
 have c:=Cx.aA h
 refine c.v2 fun _ _ c=>?_
 refine .here<|vx (uA (by omega))<|eR<|aD<|c.rc 0 ?_
 exact vx (H.ln b0).2<|vx (yH (by omega))<|hR _ c.gr
theorem QZ (b0:B.p h) (H:MO B x m) (k:Mk T n b m) (hR:∀h',Gr h h'→R (.tuple #[.int .i64 T,.int .i64 n]) h'):oM S I (s7 x) h R:=by
 obtain ⟨hT,hn,_,_⟩ :=k
 subst hT hn
 unfold oM
 have c:=Cx.aA h
 refine c.v2 fun _ _ c=>?_
 refine aD<|c.rc 0 ?_
 refine vx (H.ln b0).1<|aD<|c.rc 0 ?_
 exact vx (H.ln b0).2<|hR _ c.gr
structure Xc (S:Sys) (I:aZ):Prop extends Yg S I where
 SL:∀{u:SH} {ms:List Df} {l:Df} {h R},Sl wH h (aX u) (ms++[l])→ms.length≤1000000→(∀h',Gr h h'→R (NR l) h')→S.C I.kR [vH u] h R
 hAdd:∀{u:SH} {ms:List Df} {m:Df} {h R},Sl wH h (aX u) ms→ms.length≤1000000→(∀u' h',Cx (fun _=>False) h h' [dA wH (aX u') (ms++[m])]→R (vH u') h')→S.C I.lF [vH u,NR m] h R
 J1:∀{B:Bs} {T n b t:Nat} {x:SH × SH} {m:Me} {h R},B.p h→MO B x m→Mk T n b m→(1≤t∧t≤T)→(∀h',Gr h h'→R (.bool true) h')→S.C I.hH [s7 x,.int .i64 t] h R
 place:∀{B:Bs} {T n b i:Nat} {x:SH × SH} {m:Me} {h R},B.p h→MO B x m→Mk T n b m→i<n→(∀h',Gr h h'→R (.bool true) h')→S.C I.iU [s7 x,.int .i64 i] h R
theorem RK (cs:Xc S I) (b0:B.p h) (H:MO B x m) (k:Mk T n b m) (ht:1≤t∧t≤T) (hi:i<n) (hR:∀h',Gr h h'→R (.int .i64 0) h'):og S I (s7 x) (.int .i64 t) (.int .i64 i) h R:=by
 unfold og
 have c:=Cx.aA h
 refine c.v2 fun _ _ c=>?_
 refine c.rl 0 ?_
 refine cs.J1 (B.up b0 c.gr) H k ht fun _ g=>?_
 have c:=c.more g
 refine vx (v:=.bool false) (rfl)<|bD<|c.rl 0 ?_
 refine cs.place (B.up b0 c.gr) H k hi fun _ g=>?_
 have c:=c.more g
 exact vx (v:=.bool false) (rfl)<|bD<|hR _ c.gr
theorem VP (cs:Xc S I) (b0:B.p h) (H:MO B x m) (k:Mk T n b m) (ht:1≤t∧t≤T) (hR:∀a,VO B a (m.view t)→∀h',Gr h h'→R (vV a) h'):pe S I (s7 x) (.int .i64 t) h R:=by
 obtain ⟨us,h1,h2,h3⟩ :=H.vs
 have hT:=k.vs
 have hlt:t - 1<us.length:=by omega
 have hx:=List.getElem?_eq_getElem hlt
 have hf:m.vs[t - 1]?=some (m.view t):=by
  unfold Me.view
  rw [List.getD_eq_getElem?_getD,List.getElem?_eq_getElem (by omega)]; rfl
 have Va:=h3 _ _ _ hx hf
 generalize us[t - 1]=a at hx Va
 have hle:=k.le
 unfold pe
 have c:=Cx.aA h
 refine c.v2 fun _ _ c=>?_
 refine c.v1 fun _ _ c=>?_
 refine c.rl 0 ?_
 refine cs.J1 (B.up b0 c.gr) H k ht fun _ g=>?_
 have c:=c.more g
 refine vx (v:=.bool false) (rfl)<|bD<|aD<|c.rc 0 ?_
 refine vx (nj ⟨by omega,by omega⟩)<|(h1 _ (B.up b0 c.gr)).whole rfl hx (by omega) ?_
 refine c.w1 1 fun _ c=>?_
 refine c.rl 1 ?_
 exact hR a Va _ c.gr
theorem VN {us:List (Option Nat)} (h1:Sl EM h (aX x.2) us) (hT:us.length≤8) (ht:1≤t∧t≤us.length) {a:Option Nat} (hR:∀u h',Cx (fun _=>False) h h' [dA EM (aX u) (us.set (t - 1) a)]→R (s7 (x.1,u)) h'):oP S I (s7 x) (.int .i64 t) (vV a) h R:=by
 unfold oP
 have c:=Cx.aA h
 refine c.v2 fun _ _ c=>?_
 refine c.v1 fun _ _ c=>?_
 refine c.v2 fun _ _ c=>?_
 refine aD<|c.rc 0 ?_
 refine vx (h1.gr c.gr).ln<|c.IL EM none rfl rfl rfl (by omega) (by decide) fun ad _ c=>?_
 obtain ⟨u,hu⟩:∃u:SH,aX u=.slice (some ad) us.length us.length:=⟨(some ad,us.length,us.length),rfl⟩
 rw [←hu] at c⊢
 replace c:=c.n4
 refine aD<|c.rc 0 ?_
 refine c.Ni 3 rfl (h1.gr c.gr) (by rw [List.length_replicate]) rfl fun _ c=>?_
 replace c:=c.n4
 refine vx (nj ⟨by omega,by omega⟩)<|c.rl 1 ?_
 refine c.D7 3 rfl (j:=t - 1) (by omega) a rfl (by omega) rfl fun _ c=>?_
 replace c:=c.n4
 refine aD<|c.q2 0 fun _ c=>?_
 refine c.rl 0 ?_
 refine c.w2 2 fun _ c=>?_
 refine c.rl 2 ?_
 exact hR u _ (c.pick [3])
theorem UK {ms:List Df} {u:SH} {v0 v2:Value} (cs:Xc S I) (H:Sl wH h (aX u) ms) (hb:ms.length≤2000000) (hR:∀h',Gr h h'→R (.int .i64 ((ms.length:Int) - 1)) h'):oT S I v0 (vH u) v2 h R:=by
 unfold oT
 have c:=Cx.aA h
 refine c.v1 fun _ _ c=>?_
 refine c.rl 0 ?_
 refine cs.Gt (H.gr c.gr) fun _ g=>?_
 have c:=c.more g
 exact vx (nj ⟨by omega,by omega⟩)<|hR _ c.gr
structure Za (S:Sys) (I:aZ):Prop extends Xc S I where
 FW:∀{B:Bs} {T n b t i:Nat} {x:SH × SH} {m:Me} {h R},B.p h→MO B x m→Mk T n b m→(1≤t∧t≤T)→i<n→(∀h',Gr h h'→R (.int .i64 0) h')→S.C I.iX [s7 x,.int .i64 t,.int .i64 i] h R
 seen:∀{B:Bs} {T n b t:Nat} {x:SH × SH} {m:Me} {h R},B.p h→MO B x m→Mk T n b m→(1≤t∧t≤T)→(∀a,VO B a (m.view t)→∀h',Gr h h'→R (vV a) h')→S.C I.cD [s7 x,.int .i64 t] h R
 Sx:∀{x:SH × SH} {us:List (Option Nat)} {t:Nat} {a:Option Nat} {h R},Sl EM h (aX x.2) us→us.length≤8→(1≤t∧t≤us.length)→(∀u h',Cx (fun _=>False) h h' [dA EM (aX u) (us.set (t - 1) a)]→R (s7 (x.1,u)) h')→S.C I.ke [s7 x,.int .i64 t,vV a] h R
 last:∀{ms:List Df} {u:SH} {v0 v2:Value} {h R},Sl wH h (aX u) ms→ms.length≤2000000→(∀h',Gr h h'→R (.int .i64 ((ms.length:Int) - 1)) h')→S.C I.gV [v0,vH u,v2] h R
theorem MO.Sx (H:MO B x m) {us:List (Option Nat)} (h1:On B fun h=>Sl EM h (aX x.2) us) (h2:us.length=m.vs.length) (h3:∀(i:Nat) (a:Option Nat) (f:Int→Int),us[i]?=some a→m.vs[i]?=some f→VO B a f)
  {a:Option Nat} {f:Int→Int} (Va:VO B a f) (ht:t - 1<us.length) {M:List bQ} {u:SH} {j:Nat} (hj:M[j]?=some (dA EM (aX u) (us.set (t - 1) a))):MO (B.and M) (x.1,u) {m with vs:=m.vs.set (t - 1) f}:=by
 refine ⟨⟨us.set (t - 1) a,On.sl hj,by rw [List.length_set,List.length_set,h2],fun i y g hy hg=>?_⟩,(H.le (Bs.aR _ _)).hs⟩
 rw [List.getElem?_set] at hy
 by_cases e:t - 1=i
 ·rw [if_pos e] at hy
  have hg:(m.vs.set (t - 1) f)[i]?=some g:=hg
  rw [List.getElem?_set,if_pos e,if_pos (by omega)] at hg
  rw [if_pos (by omega)] at hy
  injection hy with hy; injection hg with hg
  subst hy hg
  exact Va.le (Bs.aR _ _)
 ·rw [if_neg e] at hy
  have hg:(m.vs.set (t - 1) f)[i]?=some g:=hg
  rw [List.getElem?_set,if_neg e] at hg
  exact (h3 i y g hy hg).le (Bs.aR _ _)
theorem QA (cs:Za S I) (b0:B.p h) (H:MO B x m) (k:Mk T n b m) (ht:1≤t∧t≤T) (hi:i<n) {q:Nat} {am:AM} (hq:(m.at i)[q]?=some am) {jn:Bool}
  (hR:∀x',Rt B h (fun B=>MO B x' (m.xB t i q am jn)) fun h'=>R (.tuple #[s7 x',mW am.w]) h'):lG S I (s7 x) (.int .i64 t) (.int .i64 i) (.int .i64 q) (.bool jn) h R:=by
 obtain ⟨us,h1,h2,h3⟩ :=H.hs
 obtain ⟨vs,v1,v2,v3⟩ :=id H.vs
 have hn:=k.hs
 have hT:=k.vs
 have hle:=k.le
 have hu:=List.getElem?_eq_getElem (l:=us) (i:=i) (by omega)
 have hm:m.hs[i]?=some (m.at i):=by
  unfold Me.at
  rw [List.getD_eq_getElem?_getD,List.getElem?_eq_getElem (by omega)]; rfl
 obtain ⟨ms,hs,ha⟩ :=h3 _ _ _ hu hm
 generalize us[i]=u at hu hs
 have hql:=(List.getElem?_eq_some_iff.1 hq).1
 have hms:=List.getElem?_eq_getElem (l:=ms) (i:=q) (by rw [ha.1]; exact hql)
 obtain ⟨hw,Vm⟩ :=ha.2 _ _ _ hms hq
 generalize ms[q]'(by rw [ha.1]; exact hql)=l at hms hw Vm
 obtain ⟨aw,af⟩ :=am
 dsimp only at hw Vm
 subst hw
 cases jn with
 | true=>
  unfold lG
  have c:=Cx.aA h
  refine c.v2 fun _ _ c=>?_
  refine c.v2 fun _ _ c=>?_
  refine c.v3 fun _ _ c=>?_
  refine aD<|c.rc 0 ?_
  refine (h1 _ (B.up b0 c.gr)).whole rfl hu rfl ?_
  refine cs.YB (hs _ (B.up b0 c.gr)) hms fun _ g=>?_
  have c:=c.more g
  refine vx rfl<|vx rfl<|c.v5 fun _ _ c=>?_
  refine c.w5 3 fun _ c=>?_
  refine c.rl 0 ?_
  refine cs.seen (B.up b0 c.gr) H k ht fun a Va _ g=>?_
  have c:=c.more g
  refine cs.xG (B.up b0 c.gr) Va ⟨by omega,by omega⟩ (Int.natCast_nonneg q) fun a2 M _ d ok=>?_
  have c:=c.aE d
  replace c:=c.n5
  refine c.v1 fun _ _ c=>?_
  refine c.w1 5 fun _ c=>?_
  refine .here<|eR<|c.rl 5 ?_
  refine aD<|vx (c.vp (i:=3) (ds:=[_]) rfl rfl rfl)<|cs.Sr (B:=B.and M) ⟨B.up b0 c.gr,c.get (i:=4) rfl⟩ ok (Vm.le (Bs.aR _ _)) fun a3 N _ d ok2=>?_
  have c:=c.aE d
  replace c:=c.n7
  refine c.w1 5 fun _ c=>?_
  refine c.rl 0 ?_
  refine c.rl 5 ?_
  refine aD<|vx (c.vp (i:=3) (ds:=[_,_,_]) rfl rfl rfl)<|cs.Sx (t:=t) (v1 _ (B.up b0 c.gr)) (by omega) ⟨ht.1,by omega⟩ fun u2 _ d=>?_
  have c:=c.aE d
  replace c:=c.n8
  refine And.intro (c.vp (i:=3) (ds:=[_,_,_]) rfl rfl rfl) ?_
  refine c.w2 1 fun _ c=>?_
  refine And.intro (c.vp (i:=3) (ds:=[_,_,_]) rfl rfl rfl) ?_
  refine c.w3 2 fun _ c=>?_
  refine c.rl 1 ?_
  refine c.rl 2 ?_
  refine hR (x.1,u2) [aG M,aG N,dA EM (aX u2) (vs.set (t - 1) a3)] _ (Cx.pack (L:=[]) (c.pick [4,6,7])) ?_
  have r:MO (((B.and M).and N).and [dA EM (aX u2) (vs.set (t - 1) a3)]) (x.1,u2) _:=(H.le ((Bs.aR B M).trans (Bs.aR _ N))).Sx (v1.le ((Bs.aR B M).trans (Bs.aR _ N))) v2 (fun i a f e1 e2=>(v3 i a f e1 e2).le ((Bs.aR B M).trans (Bs.aR _ N))) ok2 (by omega) (j:=0) rfl
  exact r.le fun h b=>⟨⟨⟨b.1,Bs.star b (i:=0) rfl⟩,Bs.star b (i:=1) rfl⟩,let ⟨_,F,p⟩ :=b; let ⟨F',p'⟩ :=(Cx.star p).get (i:=2) rfl; let ⟨F'',p'',_⟩ :=(Cx.start p').NW; ⟨F'',p''⟩⟩
 | false=>
  unfold lG
  have c:=Cx.aA h
  refine c.v2 fun _ _ c=>?_
  refine c.v2 fun _ _ c=>?_
  refine c.v3 fun _ _ c=>?_
  refine aD<|c.rc 0 ?_
  refine (h1 _ (B.up b0 c.gr)).whole rfl hu rfl ?_
  refine cs.YB (hs _ (B.up b0 c.gr)) hms fun _ g=>?_
  have c:=c.more g
  refine vx rfl<|vx rfl<|c.v5 fun _ _ c=>?_
  refine c.w5 3 fun _ c=>?_
  refine c.rl 0 ?_
  refine cs.seen (B.up b0 c.gr) H k ht fun a Va _ g=>?_
  have c:=c.more g
  refine cs.xG (B.up b0 c.gr) Va ⟨by omega,by omega⟩ (Int.natCast_nonneg q) fun a2 M _ d ok=>?_
  have c:=c.aE d
  replace c:=c.n5
  refine c.v1 fun _ _ c=>?_
  refine c.w1 5 fun _ c=>?_
  refine .here<|bD<|c.rl 0 ?_
  refine c.rl 5 ?_
  refine aD<|vx (c.vp (i:=3) (ds:=[_,_,_]) rfl rfl rfl)<|cs.Sx (t:=t) (v1 _ (B.up b0 c.gr)) (by omega) ⟨ht.1,by omega⟩ fun u2 _ d=>?_
  have c:=c.aE d
  replace c:=c.n7
  refine And.intro (c.vp (i:=3) (ds:=[_,_,_]) rfl rfl rfl) ?_
  refine c.w2 1 fun _ c=>?_
  refine And.intro (c.vp (i:=3) (ds:=[_,_,_]) rfl rfl rfl) ?_
  refine c.w3 2 fun _ c=>?_
  refine c.rl 1 ?_
  refine c.rl 2 ?_
  refine hR (x.1,u2) [aG M,dA EM (aX u2) (vs.set (t - 1) a2)] _ (Cx.pack (L:=[]) (c.pick [4,6])) ?_
  have r:MO ((B.and M).and [dA EM (aX u2) (vs.set (t - 1) a2)]) (x.1,u2) _:=(H.le (Bs.aR B M)).Sx (v1.le (Bs.aR B M)) v2 (fun i a f e1 e2=>(v3 i a f e1 e2).le (Bs.aR B M)) ok (by omega) (j:=0) rfl
  exact r.le fun h b=>⟨⟨b.1,Bs.star b (i:=0) rfl⟩,let ⟨_,F,p⟩ :=b; let ⟨F',p'⟩ :=(Cx.star p).get (i:=1) rfl; let ⟨F'',p'',_⟩ :=(Cx.start p').NW; ⟨F'',p''⟩⟩
end
end Go.En
namespace Go.En
variable {S:Sys} {I:aZ} {h h0 h':Hp} {F F0:Fp} {R:Value→Hp→Prop} {L:List bQ} {B B':Bs}
abbrev Ji (x:SH × SH):List Value:=[aX x.1,aX x.2]
abbrev cW (w:W3):List Value:=[.int .i64 w.v,.int .u32 w.dN,.int .u32 w.ref]
abbrev Og:List Value:=[.slice none 0 0,.slice none 0 0]
structure Y1 (S:Sys) (I:aZ):Prop extends Za S I where
 dI:∀{B:Bs} {T n b t i q:Nat} {x:SH × SH} {m:Me} {am:AM} {jn:Bool} {h R},B.p h→MO B x m→Mk T n b m→(1≤t∧t≤T)→i<n→(m.at i)[q]?=some am→
  (∀x',Rt B h (fun B=>MO B x' (m.xB t i q am jn)) fun h'=>R (.tuple #[s7 x',mW am.w]) h')→S.C I.aN [s7 x,.int .i64 t,.int .i64 i,.int .i64 q,.bool jn] h R
 Sv:∀{B:Bs} {T n b:Nat} {x:SH × SH} {m:Me} {h R},B.p h→MO B x m→Mk T n b m→(∀h',Gr h h'→R (.tuple #[.int .i64 T,.int .i64 n]) h')→S.C I.lY [s7 x] h R
section
variable {T n b t i:Nat} {x:SH × SH} {m:Me} {w:W3} {am:AM}
def Me.top (m:Me) (i:Nat):AM:=(m.at i).getLast?.getD ⟨W0,fun _=>0⟩
theorem Mk.at (k:Mk T n b m) (hi:i<n):m.hs[i]?=some (m.at i)∧1≤(m.at i).length∧(m.at i).length≤b:=by
 have hn:=k.hs
 have hm:m.hs[i]?=some (m.at i):=by
  unfold Me.at
  rw [List.getD_eq_getElem?_getD,List.getElem?_eq_getElem (by omega)]; rfl
 exact ⟨hm,k.len _ (List.mem_of_getElem? hm)⟩
theorem Mk.top (k:Mk T n b m) (hi:i<n):(m.at i)[(m.at i).length - 1]?=some (m.top i):=by
 obtain ⟨_,h1,_⟩ :=k.at hi
 unfold Me.top
 rw [List.getLast?_eq_getElem?,List.getElem?_eq_getElem (by omega)]
 rfl
theorem TE (cs:Y1 S I) (b0:B.p h) (H:MO B x m) (k:Mk T n b m) (hb:b≤1000000) (ht:1≤t∧t≤T) (hi:i<n)
  (hR:∀x',Rt B h (fun B=>MO B x' (m.xB t i ((m.at i).length - 1) (m.top i) true)) fun h'=>R (.tuple #[s7 x',mW (m.top i).w,.int .i64 0]) h'):jU S I (s7 x) (.int .i64 t) (.int .i64 i) (.bool true) (.func (.func I.gV) #[.int .i64 0] #[]) h R:=by
 obtain ⟨us,h1,h2,h3⟩ :=H.hs
 have hn:=k.hs
 have hu:=List.getElem?_eq_getElem (l:=us) (i:=i) (by omega)
 obtain ⟨hm,hl1,hl2⟩ :=k.at hi
 have htop:=k.top hi
 obtain ⟨ms,hs,ha⟩ :=h3 _ _ _ hu hm
 generalize us[i]=u at hu hs
 have hlen:((ms.length:Nat):Int) - 1=((m.at i).length - 1:Nat):=by have:=ha.1; omega
 obtain ⟨rp,op,e33,row33,_⟩ :=(h1 h b0).ix hu (n:=1) rfl (k:=.i64) (z:=(i:Int)) rfl
 have f33:∀{h'':Hp},Gr h h''→aF 1 (.pointer (some ⟨rp,op,none⟩)) h''=some (vH u):=fun g=>(row33.ch g fun e=>e).aF rfl
 have fin:∀(x':SH × SH) (M:List bQ) (r1 r2 r3 ro rw:Nat) (h':Hp),Cx (fun _=>False) h h' [rV r1 (Ji x),rV r2 Og,rV r3 (cW W0),rV ro (Ji x'),rV rw (cW (m.top i).w),aG M]→MO (B.and M) x' (m.xB t i ((m.at i).length - 1) (m.top i) true)→
  ∃ro' rw' x' M,cA ro=cA ro'∧cA rw=cA rw'∧Cx (fun _=>False) h h' [rV r1 (Ji x),rV r2 Og,rV r3 (cW W0),rV ro' (Ji x'),rV rw' (cW (m.top i).w),aG M]∧MO (B.and M) x' (m.xB t i ((m.at i).length - 1) (m.top i) true):=fun x' M r1 r2 r3 ro rw h' c ok=>⟨ro,rw,x',M,rfl,rfl,c,ok⟩
 unfold jU
 have c:=Cx.aA h
 refine c.v2 fun m5_ _ c=>?_
 refine c.v2 fun v10_ _ c=>?_
 refine c.v3 fun v11_ _ c=>?_
 refine c.rl 0 ?_
 refine cs.FW (B.up b0 c.gr) H k ht hi fun _ g=>?_
 have c:=c.more g
 refine vx (v:=.bool false) rfl<|bD<|MQ.at (fun o q h'=>∃ro rw x' M,o=cA ro∧q=cA rw∧Cx (fun _=>False) h h' [rV m5_ (Ji x),rV v10_ Og,rV v11_ (cW W0),rV ro (Ji x'),rV rw (cW (m.top i).w),aG M]∧MO (B.and M) x' (m.xB t i ((m.at i).length - 1) (m.top i) true)) ?_ ?_
 ·refine c.rl 0 ?_
  refine aD<|c.rc 0 ?_
  refine vx e33<|vx (f33 c.gr)<|c.rl 0 ?_
  refine ⟨?_,?_⟩
  ·refine cs.seen (B.up b0 c.gr) H k ht fun a Va _ g=>?_
   have c:=c.more g
   refine And.intro (f33 c.gr) ?_
   refine c.ac 0 ?_
   refine c.al 0 ?_
   refine ⟨?_,?_⟩
   ·refine cs.Ef (B.up b0 c.gr) Va fun _ q _ _ g=>?_
    have c:=c.more g
    refine And.intro (f33 c.gr) ?_
    refine c.ac 0 ?_
    refine c.al 0 ?_
    refine ⟨?_,?_⟩
    ·refine .inl (.inl ⟨_,_,_,rfl,cs.last (hs _ (B.up b0 c.gr)) (by have:=ha.1; omega) fun _ g=>?_⟩)
     have c:=c.more g
     rw [hlen]
     refine c.al 0 ?_
     refine ⟨?_,?_⟩
     ·refine cs.dI (B.up b0 c.gr) H k ht hi htop fun x' M _ d ok=>?_
      have c:=c.aE d
      replace c:=c.n4
      refine vx rfl<|vx rfl<|⟨?_,?_⟩
      ·refine c.v2 fun _ _ c=>?_
       refine c.v3 fun _ _ c=>?_
       refine c.w2 4 fun _ c=>?_
       refine c.w3 5 fun _ c=>?_
       exact fin _ M _ _ _ _ _ _ (c.pick [0,1,2,4,5,3]) ok
      ·refine c.v3 fun _ _ c=>?_
       refine c.v2 fun _ _ c=>?_
       refine c.w2 5 fun _ c=>?_
       refine c.w3 4 fun _ c=>?_
       exact fin _ M _ _ _ _ _ _ (c.pick [0,1,2,5,4,3]) ok
     ·refine ⟨?_,?_⟩
      ·refine c.v2 fun _ _ c=>?_
       refine c.al 0 ?_
       refine ⟨?_,?_⟩
       ·refine cs.dI (B.up b0 c.gr) H k ht hi htop fun x' M _ d ok=>?_
        have c:=c.aE d
        replace c:=c.n5
        refine vx rfl<|vx rfl<|c.v3 fun _ _ c=>?_
        refine c.w2 3 fun _ c=>?_
        refine c.w3 5 fun _ c=>?_
        exact fin _ M _ _ _ _ _ _ (c.pick [0,1,2,3,5,4]) ok
       ·refine c.v3 fun _ _ c=>?_
        refine c.al 0 ?_
        refine cs.dI (B.up b0 c.gr) H k ht hi htop fun x' M _ d ok=>?_
        have c:=c.aE d
        replace c:=c.n6
        refine vx rfl<|vx rfl<|c.w2 3 fun _ c=>?_
        refine c.w3 4 fun _ c=>?_
        exact fin _ M _ _ _ _ _ _ (c.pick [0,1,2,3,4,5]) ok
      ·refine c.v3 fun _ _ c=>?_
       refine c.al 0 ?_
       refine ⟨?_,?_⟩
       ·refine cs.dI (B.up b0 c.gr) H k ht hi htop fun x' M _ d ok=>?_
        have c:=c.aE d
        replace c:=c.n5
        refine vx rfl<|vx rfl<|c.v2 fun _ _ c=>?_
        refine c.w2 5 fun _ c=>?_
        refine c.w3 3 fun _ c=>?_
        exact fin _ M _ _ _ _ _ _ (c.pick [0,1,2,5,3,4]) ok
       ·refine c.v2 fun _ _ c=>?_
        refine c.al 0 ?_
        refine cs.dI (B.up b0 c.gr) H k ht hi htop fun x' M _ d ok=>?_
        have c:=c.aE d
        replace c:=c.n6
        refine vx rfl<|vx rfl<|c.w2 4 fun _ c=>?_
        refine c.w3 3 fun _ c=>?_
        exact fin _ M _ _ _ _ _ _ (c.pick [0,1,2,4,3,5]) ok
    ·refine ⟨?_,?_⟩
     ·refine c.v2 fun _ _ c=>?_
      refine And.intro (f33 c.gr) ?_
      refine c.ac 0 ?_
      refine c.al 0 ?_
      refine ⟨?_,?_⟩
      ·refine .inl (.inl ⟨_,_,_,rfl,cs.last (hs _ (B.up b0 c.gr)) (by have:=ha.1; omega) fun _ g=>?_⟩)
       have c:=c.more g
       rw [hlen]
       refine c.al 0 ?_
       refine ⟨?_,?_⟩
       ·refine cs.dI (B.up b0 c.gr) H k ht hi htop fun x' M _ d ok=>?_
        have c:=c.aE d
        replace c:=c.n5
        refine vx rfl<|vx rfl<|c.v3 fun _ _ c=>?_
        refine c.w2 3 fun _ c=>?_
        refine c.w3 5 fun _ c=>?_
        exact fin _ M _ _ _ _ _ _ (c.pick [0,1,2,3,5,4]) ok
       ·refine c.v3 fun _ _ c=>?_
        refine c.al 0 ?_
        refine cs.dI (B.up b0 c.gr) H k ht hi htop fun x' M _ d ok=>?_
        have c:=c.aE d
        replace c:=c.n6
        refine vx rfl<|vx rfl<|c.w2 3 fun _ c=>?_
        refine c.w3 4 fun _ c=>?_
        exact fin _ M _ _ _ _ _ _ (c.pick [0,1,2,3,4,5]) ok
      ·refine c.v3 fun _ _ c=>?_
       refine And.intro (f33 c.gr) ?_
       refine c.ac 0 ?_
       refine c.al 0 ?_
       refine .inl (.inl ⟨_,_,_,rfl,cs.last (hs _ (B.up b0 c.gr)) (by have:=ha.1; omega) fun _ g=>?_⟩)
       have c:=c.more g
       rw [hlen]
       refine c.al 0 ?_
       refine cs.dI (B.up b0 c.gr) H k ht hi htop fun x' M _ d ok=>?_
       have c:=c.aE d
       replace c:=c.n6
       refine vx rfl<|vx rfl<|c.w2 3 fun _ c=>?_
       refine c.w3 4 fun _ c=>?_
       exact fin _ M _ _ _ _ _ _ (c.pick [0,1,2,3,4,5]) ok
     ·refine c.v3 fun _ _ c=>?_
      refine And.intro (f33 c.gr) ?_
      refine c.ac 0 ?_
      refine c.al 0 ?_
      refine ⟨?_,?_⟩
      ·refine .inl (.inl ⟨_,_,_,rfl,cs.last (hs _ (B.up b0 c.gr)) (by have:=ha.1; omega) fun _ g=>?_⟩)
       have c:=c.more g
       rw [hlen]
       refine c.al 0 ?_
       refine ⟨?_,?_⟩
       ·refine cs.dI (B.up b0 c.gr) H k ht hi htop fun x' M _ d ok=>?_
        have c:=c.aE d
        replace c:=c.n5
        refine vx rfl<|vx rfl<|c.v2 fun _ _ c=>?_
        refine c.w2 5 fun _ c=>?_
        refine c.w3 3 fun _ c=>?_
        exact fin _ M _ _ _ _ _ _ (c.pick [0,1,2,5,3,4]) ok
       ·refine c.v2 fun _ _ c=>?_
        refine c.al 0 ?_
        refine cs.dI (B.up b0 c.gr) H k ht hi htop fun x' M _ d ok=>?_
        have c:=c.aE d
        replace c:=c.n6
        refine vx rfl<|vx rfl<|c.w2 4 fun _ c=>?_
        refine c.w3 3 fun _ c=>?_
        exact fin _ M _ _ _ _ _ _ (c.pick [0,1,2,4,3,5]) ok
      ·refine c.v2 fun _ _ c=>?_
       refine And.intro (f33 c.gr) ?_
       refine c.ac 0 ?_
       refine c.al 0 ?_
       refine .inl (.inl ⟨_,_,_,rfl,cs.last (hs _ (B.up b0 c.gr)) (by have:=ha.1; omega) fun _ g=>?_⟩)
       have c:=c.more g
       rw [hlen]
       refine c.al 0 ?_
       refine cs.dI (B.up b0 c.gr) H k ht hi htop fun x' M _ d ok=>?_
       have c:=c.aE d
       replace c:=c.n6
       refine vx rfl<|vx rfl<|c.w2 4 fun _ c=>?_
       refine c.w3 3 fun _ c=>?_
       exact fin _ M _ _ _ _ _ _ (c.pick [0,1,2,4,3,5]) ok
   ·refine ⟨?_,?_⟩
    ·refine c.v2 fun _ _ c=>?_
     refine And.intro (f33 c.gr) ?_
     refine c.ac 0 ?_
     refine c.al 0 ?_
     refine ⟨?_,?_⟩
     ·refine cs.Ef (B.up b0 c.gr) Va fun _ q _ _ g=>?_
      have c:=c.more g
      refine And.intro (f33 c.gr) ?_
      refine c.ac 0 ?_
      refine c.al 0 ?_
      refine ⟨?_,?_⟩
      ·refine .inl (.inl ⟨_,_,_,rfl,cs.last (hs _ (B.up b0 c.gr)) (by have:=ha.1; omega) fun _ g=>?_⟩)
       have c:=c.more g
       rw [hlen]
       refine c.al 0 ?_
       refine ⟨?_,?_⟩
       ·refine cs.dI (B.up b0 c.gr) H k ht hi htop fun x' M _ d ok=>?_
        have c:=c.aE d
        replace c:=c.n5
        refine vx rfl<|vx rfl<|c.v3 fun _ _ c=>?_
        refine c.w2 3 fun _ c=>?_
        refine c.w3 5 fun _ c=>?_
        exact fin _ M _ _ _ _ _ _ (c.pick [0,1,2,3,5,4]) ok
       ·refine c.v3 fun _ _ c=>?_
        refine c.al 0 ?_
        refine cs.dI (B.up b0 c.gr) H k ht hi htop fun x' M _ d ok=>?_
        have c:=c.aE d
        replace c:=c.n6
        refine vx rfl<|vx rfl<|c.w2 3 fun _ c=>?_
        refine c.w3 4 fun _ c=>?_
        exact fin _ M _ _ _ _ _ _ (c.pick [0,1,2,3,4,5]) ok
      ·refine c.v3 fun _ _ c=>?_
       refine And.intro (f33 c.gr) ?_
       refine c.ac 0 ?_
       refine c.al 0 ?_
       refine .inl (.inl ⟨_,_,_,rfl,cs.last (hs _ (B.up b0 c.gr)) (by have:=ha.1; omega) fun _ g=>?_⟩)
       have c:=c.more g
       rw [hlen]
       refine c.al 0 ?_
       refine cs.dI (B.up b0 c.gr) H k ht hi htop fun x' M _ d ok=>?_
       have c:=c.aE d
       replace c:=c.n6
       refine vx rfl<|vx rfl<|c.w2 3 fun _ c=>?_
       refine c.w3 4 fun _ c=>?_
       exact fin _ M _ _ _ _ _ _ (c.pick [0,1,2,3,4,5]) ok
     ·refine c.v3 fun _ _ c=>?_
      refine And.intro (f33 c.gr) ?_
      refine c.ac 0 ?_
      refine c.al 0 ?_
      refine cs.Ef (B.up b0 c.gr) Va fun _ q _ _ g=>?_
      have c:=c.more g
      refine And.intro (f33 c.gr) ?_
      refine c.ac 0 ?_
      refine c.al 0 ?_
      refine .inl (.inl ⟨_,_,_,rfl,cs.last (hs _ (B.up b0 c.gr)) (by have:=ha.1; omega) fun _ g=>?_⟩)
      have c:=c.more g
      rw [hlen]
      refine c.al 0 ?_
      refine cs.dI (B.up b0 c.gr) H k ht hi htop fun x' M _ d ok=>?_
      have c:=c.aE d
      replace c:=c.n6
      refine vx rfl<|vx rfl<|c.w2 3 fun _ c=>?_
      refine c.w3 4 fun _ c=>?_
      exact fin _ M _ _ _ _ _ _ (c.pick [0,1,2,3,4,5]) ok
    ·refine c.v3 fun _ _ c=>?_
     refine And.intro (f33 c.gr) ?_
     refine c.ac 0 ?_
     refine c.al 0 ?_
     refine ⟨?_,?_⟩
     ·refine cs.Ef (B.up b0 c.gr) Va fun _ q _ _ g=>?_
      have c:=c.more g
      refine And.intro (f33 c.gr) ?_
      refine c.ac 0 ?_
      refine c.al 0 ?_
      refine ⟨?_,?_⟩
      ·refine .inl (.inl ⟨_,_,_,rfl,cs.last (hs _ (B.up b0 c.gr)) (by have:=ha.1; omega) fun _ g=>?_⟩)
       have c:=c.more g
       rw [hlen]
       refine c.al 0 ?_
       refine ⟨?_,?_⟩
       ·refine cs.dI (B.up b0 c.gr) H k ht hi htop fun x' M _ d ok=>?_
        have c:=c.aE d
        replace c:=c.n5
        refine vx rfl<|vx rfl<|c.v2 fun _ _ c=>?_
        refine c.w2 5 fun _ c=>?_
        refine c.w3 3 fun _ c=>?_
        exact fin _ M _ _ _ _ _ _ (c.pick [0,1,2,5,3,4]) ok
       ·refine c.v2 fun _ _ c=>?_
        refine c.al 0 ?_
        refine cs.dI (B.up b0 c.gr) H k ht hi htop fun x' M _ d ok=>?_
        have c:=c.aE d
        replace c:=c.n6
        refine vx rfl<|vx rfl<|c.w2 4 fun _ c=>?_
        refine c.w3 3 fun _ c=>?_
        exact fin _ M _ _ _ _ _ _ (c.pick [0,1,2,4,3,5]) ok
      ·refine c.v2 fun _ _ c=>?_
       refine And.intro (f33 c.gr) ?_
       refine c.ac 0 ?_
       refine c.al 0 ?_
       refine .inl (.inl ⟨_,_,_,rfl,cs.last (hs _ (B.up b0 c.gr)) (by have:=ha.1; omega) fun _ g=>?_⟩)
       have c:=c.more g
       rw [hlen]
       refine c.al 0 ?_
       refine cs.dI (B.up b0 c.gr) H k ht hi htop fun x' M _ d ok=>?_
       have c:=c.aE d
       replace c:=c.n6
       refine vx rfl<|vx rfl<|c.w2 4 fun _ c=>?_
       refine c.w3 3 fun _ c=>?_
       exact fin _ M _ _ _ _ _ _ (c.pick [0,1,2,4,3,5]) ok
     ·refine c.v2 fun _ _ c=>?_
      refine And.intro (f33 c.gr) ?_
      refine c.ac 0 ?_
      refine c.al 0 ?_
      refine cs.Ef (B.up b0 c.gr) Va fun _ q _ _ g=>?_
      have c:=c.more g
      refine And.intro (f33 c.gr) ?_
      refine c.ac 0 ?_
      refine c.al 0 ?_
      refine .inl (.inl ⟨_,_,_,rfl,cs.last (hs _ (B.up b0 c.gr)) (by have:=ha.1; omega) fun _ g=>?_⟩)
      have c:=c.more g
      rw [hlen]
      refine c.al 0 ?_
      refine cs.dI (B.up b0 c.gr) H k ht hi htop fun x' M _ d ok=>?_
      have c:=c.aE d
      replace c:=c.n6
      refine vx rfl<|vx rfl<|c.w2 4 fun _ c=>?_
      refine c.w3 3 fun _ c=>?_
      exact fin _ M _ _ _ _ _ _ (c.pick [0,1,2,4,3,5]) ok
  ·refine ⟨?_,?_⟩
   ·refine c.v2 fun _ _ c=>?_
    refine c.al 0 ?_
    refine And.intro (f33 c.gr) ?_
    refine c.ac 0 ?_
    refine c.al 0 ?_
    refine ⟨?_,?_⟩
    ·refine cs.seen (B.up b0 c.gr) H k ht fun a Va _ g=>?_
     have c:=c.more g
     refine And.intro (f33 c.gr) ?_
     refine c.ac 0 ?_
     refine c.al 0 ?_
     refine ⟨?_,?_⟩
     ·refine cs.Ef (B.up b0 c.gr) Va fun _ q _ _ g=>?_
      have c:=c.more g
      refine And.intro (f33 c.gr) ?_
      refine c.ac 0 ?_
      refine c.al 0 ?_
      refine ⟨?_,?_⟩
      ·refine .inl (.inl ⟨_,_,_,rfl,cs.last (hs _ (B.up b0 c.gr)) (by have:=ha.1; omega) fun _ g=>?_⟩)
       have c:=c.more g
       rw [hlen]
       refine c.al 0 ?_
       refine ⟨?_,?_⟩
       ·refine cs.dI (B.up b0 c.gr) H k ht hi htop fun x' M _ d ok=>?_
        have c:=c.aE d
        replace c:=c.n5
        refine vx rfl<|vx rfl<|c.v3 fun _ _ c=>?_
        refine c.w2 3 fun _ c=>?_
        refine c.w3 5 fun _ c=>?_
        exact fin _ M _ _ _ _ _ _ (c.pick [0,1,2,3,5,4]) ok
       ·refine c.v3 fun _ _ c=>?_
        refine c.al 0 ?_
        refine cs.dI (B.up b0 c.gr) H k ht hi htop fun x' M _ d ok=>?_
        have c:=c.aE d
        replace c:=c.n6
        refine vx rfl<|vx rfl<|c.w2 3 fun _ c=>?_
        refine c.w3 4 fun _ c=>?_
        exact fin _ M _ _ _ _ _ _ (c.pick [0,1,2,3,4,5]) ok
      ·refine c.v3 fun _ _ c=>?_
       refine And.intro (f33 c.gr) ?_
       refine c.ac 0 ?_
       refine c.al 0 ?_
       refine .inl (.inl ⟨_,_,_,rfl,cs.last (hs _ (B.up b0 c.gr)) (by have:=ha.1; omega) fun _ g=>?_⟩)
       have c:=c.more g
       rw [hlen]
       refine c.al 0 ?_
       refine cs.dI (B.up b0 c.gr) H k ht hi htop fun x' M _ d ok=>?_
       have c:=c.aE d
       replace c:=c.n6
       refine vx rfl<|vx rfl<|c.w2 3 fun _ c=>?_
       refine c.w3 4 fun _ c=>?_
       exact fin _ M _ _ _ _ _ _ (c.pick [0,1,2,3,4,5]) ok
     ·refine c.v3 fun _ _ c=>?_
      refine And.intro (f33 c.gr) ?_
      refine c.ac 0 ?_
      refine c.al 0 ?_
      refine cs.Ef (B.up b0 c.gr) Va fun _ q _ _ g=>?_
      have c:=c.more g
      refine And.intro (f33 c.gr) ?_
      refine c.ac 0 ?_
      refine c.al 0 ?_
      refine .inl (.inl ⟨_,_,_,rfl,cs.last (hs _ (B.up b0 c.gr)) (by have:=ha.1; omega) fun _ g=>?_⟩)
      have c:=c.more g
      rw [hlen]
      refine c.al 0 ?_
      refine cs.dI (B.up b0 c.gr) H k ht hi htop fun x' M _ d ok=>?_
      have c:=c.aE d
      replace c:=c.n6
      refine vx rfl<|vx rfl<|c.w2 3 fun _ c=>?_
      refine c.w3 4 fun _ c=>?_
      exact fin _ M _ _ _ _ _ _ (c.pick [0,1,2,3,4,5]) ok
    ·refine c.v3 fun _ _ c=>?_
     refine c.al 0 ?_
     refine And.intro (f33 c.gr) ?_
     refine c.ac 0 ?_
     refine c.al 0 ?_
     refine cs.seen (B.up b0 c.gr) H k ht fun a Va _ g=>?_
     have c:=c.more g
     refine And.intro (f33 c.gr) ?_
     refine c.ac 0 ?_
     refine c.al 0 ?_
     refine cs.Ef (B.up b0 c.gr) Va fun _ q _ _ g=>?_
     have c:=c.more g
     refine And.intro (f33 c.gr) ?_
     refine c.ac 0 ?_
     refine c.al 0 ?_
     refine .inl (.inl ⟨_,_,_,rfl,cs.last (hs _ (B.up b0 c.gr)) (by have:=ha.1; omega) fun _ g=>?_⟩)
     have c:=c.more g
     rw [hlen]
     refine c.al 0 ?_
     refine cs.dI (B.up b0 c.gr) H k ht hi htop fun x' M _ d ok=>?_
     have c:=c.aE d
     replace c:=c.n6
     refine vx rfl<|vx rfl<|c.w2 3 fun _ c=>?_
     refine c.w3 4 fun _ c=>?_
     exact fin _ M _ _ _ _ _ _ (c.pick [0,1,2,3,4,5]) ok
   ·refine c.v3 fun _ _ c=>?_
    refine c.al 0 ?_
    refine And.intro (f33 c.gr) ?_
    refine c.ac 0 ?_
    refine c.al 0 ?_
    refine ⟨?_,?_⟩
    ·refine cs.seen (B.up b0 c.gr) H k ht fun a Va _ g=>?_
     have c:=c.more g
     refine And.intro (f33 c.gr) ?_
     refine c.ac 0 ?_
     refine c.al 0 ?_
     refine ⟨?_,?_⟩
     ·refine cs.Ef (B.up b0 c.gr) Va fun _ q _ _ g=>?_
      have c:=c.more g
      refine And.intro (f33 c.gr) ?_
      refine c.ac 0 ?_
      refine c.al 0 ?_
      refine ⟨?_,?_⟩
      ·refine .inl (.inl ⟨_,_,_,rfl,cs.last (hs _ (B.up b0 c.gr)) (by have:=ha.1; omega) fun _ g=>?_⟩)
       have c:=c.more g
       rw [hlen]
       refine c.al 0 ?_
       refine ⟨?_,?_⟩
       ·refine cs.dI (B.up b0 c.gr) H k ht hi htop fun x' M _ d ok=>?_
        have c:=c.aE d
        replace c:=c.n5
        refine vx rfl<|vx rfl<|c.v2 fun _ _ c=>?_
        refine c.w2 5 fun _ c=>?_
        refine c.w3 3 fun _ c=>?_
        exact fin _ M _ _ _ _ _ _ (c.pick [0,1,2,5,3,4]) ok
       ·refine c.v2 fun _ _ c=>?_
        refine c.al 0 ?_
        refine cs.dI (B.up b0 c.gr) H k ht hi htop fun x' M _ d ok=>?_
        have c:=c.aE d
        replace c:=c.n6
        refine vx rfl<|vx rfl<|c.w2 4 fun _ c=>?_
        refine c.w3 3 fun _ c=>?_
        exact fin _ M _ _ _ _ _ _ (c.pick [0,1,2,4,3,5]) ok
      ·refine c.v2 fun _ _ c=>?_
       refine And.intro (f33 c.gr) ?_
       refine c.ac 0 ?_
       refine c.al 0 ?_
       refine .inl (.inl ⟨_,_,_,rfl,cs.last (hs _ (B.up b0 c.gr)) (by have:=ha.1; omega) fun _ g=>?_⟩)
       have c:=c.more g
       rw [hlen]
       refine c.al 0 ?_
       refine cs.dI (B.up b0 c.gr) H k ht hi htop fun x' M _ d ok=>?_
       have c:=c.aE d
       replace c:=c.n6
       refine vx rfl<|vx rfl<|c.w2 4 fun _ c=>?_
       refine c.w3 3 fun _ c=>?_
       exact fin _ M _ _ _ _ _ _ (c.pick [0,1,2,4,3,5]) ok
     ·refine c.v2 fun _ _ c=>?_
      refine And.intro (f33 c.gr) ?_
      refine c.ac 0 ?_
      refine c.al 0 ?_
      refine cs.Ef (B.up b0 c.gr) Va fun _ q _ _ g=>?_
      have c:=c.more g
      refine And.intro (f33 c.gr) ?_
      refine c.ac 0 ?_
      refine c.al 0 ?_
      refine .inl (.inl ⟨_,_,_,rfl,cs.last (hs _ (B.up b0 c.gr)) (by have:=ha.1; omega) fun _ g=>?_⟩)
      have c:=c.more g
      rw [hlen]
      refine c.al 0 ?_
      refine cs.dI (B.up b0 c.gr) H k ht hi htop fun x' M _ d ok=>?_
      have c:=c.aE d
      replace c:=c.n6
      refine vx rfl<|vx rfl<|c.w2 4 fun _ c=>?_
      refine c.w3 3 fun _ c=>?_
      exact fin _ M _ _ _ _ _ _ (c.pick [0,1,2,4,3,5]) ok
    ·refine c.v2 fun _ _ c=>?_
     refine c.al 0 ?_
     refine And.intro (f33 c.gr) ?_
     refine c.ac 0 ?_
     refine c.al 0 ?_
     refine cs.seen (B.up b0 c.gr) H k ht fun a Va _ g=>?_
     have c:=c.more g
     refine And.intro (f33 c.gr) ?_
     refine c.ac 0 ?_
     refine c.al 0 ?_
     refine cs.Ef (B.up b0 c.gr) Va fun _ q _ _ g=>?_
     have c:=c.more g
     refine And.intro (f33 c.gr) ?_
     refine c.ac 0 ?_
     refine c.al 0 ?_
     refine .inl (.inl ⟨_,_,_,rfl,cs.last (hs _ (B.up b0 c.gr)) (by have:=ha.1; omega) fun _ g=>?_⟩)
     have c:=c.more g
     rw [hlen]
     refine c.al 0 ?_
     refine cs.dI (B.up b0 c.gr) H k ht hi htop fun x' M _ d ok=>?_
     have c:=c.aE d
     replace c:=c.n6
     refine vx rfl<|vx rfl<|c.w2 4 fun _ c=>?_
     refine c.w3 3 fun _ c=>?_
     exact fin _ M _ _ _ _ _ _ (c.pick [0,1,2,4,3,5]) ok
 ·rintro _ _ h7 ⟨ro,rw,x',M,rfl,rfl,c,ok⟩
  replace c:=c.n6
  refine c.rl 3 ?_
  refine c.rl 4 ?_
  refine c.w2 1 fun _ c=>?_
  refine c.al 4 ?_
  refine c.w3 2 fun _ c=>?_
  refine c.rl 1 ?_
  refine c.rl 2 ?_
  exact hR x' M _ (c.pick [5]) ok
theorem MG {us:List SH} {u:SH} (cs:Y1 S I) (b0:B.p h) (H:MO B x m) (k:Mk T n b m) (hi:i<n) (h1:On B fun h=>Sl xE h (aX x.1) us) (hu:us[i]?=some u) (hR:∀h',Gr h h'→R (.tuple #[vH u,.bool true]) h'):m0 S I (s7 x) (.int .i64 i) h R:=by
 unfold m0
 have c:=Cx.aA h
 refine c.v2 fun _ _ c=>?_
 refine c.v1 fun _ _ c=>?_
 refine c.rl 0 ?_
 refine cs.place (B.up b0 c.gr) H k hi fun _ g=>?_
 have c:=c.more g
 refine vx (v:=.bool false) (rfl)<|bD<|aD<|c.rc 0 ?_
 refine (h1 _ (B.up b0 c.gr)).whole rfl hu rfl ?_
 refine c.w1 1 fun _ c=>?_
 refine c.rl 1 ?_
 exact hR _ c.gr
structure XX (S:Sys) (I:aZ):Prop extends Y1 S I where
 look:∀{B:Bs} {T n b t i:Nat} {x:SH × SH} {m:Me} {h R},B.p h→MO B x m→Mk T n b m→b≤1000000→(1≤t∧t≤T)→i<n→
  (∀x',Rt B h (fun B=>MO B x' (m.xB t i ((m.at i).length - 1) (m.top i) true)) fun h'=>R (.tuple #[s7 x',mW (m.top i).w,.int .i64 0]) h')→S.C I.gP [s7 x,.int .i64 t,.int .i64 i,.bool true,.func (.func I.gV) #[.int .i64 0] #[]] h R
 X9:∀{B:Bs} {T n b i:Nat} {x:SH × SH} {m:Me} {us:List SH} {u:SH} {h R},B.p h→MO B x m→Mk T n b m→i<n→(On B fun h=>Sl xE h (aX x.1) us)→us[i]?=some u→(∀h',Gr h h'→R (.tuple #[vH u,.bool true]) h')→S.C I.kw [s7 x,.int .i64 i] h R
theorem VL (cs:XX S I) (b0:B.p h) (H:MO B x m) (k:Mk T n b m) (hb:b≤1000000) (ht:1≤t∧t≤T) (hi:i<n)
  (hR:∀x',Rt B h (fun B=>MO B x' (m.xB t i ((m.at i).length - 1) (m.top i) true)) fun h'=>R (.tuple #[s7 x',mW (m.top i).w,.int .i64 0]) h'):oW S I (s7 x) (.int .i64 t) (.int .i64 i) h R:=by
 unfold oW
 have c:=Cx.aA h
 refine c.v2 fun _ _ c=>?_
 refine c.v2 fun _ _ c=>?_
 refine c.v3 fun _ _ c=>?_
 refine c.rl 0 ?_
 refine vx rfl<|cs.look (B.up b0 c.gr) H k hb ht hi fun x' M _ d ok=>?_
 have c:=c.aE d
 replace c:=c.n4
 refine c.X6 1 2 fun _ c=>?_
 exact hR x' M _ (c.pick [3]) ok
theorem QN (cs:XX S I) (b0:B.p h) (H:MO B x m) (k:Mk T n b m) (hb:b≤1000000) (hi:i<n) (hR:∀h',Gr h h'→R (.tuple #[mW (m.top i).w,.bool true]) h'):pz S I (s7 x) (.int .i64 i) h R:=by
 obtain ⟨us,h1,h2,h3⟩ :=H.hs
 have hn:=k.hs
 have hu:=List.getElem?_eq_getElem (l:=us) (i:=i) (by omega)
 obtain ⟨hm,hl1,hl2⟩ :=k.at hi
 have htop:=k.top hi
 obtain ⟨ms,hs,ha⟩ :=h3 _ _ _ hu hm
 generalize us[i]=u at hu hs
 have hl:ms.length=(m.at i).length:=ha.1
 have hms:=List.getElem?_eq_getElem (l:=ms) (i:=(m.at i).length - 1) (by omega)
 have hw:=(ha.2 _ _ _ hms htop).1
 generalize ms[(m.at i).length - 1]'(by omega)=l at hms hw
 have hdec:ms=ms.dropLast++[l]:=by
  have hne:ms≠[]:=fun e=>by rw [e] at hl; simp at hl; omega
  have h9:=List.dropLast_concat_getLast hne
  have h8:ms.getLast hne=l:=by
   have:=List.getLast?_eq_some_getLast hne
   rw [List.getLast?_eq_getElem?,hl,hms] at this
   injection this with this
   exact this.symm
  rw [h8] at h9
  exact h9.symm
 rw [←hw] at hR
 rw [hdec] at hs
 have hl5:ms.dropLast.length≤1000000:=by rw [List.length_dropLast]; omega
 generalize ms.dropLast=ms0 at hs hl5
 unfold pz
 have c:=Cx.aA h
 refine c.v2 fun _ _ c=>?_
 refine c.v3 fun _ _ c=>?_
 refine c.rl 0 ?_
 refine cs.X9 (B.up b0 c.gr) H k hi h1 hu fun _ g=>?_
 have c:=c.more g
 refine vx rfl<|vx rfl<|c.v1 fun _ _ c=>?_
 refine c.w1 2 fun _ c=>?_
 refine c.rl 2 ?_
 refine cs.SL (hs _ (B.up b0 c.gr)) hl5 fun _ g=>?_
 have c:=c.more g
 refine vx (v:=mW l.w) (by kernel_rfl)<|c.w3 1 fun _ c=>?_
 refine c.rl 1 ?_
 exact hR _ c.gr
end
end Go.En
namespace Go.En
variable {S:Sys} {I:aZ} {h h0 h':Hp} {F F0:Fp} {R:Value→Hp→Prop} {L:List bQ} {B B':Bs}
section
variable {T n b t i:Nat} {x:SH × SH} {m:Me} {w:W3} {am:AM}
theorem z8 {α:Type}:∀{l:List α} {i:Nat} (y:α),i<l.length→l.take i++[y]++l.drop (i+1)=l.set i y
 | [],i,y,h=>by simp at h
 | a::l,0,y,h=>by simp
 | a::l,i+1,y,h=>by simpa using z8 (l:=l) (i:=i) y (by simpa using h)
theorem MO.Tf {Ms:List bQ} {us:List SH} {vs:List (Option Nat)} {u' u2 u3:SH} {ms:List Df} {a a2:Option Nat} {f g:Int→Int} (hi:i<us.length) (h2:us.length=m.hs.length) (h3:∀(i:Nat) (u:SH) (asn:List AM),us[i]?=some u→m.hs[i]?=some asn→HO B u asn)
  (v2:vs.length=m.vs.length) (v3:∀(i:Nat) (a:Option Nat) (f:Int→Int),vs[i]?=some a→m.vs[i]?=some f→VO B a f) (ht:t - 1<vs.length) (ha:Al B ms (m.at i)) (Va:VO (B.and Ms) a f) (Vt:VO (B.and Ms) a2 g) {tt:Int}
  (s1:On (B.and Ms) fun h=>Sl wH h (aX u') (ms++[⟨w,tt,a2⟩])) (s2:On (B.and Ms) fun h=>Sl xE h (aX u2) (us.take i++[u']++us.drop (i+1))) (s3:On (B.and Ms) fun h=>Sl EM h (aX u3) (vs.set (t - 1) a)) :
  MO (B.and Ms) (u2,u3) {hs:=m.hs.set i (m.at i++[⟨w,g⟩]),vs:=m.vs.set (t - 1) f}:=by
 have lb:=Bs.aR B Ms
 rw [z8 u' hi] at s2
 refine ⟨⟨vs.set (t - 1) a,s3,by rw [List.length_set,List.length_set,v2],fun j y e hy he=>?_⟩,⟨us.set i u',s2,by rw [List.length_set,List.length_set,h2],fun j y e hy he=>?_⟩⟩
 ·have he:(m.vs.set (t - 1) f)[j]?=some e:=he
  rw [List.getElem?_set] at hy he
  by_cases e1:t - 1=j
  ·rw [if_pos e1,if_pos (by omega)] at hy he
   injection hy with hy; injection he with he
   subst hy he
   exact Va
  ·rw [if_neg e1] at hy he
   exact (v3 j y e hy he).le lb
 ·have he:(m.hs.set i (m.at i++[⟨w,g⟩]))[j]?=some e:=he
  rw [List.getElem?_set] at hy he
  by_cases e1:i=j
  ·rw [if_pos e1,if_pos (by omega)] at hy he
   injection hy with hy; injection he with he
   subst hy he
   refine ⟨_,s1,by rw [List.length_append,List.length_append,ha.1,List.length_singleton,List.length_singleton],fun p q r hq hr=>?_⟩
   by_cases hp:p<ms.length
   ·rw [List.getElem?_append_left hp] at hq
    rw [List.getElem?_append_left (by rw [←ha.1]; exact hp)] at hr
    exact ⟨(ha.2 p q r hq hr).1,(ha.2 p q r hq hr).2.le lb⟩
   ·rw [List.getElem?_append_right (by omega)] at hq
    rw [List.getElem?_append_right (by have:=ha.1; omega),←ha.1] at hr
    cases hz:p - ms.length with
    | zero=>
     rw [hz] at hq hr
     simp only [List.getElem?_cons_zero,Option.some.injEq] at hq hr
     subst hq hr
     exact ⟨rfl,Vt⟩
    | succ z=>rw [hz] at hq; simp at hq
  ·rw [if_neg e1] at hy he
   exact (h3 j y e hy he).le lb
theorem Ui (cs:XX S I) (b0:B.p h) (H:MO B x m) (k:Mk T n b m) (hb:b≤900000) (ht:1≤t∧t≤T) (hi:i<n) {wl:Bool}
  (hR:∀x',Rt B h (fun B=>MO B x' (m.add t i w wl)) fun h'=>R (s7 x') h'):mg S I (s7 x) (.int .i64 t) (.int .i64 i) (mW w) (.bool wl) h R:=by
 obtain ⟨us,h1,h2,h3⟩ :=H.hs
 obtain ⟨vs,v1,v2,v3⟩ :=id H.vs
 have hn:=k.hs
 have hT:=k.vs
 have hle:=k.le
 have hu:=List.getElem?_eq_getElem (l:=us) (i:=i) (by omega)
 obtain ⟨hm,hl1,hl2⟩ :=k.at hi
 obtain ⟨ms,hs,ha⟩ :=h3 _ _ _ hu hm
 generalize us[i]=u at hu hs
 have hml:ms.length=(m.at i).length:=ha.1
 obtain ⟨vr,er,Hr,_⟩ :=(h1 h b0).sub (n:=1) rfl (lo:=some (.int .i64 ((i:Int)+1))) (hi:=none) (l:=i+1) (.inr ⟨_,_,rfl,by omega⟩) (.inl ⟨rfl,rfl⟩) (by omega) (Nat.le_refl _)
 rw [List.take_length] at Hr
 obtain ⟨ac,ec,Hc⟩ :=(h1 h b0).clip (n:=1) (k:=.i64) (k':=.i64) rfl (z:=(i:Int)) rfl (by omega:i≤us.length)
 have hlt2:(us.take i).length=i:=by rw [List.length_take]; omega
 have fin:∀(a:Option Nat) (M:List bQ) (r1 r2 r3 r4 ro:Nat) (h':Hp),Cx (fun _=>False) h h' [rV r1 (Ji x),rV r2 (cW w),rV r3 Og,rV r4 [aX u],rV ro [.map a],aG M]→VO (B.and M) a (rz (m.view t) i (m.at i).length)→
  ∃ro' a M,cA ro=cA ro'∧Cx (fun _=>False) h h' [rV r1 (Ji x),rV r2 (cW w),rV r3 Og,rV r4 [aX u],rV ro' [.map a],aG M]∧VO (B.and M) a (rz (m.view t) i (m.at i).length):=fun a M r1 r2 r3 r4 ro h' c ok=>⟨ro,a,M,rfl,c,ok⟩
 cases wl with
 | true=>
  unfold mg
  have c:=Cx.aA h
  refine c.v2 fun m5_ _ c=>?_
  refine c.v3 fun w8_ _ c=>?_
  refine c.v2 fun v10_ _ c=>?_
  refine aD<|c.rc 0 ?_
  refine (h1 _ (B.up b0 c.gr)).whole rfl hu rfl ?_
  refine c.v1 fun x11_ _ c=>?_
  refine c.w1 3 fun _ c=>?_
  refine lq.at (fun v h'=>∃ro a M,v=cA ro∧Cx (fun _=>False) h h' [rV m5_ (Ji x),rV w8_ (cW w),rV v10_ Og,rV x11_ [aX u],rV ro [.map a],aG M]∧VO (B.and M) a (rz (m.view t) i (m.at i).length)) ?_ ?_
  ·refine c.rl 0 ?_
   refine c.rl 3 ?_
   refine ⟨?_,?_⟩
   ·refine cs.seen (B.up b0 c.gr) H k ht fun a Va _ g=>?_
    have c:=c.more g
    refine c.al 3 ?_
    refine ⟨?_,?_⟩
    ·refine cs.Gt (hs _ (B.up b0 c.gr)) fun _ g=>?_
     have c:=c.more g
     rw [hml]
     refine ⟨?_,?_⟩
     ·refine cs.xG (B.up b0 c.gr) Va ⟨by omega,by omega⟩ (Int.natCast_nonneg _) fun a2 M _ d ok=>?_
      have c:=c.aE d
      replace c:=c.n5
      refine c.v1 fun _ _ c=>?_
      refine c.w1 5 fun _ c=>?_
      exact fin _ M _ _ _ _ _ _ (c.pick [0,1,2,3,5,4]) ok
     ·refine c.v1 fun _ _ c=>?_
      refine cs.xG (B.up b0 c.gr) Va ⟨by omega,by omega⟩ (Int.natCast_nonneg _) fun a2 M _ d ok=>?_
      have c:=c.aE d
      replace c:=c.n6
      refine c.w1 4 fun _ c=>?_
      exact fin _ M _ _ _ _ _ _ (c.pick [0,1,2,3,4,5]) ok
    ·refine c.v1 fun _ _ c=>?_
     refine c.al 3 ?_
     refine cs.Gt (hs _ (B.up b0 c.gr)) fun _ g=>?_
     have c:=c.more g
     rw [hml]
     refine cs.xG (B.up b0 c.gr) Va ⟨by omega,by omega⟩ (Int.natCast_nonneg _) fun a2 M _ d ok=>?_
     have c:=c.aE d
     replace c:=c.n6
     refine c.w1 4 fun _ c=>?_
     exact fin _ M _ _ _ _ _ _ (c.pick [0,1,2,3,4,5]) ok
   ·refine c.v1 fun _ _ c=>?_
    refine c.al 3 ?_
    refine c.al 0 ?_
    refine cs.seen (B.up b0 c.gr) H k ht fun a Va _ g=>?_
    have c:=c.more g
    refine c.al 3 ?_
    refine cs.Gt (hs _ (B.up b0 c.gr)) fun _ g=>?_
    have c:=c.more g
    rw [hml]
    refine cs.xG (B.up b0 c.gr) Va ⟨by omega,by omega⟩ (Int.natCast_nonneg _) fun a2 M _ d ok=>?_
    have c:=c.aE d
    replace c:=c.n6
    refine c.w1 4 fun _ c=>?_
    exact fin _ M _ _ _ _ _ _ (c.pick [0,1,2,3,4,5]) ok
  ·rintro _ h6 ⟨ro,a,M,rfl,c,ok⟩
   replace c:=c.n6
   refine c.rl 4 ?_
   refine c.v1 fun _ _ c=>?_
   refine c.w1 6 fun _ c=>?_
   refine .here<|vx (v:=.bool false) (rfl)<|bD<|aD<|c.rc 0 ?_
   refine vx (qV ⟨by omega,by omega⟩)<|vx er<|aD<|c.rc 0 ?_
   refine vx ec<|c.rl 3 ?_
   refine c.rl 1 ?_
   refine c.rl 6 ?_
   refine vx (aL (ds:=[_,_,_,_,_]) rfl)<|cs.hAdd (m:=⟨w,t,a⟩) (hs _ (B.up b0 c.gr)) (by omega) fun u' _ d=>?_
   have c:=c.aE d
   replace c:=c.n8
   refine c.ac 0 ?_
   refine c.jE xE u' rfl rfl fun v52 _ c=>?_
   replace c:=c.n9
   refine c.ac 0 ?_
   refine c.Nu (Hc.gr c.gr) (c.sl (i:=8) rfl).sl (by simp) rfl rfl (by rw [hlt2,List.length_singleton]; omega) (by rw [hlt2,List.length_singleton]; omega) fun v53 _ c=>?_
   replace c:=c.Wq
   refine c.ap 9 rfl (Hr.gr c.gr) rfl rfl (by simp only [List.length_append,List.length_take,List.length_drop,List.length_singleton]; omega) (by simp only [List.length_append,List.length_take,List.length_drop,List.length_singleton]; omega) fun v56 _ c=>?_
   obtain ⟨u2,rfl⟩ :=(c.sl (i:=9) rfl).vO
   replace c:=c.Wq
   refine aD<|c.q2 0 fun _ c=>?_
   refine c.rl 0 ?_
   refine c.rl 4 ?_
   refine cs.Sx (x:=(u2,x.2)) (t:=t) (v1 _ (B.up b0 c.gr)) (by omega) ⟨ht.1,by omega⟩ fun u3 _ d=>?_
   have c:=c.aE d
   replace c:=c.n11
   refine c.w2 2 fun _ c=>?_
   refine c.rl 2 ?_
   refine hR (u2,u3) [aG M,dA wH (aX u') (ms++[(⟨w,t,a⟩:Df)]),dA xE (aX u2) (us.take i++[u']++us.drop (i+1)),dA EM (aX u3) (vs.set (t - 1) a)] _ (Cx.pack (L:=[]) (c.pick [5,7,9,10])) ?_
   have Va:VO (B.and [aG M,dA wH (aX u') (ms++[(⟨w,t,a⟩:Df)]),dA xE (aX u2) (us.take i++[u']++us.drop (i+1)),dA EM (aX u3) (vs.set (t - 1) a)]) a (rz (m.view t) i (m.at i).length):=ok.le fun h b=>⟨b.1,Bs.star b (i:=0) rfl⟩
   exact MO.Tf (by omega) h2 h3 v2 v3 (by omega) ha Va Va (On.sl (i:=1) rfl) (On.sl (i:=2) rfl) (On.sl (i:=3) rfl)
 | false=>
  unfold mg
  have c:=Cx.aA h
  refine c.v2 fun m5_ _ c=>?_
  refine c.v3 fun w8_ _ c=>?_
  refine c.v2 fun v10_ _ c=>?_
  refine aD<|c.rc 0 ?_
  refine (h1 _ (B.up b0 c.gr)).whole rfl hu rfl ?_
  refine c.v1 fun x11_ _ c=>?_
  refine c.w1 3 fun _ c=>?_
  refine lq.at (fun v h'=>∃ro a M,v=cA ro∧Cx (fun _=>False) h h' [rV m5_ (Ji x),rV w8_ (cW w),rV v10_ Og,rV x11_ [aX u],rV ro [.map a],aG M]∧VO (B.and M) a (rz (m.view t) i (m.at i).length)) ?_ ?_
  ·refine c.rl 0 ?_
   refine c.rl 3 ?_
   refine ⟨?_,?_⟩
   ·refine cs.seen (B.up b0 c.gr) H k ht fun a Va _ g=>?_
    have c:=c.more g
    refine c.al 3 ?_
    refine ⟨?_,?_⟩
    ·refine cs.Gt (hs _ (B.up b0 c.gr)) fun _ g=>?_
     have c:=c.more g
     rw [hml]
     refine ⟨?_,?_⟩
     ·refine cs.xG (B.up b0 c.gr) Va ⟨by omega,by omega⟩ (Int.natCast_nonneg _) fun a2 M _ d ok=>?_
      have c:=c.aE d
      replace c:=c.n5
      refine c.v1 fun _ _ c=>?_
      refine c.w1 5 fun _ c=>?_
      exact fin _ M _ _ _ _ _ _ (c.pick [0,1,2,3,5,4]) ok
     ·refine c.v1 fun _ _ c=>?_
      refine cs.xG (B.up b0 c.gr) Va ⟨by omega,by omega⟩ (Int.natCast_nonneg _) fun a2 M _ d ok=>?_
      have c:=c.aE d
      replace c:=c.n6
      refine c.w1 4 fun _ c=>?_
      exact fin _ M _ _ _ _ _ _ (c.pick [0,1,2,3,4,5]) ok
    ·refine c.v1 fun _ _ c=>?_
     refine c.al 3 ?_
     refine cs.Gt (hs _ (B.up b0 c.gr)) fun _ g=>?_
     have c:=c.more g
     rw [hml]
     refine cs.xG (B.up b0 c.gr) Va ⟨by omega,by omega⟩ (Int.natCast_nonneg _) fun a2 M _ d ok=>?_
     have c:=c.aE d
     replace c:=c.n6
     refine c.w1 4 fun _ c=>?_
     exact fin _ M _ _ _ _ _ _ (c.pick [0,1,2,3,4,5]) ok
   ·refine c.v1 fun _ _ c=>?_
    refine c.al 3 ?_
    refine c.al 0 ?_
    refine cs.seen (B.up b0 c.gr) H k ht fun a Va _ g=>?_
    have c:=c.more g
    refine c.al 3 ?_
    refine cs.Gt (hs _ (B.up b0 c.gr)) fun _ g=>?_
    have c:=c.more g
    rw [hml]
    refine cs.xG (B.up b0 c.gr) Va ⟨by omega,by omega⟩ (Int.natCast_nonneg _) fun a2 M _ d ok=>?_
    have c:=c.aE d
    replace c:=c.n6
    refine c.w1 4 fun _ c=>?_
    exact fin _ M _ _ _ _ _ _ (c.pick [0,1,2,3,4,5]) ok
  ·rintro _ h6 ⟨ro,a,M,rfl,c,ok⟩
   replace c:=c.n6
   refine c.rl 4 ?_
   refine c.v1 fun _ _ c=>?_
   refine c.w1 6 fun _ c=>?_
   refine .here<|vx (v:=.bool true) (rfl)<|eR<|vx (aL (ds:=[_]) rfl)<|c.rl 3 ?_
   refine cs.Gt (hs _ (B.up b0 c.gr)) fun _ g=>?_
   have c:=c.more g
   rw [hml]
   refine cs.xG (B:=B.and M) (a:=none) ⟨B.up b0 c.gr,c.get (i:=5) rfl⟩ (VO.zero _) ⟨by omega,by omega⟩ (Int.natCast_nonneg _) fun a3 N _ d ok2=>?_
   have c:=c.aE d
   replace c:=c.n8
   refine c.w1 6 fun _ c=>?_
   refine aD<|c.rc 0 ?_
   refine vx (qV ⟨by omega,by omega⟩)<|vx er<|aD<|c.rc 0 ?_
   refine vx ec<|c.rl 3 ?_
   refine c.rl 1 ?_
   refine c.rl 6 ?_
   refine vx (aL (ds:=[_,_,_,_,_]) rfl)<|cs.hAdd (m:=⟨w,t,a3⟩) (hs _ (B.up b0 c.gr)) (by omega) fun u' _ d=>?_
   have c:=c.aE d
   replace c:=c.n9
   refine c.ac 0 ?_
   refine c.jE xE u' rfl rfl fun v52 _ c=>?_
   replace c:=c.Wq
   refine c.ac 0 ?_
   refine c.Nu (Hc.gr c.gr) (c.sl (i:=9) rfl).sl (by simp) rfl rfl (by rw [hlt2,List.length_singleton]; omega) (by rw [hlt2,List.length_singleton]; omega) fun v53 _ c=>?_
   replace c:=c.n11
   refine c.ap 10 rfl (Hr.gr c.gr) rfl rfl (by simp only [List.length_append,List.length_take,List.length_drop,List.length_singleton]; omega) (by simp only [List.length_append,List.length_take,List.length_drop,List.length_singleton]; omega) fun v56 _ c=>?_
   obtain ⟨u2,rfl⟩ :=(c.sl (i:=10) rfl).vO
   replace c:=c.n11
   refine aD<|c.q2 0 fun _ c=>?_
   refine c.rl 0 ?_
   refine c.rl 4 ?_
   refine cs.Sx (x:=(u2,x.2)) (t:=t) (v1 _ (B.up b0 c.gr)) (by omega) ⟨ht.1,by omega⟩ fun u3 _ d=>?_
   have c:=c.aE d
   replace c:=c.n12
   refine c.w2 2 fun _ c=>?_
   refine c.rl 2 ?_
   refine hR (u2,u3) [aG M,dA wH (aX u') (ms++[(⟨w,t,a3⟩:Df)]),dA xE (aX u2) (us.take i++[u']++us.drop (i+1)),dA EM (aX u3) (vs.set (t - 1) a),aG N] _ (Cx.pack (L:=[]) (c.pick [5,8,10,11,7])) ?_
   have Va:VO (B.and [aG M,dA wH (aX u') (ms++[(⟨w,t,a3⟩:Df)]),dA xE (aX u2) (us.take i++[u']++us.drop (i+1)),dA EM (aX u3) (vs.set (t - 1) a),aG N]) a (rz (m.view t) i (m.at i).length):=ok.le fun h b=>⟨b.1,Bs.star b (i:=0) rfl⟩
   have Vt:VO (B.and [aG M,dA wH (aX u') (ms++[(⟨w,t,a3⟩:Df)]),dA xE (aX u2) (us.take i++[u']++us.drop (i+1)),dA EM (aX u3) (vs.set (t - 1) a),aG N]) a3 _:=ok2.le fun h b=>⟨⟨b.1,Bs.star b (i:=0) rfl⟩,Bs.star b (i:=4) rfl⟩
   exact MO.Tf (by omega) h2 h3 v2 v3 (by omega) ha Va Vt (On.sl (i:=1) rfl) (On.sl (i:=2) rfl) (On.sl (i:=3) rfl)
structure YA (S:Sys) (I:aZ):Prop extends XX S I where
 Ve:∀{B:Bs} {T n b t i:Nat} {x:SH × SH} {m:Me} {w:W3} {wl:Bool} {h R},B.p h→MO B x m→Mk T n b m→b≤900000→(1≤t∧t≤T)→i<n→(∀x',Rt B h (fun B=>MO B x' (m.add t i w wl)) fun h'=>R (s7 x') h')→
  S.C I.jV [s7 x,.int .i64 t,.int .i64 i,mW w,.bool wl] h R
 RC:∀{B:Bs} {T n b t i:Nat} {x:SH × SH} {m:Me} {h R},B.p h→MO B x m→Mk T n b m→b≤1000000→(1≤t∧t≤T)→i<n→
  (∀x',Rt B h (fun B=>MO B x' (m.xB t i ((m.at i).length - 1) (m.top i) true)) fun h'=>R (.tuple #[s7 x',mW (m.top i).w,.int .i64 0]) h')→S.C I.jS [s7 x,.int .i64 t,.int .i64 i] h R
theorem R7 (cs:YA S I) (b0:B.p h) (H:MO B x m) (k:Mk T n b m) (hb:b≤900000) (ht:1≤t∧t≤T) (hi:i<n) {wl:Bool}
  (hR:∀x',Rt B h (fun B=>MO B x' (m.add t i w wl)) fun h'=>R (.tuple #[s7 x',.int .i64 0]) h'):nZ S I (s7 x) (.int .i64 t) (.int .i64 i) (mW w) (.bool wl) h R:=by
 unfold nZ
 have c:=Cx.aA h
 refine c.v2 fun _ _ c=>?_
 refine c.v3 fun _ _ c=>?_
 refine c.v2 fun _ _ c=>?_
 refine c.rl 0 ?_
 refine cs.FW (B.up b0 c.gr) H k ht hi fun _ g=>?_
 have c:=c.more g
 refine vx (v:=.bool false) rfl<|bD<|c.rl 0 ?_
 refine c.rl 1 ?_
 refine cs.Ve (w:=w) (B.up b0 c.gr) H k hb ht hi fun x' M _ d ok=>?_
 have c:=c.aE d
 replace c:=c.n4
 refine c.w2 2 fun _ c=>?_
 refine c.rl 2 ?_
 exact hR x' M _ (c.pick [3]) ok
theorem Mk.xB (k:Mk T n b m) (q:Nat) (j:Bool):Mk T n b (m.xB t i q am j):=⟨(List.length_set ..).trans k.vs,k.hs,k.le,k.len⟩
theorem Mk.add (k:Mk T n b m) (hi:i<n) {wl:Bool}:Mk T n (b+1) (m.add t i w wl):=by
 obtain ⟨hm,h1,h2⟩ :=k.at hi
 refine ⟨(List.length_set ..).trans k.vs,(List.length_set ..).trans k.hs,k.le,fun asn has=>?_⟩
 rcases List.mem_or_eq_of_mem_set has with h | rfl
 ·have:=k.len asn h
  omega
 ·rw [List.length_append,List.length_singleton]
  omega
theorem W3.iff (a b:W3):(a.v=b.v∧a.dN=b.dN∧a.ref=b.ref)↔a=b:=by
 obtain ⟨a1,a2,a3⟩ :=a
 obtain ⟨b1,b2,b3⟩ :=b
 simp
instance:DecidableEq W3:=fun a b=>decidable_of_iff _ (W3.iff a b)
def Me.Qd (m:Me) (t i:Nat) (old new:W3):Me:=if (m.top i).w=old then (m.xB t i ((m.at i).length - 1) (m.top i) true).add t i new true else m.xB t i ((m.at i).length - 1) (m.top i) true
theorem Tx (a b:W3):BZ (E5 [true,true,true] (.agg ⟨cW a⟩) (.agg ⟨cW b⟩))=some (.bool (decide (a≠b))):=by
 have:E5 [true,true,true] (.agg ⟨cW a⟩) (.agg ⟨cW b⟩)=some (decide (a=b)):=by
  show ((some (a.v == b.v)).bind fun x=>((some (a.dN == b.dN)).bind fun x=>((some (a.ref == b.ref)).bind fun x=>(some true).bind fun q=>some (x&&q)).bind fun q=>some (x&&q)).bind fun q=>some (x&&q))=_
  have:=W3.iff a b
  by_cases h1:a.v=b.v <;> by_cases h2:a.dN=b.dN <;> by_cases h3:a.ref=b.ref <;> simp [h1,h2,h3,←this]
 rw [this,Ij]
 by_cases h:a=b <;> simp [h]
theorem Uk (cs:YA S I) (b0:B.p h) (H:MO B x m) (k:Mk T n b m) (hb:b≤900000) (ht:1≤t∧t≤T) (hi:i<n) {old new:W3}
  (hR:∀x',Rt B h (fun B=>MO B x' (m.Qd t i old new)) fun h'=>R (.tuple #[s7 x',mW (m.top i).w,.bool (decide ((m.top i).w=old)),.int .i64 0]) h'):md S I (s7 x) (.int .i64 t) (.int .i64 i) (mW old) (mW new) h R:=by
 by_cases e:(m.top i).w=old
 ·rw [Me.Qd,if_pos e,decide_eq_true e] at hR
  unfold md
  have c:=Cx.aA h
  refine c.v2 fun _ _ c=>?_
  refine c.v3 fun _ _ c=>?_
  refine c.v3 fun _ _ c=>?_
  refine c.v2 fun _ _ c=>?_
  refine c.v3 fun _ _ c=>?_
  refine c.rl 0 ?_
  refine cs.RC (B.up b0 c.gr) H k (by omega) ht hi fun x' M _ d ok=>?_
  have c:=c.aE d
  replace c:=c.n6
  refine vx rfl<|vx rfl<|vx rfl<|c.v2 fun _ _ c=>?_
  refine c.v3 fun _ _ c=>?_
  refine c.w2 6 fun _ c=>?_
  refine c.w3 7 fun _ c=>?_
  refine .here<|vx (v:=.bool false) rfl<|bD<|c.rl 7 ?_
  refine c.rl 1 ?_
  refine vx ((Tx _ _).trans (by rw [decide_eq_false fun h=>h e]))<|bD<|c.rl 6 ?_
  refine c.rl 2 ?_
  refine c.rl 7 ?_
  refine cs.Ve (B:=B.and M) (w:=new) ⟨B.up b0 c.gr,c.get (i:=5) rfl⟩ ok (k.xB _ _) hb ht hi fun x2 N _ d ok2=>?_
  have c:=c.aE d
  replace c:=c.n9
  refine c.al 7 ?_
  refine c.w2 3 fun _ c=>?_
  refine c.al 7 ?_
  refine c.w3 4 fun _ c=>?_
  refine c.rl 3 ?_
  refine c.rl 4 ?_
  exact hR x2 [aG M,aG N] _ (Cx.pack (L:=[]) (c.pick [5,8])) (ok2.le Bs.MA)
 ·rw [Me.Qd,if_neg e,decide_eq_false e] at hR
  unfold md
  have c:=Cx.aA h
  refine c.v2 fun _ _ c=>?_
  refine c.v3 fun _ _ c=>?_
  refine c.v3 fun _ _ c=>?_
  refine c.v2 fun _ _ c=>?_
  refine c.v3 fun _ _ c=>?_
  refine c.rl 0 ?_
  refine cs.RC (B.up b0 c.gr) H k (by omega) ht hi fun x' M _ d ok=>?_
  have c:=c.aE d
  replace c:=c.n6
  refine vx rfl<|vx rfl<|vx rfl<|c.v2 fun _ _ c=>?_
  refine c.v3 fun _ _ c=>?_
  refine c.w2 6 fun _ c=>?_
  refine c.w3 7 fun _ c=>?_
  refine .here<|vx (v:=.bool false) rfl<|bD<|c.rl 7 ?_
  refine c.rl 1 ?_
  refine vx ((Tx _ _).trans (by rw [decide_eq_true e]))<|eR<|c.rl 6 ?_
  refine c.rl 7 ?_
  refine c.w2 3 fun _ c=>?_
  refine c.al 7 ?_
  refine c.w3 4 fun _ c=>?_
  refine c.rl 3 ?_
  refine c.rl 4 ?_
  exact hR x' M _ (c.pick [5]) ok
end
end Go.En
namespace Go.En
variable {S:Sys} {I:aZ} {h h0 h':Hp} {F F0:Fp} {R:Value→Hp→Prop} {L:List bQ} {B B':Bs}
section
variable {α:Type} {E:qd α} {v:Value} {xs:List α}
theorem Sl.isNil (H:Sl E h v xs):∃b,Qa v (.slice none 0 0)=some b∧(b=true→xs=[]):=by
 obtain ⟨a,cap,rfl,h1,h2,h3⟩ :=H
 cases a with
 | none=>exact ⟨true,rfl,fun _=>List.eq_nil_of_length_eq_zero (by have:=h2 rfl; omega)⟩
 | some a=>exact ⟨false,rfl,fun e=>by cases e⟩
theorem yS {zero:Array Value} {n bytes:Nat} {e e':TypeId} (hs:Sl E h v xs) (hn:n=E.n) (hz:zero.size=E.n) (hN:xs.length*bytes≤140737488355328) (hl:xs.length≤1000000000) (hR:∀u h',Cx (fun _=>False) h h' [dA E (aX u) xs]→R (aX u) h') :
  Vb (pos? (Qa v (.slice none 0 0))) fun v4=>Br v4 (R (.slice none 0 0) h) (Eb (pb zero n 0 e [] h) fun v5 h1=>Ap e' zero n bytes v5 v h1 fun v7 h2=>R v7 h2):=by
 obtain ⟨b,e,hb⟩ :=hs.isNil
 rw [e]
 refine En.vb (v:=.bool b) rfl ?_
 cases b with
 | true=>
  obtain rfl:=hb rfl
  exact hR (none,0,0) _ ((Cx.aA h).nil E)
 | false=>
  refine bD ?_
  have c:=Cx.aA h
  refine c.Jc E fun u h1 c=>?_
  refine c.ap 0 rfl (ys:=xs) (hs.gr c.gr) hn hz (by simpa using hN) (by simp only [List.length_nil]; omega) fun v' h2 c=>?_
  obtain ⟨u,rfl⟩ :=(c.sl (i:=0) rfl).vO
  exact hR u _ c
theorem Lm {n:Nat} {u:Value} (hs:Sl E h v xs) (e:vR n v none (some (.int .i64 xs.length)) (some (.int .i64 xs.length))=some u) (hR:R u h) :
  Vb (lu v) fun v5=>Vb (lu v) fun v7=>Vb (vR n v none (some v5) (some v7)) fun v8=>R v8 h:=
 En.vb hs.ln (En.vb hs.ln (En.vb e hR))
theorem Sl.Bz (hs:Sl E h v xs) {n:Nat} (hn:n=E.n):∃a,vR n v none (some (.int .i64 xs.length)) (some (.int .i64 xs.length))=some (.slice a xs.length xs.length)∧Sl E h (.slice a xs.length xs.length) xs:=by
 obtain ⟨a,e,Hc⟩ :=hs.clip (n:=n) (k:=.i64) (k':=.i64) hn rfl (Nat.le_refl _)
 rw [List.take_length] at e Hc
 exact ⟨a,e,Hc⟩
theorem Cx.Xz (c:Cx F0 h0 h L) (i:Nat) (hi:L[i]?=some (dA E v xs)) {p:Nat} {x:α} (hx:xs[p]?=some x) (y:α) {n:Nat} (hn:n=E.n) {q:IntKind} {z:Int} (hz:z=p) {r o j:Nat} (e:lQ n v (.int q z)=some (.pointer (some ⟨r,o,none⟩))) {w:Value} (hw:w.oneCell'=true) (hj:j<E.n) (hy:E.c y=(E.c x).set j w) {k:Hp→Prop}
  (hk:∀h',Cx F0 h0 h' (L.set i (dA E v (xs.set p y)))→k h'):Sb (En.aQ 1 (.pointer (some ⟨r,o+j,none⟩)) w h) k:=by
 obtain ⟨_,e1,_,e2,s⟩ :=c.II i hi hx y hn hz hw hj hy hk
 rw [e] at e1
 injection e1 with e1
 subst e1
 rw [oZ] at e2
 injection e2 with e2
 subst e2
 exact s
end
abbrev UE:Type:=Int × W3
def SN:qd UE:={n:=4,c:=fun x=>[.int .i64 x.1,.int .i64 x.2.v,.int .u32 x.2.dN,.int .u32 x.2.ref],len:=fun _=>rfl,one:=fun a v h=>by simp only [List.mem_cons,List.not_mem_nil,or_false] at h; rcases h with rfl | rfl | rfl | rfl <;> rfl}
def Lw:qd (SH × Int):={n:=2,c:=fun x=>[aX x.1,.int .i64 x.2],len:=fun _=>rfl,one:=fun a v h=>by simp only [List.mem_cons,List.not_mem_nil,or_false] at h; rcases h with rfl | rfl <;> rfl}
structure Li where
 fst:List W3
 lg:List (List UE × Int)
 asn:Option Nat
structure LV where
 f:SH
 l:SH
 a:Option Nat
def Gw (y:LV):Value:=.agg #[aX y.f,aX y.l,.map y.a]
structure LO (B:Bs) (y:LV) (l:Li):Prop where
 fst:On B fun h=>Sl EW h (aX y.f) l.fst
 lg:∃us:List (SH × Int),(On B fun h=>Sl Lw h (aX y.l) us)∧us.length=l.lg.length∧∀(i:Nat) (u:SH × Int) (g:List UE × Int),us[i]?=some u→l.lg[i]?=some g→u.2=g.2∧On B fun h=>Sl SN h (aX u.1) g.1
 asn:y.a=l.asn
theorem LO.le {y:LV} {l:Li} (H:LO B y l) (le:B.le B'):LO B' y l:=by
 obtain ⟨a,⟨us,b,c,d⟩,e⟩ :=H
 exact ⟨a.le le,⟨us,b.le le,c,fun i u g h1 h2=>⟨(d i u g h1 h2).1,(d i u g h1 h2).2.le le⟩⟩,e⟩
structure Lk (n b:Nat) (l:Li):Prop where
 fst:l.fst.length=n
 lg:l.lg.length=(n+7) / 8
 le:n≤4096
 len:∀g∈l.lg,g.1.length≤b
def Li.aQ (l:Li) (i:Nat) (w:W3):Li:={l with lg:=l.lg.set (i / 8) (((l.lg.getD (i / 8) ([],0)).1++[((i:Int),w)]),(l.lg.getD (i / 8) ([],0)).2)}
theorem Lk.aQ {n b i:Nat} {l:Li} {w:W3} (k:Lk n b l) (hi:i<n):Lk n (b+1) (l.aQ i w):=by
 refine ⟨k.fst,(List.length_set ..).trans k.lg,k.le,fun g hg=>?_⟩
 rcases List.mem_or_eq_of_mem_set hg with h | rfl
 ·have:=k.len g h
  omega
 ·have hl:=k.lg
  have:l.lg[i / 8]?=some (l.lg.getD (i / 8) ([],0)):=by
   rw [List.getD_eq_getElem?_getD,List.getElem?_eq_getElem (by omega)]; rfl
  have:=k.len _ (List.mem_of_getElem? this)
  rw [List.length_append,List.length_singleton]
  omega
section
variable {n b i:Nat} {y:LV} {l:Li} {w:W3} {ws:List W3}
theorem Pf {v:Value} (hs:Sl EW h v ws) (hl:ws.length≤1000000) (hR:∀u h',Cx (fun _=>False) h h' [dA EW (aX u) ws]→R (aX u) h'):gY S I v h R:=by
 unfold gY
 exact yS hs rfl rfl (by omega) (by omega) hR
theorem N3 {v:Value} {us:List (SH × Int)} (hs:Sl Lw h v us) (hl:us.length≤1000000) (hR:∀u h',Cx (fun _=>False) h h' [dA Lw (aX u) us]→R (aX u) h'):iE S I v h R:=by
 unfold iE
 exact yS hs rfl rfl (by omega) (by omega) hR
theorem PH {v:Value} {us:List Int} (hs:Sl yh h v us) (hl:us.length≤1000000) (hR:∀u h',Cx (fun _=>False) h h' [dA yh (aX u) us]→R (aX u) h'):nE S I v h R:=by
 unfold nE
 exact yS hs rfl rfl (by omega) (by omega) hR
theorem Rf {v u:Value} {us:List UE} (hs:Sl SN h v us) (e:vR 4 v none (some (.int .i64 us.length)) (some (.int .i64 us.length))=some u) (hR:R u h):gF S I v h R:=by
 unfold gF
 exact Lm hs e hR
theorem XB (b0:B.p h) (H:LO B y l) (k:Lk n b l) (hi:i<n) (hR:∀h',Gr h h'→R (.bool true) h'):sr S I (Gw y) (.int .i64 i) h R:=by
 have hn:=k.fst
 unfold sr
 have c:=Cx.aA h
 refine c.v3 fun _ _ c=>?_
 refine .here<|vx (uA (by omega))<|eR<|aD<|c.rc 0 ?_
 exact vx (H.fst h b0).ln<|vx (yH (by omega))<|hR _ c.gr
structure XD (S:Sys) (I:aZ):Prop extends YA S I where
 Jn:∀{v:Value} {ws:List W3} {h R},Sl EW h v ws→ws.length≤1000000→(∀u h',Cx (fun _=>False) h h' [dA EW (aX u) ws]→R (aX u) h')→S.C I.dE [v] h R
 ER:∀{v:Value} {us:List (SH × Int)} {h R},Sl Lw h v us→us.length≤1000000→(∀u h',Cx (fun _=>False) h h' [dA Lw (aX u) us]→R (aX u) h')→S.C I.dJ [v] h R
 yi:∀{v:Value} {us:List Int} {h R},Sl yh h v us→us.length≤1000000→(∀u h',Cx (fun _=>False) h h' [dA yh (aX u) us]→R (aX u) h')→S.C I.kN [v] h R
 ND:∀{v u:Value} {us:List UE} {h} {R:Value→Hp→Prop},Sl SN h v us→vR 4 v none (some (.int .i64 us.length)) (some (.int .i64 us.length))=some u→R u h→S.C I.cS [v] h R
 has:∀{B:Bs} {n b i:Nat} {y:LV} {l:Li} {h R},B.p h→LO B y l→Lk n b l→i<n→(∀h',Gr h h'→R (.bool true) h')→S.C I.ni [Gw y,.int .i64 i] h R
 NG:∀{B:Bs} {T n b t i:Nat} {x:SH × SH} {m:Me} {w:W3} {wl:Bool} {h R},B.p h→MO B x m→Mk T n b m→b≤900000→(1≤t∧t≤T)→i<n→(∀x',Rt B h (fun B=>MO B x' (m.add t i w wl)) fun h'=>R (.tuple #[s7 x',.int .i64 0]) h')→
  S.C I.lK [s7 x,.int .i64 t,.int .i64 i,mW w,.bool wl] h R
 UX:∀{B:Bs} {T n b t i:Nat} {x:SH × SH} {m:Me} {old new:W3} {h R},B.p h→MO B x m→Mk T n b m→b≤900000→(1≤t∧t≤T)→i<n→(∀x',Rt B h (fun B=>MO B x' (m.Qd t i old new)) fun h'=>R (.tuple #[s7 x',mW (m.top i).w,.bool (decide ((m.top i).w=old)),.int .i64 0]) h')→
  S.C I.ml [s7 x,.int .i64 t,.int .i64 i,mW old,mW new] h R
 WZ:∀{B:Bs} {T n b i:Nat} {x:SH × SH} {m:Me} {h R},B.p h→MO B x m→Mk T n b m→b≤1000000→i<n→(∀h',Gr h h'→R (.tuple #[mW (m.top i).w,.bool true]) h')→S.C I.ma [s7 x,.int .i64 i] h R
theorem OO (cs:XD S I) (b0:B.p h) (H:LO B y l) (k:Lk n b l) (hb:b≤900000) (hi:i<n)
  (hR:∀y',Rt B h (fun B=>LO B y' (l.aQ i w)) fun h'=>R (.tuple #[Gw y',.int .i64 0]) h'):qJ S I (Gw y) (.int .i64 i) (mW w) h R:=by
 obtain ⟨us,h1,h2,h3⟩ :=H.lg
 have hl:=k.lg
 have hle:=k.le
 have hlt:i / 8<us.length:=by omega
 have hu:=List.getElem?_eq_getElem (l:=us) (i:=i / 8) hlt
 have hg:l.lg[i / 8]?=some (l.lg.getD (i / 8) ([],0)):=by
  rw [List.getD_eq_getElem?_getD,List.getElem?_eq_getElem (by omega)]; rfl
 obtain ⟨e2,s1⟩ :=h3 _ _ _ hu hg
 have hgl:=k.len _ (List.mem_of_getElem? hg)
 generalize us[i / 8]=u at hu e2 s1
 obtain ⟨u,kp⟩ :=u
 dsimp only at e2 s1
 obtain ⟨ac,ec,Hc⟩ :=(s1 h b0).Bz (n:=4) rfl
 have eq8:((i:Int)) / 8=((i / 8:Nat):Int):=by omega
 have fin:∀(f l':SH) (M:List bQ) (u2:SH),M=[dA Lw (aX l') (us.set (i / 8) (u2,kp)),dA SN (aX u2) ((l.lg.getD (i / 8) ([],0)).1++[((i:Int),w)])]→LO (B.and M) ⟨y.f,l',y.a⟩ (l.aQ i w):=fun f l' M u2 hM=>by
  subst hM
  refine ⟨H.fst.le (Bs.aR _ _),⟨_,On.sl (i:=0) rfl,by rw [List.length_set,Li.aQ,List.length_set,h2],fun j p q hp hq=>?_⟩,H.asn⟩
  have hq:(l.lg.set (i / 8) (((l.lg.getD (i / 8) ([],0)).1++[((i:Int),w)]),(l.lg.getD (i / 8) ([],0)).2))[j]?=some q:=hq
  rw [List.getElem?_set] at hp hq
  by_cases ej:i / 8=j
  ·rw [if_pos ej,if_pos (by omega)] at hp hq
   injection hp with hp; injection hq with hq
   subst hp hq
   exact ⟨e2,On.sl (i:=1) rfl⟩
  ·rw [if_neg ej] at hp hq
   exact ⟨(h3 j p q hp hq).1,(h3 j p q hp hq).2.le (Bs.aR _ _)⟩
 unfold qJ
 have c:=Cx.aA h
 refine c.v3 fun _ _ c=>?_
 refine c.v3 fun _ _ c=>?_
 refine c.v3 fun _ _ c=>?_
 refine c.rl 0 ?_
 refine cs.has (B.up b0 c.gr) H k hi fun _ g=>?_
 have c:=c.more g
 refine vx (v:=.bool false) (rfl)<|bD<|aD<|c.rc 0 ?_
 refine cs.ER (h1 _ (B.up b0 c.gr)) (by omega) fun l' _ d=>?_
 have c:=c.aE d
 replace c:=c.n4
 refine aD<|c.q3 0 fun _ c=>?_
 refine aD<|c.rc 0 ?_
 refine vx (EF ⟨by omega,by omega⟩ (by decide)) ?_
 rw [eq8]
 obtain ⟨r,o,cap,el,ei,row⟩ :=(c.sl (i:=3) rfl).ix hu (n:=2) rfl (k:=.i64) (z:=((i / 8:Nat):Int)) rfl
 refine vx ei ?_
 refine .here<|vx rfl<|vx (oZ _ _ _)<|vx (row.dU (j:=0) rfl)<|c.rl 1 ?_
 refine vx (aL (ds:=[_,_,_,_]) rfl)<|⟨?_,?_⟩
 ·refine cs.ND (s1 _ (B.up b0 c.gr)) ec ?_
  refine c.al 1 ?_
  refine c.jE SN ((i:Int),w) rfl rfl fun v32 _ c=>?_
  replace c:=c.n5
  refine c.Nu (Hc.gr c.gr) (c.sl (i:=4) rfl).sl (by simp) rfl rfl (by rw [List.length_singleton]; omega) (by rw [List.length_singleton]; omega) fun v33 _ c=>?_
  obtain ⟨u2,rfl⟩ :=(c.sl (i:=5) rfl).vO
  replace c:=c.n6
  refine vx rfl<|vx (oZ _ _ _)<|c.Xz 3 rfl hu (u2,kp) rfl rfl (j:=0) ei rfl (by decide) rfl fun _ c=>?_
  replace c:=c.n6
  refine c.rl 0 ?_
  refine c.w3 2 fun _ c=>?_
  refine c.rl 2 ?_
  exact hR ⟨y.f,l',y.a⟩ [dA Lw (aX l') (us.set (i / 8) (u2,kp)),dA SN (aX u2) ((l.lg.getD (i / 8) ([],0)).1++[((i:Int),w)])] _ (Cx.pack (L:=[]) (c.pick [3,5])) (fin y.f l' _ u2 rfl)
 ·refine c.jE SN ((i:Int),w) rfl rfl fun v32 _ c=>?_
  replace c:=c.n5
  obtain ⟨r',o',cap',el',ei',row'⟩ :=(c.sl (i:=3) rfl).ix hu (n:=2) rfl (k:=.i64) (z:=((i / 8:Nat):Int)) rfl
  rw [ei] at ei'
  injection ei' with ei'
  injection ei' with ei'
  injection ei' with ei'
  injection ei' with e7 e8
  subst e7
  rw [←e8] at row'
  refine And.intro (row'.dU (j:=0) rfl) ?_
  refine cs.ND (s1 _ (B.up b0 c.gr)) ec ?_
  refine c.Nu (Hc.gr c.gr) (c.sl (i:=4) rfl).sl (by simp) rfl rfl (by rw [List.length_singleton]; omega) (by rw [List.length_singleton]; omega) fun v33 _ c=>?_
  obtain ⟨u2,rfl⟩ :=(c.sl (i:=5) rfl).vO
  replace c:=c.n6
  refine vx rfl<|vx (oZ _ _ _)<|c.Xz 3 rfl hu (u2,kp) rfl rfl (j:=0) ei rfl (by decide) rfl fun _ c=>?_
  replace c:=c.n6
  refine c.rl 0 ?_
  refine c.w3 2 fun _ c=>?_
  refine c.rl 2 ?_
  exact hR ⟨y.f,l',y.a⟩ [dA Lw (aX l') (us.set (i / 8) (u2,kp)),dA SN (aX u2) ((l.lg.getD (i / 8) ([],0)).1++[((i:Int),w)])] _ (Cx.pack (L:=[]) (c.pick [3,5])) (fin y.f l' _ u2 rfl)
end
end Go.En
namespace Go.En
variable {S:Sys} {I:aZ} {h h0 h':Hp} {F F0:Fp} {R:Value→Hp→Prop} {L:List bQ} {B B':Bs}
structure MV where
 x:SH × SH
 y:LV
 s:SH
 cr:Int
abbrev YS (v:MV):List Value:=[aX v.x.1,aX v.x.2,aX v.y.f,aX v.y.l,.map v.y.a,aX v.s,.int .i64 v.cr]
def xF (v:MV):Value:=.agg #[aX v.x.1,aX v.x.2,aX v.y.f,aX v.y.l,.map v.y.a,aX v.s,.int .i64 v.cr]
structure Mc where
 me:Me
 li:Li
structure KO (B:Bs) (T:Nat) (v:MV) (m:Mc):Prop where
 me:MO B v.x m.me
 li:LO B v.y m.li
 st:∃ss:List Int,(On B fun h=>Sl yh h (aX v.s) ss)∧ss.length=T
theorem KO.le {T:Nat} {v:MV} {m:Mc} (H:KO B T v m) (l:B.le B'):KO B' T v m:=let ⟨a,b,ss,c,d⟩ :=H; ⟨a.le l,b.le l,ss,c.le l,d⟩
structure Kk (T n b:Nat) (m:Mc):Prop where
 me:Mk T n b m.me
 li:Lk n b m.li
def Mc.look (m:Mc) (t i:Nat):Mc:={m with me:=m.me.xB t i ((m.me.at i).length - 1) (m.me.top i) true}
def Mc.swap (m:Mc) (t i:Nat) (old new:W3):Mc:={me:=m.me.Qd t i old new,li:=if (m.me.top i).w=old then m.li.aQ i new else m.li}
def Mc.put (m:Mc) (t i:Nat) (w:W3) (wl:Bool):Mc:={me:=m.me.add t i w wl,li:=m.li.aQ i w}
section
variable {T n b t i:Nat} {v:MV} {m:Mc} {w:W3}
theorem Lk.up {b':Nat} {l:Li} (k:Lk n b l) (hb:b≤b'):Lk n b' l:=⟨k.fst,k.lg,k.le,fun g hg=>Nat.le_trans (k.len g hg) hb⟩
theorem Mk.up {b':Nat} {m:Me} (k:Mk T n b m) (hb:b≤b'):Mk T n b' m:=⟨k.vs,k.hs,k.le,fun g hg=>⟨(k.len g hg).1,Nat.le_trans (k.len g hg).2 hb⟩⟩
theorem Qw (cs:XD S I) (b0:B.p h) (H:KO B T v m) (k:Kk T n b m) (hR:∀h',Gr h h'→R (.tuple #[.int .i64 T,.int .i64 n]) h'):nF S I (xF v) h R:=by
 unfold nF
 have c:=Cx.aA h
 refine c.v7 fun _ _ c=>?_
 refine aD<|vx (c.vp (i:=0) (ds:=[_,_]) rfl rfl rfl)<|cs.Sv (x:=v.x) (B.up b0 c.gr) H.me k.me fun _ g=>?_
 have c:=c.more g
 exact vx rfl<|vx rfl<|hR _ c.gr
theorem sH (cs:XD S I) (b0:B.p h) (H:KO B T v m) (k:Kk T n b m) (hb:b≤1000000) (hi:i<n) (hR:∀h',Gr h h'→R (.tuple #[mW (m.me.top i).w,.bool true]) h'):kQ S I (xF v) (.int .i64 i) h R:=by
 unfold kQ
 have c:=Cx.aA h
 refine c.v7 fun _ _ c=>?_
 refine c.v3 fun _ _ c=>?_
 refine aD<|vx (c.vp (i:=0) (ds:=[_,_]) rfl rfl rfl)<|cs.WZ (x:=v.x) (B.up b0 c.gr) H.me k.me hb hi fun _ g=>?_
 have c:=c.more g
 refine vx rfl<|vx rfl<|c.w3 1 fun _ c=>?_
 refine c.rl 1 ?_
 exact hR _ c.gr
structure VV (S:Sys) (I:aZ):Prop extends XD S I where
 Jh:∀{B:Bs} {T n b:Nat} {v:MV} {m:Mc} {h R},B.p h→KO B T v m→Kk T n b m→(∀h',Gr h h'→R (.tuple #[.int .i64 T,.int .i64 n]) h')→S.C I.eH [xF v] h R
 G9:∀{B:Bs} {n b i:Nat} {y:LV} {l:Li} {w:W3} {h R},B.p h→LO B y l→Lk n b l→b≤900000→i<n→(∀y',Rt B h (fun B=>LO B y' (l.aQ i w)) fun h'=>R (.tuple #[Gw y',.int .i64 0]) h')→S.C I.nm [Gw y,.int .i64 i,mW w] h R
theorem PE (cs:VV S I) (b0:B.p h) (H:KO B T v m) (k:Kk T n b m) (ht:1≤t∧t≤T) {a:Ac} (ho:0≤a.op∧a.op≤8) (hat:a.op≠0→a.op≠8→0≤a.at'∧a.at'<n) (hR:∀h',Gr h h'→R (.int .i64 0) h'):mZ S I (xF v) (.int .i64 t) (nJ a) h R:=by
 unfold mZ
 have c:=Cx.aA h
 refine c.v7 fun _ _ c=>?_
 refine c.v8 fun _ _ c=>?_
 refine c.rl 0 ?_
 refine cs.Jh (v:=v) (B.up b0 c.gr) H k fun _ g=>?_
 have c:=c.more g
 refine vx rfl<|vx rfl ?_
 refine .here<|vx (iZ (by omega))<|bD<|vx (sf (by omega))<|bD ?_
 refine .here<|aD<|c.rc 1 ?_
 refine vx (iZ (by omega))<|bD<|aD<|c.rc 1 ?_
 refine vx (sf (by omega))<|bD ?_
 refine .here<|aD<|c.rc 1 ?_
 refine vx pJ<|pC (fun e34=>?_) fun e34=>?_
 ·refine aD<|c.rc 1 ?_
  refine vx pJ<|pC (fun e38=>?_) fun e38=>?_
  ·refine aD<|c.rc 1 ?_
   refine vx (iZ (Int.not_lt.2 (hat e34 e38).1))<|bD<|aD<|c.rc 1 ?_
   exact vx (o8 (Int.not_le.2 (hat e34 e38).2))<|bD<|hR _ c.gr
  ·exact bD<|hR _ c.gr
 ·exact bD<|hR _ c.gr
theorem Vu {a:Ac} {r:Bool} (hr:r=decide (a.op=3∨a.op=4∨a.op=6)) (hR:∀h',Gr h h'→R (.bool r) h'):rq S I (nJ a) h R:=by
 have h1:a.op=3→∀h',Gr h h'→R (.bool true) h':=fun e h' g=>by
  have:=hR h' g
  rwa [hr,decide_eq_true (.inl e)] at this
 have h2:a.op=4→∀h',Gr h h'→R (.bool true) h':=fun e h' g=>by
  have:=hR h' g
  rwa [hr,decide_eq_true (.inr (.inl e))] at this
 have h3:¬a.op=3→¬a.op=4→∀h',Gr h h'→R (.bool (decide (a.op=6))) h':=fun e5 e9 h' g=>by
  have:=hR h' g
  rwa [hr,show decide (a.op=3∨a.op=4∨a.op=6)=decide (a.op=6) from decide_eq_decide.2 ⟨fun h=>h.elim (fun h=>absurd h e5) fun h=>h.elim (fun h=>absurd h e9) id,fun h=>.inr (.inr h)⟩] at this
 unfold rq
 have c:=Cx.aA h
 refine c.v8 fun _ _ c=>?_
 refine .here<|aD<|c.rc 0 ?_
 refine vx iQ<|pC (fun e5=>?_) fun e5=>?_
 ·first | exact h1 e5 _ c.gr | exact h2 e9 _ c.gr | exact h3 e5 e9 _ c.gr
 ·refine aD<|c.rc 0 ?_
  refine vx iQ<|pC (fun e9=>?_) fun e9=>?_
  ·first | exact h1 e5 _ c.gr | exact h2 e9 _ c.gr | exact h3 e5 e9 _ c.gr
  ·refine aD<|c.rc 0 ?_
   refine vx iQ ?_
   first | exact h1 e5 _ c.gr | exact h2 e9 _ c.gr | exact h3 e5 e9 _ c.gr
theorem Q9 (cs:VV S I) (b0:B.p h) (H:KO B T v m) (k:Kk T n b m) (hb:b≤1000000) (ht:1≤t∧t≤T) (hi:i<n) {o1 o2:W3} {ch:Value} (hR:∀v',Rt B h (fun B=>KO B T v' (m.look t i)) fun h'=>R (.tuple #[xF v',k6 ⟨(m.me.top i).w,true⟩]) h'):fM S I (xF v) (.int .i64 t) (nJ ⟨5,i,o1,o2⟩) ch h R:=by
 unfold fM
 have c:=Cx.aA h
 refine c.v7 fun _ _ c=>?_
 refine c.v8 fun _ _ c=>?_
 refine c.v7 fun _ _ c=>?_
 refine c.v4 fun _ _ c=>?_
 refine c.v3 fun _ _ c=>?_
 refine .here<|aD<|c.rc 1 ?_
 refine vx (v:=.bool true) rfl<|eR<|aD<|vx (c.vp (i:=0) (ds:=[_,_]) rfl rfl rfl)<|aD<|c.rc 1 ?_
 refine cs.RC (x:=v.x) (B.up b0 c.gr) H.me k.me hb ht hi fun x' M _ d ok=>?_
 have c:=c.aE d
 replace c:=c.n6
 refine vx rfl<|vx rfl<|vx rfl<|aD<|c.vq 0 rfl (vs:=[_,_]) (ds:=[_,_,_,_,_,_,_]) (by exact rfl) (by exact rfl) (by exact rfl) (by exact rfl) (by exact rfl) fun _ c=>?_
 replace c:=c.n6
 refine c.w3 4 fun _ c=>?_
 refine c.rl 0 ?_
 refine c.rl 4 ?_
 refine vx (aL (ds:=[_,_,_,_]) rfl)<|c.w7 2 fun _ c=>?_
 refine c.al 4 ?_
 refine c.w4 3 fun _ c=>?_
 refine c.rl 2 ?_
 refine c.rl 3 ?_
 exact hR {v with x:=x'} M _ (c.pick [5]) (let H':=H.le (Bs.aR B M); ⟨ok,H'.li,H'.st⟩)
theorem Sa (cs:VV S I) (b0:B.p h) (H:KO B T v m) (k:Kk T n b m) (hb:b≤900000) (ht:1≤t∧t≤T) (hi:i<n) {old new:W3} (hR:∀v',Rt B h (fun B=>KO B T v' (m.swap t i old new)) fun h'=>R (.tuple #[xF v',k6 ⟨(m.me.top i).w,decide ((m.me.top i).w=old)⟩]) h'):dW S I (xF v) (.int .i64 t) (nJ ⟨6,i,old,new⟩) h R:=by
 by_cases e:(m.me.top i).w=old
 ·rw [Mc.swap,if_pos e,decide_eq_true e] at hR
  unfold dW
  have c:=Cx.aA h
  refine c.v7 fun _ _ c=>?_
  refine c.v8 fun _ _ c=>?_
  refine c.v7 fun _ _ c=>?_
  refine c.v4 fun _ _ c=>?_
  refine vx (aL (ds:=[_,_,_,_]) rfl)<|c.v4 fun _ _ c=>?_
  refine c.w4 4 fun _ c=>?_
  refine .here<|aD<|c.rc 1 ?_
  refine vx (v:=.bool true) rfl<|eR<|aD<|vx (c.vp (i:=0) (ds:=[_,_]) rfl rfl rfl)<|aD<|c.rc 1 ?_
  refine aD<|vx (c.vp (i:=1) (ds:=[_,_,_]) rfl rfl rfl)<|aD<|vx (c.vp (i:=1) (ds:=[_,_,_]) rfl rfl rfl)<|cs.UX (x:=v.x) (old:=old) (new:=new) (B.up b0 c.gr) H.me k.me hb ht hi fun x' M _ d ok=>?_
  rw [decide_eq_true e]
  have c:=c.aE d
  replace c:=c.n6
  refine vx rfl<|vx rfl<|vx rfl<|vx rfl<|aD<|c.vq 0 rfl (vs:=[_,_]) (ds:=[_,_,_,_,_,_,_]) (by exact rfl) (by exact rfl) (by exact rfl) (by exact rfl) (by exact rfl) fun _ c=>?_
  replace c:=c.n6
  refine aD<|c.vq 4 rfl (vs:=[_,_,_]) (ds:=[_,_,_,_]) (by exact rfl) (by exact rfl) (by exact rfl) (by exact rfl) (by exact rfl) fun _ c=>?_
  replace c:=c.n6
  refine aD<|c.q4 4 fun _ c=>?_
  refine .here<|aD<|c.rc 4 ?_
  refine eR<|aD<|vx (c.vp (i:=0) (ds:=[_,_,_]) rfl rfl rfl)<|aD<|c.rc 1 ?_
  refine aD<|vx (c.vp (i:=1) (ds:=[_,_,_]) rfl rfl rfl)<|cs.G9 (y:=v.y) (w:=new) (B.up b0 c.gr) H.li k.li hb hi fun y' N _ d ok2=>?_
  have c:=c.aE d
  replace c:=c.n7
  refine vx rfl<|vx rfl<|aD<|c.vq 0 rfl (vs:=[_,_,_]) (ds:=[_,_,_,_,_,_,_]) (by exact rfl) (by exact rfl) (by exact rfl) (by exact rfl) (by exact rfl) fun _ c=>?_
  replace c:=c.n7
  refine c.rl 0 ?_
  refine c.rl 4 ?_
  refine c.w7 2 fun _ c=>?_
  refine c.al 4 ?_
  refine c.w4 3 fun _ c=>?_
  refine c.rl 2 ?_
  refine c.rl 3 ?_
  exact hR {v with x:=x',y:=y'} [aG M,aG N] _ (Cx.pack (L:=[]) (c.pick [5,6])) (let H':=H.le (Bs.aR B [aG M,aG N]); ⟨ok.le fun h b=>⟨b.1,Bs.star b (i:=0) rfl⟩,ok2.le fun h b=>⟨b.1,Bs.star b (i:=1) rfl⟩,H'.st⟩)
 ·rw [Mc.swap,if_neg e,decide_eq_false e] at hR
  unfold dW
  have c:=Cx.aA h
  refine c.v7 fun _ _ c=>?_
  refine c.v8 fun _ _ c=>?_
  refine c.v7 fun _ _ c=>?_
  refine c.v4 fun _ _ c=>?_
  refine vx (aL (ds:=[_,_,_,_]) rfl)<|c.v4 fun _ _ c=>?_
  refine c.w4 4 fun _ c=>?_
  refine .here<|aD<|c.rc 1 ?_
  refine vx (v:=.bool true) rfl<|eR<|aD<|vx (c.vp (i:=0) (ds:=[_,_]) rfl rfl rfl)<|aD<|c.rc 1 ?_
  refine aD<|vx (c.vp (i:=1) (ds:=[_,_,_]) rfl rfl rfl)<|aD<|vx (c.vp (i:=1) (ds:=[_,_,_]) rfl rfl rfl)<|cs.UX (x:=v.x) (old:=old) (new:=new) (B.up b0 c.gr) H.me k.me hb ht hi fun x' M _ d ok=>?_
  rw [decide_eq_false e]
  have c:=c.aE d
  replace c:=c.n6
  refine vx rfl<|vx rfl<|vx rfl<|vx rfl<|aD<|c.vq 0 rfl (vs:=[_,_]) (ds:=[_,_,_,_,_,_,_]) (by exact rfl) (by exact rfl) (by exact rfl) (by exact rfl) (by exact rfl) fun _ c=>?_
  replace c:=c.n6
  refine aD<|c.vq 4 rfl (vs:=[_,_,_]) (ds:=[_,_,_,_]) (by exact rfl) (by exact rfl) (by exact rfl) (by exact rfl) (by exact rfl) fun _ c=>?_
  replace c:=c.n6
  refine aD<|c.q4 4 fun _ c=>?_
  refine .here<|aD<|c.rc 4 ?_
  refine bD<|c.rl 0 ?_
  refine c.rl 4 ?_
  refine c.w7 2 fun _ c=>?_
  refine c.al 4 ?_
  refine c.w4 3 fun _ c=>?_
  refine c.rl 2 ?_
  refine c.rl 3 ?_
  exact hR {v with x:=x'} M _ (c.pick [5]) (let H':=H.le (Bs.aR B M); ⟨ok,H'.li,H'.st⟩)
theorem TN (cs:VV S I) (b0:B.p h) (H:KO B T v m) (k:Kk T n b m) (hb:b≤900000) (ht:1≤t∧t≤T) (hi:i<n) {wl:Bool} {o1:W3} (hR:∀v',Rt B h (fun B=>KO B T v' (m.put t i w wl)) fun h'=>R (.tuple #[xF v',k6 ⟨W0,true⟩]) h'):dW S I (xF v) (.int .i64 t) (nJ ⟨if wl then 4 else 3,i,o1,w⟩) h R:=by
 cases wl with
 | true=>
  unfold dW
  have c:=Cx.aA h
  refine c.v7 fun _ _ c=>?_
  refine c.v8 fun _ _ c=>?_
  refine c.v7 fun _ _ c=>?_
  refine c.v4 fun _ _ c=>?_
  refine vx (aL (ds:=[_,_,_,_]) rfl)<|c.v4 fun _ _ c=>?_
  refine c.w4 4 fun _ c=>?_
  refine .here<|aD<|c.rc 1 ?_
  refine vx (v:=.bool false) rfl<|bD<|aD<|vx (c.vp (i:=0) (ds:=[_,_]) rfl rfl rfl)<|aD<|c.rc 1 ?_
  refine aD<|vx (c.vp (i:=1) (ds:=[_,_,_]) rfl rfl rfl)<|aD<|c.rc 1 ?_
  refine vx (v:=.bool true) rfl<|cs.NG (x:=v.x) (w:=w) (B.up b0 c.gr) H.me k.me hb ht hi fun x' M _ d ok=>?_
  have c:=c.aE d
  replace c:=c.n6
  refine vx rfl<|vx rfl<|aD<|c.vq 0 rfl (vs:=[_,_]) (ds:=[_,_,_,_,_,_,_]) (by exact rfl) (by exact rfl) (by exact rfl) (by exact rfl) (by exact rfl) fun _ c=>?_
  replace c:=c.n6
  refine .here<|aD<|c.rc 4 ?_
  refine eR<|aD<|vx (c.vp (i:=0) (ds:=[_,_,_]) rfl rfl rfl)<|aD<|c.rc 1 ?_
  refine aD<|vx (c.vp (i:=1) (ds:=[_,_,_]) rfl rfl rfl)<|cs.G9 (y:=v.y) (w:=w) (B.up b0 c.gr) H.li k.li hb hi fun y' N _ d ok2=>?_
  have c:=c.aE d
  replace c:=c.n7
  refine vx rfl<|vx rfl<|aD<|c.vq 0 rfl (vs:=[_,_,_]) (ds:=[_,_,_,_,_,_,_]) (by exact rfl) (by exact rfl) (by exact rfl) (by exact rfl) (by exact rfl) fun _ c=>?_
  replace c:=c.n7
  refine c.rl 0 ?_
  refine c.rl 4 ?_
  refine c.w7 2 fun _ c=>?_
  refine c.al 4 ?_
  refine c.w4 3 fun _ c=>?_
  refine c.rl 2 ?_
  refine c.rl 3 ?_
  exact hR {v with x:=x',y:=y'} [aG M,aG N] _ (Cx.pack (L:=[]) (c.pick [5,6])) (let H':=H.le (Bs.aR B [aG M,aG N]); ⟨ok.le fun h b=>⟨b.1,Bs.star b (i:=0) rfl⟩,ok2.le fun h b=>⟨b.1,Bs.star b (i:=1) rfl⟩,H'.st⟩)
 | false=>
  unfold dW
  have c:=Cx.aA h
  refine c.v7 fun _ _ c=>?_
  refine c.v8 fun _ _ c=>?_
  refine c.v7 fun _ _ c=>?_
  refine c.v4 fun _ _ c=>?_
  refine vx (aL (ds:=[_,_,_,_]) rfl)<|c.v4 fun _ _ c=>?_
  refine c.w4 4 fun _ c=>?_
  refine .here<|aD<|c.rc 1 ?_
  refine vx (v:=.bool false) rfl<|bD<|aD<|vx (c.vp (i:=0) (ds:=[_,_]) rfl rfl rfl)<|aD<|c.rc 1 ?_
  refine aD<|vx (c.vp (i:=1) (ds:=[_,_,_]) rfl rfl rfl)<|aD<|c.rc 1 ?_
  refine vx (v:=.bool false) rfl<|cs.NG (x:=v.x) (w:=w) (B.up b0 c.gr) H.me k.me hb ht hi fun x' M _ d ok=>?_
  have c:=c.aE d
  replace c:=c.n6
  refine vx rfl<|vx rfl<|aD<|c.vq 0 rfl (vs:=[_,_]) (ds:=[_,_,_,_,_,_,_]) (by exact rfl) (by exact rfl) (by exact rfl) (by exact rfl) (by exact rfl) fun _ c=>?_
  replace c:=c.n6
  refine .here<|aD<|c.rc 4 ?_
  refine eR<|aD<|vx (c.vp (i:=0) (ds:=[_,_,_]) rfl rfl rfl)<|aD<|c.rc 1 ?_
  refine aD<|vx (c.vp (i:=1) (ds:=[_,_,_]) rfl rfl rfl)<|cs.G9 (y:=v.y) (w:=w) (B.up b0 c.gr) H.li k.li hb hi fun y' N _ d ok2=>?_
  have c:=c.aE d
  replace c:=c.n7
  refine vx rfl<|vx rfl<|aD<|c.vq 0 rfl (vs:=[_,_,_]) (ds:=[_,_,_,_,_,_,_]) (by exact rfl) (by exact rfl) (by exact rfl) (by exact rfl) (by exact rfl) fun _ c=>?_
  replace c:=c.n7
  refine c.rl 0 ?_
  refine c.rl 4 ?_
  refine c.w7 2 fun _ c=>?_
  refine c.al 4 ?_
  refine c.w4 3 fun _ c=>?_
  refine c.rl 2 ?_
  refine c.rl 3 ?_
  exact hR {v with x:=x',y:=y'} [aG M,aG N] _ (Cx.pack (L:=[]) (c.pick [5,6])) (let H':=H.le (Bs.aR B [aG M,aG N]); ⟨ok.le fun h b=>⟨b.1,Bs.star b (i:=0) rfl⟩,ok2.le fun h b=>⟨b.1,Bs.star b (i:=1) rfl⟩,H'.st⟩)
structure YJ (S:Sys) (I:aZ):Prop extends VV S I where
 Wt:∀{B:Bs} {T n b i:Nat} {v:MV} {m:Mc} {h R},B.p h→KO B T v m→Kk T n b m→b≤1000000→i<n→(∀h',Gr h h'→R (.tuple #[mW (m.me.top i).w,.bool true]) h')→S.C I.bI [xF v,.int .i64 i] h R
 yw:∀{B:Bs} {T n b t:Nat} {v:MV} {m:Mc} {a:Ac} {h R},B.p h→KO B T v m→Kk T n b m→(1≤t∧t≤T)→(0≤a.op∧a.op≤8)→(a.op≠0→a.op≠8→0≤a.at'∧a.at'<n)→(∀h',Gr h h'→R (.int .i64 0) h')→S.C I.kB [xF v,.int .i64 t,nJ a] h R
 I3:∀{a:Ac} {r:Bool} {h} {R:Value→Hp→Prop},r=decide (a.op=3∨a.op=4∨a.op=6)→(∀h',Gr h h'→R (.bool r) h')→S.C I.oz [nJ a] h R
 Ts:∀{B:Bs} {T n b t i:Nat} {v:MV} {m:Mc} {o1 o2:W3} {ch:Value} {h R},B.p h→KO B T v m→Kk T n b m→b≤1000000→(1≤t∧t≤T)→i<n→(∀v',Rt B h (fun B=>KO B T v' (m.look t i)) fun h'=>R (.tuple #[xF v',k6 ⟨(m.me.top i).w,true⟩]) h')→S.C I.iI [xF v,.int .i64 t,nJ ⟨5,i,o1,o2⟩,ch] h R
 Tr:∀{B:Bs} {T n b t i:Nat} {v:MV} {m:Mc} {old new:W3} {h R},B.p h→KO B T v m→Kk T n b m→b≤900000→(1≤t∧t≤T)→i<n→(∀v',Rt B h (fun B=>KO B T v' (m.swap t i old new)) fun h'=>R (.tuple #[xF v',k6 ⟨(m.me.top i).w,decide ((m.me.top i).w=old)⟩]) h')→S.C I.gQ [xF v,.int .i64 t,nJ ⟨6,i,old,new⟩] h R
 Xu:∀{B:Bs} {T n b t i:Nat} {v:MV} {m:Mc} {w o1:W3} {wl:Bool} {h R},B.p h→KO B T v m→Kk T n b m→b≤900000→(1≤t∧t≤T)→i<n→(∀v',Rt B h (fun B=>KO B T v' (m.put t i w wl)) fun h'=>R (.tuple #[xF v',k6 ⟨W0,true⟩]) h')→S.C I.gQ [xF v,.int .i64 t,nJ ⟨if wl then 4 else 3,i,o1,w⟩] h R
inductive Ak where
 | rest
 | look (i:Nat)
 | swap (i:Nat) (old new:W3)
 | put (i:Nat) (w:W3) (wl:Bool)
def Ak.ac:Ak→Ac
 | .rest=>mL
 | .look i=>⟨5,i,W0,W0⟩
 | .swap i old new=>⟨6,i,old,new⟩
 | .put i w wl=>⟨if wl then 4 else 3,i,W0,w⟩
def Ak.ok (n:Nat):Ak→Prop
 | .rest=>True
 | .look i=>i<n
 | .swap i _ _=>i<n
 | .put i _ _=>i<n
def Mc.act (m:Mc) (t:Nat):Ak→Mc × iM
 | .rest=>(m,⟨W0,true⟩)
 | .look i=>(m.look t i,⟨(m.me.top i).w,true⟩)
 | .swap i old new=>(m.swap t i old new,⟨(m.me.top i).w,decide ((m.me.top i).w=old)⟩)
 | .put i w wl=>(m.put t i w wl,⟨W0,true⟩)
theorem Sk (cs:YJ S I) (b0:B.p h) (H:KO B T v m) (k:Kk T n b m) (hb:b≤900000) (ht:1≤t∧t≤T) {a:Ak} (ha:a.ok n) {ch:Value} (hR:∀v',Rt B h (fun B=>KO B T v' (m.act t a).1) fun h'=>R (.tuple #[xF v',k6 (m.act t a).2,.int .i64 0]) h'):bP S I (xF v) (.int .i64 t) (nJ a.ac) ch h R:=by
 obtain ⟨ss,hs,hl⟩ :=H.st
 have hle:=k.me.le
 have hx:=List.getElem?_eq_getElem (l:=ss) (i:=t - 1) (by omega)
 generalize ss[t - 1]'(by omega)=z at hx
 have et:((t:Nat):Int) - 1=((t - 1:Nat):Int):=by omega
 cases a with
 | rest=>
  unfold bP
  have c:=Cx.aA h
  refine c.v7 fun _ _ c=>?_
  refine c.v8 fun _ _ c=>?_
  refine c.v7 fun _ _ c=>?_
  refine c.v4 fun _ _ c=>?_
  refine c.rl 0 ?_
  refine c.rl 1 ?_
  refine cs.yw (v:=v) (a:=mL) (B.up b0 c.gr) H k ht ⟨by decide,by decide⟩ (fun e=>absurd rfl e) fun _ g=>?_
  have c:=c.more g
  refine vx (v:=.bool false) rfl<|bD<|vx (aL (ds:=[_,_,_,_]) rfl)<|c.v4 fun _ _ c=>?_
  refine c.w4 4 fun _ c=>?_
  refine .here<|c.rl 1 ?_
  refine cs.I3 (a:=mL) (r:=false) rfl fun _ g=>?_
  have c:=c.more g
  refine bD<|aD<|c.rc 1 ?_
  refine vx (v:=.bool false) rfl<|bD<|aD<|c.rc 1 ?_
  refine vx (v:=.bool false) rfl<|bD<|aD<|c.rc 1 ?_
  refine vx (v:=.bool false) rfl<|bD<|aD<|c.rc 0 ?_
  refine cs.yi (hs _ (B.up b0 c.gr)) (by omega) fun s' _ d=>?_
  have c:=c.aE d
  replace c:=c.n6
  refine aD<|c.q7 0 fun _ c=>?_
  refine aD<|c.rc 0 ?_
  refine vx (nj ⟨by omega,by omega⟩) ?_
  rw [et]
  obtain ⟨r,o,cap,el,ei,row⟩ :=(c.sl (i:=5) rfl).ix hx (n:=1) rfl (k:=.i64) (z:=((t - 1:Nat):Int)) rfl
  refine vx ei<|vx (row.Co rfl)<|vx (qo _ _)<|c.D7 5 rfl (j:=t - 1) (by omega) (BA (z+1)) rfl rfl rfl fun _ c=>?_
  replace c:=c.n6
  refine c.rl 0 ?_
  refine c.rl 4 ?_
  refine c.w7 2 fun _ c=>?_
  refine c.al 4 ?_
  refine c.w4 3 fun _ c=>?_
  refine c.rl 2 ?_
  refine c.rl 3 ?_
  exact hR {v with s:=s'} [dA yh (aX s') (ss.set (t - 1) (BA (z+1)))] _ (Cx.pack (L:=[]) (c.pick [5])) (let H':=H.le (Bs.aR B _); ⟨H'.me,H'.li,_,On.sl (i:=0) rfl,by rw [List.length_set]; exact hl⟩)
 | look i=>
  unfold bP
  have c:=Cx.aA h
  refine c.v7 fun _ _ c=>?_
  refine c.v8 fun _ _ c=>?_
  refine c.v7 fun _ _ c=>?_
  refine c.v4 fun _ _ c=>?_
  refine c.rl 0 ?_
  refine c.rl 1 ?_
  refine cs.yw (v:=v) (a:=⟨5,i,W0,W0⟩) (B.up b0 c.gr) H k ht ⟨by dsimp only; decide,by dsimp only; decide⟩ (fun _ _=>⟨Int.natCast_nonneg i,Int.ofNat_lt.2 ha⟩) fun _ g=>?_
  have c:=c.more g
  refine vx (v:=.bool false) rfl<|bD<|vx (aL (ds:=[_,_,_,_]) rfl)<|c.v4 fun _ _ c=>?_
  refine c.w4 4 fun _ c=>?_
  refine .here<|c.rl 1 ?_
  refine cs.I3 (a:=⟨5,i,W0,W0⟩) (r:=false) rfl fun _ g=>?_
  have c:=c.more g
  refine bD<|aD<|c.rc 1 ?_
  refine vx (v:=.bool false) rfl<|bD<|aD<|c.rc 1 ?_
  refine vx (v:=.bool false) rfl<|bD<|aD<|c.rc 1 ?_
  refine vx (v:=.bool true) rfl<|eR<|c.rl 0 ?_
  refine c.rl 1 ?_
  refine cs.Ts (v:=v) (B.up b0 c.gr) H k (by omega) ht ha fun v' M _ d ok=>?_
  have c:=c.aE d
  obtain ⟨ss,hs,hl⟩ :=ok.st
  have hx:=List.getElem?_eq_getElem (l:=ss) (i:=t - 1) (by omega)
  generalize ss[t - 1]'(by omega)=z at hx
  replace c:=c.n6
  refine vx rfl<|vx rfl<|c.w7 0 fun _ c=>?_
  refine c.w4 4 fun _ c=>?_
  refine aD<|c.rc 0 ?_
  refine cs.yi (hs _ ⟨B.up b0 c.gr,c.get (i:=5) rfl⟩) (by omega) fun s' _ d=>?_
  have c:=c.aE d
  replace c:=c.n7
  refine aD<|c.q7 0 fun _ c=>?_
  refine aD<|c.rc 0 ?_
  refine vx (nj ⟨by omega,by omega⟩) ?_
  rw [et]
  obtain ⟨r,o,cap,el,ei,row⟩ :=(c.sl (i:=6) rfl).ix hx (n:=1) rfl (k:=.i64) (z:=((t - 1:Nat):Int)) rfl
  refine vx ei<|vx (row.Co rfl)<|vx (qo _ _)<|c.D7 6 rfl (j:=t - 1) (by omega) (BA (z+1)) rfl rfl rfl fun _ c=>?_
  replace c:=c.n7
  refine c.rl 0 ?_
  refine c.rl 4 ?_
  refine c.w7 2 fun _ c=>?_
  refine c.al 4 ?_
  refine c.w4 3 fun _ c=>?_
  refine c.rl 2 ?_
  refine c.rl 3 ?_
  exact hR {v' with s:=s'} [aG M,dA yh (aX s') (ss.set (t - 1) (BA (z+1)))] _ (Cx.pack (L:=[]) (c.pick [5,6])) (let H':=ok.le (B':=B.and [aG M,dA yh (aX s') (ss.set (t - 1) (BA (z+1)))]) fun h b=>⟨b.1,Bs.star b (i:=0) rfl⟩; ⟨H'.me,H'.li,_,On.sl (i:=1) rfl,by rw [List.length_set]; exact hl⟩)
 | swap i old new=>
  unfold bP
  have c:=Cx.aA h
  refine c.v7 fun _ _ c=>?_
  refine c.v8 fun _ _ c=>?_
  refine c.v7 fun _ _ c=>?_
  refine c.v4 fun _ _ c=>?_
  refine c.rl 0 ?_
  refine c.rl 1 ?_
  refine cs.yw (v:=v) (a:=⟨6,i,old,new⟩) (B.up b0 c.gr) H k ht ⟨by dsimp only; decide,by dsimp only; decide⟩ (fun _ _=>⟨Int.natCast_nonneg i,Int.ofNat_lt.2 ha⟩) fun _ g=>?_
  have c:=c.more g
  refine vx (v:=.bool false) rfl<|bD<|vx (aL (ds:=[_,_,_,_]) rfl)<|c.v4 fun _ _ c=>?_
  refine c.w4 4 fun _ c=>?_
  refine .here<|c.rl 1 ?_
  refine cs.I3 (a:=⟨6,i,old,new⟩) (r:=true) rfl fun _ g=>?_
  have c:=c.more g
  refine eR<|c.rl 0 ?_
  refine c.rl 1 ?_
  refine cs.Tr (v:=v) (B.up b0 c.gr) H k hb ht ha fun v' M _ d ok=>?_
  have c:=c.aE d
  obtain ⟨ss,hs,hl⟩ :=ok.st
  have hx:=List.getElem?_eq_getElem (l:=ss) (i:=t - 1) (by omega)
  generalize ss[t - 1]'(by omega)=z at hx
  replace c:=c.n6
  refine vx rfl<|vx rfl<|c.w7 0 fun _ c=>?_
  refine c.w4 4 fun _ c=>?_
  refine aD<|c.rc 0 ?_
  refine cs.yi (hs _ ⟨B.up b0 c.gr,c.get (i:=5) rfl⟩) (by omega) fun s' _ d=>?_
  have c:=c.aE d
  replace c:=c.n7
  refine aD<|c.q7 0 fun _ c=>?_
  refine aD<|c.rc 0 ?_
  refine vx (nj ⟨by omega,by omega⟩) ?_
  rw [et]
  obtain ⟨r,o,cap,el,ei,row⟩ :=(c.sl (i:=6) rfl).ix hx (n:=1) rfl (k:=.i64) (z:=((t - 1:Nat):Int)) rfl
  refine vx ei<|vx (row.Co rfl)<|vx (qo _ _)<|c.D7 6 rfl (j:=t - 1) (by omega) (BA (z+1)) rfl rfl rfl fun _ c=>?_
  replace c:=c.n7
  refine c.rl 0 ?_
  refine c.rl 4 ?_
  refine c.w7 2 fun _ c=>?_
  refine c.al 4 ?_
  refine c.w4 3 fun _ c=>?_
  refine c.rl 2 ?_
  refine c.rl 3 ?_
  exact hR {v' with s:=s'} [aG M,dA yh (aX s') (ss.set (t - 1) (BA (z+1)))] _ (Cx.pack (L:=[]) (c.pick [5,6])) (let H':=ok.le (B':=B.and [aG M,dA yh (aX s') (ss.set (t - 1) (BA (z+1)))]) fun h b=>⟨b.1,Bs.star b (i:=0) rfl⟩; ⟨H'.me,H'.li,_,On.sl (i:=1) rfl,by rw [List.length_set]; exact hl⟩)
 | put i w wl=>
  have ho:(0:Int)≤(Ak.put i w wl).ac.op∧(Ak.put i w wl).ac.op≤8:=by cases wl <;> (dsimp only [Ak.ac]; decide)
  have hc:true=decide ((Ak.put i w wl).ac.op=3∨(Ak.put i w wl).ac.op=4∨(Ak.put i w wl).ac.op=6):=by cases wl <;> rfl
  unfold bP
  have c:=Cx.aA h
  refine c.v7 fun _ _ c=>?_
  refine c.v8 fun _ _ c=>?_
  refine c.v7 fun _ _ c=>?_
  refine c.v4 fun _ _ c=>?_
  refine c.rl 0 ?_
  refine c.rl 1 ?_
  refine cs.yw (v:=v) (a:=(Ak.put i w wl).ac) (B.up b0 c.gr) H k ht ho (fun _ _=>⟨Int.natCast_nonneg i,Int.ofNat_lt.2 ha⟩) fun _ g=>?_
  have c:=c.more g
  refine vx (v:=.bool false) rfl<|bD<|vx (aL (ds:=[_,_,_,_]) rfl)<|c.v4 fun _ _ c=>?_
  refine c.w4 4 fun _ c=>?_
  refine .here<|c.rl 1 ?_
  refine cs.I3 (a:=(Ak.put i w wl).ac) (r:=true) hc fun _ g=>?_
  have c:=c.more g
  refine eR<|c.rl 0 ?_
  refine c.rl 1 ?_
  refine cs.Xu (v:=v) (w:=w) (wl:=wl) (B.up b0 c.gr) H k hb ht ha fun v' M _ d ok=>?_
  have c:=c.aE d
  obtain ⟨ss,hs,hl⟩ :=ok.st
  have hx:=List.getElem?_eq_getElem (l:=ss) (i:=t - 1) (by omega)
  generalize ss[t - 1]'(by omega)=z at hx
  replace c:=c.n6
  refine vx rfl<|vx rfl<|c.w7 0 fun _ c=>?_
  refine c.w4 4 fun _ c=>?_
  refine aD<|c.rc 0 ?_
  refine cs.yi (hs _ ⟨B.up b0 c.gr,c.get (i:=5) rfl⟩) (by omega) fun s' _ d=>?_
  have c:=c.aE d
  replace c:=c.n7
  refine aD<|c.q7 0 fun _ c=>?_
  refine aD<|c.rc 0 ?_
  refine vx (nj ⟨by omega,by omega⟩) ?_
  rw [et]
  obtain ⟨r,o,cap,el,ei,row⟩ :=(c.sl (i:=6) rfl).ix hx (n:=1) rfl (k:=.i64) (z:=((t - 1:Nat):Int)) rfl
  refine vx ei<|vx (row.Co rfl)<|vx (qo _ _)<|c.D7 6 rfl (j:=t - 1) (by omega) (BA (z+1)) rfl rfl rfl fun _ c=>?_
  replace c:=c.n7
  refine c.rl 0 ?_
  refine c.rl 4 ?_
  refine c.w7 2 fun _ c=>?_
  refine c.al 4 ?_
  refine c.w4 3 fun _ c=>?_
  refine c.rl 2 ?_
  refine c.rl 3 ?_
  exact hR {v' with s:=s'} [aG M,dA yh (aX s') (ss.set (t - 1) (BA (z+1)))] _ (Cx.pack (L:=[]) (c.pick [5,6])) (let H':=ok.le (B':=B.and [aG M,dA yh (aX s') (ss.set (t - 1) (BA (z+1)))]) fun h b=>⟨b.1,Bs.star b (i:=0) rfl⟩; ⟨H'.me,H'.li,_,On.sl (i:=1) rfl,by rw [List.length_set]; exact hl⟩)
end
end Go.En
namespace Go.En
variable {S:Sys} {I:aZ} {h h0 h':Hp} {F F0:Fp} {R:Value→Hp→Prop} {L:List bQ} {B B':Bs}
section
variable {T:Nat} {w:W3} {ws:List W3} {v:SH}
theorem Qy (hR:∀u h',Cx (fun _=>False) h h' [dA wH (aX u) [⟨w,0,none⟩]]→R (vH u) h'):qq S I (mW w) h R:=by
 unfold qq
 have c:=Cx.aA h
 refine c.v3 fun _ _ c=>?_
 refine c.v1 fun _ _ c=>?_
 refine c.rl 0 ?_
 refine vx (aL (ds:=[_,_,_,_,_]) rfl)<|c.jE wH ⟨w,0,none⟩ rfl rfl fun v _ c=>?_
 obtain ⟨u,rfl⟩ :=(c.sl (i:=2) rfl).vO
 replace c:=c.n3
 refine vx (aL (ds:=[_]) rfl)<|c.w1 1 fun _ c=>?_
 refine c.rl 1 ?_
 exact hR u _ (c.pick [2])
structure Z3 (S:Sys) (I:aZ):Prop extends YJ S I where
 Tb:∀{w:W3} {h R},(∀u h',Cx (fun _=>False) h h' [dA wH (aX u) [⟨w,0,none⟩]]→R (vH u) h')→S.C I.qv [mW w] h R
def Me.new (T:Nat) (ws:List W3):Me:=⟨ws.map fun w=>[⟨w,fun _=>0⟩],List.replicate T fun _=>0⟩
theorem TS (cs:Z3 S I) (hs:Sl EW h (aX v) ws) (hT:1≤T∧T≤8) (hw:1≤ws.length∧ws.length≤4096) (hR:∀x M h',Cx (fun _=>False) h h' [aG M]→(∀B:Bs,MO (B.and M) x (Me.new T ws))→R (.tuple #[s7 x,.int .i64 0]) h'):xf S I (.int .i64 T) (aX v) h R:=by
 unfold xf
 have c:=Cx.aA h
 refine c.v2 fun v4_ _ c=>?_
 refine .here<|vx (iZ (by omega))<|bD<|vx (sf (by omega))<|bD<|vx (hs.gr c.gr).ln<|vx (m6 (by omega))<|bD<|vx (hs.gr c.gr).ln<|vx (sf (by omega))<|bD<|c.IL EM none rfl rfl rfl (by omega) (by decide) fun ad _ c=>?_
 obtain ⟨uv,hu⟩:∃uv:SH,aX uv=.slice (some ad) T T:=⟨(some ad,T,T),rfl⟩
 rw [←hu] at c⊢
 replace c:=c.n2
 refine vx (aL (ds:=[_,_]) rfl)<|c.v2 fun m6_ _ c=>?_
 refine c.w2 2 fun _ c=>?_
 refine vx (hs.gr c.gr).ln<|xN.by (fun (i:Nat) z h'=>z=.int .i64 i∧i≤ws.length∧∃u us M,us.length=i∧Cx (fun _=>False) h h' [rV v4_ Og,dA EM (aX uv) (List.replicate T none),rV m6_ [aX u,aX uv],dA xE (aX u) us,aG M]∧∀h'' F,(aG M).P h'' F→∀j u w,us[j]?=some u→ws[j]?=some w→Sl wH h'' (aX u) [⟨w,0,none⟩]) (fun i=>ws.length - i) 0 ⟨rfl,Nat.zero_le _,(none,0,0),([]:List SH),([]:List bQ),rfl,Cx.pack (L:=[_,_,_,_]) (M:=[]) ((c.nil xE).pick [0,1,2,3]),fun _ _ _ j u w hu=>G3 hu⟩ ?_
 rintro i _ h8 ⟨rfl,hi,u,us,M,hl,c,hM⟩ again hagain
 replace c:=c.n5
 refine vx cH<|pC (fun e33=>?_) fun e33=>?_
 ·obtain ⟨w,hw⟩:∃w,ws[i]?=some w:=⟨_,List.getElem?_eq_getElem (by omega)⟩
  refine (hs.gr c.gr).whole rfl hw rfl ?_
  refine c.v3 fun _ _ c=>?_
  refine c.w3 5 fun _ c=>?_
  refine aD<|c.rc 2 ?_
  refine c.rl 5 ?_
  refine cs.Tb fun u1 _ d=>?_
  have c:=c.aE d
  replace c:=c.n7
  refine c.ac 2 ?_
  refine c.jE xE u1 rfl rfl fun v40 _ c=>?_
  replace c:=c.n8
  refine c.ac 2 ?_
  refine c.ap 3 rfl (c.sl (i:=7) rfl).sl rfl rfl (by simp only [List.length_singleton]; omega) (by simp only [List.length_singleton]; omega) fun v41 _ c=>?_
  obtain ⟨u2,rfl⟩ :=(c.sl (i:=3) rfl).vO
  replace c:=c.n8
  refine aD<|c.q2 2 fun _ c=>?_
  refine vx (inc (by omega))<|hagain (i+1) _ _ ⟨rfl,by omega,u2,us++[u1],[aG M,dA wH (aX u1) [⟨w,0,none⟩]],by rw [List.length_append,List.length_singleton,hl],Cx.pack (L:=[_,_,_,_]) (c.pick [0,1,2,3,4,6]),fun h'' F p j u' w' hu' hw'=>?_⟩ (by omega)
  obtain ⟨F1,p1⟩ :=(Cx.star p).get (i:=0) rfl
  obtain ⟨F2,p2⟩ :=(Cx.star p).get (i:=1) rfl
  by_cases hj:j<us.length
  ·rw [List.getElem?_append_left hj] at hu'
   exact hM h'' F1 p1 j u' w' hu' hw'
  ·rw [List.getElem?_append_right (by omega)] at hu'
   have e:j - us.length=0:=by
    have:=(List.getElem?_eq_some_iff.1 hu').1
    rw [List.length_singleton] at this
    omega
   rw [e] at hu'
   simp only [List.getElem?_cons_zero,Option.some.injEq] at hu'
   subst hu'
   rw [show j=i by omega,hw] at hw'
   injection hw' with hw'
   subst hw'
   exact p2.1.sl
 ·refine c.rl 2 ?_
  refine c.w2 0 fun _ c=>?_
  refine c.rl 0 ?_
  have hi:i=ws.length:=by omega
  refine hR (u,uv) [dA EM (aX uv) (List.replicate T none),dA xE (aX u) us,aG M] _ (Cx.pack (L:=[]) (c.pick [1,3,4])) fun B=>⟨⟨_,On.sl (i:=0) rfl,by rw [List.length_replicate,Me.new,List.length_replicate],fun j a f ha hf=>?_⟩,⟨_,On.sl (i:=1) rfl,by rw [hl,hi,Me.new,List.length_map],fun j u' asn hu' has=>?_⟩⟩
  ·have hf:(List.replicate T fun _=>(0:Int))[j]?=some f:=hf
   rw [List.getElem?_replicate] at ha hf
   split at ha
   ·rename_i hj
    rw [if_pos hj] at hf
    injection ha with ha; injection hf with hf
    subst ha hf
    exact VO.zero _
   ·cases ha
  ·have has:(ws.map fun w=>[(⟨w,fun _=>0⟩:AM)])[j]?=some asn:=has
   rw [List.getElem?_map] at has
   cases hw':ws[j]? with
   | none=>rw [hw'] at has; cases has
   | some w'=>
    rw [hw'] at has
    simp only [Option.map_some,Option.some.injEq] at has
    subst has
    refine ⟨_,fun h'' b=>let ⟨_,F,p⟩ :=b; let ⟨F',p'⟩ :=(Cx.star p).get (i:=2) rfl; hM h'' F' p' j u' w' hu' hw',rfl,fun q m am hm ham=>?_⟩
    match q,hm,ham with
    | 0,hm,ham=>
     simp only [List.getElem?_cons_zero,Option.some.injEq] at hm ham
     subst hm ham
     exact ⟨rfl,VO.zero _⟩
    | q+1,hm,ham=>simp at hm
def Li.new (ws:List W3):Li:=⟨ws,List.replicate ((ws.length+7) / 8) ([],0),none⟩
theorem TG (cs:YJ S I) (hs:Sl EW h (aX v) ws) (hw:1≤ws.length∧ws.length≤4096) (hR:∀y M h',Cx (fun _=>False) h h' [aG M]→(∀B:Bs,LO (B.and M) y (Li.new ws))→R (.tuple #[Gw y,.int .i64 0]) h'):AF S I (aX v) h R:=by
 have e8:((ws.length:Int)+8 - 1) / 8=(((ws.length+7) / 8:Nat):Int):=by omega
 have fin:∀(f l:SH) h',Cx (fun _=>False) h h' [dA EW (aX f) ws,dA Lw (aX l) (List.replicate ((ws.length+7) / 8) ((none,0,0),0))]→R (.tuple #[Gw ⟨f,l,none⟩,.int .i64 0]) h':=fun f l h' c=>by
  refine hR ⟨f,l,none⟩ _ _ (Cx.pack (L:=[]) c) fun B=>⟨On.sl (i:=0) rfl,⟨_,On.sl (i:=1) rfl,by rw [List.length_replicate,Li.new,List.length_replicate],fun j u g hu hg=>?_⟩,rfl⟩
  have hg:(List.replicate ((ws.length+7) / 8) (([]:List UE),(0:Int)))[j]?=some g:=hg
  rw [List.getElem?_replicate] at hu hg
  split at hu
  ·rename_i hj
   rw [if_pos hj] at hg
   injection hu with hu; injection hg with hg
   subst hu hg
   exact ⟨rfl,fun h b=>⟨none,0,rfl,Nat.le_refl _,(fun _=>rfl),fun i x hx=>by simp at hx⟩⟩
  ·cases hu
 unfold AF
 have c:=Cx.aA h
 refine c.v3 fun _ _ c=>?_
 refine vx (hs.gr c.gr).ln<|vx (sf (by omega))<|bD ?_
 refine .here<|vx (hs.gr c.gr).ln<|vx (qV ⟨by omega,by omega⟩)<|vx (nj ⟨by omega,by omega⟩)<|vx (EF ⟨by omega,by omega⟩ (by decide)) ?_
 rw [e8]
 refine ⟨?_,?_⟩
 ·refine cs.Jn (hs.gr c.gr) (by omega) fun f _ d=>?_
  have c:=c.aE d
  replace c:=c.n2
  refine c.IL Lw ((none,0,0),0) rfl rfl rfl (by omega) (by decide) fun ad _ c=>?_
  obtain ⟨l,hl⟩:∃l:SH,aX l=.slice (some ad) ((ws.length+7) / 8) ((ws.length+7) / 8):=⟨(some ad,(ws.length+7) / 8,(ws.length+7) / 8),rfl⟩
  rw [←hl] at c⊢
  replace c:=c.n3
  refine vx (aL (ds:=[_,_,_]) rfl)<|c.w3 0 fun _ c=>?_
  refine c.rl 0 ?_
  exact fin f l _ (c.pick [1,2])
 ·refine c.IL Lw ((none,0,0),0) rfl rfl rfl (by omega) (by decide) fun ad _ c=>?_
  obtain ⟨l,hl⟩:∃l:SH,aX l=.slice (some ad) ((ws.length+7) / 8) ((ws.length+7) / 8):=⟨(some ad,(ws.length+7) / 8,(ws.length+7) / 8),rfl⟩
  rw [←hl] at c⊢
  replace c:=c.n2
  refine cs.Jn (hs.gr c.gr) (by omega) fun f _ d=>?_
  have c:=c.aE d
  replace c:=c.n3
  refine vx (aL (ds:=[_,_,_]) rfl)<|c.w3 0 fun _ c=>?_
  refine c.rl 0 ?_
  exact fin f l _ (c.pick [2,1])
structure ZF (S:Sys) (I:aZ):Prop extends Z3 S I where
 Xk:∀{T:Nat} {v:SH} {ws:List W3} {h R},Sl EW h (aX v) ws→(1≤T∧T≤8)→(1≤ws.length∧ws.length≤4096)→(∀x M h',Cx (fun _=>False) h h' [aG M]→(∀B:Bs,MO (B.and M) x (Me.new T ws))→R (.tuple #[s7 x,.int .i64 0]) h')→S.C I.tD [.int .i64 T,aX v] h R
 Wr:∀{v:SH} {ws:List W3} {h R},Sl EW h (aX v) ws→(1≤ws.length∧ws.length≤4096)→(∀y M h',Cx (fun _=>False) h h' [aG M]→(∀B:Bs,LO (B.and M) y (Li.new ws))→R (.tuple #[Gw y,.int .i64 0]) h')→S.C I.xy [aX v] h R
theorem U6 (cs:ZF S I) (hs:Sl EW h (aX v) ws) (hT:1≤T∧T≤8) (hw:1≤ws.length∧ws.length≤4096) (hR:∀v M h',Cx (fun _=>False) h h' [aG M]→(∀B:Bs,KO (B.and M) T v ⟨Me.new T ws,Li.new ws⟩)→R (.tuple #[xF v,.int .i64 0]) h'):vt S I (.int .i64 T) (aX v) h R:=by
 unfold vt
 have c:=Cx.aA h
 refine c.v7 fun _ _ c=>?_
 refine cs.Xk (hs.gr c.gr) hT hw fun x M _ d ok=>?_
 have c:=c.aE d
 replace c:=c.n2
 refine vx rfl<|vx rfl<|c.v2 fun _ _ c=>?_
 refine c.w2 2 fun _ c=>?_
 refine vx (v:=.bool false) rfl<|bD<|cs.Wr (hs.gr c.gr) hw fun y N _ d ok2=>?_
 have c:=c.aE d
 replace c:=c.n4
 refine vx rfl<|vx rfl<|c.v3 fun _ _ c=>?_
 refine c.w3 4 fun _ c=>?_
 refine vx (v:=.bool false) rfl<|bD<|c.rl 2 ?_
 refine c.rl 4 ?_
 refine c.IL yh 0 rfl rfl rfl (by omega) (by decide) fun ad _ c=>?_
 obtain ⟨s,hl⟩:∃l:SH,aX l=.slice (some ad) T T:=⟨(some ad,T,T),rfl⟩
 rw [←hl] at c⊢
 replace c:=c.n6
 refine c.al 4 ?_
 refine c.al 2 ?_
 refine vx (aL (ds:=[_,_,_,_,_,_,_]) rfl)<|c.w7 0 fun _ c=>?_
 refine c.rl 0 ?_
 exact hR ⟨x,y,s,0⟩ [aG M,aG N,dA yh (aX s) (List.replicate T 0)] _ (Cx.pack (L:=[]) (c.pick [1,3,5])) fun B=>⟨(ok B).le fun h b=>⟨b.1,Bs.star b (i:=0) rfl⟩,(ok2 B).le fun h b=>⟨b.1,Bs.star b (i:=1) rfl⟩,_,On.sl (i:=2) rfl,List.length_replicate⟩
theorem Kk.new (hT:T≤8) (hw:ws.length≤4096):Kk T ws.length 1 ⟨Me.new T ws,Li.new ws⟩ :=by
 refine ⟨⟨List.length_replicate,List.length_map _,⟨hT,hw⟩,fun asn has=>?_⟩,⟨rfl,List.length_replicate,hw,fun g hg=>?_⟩⟩
 ·obtain ⟨w,_,rfl⟩ :=List.mem_map.1 has
  exact ⟨Nat.le_refl _,Nat.le_refl _⟩
 ·rw [List.eq_of_mem_replicate hg]
  exact Nat.zero_le _
end
end Go.En
namespace Go.En
variable {S:Sys} {I:aZ} {h h0 h':Hp} {F F0:Fp} {R:Value→Hp→Prop} {L:List bQ} {B B':Bs}
def nxV:Bool→TypeId→Value→Value
 | true,_,_=>.nilFunc
 | false,t,v=>.func (.method "Next") #[.iface t v] #[]
structure Tk where
 t:TypeId
 v:Value
 dn:Bool
 act:Ac
 s:SH
def Nt (x:Tk):List Value:=[.iface x.t x.v,nxV x.dn x.t x.v,.int .i64 x.act.op,.int .i64 x.act.at',.int .i64 x.act.old.v,.int .u32 x.act.old.dN,.int .u32 x.act.old.ref,.int .i64 x.act.new.v,.int .u32 x.act.new.dN,.int .u32 x.act.new.ref,aX x.s]
theorem Qz (d:Bool) (t:TypeId) (v:Value):(nxV d t v).oneCell'=true:=by cases d <;> rfl
theorem Rk (a:Tk) (v:Value) (h:v∈Nt a):v.oneCell'=true:=by
 unfold Nt at h
 simp only [List.mem_cons,List.not_mem_nil,or_false] at h
 rcases h with rfl | rfl | rfl | rfl | rfl | rfl | rfl | rfl | rfl | rfl | rfl
 all_goals first | rfl | exact Qz _ _ _
def FD:qd Tk:={n:=11,c:=Nt,len:=fun _=>rfl,one:=Rk}
def Aq (x:Tk):Value:=.agg ⟨Nt x⟩
def Xo:Value:=.agg #[.nilIface,.nilFunc,.int .i64 0,.int .i64 0,.int .i64 0,.int .u32 0,.int .u32 0,.int .i64 0,.int .u32 0,.int .u32 0,.slice none 0 0]
def F6:qd iM:={n:=4,c:=fun x=>[.int .i64 x.w.v,.int .u32 x.w.dN,.int .u32 x.w.ref,.bool x.ok],len:=fun _=>rfl,one:=fun a v h=>by simp only [List.mem_cons,List.not_mem_nil,or_false] at h; rcases h with rfl | rfl | rfl | rfl <;> rfl}
section
variable {t t':TypeId} {v v':Value} {d:Bool} {a a':Ac} {s:SH} {x:Tk} {gs:List iM} {g:iM}
theorem QT (hR:∀h',Gr h h'→R (Aq ⟨t',v',d,if d then mL else a',(none,0,0)⟩) h'):gR S I Xo (.iface t' v') (nJ a') (.bool d) h R:=by
 cases d with
 | true=>
  unfold gR
  have c:=Cx.aA h
  refine c.v11 fun _ _ c=>?_
  refine c.v8 fun _ _ c=>?_
  refine c.v11 fun _ _ c=>?_
  refine c.rl 1 ?_
  refine aD<|c.Ly 0 fun _ c=>?_
  refine c.al 1 ?_
  refine aD<|c.vq 0 rfl (vs:=[_,_,_,_,_,_,_,_]) (ds:=[_,_,_,_,_,_,_,_,_,_,_]) (by exact rfl) (by exact rfl) (by exact rfl) (by exact rfl) (by exact rfl) fun _ c=>?_
  replace c:=c.n3
  refine aD<|c.Ly 0 fun _ c=>?_
  refine .here<|eR<|eR<|vx (aL (ds:=[_,_,_,_,_,_,_,_]) rfl)<|aD<|c.vq 0 rfl (vs:=[_,_,_,_,_,_,_,_]) (ds:=[_,_,_,_,_,_,_,_,_,_,_]) (by exact rfl) (by exact rfl) (by exact rfl) (by exact rfl) (by exact rfl) fun _ c=>?_
  replace c:=c.n3
  refine c.rl 0 ?_
  refine c.Yq 2 fun _ c=>?_
  refine c.rl 2 ?_
  exact hR _ c.gr
 | false=>
  unfold gR
  have c:=Cx.aA h
  refine c.v11 fun _ _ c=>?_
  refine c.v8 fun _ _ c=>?_
  refine c.v11 fun _ _ c=>?_
  refine c.rl 1 ?_
  refine aD<|c.Ly 0 fun _ c=>?_
  refine c.al 1 ?_
  refine aD<|c.vq 0 rfl (vs:=[_,_,_,_,_,_,_,_]) (ds:=[_,_,_,_,_,_,_,_,_,_,_]) (by exact rfl) (by exact rfl) (by exact rfl) (by exact rfl) (by exact rfl) fun _ c=>?_
  replace c:=c.n3
  refine aD<|c.Ly 0 fun _ c=>?_
  refine .here<|bD<|vx rfl<|bD<|vx rfl<|vx rfl<|aD<|c.Ly 0 fun _ c=>?_
  refine c.rl 0 ?_
  refine c.Yq 2 fun _ c=>?_
  refine c.rl 2 ?_
  exact hR _ c.gr
theorem TB (hR:∀h',Gr h h'→R (Aq ⟨t',v',d,if d then mL else a',s⟩) h'):gR S I (Aq ⟨t,v,false,a,s⟩) (.iface t' v') (nJ a') (.bool d) h R:=by
 cases d with
 | true=>
  unfold gR
  have c:=Cx.aA h
  refine c.v11 fun _ _ c=>?_
  refine c.v8 fun _ _ c=>?_
  refine c.v11 fun _ _ c=>?_
  refine c.rl 1 ?_
  refine aD<|c.Ly 0 fun _ c=>?_
  refine c.al 1 ?_
  refine aD<|c.vq 0 rfl (vs:=[_,_,_,_,_,_,_,_]) (ds:=[_,_,_,_,_,_,_,_,_,_,_]) (by exact rfl) (by exact rfl) (by exact rfl) (by exact rfl) (by exact rfl) fun _ c=>?_
  replace c:=c.n3
  refine aD<|c.Ly 0 fun _ c=>?_
  refine .here<|eR<|eR<|vx (aL (ds:=[_,_,_,_,_,_,_,_]) rfl)<|aD<|c.vq 0 rfl (vs:=[_,_,_,_,_,_,_,_]) (ds:=[_,_,_,_,_,_,_,_,_,_,_]) (by exact rfl) (by exact rfl) (by exact rfl) (by exact rfl) (by exact rfl) fun _ c=>?_
  replace c:=c.n3
  refine c.rl 0 ?_
  refine c.Yq 2 fun _ c=>?_
  refine c.rl 2 ?_
  exact hR _ c.gr
 | false=>
  unfold gR
  have c:=Cx.aA h
  refine c.v11 fun _ _ c=>?_
  refine c.v8 fun _ _ c=>?_
  refine c.v11 fun _ _ c=>?_
  refine c.rl 1 ?_
  refine aD<|c.Ly 0 fun _ c=>?_
  refine c.al 1 ?_
  refine aD<|c.vq 0 rfl (vs:=[_,_,_,_,_,_,_,_]) (ds:=[_,_,_,_,_,_,_,_,_,_,_]) (by exact rfl) (by exact rfl) (by exact rfl) (by exact rfl) (by exact rfl) fun _ c=>?_
  replace c:=c.n3
  refine aD<|c.Ly 0 fun _ c=>?_
  refine .here<|bD<|vx rfl<|bD<|vx rfl<|vx rfl<|aD<|c.Ly 0 fun _ c=>?_
  refine c.rl 0 ?_
  refine c.Yq 2 fun _ c=>?_
  refine c.rl 2 ?_
  exact hR _ c.gr
theorem QD (hR:∀h',Gr h h'→R (.bool x.dn) h'):pE S I (Aq x) h R:=by
 obtain ⟨t,v,d,a,s⟩ :=x
 cases d with
 | true=>
  unfold pE
  have c:=Cx.aA h
  refine c.v11 fun _ _ c=>?_
  refine aD<|c.rc 0 ?_
  exact vx (v:=.bool true) rfl<|hR _ c.gr
 | false=>
  unfold pE
  have c:=Cx.aA h
  refine c.v11 fun _ _ c=>?_
  refine aD<|c.rc 0 ?_
  exact vx (v:=.bool false) rfl<|hR _ c.gr
theorem K7 (hR:∀h',Gr h h'→R (.iface x.t x.v) h'):pS S I (Aq x) h R:=by
 obtain ⟨t,v,d,a,s⟩ :=x
 cases d with
 | true=>
  unfold pS
  have c:=Cx.aA h
  refine c.v11 fun _ _ c=>?_
  refine aD<|c.rc 0 ?_
  exact hR _ c.gr
 | false=>
  unfold pS
  have c:=Cx.aA h
  refine c.v11 fun _ _ c=>?_
  refine aD<|c.rc 0 ?_
  exact hR _ c.gr
theorem Oq (b0:B.p h) (hs:On B fun h=>Sl F6 h (aX x.s) gs) (hR:∀h',Gr h h'→R (.int .i64 gs.length) h'):ou S I (Aq x) h R:=by
 obtain ⟨t,v,d,a,s⟩ :=x
 cases d with
 | true=>
  unfold ou
  have c:=Cx.aA h
  refine c.v11 fun _ _ c=>?_
  refine aD<|c.rc 0 ?_
  exact vx (hs h b0).ln<|hR _ c.gr
 | false=>
  unfold ou
  have c:=Cx.aA h
  refine c.v11 fun _ _ c=>?_
  refine aD<|c.rc 0 ?_
  exact vx (hs h b0).ln<|hR _ c.gr
theorem QV {v u:Value} {us:List iM} (hs:Sl F6 h v us) (e:vR 4 v none (some (.int .i64 us.length)) (some (.int .i64 us.length))=some u) (hR:R u h):j7 S I v h R:=by
 unfold j7
 exact Lm hs e hR
theorem O4 {v:Value} {us:List Tk} (hs:Sl FD h v us) (hl:us.length≤1000000) (hR:∀u h',Cx (fun _=>False) h h' [dA FD (aX u) us]→R (aX u) h'):gJ S I v h R:=by
 unfold gJ
 exact yS hs rfl rfl (by omega) (by omega) hR
structure Wo (S:Sys) (I:aZ):Prop extends ZF S I where
 NK:∀{t':TypeId} {v':Value} {d:Bool} {a':Ac} {h} {R:Value→Hp→Prop},(∀h',Gr h h'→R (Aq ⟨t',v',d,if d then mL else a',(none,0,0)⟩) h')→S.C I.jJ [Xo,.iface t' v',nJ a',.bool d] h R
 told:∀{t t':TypeId} {v v':Value} {d:Bool} {a a':Ac} {s:SH} {h} {R:Value→Hp→Prop},(∀h',Gr h h'→R (Aq ⟨t',v',d,if d then mL else a',s⟩) h')→S.C I.jJ [Aq ⟨t,v,false,a,s⟩,.iface t' v',nJ a',.bool d] h R
 DY:∀{x:Tk} {h} {R:Value→Hp→Prop},(∀h',Gr h h'→R (.bool x.dn) h')→S.C I.gL [Aq x] h R
 Wv:∀{x:Tk} {h} {R:Value→Hp→Prop},(∀h',Gr h h'→R (.iface x.t x.v) h')→S.C I.mU [Aq x] h R
 TC:∀{B:Bs} {x:Tk} {gs:List iM} {h R},B.p h→(On B fun h=>Sl F6 h (aX x.s) gs)→(∀h',Gr h h'→R (.int .i64 gs.length) h')→S.C I.rP [Aq x] h R
 HF:∀{v u:Value} {us:List iM} {h} {R:Value→Hp→Prop},Sl F6 h v us→vR 4 v none (some (.int .i64 us.length)) (some (.int .i64 us.length))=some u→R u h→S.C I.eE [v] h R
 OC:∀{v:Value} {us:List Tk} {h R},Sl FD h v us→us.length≤1000000→(∀u h',Cx (fun _=>False) h h' [dA FD (aX u) us]→R (aX u) h')→S.C I.eI [v] h R
theorem TA (cs:Wo S I) (hR:∀h',Gr h h'→R (.tuple #[nJ x.act,.bool !x.dn]) h'):qy S I (Aq x) h R:=by
 obtain ⟨t,v,d,a,s⟩ :=x
 cases d with
 | true=>
  unfold qy
  have c:=Cx.aA h
  refine c.v11 fun _ _ c=>?_
  refine c.v8 fun _ _ c=>?_
  refine aD<|vx (c.vp (i:=0) (ds:=[_,_,_,_,_,_,_,_]) rfl rfl rfl)<|c.rl 0 ?_
  refine cs.DY (x:=⟨t,v,true,a,s⟩) fun _ g=>?_
  have c:=c.more g
  refine And.intro (c.vp (i:=0) (ds:=[_,_,_,_,_,_,_,_]) rfl rfl rfl) ?_
  refine vx rfl<|c.w8 1 fun _ c=>?_
  refine c.rl 1 ?_
  exact hR _ c.gr
 | false=>
  unfold qy
  have c:=Cx.aA h
  refine c.v11 fun _ _ c=>?_
  refine c.v8 fun _ _ c=>?_
  refine aD<|vx (c.vp (i:=0) (ds:=[_,_,_,_,_,_,_,_]) rfl rfl rfl)<|c.rl 0 ?_
  refine cs.DY (x:=⟨t,v,false,a,s⟩) fun _ g=>?_
  have c:=c.more g
  refine And.intro (c.vp (i:=0) (ds:=[_,_,_,_,_,_,_,_]) rfl rfl rfl) ?_
  refine vx rfl<|c.w8 1 fun _ c=>?_
  refine c.rl 1 ?_
  exact hR _ c.gr
def Yj (S:Sys) (B:Bs) (f:Nat) (t:TypeId) (v:Value) (g:iM) (Q:Bs→Value→Ac→Bool→Prop):Prop:=
 ∀h (R:Value→Hp→Prop),B.p h→(∀v' a' d,Rt B h (fun B=>Q B v' a' d) fun h'=>R (.tuple #[.iface t v',nJ a',.bool d]) h')→S.C f [v,k6 g] h R
variable {f:Nat} {Q:Bs→Value→Ac→Bool→Prop}
theorem O8 (cs:Wo S I) (b0:B.p h) (hf:I.mt t "Next"=some f) (hN:Yj S B f t v qY Q) (hR:∀v' a' d,Rt B h (fun B=>Q B v' a' d) fun h'=>R (Aq ⟨t,v',d,if d then mL else a',(none,0,0)⟩) h'):pN S I (.iface t v) h R:=by
 have fin:∀v' a' d M h',Cx (fun _=>False) h h' [aG M]→Q (B.and M) v' a' d→R (Aq ⟨t,v',d,if d then mL else a',(none,0,0)⟩) h':=fun v' a' d M h' c q=>hR v' a' d M h' c q
 unfold pN
 have c:=Cx.aA h
 refine c.v11 fun _ _ c=>?_
 refine vx (v:=.bool false) (rfl)<|bD<|vx (aL (ds:=[_,_,_,_,_,_,_,_,_,_,_]) rfl)<|vx (aL (ds:=[_,_,_,_]) rfl)<|⟨_,_,_,rfl,hf,hN _ _ (B.up b0 c.gr) fun v' a' d M _ dd ok=>?_⟩
 have c:=c.aE dd
 replace c:=c.n2
 refine vx rfl<|vx rfl<|vx rfl<|cs.NK fun _ g=>?_
 have c:=c.more g
 have hcs:(Aq ⟨t,v',d,if d then mL else a',(none,0,0)⟩).cells.toList=Nt ⟨t,v',d,if d then mL else a',(none,0,0)⟩ :=rfl
 refine c.vw 0 rfl (vs:=Nt ⟨t,v',d,if d then mL else a',(none,0,0)⟩) hcs (List.all_eq_true.2 fun x hx=>FD.one ⟨t,v',d,if d then mL else a',(none,0,0)⟩ x hx) rfl rfl fun _ c=>?_
 replace c:=c.n2
 refine c.rl 0 ?_
 exact fin v' a' d M _ (c.pick [1]) ok
theorem RO (cs:Wo S I) (b0:B.p h) (hf:I.mt t "Next"=some f) (hs:On B fun h=>Sl F6 h (aX s) gs) (hl:gs.length≤1000000) (hN:Yj S B f t v g Q) (hQ:∀{B B':Bs},B.le B'→∀{v a d},Q B v a d→Q B' v a d)
  (hR:∀v' a' d s',Rt B h (fun B=>Q B v' a' d∧On B fun h=>Sl F6 h (aX s') (gs++[g])) fun h'=>R (Aq ⟨t,v',d,if d then mL else a',s'⟩) h'):k8 S I (Aq ⟨t,v,false,a,s⟩) (k6 g) h R:=by
 obtain ⟨ac,ec,Hc⟩ :=(hs h b0).Bz (n:=4) rfl
 have fin:∀v' a' d s' M h',Cx (fun _=>False) h h' [aG M,dA F6 (aX s') (gs++[g])]→Q (B.and M) v' a' d→R (Aq ⟨t,v',d,if d then mL else a',s'⟩) h':=fun v' a' d s' M h' c q=>hR v' a' d s' [aG M,dA F6 (aX s') (gs++[g])] h' (Cx.pack (L:=[]) c) ⟨hQ (Bs.Eg (i:=0) rfl) q,On.sl (i:=1) rfl⟩
 unfold k8
 have c:=Cx.aA h
 refine c.v11 fun _ _ c=>?_
 refine c.v4 fun _ _ c=>?_
 refine c.v11 fun _ _ c=>?_
 refine c.rl 0 ?_
 refine cs.DY fun _ gr=>?_
 have c:=c.more gr
 refine bD<|aD<|c.rc 0 ?_
 refine .here<|aD<|c.rc 0 ?_
 refine c.rl 1 ?_
 refine ⟨?_,?_⟩
 ·refine cs.HF (hs _ (B.up b0 c.gr)) ec ?_
  refine c.al 1 ?_
  refine c.jE F6 g rfl rfl fun qW _ c=>?_
  replace c:=c.n4
  refine c.Nu (Hc.gr c.gr) (c.sl (i:=3) rfl).sl (by simp) rfl rfl (by rw [List.length_singleton]; omega) (by rw [List.length_singleton]; omega) fun TJ _ c=>?_
  obtain ⟨s',rfl⟩ :=(c.sl (i:=4) rfl).vO
  replace c:=c.n5
  refine aD<|c.Ly 0 fun _ c=>?_
  refine c.rl 0 ?_
  refine c.rl 1 ?_
  refine .inr ⟨_,_,rfl,_,_,_,rfl,hf,hN _ _ (B.up b0 c.gr) fun v' a' d M _ dd ok=>?_⟩
  have c:=c.aE dd
  replace c:=c.n6
  refine c.al 0 ?_
  refine vx rfl<|vx rfl<|vx rfl<|cs.told (t:=t) (v:=v) (a:=a) (s:=s') fun _ gr=>?_
  have c:=c.more gr
  refine c.vw 2 rfl (vs:=Nt ⟨t,v',d,if d then mL else a',s'⟩) rfl (List.all_eq_true.2 fun x hx=>FD.one ⟨t,v',d,if d then mL else a',s'⟩ x hx) rfl rfl fun _ c=>?_
  replace c:=c.n6
  refine c.rl 2 ?_
  exact fin v' a' d s' M _ (c.pick [5,4]) ok
 ·refine c.jE F6 g rfl rfl fun qW _ c=>?_
  replace c:=c.n4
  refine c.ac 0 ?_
  refine cs.HF (hs _ (B.up b0 c.gr)) ec ?_
  refine c.Nu (Hc.gr c.gr) (c.sl (i:=3) rfl).sl (by simp) rfl rfl (by rw [List.length_singleton]; omega) (by rw [List.length_singleton]; omega) fun TJ _ c=>?_
  obtain ⟨s',rfl⟩ :=(c.sl (i:=4) rfl).vO
  replace c:=c.n5
  refine aD<|c.Ly 0 fun _ c=>?_
  refine c.rl 0 ?_
  refine c.rl 1 ?_
  refine .inr ⟨_,_,rfl,_,_,_,rfl,hf,hN _ _ (B.up b0 c.gr) fun v' a' d M _ dd ok=>?_⟩
  have c:=c.aE dd
  replace c:=c.n6
  refine c.al 0 ?_
  refine vx rfl<|vx rfl<|vx rfl<|cs.told (t:=t) (v:=v) (a:=a) (s:=s') fun _ gr=>?_
  have c:=c.more gr
  refine c.vw 2 rfl (vs:=Nt ⟨t,v',d,if d then mL else a',s'⟩) rfl (List.all_eq_true.2 fun x hx=>FD.one ⟨t,v',d,if d then mL else a',s'⟩ x hx) rfl rfl fun _ c=>?_
  replace c:=c.n6
  refine c.rl 2 ?_
  exact fin v' a' d s' M _ (c.pick [5,4]) ok
end
end Go.En
namespace Go.En
variable {S:Sys} {I:aZ} {h h0 h':Hp} {F F0:Fp} {R:Value→Hp→Prop} {L:List bQ} {B B':Bs}
structure WV where
 m:MV
 ts:SH
 st:SH
abbrev Np (w:WV):List Value:=[aX w.m.x.1,aX w.m.x.2,aX w.m.y.f,aX w.m.y.l,.map w.m.y.a,aX w.m.s,.int .i64 w.m.cr,aX w.ts,aX w.st]
def FA (w:WV):Value:=.agg #[aX w.m.x.1,aX w.m.x.2,aX w.m.y.f,aX w.m.y.l,.map w.m.y.a,aX w.m.s,.int .i64 w.m.cr,aX w.ts,aX w.st]
def Yo (k t c:Int):Value:=.agg #[.int .i64 k,.int .i64 t,.int .i64 c]
section
variable {T n b t:Nat} {w:WV} {mc:Mc} {tks:List Tk} {gss:List (List iM)} {tk:Tk} {gs:List iM} {z:Int}
structure CqA (S:Sys) (I:aZ):Prop extends Wo S I where
 W4:∀{x:Tk} {h} {R:Value→Hp→Prop},(∀h',Gr h h'→R (.tuple #[nJ x.act,.bool !x.dn]) h')→S.C I.qw [Aq x] h R
 T7:∀{B:Bs} {f:Nat} {t:TypeId} {v:Value} {Q:Bs→Value→Ac→Bool→Prop} {h R},B.p h→I.mt t "Next"=some f→Yj S B f t v qY Q→(∀v' a' d,Rt B h (fun B=>Q B v' a' d) fun h'=>R (Aq ⟨t,v',d,if d then mL else a',(none,0,0)⟩) h')→S.C I.r7 [.iface t v] h R
 XY:∀{B:Bs} {f:Nat} {t:TypeId} {v:Value} {a:Ac} {s:SH} {gs:List iM} {g:iM} {Q:Bs→Value→Ac→Bool→Prop} {h R},B.p h→I.mt t "Next"=some f→(On B fun h=>Sl F6 h (aX s) gs)→gs.length≤1000000→Yj S B f t v g Q→(∀{B B':Bs},B.le B'→∀{v a d},Q B v a d→Q B' v a d)→
  (∀v' a' d s',Rt B h (fun B=>Q B v' a' d∧On B fun h=>Sl F6 h (aX s') (gs++[g])) fun h'=>R (Aq ⟨t,v',d,if d then mL else a',s'⟩) h')→S.C I.m7 [Aq ⟨t,v,false,a,s⟩,k6 g] h R
 kDo:∀{B:Bs} {T n b t:Nat} {v:MV} {m:Mc} {a:Ak} {ch:Value} {h R},B.p h→KO B T v m→Kk T n b m→b≤900000→(1≤t∧t≤T)→a.ok n→(∀v',Rt B h (fun B=>KO B T v' (m.act t a).1) fun h'=>R (.tuple #[xF v',k6 (m.act t a).2,.int .i64 0]) h')→
  S.C I.fB [xF v,.int .i64 t,nJ a.ac,ch] h R
end
end Go.En
namespace Go.En
variable {S:Sys} {I:aZ} {h h0 h':Hp} {F F0:Fp} {R:Value→Hp→Prop} {L:List bQ} {B B':Bs}
def Ss:qd (TypeId × Value):={n:=1,c:=fun x=>[.iface x.1 x.2],len:=fun _=>rfl,one:=fun a v h=>by simp only [List.mem_singleton] at h; subst h; rfl}
end Go.En
namespace Go.En
theorem KL {r:Int} (h:0≤r∧r<4294967296):bin .shr (.int .u32 r) (.int .u64 24)=some (.int .u32 (r / 16777216)):=by
 obtain ⟨n,rfl⟩ :=Int.eq_ofNat_of_zero_le h.1
 show some (Value.int .u32 ((n:Int).fdiv (2 ^ (min (24:Int).toNat 32))))=_
 rw [Int.fdiv_eq_ediv_of_nonneg _ (by decide)]
 rfl
theorem KY {r:Int} (h:0≤r∧r<4294967296):bin .and (.int .u32 r) (.int .u32 16777215)=some (.int .u32 (r % 16777216)):=by
 obtain ⟨n,rfl⟩ :=Int.eq_ofNat_of_zero_le h.1
 have hn:n<4294967296:=by omega
 show some (Value.int .u32 (IntKind.u32.wrap ((BitVec.ofInt 32 (n:Int)&&& BitVec.ofInt 32 16777215).toNat:Nat)))=_
 have e:(BitVec.ofInt 32 (n:Int)&&& BitVec.ofInt 32 16777215).toNat=n % 16777216:=by
  rw [BitVec.toNat_and,show (BitVec.ofInt 32 16777215).toNat=2 ^ 24 - 1 from by decide,Nat.and_two_pow_sub_one_eq_mod,show BitVec.ofInt 32 (n:Int)=BitVec.ofNat 32 n from BitVec.ofInt_natCast ..,BitVec.toNat_ofNat]
  omega
 rw [e]
 show some (Value.int .u32 (((n % 16777216:Nat):Int) % 4294967296))=_
 congr 2
 omega
theorem VC {w q:Int} (hw:0≤w∧w<256) (hq:0≤q∧q<16777216):bin .or (.int .u32 (w*16777216)) (.int .u32 q)=some (.int .u32 (w*16777216+q)):=by
 obtain ⟨a,rfl⟩ :=Int.eq_ofNat_of_zero_le hw.1
 obtain ⟨b,rfl⟩ :=Int.eq_ofNat_of_zero_le hq.1
 have ha:a<256:=by omega
 have hb:b<16777216:=by omega
 show some (Value.int .u32 (IntKind.u32.wrap ((BitVec.ofInt 32 ((a:Int)*16777216)||| BitVec.ofInt 32 (b:Int)).toNat:Nat)))=_
 have e:(BitVec.ofInt 32 ((a:Int)*16777216)||| BitVec.ofInt 32 (b:Int)).toNat=a*16777216+b:=by
  rw [show ((a:Int)*16777216)=((a*16777216:Nat):Int) by omega,show BitVec.ofInt 32 ((a*16777216:Nat):Int)=BitVec.ofNat 32 (a*16777216) from BitVec.ofInt_natCast ..,show BitVec.ofInt 32 (b:Int)=BitVec.ofNat 32 b from BitVec.ofInt_natCast ..,BitVec.toNat_or,BitVec.toNat_ofNat,BitVec.toNat_ofNat,Nat.mod_eq_of_lt (by omega),Nat.mod_eq_of_lt (by omega)]
  have:=Nat.shiftLeft_add_eq_or_of_lt (b:=b) (i:=24) (by omega) a
  rw [Nat.shiftLeft_eq] at this
  exact this.symm
 rw [e]
 show some (Value.int .u32 (((a*16777216+b:Nat):Int) % 4294967296))=_
 congr 2
 omega
theorem Q5 {w:Int} (hw:0≤w∧w<256):bin .shl (.int .u32 w) (.int .u64 24)=some (.int .u32 (w*16777216)):=by
 obtain ⟨a,rfl⟩ :=Int.eq_ofNat_of_zero_le hw.1
 show some (Value.int .u32 (((a:Int)*2 ^ 24) % 4294967296))=_
 congr 2
 omega
def eU (who seq:Int):Int:=who*16777216+seq
def IQ (who seq:Int):Bool:=decide (1≤who∧who≤72∧1≤seq∧seq≤16777215)
def cZ (r:Int):Int:=if IQ (r / 16777216) (r % 16777216)=true then r / 16777216 else 0
def ki (r:Int):Int:=if IQ (r / 16777216) (r % 16777216)=true then r % 16777216 else 0
structure Ww (w:W3):Prop where
 v:Nf w.v
 dN:0≤w.dN∧w.dN<4294967296
 ref:0≤w.ref∧w.ref<4294967296
def uV (w:W3):Int:=if w.ref=0 then 0 else if 0<cZ w.ref then 1 else 2
end Go.En
namespace Go.En
variable {S:Sys} {I:aZ} {h h0 h':Hp} {F F0:Fp} {R:Value→Hp→Prop} {L:List bQ}
theorem SB {k:IntKind} {a:Int} (h:0≤a∧a<4294967296):HA .u32 (.int k a)=some (.int .u32 a):=by
 show some (Value.int .u32 (a % 4294967296))=_
 rw [Int.emod_eq_of_lt h.1 h.2]
theorem S6 {k:IntKind} {a:Int} (h:Nf a):HA .i64 (.int k a)=some (.int .i64 a):=by
 show some (Value.int .i64 (IntKind.i64.wrap a))=_
 rw [EZ h]
section
variable {who seq r:Int} {w:W3}
theorem WW (hR:∀h',Gr h h'→R (.tuple #[.int .u32 (if IQ who seq=true then eU who seq else 0),.int .i64 (if IQ who seq=true then 0 else 3)]) h'):wV S I (.int .i64 who) (.int .i64 seq) h R:=by
 by_cases hk:IQ who seq=true
 ·rw [if_pos hk,if_pos hk] at hR
  have hb:=of_decide_eq_true hk
  unfold wV
  have c:=Cx.aA h
  exact .here<|vx (iZ ((by omega)))<|bD<|vx (sf ((by omega)))<|bD<|vx (iZ ((by omega)))<|bD<|vx (sf (by omega))<|bD<|vx (SB (by omega))<|vx (Q5 (by omega))<|vx (SB (by omega))<|vx (VC (by omega) (by omega))<|hR _ c.gr
 ·rw [if_neg hk,if_neg hk] at hR
  have hb:¬(1≤who∧who≤72∧1≤seq∧seq≤16777215):=fun e=>hk (decide_eq_true e)
  unfold wV
  have c:=Cx.aA h
  refine .here<|vx cH<|pC (fun q1=>?_) fun q1=>?_
  ·exact eR<|hR _ c.gr
  ·refine vx pP<|pC (fun q2=>?_) fun q2=>?_
   ·exact eR<|hR _ c.gr
   ·refine vx cH<|pC (fun q3=>?_) fun q3=>?_
    ·exact eR<|hR _ c.gr
    ·exact vx (F4 (by omega))<|eR<|hR _ c.gr
structure CwA (S:Sys) (I:aZ):Prop extends YN S I where
 ref:∀{who seq:Int} {h} {R:Value→Hp→Prop},(∀h',Gr h h'→R (.tuple #[.int .u32 (if IQ who seq=true then eU who seq else 0),.int .i64 (if IQ who seq=true then 0 else 3)]) h')→S.C I.qN [.int .i64 who,.int .i64 seq] h R
theorem XS (cs:CwA S I) (hr:0≤r∧r<4294967296) (hR:∀h',Gr h h'→R (.tuple #[.int .i64 (cZ r),.int .i64 (ki r)]) h'):wO S I (.int .u32 r) h R:=by
 by_cases hk:IQ (r / 16777216) (r % 16777216)=true
 ·rw [cZ,ki,if_pos hk,if_pos hk] at hR
  unfold wO
  have c:=Cx.aA h
  refine vx (KL hr)<|vx (S6 ⟨by omega,by omega⟩)<|vx (KY hr)<|vx (S6 ⟨by omega,by omega⟩)<|cs.ref fun _ g=>?_
  have c:=c.more g
  rw [if_pos hk,if_pos hk]
  exact vx rfl<|vx rfl<|vx (v:=.bool false) rfl<|bD<|hR _ c.gr
 ·rw [cZ,ki,if_neg hk,if_neg hk] at hR
  unfold wO
  have c:=Cx.aA h
  refine vx (KL hr)<|vx (S6 ⟨by omega,by omega⟩)<|vx (KY hr)<|vx (S6 ⟨by omega,by omega⟩)<|cs.ref fun _ g=>?_
  have c:=c.more g
  rw [if_neg hk,if_neg hk]
  exact vx rfl<|vx rfl<|vx (v:=.bool true) rfl<|eR<|hR _ c.gr
structure Zd (S:Sys) (I:aZ):Prop extends CwA S I where
 who:∀{r:Int} {h} {R:Value→Hp→Prop},0≤r∧r<4294967296→(∀h',Gr h h'→R (.tuple #[.int .i64 (cZ r),.int .i64 (ki r)]) h')→S.C I.qL [.int .u32 r] h R
theorem VA (cs:Zd S I) (hw:Ww w) (hR:∀h',Gr h h'→R (.int .i64 (uV w)) h'):s4 S I (mW w) h R:=by
 obtain ⟨a,b,r⟩ :=w
 have hr:=hw.ref
 dsimp only at hr
 by_cases e0:r=0
 ·rw [uV,if_pos e0] at hR
  unfold s4
  have c:=Cx.aA h
  refine c.v3 fun _ _ c=>?_
  refine aD<|c.rc 0 ?_
  refine cs.who hr fun _ g=>?_
  have c:=c.more g
  refine vx rfl<|vx rfl<|aD<|c.rc 0 ?_
  exact vx (qu e0)<|eR<|hR _ c.gr
 ·by_cases e1:0<cZ r
  ·rw [uV,if_neg e0,if_pos e1] at hR
   unfold s4
   have c:=Cx.aA h
   refine c.v3 fun _ _ c=>?_
   refine aD<|c.rc 0 ?_
   refine cs.who hr fun _ g=>?_
   have c:=c.more g
   refine vx rfl<|vx rfl<|aD<|c.rc 0 ?_
   exact vx (m6 e0)<|bD<|vx (F4 e1)<|eR<|hR _ c.gr
  ·rw [uV,if_neg e0,if_neg e1] at hR
   unfold s4
   have c:=Cx.aA h
   refine c.v3 fun _ _ c=>?_
   refine aD<|c.rc 0 ?_
   refine cs.who hr fun _ g=>?_
   have c:=c.more g
   refine vx rfl<|vx rfl<|aD<|c.rc 0 ?_
   exact vx (m6 e0)<|bD<|vx (sf e1)<|bD<|hR _ c.gr
structure Xf (S:Sys) (I:aZ):Prop extends Zd S I where
 kind:∀{w:W3} {h} {R:Value→Hp→Prop},Ww w→(∀h',Gr h h'→R (.int .i64 (uV w)) h')→S.C I.sX [mW w] h R
theorem R8 (cs:Xf S I) (hw:Ww w) (hR:∀h',Gr h h'→R (.bool (decide (uV w=0))) h'):xu S I (mW w) h R:=by
 obtain ⟨a,b,r⟩ :=w
 unfold xu
 have c:=Cx.aA h
 refine c.v3 fun _ _ c=>?_
 refine c.rl 0 ?_
 refine cs.kind (w:=⟨a,b,r⟩) hw fun _ g=>?_
 have c:=c.more g
 exact vx (iQ ..)<|hR _ c.gr
def xK (w:W3) (v:Int) (wr:Bool):W3 × Int:=
 if uV w≠1 then (w,13)
 else if wr=true∧w.dN=4294967295 then (w,9)
 else if wr=true then (⟨v,w.dN+1,0⟩,0)
 else (⟨w.v,w.dN,0⟩,0)
end
end Go.En
namespace Go.En
variable {S:Sys} {I:aZ} {h h0 h':Hp} {F F0:Fp} {R:Value→Hp→Prop} {L:List bQ}
theorem vh {q:IntKind} {z:Int} {n sz i r o:Nat} (hz:z=i) (hi:i<n):Jj n sz (.pointer (some ⟨r,o,none⟩)) (.int q z)=some (.pointer (some ⟨r,o+i*sz,none⟩)):=by
 subst hz
 have:(0:Int)≤(i:Int)∧(i:Int)<n:=by omega
 simp only [Jj,this,and_self,if_true,Ds,Int.toNat_natCast]
theorem Rq {a b:Int} (h:0≤a+b∧a+b<4294967296):bin .add (.int .u32 a) (.int .u32 b)=some (.int .u32 (a+b)):=by
 show some (Value.int .u32 ((a+b) % 4294967296))=_
 rw [Int.emod_eq_of_lt h.1 h.2]
section
variable {who seq r:Int} {w:W3}
theorem Mi {v:Int} {b:Bool} (cs:Xf S I) (hw:Ww w) (hR:∀h',Gr h h'→R (.tuple #[mW (xK w v b).1,.int .i64 (xK w v b).2]) h'):m4 S I (mW w) (.int .i64 v) (.bool b) h R:=by
 obtain ⟨a,q,r⟩ :=w
 have hv:=hw.dN
 dsimp only at hv
 by_cases e1:uV ⟨a,q,r⟩=1
 ·cases b with
  | true=>
   by_cases e2:q=4294967295
   ·rw [xK,if_neg (fun x=>x e1),if_pos ⟨rfl,e2⟩] at hR
    unfold m4
    have c:=Cx.aA h
    refine c.v3 fun _ _ c=>?_
    refine c.v3 fun _ _ c=>?_
    refine c.rl 0 ?_
    refine cs.kind (w:=⟨a,q,r⟩) hw fun _ g=>?_
    have c:=c.more g
    refine vx (EJ e1)<|bD ?_
    refine .here<|eR<|aD<|c.rc 0 ?_
    refine vx (qu e2)<|eR<|c.rl 0 ?_
    refine c.w3 1 fun _ c=>?_
    refine c.rl 1 ?_
    exact hR _ c.gr
   ·rw [xK,if_neg (fun x=>x e1),if_neg (fun x=>e2 x.2),if_pos rfl] at hR
    unfold m4
    have c:=Cx.aA h
    refine c.v3 fun _ _ c=>?_
    refine c.v3 fun _ _ c=>?_
    refine c.rl 0 ?_
    refine cs.kind (w:=⟨a,q,r⟩) hw fun _ g=>?_
    have c:=c.more g
    refine vx (EJ e1)<|bD ?_
    refine .here<|eR<|aD<|c.rc 0 ?_
    refine vx (m6 e2)<|bD<|eR<|aD<|c.rc 0 ?_
    refine vx (v:=.int .u32 (q+1)) (Rq (a:=q) (b:=1) (by omega))<|vx (aL (ds:=[_,_,_]) rfl)<|c.w3 1 fun _ c=>?_
    refine c.rl 1 ?_
    exact hR _ c.gr
  | false=>
   rw [xK,if_neg (fun x=>x e1),if_neg (fun x=>by cases x.1),if_neg (by decide)] at hR
   unfold m4
   have c:=Cx.aA h
   refine c.v3 fun _ _ c=>?_
   refine c.v3 fun _ _ c=>?_
   refine c.rl 0 ?_
   refine cs.kind (w:=⟨a,q,r⟩) hw fun _ g=>?_
   have c:=c.more g
   refine vx (EJ e1)<|bD ?_
   refine .here<|bD<|bD<|bD<|aD<|c.rc 0 ?_
   refine aD<|c.rc 0 ?_
   refine vx (aL (ds:=[_,_,_]) rfl)<|c.w3 1 fun _ c=>?_
   refine c.rl 1 ?_
   exact hR _ c.gr
 ·rw [xK,if_pos e1] at hR
  unfold m4
  have c:=Cx.aA h
  refine c.v3 fun _ _ c=>?_
  refine c.v3 fun _ _ c=>?_
  refine c.rl 0 ?_
  refine cs.kind (w:=⟨a,q,r⟩) hw fun _ g=>?_
  have c:=c.more g
  refine vx (FP e1)<|eR<|c.rl 0 ?_
  refine c.w3 1 fun _ c=>?_
  refine c.rl 1 ?_
  exact hR _ c.gr
theorem Px {s:Int} (hs:0≤seq∧seq<4294967296) (hR:∀h',Gr h h'→R (mW ⟨s,seq,0⟩) h'):vB S I (.int .i64 s) (.int .i64 seq) h R:=by
 unfold vB
 have c:=Cx.aA h
 refine c.v3 fun _ _ c=>?_
 refine vx (SB hs)<|vx (aL (ds:=[_,_,_]) rfl)<|c.w3 0 fun _ c=>?_
 refine c.rl 0 ?_
 exact hR _ c.gr
structure Et where
 at':Int
 old:W3
 new:Int
 wr:Bool
def cE (e:Et):List Value:=[.int .i64 e.at',.int .i64 e.old.v,.int .u32 e.old.dN,.int .u32 e.old.ref,.int .i64 e.new,.bool e.wr]
theorem TY (e:Et) (v:Value) (h:v∈cE e):v.oneCell'=true:=by
 unfold cE at h
 simp only [List.mem_cons,List.not_mem_nil,or_false] at h
 rcases h with rfl | rfl | rfl | rfl | rfl | rfl <;> rfl
def EE:qd Et:={n:=6,c:=cE,len:=fun _=>rfl,one:=fun a v h=>TY a v h}
def vE (e:Et):Value:=.agg #[.int .i64 e.at',.int .i64 e.old.v,.int .u32 e.old.dN,.int .u32 e.old.ref,.int .i64 e.new,.bool e.wr]
def vP (a b c:W3):Value:=.agg #[.int .i64 a.v,.int .u32 a.dN,.int .u32 a.ref,.int .i64 b.v,.int .u32 b.dN,.int .u32 b.ref,.int .i64 c.v,.int .u32 c.dN,.int .u32 c.ref]
def CV (e:Et):W3:=⟨e.at',if e.wr=true then 1 else 0,0⟩
def Cu (e:Et):W3:=⟨e.old.v,e.old.dN,0⟩
def Cg (e:Et):W3:=⟨e.new,0,0⟩
theorem UA {e:Et} (hR:∀h',Gr h h'→R (vP (CV e) (Cu e) (Cg e)) h'):uW S I (vE e) h R:=by
 obtain ⟨a,⟨v,q,r⟩,n,b⟩ :=e
 cases b with
 | true=>
  unfold uW
  have c:=Cx.aA h
  refine c.v6 fun _ _ c=>?_
  refine c.v9 fun _ _ c=>?_
  refine aD<|c.rc 0 ?_
  refine vx (aL (ds:=[_,_,_]) rfl)<|c.v3 fun _ _ c=>?_
  refine c.w3 2 fun _ c=>?_
  refine .here<|aD<|c.rc 0 ?_
  refine eR<|aD<|c.q3 2 fun _ c=>?_
  refine c.rl 2 ?_
  refine aD<|aD<|c.rc 0 ?_
  refine aD<|aD<|c.rc 0 ?_
  refine vx (aL (ds:=[_,_,_]) rfl)<|aD<|c.rc 0 ?_
  refine vx (aL (ds:=[_,_,_]) rfl)<|vx (v:=vP ⟨a,1,0⟩ ⟨v,q,0⟩ ⟨n,0,0⟩) (by kernel_rfl)<|c.w9 1 fun _ c=>?_
  refine c.rl 1 ?_
  exact hR _ c.gr
 | false=>
  unfold uW
  have c:=Cx.aA h
  refine c.v6 fun _ _ c=>?_
  refine c.v9 fun _ _ c=>?_
  refine aD<|c.rc 0 ?_
  refine vx (aL (ds:=[_,_,_]) rfl)<|c.v3 fun _ _ c=>?_
  refine c.w3 2 fun _ c=>?_
  refine .here<|aD<|c.rc 0 ?_
  refine bD<|c.rl 2 ?_
  refine aD<|aD<|c.rc 0 ?_
  refine aD<|aD<|c.rc 0 ?_
  refine vx (aL (ds:=[_,_,_]) rfl)<|aD<|c.rc 0 ?_
  refine vx (aL (ds:=[_,_,_]) rfl)<|vx (v:=vP ⟨a,0,0⟩ ⟨v,q,0⟩ ⟨n,0,0⟩) (by kernel_rfl)<|c.w9 1 fun _ c=>?_
  refine c.rl 1 ?_
  exact hR _ c.gr
def yX (who n part:Int):Int:=bF who+(2+3*n+part)
theorem Rv {n part:Int} (cs:Xf S I) (Z:Zs h) (hw : -1000≤who∧who≤1000) (hn:0≤n∧n<m8 who) (hp:0≤part∧part<3) (hR:∀h',Gr h h'→R (.tuple #[.int .i64 (yX who n part),.int .i64 0]) h'):wP S I vL (.int .i64 who) (.int .i64 n) (.int .i64 part) h R:=by
 have hm:m8 who≤32:=by unfold m8; (repeat' split) <;> omega
 have hl : -1≤bF who∧bF who≤1000:=by unfold bF lC m5; split <;> split <;> omega
 unfold wP
 have c:=Cx.aA h
 refine c.v3 fun _ _ c=>?_
 refine c.rl 0 ?_
 refine cs.check _ _ (Z.gr c.gr) fun _ g=>?_
 have c:=c.more g
 refine vx (v:=.bool false) rfl<|bD<|c.rl 0 ?_
 refine cs.Cy hw _ _ (Z.gr c.gr) fun _ g=>?_
 have c:=c.more g
 refine vx rfl<|vx rfl ?_
 exact .here<|vx (iZ ((by omega)))<|bD<|vx (o8 ((by omega)))<|bD<|vx (iZ ((by omega)))<|bD<|vx (o8 (by omega))<|bD<|vx (v:=.int .i64 (3*n)) (by rw [Bu,EZ ⟨by omega,by omega⟩])<|vx (qV ⟨by omega,by omega⟩)<|vx (qV ⟨by omega,by omega⟩)<|vx (qV ⟨by omega,by omega⟩)<|hR _ c.gr
end
end Go.En
namespace Go.En
variable {S:Sys} {I:aZ} {h h0 h':Hp} {F F0:Fp} {R:Value→Hp→Prop} {L:List bQ}
theorem Lc:∀xs:List (IntKind × Int × Int),AV (xs.map fun _=>true) (xs.map fun p=>.int p.1 p.2.1) (xs.map fun p=>.int p.1 p.2.2)=some (decide (∀p∈xs,p.2.1=p.2.2))
 | []=>by simp [AV]
 | (k,a,b)::r=>by
  have:=Lc r
  simp only [List.map_cons,AV,Yu,if_true,Option.bind_some,this]
  by_cases e:a=b <;> simp [e]
theorem W9 (a b c x y z:W3):BZ (E5 [true,true,true,true,true,true,true,true,true] (vP a b c) (vP x y z))=some (.bool (decide ¬(a=x∧b=y∧c=z))):=by
 have:=Lc [(.i64,a.v,x.v),(.u32,a.dN,x.dN),(.u32,a.ref,x.ref),(.i64,b.v,y.v),(.u32,b.dN,y.dN),(.u32,b.ref,y.ref),(.i64,c.v,z.v),(.u32,c.dN,z.dN),(.u32,c.ref,z.ref)]
 have e:E5 [true,true,true,true,true,true,true,true,true] (vP a b c) (vP x y z)=some (decide (a=x∧b=y∧c=z)):=by
  refine Eq.trans (b:=AV _ _ _) rfl (this.trans ?_)
  congr 1
  refine decide_eq_decide.2 ?_
  rw [←W3.iff a x,←W3.iff b y,←W3.iff c z]
  simp [and_assoc]
 rw [e,Ij]
 by_cases h:a=x∧b=y∧c=z <;> simp [h]
def FF (a b c:W3):Et:=⟨a.v,b,c.v,decide (a.dN=1)⟩
def Ns (a b c:W3):Bool:=decide ((0≤a.v∧a.v<4096)∧CV (FF a b c)=a∧Cu (FF a b c)=b∧Cg (FF a b c)=c)
abbrev HB:Et:=⟨0,W0,0,false⟩
structure YW (S:Sys) (I:aZ):Prop extends Xf S I where
 plain:∀{w:W3} {h} {R:Value→Hp→Prop},Ww w→(∀h',Gr h h'→R (.bool (decide (uV w=0))) h')→S.C I.tC [mW w] h R
 release:∀{w:W3} {v:Int} {b:Bool} {h} {R:Value→Hp→Prop},Ww w→(∀h',Gr h h'→R (.tuple #[mW (xK w v b).1,.int .i64 (xK w v b).2]) h')→S.C I.oY [mW w,.int .i64 v,.bool b] h R
 status:∀{s seq:Int} {h} {R:Value→Hp→Prop},0≤seq∧seq<4294967296→(∀h',Gr h h'→R (mW ⟨s,seq,0⟩) h')→S.C I.fJ [.int .i64 s,.int .i64 seq] h R
 pack:∀{e:Et} {h} {R:Value→Hp→Prop},(∀h',Gr h h'→R (vP (CV e) (Cu e) (Cg e)) h')→S.C I.qT [vE e] h R
 field:∀{who n part:Int} {h} {R:Value→Hp→Prop},Zs h→-1000≤who∧who≤1000→0≤n∧n<m8 who→0≤part∧part<3→(∀h',Gr h h'→R (.tuple #[.int .i64 (yX who n part),.int .i64 0]) h')→S.C I.tI [vL,.int .i64 who,.int .i64 n,.int .i64 part] h R
theorem PU {a b c:W3} (cs:YW S I) (hR:∀h',Gr h h'→R (.tuple #[vE (if Ns a b c=true then FF a b c else HB),.bool (Ns a b c)]) h'):qc S I (vP a b c) h R:=by
 obtain ⟨a1,a2,a3⟩ :=a
 obtain ⟨b1,b2,b3⟩ :=b
 obtain ⟨c1,c2,c3⟩ :=c
 by_cases e1:0≤a1∧a1<4096
 ·by_cases e2:CV (FF ⟨a1,a2,a3⟩ ⟨b1,b2,b3⟩ ⟨c1,c2,c3⟩)=⟨a1,a2,a3⟩ ∧Cu (FF ⟨a1,a2,a3⟩ ⟨b1,b2,b3⟩ ⟨c1,c2,c3⟩)=⟨b1,b2,b3⟩ ∧Cg (FF ⟨a1,a2,a3⟩ ⟨b1,b2,b3⟩ ⟨c1,c2,c3⟩)=⟨c1,c2,c3⟩
  ·rw [show Ns ⟨a1,a2,a3⟩ ⟨b1,b2,b3⟩ ⟨c1,c2,c3⟩=true from decide_eq_true ⟨e1,e2⟩,if_pos rfl] at hR
   unfold qc
   have c:=Cx.aA h
   refine c.v9 fun _ _ c=>?_
   refine c.v6 fun _ _ c=>?_
   refine .here<|vx (vh (i:=0) rfl (by decide))<|aD<|c.rc 0 ?_
   refine vx (iZ ((show ¬a1<0 by omega)))<|bD<|vx (vh (i:=0) rfl (by decide))<|aD<|c.rc 0 ?_
   refine vx (o8 (show ¬(4096:Int)≤a1 by omega))<|bD<|vx (vh (i:=0) rfl (by decide))<|aD<|c.rc 0 ?_
   refine vx (vh (i:=1) rfl (by decide))<|vx (c.vp (i:=0) (ds:=[_,_,_]) rfl rfl rfl)<|vx (vh (i:=2) rfl (by decide))<|aD<|c.rc 0 ?_
   refine vx (vh (i:=0) rfl (by decide))<|aD<|c.rc 0 ?_
   refine vx (iQ ..)<|vx (aL (ds:=[_,_,_,_,_,_]) rfl)<|c.v6 fun _ _ c=>?_
   refine c.w6 2 fun _ c=>?_
   refine c.rl 2 ?_
   refine c.rl 0 ?_
   refine cs.pack (e:=FF ⟨a1,a2,a3⟩ ⟨b1,b2,b3⟩ ⟨c1,c2,c3⟩) fun _ g=>?_
   have c:=c.more g
   refine c.al 0 ?_
   refine vx ((W9 ..).trans (by rw [decide_eq_false (fun x=>x e2)]))<|bD<|c.rl 2 ?_
   refine c.w6 1 fun _ c=>?_
   refine c.rl 1 ?_
   exact hR _ c.gr
  ·rw [show Ns ⟨a1,a2,a3⟩ ⟨b1,b2,b3⟩ ⟨c1,c2,c3⟩=false from decide_eq_false fun x=>e2 x.2,if_neg (by decide)] at hR
   unfold qc
   have c:=Cx.aA h
   refine c.v9 fun _ _ c=>?_
   refine c.v6 fun _ _ c=>?_
   refine .here<|vx (vh (i:=0) rfl (by decide))<|aD<|c.rc 0 ?_
   refine vx (iZ ((show ¬a1<0 by omega)))<|bD<|vx (vh (i:=0) rfl (by decide))<|aD<|c.rc 0 ?_
   refine vx (o8 (show ¬(4096:Int)≤a1 by omega))<|bD<|vx (vh (i:=0) rfl (by decide))<|aD<|c.rc 0 ?_
   refine vx (vh (i:=1) rfl (by decide))<|vx (c.vp (i:=0) (ds:=[_,_,_]) rfl rfl rfl)<|vx (vh (i:=2) rfl (by decide))<|aD<|c.rc 0 ?_
   refine vx (vh (i:=0) rfl (by decide))<|aD<|c.rc 0 ?_
   refine vx (iQ ..)<|vx (aL (ds:=[_,_,_,_,_,_]) rfl)<|c.v6 fun _ _ c=>?_
   refine c.w6 2 fun _ c=>?_
   refine c.rl 2 ?_
   refine c.rl 0 ?_
   refine cs.pack (e:=FF ⟨a1,a2,a3⟩ ⟨b1,b2,b3⟩ ⟨c1,c2,c3⟩) fun _ g=>?_
   have c:=c.more g
   refine c.al 0 ?_
   refine vx ((W9 ..).trans (by rw [decide_eq_true e2]))<|eR<|vx (aL (ds:=[_,_,_,_,_,_]) rfl)<|c.w6 1 fun _ c=>?_
   refine c.rl 1 ?_
   exact hR _ c.gr
 ·rw [show Ns ⟨a1,a2,a3⟩ ⟨b1,b2,b3⟩ ⟨c1,c2,c3⟩=false from decide_eq_false fun x=>e1 x.1,if_neg (by decide)] at hR
  unfold qc
  have c:=Cx.aA h
  refine c.v9 fun _ _ c=>?_
  refine c.v6 fun _ _ c=>?_
  refine .here<|vx (vh (i:=0) rfl (by decide))<|aD<|c.rc 0 ?_
  refine vx cH<|pC (fun q=>?_) fun q=>?_
  ·refine eR<|vx (aL (ds:=[_,_,_,_,_,_]) rfl)<|c.w6 1 fun _ c=>?_
   refine c.rl 1 ?_
   exact hR _ c.gr
  ·refine vx (vh (i:=0) rfl (by decide))<|aD<|c.rc 0 ?_
   refine vx (uA (show (4096:Int)≤a1 by have q:¬a1<0:=q; omega))<|eR<|vx (aL (ds:=[_,_,_,_,_,_]) rfl)<|c.w6 1 fun _ c=>?_
   refine c.rl 1 ?_
   exact hR _ c.gr
end Go.En
namespace Go.En
variable {S:Sys} {I:aZ} {h h0 h':Hp} {F F0:Fp} {R:Value→Hp→Prop} {L:List bQ}
def wS (e:Et):Int:=
 if e.at'<0∨4096≤e.at' then 3
 else if ¬uV e.old=0 then 13
 else if e.wr=true∧e.old.dN=4294967295 then 9
 else if e.wr=false∧¬e.new=e.old.v then 4
 else 0
theorem Pe {e:Et} (cs:YW S I) (hw:Ww e.old) (hR:∀h',Gr h h'→R (.int .i64 (wS e)) h'):kZ S I (vE e) h R:=by
 obtain ⟨a,w,n,b⟩ :=e
 obtain ⟨v,q,r⟩ :=w
 dsimp only at hw
 unfold wS at hR
 dsimp only at hR
 by_cases e1:a<0∨4096≤a
 ·rw [if_pos e1] at hR
  unfold kZ
  have c:=Cx.aA h
  refine c.v6 fun _ _ c=>?_
  refine .here<|aD<|c.rc 0 ?_
  refine vx cH<|pC (fun x=>?_) fun x=>?_
  ·exact eR<|hR _ c.gr
  ·refine aD<|c.rc 0 ?_
   exact vx (uA (show (4096:Int)≤a by have x:¬a<0:=x; omega))<|eR<|hR _ c.gr
 rw [if_neg e1] at hR
 by_cases e2:uV ⟨v,q,r⟩=0
 ·rw [if_neg (fun x=>x e2)] at hR
  cases b with
  | true=>
   by_cases e3:q=4294967295
   ·rw [if_pos ⟨rfl,e3⟩] at hR
    unfold kZ
    have c:=Cx.aA h
    refine c.v6 fun _ _ c=>?_
    refine .here<|aD<|c.rc 0 ?_
    refine vx (iZ ((show ¬a<0 by omega)))<|bD<|aD<|c.rc 0 ?_
    refine vx (o8 (show ¬(4096:Int)≤a by omega))<|bD<|aD<|vx (c.vp (i:=0) (ds:=[_,_,_]) rfl rfl rfl)<|cs.plain (w:=⟨v,q,r⟩) hw fun _ g=>?_
    have c:=c.more g
    rw [decide_eq_true e2]
    refine vx (v:=.bool false) (rfl)<|bD ?_
    refine .here<|aD<|c.rc 0 ?_
    refine eR<|aD<|aD<|c.rc 0 ?_
    exact vx (qu e3)<|eR<|hR _ c.gr
   ·rw [if_neg (fun x=>e3 x.2),if_neg (fun x=>by cases x.1)] at hR
    unfold kZ
    have c:=Cx.aA h
    refine c.v6 fun _ _ c=>?_
    refine .here<|aD<|c.rc 0 ?_
    refine vx (iZ ((show ¬a<0 by omega)))<|bD<|aD<|c.rc 0 ?_
    refine vx (o8 (show ¬(4096:Int)≤a by omega))<|bD<|aD<|vx (c.vp (i:=0) (ds:=[_,_,_]) rfl rfl rfl)<|cs.plain (w:=⟨v,q,r⟩) hw fun _ g=>?_
    have c:=c.more g
    rw [decide_eq_true e2]
    refine vx (v:=.bool false) (rfl)<|bD ?_
    refine .here<|aD<|c.rc 0 ?_
    refine eR<|aD<|aD<|c.rc 0 ?_
    refine vx (m6 e3)<|bD ?_
    refine .here<|aD<|c.rc 0 ?_
    exact vx (v:=.bool false) (rfl)<|bD<|bD<|hR _ c.gr
  | false=>
   rw [if_neg (fun x=>by cases x.1)] at hR
   by_cases e4:n=v
   ·rw [if_neg (fun x=>x.2 e4)] at hR
    unfold kZ
    have c:=Cx.aA h
    refine c.v6 fun _ _ c=>?_
    refine .here<|aD<|c.rc 0 ?_
    refine vx (iZ ((show ¬a<0 by omega)))<|bD<|aD<|c.rc 0 ?_
    refine vx (o8 (show ¬(4096:Int)≤a by omega))<|bD<|aD<|vx (c.vp (i:=0) (ds:=[_,_,_]) rfl rfl rfl)<|cs.plain (w:=⟨v,q,r⟩) hw fun _ g=>?_
    have c:=c.more g
    rw [decide_eq_true e2]
    refine vx (v:=.bool false) (rfl)<|bD ?_
    refine .here<|aD<|c.rc 0 ?_
    refine bD<|bD ?_
    refine .here<|aD<|c.rc 0 ?_
    refine vx (v:=.bool true) (rfl)<|eR<|aD<|c.rc 0 ?_
    refine aD<|aD<|c.rc 0 ?_
    exact vx (EJ e4)<|bD<|hR _ c.gr
   ·rw [if_pos ⟨rfl,e4⟩] at hR
    unfold kZ
    have c:=Cx.aA h
    refine c.v6 fun _ _ c=>?_
    refine .here<|aD<|c.rc 0 ?_
    refine vx (iZ ((show ¬a<0 by omega)))<|bD<|aD<|c.rc 0 ?_
    refine vx (o8 (show ¬(4096:Int)≤a by omega))<|bD<|aD<|vx (c.vp (i:=0) (ds:=[_,_,_]) rfl rfl rfl)<|cs.plain (w:=⟨v,q,r⟩) hw fun _ g=>?_
    have c:=c.more g
    rw [decide_eq_true e2]
    refine vx (v:=.bool false) (rfl)<|bD ?_
    refine .here<|aD<|c.rc 0 ?_
    refine bD<|bD ?_
    refine .here<|aD<|c.rc 0 ?_
    refine vx (v:=.bool true) (rfl)<|eR<|aD<|c.rc 0 ?_
    refine aD<|aD<|c.rc 0 ?_
    exact vx (FP e4)<|eR<|hR _ c.gr
 ·rw [if_pos e2] at hR
  unfold kZ
  have c:=Cx.aA h
  refine c.v6 fun _ _ c=>?_
  refine .here<|aD<|c.rc 0 ?_
  refine vx (iZ ((show ¬a<0 by omega)))<|bD<|aD<|c.rc 0 ?_
  refine vx (o8 (show ¬(4096:Int)≤a by omega))<|bD<|aD<|vx (c.vp (i:=0) (ds:=[_,_,_]) rfl rfl rfl)<|cs.plain (w:=⟨v,q,r⟩) hw fun _ g=>?_
  have c:=c.more g
  rw [decide_eq_false e2]
  exact vx (v:=.bool true) (rfl)<|eR<|hR _ c.gr
end Go.En
namespace Go.En
variable {S:Sys} {I:aZ} {h h0 h':Hp} {F F0:Fp} {R:Value→Hp→Prop} {L:List bQ}
section
variable {v f:Value} {es:List Et} {q:Et→Bool} {r:Nat} {z:Int} {e:Et}
def K5 {α:Type} (S:Sys) (I:aZ) (f:Value) (w:α→Value) (p:α→Bool) (xs:List α) (h:Hp):Prop:=
 ∀h' x (R:Value→Hp→Prop),Gr h h'→x∈xs→(∀h'',Gr h' h''→R (.bool (p x)) h'')→Cw S.C S.Y I.mt f [w x] h' R
theorem Ja {α:Type} {p:α→Bool} {xs:List α} {i:Nat} {x:α} (hx:xs[i]?=some x) (hp:∀y∈xs.take i,p y=false) (h:p x=false):∀y∈xs.take (i+1),p y=false:=by
 intro y hy
 rw [List.take_add_one,hx,Option.toList_some,List.mem_append,List.mem_singleton] at hy
 rcases hy with hy | rfl
 ·exact hp y hy
 ·exact h
theorem Vf (hs:Sl EE h v es) (hf:K5 S I f vE q es h) (hl:es.length≤1000000) (hR:∀h' z,Gr h h'→decide ((0:Int)≤z)=es.any q→R (.int .i64 z) h'):fF S I v f h R:=by
 unfold fF
 refine En.vb hs.ln ?_
 refine xN.by (fun (i:Nat) a h'=>a=.int .i64 i∧i≤es.length∧(∀y∈es.take i,q y=false)∧Gr h h') (fun i=>es.length - i) 0 ⟨rfl,Nat.zero_le _,(fun y hy=>by simp at hy),.refl _ _⟩ ?_
 rintro i _ h1 ⟨rfl,hi,hp,g⟩ again hagain
 refine En.vb cH ?_
 refine pC (fun e=>?_) fun e=>?_
 ·have hx:=List.getElem?_eq_getElem (l:=es) (i:=i) (by omega)
  generalize es[i]'(by omega)=x at hx
  refine (hs.gr g).whole rfl hx rfl ?_
  refine hf _ x _ g (List.mem_of_getElem? hx) fun h2 g2=>?_
  cases hpx:q x with
  | true=>exact eR (hR _ _ (g.trans g2) (by rw [decide_eq_true (Int.natCast_nonneg i)]; exact (List.any_eq_true.2 ⟨x,List.mem_of_getElem? hx,hpx⟩).symm))
  | false=>
   refine bD ?_
   refine En.vb (inc (by omega)) ?_
   exact hagain (i+1) _ _ ⟨rfl,by omega,Ja hx hp hpx,g.trans g2⟩ (by omega)
 ·refine hR _ _ g ?_
  rw [decide_eq_false (by omega)]
  symm
  rw [List.take_of_length_le (by omega)] at hp
  exact List.any_eq_false.2 fun y hy=>by rw [hp y hy]; simp
theorem QK (hl:∀h',Gr h h'→dU (.pointer (some ⟨r,0+0,none⟩)) h'=some (.int .i64 z)) (hR:∀h',Gr h h'→R (.bool (decide (e.at'=z))) h'):ti S I (vE e) (cA r) h R:=by
 unfold ti
 have c:=Cx.aA h
 refine c.v6 fun _ _ c=>?_
 refine aD<|c.rc 0 ?_
 exact vx (oZ _ _ _)<|vx (hl _ c.gr)<|vx iQ<|hR _ c.gr
structure Z4 (S:Sys) (I:aZ):Prop extends YW S I where
 Pa:∀{e:Et} {h} {R:Value→Hp→Prop},Ww e.old→(∀h',Gr h h'→R (.int .i64 (wS e)) h')→S.C I.sK [vE e] h R
 unpack:∀{a b c:W3} {h} {R:Value→Hp→Prop},(∀h',Gr h h'→R (.tuple #[vE (if Ns a b c=true then FF a b c else HB),.bool (Ns a b c)]) h')→S.C I.sP [vP a b c] h R
 Tu:∀{e:Et} {r:Nat} {z:Int} {h} {R:Value→Hp→Prop},(∀h',Gr h h'→dU (.pointer (some ⟨r,0+0,none⟩)) h'=some (.int .i64 z))→(∀h',Gr h h'→R (.bool (decide (e.at'=z))) h')→S.C I.qz [vE e,cA r] h R
 WN:∀{v f:Value} {es:List Et} {q:Et→Bool} {h R},Sl EE h v es→K5 S I f vE q es h→es.length≤1000000→(∀h' z,Gr h h'→decide ((0:Int)≤z)=es.any q→R (.int .i64 z) h')→S.C I.dD [v,f] h R
theorem UI (cs:Z4 S I) (hs:Sl EE h v es) (hf:K5 S I f vE q es h) (hl:es.length≤1000000) (hR:∀h',Gr h h'→R (.bool (es.any q)) h'):eN S I v f h R:=by
 unfold eN
 refine cs.WN hs hf hl fun h' z g e=>?_
 refine En.vb rZ ?_
 rw [e]
 exact hR _ g
end
end Go.En
namespace Go.En
variable {S:Sys} {I:aZ} {h h0 h':Hp} {F F0:Fp} {R:Value→Hp→Prop} {L:List bQ}
def Fe:List Et→List Et→Int
 | _,[]=>0
 | pre,e::r=>if ¬wS e=0 then wS e else if pre.any (fun y=>decide (y.at'=e.at'))=true then 11 else Fe (pre++[e]) r
def lR (es:List Et):Int:=if es.length=0 then 8 else if 32<es.length then 15 else Fe [] es
theorem QU {es:List Et} {i:Nat} {e:Et} (he:es[i]?=some e):Fe (es.take i) (es.drop i)=if ¬wS e=0 then wS e else if (es.take i).any (fun y=>decide (y.at'=e.at'))=true then 11 else Fe (es.take (i+1)) (es.drop (i+1)):=by
 obtain ⟨hi,rfl⟩ :=List.getElem?_eq_some_iff.1 he
 rw [List.drop_eq_getElem_cons hi,Fe,List.take_add_one,he]
 rfl
structure Y3 (S:Sys) (I:aZ):Prop extends Z4 S I where
 U1:∀{v f:Value} {es:List Et} {q:Et→Bool} {h R},Sl EE h v es→K5 S I f vE q es h→es.length≤1000000→(∀h',Gr h h'→R (.bool (es.any q)) h')→S.C I.bS [v,f] h R
section
variable {v:Value} {es:List Et}
theorem PX (cs:Y3 S I) (hs:Sl EE h v es) (hw:∀e∈es,Ww e.old) (hl:es.length≤1000) (hR:∀h',Gr h h'→R (.int .i64 (lR es)) h'):qm S I v h R:=by
 by_cases e0:es.length=0
 ·rw [lR,if_pos e0] at hR
  unfold qm
  refine En.vb hs.ln ?_
  refine En.vb (qu (by omega)) ?_
  exact eR (hR _ (.refl _ _))
 by_cases e1:32<es.length
 ·rw [lR,if_neg e0,if_pos e1] at hR
  unfold qm
  refine En.vb hs.ln ?_
  refine En.vb (m6 (by omega)) ?_
  refine bD ?_
  refine En.vb hs.ln ?_
  refine En.vb (F4 (by omega)) ?_
  exact eR (hR _ (.refl _ _))
 rw [lR,if_neg e0,if_neg e1] at hR
 have r1:∀{z:Int} {h'},Fe [] es=z→Gr h h'→R (.int .i64 z) h':=fun e g=>e▸hR _ g
 unfold qm
 have c:=Cx.aA h
 refine vx hs.ln<|vx (m6 ((by omega)))<|bD<|vx hs.ln<|vx (sf ((by omega)))<|bD<|vx hs.ln<|xN.by (fun (i:Nat) z h'=>z=.int .i64 i∧i≤es.length∧Fe (es.take i) (es.drop i)=Fe [] es∧Gr h h') (fun i=>es.length - i) 0 ⟨rfl,Nat.zero_le _,rfl,.refl _ _⟩ ?_
 rintro i _ h8 ⟨rfl,hi,hk,g8⟩ again hagain
 have c:Cx (fun _=>False) h h8 []:=(Cx.aA h).more g8
 refine vx cH<|pC (fun e17=>?_) fun e17=>?_
 ·obtain ⟨e,he⟩:∃e,es[i]?=some e:=⟨_,List.getElem?_eq_getElem (by omega)⟩
  have hwe:=hw e (List.mem_of_getElem? he)
  rw [QU he] at hk
  refine (hs.gr c.gr).whole rfl he rfl ?_
  refine c.v6 fun _ _ c=>?_
  refine c.w6 0 fun _ c=>?_
  refine c.rl 0 ?_
  refine cs.Pa (e:=e) hwe fun _ g=>?_
  have c:=c.more g
  refine vx pJ<|pC (fun e24=>?_) fun e24=>?_
  ·exact r1 (hk.symm.trans (if_pos e24)) c.gr
  ·obtain ⟨u,eu,hu,_⟩ :=(hs.gr c.gr).sub (n:=6) rfl (lo:=none) (hi:=some (.int .i64 i)) (l:=0) (u:=i) (.inl ⟨rfl,rfl⟩) (.inr ⟨_,_,rfl,rfl⟩) (Nat.zero_le _) (by omega)
   rw [List.drop_zero] at hu
   refine vx eu<|vx rfl<|cs.U1 (q:=fun y=>decide (y.at'=e.at')) hu (fun h9 y R9 g9 _ k9=>.inl (.inl ⟨_,_,_,rfl,cs.Tu (fun h10 g10=>((c.more g9).more g10).vc (i:=0) rfl rfl) k9⟩)) (by rw [List.length_take]; omega) fun _ g=>?_
   have c:=c.more g
   refine En.br (fun b30=>?_) fun b30=>?_
   ·exact r1 (hk.symm.trans ((if_neg e24).trans (if_pos b30))) c.gr
   ·refine vx (inc (by omega)) ?_
    rw [if_neg e24,b30,if_neg (by decide)] at hk
    exact hagain (i+1) _ _ ⟨rfl,by omega,hk,c.gr⟩ (by omega)
 ·exact r1 (hk.symm.trans (by rw [List.drop_of_length_le (by omega)]; rfl)) c.gr
end
end Go.En
namespace Go.En
variable {S:Sys} {I:aZ} {h h0 h':Hp} {F F0:Fp} {R:Value→Hp→Prop} {L:List bQ}
section
variable {v f:Value} {es:List Et} {a b:Et}
theorem Ug (hb:Nf (a.at' - b.at')) (hR:∀h',Gr h h'→R (.int .i64 (a.at' - b.at')) h'):tR S I (vE a) (vE b) h R:=by
 unfold tR
 have c:=Cx.aA h
 refine c.v6 fun _ _ c=>?_
 refine c.v6 fun _ _ c=>?_
 refine aD<|c.rc 0 ?_
 refine aD<|c.rc 1 ?_
 exact vx (nj hb)<|hR _ c.gr
def kV:List Et→Bool
 | a::b::r=>decide (a.at'≤b.at')&&kV (b::r)
 | _=>true
theorem Af {es:List Et} {i:Nat} {x y:Et} (hx:es[i]?=some x) (hy:es[i+1]?=some y):kV (es.drop i)=(decide (x.at'≤y.at')&&kV (es.drop (i+1))):=by
 obtain ⟨h1,rfl⟩ :=List.getElem?_eq_some_iff.1 hx
 obtain ⟨h2,rfl⟩ :=List.getElem?_eq_some_iff.1 hy
 rw [List.drop_eq_getElem_cons h1,List.drop_eq_getElem_cons h2]
 rfl
theorem rX {es:List Et} {i:Nat} (h:es.length≤i+1):kV (es.drop i)=true:=by
 have:(es.drop i).length≤1:=by rw [List.length_drop]; omega
 match es.drop i,this with
 | [],_=>rfl
 | [_],_=>rfl
theorem A7:∀{es:List Et},kV es=true→∀i,kV (es.drop i)=true
 | es,h,0=>h
 | [],_,i+1=>by simp [kV]
 | [_],_,i+1=>by simp [kV]
 | a::b::r,h,i+1=>by
  rw [kV,Bool.and_eq_true] at h
  exact A7 (es:=b::r) h.2 i
def X0 (S:Sys) (I:aZ) (f:Value) (xs:List Et) (h:Hp):Prop:=
 ∀h' x y (R:Value→Hp→Prop),Gr h h'→x∈xs→y∈xs→(∀h'',Gr h' h''→R (.int .i64 (x.at' - y.at')) h'')→Cw S.C S.Y I.mt f [vE x,vE y] h' R
theorem Km (hs:Sl EE h v es) (hf:X0 S I f es h) (hl:es.length≤1000) (hR:∀h',Gr h h'→R (.bool (kV es)) h'):eP S I v f h R:=by
 unfold eP
 refine En.vb hs.ln ?_
 refine En.vb (nj ⟨by omega,by omega⟩) ?_
 by_cases e0:es.length=0
 ·have:es=[]:=List.length_eq_zero_iff.1 e0
  subst this
  refine xN.by (fun (_:Nat) z h'=>z=.int .i64 (-1)∧Gr h h') (fun i=>i) 0 ⟨rfl,.refl _ _⟩ ?_
  rintro i _ h1 ⟨rfl,g⟩ again hagain
  refine En.vb (sf (by omega)) ?_
  exact bD (hR _ g)
 refine xN.by (fun (i:Nat) z h'=>z=.int .i64 i∧i+1≤es.length∧kV (es.drop i)=true∧Gr h h') (fun i=>i) (es.length - 1) ⟨by congr 1; omega,by omega,rX (by omega),.refl _ _⟩ ?_
 rintro i _ h1 ⟨rfl,hi,hk,g⟩ again hagain
 refine En.vb pP ?_
 refine pC (fun e=>?_) fun e=>?_
 ·obtain ⟨j,rfl⟩:∃j,i=j+1:=⟨i - 1,by omega⟩
  obtain ⟨y,hy⟩:∃y,es[j+1]?=some y:=⟨_,List.getElem?_eq_getElem (by omega)⟩
  obtain ⟨x,hx⟩:∃x,es[j]?=some x:=⟨_,List.getElem?_eq_getElem (by omega)⟩
  refine (hs.gr g).whole rfl hy rfl ?_
  refine En.vb (v:=.int .i64 (j:Int)) ((nj ⟨by omega,by omega⟩).trans (by congr 2; omega)) ?_
  refine (hs.gr g).whole rfl hx rfl ?_
  refine hf _ y x _ g (List.mem_of_getElem? hy) (List.mem_of_getElem? hx) fun h2 g2=>?_
  have ek:=Af hx hy
  rw [hk,Bool.and_true] at ek
  refine En.vb cH ?_
  refine pC (fun e=>?_) fun e=>?_
  ·have:kV es=false:=by
    cases q:kV es with
    | false=>rfl
    | true=>exact absurd (A7 q j) (by rw [ek]; simp; omega)
   have:=this▸hR _ (g.trans g2)
   exact this
  ·refine En.vb (v:=.int .i64 (j:Int)) ((nj ⟨by omega,by omega⟩).trans (by congr 2; omega)) ?_
   exact hagain j _ _ ⟨rfl,by omega,by rw [ek]; simp; omega,g.trans g2⟩ (by omega)
 ·have:i=0:=by omega
  subst this
  rw [List.drop_zero] at hk
  have:=hk▸hR _ g
  exact this
theorem PJ {v:Value} {us:List Et} (hs:Sl EE h v us) (hl:us.length≤1000000) (hR:∀u h',Cx (fun _=>False) h h' [dA EE (aX u) us]→R (aX u) h'):gI S I v h R:=by
 unfold gI
 exact yS hs rfl rfl (by omega) (by omega) hR
end
end Go.En
namespace Go.En
variable {S:Sys} {I:aZ} {h h0 h':Hp} {F F0:Fp} {R:Value→Hp→Prop} {L:List bQ}
structure Hc where
 ref:Int
 at':Int
 who:Int
 seq:Int
 tg:Int
 fO:Bool
 ws:SH
 many:Int
 es:SH
 i:Int
 dN:Int
 met:W3
 inner:Value
 ended:Bool
 nx:Value
 bh:Value
def nk (x:Hc):Value:=.agg #[.int .i64 3,.int .i64 6,.int .i64 4,.int .u32 x.ref,.int .i64 x.at',.int .i64 x.who,.int .i64 x.seq,.int .i64 x.tg,.bool x.fO,aX x.ws,.int .i64 x.many,aX x.es,.int .i64 x.i,.int .i64 x.dN,.int .i64 x.met.v,.int .u32 x.met.dN,.int .u32 x.met.ref,x.inner,.bool x.ended,x.nx,x.bh]
structure Ho (x:Hc):Prop where
 inner:x.inner.oneCell'=true
 nx:x.nx.oneCell'=true
 bh:x.bh.oneCell'=true
theorem Ea {v:Value} (h:v.oneCell'=true):fR [v]=true:=by simp [fR,h]
section
variable {x:Hc} {n:Value} {a:Ac} {z:Int}
theorem UH (o:Ho x) (hn:n.oneCell'=true) (hR:∀h',Gr h h'→R (.tuple #[nk {x with nx:=n},nJ a,.bool false]) h'):rh S I (nk x) (nJ a) n h R:=by
 obtain ⟨r,cA,who,seq,tg,fO,ws,many,es,i,dN,met,inner,ended,nx,bh⟩ :=x
 obtain ⟨hi,hx,hb⟩ :=o
 dsimp only at hi hx hb
 unfold rh
 have c:=Cx.aA h
 refine c.iK fun _ _ c=>?_
 refine c.v8 fun _ _ c=>?_
 refine c.iK fun _ _ c=>?_
 refine c.v8 fun _ _ c=>?_
 refine aD<|c.Ag 0 fun _ c=>?_
 refine c.rl 0 ?_
 refine c.rl 1 ?_
 refine c.Yr 2 fun _ c=>?_
 refine c.al 1 ?_
 refine c.w8 3 fun _ c=>?_
 refine c.rl 2 ?_
 refine c.rl 3 ?_
 exact hR _ c.gr
theorem VH (o:Ho x) (hR:∀h',Gr h h'→R (.tuple #[nk {x with ended:=true,dN:=z,inner:=.nilIface},nJ mL,.bool true]) h'):rE S I (nk x) (.int .i64 z) h R:=by
 obtain ⟨r,cA,who,seq,tg,fO,ws,many,es,i,dN,met,inner,ended,nx,bh⟩ :=x
 obtain ⟨hi,hx,hb⟩ :=o
 dsimp only at hi hx hb
 unfold rE
 have c:=Cx.aA h
 refine c.iK fun _ _ c=>?_
 refine c.iK fun _ _ c=>?_
 refine c.v8 fun _ _ c=>?_
 refine aD<|c.Ag 0 fun _ c=>?_
 refine aD<|c.Ag 0 fun _ c=>?_
 refine aD<|c.Ag 0 fun _ c=>?_
 refine c.rl 0 ?_
 refine vx (aL (ds:=[_,_,_,_,_,_,_,_]) rfl)<|c.Yr 1 fun _ c=>?_
 refine c.w8 2 fun _ c=>?_
 refine c.rl 1 ?_
 refine c.rl 2 ?_
 exact hR _ c.gr
structure ZK (S:Sys) (I:aZ):Prop extends Y3 S I where
 Ah:∀{x:Hc} {n:Value} {a:Ac} {h} {R:Value→Hp→Prop},Ho x→n.oneCell'=true→(∀h',Gr h h'→R (.tuple #[nk {x with nx:=n},nJ a,.bool false]) h')→S.C I.bO [nk x,nJ a,n] h R
 tM:∀{x:Hc} {z:Int} {h} {R:Value→Hp→Prop},Ho x→(∀h',Gr h h'→R (.tuple #[nk {x with ended:=true,dN:=z,inner:=.nilIface},nJ mL,.bool true]) h')→S.C I.eZ [nk x,.int .i64 z] h R
theorem QI (cs:ZK S I) (o:Ho x) (hn:n.oneCell'=true) (hR:∀h',Gr h h'→R (.tuple #[nk {x with nx:=n},nJ ⟨5,x.at',W0,W0⟩,.bool false]) h'):qI S I (nk x) n h R:=by
 obtain ⟨r,cA,who,seq,tg,fO,ws,many,es,i,dN,met,inner,ended,nx,bh⟩ :=x
 have o':=o
 obtain ⟨hi,hx,hb⟩ :=o
 dsimp only at hi hx hb
 unfold qI
 have c:=Cx.aA h
 refine c.iK fun _ _ c=>?_
 refine c.iK fun _ _ c=>?_
 refine c.v8 fun _ _ c=>?_
 refine c.rl 0 ?_
 refine aD<|c.rc 0 ?_
 refine vx (aL (ds:=[_,_,_,_,_,_,_,_]) rfl)<|cs.Ah (x:=⟨r,cA,who,seq,tg,fO,ws,many,es,i,dN,met,inner,ended,nx,bh⟩) (a:=⟨5,cA,W0,W0⟩) o' hn fun _ g=>?_
 have c:=c.more g
 refine c.eM 1 2 fun _ c=>?_
 exact hR _ c.gr
end
end Go.En
namespace Go.En
variable {S:Sys} {I:aZ} {h h0 h':Hp} {F F0:Fp} {R:Value→Hp→Prop} {L:List bQ}
theorem Row.part {α:Type} {E:qd α} {r o o1 n:Nat} {x:α} (e:Row E h r o x) {ds:List Value} (hb:o1+n≤(E.c x).length) (hd:((E.c x).drop o1).take n=ds):En.aF n (.pointer (some ⟨r,o+o1,none⟩)) h=some (.agg ⟨ds⟩):=by
 subst hd
 have hl:(((E.c x).drop o1).take n).length=n:=by rw [List.length_take,List.length_drop]; omega
 have hr:Row (VX n) h r (o+o1) ⟨((E.c x).drop o1).take n,hl,List.all_eq_true.2 fun y hy=>E.one x y (List.mem_of_mem_drop (List.mem_of_mem_take hy))⟩ :=fun j u hu=>by
  have hu:(((E.c x).drop o1).take n)[j]?=some u:=hu
  rw [List.getElem?_take] at hu
  split at hu
  ·rw [List.getElem?_drop] at hu
   have:=e (o1+j) u hu
   rwa [←Nat.add_assoc] at this
  ·cases hu
 exact hr.aF rfl
theorem Sl.prt {α:Type} {E:qd α} {v:Value} {xs:List α} (H:Sl E h v xs) {n m:Nat} (hn:n=E.n) {k:Value→Prop} {i:Nat} {x:α} (hx:xs[i]?=some x) {q:IntKind} {z:Int} (hz:z=i) {j:Nat} {ds:List Value} (hb:j+m≤(E.c x).length) (hd:((E.c x).drop j).take m=ds) (hk:k (.agg ⟨ds⟩)) :
  Vb (lQ n v (.int q z)) fun p=>Vb (fa j p) fun p=>Vb (aF m p h) k:=by
 obtain ⟨r,o,e,hr,_⟩ :=H.ix hx hn hz (k:=q)
 exact vb e (vb (oZ _ _ _) (vb (hr.part hb hd) hk))
section
variable {x:Hc} {n:Value} {a:Ac} {z:Int} {w:W3}
def vm (x:Hc) (w:W3):Bool:=decide (¬w.dN=x.seq∨¬w.ref=0∨w.v<0∨2<w.v)
theorem O9 (o:Ho x) (hq:0≤x.seq∧x.seq<4294967296) (hR:∀h',Gr h h'→R (.bool (vm x w)) h'):p8 S I (nk x) (mW w) h R:=by
 obtain ⟨r,cA,who,seq,tg,fO,ws,many,es,i,dN,met,inner,ended,nx,bh⟩ :=x
 obtain ⟨wv,wq,wr⟩ :=w
 obtain ⟨hi,hx,hb⟩ :=o
 dsimp only at hi hx hb hq
 have rt:(¬wq=seq∨¬wr=0∨wv<0∨2<wv)→∀{h'},Gr h h'→R (.bool true) h':=fun e _ g=>by
  have:=hR _ g
  rwa [show vm ⟨r,cA,who,seq,tg,fO,ws,many,es,i,dN,met,inner,ended,nx,bh⟩ ⟨wv,wq,wr⟩=true from decide_eq_true e] at this
 have rf:¬(¬wq=seq∨¬wr=0∨wv<0∨2<wv)→∀{h'},Gr h h'→R (.bool false) h':=fun e _ g=>by
  have:=hR _ g
  rwa [show vm ⟨r,cA,who,seq,tg,fO,ws,many,es,i,dN,met,inner,ended,nx,bh⟩ ⟨wv,wq,wr⟩=false from decide_eq_false e] at this
 have rd:wq=seq→wr=0→¬wv<0→∀{h'},Gr h h'→R (.bool (decide (2<wv))) h':=fun e1 e2 e3 _ g=>by
  by_cases e:2<wv
  ·rw [decide_eq_true e]; exact rt (.inr (.inr (.inr e))) g
  ·rw [decide_eq_false e]; exact rf (fun x=>by omega) g
 unfold p8
 have c:=Cx.aA h
 refine c.iK fun _ _ c=>?_
 refine c.v3 fun _ _ c=>?_
 refine .here<|aD<|c.rc 1 ?_
 refine aD<|c.rc 0 ?_
 refine vx (SB hq)<|vx pJ<|pC (fun e1=>?_) fun e1=>?_
 ·first | exact rd (Decidable.not_not.1 e1) (Decidable.not_not.1 e2) e3 c.gr | exact rt (.inr (.inr (.inl e3))) c.gr | exact rt (.inr (.inl e2)) c.gr | exact rt (.inl e1) c.gr
 ·refine aD<|c.rc 1 ?_
  refine vx pJ<|pC (fun e2=>?_) fun e2=>?_
  ·first | exact rd (Decidable.not_not.1 e1) (Decidable.not_not.1 e2) e3 c.gr | exact rt (.inr (.inr (.inl e3))) c.gr | exact rt (.inr (.inl e2)) c.gr | exact rt (.inl e1) c.gr
  ·refine aD<|c.rc 1 ?_
   refine vx cH<|pC (fun e3=>?_) fun e3=>?_
   ·first | exact rd (Decidable.not_not.1 e1) (Decidable.not_not.1 e2) e3 c.gr | exact rt (.inr (.inr (.inl e3))) c.gr | exact rt (.inr (.inl e2)) c.gr | exact rt (.inl e1) c.gr
   ·refine aD<|c.rc 1 ?_
    refine vx pP ?_
    first | exact rd (Decidable.not_not.1 e1) (Decidable.not_not.1 e2) e3 c.gr | exact rt (.inr (.inr (.inl e3))) c.gr | exact rt (.inr (.inl e2)) c.gr | exact rt (.inl e1) c.gr
section
variable {es:List Et} {e:Et} {i:Nat} {B:Bs}
theorem NL (o:Ho x) (hs:Sl EE h (aX x.es) es) (ei:x.i=i) (he:es[i]?=some e) (hR:∀h',Gr h h'→R (.int .i64 e.at') h'):pX S I (nk x) h R:=by
 obtain ⟨r,cA,who,seq,tg,fO,ws,many,es0,i0,dN,met,inner,ended,nx,bh⟩ :=x
 obtain ⟨hi,hx,hb⟩ :=o
 dsimp only at hi hx hb hs ei
 subst ei
 unfold pX
 have c:=Cx.aA h
 refine c.iK fun _ _ c=>?_
 refine aD<|c.rc 0 ?_
 refine aD<|c.rc 0 ?_
 refine (hs.gr c.gr).A4 (j:=0) rfl he rfl (u:=.int .i64 e.at') rfl ?_
 exact hR _ c.gr
theorem O5 (o:Ho x) (hs:Sl EE h (aX x.es) es) (ei:x.i=i) (he:es[i]?=some e) (hR:∀h',Gr h h'→R (mW e.old) h'):p0 S I (nk x) h R:=by
 obtain ⟨r,cA,who,seq,tg,fO,ws,many,es0,i0,dN,met,inner,ended,nx,bh⟩ :=x
 obtain ⟨ea,⟨ev,eq,er⟩,en,eb⟩ :=e
 obtain ⟨hi,hx,hb⟩ :=o
 dsimp only at hi hx hb hs ei
 subst ei
 unfold p0
 have c:=Cx.aA h
 refine c.iK fun _ _ c=>?_
 refine c.v3 fun _ _ c=>?_
 refine aD<|c.rc 0 ?_
 refine aD<|c.rc 0 ?_
 refine (hs.gr c.gr).prt (j:=1) (ds:=[.int .i64 ev,.int .u32 eq,.int .u32 er]) rfl he rfl (show 4≤6 by decide) rfl ?_
 refine c.w3 1 fun _ c=>?_
 refine c.rl 1 ?_
 exact hR _ c.gr
structure YC (S:Sys) (I:aZ):Prop extends ZK S I where
 Kp:∀{x:Hc} {es:List Et} {e:Et} {i:Nat} {h} {R:Value→Hp→Prop},Ho x→Sl EE h (aX x.es) es→x.i=i→es[i]?=some e→(∀h',Gr h h'→R (mW e.old) h')→S.C I.kM [nk x] h R
theorem Qs (cs:YC S I) (o:Ho x) (hs:Sl EE h (aX x.es) es) (ei:x.i=i) (he:es[i]?=some e) (hR:∀h',Gr h h'→R (mW {e.old with ref:=x.ref}) h'):qK S I (nk x) h R:=by
 obtain ⟨r,cA,who,seq,tg,fO,ws,many,es0,i0,dN,met,inner,ended,nx,bh⟩ :=x
 obtain ⟨ea,⟨ev,eq,er⟩,en,eb⟩ :=e
 have o':=o
 obtain ⟨hi,hx,hb⟩ :=o
 dsimp only at hi hx hb hs ei
 subst ei
 unfold qK
 have c:=Cx.aA h
 refine c.iK fun _ _ c=>?_
 refine c.v3 fun _ _ c=>?_
 refine c.rl 0 ?_
 refine cs.Kp (x:=⟨r,cA,who,seq,tg,fO,ws,many,es0,(i:Int),dN,met,inner,ended,nx,bh⟩) o' (hs.gr c.gr) rfl he fun _ g=>?_
 have c:=c.more g
 refine c.v3 fun _ _ c=>?_
 refine c.w3 2 fun _ c=>?_
 refine aD<|c.rc 0 ?_
 refine aD<|c.q3 2 fun _ c=>?_
 refine c.rl 2 ?_
 refine c.w3 1 fun _ c=>?_
 refine c.rl 1 ?_
 exact hR _ c.gr
end
theorem DN (r:Int):0≤cZ r∧cZ r≤72:=by
 unfold cZ
 split
 ·rename_i h
  have:=of_decide_eq_true h
  omega
 ·omega
def vZ (x:Hc) (w:W3):Bool:=decide (¬w.ref=x.ref∧¬cZ w.ref=0∧0≤bF (cZ w.ref))
theorem Jw (cs:YC S I) (Z:Zs h) (o:Ho x) (hw:Ww w) (hR:∀h',Gr h h'→R (.bool (vZ x w)) h'):oi S I (nk x) (mW w) h R:=by
 obtain ⟨r,cA,who,seq,tg,fO,ws,many,es0,i0,dN,met,inner,ended,nx,bh⟩ :=x
 obtain ⟨wv,wq,wr⟩ :=w
 obtain ⟨hi,hx,hb⟩ :=o
 have hwr:=hw.ref
 dsimp only at hi hx hb hwr
 have hl:=DN wr
 have rf:¬(¬wr=r∧¬cZ wr=0∧0≤bF (cZ wr))→∀{h'},Gr h h'→R (.bool false) h':=fun e _ g=>by
  have:=hR _ g
  rwa [show vZ ⟨r,cA,who,seq,tg,fO,ws,many,es0,i0,dN,met,inner,ended,nx,bh⟩ ⟨wv,wq,wr⟩=false from decide_eq_false e] at this
 have rd:¬wr=r→¬cZ wr=0→∀{h'},Gr h h'→R (.bool (decide (0≤bF (cZ wr)))) h':=fun e1 e2 _ g=>by
  have:=hR _ g
  rwa [show vZ ⟨r,cA,who,seq,tg,fO,ws,many,es0,i0,dN,met,inner,ended,nx,bh⟩ ⟨wv,wq,wr⟩=decide (0≤bF (cZ wr)) from decide_eq_decide.2 ⟨fun x=>x.2.2,fun x=>⟨e1,e2,x⟩⟩] at this
 unfold oi
 have c:=Cx.aA h
 refine c.iK fun _ _ c=>?_
 refine c.v3 fun _ _ c=>?_
 refine aD<|c.rc 1 ?_
 refine cs.who hwr fun _ g=>?_
 have c:=c.more g
 refine vx rfl<|vx rfl<|aD<|vx (c.vp (i:=0) (ds:=[_,_,_]) rfl rfl rfl)<|cs.Cy (who:=cZ wr) ⟨by omega,by omega⟩ _ _ (Z.gr c.gr) fun _ g=>?_
 have c:=c.more g
 refine vx rfl<|vx rfl ?_
 refine .here<|aD<|c.rc 1 ?_
 refine aD<|c.rc 0 ?_
 refine vx pJ<|pC (fun e1=>?_) fun e1=>?_
 ·refine vx pJ<|pC (fun e2=>?_) fun e2=>?_
  ·refine vx rZ ?_
   first | exact rd e1 e2 c.gr | exact rf (fun x=>x.2.1 (Decidable.not_not.1 e2)) c.gr | exact rf (fun x=>e1 x.1) c.gr
  ·first | exact rd e1 e2 c.gr | exact rf (fun x=>x.2.1 (Decidable.not_not.1 e2)) c.gr | exact rf (fun x=>e1 x.1) c.gr
 ·first | exact rd e1 e2 c.gr | exact rf (fun x=>x.2.1 (Decidable.not_not.1 e2)) c.gr | exact rf (fun x=>e1 x.1) c.gr
end
end Go.En
namespace Go.En
inductive HK where
 | begin | first | kY | vF | checked | nQ | again | lU | te | tS | settle | uZ | jO | mH | known | found | through | BQ
 deriving DecidableEq
structure Hs where
 ref:Int
 fO:Bool
 ws:List W3
 many:Nat
 es:List Et
 i:Nat
 dN:Int
 met:W3
 ended:Bool
 nx:HK
 bh:Option HK
def Hs.who (s:Hs):Int:=cZ s.ref
def Hs.seq (s:Hs):Int:=ki s.ref
def Hs.at' (s:Hs):Int:=bF (cZ s.ref)
def Hs.tg (s:Hs):Int:=m8 (cZ s.ref)
def Hs.new (ref:Int) (fO:Bool):Hs:=⟨ref,fO,[],0,[],0,0,W0,false,.begin,none⟩
abbrev HR:Type:=Hs × Ac × Bool
def hE (s:Hs):Et:=s.es.getD s.i HB
def lT (s:Hs) (a:Ac) (k:HK):HR:=({s with nx:=k},a,false)
def nc (s:Hs) (k:HK):HR:=lT s ⟨5,s.at',W0,W0⟩ k
def wB (s:Hs) (z:Int):HR:=({s with ended:=true,dN:=z},mL,true)
def wR (s:Hs) (w:W3):Bool:=decide (¬w.dN=s.seq∨¬w.ref=0∨w.v<0∨2<w.v)
def qf (s:Hs):HR:=
 if s.ws.length=3*s.many then nc s .checked
 else lT s ⟨1,yX s.who (s.ws.length / 3:Nat) (s.ws.length % 3:Nat),W0,W0⟩ .vF
def tp:List W3→List Et→Option (List Et)
 | a::b::c::r,out=>
  if Ns a b c=true∧qD (FF a b c).at'=true∧(∀l,out.getLast?=some l→l.at'<(FF a b c).at') then tp r (out++[FF a b c]) else none
 | _,out=>if lR out=0 then some out else none
def eF (s:Hs):HR:=
 if s.i=s.es.length then lT s ⟨8,0,W0,W0⟩ (s.bh.getD .begin)
 else lT {s with i:=s.i+1} ⟨7,(hE s).at',W0,W0⟩ .tS
def mF (s:Hs) (k:HK):HR:=eF {s with i:=0,bh:=some k}
def pO (s:Hs):HR:=lT s ⟨6,s.at',⟨0,s.seq,0⟩,⟨s.dN,s.seq,0⟩⟩ .uZ
def mO (s:Hs) (z:Int):HR:=
 if z=1∧s.fO=true then mF {s with dN:=z} .settle else pO {s with dN:=z}
def FO (s:Hs):W3:={(hE s).old with ref:=s.ref}
def cT (s:Hs):HR:=
 if s.i=s.es.length then mO s 1 else lT s ⟨6,(hE s).at',(hE s).old,FO s⟩ .nQ
def eB (s:Hs):HR:=if s.fO=true then lT s ⟨7,s.at',W0,W0⟩ .jO else nc s .known
def qP (s:Hs):HR:=
 if s.i<s.es.length then lT s ⟨5,(hE s).at',W0,W0⟩ .found
 else if s.fO=true then mF s .through else wB s s.dN
def yU (s:Hs):HR:=qP {s with i:=s.i+1}
def vn (s:Hs) (w:W3):HR:=
 if w.ref=s.ref∧(xK w (hE s).new ((hE s).wr&&decide (s.dN=1))).2=0
 then lT s ⟨6,(hE s).at',w,(xK w (hE s).new ((hE s).wr&&decide (s.dN=1))).1⟩ .BQ else yU s
def xk (s:Hs) (w:W3):HR:=qP {s with dN:=if w=⟨1,s.seq,0⟩ ∨w=⟨2,s.seq,0⟩ then w.v else 4,i:=0}
def H4 (s:Hs) (w:W3):Bool:=decide (¬w.ref=s.ref∧¬cZ w.ref=0∧0≤bF (cZ w.ref))
def pg (s:Hs) (g:iM):HR:=
 if g.ok=true∨g.w=FO s then cT {s with i:=s.i+1}
 else if H4 s g.w=true then nc {s with met:=g.w} .again
 else mO s 2
def m3 (s:Hs) (w:W3):HR:=
 if wR s w=true then wB s 4
 else match tp s.ws [] with
  | none=>wB s 4
  | some l=>if ¬w.v=0 then eB {s with es:=l} else cT {s with es:=l}
def qt (s:Hs) (w:W3):HR:=
 if w.v<1∨s.tg<w.v∨¬w=⟨w.v,0,0⟩ then wB s 4 else qf {s with many:=w.v.toNat}
def oQ (s:Hs) (g:iM):HR:=
 match s.nx with
 | .begin=>nc s .first
 | .first=>if wR s g.w=true then wB s 4 else lT s ⟨1,s.at'+1,W0,W0⟩ .kY
 | .kY=>qt s g.w
 | .vF=>qf {s with ws:=s.ws++[g.w]}
 | .checked=>m3 s g.w
 | .nQ=>pg s g
 | .again=>eB s
 | .lU=>cT s
 | .te=>cT s
 | .tS=>eF s
 | .settle=>pO s
 | .uZ=>eB s
 | .jO=>lT s ⟨8,0,W0,W0⟩ .mH
 | .mH=>nc s .known
 | .known=>xk s g.w
 | .found=>vn s g.w
 | .through=>wB s s.dN
 | .BQ=>yU s
def fP:List Hs→iM→List Hs × Ac × Bool
 | [],_=>([],mL,true)
 | s::r,g=>
  if s.ended=true then (s::r,mL,true)
  else match s.nx,r with
   | .lU,t::r=>match fP (t::r) g with
    | (r',a,false)=>({s with nx:=.lU}::r',a,false)
    | (r',_,true)=>match r' with
     | t'::_=>if ¬t'.dN=4 then ([(cT s).1],(cT s).2) else ([{s with nx:=.te}],⟨6,(hE s).at',s.met,⟨s.met.v,s.met.dN,0⟩⟩,false)
     | []=>([],mL,true)
   | .again,_=>if ¬g.w=⟨0,s.seq,0⟩ then ([(eB s).1],(eB s).2)
    else ([{s with nx:=.lU},{Hs.new s.met.ref s.fO with nx:=.first}],⟨5,bF (cZ s.met.ref),W0,W0⟩,false)
   | _,_=>([(oQ s g).1],(oQ s g).2)
theorem zG {h:Hs} {g:iM} (h0:h.ended=false) (h1:¬h.nx=.again) (l:List Hs) (h2:l=[]∨¬h.nx=.lU):fP (h::l) g=([(oQ h g).1],(oQ h g).2):=by
 rw [fP.eq_def]
 simp only [h0,Bool.false_eq_true,if_false]
 split
 ·rcases h2 with h2 | h2
  ·cases h2
  ·rename_i e; exact absurd e h2
 ·rename_i e; exact absurd e h1
 ·rfl
theorem C2 {h:Hs} {g:iM} (h0:h.ended=false) (h1:h.nx=.again) (l:List Hs):fP (h::l) g=if ¬g.w=⟨0,h.seq,0⟩ then ([(eB h).1],(eB h).2)
    else ([{h with nx:=.lU},{Hs.new h.met.ref h.fO with nx:=.first}],⟨5,bF (cZ h.met.ref),W0,W0⟩,false):=by
 rw [fP.eq_def]
 simp only [h0,Bool.false_eq_true,if_false]
 split
 ·rename_i e; rw [h1] at e; cases e
 ·rfl
 ·rename_i e _; exact absurd h1 e
theorem BI {h k:Hs} {g:iM} (h0:h.ended=false) (h1:h.nx=.lU) (l:List Hs):fP (h::k::l) g=match fP (k::l) g with
    | (r',a,false)=>({h with nx:=.lU}::r',a,false)
    | (r',_,true)=>match r' with
     | t'::_=>if ¬t'.dN=4 then ([(cT h).1],(cT h).2) else ([{h with nx:=.te}],⟨6,(hE h).at',h.met,⟨h.met.v,h.met.dN,0⟩⟩,false)
     | []=>([],mL,true):=by
 rw [fP.eq_def]
 simp only [h0,Bool.false_eq_true,if_false,h1] <;> rfl
end Go.En
namespace Go.En
variable {S:Sys} {I:aZ} {h h0 h':Hp} {F F0:Fp} {R:Value→Hp→Prop} {L:List bQ} {B:Bs}
def kI (I:aZ):HK→Nat
 | .begin=>I.tN
 | .first=>I.tG
 | .kY=>I.rU
 | .vF=>I.sI
 | .checked=>I.rm
 | .nQ=>I.pQ
 | .again=>I.tA
 | .lU=>I.qi
 | .te=>I.sD
 | .tS=>I.mV
 | .settle=>I.nS
 | .uZ=>I.rN
 | .jO=>I.mw
 | .mH=>I.oA
 | .known=>I.ru
 | .found=>I.tP
 | .through=>I.rR
 | .BQ=>I.pK
def XC (I:aZ):Option HK→Value
 | none=>.nilFunc
 | some k=>sU (kI I k)
theorem eS (I:aZ) (k:Option HK):(XC I k).oneCell'=true:=by cases k <;> rfl
instance {I:aZ} {k:Option HK}:Ov (XC I k):=⟨eS I k⟩
abbrev cB (I:aZ) (s:Hs) (w e:SH) (pB:Value):Hc:=⟨s.ref,s.at',s.who,s.seq,s.tg,s.fO,w,s.many,e,s.i,s.dN,s.met,pB,s.ended,sU (kI I s.nx),XC I s.bh⟩
def hv (I:aZ) (x:HR) (w e:SH):Value:=.tuple #[nk (cB I x.1 w e .nilIface),nJ x.2.1,.bool x.2.2]
theorem ho (I:aZ) (s:Hs) (w e:SH):Ho (cB I s w e .nilIface):=⟨rfl,rfl,eS I s.bh⟩
structure Wy (S:Sys) (I:aZ):Prop extends YC S I where
 Dk:∀{x:Hc} {n:Value} {h} {R:Value→Hp→Prop},Ho x→n.oneCell'=true→(∀h',Gr h h'→R (.tuple #[nk {x with nx:=n},nJ ⟨5,x.at',W0,W0⟩,.bool false]) h')→S.C I.fH [nk x,n] h R
 AD:∀{x:Hc} {w:W3} {h} {R:Value→Hp→Prop},Ho x→0≤x.seq∧x.seq<4294967296→(∀h',Gr h h'→R (.bool (vm x w)) h')→S.C I.kK [nk x,mW w] h R
 Ee:∀{x:Hc} {es:List Et} {e:Et} {i:Nat} {h} {R:Value→Hp→Prop},Ho x→Sl EE h (aX x.es) es→x.i=i→es[i]?=some e→(∀h',Gr h h'→R (.int .i64 e.at') h')→S.C I.fS [nk x] h R
 Ic:∀{x:Hc} {es:List Et} {e:Et} {i:Nat} {h} {R:Value→Hp→Prop},Ho x→Sl EE h (aX x.es) es→x.i=i→es[i]?=some e→(∀h',Gr h h'→R (mW {e.old with ref:=x.ref}) h')→S.C I.lp [nk x] h R
 ET:∀{x:Hc} {w:W3} {h} {R:Value→Hp→Prop},Zs h→Ho x→Ww w→(∀h',Gr h h'→R (.bool (vZ x w)) h')→S.C I.lM [nk x,mW w] h R
section
variable {s:Hs} {w e:SH} {g:iM}
theorem Ju (cs:Wy S I) (hR:∀h',Gr h h'→R (hv I (eB s) w e) h'):lI S I (nk (cB I s w e .nilIface)) h R:=by
 obtain ⟨rf,du,ws,mn,es,i,vr,mt,en,nx,bh⟩ :=s
 have hb:=eS I bh
 cases du with
 | true=>
  unfold lI
  have c:=Cx.aA h
  refine c.iK fun _ _ c=>?_
  refine c.iK fun _ _ c=>?_
  refine c.v8 fun _ _ c=>?_
  refine aD<|c.rc 0 ?_
  refine eR<|c.rl 0 ?_
  refine aD<|c.rc 0 ?_
  refine vx (aL (ds:=[_,_,_,_,_,_,_,_]) rfl)<|cs.Ah (x:=cB I ⟨rf,true,ws,mn,es,i,vr,mt,en,nx,bh⟩ w e .nilIface) (a:=⟨7,bF (cZ rf),W0,W0⟩) (ho I _ w e) rfl fun _ g=>?_
  have c:=c.more g
  refine c.eM 1 2 fun _ c=>?_
  exact hR _ c.gr
 | false=>
  unfold lI
  have c:=Cx.aA h
  refine c.iK fun _ _ c=>?_
  refine c.iK fun _ _ c=>?_
  refine c.v8 fun _ _ c=>?_
  refine aD<|c.rc 0 ?_
  refine bD<|c.rl 0 ?_
  refine cs.Dk (x:=cB I ⟨rf,false,ws,mn,es,i,vr,mt,en,nx,bh⟩ w e .nilIface) (ho I _ w e) rfl fun _ g=>?_
  have c:=c.more g
  refine c.eM 1 2 fun _ c=>?_
  exact hR _ c.gr
theorem FE {v:iM} (cs:Wy S I) (hq:0≤s.seq∧s.seq<4294967296) (hR:∀h',Gr h h'→R (hv I (pO s) w e) h'):sQ S I (nk (cB I s w e .nilIface)) (k6 v) h R:=by
 obtain ⟨rf,du,ws,mn,es,i,vr,mt,en,nx,bh⟩ :=s
 have hb:=eS I bh
 unfold sQ
 have c:=Cx.aA h
 refine c.iK fun _ _ c=>?_
 refine c.v4 fun _ _ c=>?_
 refine c.iK fun _ _ c=>?_
 refine c.v8 fun _ _ c=>?_
 refine c.rl 0 ?_
 refine aD<|c.rc 0 ?_
 refine aD<|c.rc 0 ?_
 refine aD<|c.rc 0 ?_
 refine aD<|c.rc 0 ?_
 refine cs.status hq fun _ g=>?_
 have c:=c.more g
 refine c.ac 0 ?_
 refine c.ac 0 ?_
 refine c.ac 0 ?_
 refine c.al 0 ?_
 refine cs.status hq fun _ g=>?_
 have c:=c.more g
 refine c.ac 0 ?_
 refine c.al 0 ?_
 refine vx (aL (ds:=[_,_,_,_,_,_,_,_]) rfl)<|cs.Ah (x:=cB I ⟨rf,du,ws,mn,es,i,vr,mt,en,nx,bh⟩ w e .nilIface) (a:=⟨6,bF (cZ rf),⟨0,ki rf,0⟩,⟨vr,ki rf,0⟩⟩) (ho I _ w e) rfl fun _ g=>?_
 have c:=c.more g
 refine c.eM 2 3 fun _ c=>?_
 exact hR _ c.gr
theorem Ew {v:iM} (cs:Wy S I) (he:Sl EE h (aX e) s.es) (hi:s.i≤s.es.length∧s.es.length≤1000) (hbh:¬s.bh=none) (hR:∀h',Gr h h'→R (hv I (eF s) w e) h'):pi S I (nk (cB I s w e .nilIface)) (k6 v) h R:=by
 obtain ⟨rf,du,ws,mn,es,i,vr,mt,en,nx,bh⟩ :=s
 have hb:=eS I bh
 dsimp only at he hi hbh
 unfold eF at hR
 dsimp only at hR
 by_cases e1:i=es.length
 ·rw [if_pos e1] at hR
  unfold pi
  have c:=Cx.aA h
  refine c.iK fun _ _ c=>?_
  refine c.v4 fun _ _ c=>?_
  refine c.iK fun _ _ c=>?_
  refine c.v8 fun _ _ c=>?_
  refine aD<|c.rc 0 ?_
  refine aD<|c.rc 0 ?_
  refine vx (he.gr c.gr).ln<|vx (qu (congrArg Nat.cast e1))<|eR<|c.rl 0 ?_
  refine vx (aL (ds:=[_,_,_,_,_,_,_,_]) rfl)<|aD<|c.rc 0 ?_
  refine cs.Ah (x:=cB I ⟨rf,du,ws,mn,es,i,vr,mt,en,nx,bh⟩ w e .nilIface) (a:=⟨8,0,W0,W0⟩) (ho I _ w e) hb fun _ g=>?_
  have c:=c.more g
  refine c.eM 2 3 fun _ c=>?_
  refine (?_:R (hv I (⟨rf,du,ws,mn,es,i,vr,mt,en,bh.getD .begin,bh⟩,⟨8,0,W0,W0⟩,false) w e) _→_) (hR _ c.gr)
  cases bh with
  | none=>exact absurd rfl hbh
  | some k=>exact id
 ·rw [if_neg e1] at hR
  have hlt:i<es.length:=by omega
  have hx:=List.getElem?_eq_getElem hlt
  have hE':hE ⟨rf,du,ws,mn,es,i,vr,mt,en,nx,bh⟩=es[i]:=by
   unfold hE
   dsimp only
   rw [List.getD_eq_getElem?_getD,hx]; rfl
  rw [hE'] at hR
  generalize es[i]=et at hx hR
  unfold pi
  have c:=Cx.aA h
  refine c.iK fun _ _ c=>?_
  refine c.v4 fun _ _ c=>?_
  refine c.iK fun _ _ c=>?_
  refine c.v8 fun _ _ c=>?_
  refine aD<|c.rc 0 ?_
  refine aD<|c.rc 0 ?_
  refine vx (he.gr c.gr).ln<|vx (m6 (fun h=>e1 (Int.ofNat_inj.1 h)))<|bD<|c.rl 0 ?_
  refine cs.Ee (x:=cB I ⟨rf,du,ws,mn,es,i,vr,mt,en,nx,bh⟩ w e .nilIface) (ho I _ w e) (he.gr c.gr) rfl hx fun _ g=>?_
  have c:=c.more g
  refine aD<|c.rc 0 ?_
  refine vx (inc (n:=i) (by omega))<|aD<|c.Ag 0 fun _ c=>?_
  refine c.rl 0 ?_
  refine vx (aL (ds:=[_,_,_,_,_,_,_,_]) rfl)<|cs.Ah (x:=cB I ⟨rf,du,ws,mn,es,i+1,vr,mt,en,nx,bh⟩ w e .nilIface) (a:=⟨7,et.at',W0,W0⟩) (ho I _ w e) rfl fun _ g=>?_
  have c:=c.more g
  refine c.eM 2 3 fun _ c=>?_
  exact hR _ c.gr
structure Zo (S:Sys) (I:aZ):Prop extends Wy S I where
 Bt:∀{s:Hs} {w e:SH} {h} {R:Value→Hp→Prop},(∀h',Gr h h'→R (hv I (eB s) w e) h')→S.C I.fZ [nk (cB I s w e .nilIface)] h R
 GY:∀{s:Hs} {w e:SH} {v:iM} {h} {R:Value→Hp→Prop},(0≤s.seq∧s.seq<4294967296)→(∀h',Gr h h'→R (hv I (pO s) w e) h')→S.C I.nS [nk (cB I s w e .nilIface),k6 v] h R
 Iy:∀{s:Hs} {w e:SH} {v:iM} {h} {R:Value→Hp→Prop},Sl EE h (aX e) s.es→(s.i≤s.es.length∧s.es.length≤1000)→¬s.bh=none→(∀h',Gr h h'→R (hv I (eF s) w e) h')→S.C I.mV [nk (cB I s w e .nilIface),k6 v] h R
theorem OU {k:HK} (cs:Zo S I) (he:Sl EE h (aX e) s.es) (hi:s.es.length≤1000) (hR:∀h',Gr h h'→R (hv I (mF s k) w e) h'):pZ S I (nk (cB I s w e .nilIface)) (sU (kI I k)) h R:=by
 obtain ⟨rf,du,ws,mn,es,i,vr,mt,en,nx,bh⟩ :=s
 have hb:=eS I bh
 unfold pZ
 have c:=Cx.aA h
 refine c.iK fun _ _ c=>?_
 refine c.iK fun _ _ c=>?_
 refine c.v8 fun _ _ c=>?_
 refine aD<|c.Ag 0 fun _ c=>?_
 refine aD<|c.Ag 0 fun _ c=>?_
 refine c.rl 0 ?_
 refine vx (aL (ds:=[_,_,_,_]) rfl)<|cs.Iy (s:=⟨rf,du,ws,mn,es,0,vr,mt,en,nx,some k⟩) (w:=w) (e:=e) (v:=qY) (he.gr c.gr) ⟨Nat.zero_le _,hi⟩ (fun h=>by cases h) fun _ g=>?_
 have c:=c.more g
 refine c.eM 1 2 fun _ c=>?_
 exact hR _ c.gr
end
end Go.En
namespace Go.En
variable {S:Sys} {I:aZ} {h h0 h':Hp} {F F0:Fp} {R:Value→Hp→Prop} {L:List bQ} {B:Bs}
structure ZL (S:Sys) (I:aZ):Prop extends Zo S I where
 JV:∀{s:Hs} {w e:SH} {k:HK} {h} {R:Value→Hp→Prop},Sl EE h (aX e) s.es→s.es.length≤1000→(∀h',Gr h h'→R (hv I (mF s k) w e) h')→S.C I.kH [nk (cB I s w e .nilIface),sU (kI I k)] h R
theorem I4 {s:Hs} (h:s.i<s.es.length):s.es[s.i]?=some (hE s):=by
 unfold hE
 rw [List.getD_eq_getElem?_getD,List.getElem?_eq_getElem h]; rfl
theorem mS (r:Int):0≤ki r∧ki r<4294967296:=by
 unfold ki
 split
 ·rename_i h
  have:=of_decide_eq_true h
  omega
 ·omega
section
variable {s:Hs} {w e:SH} {g:iM} {z:Int}
theorem MR (cs:ZL S I) (he:Sl EE h (aX e) s.es) (hi:s.es.length≤1000) (hR:∀h',Gr h h'→R (hv I (mO s z) w e) h'):kg S I (nk (cB I s w e .nilIface)) (.int .i64 z) h R:=by
 obtain ⟨rf,du,ws,mn,es,i,vr,mt,en,nx,bh⟩ :=s
 have hb:=eS I bh
 unfold mO at hR
 dsimp only at hR
 by_cases e1:z=1
 ·cases du with
  | true=>
   rw [if_pos ⟨e1,rfl⟩] at hR
   unfold kg
   have c:=Cx.aA h
   refine c.iK fun _ _ c=>?_
   refine c.iK fun _ _ c=>?_
   refine c.v8 fun _ _ c=>?_
   refine aD<|c.Ag 0 fun _ c=>?_
   refine .here<|vx (qu e1)<|eR<|aD<|c.rc 0 ?_
   refine eR<|c.rl 0 ?_
   refine cs.JV (s:=⟨rf,true,ws,mn,es,i,z,mt,en,nx,bh⟩) (w:=w) (e:=e) (k:=.settle) (he.gr c.gr) hi fun _ g=>?_
   have c:=c.more g
   refine c.eM 1 2 fun _ c=>?_
   exact hR _ c.gr
  | false=>
   rw [if_neg fun h=>by cases h.2] at hR
   unfold kg
   have c:=Cx.aA h
   refine c.iK fun _ _ c=>?_
   refine c.iK fun _ _ c=>?_
   refine c.v8 fun _ _ c=>?_
   refine aD<|c.Ag 0 fun _ c=>?_
   refine .here<|vx (qu e1)<|eR<|aD<|c.rc 0 ?_
   refine bD<|c.rl 0 ?_
   refine vx (aL (ds:=[_,_,_,_]) rfl)<|cs.GY (s:=⟨rf,false,ws,mn,es,i,z,mt,en,nx,bh⟩) (w:=w) (e:=e) (v:=qY) (mS rf) fun _ g=>?_
   have c:=c.more g
   refine c.eM 1 2 fun _ c=>?_
   exact hR _ c.gr
 ·rw [if_neg fun h=>e1 h.1] at hR
  unfold kg
  have c:=Cx.aA h
  refine c.iK fun _ _ c=>?_
  refine c.iK fun _ _ c=>?_
  refine c.v8 fun _ _ c=>?_
  refine aD<|c.Ag 0 fun _ c=>?_
  refine .here<|vx (m6 e1)<|bD<|bD<|c.rl 0 ?_
  refine vx (aL (ds:=[_,_,_,_]) rfl)<|cs.GY (s:=⟨rf,du,ws,mn,es,i,z,mt,en,nx,bh⟩) (w:=w) (e:=e) (v:=qY) (mS rf) fun _ g=>?_
  have c:=c.more g
  refine c.eM 1 2 fun _ c=>?_
  exact hR _ c.gr
structure Yk (S:Sys) (I:aZ):Prop extends ZL S I where
 GJ:∀{s:Hs} {w e:SH} {z:Int} {h} {R:Value→Hp→Prop},Sl EE h (aX e) s.es→s.es.length≤1000→(∀h',Gr h h'→R (hv I (mO s z) w e) h')→S.C I.jW [nk (cB I s w e .nilIface),.int .i64 z] h R
theorem Jz (cs:Yk S I) (he:Sl EE h (aX e) s.es) (hi:s.i≤s.es.length∧s.es.length≤1000) (hR:∀h',Gr h h'→R (hv I (cT s) w e) h'):lJ S I (nk (cB I s w e .nilIface)) h R:=by
 obtain ⟨rf,du,ws,mn,es,i,vr,mt,en,nx,bh⟩ :=s
 have hb:=eS I bh
 dsimp only at he hi
 unfold cT at hR
 dsimp only at hR
 by_cases e1:i=es.length
 ·rw [if_pos e1] at hR
  unfold lJ
  have c:=Cx.aA h
  refine c.iK fun _ _ c=>?_
  refine c.iK fun _ _ c=>?_
  refine c.v8 fun _ _ c=>?_
  refine aD<|c.rc 0 ?_
  refine aD<|c.rc 0 ?_
  refine vx (he.gr c.gr).ln<|vx (qu (congrArg Nat.cast e1))<|eR<|c.rl 0 ?_
  refine cs.GJ (s:=⟨rf,du,ws,mn,es,i,vr,mt,en,nx,bh⟩) (w:=w) (e:=e) (he.gr c.gr) hi.2 fun _ g=>?_
  have c:=c.more g
  refine c.eM 1 2 fun _ c=>?_
  exact hR _ c.gr
 ·rw [if_neg e1] at hR
  have hlt:i<es.length:=by omega
  have hx:=I4 (s:=⟨rf,du,ws,mn,es,i,vr,mt,en,nx,bh⟩) hlt
  unfold FO at hR
  generalize hE ⟨rf,du,ws,mn,es,i,vr,mt,en,nx,bh⟩=et at hx hR
  unfold lJ
  have c:=Cx.aA h
  refine c.iK fun _ _ c=>?_
  refine c.iK fun _ _ c=>?_
  refine c.v8 fun _ _ c=>?_
  refine aD<|c.rc 0 ?_
  refine aD<|c.rc 0 ?_
  refine vx (he.gr c.gr).ln<|vx (m6 (fun h=>e1 (Int.ofNat_inj.1 h)))<|bD<|c.rl 0 ?_
  refine c.rl 0 ?_
  refine c.rl 0 ?_
  refine c.rl 0 ?_
  refine cs.Ee (x:=cB I ⟨rf,du,ws,mn,es,i,vr,mt,en,nx,bh⟩ w e .nilIface) (ho I _ w e) (he.gr c.gr) rfl hx fun _ g=>?_
  have c:=c.more g
  refine c.al 0 ?_
  refine c.al 0 ?_
  refine c.al 0 ?_
  refine cs.Kp (x:=cB I ⟨rf,du,ws,mn,es,i,vr,mt,en,nx,bh⟩ w e .nilIface) (ho I _ w e) (he.gr c.gr) rfl hx fun _ g=>?_
  have c:=c.more g
  refine c.al 0 ?_
  refine c.al 0 ?_
  refine cs.Ic (x:=cB I ⟨rf,du,ws,mn,es,i,vr,mt,en,nx,bh⟩ w e .nilIface) (ho I _ w e) (he.gr c.gr) rfl hx fun _ g=>?_
  have c:=c.more g
  refine c.al 0 ?_
  refine vx (aL (ds:=[_,_,_,_,_,_,_,_]) rfl)<|cs.Ah (x:=cB I ⟨rf,du,ws,mn,es,i,vr,mt,en,nx,bh⟩ w e .nilIface) (a:=⟨6,et.at',et.old,{et.old with ref:=rf}⟩) (ho I _ w e) rfl fun _ g=>?_
  have c:=c.more g
  refine c.eM 1 2 fun _ c=>?_
  exact hR _ c.gr
theorem RB (cs:Yk S I) (he:Sl EE h (aX e) s.es) (hi:s.es.length≤1000) (hR:∀h',Gr h h'→R (hv I (qP s) w e) h'):lD S I (nk (cB I s w e .nilIface)) h R:=by
 obtain ⟨rf,du,ws,mn,es,i,vr,mt,en,nx,bh⟩ :=s
 have hb:=eS I bh
 dsimp only at he hi
 unfold qP at hR
 dsimp only at hR
 by_cases e1:i<es.length
 ·rw [if_pos e1] at hR
  have hx:=I4 (s:=⟨rf,du,ws,mn,es,i,vr,mt,en,nx,bh⟩) e1
  generalize hE ⟨rf,du,ws,mn,es,i,vr,mt,en,nx,bh⟩=et at hx hR
  unfold lD
  have c:=Cx.aA h
  refine c.iK fun _ _ c=>?_
  refine c.iK fun _ _ c=>?_
  refine c.v8 fun _ _ c=>?_
  refine aD<|c.rc 0 ?_
  refine aD<|c.rc 0 ?_
  refine vx (he.gr c.gr).ln<|vx (yH (Int.ofNat_lt.2 e1))<|eR<|c.rl 0 ?_
  refine c.rl 0 ?_
  refine cs.Ee (x:=cB I ⟨rf,du,ws,mn,es,i,vr,mt,en,nx,bh⟩ w e .nilIface) (ho I _ w e) (he.gr c.gr) rfl hx fun _ g=>?_
  have c:=c.more g
  refine c.al 0 ?_
  refine vx (aL (ds:=[_,_,_,_,_,_,_,_]) rfl)<|cs.Ah (x:=cB I ⟨rf,du,ws,mn,es,i,vr,mt,en,nx,bh⟩ w e .nilIface) (a:=⟨5,et.at',W0,W0⟩) (ho I _ w e) rfl fun _ g=>?_
  have c:=c.more g
  refine c.eM 1 2 fun _ c=>?_
  exact hR _ c.gr
 ·rw [if_neg e1] at hR
  cases du with
  | true=>
   unfold lD
   have c:=Cx.aA h
   refine c.iK fun _ _ c=>?_
   refine c.iK fun _ _ c=>?_
   refine c.v8 fun _ _ c=>?_
   refine aD<|c.rc 0 ?_
   refine aD<|c.rc 0 ?_
   refine vx (he.gr c.gr).ln<|vx (iZ (fun h=>e1 (Int.ofNat_lt.1 h)))<|bD<|aD<|c.rc 0 ?_
   refine eR<|c.rl 0 ?_
   refine cs.JV (s:=⟨rf,true,ws,mn,es,i,vr,mt,en,nx,bh⟩) (w:=w) (e:=e) (k:=.through) (he.gr c.gr) hi fun _ g=>?_
   have c:=c.more g
   refine c.eM 1 2 fun _ c=>?_
   exact hR _ c.gr
  | false=>
   unfold lD
   have c:=Cx.aA h
   refine c.iK fun _ _ c=>?_
   refine c.iK fun _ _ c=>?_
   refine c.v8 fun _ _ c=>?_
   refine aD<|c.rc 0 ?_
   refine aD<|c.rc 0 ?_
   refine vx (he.gr c.gr).ln<|vx (iZ (fun h=>e1 (Int.ofNat_lt.1 h)))<|bD<|aD<|c.rc 0 ?_
   refine bD<|c.rl 0 ?_
   refine aD<|c.rc 0 ?_
   refine cs.tM (x:=cB I ⟨rf,false,ws,mn,es,i,vr,mt,en,nx,bh⟩ w e .nilIface) (z:=vr) (ho I _ w e) fun _ g=>?_
   have c:=c.more g
   refine c.eM 1 2 fun _ c=>?_
   exact hR _ c.gr
structure NC (S:Sys) (I:aZ):Prop extends Yk S I where
 vX:∀{s:Hs} {w e:SH} {h} {R:Value→Hp→Prop},Sl EE h (aX e) s.es→s.i≤s.es.length∧s.es.length≤1000→(∀h',Gr h h'→R (hv I (cT s) w e) h')→S.C I.eY [nk (cB I s w e .nilIface)] h R
 Ie:∀{s:Hs} {w e:SH} {h} {R:Value→Hp→Prop},Sl EE h (aX e) s.es→s.es.length≤1000→(∀h',Gr h h'→R (hv I (qP s) w e) h')→S.C I.lB [nk (cB I s w e .nilIface)] h R
theorem IW (cs:NC S I) (he:Sl EE h (aX e) s.es) (hi:s.es.length≤1000∧s.i≤1000) (hR:∀h',Gr h h'→R (hv I (yU s) w e) h'):tU S I (nk (cB I s w e .nilIface)) (k6 g) h R:=by
 obtain ⟨rf,du,ws,mn,es,i,vr,mt,en,nx,bh⟩ :=s
 have hb:=eS I bh
 dsimp only at he hi
 unfold tU
 have c:=Cx.aA h
 refine c.iK fun _ _ c=>?_
 refine c.v4 fun _ _ c=>?_
 refine c.iK fun _ _ c=>?_
 refine c.v8 fun _ _ c=>?_
 refine aD<|c.rc 0 ?_
 refine vx (inc (n:=i) (by omega))<|aD<|c.Ag 0 fun _ c=>?_
 refine c.rl 0 ?_
 refine cs.Ie (s:=⟨rf,du,ws,mn,es,i+1,vr,mt,en,nx,bh⟩) (w:=w) (e:=e) (he.gr c.gr) hi.1 fun _ g=>?_
 have c:=c.more g
 refine c.eM 2 3 fun _ c=>?_
 exact hR _ c.gr
theorem Jk (cs:NC S I) (hR:∀h',Gr h h'→R (hv I (eB s) w e) h'):rH S I (nk (cB I s w e .nilIface)) (k6 g) h R:=by
 obtain ⟨rf,du,ws,mn,es,i,vr,mt,en,nx,bh⟩ :=s
 have hb:=eS I bh
 unfold rH
 have c:=Cx.aA h
 refine c.iK fun _ _ c=>?_
 refine c.v4 fun _ _ c=>?_
 refine c.iK fun _ _ c=>?_
 refine c.v8 fun _ _ c=>?_
 refine c.rl 0 ?_
 refine cs.Bt (s:=⟨rf,du,ws,mn,es,i,vr,mt,en,nx,bh⟩) (w:=w) (e:=e) fun _ g=>?_
 have c:=c.more g
 refine c.eM 2 3 fun _ c=>?_
 exact hR _ c.gr
theorem Mb (cs:NC S I) (he:Sl EE h (aX e) s.es) (hi:s.i≤s.es.length∧s.es.length≤1000) (hR:∀h',Gr h h'→R (hv I (cT s) w e) h'):sO S I (nk (cB I s w e .nilIface)) (k6 g) h R:=by
 obtain ⟨rf,du,ws,mn,es,i,vr,mt,en,nx,bh⟩ :=s
 have hb:=eS I bh
 unfold sO
 have c:=Cx.aA h
 refine c.iK fun _ _ c=>?_
 refine c.v4 fun _ _ c=>?_
 refine c.iK fun _ _ c=>?_
 refine c.v8 fun _ _ c=>?_
 refine c.rl 0 ?_
 refine cs.vX (s:=⟨rf,du,ws,mn,es,i,vr,mt,en,nx,bh⟩) (w:=w) (e:=e) (he.gr c.gr) hi fun _ g=>?_
 have c:=c.more g
 refine c.eM 2 3 fun _ c=>?_
 exact hR _ c.gr
theorem CA (cs:NC S I) (hR:∀h',Gr h h'→R (hv I (lT s ⟨8,0,W0,W0⟩ .mH) w e) h'):mh S I (nk (cB I s w e .nilIface)) (k6 g) h R:=by
 obtain ⟨rf,du,ws,mn,es,i,vr,mt,en,nx,bh⟩ :=s
 have hb:=eS I bh
 unfold mh
 have c:=Cx.aA h
 refine c.iK fun _ _ c=>?_
 refine c.v4 fun _ _ c=>?_
 refine c.iK fun _ _ c=>?_
 refine c.v8 fun _ _ c=>?_
 refine c.rl 0 ?_
 refine vx (aL (ds:=[_,_,_,_,_,_,_,_]) rfl)<|cs.Ah (x:=cB I ⟨rf,du,ws,mn,es,i,vr,mt,en,nx,bh⟩ w e .nilIface) (a:=⟨8,0,W0,W0⟩) (ho I _ w e) rfl fun _ g=>?_
 have c:=c.more g
 refine c.eM 2 3 fun _ c=>?_
 exact hR _ c.gr
theorem E8 (cs:NC S I) (hR:∀h',Gr h h'→R (hv I (nc s .known) w e) h'):oJ S I (nk (cB I s w e .nilIface)) (k6 g) h R:=by
 obtain ⟨rf,du,ws,mn,es,i,vr,mt,en,nx,bh⟩ :=s
 have hb:=eS I bh
 unfold oJ
 have c:=Cx.aA h
 refine c.iK fun _ _ c=>?_
 refine c.v4 fun _ _ c=>?_
 refine c.iK fun _ _ c=>?_
 refine c.v8 fun _ _ c=>?_
 refine c.rl 0 ?_
 refine cs.Dk (x:=cB I ⟨rf,du,ws,mn,es,i,vr,mt,en,nx,bh⟩ w e .nilIface) (ho I _ w e) rfl fun _ g=>?_
 have c:=c.more g
 refine c.eM 2 3 fun _ c=>?_
 exact hR _ c.gr
theorem JD (cs:NC S I) (hR:∀h',Gr h h'→R (hv I (wB s s.dN) w e) h'):rL S I (nk (cB I s w e .nilIface)) (k6 g) h R:=by
 obtain ⟨rf,du,ws,mn,es,i,vr,mt,en,nx,bh⟩ :=s
 have hb:=eS I bh
 unfold rL
 have c:=Cx.aA h
 refine c.iK fun _ _ c=>?_
 refine c.v4 fun _ _ c=>?_
 refine c.iK fun _ _ c=>?_
 refine c.v8 fun _ _ c=>?_
 refine c.rl 0 ?_
 refine aD<|c.rc 0 ?_
 refine cs.tM (x:=cB I ⟨rf,du,ws,mn,es,i,vr,mt,en,nx,bh⟩ w e .nilIface) (z:=vr) (ho I _ w e) fun _ g=>?_
 have c:=c.more g
 refine c.eM 2 3 fun _ c=>?_
 exact hR _ c.gr
theorem PW (cs:NC S I) (hR:∀h',Gr h h'→R (hv I (nc s .first) w e) h'):tB S I (nk (cB I s w e .nilIface)) (k6 g) h R:=by
 obtain ⟨rf,du,ws,mn,es,i,vr,mt,en,nx,bh⟩ :=s
 have hb:=eS I bh
 unfold tB
 have c:=Cx.aA h
 refine c.iK fun _ _ c=>?_
 refine c.v4 fun _ _ c=>?_
 refine c.iK fun _ _ c=>?_
 refine c.v8 fun _ _ c=>?_
 refine c.rl 0 ?_
 refine cs.Dk (x:=cB I ⟨rf,du,ws,mn,es,i,vr,mt,en,nx,bh⟩ w e .nilIface) (ho I _ w e) rfl fun _ g=>?_
 have c:=c.more g
 refine c.eM 2 3 fun _ c=>?_
 exact hR _ c.gr
end
end Go.En
namespace Go.En
variable {S:Sys} {I:aZ} {h h0 h':Hp} {F F0:Fp} {R:Value→Hp→Prop} {L:List bQ} {B:Bs}
structure Yl (S:Sys) (I:aZ):Prop extends NC S I where
 GV:∀{s:Hs} {w e:SH} {g:iM} {h} {R:Value→Hp→Prop},Sl EE h (aX e) s.es→s.es.length≤1000∧s.i≤1000→(∀h',Gr h h'→R (hv I (yU s) w e) h')→S.C I.pK [nk (cB I s w e .nilIface),k6 g] h R
theorem Ys (a b:W3):E5 [true,true,true] (.agg ⟨cW a⟩) (.agg ⟨cW b⟩)=some (decide (a=b)):=by
 show ((some (a.v == b.v)).bind fun x=>((some (a.dN == b.dN)).bind fun x=>((some (a.ref == b.ref)).bind fun x=>(some true).bind fun q=>some (x&&q)).bind fun q=>some (x&&q)).bind fun q=>some (x&&q))=_
 have:=W3.iff a b
 by_cases h1:a.v=b.v <;> by_cases h2:a.dN=b.dN <;> by_cases h3:a.ref=b.ref <;> simp [h1,h2,h3,←this]
theorem IE {a b:W3} (e:a=b):pos? (E5 [true,true,true] (.agg ⟨cW a⟩) (.agg ⟨cW b⟩))=some (.bool true):=by rw [Ys,decide_eq_true e]; rfl
theorem IX {a b:W3} (e:¬a=b):pos? (E5 [true,true,true] (.agg ⟨cW a⟩) (.agg ⟨cW b⟩))=some (.bool false):=by rw [Ys,decide_eq_false e]; rfl
theorem S5 {a b:W3} (e:¬a=b):BZ (E5 [true,true,true] (.agg ⟨cW a⟩) (.agg ⟨cW b⟩))=some (.bool true):=by rw [Ys,decide_eq_false e]; rfl
theorem Sz {a b:W3} (e:a=b):BZ (E5 [true,true,true] (.agg ⟨cW a⟩) (.agg ⟨cW b⟩))=some (.bool false):=by rw [Ys,decide_eq_true e]; rfl
section
variable {s:Hs} {w e:SH} {g:iM} {z:Int}
theorem PA (cs:Yl S I) (he:Sl EE h (aX e) s.es) (hi:s.i<s.es.length∧s.es.length≤1000) (hw:Ww g.w) (hR:∀h',Gr h h'→R (hv I (vn s g.w) w e) h'):l9 S I (nk (cB I s w e .nilIface)) (k6 g) h R:=by
 obtain ⟨rf,du,ws,mn,es,i,vr,mt,en,nx,bh⟩ :=s
 obtain ⟨⟨gv,gq,gr⟩,gk⟩ :=g
 have hb:=eS I bh
 dsimp only at he hi hw
 have hx:=I4 (s:=⟨rf,du,ws,mn,es,i,vr,mt,en,nx,bh⟩) hi.1
 unfold vn at hR
 generalize hE ⟨rf,du,ws,mn,es,i,vr,mt,en,nx,bh⟩=et at hx hR
 obtain ⟨ea,⟨ev,eq,er⟩,ew,eb⟩ :=et
 dsimp only at hR hx
 by_cases c1:gr=rf
 ·cases eb with
  | true=>
   by_cases c2:(xK ⟨gv,gq,gr⟩ ew (decide (vr=1))).2=0
   ·rw [if_pos ⟨c1,c2⟩] at hR
    unfold l9
    have c:=Cx.aA h
    refine c.iK fun _ _ c=>?_
    refine c.v4 fun _ _ c=>?_
    refine c.iK fun _ _ c=>?_
    refine c.v8 fun _ _ c=>?_
    refine aD<|c.rc 0 ?_
    refine aD<|c.rc 0 ?_
    refine (he.gr c.gr).whole rfl hx rfl ?_
    refine c.v6 fun _ _ c=>?_
    refine c.w6 4 fun _ c=>?_
    refine .here<|aD<|aD<|c.rc 1 ?_
    refine aD<|c.rc 0 ?_
    refine vx (qu c1)<|eR ?_
    refine .here<|aD<|vx (c.vp (i:=1) (ds:=[_,_,_]) rfl rfl rfl)<|aD<|c.rc 4 ?_
    refine aD<|c.rc 4 ?_
    refine eR<|aD<|c.rc 0 ?_
    refine vx iQ<|cs.release hw fun _ g=>?_
    have c:=c.more g
    refine vx rfl<|vx rfl<|c.v3 fun _ _ c=>?_
    refine c.w3 5 fun _ c=>?_
    refine vx (qu c2)<|eR<|c.rl 0 ?_
    refine aD<|c.rc 4 ?_
    refine aD<|vx (c.vp (i:=1) (ds:=[_,_,_]) rfl rfl rfl)<|c.rl 5 ?_
    refine vx (aL (ds:=[_,_,_,_,_,_,_,_]) rfl)<|cs.Ah (x:=cB I ⟨rf,du,ws,mn,es,i,vr,mt,en,nx,bh⟩ w e .nilIface) (a:=⟨6,ea,⟨gv,gq,gr⟩,(xK ⟨gv,gq,gr⟩ ew (decide (vr=1))).1⟩) (ho I _ w e) rfl fun _ g=>?_
    have c:=c.more g
    refine c.eM 2 3 fun _ c=>?_
    exact hR _ c.gr
   ·rw [if_neg fun h=>c2 h.2] at hR
    unfold l9
    have c:=Cx.aA h
    refine c.iK fun _ _ c=>?_
    refine c.v4 fun _ _ c=>?_
    refine c.iK fun _ _ c=>?_
    refine c.v8 fun _ _ c=>?_
    refine aD<|c.rc 0 ?_
    refine aD<|c.rc 0 ?_
    refine (he.gr c.gr).whole rfl hx rfl ?_
    refine c.v6 fun _ _ c=>?_
    refine c.w6 4 fun _ c=>?_
    refine .here<|aD<|aD<|c.rc 1 ?_
    refine aD<|c.rc 0 ?_
    refine vx (qu c1)<|eR ?_
    refine .here<|aD<|vx (c.vp (i:=1) (ds:=[_,_,_]) rfl rfl rfl)<|aD<|c.rc 4 ?_
    refine aD<|c.rc 4 ?_
    refine eR<|aD<|c.rc 0 ?_
    refine vx iQ<|cs.release hw fun _ g=>?_
    have c:=c.more g
    refine vx rfl<|vx rfl<|c.v3 fun _ _ c=>?_
    refine c.w3 5 fun _ c=>?_
    refine vx (m6 c2)<|bD<|c.rl 0 ?_
    refine vx (aL (ds:=[_,_,_,_]) rfl)<|cs.GV (s:=⟨rf,du,ws,mn,es,i,vr,mt,en,nx,bh⟩) (w:=w) (e:=e) (g:=qY) (he.gr c.gr) ⟨hi.2,by show i≤1000; omega⟩ fun _ g=>?_
    have c:=c.more g
    refine c.eM 2 3 fun _ c=>?_
    exact hR _ c.gr
  | false=>
   by_cases c2:(xK ⟨gv,gq,gr⟩ ew false).2=0
   ·rw [if_pos ⟨c1,c2⟩] at hR
    unfold l9
    have c:=Cx.aA h
    refine c.iK fun _ _ c=>?_
    refine c.v4 fun _ _ c=>?_
    refine c.iK fun _ _ c=>?_
    refine c.v8 fun _ _ c=>?_
    refine aD<|c.rc 0 ?_
    refine aD<|c.rc 0 ?_
    refine (he.gr c.gr).whole rfl hx rfl ?_
    refine c.v6 fun _ _ c=>?_
    refine c.w6 4 fun _ c=>?_
    refine .here<|aD<|aD<|c.rc 1 ?_
    refine aD<|c.rc 0 ?_
    refine vx (qu c1)<|eR ?_
    refine .here<|aD<|vx (c.vp (i:=1) (ds:=[_,_,_]) rfl rfl rfl)<|aD<|c.rc 4 ?_
    refine aD<|c.rc 4 ?_
    refine bD<|cs.release hw fun _ g=>?_
    have c:=c.more g
    refine vx rfl<|vx rfl<|c.v3 fun _ _ c=>?_
    refine c.w3 5 fun _ c=>?_
    refine vx (qu c2)<|eR<|c.rl 0 ?_
    refine aD<|c.rc 4 ?_
    refine aD<|vx (c.vp (i:=1) (ds:=[_,_,_]) rfl rfl rfl)<|c.rl 5 ?_
    refine vx (aL (ds:=[_,_,_,_,_,_,_,_]) rfl)<|cs.Ah (x:=cB I ⟨rf,du,ws,mn,es,i,vr,mt,en,nx,bh⟩ w e .nilIface) (a:=⟨6,ea,⟨gv,gq,gr⟩,(xK ⟨gv,gq,gr⟩ ew false).1⟩) (ho I _ w e) rfl fun _ g=>?_
    have c:=c.more g
    refine c.eM 2 3 fun _ c=>?_
    exact hR _ c.gr
   ·rw [if_neg fun h=>c2 h.2] at hR
    unfold l9
    have c:=Cx.aA h
    refine c.iK fun _ _ c=>?_
    refine c.v4 fun _ _ c=>?_
    refine c.iK fun _ _ c=>?_
    refine c.v8 fun _ _ c=>?_
    refine aD<|c.rc 0 ?_
    refine aD<|c.rc 0 ?_
    refine (he.gr c.gr).whole rfl hx rfl ?_
    refine c.v6 fun _ _ c=>?_
    refine c.w6 4 fun _ c=>?_
    refine .here<|aD<|aD<|c.rc 1 ?_
    refine aD<|c.rc 0 ?_
    refine vx (qu c1)<|eR ?_
    refine .here<|aD<|vx (c.vp (i:=1) (ds:=[_,_,_]) rfl rfl rfl)<|aD<|c.rc 4 ?_
    refine aD<|c.rc 4 ?_
    refine bD<|cs.release hw fun _ g=>?_
    have c:=c.more g
    refine vx rfl<|vx rfl<|c.v3 fun _ _ c=>?_
    refine c.w3 5 fun _ c=>?_
    refine vx (m6 c2)<|bD<|c.rl 0 ?_
    refine vx (aL (ds:=[_,_,_,_]) rfl)<|cs.GV (s:=⟨rf,du,ws,mn,es,i,vr,mt,en,nx,bh⟩) (w:=w) (e:=e) (g:=qY) (he.gr c.gr) ⟨hi.2,by show i≤1000; omega⟩ fun _ g=>?_
    have c:=c.more g
    refine c.eM 2 3 fun _ c=>?_
    exact hR _ c.gr
 ·rw [if_neg fun h=>c1 h.1] at hR
  unfold l9
  have c:=Cx.aA h
  refine c.iK fun _ _ c=>?_
  refine c.v4 fun _ _ c=>?_
  refine c.iK fun _ _ c=>?_
  refine c.v8 fun _ _ c=>?_
  refine aD<|c.rc 0 ?_
  refine aD<|c.rc 0 ?_
  refine (he.gr c.gr).whole rfl hx rfl ?_
  refine c.v6 fun _ _ c=>?_
  refine c.w6 4 fun _ c=>?_
  refine .here<|aD<|aD<|c.rc 1 ?_
  refine aD<|c.rc 0 ?_
  refine vx (m6 c1)<|bD<|c.rl 0 ?_
  refine vx (aL (ds:=[_,_,_,_]) rfl)<|cs.GV (s:=⟨rf,du,ws,mn,es,i,vr,mt,en,nx,bh⟩) (w:=w) (e:=e) (g:=qY) (he.gr c.gr) ⟨hi.2,by show i≤1000; omega⟩ fun _ g=>?_
  have c:=c.more g
  refine c.eM 2 3 fun _ c=>?_
  exact hR _ c.gr
theorem NV (cs:NC S I) (he:Sl EE h (aX e) s.es) (hi:s.es.length≤1000) (hR:∀h',Gr h h'→R (hv I (xk s g.w) w e) h'):pI S I (nk (cB I s w e .nilIface)) (k6 g) h R:=by
 obtain ⟨rf,du,ws,mn,es,i,vr,mt,en,nx,bh⟩ :=s
 obtain ⟨⟨gv,gq,gr⟩,gk⟩ :=g
 have hb:=eS I bh
 dsimp only at he hi
 unfold xk at hR
 dsimp only at hR
 by_cases c1:(⟨gv,gq,gr⟩:W3)=⟨1,ki rf,0⟩
 ·rw [if_pos (.inl c1)] at hR
  unfold pI
  have c:=Cx.aA h
  refine c.iK fun _ _ c=>?_
  refine c.v4 fun _ _ c=>?_
  refine c.iK fun _ _ c=>?_
  refine c.v8 fun _ _ c=>?_
  refine aD<|c.Ag 0 fun _ c=>?_
  refine aD<|c.Ag 0 fun _ c=>?_
  refine .here<|aD<|vx (c.vp (i:=1) (ds:=[_,_,_]) rfl rfl rfl) ?_
  refine .here<|aD<|c.rc 0 ?_
  refine cs.status (mS rf) fun _ g=>?_
  have c:=c.more g
  refine vx (IE (a:=⟨gv,gq,gr⟩) (b:=⟨1,ki rf,0⟩) c1)<|eR<|eR<|aD<|aD<|c.rc 1 ?_
  refine aD<|c.Ag 0 fun _ c=>?_
  refine c.rl 0 ?_
  refine cs.Ie (s:=⟨rf,du,ws,mn,es,0,gv,mt,en,nx,bh⟩) (w:=w) (e:=e) (he.gr c.gr) hi fun _ g=>?_
  have c:=c.more g
  refine c.eM 2 3 fun _ c=>?_
  exact hR _ c.gr
 ·by_cases c2:(⟨gv,gq,gr⟩:W3)=⟨2,ki rf,0⟩
  ·rw [if_pos (.inr c2)] at hR
   unfold pI
   have c:=Cx.aA h
   refine c.iK fun _ _ c=>?_
   refine c.v4 fun _ _ c=>?_
   refine c.iK fun _ _ c=>?_
   refine c.v8 fun _ _ c=>?_
   refine aD<|c.Ag 0 fun _ c=>?_
   refine aD<|c.Ag 0 fun _ c=>?_
   refine .here<|aD<|vx (c.vp (i:=1) (ds:=[_,_,_]) rfl rfl rfl) ?_
   refine .here<|aD<|c.rc 0 ?_
   refine cs.status (mS rf) fun _ g=>?_
   have c:=c.more g
   refine vx (IX (a:=⟨gv,gq,gr⟩) (b:=⟨1,ki rf,0⟩) c1)<|bD<|aD<|c.rc 0 ?_
   refine cs.status (mS rf) fun _ g=>?_
   have c:=c.more g
   refine vx (IE (a:=⟨gv,gq,gr⟩) (b:=⟨2,ki rf,0⟩) c2)<|eR<|aD<|aD<|c.rc 1 ?_
   refine aD<|c.Ag 0 fun _ c=>?_
   refine c.rl 0 ?_
   refine cs.Ie (s:=⟨rf,du,ws,mn,es,0,gv,mt,en,nx,bh⟩) (w:=w) (e:=e) (he.gr c.gr) hi fun _ g=>?_
   have c:=c.more g
   refine c.eM 2 3 fun _ c=>?_
   exact hR _ c.gr
  ·rw [if_neg fun h=>h.elim c1 c2] at hR
   unfold pI
   have c:=Cx.aA h
   refine c.iK fun _ _ c=>?_
   refine c.v4 fun _ _ c=>?_
   refine c.iK fun _ _ c=>?_
   refine c.v8 fun _ _ c=>?_
   refine aD<|c.Ag 0 fun _ c=>?_
   refine aD<|c.Ag 0 fun _ c=>?_
   refine .here<|aD<|vx (c.vp (i:=1) (ds:=[_,_,_]) rfl rfl rfl) ?_
   refine .here<|aD<|c.rc 0 ?_
   refine cs.status (mS rf) fun _ g=>?_
   have c:=c.more g
   refine vx (IX (a:=⟨gv,gq,gr⟩) (b:=⟨1,ki rf,0⟩) c1)<|bD<|aD<|c.rc 0 ?_
   refine cs.status (mS rf) fun _ g=>?_
   have c:=c.more g
   refine vx (IX (a:=⟨gv,gq,gr⟩) (b:=⟨2,ki rf,0⟩) c2)<|bD<|c.rl 0 ?_
   refine cs.Ie (s:=⟨rf,du,ws,mn,es,0,4,mt,en,nx,bh⟩) (w:=w) (e:=e) (he.gr c.gr) hi fun _ g=>?_
   have c:=c.more g
   refine c.eM 2 3 fun _ c=>?_
   exact hR _ c.gr
theorem GL (cs:NC S I) (Z:Zs h) (he:Sl EE h (aX e) s.es) (hi:s.i<s.es.length∧s.es.length≤1000) (hw:Ww g.w) (hR:∀h',Gr h h'→R (hv I (pg s g) w e) h'):jK S I (nk (cB I s w e .nilIface)) (k6 g) h R:=by
 obtain ⟨rf,du,ws,mn,es,i,vr,mt,en,nx,bh⟩ :=s
 obtain ⟨⟨gv,gq,gr⟩,gk⟩ :=g
 obtain ⟨mv,mq,mr⟩ :=mt
 have hb:=eS I bh
 dsimp only at he hi hw
 have hx:=I4 (s:=⟨rf,du,ws,mn,es,i,vr,⟨mv,mq,mr⟩,en,nx,bh⟩) hi.1
 unfold pg FO at hR
 generalize hE ⟨rf,du,ws,mn,es,i,vr,⟨mv,mq,mr⟩,en,nx,bh⟩=et at hx hR
 obtain ⟨ea,⟨ev,eq,er⟩,ew,eb⟩ :=et
 dsimp only at hR hx
 cases gk with
 | true=>
  rw [if_pos (.inl rfl)] at hR
  unfold jK
  have c:=Cx.aA h
  refine c.iK fun _ _ c=>?_
  refine c.v4 fun _ _ c=>?_
  refine c.iK fun _ _ c=>?_
  refine c.v8 fun _ _ c=>?_
  refine .here<|aD<|c.rc 1 ?_
  refine eR<|eR<|aD<|c.rc 0 ?_
  refine vx (inc (n:=i) (by omega))<|aD<|c.Ag 0 fun _ c=>?_
  refine c.rl 0 ?_
  refine cs.vX (s:=⟨rf,du,ws,mn,es,i+1,vr,⟨mv,mq,mr⟩,en,nx,bh⟩) (w:=w) (e:=e) (he.gr c.gr) ⟨hi.1,hi.2⟩ fun _ g=>?_
  have c:=c.more g
  refine c.eM 2 3 fun _ c=>?_
  exact hR _ c.gr
 | false=>
  by_cases c1:(⟨gv,gq,gr⟩:W3)=⟨ev,eq,rf⟩
  ·rw [if_pos (.inr c1)] at hR
   unfold jK
   have c:=Cx.aA h
   refine c.iK fun _ _ c=>?_
   refine c.v4 fun _ _ c=>?_
   refine c.iK fun _ _ c=>?_
   refine c.v8 fun _ _ c=>?_
   refine .here<|aD<|c.rc 1 ?_
   refine bD<|aD<|vx (c.vp (i:=1) (ds:=[_,_,_]) rfl rfl rfl)<|c.rl 0 ?_
   refine cs.Ic (x:=cB I ⟨rf,du,ws,mn,es,i,vr,⟨mv,mq,mr⟩,en,nx,bh⟩ w e .nilIface) (ho I _ w e) (he.gr c.gr) rfl hx fun _ g=>?_
   have c:=c.more g
   refine And.intro (c.vp (i:=1) (ds:=[_,_,_]) rfl rfl rfl) ?_
   refine vx (IE (a:=⟨gv,gq,gr⟩) (b:=⟨ev,eq,rf⟩) c1)<|eR<|aD<|c.rc 0 ?_
   refine vx (inc (n:=i) (by omega))<|aD<|c.Ag 0 fun _ c=>?_
   refine c.rl 0 ?_
   refine cs.vX (s:=⟨rf,du,ws,mn,es,i+1,vr,⟨mv,mq,mr⟩,en,nx,bh⟩) (w:=w) (e:=e) (he.gr c.gr) ⟨hi.1,hi.2⟩ fun _ g=>?_
   have c:=c.more g
   refine c.eM 2 3 fun _ c=>?_
   exact hR _ c.gr
  ·rw [if_neg fun h=>h.elim (fun h=>by cases h) c1] at hR
   by_cases c2:H4 ⟨rf,du,ws,mn,es,i,vr,⟨mv,mq,mr⟩,en,nx,bh⟩ ⟨gv,gq,gr⟩=true
   ·rw [if_pos c2] at hR
    unfold jK
    have c:=Cx.aA h
    refine c.iK fun _ _ c=>?_
    refine c.v4 fun _ _ c=>?_
    refine c.iK fun _ _ c=>?_
    refine c.v8 fun _ _ c=>?_
    refine .here<|aD<|c.rc 1 ?_
    refine bD<|aD<|vx (c.vp (i:=1) (ds:=[_,_,_]) rfl rfl rfl)<|c.rl 0 ?_
    refine cs.Ic (x:=cB I ⟨rf,du,ws,mn,es,i,vr,⟨mv,mq,mr⟩,en,nx,bh⟩ w e .nilIface) (ho I _ w e) (he.gr c.gr) rfl hx fun _ g=>?_
    have c:=c.more g
    refine And.intro (c.vp (i:=1) (ds:=[_,_,_]) rfl rfl rfl) ?_
    refine vx (IX (a:=⟨gv,gq,gr⟩) (b:=⟨ev,eq,rf⟩) c1)<|bD<|c.rl 0 ?_
    refine aD<|vx (c.vp (i:=1) (ds:=[_,_,_]) rfl rfl rfl)<|cs.ET (x:=cB I ⟨rf,du,ws,mn,es,i,vr,⟨mv,mq,mr⟩,en,nx,bh⟩ w e .nilIface) (w:=⟨gv,gq,gr⟩) (Z.gr c.gr) (ho I _ w e) hw fun _ g=>?_
    have c:=c.more g
    rw [show vZ (cB I ⟨rf,du,ws,mn,es,i,vr,⟨mv,mq,mr⟩,en,nx,bh⟩ w e .nilIface) ⟨gv,gq,gr⟩=true from c2]
    refine eR<|aD<|vx (c.vp (i:=1) (ds:=[_,_,_]) rfl rfl rfl)<|aD<|c.vq 0 rfl (vs:=[_,_,_]) (ds:=[_,_,_,_,_,_,_,_,_,_,_,_,_,_,_,_,_,_,_,_,_]) (by exact rfl) (by exact rfl) (by exact rfl) (by exact rfl) (by exact rfl) fun _ c=>?_
    replace c:=c.n4
    refine c.rl 0 ?_
    refine cs.Dk (x:=cB I ⟨rf,du,ws,mn,es,i,vr,⟨gv,gq,gr⟩,en,nx,bh⟩ w e .nilIface) (ho I _ w e) rfl fun _ g=>?_
    have c:=c.more g
    refine c.eM 2 3 fun _ c=>?_
    exact hR _ c.gr
   ·rw [if_neg c2] at hR
    unfold jK
    have c:=Cx.aA h
    refine c.iK fun _ _ c=>?_
    refine c.v4 fun _ _ c=>?_
    refine c.iK fun _ _ c=>?_
    refine c.v8 fun _ _ c=>?_
    refine .here<|aD<|c.rc 1 ?_
    refine bD<|aD<|vx (c.vp (i:=1) (ds:=[_,_,_]) rfl rfl rfl)<|c.rl 0 ?_
    refine cs.Ic (x:=cB I ⟨rf,du,ws,mn,es,i,vr,⟨mv,mq,mr⟩,en,nx,bh⟩ w e .nilIface) (ho I _ w e) (he.gr c.gr) rfl hx fun _ g=>?_
    have c:=c.more g
    refine And.intro (c.vp (i:=1) (ds:=[_,_,_]) rfl rfl rfl) ?_
    refine vx (IX (a:=⟨gv,gq,gr⟩) (b:=⟨ev,eq,rf⟩) c1)<|bD<|c.rl 0 ?_
    refine aD<|vx (c.vp (i:=1) (ds:=[_,_,_]) rfl rfl rfl)<|cs.ET (x:=cB I ⟨rf,du,ws,mn,es,i,vr,⟨mv,mq,mr⟩,en,nx,bh⟩ w e .nilIface) (w:=⟨gv,gq,gr⟩) (Z.gr c.gr) (ho I _ w e) hw fun _ g=>?_
    have c:=c.more g
    rw [show vZ (cB I ⟨rf,du,ws,mn,es,i,vr,⟨mv,mq,mr⟩,en,nx,bh⟩ w e .nilIface) ⟨gv,gq,gr⟩=false from Bool.not_eq_true _▸c2]
    refine bD<|c.rl 0 ?_
    refine cs.GJ (s:=⟨rf,du,ws,mn,es,i,vr,⟨mv,mq,mr⟩,en,nx,bh⟩) (w:=w) (e:=e) (he.gr c.gr) hi.2 fun _ g=>?_
    have c:=c.more g
    refine c.eM 2 3 fun _ c=>?_
    exact hR _ c.gr
theorem O1 (cs:NC S I) (ha : -1000≤s.at'∧s.at'≤100000) (hR:∀h',Gr h h'→R (hv I (if wR s g.w=true then wB s 4 else lT s ⟨1,s.at'+1,W0,W0⟩ .kY) w e) h'):rn S I (nk (cB I s w e .nilIface)) (k6 g) h R:=by
 obtain ⟨rf,du,ws,mn,es,i,vr,mt,en,nx,bh⟩ :=s
 obtain ⟨⟨gv,gq,gr⟩,gk⟩ :=g
 have hb:=eS I bh
 have ha : -1000≤bF (cZ rf)∧bF (cZ rf)≤100000:=ha
 by_cases c1:wR ⟨rf,du,ws,mn,es,i,vr,mt,en,nx,bh⟩ ⟨gv,gq,gr⟩=true
 ·rw [if_pos c1] at hR
  unfold rn
  have c:=Cx.aA h
  refine c.iK fun _ _ c=>?_
  refine c.v4 fun _ _ c=>?_
  refine c.iK fun _ _ c=>?_
  refine c.v8 fun _ _ c=>?_
  refine c.rl 0 ?_
  refine aD<|vx (c.vp (i:=1) (ds:=[_,_,_]) rfl rfl rfl)<|cs.AD (x:=cB I ⟨rf,du,ws,mn,es,i,vr,mt,en,nx,bh⟩ w e .nilIface) (w:=⟨gv,gq,gr⟩) (ho I _ w e) (mS rf) fun _ g=>?_
  have c:=c.more g
  rw [show vm (cB I ⟨rf,du,ws,mn,es,i,vr,mt,en,nx,bh⟩ w e .nilIface) ⟨gv,gq,gr⟩=true from c1]
  refine eR<|c.rl 0 ?_
  refine cs.tM (x:=cB I ⟨rf,du,ws,mn,es,i,vr,mt,en,nx,bh⟩ w e .nilIface) (z:=4) (ho I _ w e) fun _ g=>?_
  have c:=c.more g
  refine c.eM 2 3 fun _ c=>?_
  exact hR _ c.gr
 ·rw [if_neg c1] at hR
  unfold rn
  have c:=Cx.aA h
  refine c.iK fun _ _ c=>?_
  refine c.v4 fun _ _ c=>?_
  refine c.iK fun _ _ c=>?_
  refine c.v8 fun _ _ c=>?_
  refine c.rl 0 ?_
  refine aD<|vx (c.vp (i:=1) (ds:=[_,_,_]) rfl rfl rfl)<|cs.AD (x:=cB I ⟨rf,du,ws,mn,es,i,vr,mt,en,nx,bh⟩ w e .nilIface) (w:=⟨gv,gq,gr⟩) (ho I _ w e) (mS rf) fun _ g=>?_
  have c:=c.more g
  rw [show vm (cB I ⟨rf,du,ws,mn,es,i,vr,mt,en,nx,bh⟩ w e .nilIface) ⟨gv,gq,gr⟩=false from Bool.not_eq_true _▸c1]
  refine bD<|c.rl 0 ?_
  refine aD<|c.rc 0 ?_
  refine vx (qV (a:=bF (cZ rf)) ⟨by omega,by omega⟩)<|vx (aL (ds:=[_,_,_,_,_,_,_,_]) rfl)<|cs.Ah (x:=cB I ⟨rf,du,ws,mn,es,i,vr,mt,en,nx,bh⟩ w e .nilIface) (a:=⟨1,bF (cZ rf)+1,W0,W0⟩) (ho I _ w e) rfl fun _ g=>?_
  have c:=c.more g
  refine c.eM 2 3 fun _ c=>?_
  exact hR _ c.gr
end
end Go.En
namespace Go.En
variable {S:Sys} {I:aZ} {h h0 h':Hp} {F F0:Fp} {R:Value→Hp→Prop} {L:List bQ} {B:Bs}
theorem Sl.flat {α:Type} {E:qd α} {v:Value} {xs:List α} (H:Sl E h v xs) (hx:0<xs.length) (ho:fR (xs.flatMap E.c)=true):∃r o cap,v=.slice (some ⟨r,o,none⟩) xs.length cap∧Row (VX (xs.flatMap E.c).length) h r o ⟨xs.flatMap E.c,rfl,ho⟩ :=by
 obtain ⟨a,cap,rfl,h1,h2,h3⟩ :=H
 obtain ⟨r,o,rfl,_⟩ :=h3 0 _ (List.getElem?_eq_getElem hx)
 refine ⟨r,o,cap,rfl,fun j u hu=>?_⟩
 obtain ⟨i,x,j',e1,e2,rfl⟩ :=DR E _ j u hu
 obtain ⟨r',o',e,hr⟩ :=h3 i x e1
 simp only [Option.some.injEq,Addr.mk.injEq,and_true] at e
 obtain ⟨rfl,rfl⟩ :=e
 have:=hr j' u e2
 rwa [Nat.add_assoc] at this
theorem Sl.Ze {v:Value} {ws:List W3} (H:Sl EW h v ws) {k:Nat} {a b c:W3} {r:List W3} (hd:ws.drop k=a::b::c::r) {z z':Int} (hz:z=k) (hz':z'=(k+3:Nat)) {K:Value→Prop} (hK:K (vP a b c)) :
  Vb (vR 3 v (some (.int .i64 z)) (some (.int .i64 z')) none) fun u=>Vb (YR 3 u) fun p=>Vb (aF 9 p h) K:=by
 have hl:k+3≤ws.length:=by
  have:=congrArg List.length hd
  rw [List.length_drop,List.length_cons,List.length_cons,List.length_cons] at this
  omega
 obtain ⟨u,e,Hu,_⟩ :=H.sub (n:=3) rfl (lo:=some (.int .i64 z)) (hi:=some (.int .i64 z')) (l:=k) (u:=k+3) (.inr ⟨_,_,rfl,hz⟩) (.inr ⟨_,_,rfl,hz'⟩) (by omega) hl
 have e3:(ws.take (k+3)).drop k=[a,b,c]:=by
  rw [←List.take_drop,hd]
  rfl
 rw [e3] at Hu
 obtain ⟨r',o,cap,rfl,hr⟩ :=Hu.flat (by simp) rfl
 exact En.vb e (En.vb (v:=.pointer (some ⟨r',o,none⟩)) rfl (En.vb (hr.aF rfl) hK))
theorem Jo {a b:Int} (h:Nf (a*b)):bin .mul (.int .i64 a) (.int .i64 b)=some (.int .i64 (a*b)):=by rw [Bu,EZ h]
section
variable {s:Hs} {w e:SH} {g:iM} {z:Int}
structure YE (s:Hs):Prop where
 who:0≤bF (cZ s.ref)
 many:(s.many:Int)≤m8 (cZ s.ref)
 ws:s.ws.length≤3*s.many
theorem Ey (w:Int):m8 w≤32:=by
 unfold m8
 split
 ·decide
 ·split <;> decide
theorem RM (cs:Yl S I) (Z:Zs h) (hw:Sl EW h (aX w) s.ws) (hl:YE s) (hR:∀h',Gr h h'→R (hv I (qf s) w e) h'):ny S I (nk (cB I s w e .nilIface)) h R:=by
 obtain ⟨rf,du,ws,mn,es,i,vr,mt,en,nx,bh⟩ :=s
 have hb:=eS I bh
 obtain ⟨l1,l2,l3⟩ :=hl
 dsimp only at hw l1 l2 l3
 have hm:=Ey (cZ rf)
 have hwho:=DN rf
 unfold qf at hR
 dsimp only at hR
 by_cases c1:ws.length=3*mn
 ·rw [if_pos c1] at hR
  unfold ny
  have c:=Cx.aA h
  refine c.iK fun _ _ c=>?_
  refine c.iK fun _ _ c=>?_
  refine c.v8 fun _ _ c=>?_
  refine aD<|c.rc 0 ?_
  refine vx (hw.gr c.gr).ln<|aD<|c.rc 0 ?_
  refine vx (Jo (a:=3) (b:=mn) ⟨by omega,by omega⟩)<|vx (qu (show (ws.length:Int)=3*(mn:Int) by omega))<|eR<|c.rl 0 ?_
  refine cs.Dk (x:=cB I ⟨rf,du,ws,mn,es,i,vr,mt,en,nx,bh⟩ w e .nilIface) (ho I _ w e) rfl fun _ g=>?_
  have c:=c.more g
  refine c.eM 1 2 fun _ c=>?_
  exact hR _ c.gr
 ·rw [if_neg c1] at hR
  unfold ny
  have c:=Cx.aA h
  refine c.iK fun _ _ c=>?_
  refine c.iK fun _ _ c=>?_
  refine c.v8 fun _ _ c=>?_
  refine aD<|c.rc 0 ?_
  refine vx (hw.gr c.gr).ln<|aD<|c.rc 0 ?_
  refine vx (Jo (a:=3) (b:=mn) ⟨by omega,by omega⟩)<|vx (m6 (show ¬(ws.length:Int)=3*(mn:Int) by omega))<|bD<|aD<|vx (c.vp (i:=0) (ds:=[_,_,_]) rfl rfl rfl)<|aD<|c.rc 0 ?_
  refine vx (EF ⟨by omega,by omega⟩ (by decide))<|vx (Fu (by omega) (by decide))<|cs.field (Z.gr c.gr) (who:=cZ rf) ⟨by omega,by omega⟩ ⟨by omega,by omega⟩ ⟨by omega,by omega⟩ fun _ g=>?_
  have c:=c.more g
  refine vx rfl<|vx rfl<|c.rl 0 ?_
  refine vx (aL (ds:=[_,_,_,_,_,_,_,_]) rfl)<|cs.Ah (x:=cB I ⟨rf,du,ws,mn,es,i,vr,mt,en,nx,bh⟩ w e .nilIface) (a:=⟨1,yX (cZ rf) ((ws.length:Int) / 3) ((ws.length:Int) % 3),W0,W0⟩) (ho I _ w e) rfl fun _ g=>?_
  have c:=c.more g
  refine c.eM 1 2 fun _ c=>?_
  exact hR _ c.gr
structure Yc (S:Sys) (I:aZ):Prop extends Yl S I where
 OK:∀{s:Hs} {w e:SH} {h} {R:Value→Hp→Prop},Zs h→Sl EW h (aX w) s.ws→YE s→(∀h',Gr h h'→R (hv I (qf s) w e) h')→S.C I.la [nk (cB I s w e .nilIface)] h R
theorem Mq (cs:Yc S I) (Z:Zs h) (hw:Sl EW h (aX w) s.ws) (hl:YE s) (hlt:s.ws.length<3*s.many) (hR:∀w' h',Cx (fun _=>False) h h' [dA EW (aX w') (s.ws++[g.w])]→R (hv I (qf {s with ws:=s.ws++[g.w]}) w' e) h'):sR S I (nk (cB I s w e .nilIface)) (k6 g) h R:=by
 obtain ⟨rf,du,ws,mn,es,i,vr,mt,en,nx,bh⟩ :=s
 obtain ⟨⟨gv,gq,gr⟩,gk⟩ :=g
 have hb:=eS I bh
 obtain ⟨l1,l2,l3⟩ :=hl
 dsimp only at hw l1 l2 l3 hlt
 have hm:=Ey (cZ rf)
 obtain ⟨ac,ec,Hc⟩ :=hw.Bz (n:=3) rfl
 unfold sR
 have c:=Cx.aA h
 refine c.iK fun _ _ c=>?_
 refine c.v4 fun _ _ c=>?_
 refine c.iK fun _ _ c=>?_
 refine c.v8 fun _ _ c=>?_
 refine aD<|c.rc 0 ?_
 refine aD<|c.rc 0 ?_
 refine vx (hw.gr c.gr).ln<|aD<|c.rc 0 ?_
 refine vx (hw.gr c.gr).ln<|vx ec<|aD<|vx (c.vp (i:=1) (ds:=[_,_,_]) rfl rfl rfl)<|c.jE EW ⟨gv,gq,gr⟩ rfl rfl fun v18 _ c=>?_
 replace c:=c.n5
 refine c.ac 0 ?_
 refine c.ac 0 ?_
 refine c.ac 0 ?_
 refine c.Nu (Hc.gr c.gr) (c.sl (i:=4) rfl).sl (by simp) rfl rfl (by rw [List.length_singleton]; omega) (by rw [List.length_singleton]; omega) fun v19 _ c=>?_
 obtain ⟨w',rfl⟩ :=(c.sl (i:=5) rfl).vO
 replace c:=c.n6
 refine aD<|c.Ag 0 fun _ c=>?_
 refine c.rl 0 ?_
 refine cs.OK (s:=⟨rf,du,ws++[⟨gv,gq,gr⟩],mn,es,i,vr,mt,en,nx,bh⟩) (w:=w') (e:=e) (Z.gr c.gr) (c.sl (i:=5) rfl).sl ⟨l1,l2,by show (ws++[_]).length≤_; rw [List.length_append,List.length_singleton]; exact hlt⟩ fun _ g=>?_
 have c:=c.more g
 refine c.eM 2 3 fun _ c=>?_
 exact hR w' _ (c.pick [5])
theorem Ke (cs:Yc S I) (Z:Zs h) (hw:Sl EW h (aX w) s.ws) (h0:s.ws=[]) (hp:0≤bF (cZ s.ref)) (hR:∀h',Gr h h'→R (hv I (qt s g.w) w e) h'):ly S I (nk (cB I s w e .nilIface)) (k6 g) h R:=by
 obtain ⟨rf,du,ws,mn,es,i,vr,mt,en,nx,bh⟩ :=s
 obtain ⟨⟨gv,gq,gr⟩,gk⟩ :=g
 have hb:=eS I bh
 dsimp only at hw h0 hp
 subst h0
 have hm:=Ey (cZ rf)
 unfold qt at hR
 dsimp only at hR
 have k1:(gv<1∨m8 (cZ rf)<gv∨¬(⟨gv,gq,gr⟩:W3)=⟨gv,0,0⟩)→∀{h'},Gr h h'→R (hv I (wB ⟨rf,du,[],mn,es,i,vr,mt,en,nx,bh⟩ 4) w e) h':=fun c1 h' g=>by
  have:=hR h' g
  unfold Hs.tg at this
  dsimp only [Hs.who] at this
  rw [if_pos c1] at this
  exact this
 by_cases c1:gv<1
 ·unfold ly
  have c:=Cx.aA h
  refine c.iK fun _ _ c=>?_
  refine c.v4 fun _ _ c=>?_
  refine c.iK fun _ _ c=>?_
  refine c.v8 fun _ _ c=>?_
  refine aD<|aD<|c.rc 1 ?_
  refine .here<|vx (yH c1)<|eR<|eR<|c.rl 0 ?_
  refine cs.tM (x:=cB I ⟨rf,du,[],mn,es,i,vr,mt,en,nx,bh⟩ w e .nilIface) (z:=4) (ho I _ w e) fun _ g=>?_
  have c:=c.more g
  refine c.eM 2 3 fun _ c=>?_
  exact k1 (.inl c1) c.gr
 by_cases c2:m8 (cZ rf)<gv
 ·unfold ly
  have c:=Cx.aA h
  refine c.iK fun _ _ c=>?_
  refine c.v4 fun _ _ c=>?_
  refine c.iK fun _ _ c=>?_
  refine c.v8 fun _ _ c=>?_
  refine aD<|aD<|c.rc 1 ?_
  refine .here<|vx (iZ c1)<|bD<|aD<|c.rc 0 ?_
  refine vx (F4 c2)<|eR<|eR<|c.rl 0 ?_
  refine cs.tM (x:=cB I ⟨rf,du,[],mn,es,i,vr,mt,en,nx,bh⟩ w e .nilIface) (z:=4) (ho I _ w e) fun _ g=>?_
  have c:=c.more g
  refine c.eM 2 3 fun _ c=>?_
  exact k1 (.inr (.inl c2)) c.gr
 by_cases c3:(⟨gv,gq,gr⟩:W3)=⟨gv,0,0⟩
 ·obtain ⟨n,rfl⟩ :=Int.eq_ofNat_of_zero_le (show 0≤gv by omega)
  have k2:∀{h'},Gr h h'→R (hv I (qf ⟨rf,du,[],n,es,i,vr,mt,en,nx,bh⟩) w e) h':=fun {h'} g=>by
   have:=hR h' g
   unfold Hs.tg at this
   dsimp only [Hs.who] at this
   rw [if_neg (fun h=>h.elim c1 fun h=>h.elim c2 fun h=>h c3),Int.toNat_natCast] at this
   exact this
  unfold ly
  have c:=Cx.aA h
  refine c.iK fun _ _ c=>?_
  refine c.v4 fun _ _ c=>?_
  refine c.iK fun _ _ c=>?_
  refine c.v8 fun _ _ c=>?_
  refine aD<|aD<|c.rc 1 ?_
  refine .here<|vx (iZ c1)<|bD<|aD<|c.rc 0 ?_
  refine vx (sf c2)<|bD<|aD<|vx (c.vp (i:=1) (ds:=[_,_,_]) rfl rfl rfl)<|vx (aL (ds:=[_,_,_]) rfl)<|vx (Sz (a:=⟨n,gq,gr⟩) (b:=⟨n,0,0⟩) c3)<|bD<|aD<|c.Ag 0 fun _ c=>?_
  refine c.rl 0 ?_
  refine cs.OK (s:=⟨rf,du,[],n,es,i,vr,mt,en,nx,bh⟩) (w:=w) (e:=e) (Z.gr c.gr) (hw.gr c.gr) ⟨hp,Int.not_lt.1 c2,Nat.zero_le _⟩ fun _ g=>?_
  have c:=c.more g
  refine c.eM 2 3 fun _ c=>?_
  exact k2 c.gr
 ·unfold ly
  have c:=Cx.aA h
  refine c.iK fun _ _ c=>?_
  refine c.v4 fun _ _ c=>?_
  refine c.iK fun _ _ c=>?_
  refine c.v8 fun _ _ c=>?_
  refine aD<|aD<|c.rc 1 ?_
  refine .here<|vx (iZ c1)<|bD<|aD<|c.rc 0 ?_
  refine vx (sf c2)<|bD<|aD<|vx (c.vp (i:=1) (ds:=[_,_,_]) rfl rfl rfl)<|vx (aL (ds:=[_,_,_]) rfl)<|vx (S5 (a:=⟨gv,gq,gr⟩) (b:=⟨gv,0,0⟩) c3)<|eR<|c.rl 0 ?_
  refine cs.tM (x:=cB I ⟨rf,du,[],mn,es,i,vr,mt,en,nx,bh⟩ w e .nilIface) (z:=4) (ho I _ w e) fun _ g=>?_
  have c:=c.more g
  refine c.eM 2 3 fun _ c=>?_
  exact k1 (.inr (.inr c3)) c.gr
end
end Go.En
namespace Go.En
variable {S:Sys} {I:aZ} {h h0 h':Hp} {F F0:Fp} {R:Value→Hp→Prop} {L:List bQ} {B:Bs}
structure TM (S:Sys) (I:aZ):Prop extends Yc S I where
 Gm:∀{v:Value} {es:List Et} {h R},Sl EE h v es→(∀e∈es,Ww e.old)→es.length≤1000→(∀h',Gr h h'→R (.int .i64 (lR es)) h')→S.C I.nP [v] h R
section
variable {s:Hs} {w e:SH} {g:iM} {z:Int}
theorem Qj {ws:List W3} {k:Nat} {a b c:W3} {r:List W3} {out:List Et} (hd:ws.drop k=a::b::c::r):tp (ws.drop k) out=if Ns a b c=true∧qD (FF a b c).at'=true∧(∀l,out.getLast?=some l→l.at'<(FF a b c).at') then tp (ws.drop (k+3)) (out++[FF a b c]) else none:=by
 have:ws.drop (k+3)=r:=by rw [←List.drop_drop,hd]; rfl
 rw [this,hd,tp]
theorem Xj {ws:List W3} {k:Nat} (h:k+3≤ws.length):∃a b c r,ws.drop k=a::b::c::r:=by
 match e:ws.drop k with
 | a::b::c::r=>exact ⟨a,b,c,r,rfl⟩
 | [_,_]=>have:=congrArg List.length e; rw [List.length_drop] at this; simp at this; omega
 | [_]=>have:=congrArg List.length e; rw [List.length_drop] at this; simp at this; omega
 | []=>have:=congrArg List.length e; rw [List.length_drop] at this; simp at this; omega
theorem IC (cs:TM S I) (Z:Zs h) (hw:Sl EW h (aX w) s.ws) (hl:s.ws.length=3*s.many) (hm:s.many≤32) (hW:∀x∈s.ws,Ww x)
  (h1:∀es u h',tp s.ws []=some es→Cx (fun _=>False) h h' [dA EE (aX u) es]→R (.tuple #[aX u,.bool true]) h')
  (h2:tp s.ws []=none→∀v h',Gr h h'→R (.tuple #[v,.bool false]) h'):nI S I (nk (cB I s w e .nilIface)) h R:=by
 obtain ⟨rf,du,ws,mn,es,i,vr,mt,en,nx,bh⟩ :=s
 have hb:=eS I bh
 dsimp only at hw hl hm hW h1 h2
 have wd:∀{k:Nat} {a b c:W3} {r:List W3},ws.drop k=a::b::c::r→Ww a∧Ww b:=fun {k a b c r} hd=>
  ⟨hW _ (List.mem_of_mem_drop (i:=k) (by rw [hd]; exact List.mem_cons_self ..)),hW _ (List.mem_of_mem_drop (i:=k) (by rw [hd]; exact List.mem_cons_of_mem _ (List.mem_cons_self ..)))⟩
 unfold nI
 have c:=Cx.aA h
 refine c.iK fun x1_ _ c=>?_
 refine Az.by (fun (st:Nat × List Et) u v h'=>v=.int .i64 ((3*st.1:Nat):Int)∧st.1≤mn∧st.2.length=st.1∧(∀e∈st.2,Ww e.old)∧tp ws []=tp (ws.drop (3*st.1)) st.2∧∃p,u=aX p∧Cx (fun _=>False) h h' [rV x1_ [.int .i64 3,.int .i64 6,.int .i64 4,.int .u32 rf,.int .i64 (bF (cZ rf)),.int .i64 (cZ rf),.int .i64 (ki rf),.int .i64 (m8 (cZ rf)),.bool du,aX w,.int .i64 mn,aX e,.int .i64 i,.int .i64 vr,.int .i64 mt.v,.int .u32 mt.dN,.int .u32 mt.ref,.nilIface,.bool en,sU (kI I nx),XC I bh],dA EE (aX p) st.2]) (fun st=>mn - st.1) (0,[]) ⟨rfl,Nat.zero_le _,rfl,(fun e he=>by cases he),rfl,(none,0,0),rfl,c.nil EE⟩ ?_
 rintro ⟨k,out⟩ _ _ h2' ⟨rfl,hk,hol,howw,hun,p,rfl,c⟩ again hagain
 dsimp only at hk hol howw hun hagain c
 replace c:=c.n2
 refine aD<|c.rc 0 ?_
 refine vx (hw.gr c.gr).ln<|vx cH<|pC (fun e12=>?_) fun e12=>?_
 ·refine aD<|c.rc 0 ?_
  obtain ⟨a,b,cc,r,hd⟩ :=Xj (ws:=ws) (k:=3*k) (by omega)
  obtain ⟨wa,wb⟩ :=wd hd
  refine vx (qV (a:=((3*k:Nat):Int)) (b:=3) ⟨by omega,by omega⟩)<|(hw.gr c.gr).Ze hd rfl (by omega) ?_
  refine cs.unpack fun _ g=>?_
  obtain ⟨x,hx⟩:∃x,(if Ns a b cc=true then FF a b cc else HB)=x:=⟨_,rfl⟩
  obtain ⟨q,hq⟩:∃q,Ns a b cc=q:=⟨_,rfl⟩
  rw [hx,hq]
  have c:=c.more g
  have hq1:q=true→0≤x.at'∧x.at'<4096:=fun e=>by
   rw [←hx,if_pos (hq.trans e)]
   exact (of_decide_eq_true (hq.trans e)).1
  have hq2:q=true→x=FF a b cc:=fun e=>by rw [←hx,if_pos (hq.trans e)]
  obtain ⟨xa,⟨xv,xq,xr⟩,xn,xb⟩ :=x
  dsimp only at hq1
  have hun':=hun.trans (Qj (out:=out) hd)
  have none1:¬q=true→tp ws []=none:=fun e=>by rw [hun',if_neg fun h=>e (hq.symm.trans h.1)]
  have none2:q=true→qD xa=false→tp ws []=none:=fun e e2=>by
   have:=hq2 e
   rw [hun',if_neg fun h=>by have:=h.2.1; rw [←hq2 e] at this; dsimp only at this; rw [e2] at this; cases this]
  have none3:q=true→∀l,out.getLast?=some l→xa≤l.at'→tp ws []=none:=fun e l hl e2=>by
   rw [hun',if_neg fun h=>by have:=h.2.2 l hl; rw [←hq2 e] at this; dsimp only at this; omega]
  have goon:q=true→qD xa=true→(∀l,out.getLast?=some l→l.at'<xa)→∀p2 h',Cx (fun _=>False) h h' [rV x1_ [.int .i64 3,.int .i64 6,.int .i64 4,.int .u32 rf,.int .i64 (bF (cZ rf)),.int .i64 (cZ rf),.int .i64 (ki rf),.int .i64 (m8 (cZ rf)),.bool du,aX w,.int .i64 mn,aX e,.int .i64 i,.int .i64 vr,.int .i64 mt.v,.int .u32 mt.dN,.int .u32 mt.ref,.nilIface,.bool en,sU (kI I nx),XC I bh],dA EE (aX p2) (out++[⟨xa,⟨xv,xq,xr⟩,xn,xb⟩])]→again (aX p2) (.int .i64 (((3*k:Nat):Int)+3)) h':=fun q1 e35 hlst p2 h' c=>by
   have hxe:=hq2 q1
   refine hagain (k+1,out++[⟨xa,⟨xv,xq,xr⟩,xn,xb⟩]) _ _ _ ⟨by show Value.int .i64 (((3*k:Nat):Int)+3)=Value.int .i64 ((3*(k+1):Nat):Int); congr 1,by show k+1≤mn; omega,by rw [List.length_append,List.length_singleton,hol],fun e he=>?_,?_,p2,rfl,c⟩ (by dsimp only; omega)
   ·rcases List.mem_append.1 he with he | he
    ·exact howw e he
    ·rw [List.mem_singleton.1 he,hxe]
     exact wb
   ·dsimp only
    rw [hun',if_pos ⟨hq.trans q1,by rw [←hxe]; exact e35,by rw [←hxe]; exact hlst⟩,←hxe]
    rfl
  refine vx rfl<|vx rfl<|c.v6 fun _ _ c=>?_
  refine c.w6 2 fun _ c=>?_
  refine .here<|vx (v:=.bool (!q)) rfl<|En.br (fun e28=>?_) fun e28=>?_
  ·refine En.br (fun e53=>?_) fun e53=>?_
   ·first | exact absurd e53 (by decide) | exact h2 (none1 (by simpa using e28)) _ _ c.gr | exact h2 (none2 q1 (by simpa using e35)) _ _ c.gr | exact h2 (none3 q1 l (by rw [List.getLast?_eq_getElem?]; exact hlast) (of_decide_eq_true e53)) _ _ c.gr
   ·refine c.rl 2 ?_
    refine c.jE EE ⟨xa,⟨xv,xq,xr⟩,xn,xb⟩ rfl rfl fun v56 _ c=>?_
    replace c:=c.n4
    refine c.ap 1 rfl (c.sl (i:=3) rfl).sl rfl rfl (by simp only [List.length_singleton]; omega) (by simp only [List.length_singleton]; omega) fun v57 _ c=>?_
    obtain ⟨p2,rfl⟩ :=(c.sl (i:=1) rfl).vO
    replace c:=c.n4
    refine vx (qV (a:=((3*k:Nat):Int)) (b:=3) ⟨by omega,by omega⟩) ?_
    first | exact absurd e53 (by decide) | exact goon q1 (by simpa using e35) (fun l2 hl2=>by rw [List.getLast?_eq_getElem?,hlast] at hl2; cases hl2; have:¬xa≤l.at':=of_decide_eq_false e53; omega) p2 _ (c.pick [0,1]) | exact goon q1 (by simpa using e35) (fun l' hl'=>by rw [List.getLast?_eq_getElem?] at hl'; have:=(List.getElem?_eq_some_iff.1 hl').1; omega) p2 _ (c.pick [0,1])
  ·refine aD<|vx (c.vp (i:=0) (ds:=[_,_,_]) rfl rfl rfl)<|aD<|c.rc 2 ?_
   have q1:q=true:=by simpa using e28
   have hrange:=hq1 q1
   refine cs.LQ (a:=xa) ⟨by omega,by omega⟩ _ _ (Z.gr c.gr) fun _ g=>?_
   have c:=c.more g
   refine vx (v:=.bool (!qD xa)) rfl<|En.br (fun e35=>?_) fun e35=>?_
   ·refine En.br (fun e53=>?_) fun e53=>?_
    ·first | exact absurd e53 (by decide) | exact h2 (none1 (by simpa using e28)) _ _ c.gr | exact h2 (none2 q1 (by simpa using e35)) _ _ c.gr | exact h2 (none3 q1 l (by rw [List.getLast?_eq_getElem?]; exact hlast) (of_decide_eq_true e53)) _ _ c.gr
    ·refine c.rl 2 ?_
     refine c.jE EE ⟨xa,⟨xv,xq,xr⟩,xn,xb⟩ rfl rfl fun v56 _ c=>?_
     replace c:=c.n4
     refine c.ap 1 rfl (c.sl (i:=3) rfl).sl rfl rfl (by simp only [List.length_singleton]; omega) (by simp only [List.length_singleton]; omega) fun v57 _ c=>?_
     obtain ⟨p2,rfl⟩ :=(c.sl (i:=1) rfl).vO
     replace c:=c.n4
     refine vx (qV (a:=((3*k:Nat):Int)) (b:=3) ⟨by omega,by omega⟩) ?_
     first | exact absurd e53 (by decide) | exact goon q1 (by simpa using e35) (fun l2 hl2=>by rw [List.getLast?_eq_getElem?,hlast] at hl2; cases hl2; have:¬xa≤l.at':=of_decide_eq_false e53; omega) p2 _ (c.pick [0,1]) | exact goon q1 (by simpa using e35) (fun l' hl'=>by rw [List.getLast?_eq_getElem?] at hl'; have:=(List.getElem?_eq_some_iff.1 hl').1; omega) p2 _ (c.pick [0,1])
   ·refine vx (c.sl (i:=1) rfl).sl.ln<|vx pP<|pC (fun e40=>?_) fun e40=>?_
    ·refine vx (c.sl (i:=1) rfl).sl.ln<|vx (nj ⟨by omega,by omega⟩) ?_
     have hlt:out.length - 1<out.length:=by omega
     have hlast:=List.getElem?_eq_getElem hlt
     generalize out[out.length - 1]=l at hlast
     refine (c.sl (i:=1) rfl).sl.A4 (j:=0) rfl hlast (by omega) (u:=.int .i64 l.at') rfl ?_
     refine aD<|c.rc 2 ?_
     refine vx rZ<|En.br (fun e53=>?_) fun e53=>?_
     ·first | exact absurd e53 (by decide) | exact h2 (none1 (by simpa using e28)) _ _ c.gr | exact h2 (none2 q1 (by simpa using e35)) _ _ c.gr | exact h2 (none3 q1 l (by rw [List.getLast?_eq_getElem?]; exact hlast) (of_decide_eq_true e53)) _ _ c.gr
     ·refine c.rl 2 ?_
      refine c.jE EE ⟨xa,⟨xv,xq,xr⟩,xn,xb⟩ rfl rfl fun v56 _ c=>?_
      replace c:=c.n4
      refine c.ap 1 rfl (c.sl (i:=3) rfl).sl rfl rfl (by simp only [List.length_singleton]; omega) (by simp only [List.length_singleton]; omega) fun v57 _ c=>?_
      obtain ⟨p2,rfl⟩ :=(c.sl (i:=1) rfl).vO
      replace c:=c.n4
      refine vx (qV (a:=((3*k:Nat):Int)) (b:=3) ⟨by omega,by omega⟩) ?_
      first | exact absurd e53 (by decide) | exact goon q1 (by simpa using e35) (fun l2 hl2=>by rw [List.getLast?_eq_getElem?,hlast] at hl2; cases hl2; have:¬xa≤l.at':=of_decide_eq_false e53; omega) p2 _ (c.pick [0,1]) | exact goon q1 (by simpa using e35) (fun l' hl'=>by rw [List.getLast?_eq_getElem?] at hl'; have:=(List.getElem?_eq_some_iff.1 hl').1; omega) p2 _ (c.pick [0,1])
    ·refine En.br (fun e53=>?_) fun e53=>?_
     ·first | exact absurd e53 (by decide) | exact h2 (none1 (by simpa using e28)) _ _ c.gr | exact h2 (none2 q1 (by simpa using e35)) _ _ c.gr | exact h2 (none3 q1 l (by rw [List.getLast?_eq_getElem?]; exact hlast) (of_decide_eq_true e53)) _ _ c.gr
     ·refine c.rl 2 ?_
      refine c.jE EE ⟨xa,⟨xv,xq,xr⟩,xn,xb⟩ rfl rfl fun v56 _ c=>?_
      replace c:=c.n4
      refine c.ap 1 rfl (c.sl (i:=3) rfl).sl rfl rfl (by simp only [List.length_singleton]; omega) (by simp only [List.length_singleton]; omega) fun v57 _ c=>?_
      obtain ⟨p2,rfl⟩ :=(c.sl (i:=1) rfl).vO
      replace c:=c.n4
      refine vx (qV (a:=((3*k:Nat):Int)) (b:=3) ⟨by omega,by omega⟩) ?_
      first | exact absurd e53 (by decide) | exact goon q1 (by simpa using e35) (fun l2 hl2=>by rw [List.getLast?_eq_getElem?,hlast] at hl2; cases hl2; have:¬xa≤l.at':=of_decide_eq_false e53; omega) p2 _ (c.pick [0,1]) | exact goon q1 (by simpa using e35) (fun l' hl'=>by rw [List.getLast?_eq_getElem?] at hl'; have:=(List.getElem?_eq_some_iff.1 hl').1; omega) p2 _ (c.pick [0,1])
 ·have hk':k=mn:=by omega
  subst hk'
  rw [List.drop_eq_nil_of_le (by omega)] at hun
  refine cs.Gm (c.sl (i:=1) rfl).sl howw (by omega) fun _ g=>?_
  have c:=c.more g
  refine vx iQ ?_
  by_cases hz:lR out=0
  ·rw [decide_eq_true hz]
   exact h1 out p _ (by rw [hun]; show (if lR out=0 then some out else none)=_; rw [if_pos hz]) (c.pick [1])
  ·rw [decide_eq_false hz]
   exact h2 (by rw [hun]; show (if lR out=0 then some out else none)=_; rw [if_neg hz]) _ _ c.gr
structure YX (S:Sys) (I:aZ):Prop extends TM S I where
 zE:∀{s:Hs} {w e:SH} {h} {R:Value→Hp→Prop},Zs h→Sl EW h (aX w) s.ws→s.ws.length=3*s.many→s.many≤32→(∀x∈s.ws,Ww x)→
  (∀es u h',tp s.ws []=some es→Cx (fun _=>False) h h' [dA EE (aX u) es]→R (.tuple #[aX u,.bool true]) h')→(tp s.ws []=none→∀v h',Gr h h'→R (.tuple #[v,.bool false]) h')→S.C I.kX [nk (cB I s w e .nilIface)] h R
theorem HL:∀{n:Nat} {ws:List W3} {out es:List Et},ws.length≤n→tp ws out=some es→es.length≤out.length+ws.length
 | n,a::b::c::r,out,es,hn,h=>by
  cases n with
  | zero=>simp at hn
  | succ n=>
   rw [tp] at h
   split at h
   ·have:=HL (n:=n) (by simp only [List.length_cons] at hn; omega) h
    simp only [List.length_append,List.length_cons,List.length_nil] at this⊢
    omega
   ·cases h
 | _,[],out,es,hn,h=>by
  have h:(if lR out=0 then some out else none)=some es:=h
  split at h
  ·cases h; simp
  ·cases h
 | _,[a],out,es,hn,h=>by
  have h:(if lR out=0 then some out else none)=some es:=h
  split at h
  ·cases h; simp
  ·cases h
 | _,[a,b],out,es,hn,h=>by
  have h:(if lR out=0 then some out else none)=some es:=h
  split at h
  ·cases h; simp
  ·cases h
theorem JP (cs:YX S I) (b0:B.p h) (Z:Zs h) (hw:Sl EW h (aX w) s.ws) (he:On B fun h=>Sl EE h (aX e) s.es) (hl:s.ws.length=3*s.many) (hm:s.many≤32) (hW:∀x∈s.ws,Ww x) (hi:s.i=0)
  (hR:∀e',Rt B h (fun B=>On B fun h=>Sl EE h (aX e') (m3 s g.w).1.es) fun h'=>R (hv I (m3 s g.w) w e') h'):ll S I (nk (cB I s w e .nilIface)) (k6 g) h R:=by
 obtain ⟨rf,du,ws,mn,es,i,vr,mt,en,nx,bh⟩ :=s
 obtain ⟨⟨gv,gq,gr⟩,gk⟩ :=g
 have hb:=eS I bh
 dsimp only at hw he hl hm hW hi
 subst hi
 have stop:m3 ⟨rf,du,ws,mn,es,0,vr,mt,en,nx,bh⟩ ⟨gv,gq,gr⟩=wB ⟨rf,du,ws,mn,es,0,vr,mt,en,nx,bh⟩ 4→∀{h'},Gr h h'→R (hv I (wB ⟨rf,du,ws,mn,es,0,vr,mt,en,nx,bh⟩ 4) w e) h':=fun x h' g=>by
  have:=(hR e).nil (h':=h') (by rw [x]; exact he.le (Bs.aR _ _)) g
  rwa [x] at this
 unfold m3 at stop hR
 by_cases c1:wR ⟨rf,du,ws,mn,es,0,vr,mt,en,nx,bh⟩ ⟨gv,gq,gr⟩=true
 ·rw [if_pos c1] at stop
  unfold ll
  have c:=Cx.aA h
  refine c.iK fun _ _ c=>?_
  refine c.v4 fun _ _ c=>?_
  refine c.iK fun _ _ c=>?_
  refine c.v8 fun _ _ c=>?_
  refine c.rl 0 ?_
  refine aD<|vx (c.vp (i:=1) (ds:=[_,_,_]) rfl rfl rfl)<|cs.AD (x:=cB I ⟨rf,du,ws,mn,es,0,vr,mt,en,nx,bh⟩ w e .nilIface) (w:=⟨gv,gq,gr⟩) (ho I _ w e) (mS rf) fun _ g=>?_
  have c:=c.more g
  rw [show vm (cB I ⟨rf,du,ws,mn,es,0,vr,mt,en,nx,bh⟩ w e .nilIface) ⟨gv,gq,gr⟩=true from c1]
  refine eR<|c.rl 0 ?_
  refine cs.tM (x:=cB I ⟨rf,du,ws,mn,es,0,vr,mt,en,nx,bh⟩ w e .nilIface) (z:=4) (ho I _ w e) fun _ g=>?_
  have c:=c.more g
  refine c.eM 2 3 fun _ c=>?_
  exact stop rfl c.gr
 rw [if_neg c1] at stop hR
 cases hu:tp ws [] with
 | none=>
  rw [hu] at stop hR
  unfold ll
  have c:=Cx.aA h
  refine c.iK fun _ _ c=>?_
  refine c.v4 fun _ _ c=>?_
  refine c.iK fun _ _ c=>?_
  refine c.v8 fun _ _ c=>?_
  refine c.rl 0 ?_
  refine aD<|vx (c.vp (i:=1) (ds:=[_,_,_]) rfl rfl rfl)<|cs.AD (x:=cB I ⟨rf,du,ws,mn,es,0,vr,mt,en,nx,bh⟩ w e .nilIface) (w:=⟨gv,gq,gr⟩) (ho I _ w e) (mS rf) fun _ g=>?_
  have c:=c.more g
  rw [show vm (cB I ⟨rf,du,ws,mn,es,0,vr,mt,en,nx,bh⟩ w e .nilIface) ⟨gv,gq,gr⟩=false from Bool.not_eq_true _▸c1]
  refine bD<|c.rl 0 ?_
  refine cs.zE (s:=⟨rf,du,ws,mn,es,0,vr,mt,en,nx,bh⟩) (w:=w) (e:=e) (Z.gr c.gr) (hw.gr c.gr) hl hm hW (fun es' u h' e' _=>by rw [hu] at e'; cases e') fun _ v _ g=>?_
  have c:=c.more g
  refine vx rfl<|vx rfl<|vx (v:=.bool true) (rfl)<|eR<|c.rl 0 ?_
  refine cs.tM (x:=cB I ⟨rf,du,ws,mn,es,0,vr,mt,en,nx,bh⟩ w e .nilIface) (z:=4) (ho I _ w e) fun _ g=>?_
  have c:=c.more g
  refine c.eM 2 3 fun _ c=>?_
  exact stop rfl c.gr
 | some l=>
  rw [hu] at hR
  dsimp only at hR
  have hll:=HL (Nat.le_refl _) hu
  rw [List.length_nil] at hll
  clear stop
  by_cases c2:gv=0
  ·rw [if_neg (fun x=>x c2)] at hR
   unfold ll
   have c:=Cx.aA h
   refine c.iK fun _ _ c=>?_
   refine c.v4 fun _ _ c=>?_
   refine c.iK fun _ _ c=>?_
   refine c.v8 fun _ _ c=>?_
   refine c.rl 0 ?_
   refine aD<|vx (c.vp (i:=1) (ds:=[_,_,_]) rfl rfl rfl)<|cs.AD (x:=cB I ⟨rf,du,ws,mn,es,0,vr,mt,en,nx,bh⟩ w e .nilIface) (w:=⟨gv,gq,gr⟩) (ho I _ w e) (mS rf) fun _ g=>?_
   have c:=c.more g
   rw [show vm (cB I ⟨rf,du,ws,mn,es,0,vr,mt,en,nx,bh⟩ w e .nilIface) ⟨gv,gq,gr⟩=false from Bool.not_eq_true _▸c1]
   refine bD<|c.rl 0 ?_
   refine cs.zE (s:=⟨rf,du,ws,mn,es,0,vr,mt,en,nx,bh⟩) (w:=w) (e:=e) (Z.gr c.gr) (hw.gr c.gr) hl hm hW (fun es' u h' e' d=>?_) fun e'=>by rw [hu] at e'; cases e'
   obtain rfl:l=es':=by rw [hu] at e'; cases e'; rfl
   have c:=c.aE d
   replace c:=c.n5
   refine vx rfl<|vx rfl<|vx (v:=.bool false) (rfl)<|bD<|aD<|c.Ag 0 fun _ c=>?_
   refine aD<|aD<|c.rc 1 ?_
   refine vx (EJ c2)<|bD<|c.rl 0 ?_
   refine cs.vX (s:=⟨rf,du,ws,mn,l,0,vr,mt,en,nx,bh⟩) (w:=w) (e:=u) (c.sl (i:=4) rfl).sl ⟨Nat.zero_le _,by show l.length≤1000; omega⟩ fun _ g=>?_
   have c:=c.more g
   refine c.eM 2 3 fun _ c=>?_
   refine hR u _ _ (Cx.pack (L:=[]) (c.pick [4])) ?_
   have:(cT ⟨rf,du,ws,mn,l,0,vr,mt,en,nx,bh⟩).1.es=l:=by unfold cT mO mF eF pO lT; split <;> (try split) <;> (try split) <;> rfl
   rw [this]; exact On.sl (i:=0) rfl
  ·rw [if_pos c2] at hR
   unfold ll
   have c:=Cx.aA h
   refine c.iK fun _ _ c=>?_
   refine c.v4 fun _ _ c=>?_
   refine c.iK fun _ _ c=>?_
   refine c.v8 fun _ _ c=>?_
   refine c.rl 0 ?_
   refine aD<|vx (c.vp (i:=1) (ds:=[_,_,_]) rfl rfl rfl)<|cs.AD (x:=cB I ⟨rf,du,ws,mn,es,0,vr,mt,en,nx,bh⟩ w e .nilIface) (w:=⟨gv,gq,gr⟩) (ho I _ w e) (mS rf) fun _ g=>?_
   have c:=c.more g
   rw [show vm (cB I ⟨rf,du,ws,mn,es,0,vr,mt,en,nx,bh⟩ w e .nilIface) ⟨gv,gq,gr⟩=false from Bool.not_eq_true _▸c1]
   refine bD<|c.rl 0 ?_
   refine cs.zE (s:=⟨rf,du,ws,mn,es,0,vr,mt,en,nx,bh⟩) (w:=w) (e:=e) (Z.gr c.gr) (hw.gr c.gr) hl hm hW (fun es' u h' e' d=>?_) fun e'=>by rw [hu] at e'; cases e'
   obtain rfl:l=es':=by rw [hu] at e'; cases e'; rfl
   have c:=c.aE d
   replace c:=c.n5
   refine vx rfl<|vx rfl<|vx (v:=.bool false) (rfl)<|bD<|aD<|c.Ag 0 fun _ c=>?_
   refine aD<|aD<|c.rc 1 ?_
   refine vx (FP c2)<|eR<|c.rl 0 ?_
   refine cs.Bt (s:=⟨rf,du,ws,mn,l,0,vr,mt,en,nx,bh⟩) (w:=w) (e:=u) fun _ g=>?_
   have c:=c.more g
   refine c.eM 2 3 fun _ c=>?_
   refine hR u _ _ (Cx.pack (L:=[]) (c.pick [4])) ?_
   have:(eB ⟨rf,du,ws,mn,l,0,vr,mt,en,nx,bh⟩).1.es=l:=by unfold eB nc lT; split <;> rfl
   rw [this]; exact On.sl (i:=0) rfl
end
end Go.En
namespace Go.En
variable {S:Sys} {I:aZ} {h h0 h':Hp} {F F0:Fp} {R:Value→Hp→Prop} {L:List bQ} {B B':Bs}
def FkI (S:Sys) (I:aZ):HK→Value→Value→Hp→(Value→Hp→Prop)→Prop
 | .begin=>tB S I
 | .first=>rn S I
 | .kY=>ly S I
 | .vF=>sR S I
 | .checked=>ll S I
 | .nQ=>jK S I
 | .again=>rQ S I
 | .lU=>nU S I
 | .te=>sO S I
 | .tS=>pi S I
 | .settle=>sQ S I
 | .uZ=>rH S I
 | .jO=>mh S I
 | .mH=>oJ S I
 | .known=>pI S I
 | .found=>l9 S I
 | .through=>rL S I
 | .BQ=>tU S I
def RE (s:Hs):HK→Prop
 | .kY=>s.ws=[]
 | .vF=>YE s∧s.ws.length<3*s.many
 | .checked=>s.ws.length=3*s.many∧s.many≤32∧s.i=0
 | .nQ=>s.i<s.es.length
 | .again=>¬cZ s.met.ref=0∧0≤bF (cZ s.met.ref)
 | .lU=>False
 | .te=>s.i≤s.es.length
 | .tS=>s.i≤s.es.length∧¬s.bh=none
 | .found=>s.i<s.es.length
 | .BQ=>s.i≤1000
 | _=>True
structure Uv (s:Hs):Prop where
 ended:s.ended=false
 es:s.es.length≤1000
 at':0≤bF (cZ s.ref)
 ws:∀x∈s.ws,Ww x
 met:Ww s.met
 ph:RE s s.nx
structure Hwt (s:Hs):Prop where
 ended:s.ended=false
 es:s.i<s.es.length∧s.es.length≤1000
 nx:s.nx=.lU
def Gv:List Hs→Prop
 | []=>False
 | [s]=>Uv s
 | s::k::r=>Hwt s∧Gv (k::r)
def B2 (I:aZ) (B:Bs):List Hs→Value→Prop
 | [],_=>False
 | [s],v=>∃w e,v=nk (cB I s w e .nilIface)∧(On B fun h=>Sl EW h (aX w) s.ws)∧On B fun h=>Sl EE h (aX e) s.es
 | s::k::r,v=>∃w e v',v=nk (cB I s w e (.iface I.aB v'))∧(On B fun h=>Sl EW h (aX w) s.ws)∧(On B fun h=>Sl EE h (aX e) s.es)∧B2 I B (k::r) v'
theorem B2.le (l:B.le B'):∀{hs:List Hs} {v:Value},B2 I B hs v→B2 I B' hs v
 | [],_,x=>x
 | [_],_,⟨w,e,a,b,c⟩ =>⟨w,e,a,b.le l,c.le l⟩
 | _::_::_,_,⟨w,e,v',a,b,c,d⟩ =>⟨w,e,v',a,b.le l,c.le l,B2.le l d⟩
def Oy (S:Sys) (I:aZ) (B:Bs) (v:Value) (g:iM) (out:List Hs × Ac × Bool):Prop:=
 ∀h (R:Value→Hp→Prop),B.p h→(∀v',Rt B h (fun B=>B2 I B out.1 v') fun h'=>R (.tuple #[.iface I.aB v',nJ out.2.1,.bool out.2.2]) h')→S.C I.jB [v,k6 g] h R
structure ChK (S:Sys) (I:aZ):Prop extends YX S I where
 link:∀k {x g:Value} {h R},FkI S I k x g h R→S.C (kI I k) [x,g] h R
 KI:∀{x g:Value} {h R},nu S I x g h R→S.C I.jB [x,g] h R
 mt:I.mt I.aB "Next"=some I.jB
section
variable {s:Hs} {w e:SH} {g:iM} {z:Int} {r:Int} {d:Bool}
theorem Ml (cs:YX S I) (Z:Zs h) (hr:0≤r∧r<4294967296) (hR:∀h',Gr h h'→R (if ¬cZ r=0∧0≤bF (cZ r) then .tuple #[.iface I.aB (nk (cB I (Hs.new r d) (none,0,0) (none,0,0) .nilIface)),.int .i64 0] else .tuple #[.nilIface,.int .i64 3]) h'):uC S I vL (.int .u32 r) (.bool d) h R:=by
 have hl:=DN r
 by_cases c1:cZ r=0
 ·rw [if_neg (fun x=>x.1 c1)] at hR
  unfold uC
  have c:=Cx.aA h
  refine c.v3 fun _ _ c=>?_
  refine c.rl 0 ?_
  refine cs.check _ _ (Z.gr c.gr) fun _ g=>?_
  have c:=c.more g
  refine vx (v:=.bool false) rfl<|bD<|cs.who hr fun _ g=>?_
  have c:=c.more g
  refine vx rfl<|vx rfl<|c.rl 0 ?_
  refine cs.Cy (who:=cZ r) ⟨by omega,by omega⟩ _ _ (Z.gr c.gr) fun _ g=>?_
  have c:=c.more g
  refine vx rfl<|vx rfl ?_
  exact .here<|vx (qu c1)<|eR<|eR<|hR _ c.gr
 by_cases c2:0≤bF (cZ r)
 ·rw [if_pos ⟨c1,c2⟩] at hR
  unfold uC
  have c:=Cx.aA h
  refine c.v3 fun _ _ c=>?_
  refine c.rl 0 ?_
  refine cs.check _ _ (Z.gr c.gr) fun _ g=>?_
  have c:=c.more g
  refine vx (v:=.bool false) rfl<|bD<|cs.who hr fun _ g=>?_
  have c:=c.more g
  refine vx rfl<|vx rfl<|c.rl 0 ?_
  refine cs.Cy (who:=cZ r) ⟨by omega,by omega⟩ _ _ (Z.gr c.gr) fun _ g=>?_
  have c:=c.more g
  refine vx rfl<|vx rfl ?_
  refine .here<|vx (m6 c1)<|bD<|vx (iZ (Int.not_lt.2 c2))<|bD<|c.rl 0 ?_
  exact vx (v:=nk (cB I (Hs.new r d) (none,0,0) (none,0,0) .nilIface)) (by kernel_rfl)<|vx rfl<|hR _ c.gr
 ·rw [if_neg (fun x=>c2 x.2)] at hR
  unfold uC
  have c:=Cx.aA h
  refine c.v3 fun _ _ c=>?_
  refine c.rl 0 ?_
  refine cs.check _ _ (Z.gr c.gr) fun _ g=>?_
  have c:=c.more g
  refine vx (v:=.bool false) rfl<|bD<|cs.who hr fun _ g=>?_
  have c:=c.more g
  refine vx rfl<|vx rfl<|c.rl 0 ?_
  refine cs.Cy (who:=cZ r) ⟨by omega,by omega⟩ _ _ (Z.gr c.gr) fun _ g=>?_
  have c:=c.more g
  refine vx rfl<|vx rfl ?_
  exact .here<|vx (m6 c1)<|bD<|vx (yH (by omega))<|eR<|hR _ c.gr
theorem MX {v:Value} (hs:B2 I B [s] v) (he:s.ended=true) (hR:∀h',Gr h h'→R (.tuple #[.int .i64 s.dN,.bool true]) h'):vy S I (.iface I.aB v) h R:=by
 obtain ⟨w,e,rfl,_,_⟩ :=hs
 obtain ⟨rf,du,ws,mn,es,i,vr,mt,en,nx,bh⟩ :=s
 dsimp only at he
 subst he
 have hb:=eS I bh
 unfold vy
 have c:=Cx.aA h
 refine vx (v:=.tuple #[nk (cB I ⟨rf,du,ws,mn,es,i,vr,mt,true,nx,bh⟩ w e .nilIface),.bool true]) (by simp [C3])<|vx rfl<|vx rfl<|c.iK fun _ _ c=>?_
 refine c.Yr 0 fun _ c=>?_
 refine .here<|vx (v:=.bool false) (rfl)<|bD<|aD<|c.rc 0 ?_
 refine vx rfl<|bD<|aD<|c.rc 0 ?_
 exact hR _ c.gr
structure V5 (S:Sys) (I:aZ):Prop extends ChK S I where
 H8:∀{r:Int} {d:Bool} {h} {R:Value→Hp→Prop},Zs h→0≤r∧r<4294967296→(∀h',Gr h h'→R (if ¬cZ r=0∧0≤bF (cZ r) then .tuple #[.iface I.aB (nk (cB I (Hs.new r d) (none,0,0) (none,0,0) .nilIface)),.int .i64 0] else .tuple #[.nilIface,.int .i64 3]) h')→S.C I.qH [vL,.int .u32 r,.bool d] h R
 Bd:∀{B:Bs} {s:Hs} {v:Value} {h} {R:Value→Hp→Prop},B2 I B [s] v→s.ended=true→(∀h',Gr h h'→R (.tuple #[.int .i64 s.dN,.bool true]) h')→S.C I.nV [.iface I.aB v] h R
theorem P0 (cs:V5 S I) (b0:B.p h) (hZ:On B Zs) (hw:On B fun h=>Sl EW h (aX w) s.ws) (he:On B fun h=>Sl EE h (aX e) s.es) (o:Uv s) (ha:¬s.nx=.again) (hg:Ww g.w)
  (hR:∀w' e',Rt B h (fun B=>(On B fun h=>Sl EW h (aX w') (oQ s g).1.ws)∧On B fun h=>Sl EE h (aX e') (oQ s g).1.es) fun h'=>R (hv I (oQ s g) w' e') h') :
  S.C (kI I s.nx) [nk (cB I s w e .nilIface),k6 g] h R:=by
 obtain ⟨o1,o2,o3,o4,o5,o6⟩ :=o
 have same:∀x:HR,oQ s g=x→x.1.ws=s.ws→x.1.es=s.es→∀h',Gr h h'→R (hv I x w e) h':=fun x hx h1 h2 h' gr=>by
  have:=(hR w e).nil (h':=h') ⟨by rw [hx,h1]; exact hw.le (Bs.aR _ _),by rw [hx,h2]; exact he.le (Bs.aR _ _)⟩ gr
  rwa [hx] at this
 have Z:=hZ h b0
 refine cs.link s.nx ?_
 have hse:∀k,(mF s k).1.ws=s.ws∧(mF s k).1.es=s.es:=fun k=>by unfold mF eF lT; split <;> exact ⟨rfl,rfl⟩
 cases hk:s.nx with
 | lU=>rw [hk] at o6; exact o6.elim
 | again=>exact absurd hk ha
 | begin=>exact PW cs.toNC (s:=s) (same _ (by unfold oQ; rw [hk]) rfl rfl)
 | first=>
  refine O1 cs.toNC (s:=s) ⟨by show -1000≤bF (cZ s.ref); omega,?_⟩ (same _ (by unfold oQ; rw [hk]) ?_ ?_)
  ·have:=DN s.ref
   unfold Hs.at' bF lC m5
   split <;> split <;> omega
  ·split <;> rfl
  ·split <;> rfl
 | kY=>
  rw [hk] at o6
  refine Ke cs.toYc (s:=s) Z (hw h b0) o6 o3 (same _ (by unfold oQ; rw [hk]) ?_ ?_)
  ·unfold qt qf nc lT wB; split <;> (try split) <;> rfl
  ·unfold qt qf nc lT wB; split <;> (try split) <;> rfl
 | vF=>
  rw [hk] at o6
  have e1:oQ s g=qf {s with ws:=s.ws++[g.w]}:=by unfold oQ; rw [hk]
  have e2:(qf {s with ws:=s.ws++[g.w]}).1.ws=s.ws++[g.w]∧(qf {s with ws:=s.ws++[g.w]}).1.es=s.es:=by unfold qf nc lT; split <;> exact ⟨rfl,rfl⟩
  refine Mq cs.toYc (s:=s) Z (hw h b0) o6.1 o6.2 fun w' h' c=>?_
  have:=hR w' e [dA EW (aX w') (s.ws++[g.w])] h' (Cx.pack (L:=[]) c)
  rw [e1,e2.1,e2.2] at this
  exact this ⟨On.sl (i:=0) rfl,he.le (Bs.aR _ _)⟩
 | checked=>
  rw [hk] at o6
  have e1:oQ s g=m3 s g.w:=by unfold oQ; rw [hk]
  have e2:(m3 s g.w).1.ws=s.ws:=by
   unfold m3 eB cT mO mF eF pO nc lT wB
   repeat' split
   all_goals rfl
  refine JP cs.toYX (s:=s) b0 Z (hw h b0) he o6.1 o6.2.1 o4 o6.2.2 fun e' M h' c hs=>?_
  have:=hR w e' M h' c
  rw [e1,e2] at this
  exact this ⟨hw.le (Bs.aR _ _),hs⟩
 | nQ=>
  rw [hk] at o6
  refine GL cs.toNC (s:=s) Z (he h b0) ⟨o6,o2⟩ hg (same _ (by unfold oQ; rw [hk]) ?_ ?_)
  ·unfold pg cT mO mF eF pO nc lT; repeat' split
   all_goals rfl
  ·unfold pg cT mO mF eF pO nc lT; repeat' split
   all_goals rfl
 | te=>
  rw [hk] at o6
  refine Mb cs.toNC (s:=s) (he h b0) ⟨o6,o2⟩ (same _ (by unfold oQ; rw [hk]) ?_ ?_)
  ·unfold cT mO mF eF pO lT; repeat' split
   all_goals rfl
  ·unfold cT mO mF eF pO lT; repeat' split
   all_goals rfl
 | tS=>
  rw [hk] at o6
  refine Ew cs.toWy (s:=s) (he h b0) ⟨o6.1,o2⟩ o6.2 (same _ (by unfold oQ; rw [hk]) ?_ ?_)
  ·unfold eF lT; split <;> rfl
  ·unfold eF lT; split <;> rfl
 | settle=>exact FE cs.toWy (s:=s) (mS _) (same _ (by unfold oQ; rw [hk]) rfl rfl)
 | uZ=>
  refine Jk cs.toNC (s:=s) (same _ (by unfold oQ; rw [hk]) ?_ ?_)
  ·unfold eB nc lT; split <;> rfl
  ·unfold eB nc lT; split <;> rfl
 | jO=>exact CA cs.toNC (s:=s) (same _ (by unfold oQ; rw [hk]) rfl rfl)
 | mH=>exact E8 cs.toNC (s:=s) (same _ (by unfold oQ; rw [hk]) rfl rfl)
 | known=>
  refine NV cs.toNC (s:=s) (he h b0) o2 (same _ (by unfold oQ; rw [hk]) ?_ ?_)
  ·unfold xk qP mF eF wB lT; repeat' split
   all_goals rfl
  ·unfold xk qP mF eF wB lT; repeat' split
   all_goals rfl
 | found=>
  rw [hk] at o6
  refine PA cs.toYl (s:=s) (he h b0) ⟨o6,o2⟩ hg (same _ (by unfold oQ; rw [hk]) ?_ ?_)
  ·unfold vn yU qP mF eF wB lT; repeat' split
   all_goals rfl
  ·unfold vn yU qP mF eF wB lT; repeat' split
   all_goals rfl
 | through=>exact JD cs.toNC (s:=s) (same _ (by unfold oQ; rw [hk]) rfl rfl)
 | BQ=>
  rw [hk] at o6
  refine IW cs.toNC (s:=s) (he h b0) ⟨o2,o6⟩ (same _ (by unfold oQ; rw [hk]) ?_ ?_)
  ·unfold yU qP mF eF wB lT; repeat' split
   all_goals rfl
  ·unfold yU qP mF eF wB lT; repeat' split
   all_goals rfl
end
end Go.En
namespace Go.En
variable {S:Sys} {I:aZ} {h h0 h':Hp} {F F0:Fp} {R:Value→Hp→Prop} {L:List bQ} {B B':Bs}
def uU (s:Hs):List Hs × Ac × Bool→List Hs × Ac × Bool
 | (r',a,false)=>({s with nx:=.lU}::r',a,false)
 | (r',_,true)=>match r' with
  | t'::_=>if ¬t'.dN=4 then ([(cT s).1],(cT s).2) else ([{s with nx:=.te}],⟨6,(hE s).at',s.met,⟨s.met.v,s.met.dN,0⟩⟩,false)
  | []=>([],mL,true)
theorem pG (s:Hs):(cT s).1.ws=s.ws∧(cT s).1.es=s.es∧(cT s).2.2=false:=by
 unfold cT mO mF eF pO lT
 repeat' split
 all_goals exact ⟨rfl,rfl,rfl⟩
theorem rA (s:Hs):(eB s).1.ws=s.ws∧(eB s).1.es=s.es∧(eB s).2.2=false:=by
 unfold eB nc lT
 split <;> exact ⟨rfl,rfl,rfl⟩
def Il (x:List Hs × Ac × Bool):Prop:=x.2.2=true→∃t,x.1=[t]∧t.ended=true
theorem Jl {s:Hs} {g:iM}:(oQ s g).2.2=true→(oQ s g).1.ended=true:=by
 have F:∀x:Hs,(eF x).2.2=false:=fun x=>by unfold eF lT; split <;> rfl
 have E:∀x:Hs,(qP x).2.2=true→(qP x).1.ended=true:=fun x=>by
  unfold qP
  split
  ·intro h; cases h
  ·split
   ·intro h; rw [show (mF x .through).2.2=false from F _] at h; cases h
   ·intro _; rfl
 have L:∀x:Hs,(qf x).2.2=false:=fun x=>by unfold qf nc lT; split <;> rfl
 have Dc:∀(x:Hs) (z:Int),(mO x z).2.2=false:=fun x z=>by
  unfold mO
  split
  ·exact F _
  ·rfl
 unfold oQ
 cases s.nx <;> dsimp only
 case begin=>intro h; cases h
 case first=>
  split
  ·intro _; rfl
  ·intro h; cases h
 case kY=>
  unfold qt
  split
  ·intro _; rfl
  ·intro h; rw [L] at h; cases h
 case vF=>intro h; rw [L] at h; cases h
 case checked=>
  unfold m3
  split
  ·intro _; rfl
  ·split
   ·intro _; rfl
   ·split
    ·intro h; rw [(rA _).2.2] at h; cases h
    ·intro h; rw [(pG _).2.2] at h; cases h
 case nQ=>
  unfold pg
  split
  ·intro h; rw [(pG _).2.2] at h; cases h
  ·split
   ·intro h; cases h
   ·intro h; rw [Dc] at h; cases h
 case again=>intro h; rw [(rA _).2.2] at h; cases h
 case lU=>intro h; rw [(pG _).2.2] at h; cases h
 case te=>intro h; rw [(pG _).2.2] at h; cases h
 case tS=>intro h; rw [F] at h; cases h
 case settle=>intro h; cases h
 case uZ=>intro h; rw [(rA _).2.2] at h; cases h
 case jO=>intro h; cases h
 case mH=>intro h; cases h
 case known=>exact E _
 case found=>
  unfold vn
  split
  ·intro h; cases h
  ·exact E _
 case through=>intro _; rfl
 case BQ=>exact E _
theorem s0 {g:iM}:∀{hs:List Hs},Gv hs→Il (fP hs g)
 | [],o=>o.elim
 | [s],o=>by
  have o:Uv s:=o
  intro h
  by_cases e:s.nx=.again
  ·rw [C2 o.ended e] at h
   split at h
   ·rw [(rA s).2.2] at h; cases h
   ·cases h
  ·rw [zG o.ended e [] (.inl rfl)] at h⊢
   exact ⟨_,rfl,Jl h⟩
 | s::k::r,o=>by
  intro h
  rw [BI o.1.ended o.1.nx] at h
  cases hq:fP (k::r) g with
  | mk r' q=>
   obtain ⟨a',d⟩ :=q
   rw [hq] at h
   cases d with
   | false=>cases h
   | true=>
    obtain ⟨t,ht,_⟩ :=s0 o.2 (g:=g) (by rw [hq])
    rw [hq] at ht
    dsimp only at ht
    subst ht
    dsimp only at h
    split at h
    ·rw [(pG s).2.2] at h; cases h
    ·cases h
section
variable {s:Hs} {w e:SH} {g:iM} {out:List Hs × Ac × Bool} {v':Value}
theorem B2.cons {k:Hs} {l:List Hs} (hw:On B fun h=>Sl EW h (aX w) s.ws) (he:On B fun h=>Sl EE h (aX e) s.es) (hv:B2 I B (k::l) v'):B2 I B (s::k::l) (nk (cB I s w e (.iface I.aB v'))):=⟨w,e,v',rfl,hw,he,hv⟩
theorem B2.head {hs:List Hs} (hv:B2 I B hs v'):∃k l,hs=k::l:=by
 cases hs with
 | nil=>exact hv.elim
 | cons k l=>exact ⟨k,l,rfl⟩
theorem FQ (cs:V5 S I) (b0:B.p h) (hw:On B fun h=>Sl EW h (aX w) s.ws) (he:On B fun h=>Sl EE h (aX e) s.es) (hi:s.i<s.es.length∧s.es.length≤1000) (hN:Oy S I B v' g out) (tM:Il out)
  (hR:∀v'',Rt B h (fun B=>B2 I B (uU s out).1 v'') fun h'=>R (.tuple #[v'',nJ (uU s out).2.1,.bool (uU s out).2.2]) h') :
  nU S I (nk (cB I s w e (.iface I.aB v'))) (k6 g) h R:=by
 obtain ⟨rf,du,ws,mn,es,i,vr,⟨mv,mq,mr⟩,en,nx,bh⟩ :=s
 obtain ⟨⟨gv,gq,gr⟩,gk⟩ :=g
 obtain ⟨row,a,d⟩ :=out
 have hb:=eS I bh
 dsimp only at hw he hi
 have hx:=I4 (s:=⟨rf,du,ws,mn,es,i,vr,⟨mv,mq,mr⟩,en,nx,bh⟩) hi.1
 cases d with
 | false=>
  unfold nU
  have c:=Cx.aA h
  refine c.iK fun _ _ c=>?_
  refine c.v4 fun _ _ c=>?_
  refine c.iK fun _ _ c=>?_
  refine c.v8 fun _ _ c=>?_
  refine aD<|c.rc 0 ?_
  refine c.rl 1 ?_
  refine ⟨_,_,_,rfl,cs.mt,hN _ _ (B.up b0 c.gr) fun v'' M _ dd ok=>?_⟩
  have c:=c.aE dd
  replace c:=c.n5
  refine vx rfl<|vx rfl<|vx rfl<|c.v8 fun _ _ c=>?_
  refine c.w8 5 fun _ c=>?_
  refine aD<|c.Ag 0 fun _ c=>?_
  refine vx (v:=.bool true) (rfl)<|eR<|c.rl 0 ?_
  refine c.rl 5 ?_
  refine cs.Ah (x:=cB I ⟨rf,du,ws,mn,es,i,vr,⟨mv,mq,mr⟩,en,nx,bh⟩ w e (.iface I.aB v'')) (a:=a) ⟨rfl,rfl,hb⟩ rfl fun _ g=>?_
  have c:=c.more g
  refine c.eM 2 3 fun _ c=>?_
  obtain ⟨k,l,rfl⟩ :=ok.head
  exact hR (nk (cB I ⟨rf,du,ws,mn,es,i,vr,⟨mv,mq,mr⟩,en,.lU,bh⟩ w e (.iface I.aB v''))) M _ (c.pick [4]) (B2.cons (hw.le (Bs.aR _ _)) (he.le (Bs.aR _ _)) ok)
 | true=>
  obtain ⟨t,ht,hte⟩ :=tM rfl
  dsimp only at ht
  subst ht
  by_cases c1:t.dN=4
  ·have e1:uU ⟨rf,du,ws,mn,es,i,vr,⟨mv,mq,mr⟩,en,nx,bh⟩ ([t],a,true)=([⟨rf,du,ws,mn,es,i,vr,⟨mv,mq,mr⟩,en,.te,bh⟩],⟨6,(hE ⟨rf,du,ws,mn,es,i,vr,⟨mv,mq,mr⟩,en,nx,bh⟩).at',⟨mv,mq,mr⟩,⟨mv,mq,0⟩⟩,false):=by
    unfold uU
    dsimp only
    rw [if_neg (fun x=>x c1)]
   rw [e1] at hR
   unfold nU
   have c:=Cx.aA h
   refine c.iK fun _ _ c=>?_
   refine c.v4 fun _ _ c=>?_
   refine c.iK fun _ _ c=>?_
   refine c.v8 fun _ _ c=>?_
   refine aD<|c.rc 0 ?_
   refine c.rl 1 ?_
   refine ⟨_,_,_,rfl,cs.mt,hN _ _ (B.up b0 c.gr) fun v'' M _ dd ok=>?_⟩
   have c:=c.aE dd
   replace c:=c.n5
   refine vx rfl<|vx rfl<|vx rfl<|c.v8 fun _ _ c=>?_
   refine c.w8 5 fun _ c=>?_
   refine aD<|c.Ag 0 fun _ c=>?_
   refine vx (v:=.bool false) (rfl)<|bD<|aD<|c.Ag 0 fun _ c=>?_
   refine cs.Bd (v:=v'') ok hte fun _ g=>?_
   have c:=c.more g
   refine vx rfl<|vx rfl<|vx (EJ c1)<|bD<|c.rl 0 ?_
   refine c.rl 0 ?_
   refine aD<|vx (c.vp (i:=0) (ds:=[_,_,_]) rfl rfl rfl)<|aD<|aD<|c.rc 0 ?_
   refine aD<|aD<|c.rc 0 ?_
   refine vx (aL (ds:=[_,_,_]) rfl)<|cs.Ee (x:=cB I ⟨rf,du,ws,mn,es,i,vr,⟨mv,mq,mr⟩,en,nx,bh⟩ w e .nilIface) (ho I _ w e) (he _ (B.up b0 c.gr)) rfl hx fun _ g=>?_
   have c:=c.more g
   refine c.ac 0 ?_
   refine c.ac 0 ?_
   refine And.intro (c.vp (i:=0) (ds:=[_,_,_]) rfl rfl rfl) ?_
   refine c.al 0 ?_
   refine vx (aL (ds:=[_,_,_,_,_,_,_,_]) rfl)<|cs.Ah (x:=cB I ⟨rf,du,ws,mn,es,i,vr,⟨mv,mq,mr⟩,en,nx,bh⟩ w e .nilIface) (a:=⟨6,(hE ⟨rf,du,ws,mn,es,i,vr,⟨mv,mq,mr⟩,en,nx,bh⟩).at',⟨mv,mq,mr⟩,⟨mv,mq,0⟩⟩) (ho I _ w e) rfl fun _ g=>?_
   have c:=c.more g
   refine c.eM 2 3 fun _ c=>?_
   exact hR (nk (cB I ⟨rf,du,ws,mn,es,i,vr,⟨mv,mq,mr⟩,en,.te,bh⟩ w e .nilIface)) M _ (c.pick [4]) ⟨w,e,rfl,hw.le (Bs.aR _ _),he.le (Bs.aR _ _)⟩
  ·have e1:uU ⟨rf,du,ws,mn,es,i,vr,⟨mv,mq,mr⟩,en,nx,bh⟩ ([t],a,true)=([(cT ⟨rf,du,ws,mn,es,i,vr,⟨mv,mq,mr⟩,en,nx,bh⟩).1],(cT ⟨rf,du,ws,mn,es,i,vr,⟨mv,mq,mr⟩,en,nx,bh⟩).2):=by
    unfold uU
    dsimp only
    rw [if_pos c1]
   rw [e1] at hR
   have sm:=pG ⟨rf,du,ws,mn,es,i,vr,⟨mv,mq,mr⟩,en,nx,bh⟩
   unfold nU
   have c:=Cx.aA h
   refine c.iK fun _ _ c=>?_
   refine c.v4 fun _ _ c=>?_
   refine c.iK fun _ _ c=>?_
   refine c.v8 fun _ _ c=>?_
   refine aD<|c.rc 0 ?_
   refine c.rl 1 ?_
   refine ⟨_,_,_,rfl,cs.mt,hN _ _ (B.up b0 c.gr) fun v'' M _ dd ok=>?_⟩
   have c:=c.aE dd
   replace c:=c.n5
   refine vx rfl<|vx rfl<|vx rfl<|c.v8 fun _ _ c=>?_
   refine c.w8 5 fun _ c=>?_
   refine aD<|c.Ag 0 fun _ c=>?_
   refine vx (v:=.bool false) (rfl)<|bD<|aD<|c.Ag 0 fun _ c=>?_
   refine cs.Bd (v:=v'') ok hte fun _ g=>?_
   have c:=c.more g
   refine vx rfl<|vx rfl<|vx (FP c1)<|eR<|c.rl 0 ?_
   refine cs.vX (s:=⟨rf,du,ws,mn,es,i,vr,⟨mv,mq,mr⟩,en,nx,bh⟩) (w:=w) (e:=e) (he _ (B.up b0 c.gr)) ⟨Nat.le_of_lt hi.1,hi.2⟩ fun _ g=>?_
   have c:=c.more g
   refine c.eM 2 3 fun _ c=>?_
   exact hR (nk (cB I (cT ⟨rf,du,ws,mn,es,i,vr,⟨mv,mq,mr⟩,en,nx,bh⟩).1 w e .nilIface)) M _ (c.pick [4]) ⟨w,e,rfl,by rw [sm.1]; exact hw.le (Bs.aR _ _),by rw [sm.2.1]; exact he.le (Bs.aR _ _)⟩
end
end Go.En
namespace Go.En
variable {S:Sys} {I:aZ} {h h0 h':Hp} {F F0:Fp} {R:Value→Hp→Prop} {L:List bQ} {B B':Bs}
theorem Tc:Ww W0:=⟨⟨by decide,by decide⟩,⟨by decide,by decide⟩,⟨by decide,by decide⟩⟩
section
variable {s:Hs} {w e:SH} {g:iM} {v v':Value}
theorem Ei {pB:Value} (hin:pB.oneCell'=true) (he0:s.ended=false) {Q:Bs→Value→Hs→Prop} {out:List Hs × Ac × Bool} (b0:B.p h)
  (hC:∀h R,B.p h→(∀v'',Rt B h (fun B=>B2 I B out.1 v'') fun h'=>R (.tuple #[v'',nJ out.2.1,.bool out.2.2]) h')→S.C (kI I s.nx) [nk (cB I s w e pB),k6 g] h R)
  (hR:∀v',Rt B h (fun B=>B2 I B out.1 v') fun h'=>R (.tuple #[.iface I.aB v',nJ out.2.1,.bool out.2.2]) h') :
  nu S I (nk (cB I s w e pB)) (k6 g) h R:=by
 obtain ⟨rf,du,ws,mn,es,i,vr,mt,en,nx,bh⟩ :=s
 obtain ⟨⟨gv,gq,gr⟩,gk⟩ :=g
 have hb:=eS I bh
 dsimp only at he0
 subst he0
 obtain ⟨row,a,d⟩ :=out
 unfold nu
 have c:=Cx.aA h
 refine c.iK fun _ _ c=>?_
 refine c.v4 fun _ _ c=>?_
 refine c.v8 fun _ _ c=>?_
 refine aD<|c.rc 0 ?_
 refine bD<|aD<|c.rc 0 ?_
 refine c.rl 0 ?_
 refine c.rl 1 ?_
 refine .inl (.inl ⟨kI I nx,#[],#[],rfl,hC _ _ (B.up b0 c.gr) fun v'' M _ dd ok=>?_⟩)
 have c:=c.aE dd
 obtain ⟨k,l,hkl⟩ :=ok.head
 dsimp only at hkl
 subst hkl
 obtain ⟨x,hx,ho3⟩:∃x,v''=nk x∧Ho x:=by
  cases l with
  | nil=>obtain ⟨w2,e2,y,_⟩ :=ok; exact ⟨_,y,ho I k w2 e2⟩
  | cons k2 l2=>obtain ⟨w2,e2,v3,y,_⟩ :=ok; exact ⟨_,y,rfl,rfl,eS I k.bh⟩
 subst hx
 obtain ⟨xr,xat,xwho,xseq,xmost,xdur,xws,xmany,xes,xi,xver,⟨xv,xq,xr2⟩,xinner,xended,xnx,xbh⟩ :=x
 obtain ⟨ho1,ho2,ho4⟩ :=ho3
 dsimp only at ho1 ho2 ho4
 replace c:=c.n4
 refine vx rfl<|vx rfl<|vx rfl<|c.iK fun _ _ c=>?_
 refine c.v8 fun _ _ c=>?_
 refine c.Yr 4 fun _ c=>?_
 refine c.w8 5 fun _ c=>?_
 refine c.rl 4 ?_
 refine vx rfl<|c.rl 5 ?_
 refine c.w8 2 fun _ c=>?_
 refine c.rl 2 ?_
 exact hR _ M _ (c.pick [3]) ok
theorem Ok (cs:V5 S I) (b0:B.p h) (hZ:On B Zs) (hw:On B fun h=>Sl EW h (aX w) s.ws) (he:On B fun h=>Sl EE h (aX e) s.es) (hi:s.i<s.es.length∧s.es.length≤1000) (hmr:0≤s.met.ref∧s.met.ref<4294967296) (hm:¬cZ s.met.ref=0∧0≤bF (cZ s.met.ref))
  {out:List Hs × Ac × Bool} (ho:out=if ¬g.w=⟨0,s.seq,0⟩ then ([(eB s).1],(eB s).2) else ([{s with nx:=.lU},{Hs.new s.met.ref s.fO with nx:=.first}],⟨5,bF (cZ s.met.ref),W0,W0⟩,false))
  (hR:∀v'',Rt B h (fun B=>B2 I B out.1 v'') fun h'=>R (.tuple #[v'',nJ out.2.1,.bool out.2.2]) h') :
  rQ S I (nk (cB I s w e .nilIface)) (k6 g) h R:=by
 obtain ⟨rf,du,ws,mn,es,i,vr,⟨mv,mq,mr⟩,en,nx,bh⟩ :=s
 obtain ⟨⟨gv,gq,gr⟩,gk⟩ :=g
 have hb:=eS I bh
 dsimp only at hw he hi hm ho hmr
 by_cases c1:(⟨gv,gq,gr⟩:W3)=⟨0,ki rf,0⟩
 ·have ho:out=_:=ho.trans (if_neg fun x=>x c1)
  subst ho
  have hN:∀B',B.le B'→Oy S I B' (nk (cB I (Hs.new mr du) (none,0,0) (none,0,0) .nilIface)) qY ([{Hs.new mr du with nx:=.first}],⟨5,bF (cZ mr),W0,W0⟩,false):=fun B' l h R b hR=>by
   refine cs.KI (Ei (s:=Hs.new mr du) rfl rfl (Q:=fun _ _ _=>True) b (fun h R b hR=>?_) hR)
   refine P0 cs (s:=Hs.new mr du) b (hZ.le l) (fun _ _=>Sl.nil) (fun _ _=>Sl.nil) ⟨rfl,Nat.zero_le _,hm.2,fun x hx=>(List.not_mem_nil hx).elim,Tc,trivial⟩ (fun x=>by cases x) Tc fun w' e' M h' c ok=>?_
   exact hR _ M h' c ⟨w',e',rfl,ok.1,ok.2⟩
  unfold rQ
  have c:=Cx.aA h
  refine c.iK fun _ _ c=>?_
  refine c.v4 fun _ _ c=>?_
  refine c.iK fun _ _ c=>?_
  refine c.v8 fun _ _ c=>?_
  refine aD<|vx (c.vp (i:=1) (ds:=[_,_,_]) rfl rfl rfl)<|aD<|c.rc 0 ?_
  refine cs.status (mS rf) fun _ g=>?_
  have c:=c.more g
  refine And.intro (c.vp (i:=1) (ds:=[_,_,_]) rfl rfl rfl) ?_
  refine vx (Sz (a:=⟨gv,gq,gr⟩) (b:=⟨0,ki rf,0⟩) c1)<|bD<|aD<|vx (c.vp (i:=0) (ds:=[_,_,_]) rfl rfl rfl)<|aD<|aD<|c.rc 0 ?_
  refine aD<|c.rc 0 ?_
  refine cs.H8 (hZ _ (B.up b0 c.gr)) hmr fun _ g=>?_
  have c:=c.more g
  rw [if_pos hm]
  refine vx rfl<|vx rfl<|aD<|c.Ag 0 fun _ c=>?_
  refine c.rl 0 ?_
  refine vx (aL (ds:=[_,_,_,_]) rfl)<|cs.link .lU (FQ cs (s:=⟨rf,du,ws,mn,es,i,vr,⟨mv,mq,mr⟩,en,nx,bh⟩) (g:=qY) (B.up b0 c.gr) hw he hi (hN B (Bs.le_refl B)) (fun x=>by cases x) fun v'' M _ d ok=>?_)
  have c:=c.aE d
  obtain ⟨w2,e2,v3,hx,ok2⟩ :=id ok
  subst hx
  replace c:=c.n5
  refine c.eM 2 3 fun _ c=>?_
  exact hR _ M _ (c.pick [4]) ok
 ·have ho:out=_:=ho.trans (if_pos c1)
  subst ho
  have sm:=rA ⟨rf,du,ws,mn,es,i,vr,⟨mv,mq,mr⟩,en,nx,bh⟩
  unfold rQ
  have c:=Cx.aA h
  refine c.iK fun _ _ c=>?_
  refine c.v4 fun _ _ c=>?_
  refine c.iK fun _ _ c=>?_
  refine c.v8 fun _ _ c=>?_
  refine aD<|vx (c.vp (i:=1) (ds:=[_,_,_]) rfl rfl rfl)<|aD<|c.rc 0 ?_
  refine cs.status (mS rf) fun _ g=>?_
  have c:=c.more g
  refine And.intro (c.vp (i:=1) (ds:=[_,_,_]) rfl rfl rfl) ?_
  refine vx (S5 (a:=⟨gv,gq,gr⟩) (b:=⟨0,ki rf,0⟩) c1)<|eR<|c.rl 0 ?_
  refine cs.Bt (s:=⟨rf,du,ws,mn,es,i,vr,⟨mv,mq,mr⟩,en,nx,bh⟩) (w:=w) (e:=e) fun _ g=>?_
  have c:=c.more g
  refine c.eM 2 3 fun _ c=>?_
  exact (hR (nk (cB I (eB ⟨rf,du,ws,mn,es,i,vr,⟨mv,mq,mr⟩,en,nx,bh⟩).1 w e .nilIface))).nil ⟨w,e,rfl,by rw [sm.1]; exact hw.le (Bs.aR _ _),by rw [sm.2.1]; exact he.le (Bs.aR _ _)⟩ c.gr
theorem Oy.all (cs:V5 S I) (hZ:On B Zs) (hg:Ww g.w):∀{hs:List Hs} {v:Value},B2 I B hs v→Gv hs→(∀s∈hs,s.nx=.again→s.i<s.es.length)→Oy S I B v g (fP hs g)
 | [],_,hv,_,_=>hv.elim
 | [s],v,hv,o,hag=>by
  have o:Uv s:=o
  obtain ⟨w,e,rfl,hw,he⟩ :=hv
  intro h R b0 hR
  refine cs.KI (Ei (Q:=fun _ _ _=>True) rfl o.ended b0 (fun h R b0 hR=>?_) hR)
  by_cases ha:s.nx=.again
  ·have op:=o.ph
   rw [ha] at op
   have:=cs.link .again (Ok cs b0 hZ hw he ⟨hag s (List.mem_cons_self ..) ha,o.es⟩ o.met.ref op (g:=g) (C2 o.ended ha []) hR)
   rw [ha]
   exact this
  ·have e1:=zG (g:=g) o.ended ha [] (.inl rfl)
   rw [e1] at hR
   refine P0 cs b0 hZ hw he o ha hg fun w' e' M h' c ok=>?_
   exact hR _ M h' c ⟨w',e',rfl,ok.1,ok.2⟩
 | s::k::r,v,hv,o,hag=>by
  obtain ⟨w,e,v',rfl,hw,he,hv⟩ :=hv
  intro h R b0 hR
  have ih:=Oy.all cs hZ hg hv o.2 fun s hs=>hag s (List.mem_cons_of_mem _ hs)
  refine cs.KI (Ei (Q:=fun _ _ _=>True) rfl o.1.ended b0 (fun h R b0 hR=>?_) hR)
  rw [o.1.nx]
  have e1:fP (s::k::r) g=uU s (fP (k::r) g):=BI o.1.ended o.1.nx r
  rw [e1] at hR
  exact cs.link .lU (FQ cs b0 hw he o.1.es ih (s0 o.2) hR)
end
end Go.En
namespace Go.En
def Mr (a b:Int):Int:=((BitVec.ofInt 64 a&&& BitVec.ofInt 64 b).toInt)
def W8 (a b:Int):Int:=((BitVec.ofInt 64 a||| BitVec.ofInt 64 b).toInt)
def Yy (a b:Int):Int:=((BitVec.ofInt 64 a&&& ~~~ BitVec.ofInt 64 b).toInt)
abbrev lP:Int:=376
inductive Nc where
 | look
 | swap (i:Nat) (w:W3)
 | done (i:Nat)
 | full
abbrev ML:Type:=Nc × Ac × Bool
def gH (w:W3):Nat→Nat→ML
 | 0,_=>(.full,mL,true)
 | k+1,i=>if Mr w.v (2 ^ i)=0 then (.swap i w,⟨6,lP,w,⟨W8 w.v (2 ^ i),w.dN,w.ref⟩⟩,false) else gH w k (i+1)
def kU:Nc→iM→ML
 | .look,g=>gH g.w 4 0
 | .swap i _,g=>if g.ok=true then (.done i,mL,true) else gH g.w 4 0
 | .done i,_=>(.done i,mL,true)
 | .full,_=>(.full,mL,true)
inductive QH where
 | look
 | swap (w:W3)
 | done (bad:Bool)
abbrev Qc:Type:=QH × Ac × Bool
def jP (b:Nat) (w:W3):Qc:=
 if Mr w.v (2 ^ b)=0 then (.done true,mL,true) else (.swap w,⟨6,lP,w,⟨Yy w.v (2 ^ b),w.dN,w.ref⟩⟩,false)
def kO (b:Nat):QH→iM→Qc
 | .look,g=>jP b g.w
 | .swap _,g=>if g.ok=true then (.done false,mL,true) else jP b g.w
 | .done x,_=>(.done x,mL,true)
inductive BP where
 | take (k:Nc)
 | looked
 | rel (op:Bool)
 | Hz (op:Bool)
 | Hy (op:Bool)
 | fill
 | uB
 | RH
 | zL (hs:List Hs)
 | zf (b:Nat) (k:QH)
 | over
structure Bk where
 fO:Bool
 es:List Et
 s8:Nat
 seq:Int
 i:Nat
 done:Bool
 bad:Int
 ph:BP
abbrev BR:Type:=Bk × Ac × Bool
def Bk.who (s:Bk):Int:=9+s.s8
def Bk.at' (s:Bk):Int:=lC s.s8
def JM (s:Bk):BR:=({s with ph:=.over},mL,true)
def EG (s:Bk):BR:=({s with ph:=.zf s.s8 .look},⟨5,lP,W0,W0⟩,false)
def DK (s:Bk) (z:Int) (op:Bool):BR:=({s with ph:=.rel op},⟨4,s.at',W0,⟨z,s.seq,0⟩⟩,false)
def D4 (s:Bk) (i:Nat):W3:=
 if i=0 then ⟨s.es.length,0,0⟩ else
  let e:=s.es.getD ((i - 1) / 3) HB
  if (i - 1) % 3=0 then CV e else if (i - 1) % 3=1 then Cu e else Cg e
def BX (s:Bk):Nat:=1+3*s.es.length
def K9 (s:Bk):BR:=DK s 0 true
def vi (s:Bk):BR:=
 let a:=s.at' / 8*8+s.i*8
 if s.at'+BX s<a then ({s with ph:=.RH},⟨8,0,W0,W0⟩,false)
 else ({s with i:=s.i+1,ph:=.uB},⟨7,max a (s.at'+1),W0,W0⟩,false)
def yk (s:Bk):BR:=
 if s.i<BX s then ({s with i:=s.i+1,ph:=.fill},⟨3,s.at'+1+s.i,W0,D4 s s.i⟩,false)
 else if s.fO=true then vi {s with i:=0} else K9 s
def K8 (s:Bk):BR:=({s with ph:=.zL [{Hs.new (eU s.who s.seq) s.fO with nx:=.first}]},⟨5,s.at',W0,W0⟩,false)
def sS (s:Bk) (op:Bool):BR:=if op=true then K8 s else yk s
def xw (s:Bk) (w:W3):BR:=
 if 16777215≤w.dN then EG {s with bad:=9} else DK {s with seq:=w.dN+1} 3 false
def dG (s:Bk) (g:iM):BR:=
 match s.ph with
 | .take k=>match kU k g with
  | (.done i,_,true)=>({s with s8:=i,ph:=.looked},⟨5,lC i,W0,W0⟩,false)
  | (_,_,true)=>JM {s with bad:=9}
  | (k,a,false)=>({s with ph:=.take k},a,false)
 | .looked=>xw s g.w
 | .rel op=>if s.fO=true then ({s with ph:=.Hz op},⟨7,s.at',W0,W0⟩,false) else sS s op
 | .Hz op=>({s with ph:=.Hy op},⟨8,0,W0,W0⟩,false)
 | .Hy op=>sS s op
 | .fill=>yk s
 | .uB=>vi s
 | .RH=>K9 s
 | .zL hs=>match fP hs g with
  | (hs,a,false)=>({s with ph:=.zL hs},a,false)
  | (hs,_,true)=>EG {s with done:=match hs with | h::_=>decide (h.dN=1) | []=>false}
 | .zf b k=>match kO b k g with
  | (k,a,false)=>({s with ph:=.zf b k},a,false)
  | (_,_,true)=>JM s
 | .over=>(s,mL,true)
def Ba (fO:Bool) (es:List Et):Bk:=⟨fO,es,0,0,0,false,0,.take .look⟩
inductive SP where
 | uI
 | last (hs:List Hs)
 | Dw (l:List Ac)
 | own (hs:List Hs)
 | EV
 | ES (w:W3) (hs:List Hs)
 | FR
 | FH
 | send (l:List Ac) (ok:Bool)
 | over (ok:Bool)
structure Sw where
 t:Nat
 seq:Int
 fO:Bool
 es:List Et
 ph:SP
abbrev SR:Type:=Sw × Ac × Bool
def Na (s:Sw) (ok:Bool):SR:=({s with ph:=.over ok},mL,true)
def pW (s:Sw) (l:List Int):List Ac:=if s.fO=true then l.map (fun p=>⟨7,p,W0,W0⟩)++[⟨8,0,W0,W0⟩] else []
def dS (es:List Et):List W3:=⟨es.length,0,0⟩::es.flatMap fun e=>[CV e,Cu e,Cg e]
def kS:List W3→Int→List Ac
 | [],_=>[]
 | w::r,p=>⟨3,p,W0,w⟩::kS r (p+1)
def gW (a:Int) (n:Nat):List Int:=((List.range n).map fun (i:Nat)=>a+1+(i:Int)).filter fun p=>decide (p=a+1∨p % 8=0)
def Tm (s:Sw):Int:=m5 s.t
def lW (s:Sw):List Ac:=
 let a:=Tm s
 let f:=dS s.es
 ⟨4,a,W0,⟨3,s.seq,0⟩⟩::pW s [a]++kS f (a+1)++pW s (gW a f.length)++[⟨4,a,W0,⟨0,s.seq,0⟩⟩]++pW s [a]
def Rn (s:Sw):SR:=({s with ph:=.own [{Hs.new (eU s.t s.seq) s.fO with nx:=.first}]},⟨5,bF s.t,W0,W0⟩,false)
def IZ (s:Sw):List Ac→SR
 | []=>Rn s
 | a::l=>({s with ph:=.Dw l},a,false)
def z6 (s:Sw):SR:=IZ s (lW s)
def xx (s:Sw) (w:W3):SR:=
 if s.seq≤w.dN then Na s false
 else if IQ s.t w.dN=false∨¬(w.v=0∨w.v=1) then z6 s
 else ({s with ph:=.last [{Hs.new (eU s.t w.dN) s.fO with nx:=.first}]},⟨5,bF s.t,W0,W0⟩,false)
def sE (s:Sw):Et:=s.es.getD 0 HB
def Th (s:Sw):SR:=({s with ph:=.EV},⟨5,(sE s).at',W0,W0⟩,false)
def PL (s:Sw) (ok:Bool):List Ac→SR
 | []=>Na s ok
 | a::l=>({s with ph:=.send l ok},a,false)
def WI (s:Sw) (w:W3):SR:=
 if ¬cZ w.ref=0∧0≤bF (cZ w.ref) then ({s with ph:=.ES w [{Hs.new w.ref s.fO with nx:=.first}]},⟨5,bF (cZ w.ref),W0,W0⟩,false)
 else if ¬w=(sE s).old then PL s false (pW s [(sE s).at'])
 else ({s with ph:=.FH},⟨6,(sE s).at',w,⟨(sE s).new,(w.dN+1) % 4294967296,0⟩⟩,false)
def M4 (hs:List Hs):Int:=match hs with | h::_=>h.dN | []=>0
def j8 (s:Sw) (g:iM):SR:=
 match s.ph with
 | .uI=>xx s g.w
 | .last hs=>match fP hs g with
  | (hs,a,false)=>({s with ph:=.last hs},a,false)
  | (_,_,true)=>z6 s
 | .Dw l=>IZ s l
 | .own hs=>match fP hs g with
  | (hs,a,false)=>({s with ph:=.own hs},a,false)
  | (hs,_,true)=>Na s (decide (M4 hs=1))
 | .EV=>WI s g.w
 | .ES w hs=>match fP hs g with
  | (hs,a,false)=>({s with ph:=.ES w hs},a,false)
  | (hs,_,true)=>if ¬M4 hs=4 then Th s else ({s with ph:=.FR},⟨6,(sE s).at',w,⟨w.v,w.dN,0⟩⟩,false)
 | .FR=>Th s
 | .FH=>if g.ok=true then PL s true (pW s [(sE s).at']) else WI s g.w
 | .send l ok=>PL s ok l
 | .over ok=>(s,mL,true)
def J8 (t:Nat) (seq:Int) (fO:Bool) (es:List Et):Sw:=⟨t,seq,fO,es,.uI⟩
def Qn (fO:Bool) (e:Et):Sw:=⟨0,0,fO,[e],.EV⟩
inductive PP where
 | found
 | zL (hs:List Hs)
 | back
 | flush
 | last
 | over
structure Pk where
 fO:Bool
 at':List Int
 i:Nat
 rounds:Nat
 now:List W3
 was:List W3
 held:W3
 ph:PP
abbrev PR:Type:=Pk × Ac × Bool
def pAt (s:Pk):Int:=s.at'.getD s.i 0
def Ll (s:Pk):PR:=({s with ph:=.found},⟨5,pAt s,W0,W0⟩,false)
def Oi (s:Pk):PR:=
 if s.i<s.at'.length then ({s with i:=s.i+1,ph:=.flush},⟨7,pAt s,W0,W0⟩,false)
 else ({s with ph:=.last},⟨8,0,W0,W0⟩,false)
def WH (s:Pk):PR:=({s with ph:=.over},mL,true)
def VT (a b:List W3):Bool:=(a.zip b).all fun x=>decide (x.1=x.2)
def TF (s:Pk):PR:=
 let s:={s with rounds:=s.rounds+1}
 if s.rounds<2∨VT s.was s.now=false then Ll {s with was:=s.now,now:=[],i:=0}
 else if s.fO=true then Oi {s with i:=0} else WH s
def U9 (s:Pk) (w:W3):PR:=
 if 0<cZ w.ref∧0≤bF (cZ w.ref) then ({s with held:=w,ph:=.zL [{Hs.new w.ref s.fO with nx:=.first}]},⟨5,bF (cZ w.ref),W0,W0⟩,false)
 else
  let s:={s with now:=s.now++[w],i:=s.i+1}
  if s.i<s.at'.length then Ll s else TF s
def XO (s:Pk) (g:iM):PR:=
 match s.ph with
 | .found=>U9 s g.w
 | .zL hs=>match fP hs g with
  | (hs,a,false)=>({s with ph:=.zL hs},a,false)
  | (hs,_,true)=>if ¬M4 hs=4 then Ll s else ({s with ph:=.back},⟨6,pAt s,s.held,⟨s.held.v,s.held.dN,0⟩⟩,false)
 | .back=>Ll s
 | .flush=>Oi s
 | .last=>WH s
 | .over=>(s,mL,true)
def ZY (fO:Bool) (l:List Int):Pk:=⟨fO,l,0,0,[],[],W0,.found⟩
structure Pt where
 cell:Nat
 more:Int
 wr:Bool
structure m9 where
 d:Nat
 ps:List Pt
inductive Cd where
 | sw (s:Sw)
 | bl (s:Bk)
 | pk (s:Pk)
structure Cn where
 t:Nat
 seq:Int
 fO:Bool
 ops:List m9
 seen:List W3
 now:Option Cd
 done:List Bool
 OD:List Int
 broken:Bool
abbrev CR:Type:=Cn × Ac × Bool
def ptL (ps:List Pt):List Pt:=(List.range 6).filterMap fun i=>ps.find? fun p=>p.cell % 6 == i
def dY (o:m9):List Pt:=if o.d % 4=2 then (ptL o.ps).take 1 else ptL o.ps
def eJ (p:Pt):Int:=56+((p.cell % 6:Nat):Int)
def AB (p:Pt) (w:W3):Et:=⟨eJ p,⟨w.v,w.dN,0⟩,if p.wr=true then BA (w.v+p.more) else w.v,p.wr⟩
def fQ (l:List Pt) (seen:List W3):List Et:=(l.zip seen).map fun x=>AB x.1 x.2
def mE:Cd→iM→Cd × Ac × Bool
 | .sw s,g=>let r:=j8 s g; (.sw r.1,r.2)
 | .bl s,g=>let r:=dG s g; (.bl r.1,r.2)
 | .pk s,g=>let r:=XO s g; (.pk r.1,r.2)
def vz:Cd→Bool
 | .sw s=>match s.ph with | .over ok=>ok | _=>false
 | .bl s=>s.done
 | .pk _=>false
def KU:Cd→List Int
 | .pk s=>[s.now.foldl (fun n w=>BA (n+w.v)) 0]
 | _=>[]
def Rj:List Et→Bool
 | a::b::r=>decide (a.at'<b.at')&&Rj (b::r)
 | _=>true
def Gu (es:List Et):Int:=
 if ¬lR es=0 then lR es else if 10<es.length then 15 else if Rj es=false then 12 else if es.all (fun e=>qD e.at')=false then 10 else 0
def GI (t:Nat) (seq:Int) (es:List Et):Int:=
 if t<1∨3<t∨seq<1∨16777215<seq then 3 else if ¬lR es=0 then lR es else if kV es=false then 12 else if es.any (fun e=>!qD e.at')=true then 10 else 0
def Ri (e:Et):Int:=if ¬lR [e]=0 then lR [e] else if e.wr=false then 2 else if qD e.at'=false then 10 else 0
def tf (c:Cn) (o:m9) (l:List Pt) (seen:List W3):Option Cn × Ac:=
 let es:=fQ l seen
 let c:={c with seen:=[]}
 if o.d % 4=1 then (if Gu es=0 then some {c with now:=some (.bl (Ba c.fO es))} else none,⟨5,lP,W0,W0⟩)
 else if o.d % 4=2∧(l.getD 0 ⟨0,0,false⟩).wr=true then (if Ri (es.getD 0 HB)=0 then some {c with now:=some (.sw (Qn c.fO (es.getD 0 HB)))} else none,⟨5,(es.getD 0 HB).at',W0,W0⟩)
 else (if GI c.t (c.seq+1) es=0 then some {c with seq:=c.seq+1,now:=some (.sw (J8 c.t (c.seq+1) c.fO es))} else none,⟨5,m5 c.t,W0,W0⟩)
def oG:List m9→List m9
 | []=>[]
 | o::r=>if o.ps=[] then oG r else o::r
def mC (c:Cn) (g:iM):CR:=
 match oG c.ops with
 | []=>({c with ops:=[]},mL,true)
 | o::r=>
  let c:={c with ops:=o::r}
  if c.broken=true then (c,mL,true) else
  let l:=dY o
  if o.d % 4=3 then ({c with now:=some (.pk (ZY c.fO (l.map eJ)))},⟨5,(l.map eJ).getD 0 0,W0,W0⟩,false)
  else
   let seen:=if c.seen=[] then [] else c.seen.dropLast++[g.w]
   if seen.length<l.length then ({c with seen:=seen++[W0]},⟨5,(l.map eJ).getD seen.length 0,W0,W0⟩,false)
   else match tf c o l seen with
    | (some c,a)=>(c,a,false)
    | (none,_)=>({c with broken:=true},mL,true)
def uT (c:Cn) (d:Cd) (g:iM):CR:=
 match mE d g with
 | (d,a,false)=>({c with now:=some d},a,false)
 | (d,_,true)=>mC {c with done:=c.done++[vz d],OD:=c.OD++KU d,ops:=c.ops.tail,now:=none} qY
def kL (c:Cn) (g:iM):CR:=
 match c.now with
 | some d=>uT c d g
 | none=>mC c g
end Go.En
namespace Go.En
variable {S:Sys} {I:aZ} {h h0 h':Hp} {F F0:Fp} {R:Value→Hp→Prop} {L:List bQ} {B B':Bs}
theorem VS (a b:Int):bin .and (.int .i64 a) (.int .i64 b)=some (.int .i64 (Mr a b)):=by
 show some (Value.int .i64 (IntKind.i64.wrap (((BitVec.ofInt 64 a&&& BitVec.ofInt 64 b).toNat:Nat):Int)))=_
 congr 2
 unfold Mr
 rw [BitVec.toInt_eq_toNat_bmod,IntKind.wrap_i64,Int.bmod_def]
 have:=(BitVec.ofInt 64 a&&& BitVec.ofInt 64 b).isLt
 split <;> omega
theorem orB (a b:Int):bin .or (.int .i64 a) (.int .i64 b)=some (.int .i64 (W8 a b)):=by
 show some (Value.int .i64 (IntKind.i64.wrap (((BitVec.ofInt 64 a||| BitVec.ofInt 64 b).toNat:Nat):Int)))=_
 congr 2
 unfold W8
 rw [BitVec.toInt_eq_toNat_bmod,IntKind.wrap_i64,Int.bmod_def]
 have:=(BitVec.ofInt 64 a||| BitVec.ofInt 64 b).isLt
 split <;> omega
theorem anB (a b:Int):bin .andNot (.int .i64 a) (.int .i64 b)=some (.int .i64 (Yy a b)):=by
 show some (Value.int .i64 (IntKind.i64.wrap (((BitVec.ofInt 64 a&&& ~~~ BitVec.ofInt 64 b).toNat:Nat):Int)))=_
 congr 2
 unfold Yy
 rw [BitVec.toInt_eq_toNat_bmod,IntKind.wrap_i64,Int.bmod_def]
 have:=(BitVec.ofInt 64 a&&& ~~~ BitVec.ofInt 64 b).isLt
 split <;> omega
abbrev pT (f r:Nat):Value:=.func (.func f) #[] #[cA r]
abbrev zD (p:SH) (b e:Int) (d:Bool) (n:Value):List Value:=[.int .i64 3,.int .i64 6,.int .i64 4,aX p,.int .i64 b,.int .i64 e,.bool d,n]
def G7 (I:aZ) (B:Bs) (W:bQ) (v:Value):Nc→Prop
 | .look=>W=aG []∧∃p b r n n',v=.agg ⟨zD p b 0 false n'⟩ ∧n'=pT I.cL r∧(On B fun h=>Sl DL h (aX p) [((0:Int),(4:Int))])∧(On B fun h=>∃F,(rV r (zD p b 0 false n)).P h F)
 | .swap i _=>i<4∧∃p r,v=.agg ⟨zD p i 0 false (pT I.cQ r)⟩ ∧W=rV r (zD p i 0 false (pT I.cQ r))∧(On B fun h=>Sl DL h (aX p) [((0:Int),(4:Int))])
 | .done i=>i<4∧W=aG []∧∃p n,v=.agg ⟨zD p i 0 true n⟩ ∧n.oneCell'=true
 | .full=>W=aG []∧∃p b n,v=.agg ⟨zD p b 9 true n⟩ ∧n.oneCell'=true
theorem Cx.Db (c:Cx F0 h0 h L):Cx F0 h0 h (L++[aG []]):=(Cx.pack (L:=L) (M:=[]) (by rw [List.append_nil]; exact c))
structure XF (S:Sys) (I:aZ):Prop extends V5 S I where
 wJ:∀{B:Bs} {g:iM} {hs:List Hs} {v:Value},On B Zs→Ww g.w→B2 I B hs v→Gv hs→(∀s∈hs,s.nx=.again→s.i<s.es.length)→Oy S I B v g (fP hs g)
section
variable {p:SH} {b:Int} {n:Value} {w:W3} {g:iM}
theorem OG (cs:XF S I) (Z:Zs h) {ps:List (Int × Int)} (hps:ps=[(0,4)]∨ps=[]) (hn:n.oneCell'=true) (hp:Sl DL h (aX p) ps)
  (h1:ps=[(0,4)]→∀r h',Cx (fun _=>False) h h' [rV r (zD p b 0 false (pT I.cL r))]→R (.tuple #[.iface I.bA (.agg ⟨zD p b 0 false (pT I.cL r)⟩),nJ ⟨5,lP,W0,W0⟩,.bool false]) h')
  (h2:ps=[]→∀h',Gr h h'→R (.tuple #[.iface I.bA (.agg ⟨zD p b 9 true n⟩),nJ mL,.bool true]) h') :
  oI S I (.agg ⟨zD p b 0 false n⟩) h R:=by
 rcases hps with rfl | rfl
 ·have hx:([((0:Int),(4:Int))]:List (Int × Int))[0]?=some (0,4):=rfl
  unfold oI
  have c:=Cx.aA h
  refine c.v8 fun _ _ c=>?_
  refine c.v8 fun _ _ c=>?_
  refine aD<|c.rc 0 ?_
  refine vx (hp.gr c.gr).ln<|vx (m6 (by decide))<|bD<|aD<|vx (c.vp (i:=0) (ds:=[_,_,_]) rfl rfl rfl)<|aD<|c.rc 0 ?_
  refine (hp.gr c.gr).A4 (j:=0) rfl hx rfl (u:=.int .i64 0) rfl ?_
  refine cs.FV (i:=0) (by decide) _ _ (Z.gr c.gr) fun _ g=>?_
  have c:=c.more g
  refine vx rfl<|vx rfl<|vx rfl<|aD<|c.q8 0 fun _ c=>?_
  refine c.rl 0 ?_
  refine vx rfl<|vx (aL (ds:=[_,_,_,_,_,_,_,_]) rfl)<|c.w8 1 fun _ c=>?_
  refine c.rl 1 ?_
  exact h1 rfl _ _ (c.pick [0])
 ·unfold oI
  have c:=Cx.aA h
  refine c.v8 fun _ _ c=>?_
  refine c.v8 fun _ _ c=>?_
  refine aD<|c.rc 0 ?_
  refine vx (hp.gr c.gr).ln<|vx (qu rfl)<|eR<|aD<|c.q8 0 fun _ c=>?_
  refine aD<|c.q8 0 fun _ c=>?_
  refine c.rl 0 ?_
  refine vx rfl<|vx (aL (ds:=[_,_,_,_,_,_,_,_]) rfl)<|c.w8 1 fun _ c=>?_
  refine c.rl 1 ?_
  exact h2 rfl _ c.gr
end
end Go.En
namespace Go.En
variable {S:Sys} {I:aZ} {h h0 h':Hp} {F F0:Fp} {R:Value→Hp→Prop} {L:List bQ} {B B':Bs}
def CE (t:TypeId) (F:Fp) (h:Hp) (B:Bs) (V:Bs→bQ→Value→Prop) (a:Ac) (d:Bool) (R:Value→Hp→Prop):Prop:=
 ∀v W M h',Cx F h h' [W,aG M]→V (B.and M) W v→R (.tuple #[.iface t v,nJ a,.bool d]) h'
abbrev AU:Fp:=fun _=>False
structure Zg (S:Sys) (I:aZ):Prop extends XF S I where
 KA:∀{p:SH} {b:Int} {n:Value} {ps:List (Int × Int)} {h} {R:Value→Hp→Prop},Zs h→ps=[(0,4)]∨ps=[]→n.oneCell'=true→Sl DL h (aX p) ps→
  (ps=[(0,4)]→∀r h',Cx (fun _=>False) h h' [rV r (zD p b 0 false (pT I.cL r))]→R (.tuple #[.iface I.bA (.agg ⟨zD p b 0 false (pT I.cL r)⟩),nJ ⟨5,lP,W0,W0⟩,.bool false]) h')→
  (ps=[]→∀h',Gr h h'→R (.tuple #[.iface I.bA (.agg ⟨zD p b 9 true n⟩),nJ mL,.bool true]) h')→S.C I.l7 [.agg ⟨zD p b 0 false n⟩] h R
section
variable {p:SH} {b:Int} {n:Value} {w:W3} {g:iM}
theorem JH {w:W3} {i:Nat} (h:i<4):gH w (4 - i) i=if Mr w.v (2 ^ i)=0 then (.swap i w,⟨6,lP,w,⟨W8 w.v (2 ^ i),w.dN,w.ref⟩⟩,false) else gH w (4 - (i+1)) (i+1):=by
 rw [show 4 - i=(4 - (i+1))+1 by omega,gH]
theorem LX (cs:Zg S I) (b0:B.p h) (hZ:On B Zs) (hn:n.oneCell'=true) (hp:On B fun h=>Sl DL h (aX p) [((0:Int),(4:Int))])
  (hR:CE I.bA AU h B (fun B W v=>G7 I B W v (gH w 4 0).1) (gH w 4 0).2.1 (gH w 4 0).2.2 R):qE S I (.agg ⟨zD p b 0 false n⟩) (mW w) h R:=by
 obtain ⟨wv,wq,wr⟩ :=w
 have hx:([((0:Int),(4:Int))]:List (Int × Int))[0]?=some (0,4):=rfl
 have pw:∀{i:Nat},i<4→Nf (2 ^ i):=fun {i} hi=>by
  match i,hi with
  | 0,_=>exact ⟨by decide,by decide⟩
  | 1,_=>exact ⟨by decide,by decide⟩
  | 2,_=>exact ⟨by decide,by decide⟩
  | 3,_=>exact ⟨by decide,by decide⟩
  | i+4,h=>omega
 obtain ⟨u,eu,Hu,_⟩ :=(hp h b0).sub (n:=2) rfl (lo:=some (.int .i64 1)) (hi:=none) (l:=1) (u:=1) (.inr ⟨_,_,rfl,rfl⟩) (.inl ⟨rfl,rfl⟩) (Nat.le_refl _) (Nat.le_refl _)
 obtain ⟨p2,rfl⟩:∃p2:SH,u=aX p2:=by
  obtain ⟨a,cap,e,_⟩ :=Hu
  exact ⟨(a,_,cap),e⟩
 unfold qE
 have c:=Cx.aA h
 refine c.v8 fun c2_ _ c=>?_
 refine c.v3 fun w3_ _ c=>?_
 refine c.v8 fun v5_ _ c=>?_
 refine aD<|c.rc 0 ?_
 refine (hp _ (B.up b0 c.gr)).A4 (j:=0) rfl hx rfl (u:=.int .i64 0) rfl ?_
 refine xN.by (fun (i:Nat) z h'=>z=.int .i64 i∧i≤4∧gH ⟨wv,wq,wr⟩ 4 0=gH ⟨wv,wq,wr⟩ (4 - i) i∧Cx (fun _=>False) h h' [rV c2_ (zD p b 0 false n),rV w3_ [.int .i64 wv,.int .u32 wq,.int .u32 wr],rV v5_ [_,_,_,_,_,_,_,_]]) (fun i=>4 - i) 0 ⟨rfl,Nat.zero_le _,rfl,c⟩ ?_
 rintro i _ h4 ⟨rfl,hi,htk,c⟩ again hagain
 refine aD<|c.rc 0 ?_
 refine (hp _ (B.up b0 c.gr)).A4 (j:=1) rfl hx rfl (u:=.int .i64 4) rfl ?_
 refine vx cH<|pC (fun e21=>?_) fun e21=>?_
 ·refine aD<|vx (c.vp (i:=0) (ds:=[_,_,_]) rfl rfl rfl) ?_
  have hi4:i<4:=by omega
  refine cs.FV (i:=i) hi4 _ _ (hZ _ (B.up b0 c.gr)) fun _ g=>?_
  have c:=c.more g
  have htk':=htk.trans (JH hi4)
  refine vx rfl<|vx rfl<|aD<|c.rc 1 ?_
  refine vx (VS _ _)<|vx pJ<|pC (fun e35=>?_) fun e35=>?_
  ·refine vx (inc (by omega))<|hagain (i+1) _ _ ⟨rfl,by omega,?_,c⟩ (by omega)
   rw [htk',if_neg e35]
  ·refine aD<|c.q8 0 fun _ c=>?_
   refine vx rfl<|aD<|c.q8 0 fun _ c=>?_
   refine c.rl 0 ?_
   refine vx rfl<|c.rl 1 ?_
   refine aD<|c.rc 1 ?_
   refine vx (orB _ _)<|aD<|c.rc 1 ?_
   refine aD<|c.rc 1 ?_
   refine vx (aL (ds:=[_,_,_]) rfl)<|vx (aL (ds:=[_,_,_,_,_,_,_,_]) rfl)<|c.w8 2 fun _ c=>?_
   refine c.rl 2 ?_
   have e:gH ⟨wv,wq,wr⟩ 4 0=(.swap i ⟨wv,wq,wr⟩,⟨6,lP,⟨wv,wq,wr⟩,⟨W8 wv (2 ^ i),wq,wr⟩⟩,false):=by rw [htk',if_pos (Decidable.not_not.1 e35)]
   rw [e] at hR
   exact hR _ (rV c2_ (zD p i 0 false (pT I.cQ c2_))) [] _ ((c.pick [0]).Db) ⟨hi4,p,c2_,rfl,rfl,hp.le (Bs.aR _ _)⟩
 ·refine aD<|c.rc 0 ?_
  obtain rfl:i=4:=by omega
  refine vx eu<|aD<|c.q8 0 fun _ c=>?_
  refine c.rl 0 ?_
  refine cs.KA (p:=p2) (b:=b) (n:=n) (hZ _ (B.up b0 c.gr)) (ps:=[]) (.inr rfl) hn ?_ (fun x=>by cases x) fun _ _ g=>?_
  ·exact Hu.gr c.gr
  have c:=c.more g
  refine c.t8 2 fun _ c=>?_
  have e:gH ⟨wv,wq,wr⟩ 4 0=(.full,mL,true):=htk
  rw [e] at hR
  exact hR _ (aG []) [] _ (Cx.Db (L:=[aG []]) (Cx.Db (L:=[]) (c.pick []))) ⟨rfl,p2,b,n,rfl,hn⟩
end
end Go.En
namespace Go.En
variable {S:Sys} {I:aZ} {h h0 h':Hp} {F F0:Fp} {R:Value→Hp→Prop} {L:List bQ} {B B':Bs}
def WL (S:Sys) (f:Nat) (t:TypeId) (B:Bs) (W:bQ) (v:Value) (g:iM) (V:Bs→bQ→Value→Prop) (a:Ac) (d:Bool):Prop:=
 ∀h F (R:Value→Hp→Prop),Cx F h h [W]→(∀h',Ch F h h'→B.p h')→CE t F h B V a d R→S.C f [v,k6 g] h R
structure CyC (S:Sys) (I:aZ):Prop extends Zg S I where
 Hg:∀{B:Bs} {p:SH} {b:Int} {n:Value} {w:W3} {h} {R:Value→Hp→Prop},B.p h→On B Zs→n.oneCell'=true→(On B fun h=>Sl DL h (aX p) [((0:Int),(4:Int))])→
  CE I.bA AU h B (fun B W v=>G7 I B W v (gH w 4 0).1) (gH w 4 0).2.1 (gH w 4 0).2.2 R→S.C I.lx [.agg ⟨zD p b 0 false n⟩,mW w] h R
 tkl:∀{x y:Value} {h R},mP S I x y h R→S.C I.cL [x,y] h R
 tkf:∀{x y:Value} {h R},kh S I x y h R→S.C I.cQ [x,y] h R
 tkT:∀{x y:Value} {h R},rB S I x y h R→S.C I.dK [x,y] h R
def Fr (B:Bs) (r:Nat) (cs:List Value):Prop:=On B fun h=>∃F,(rV r cs).P h F
theorem Fr.le {r:Nat} {cs:List Value} (H:Fr B r cs) (l:B.le B'):Fr B' r cs:=On.le H l
theorem rV.ld {r n:Nat} {cs:List Value} {F:Fp} (p:(rV r cs).P h F) (hn:n=cs.length):aF n (cA r) h=some (.agg ⟨cs⟩):=let ⟨⟨_,v⟩,_⟩ :=p; v.whole hn
theorem rV.lc {r o:Nat} {cs:List Value} {F:Fp} {u:Value} (p:(rV r cs).P h F) (hu:cs[o]?=some u):dU (.pointer (some ⟨r,o,none⟩)) h=some u:=by
 obtain ⟨⟨_,v⟩,_⟩ :=p
 have:=v.row.dU (j:=o) hu
 rwa [Nat.zero_add] at this
theorem Fr.ld {r n:Nat} {cs:List Value} (H:Fr B r cs) (b:B.p h) (hn:n=cs.length):aF n (cA r) h=some (.agg ⟨cs⟩):=let ⟨_,p⟩ :=H h b; rV.ld p hn
theorem Fr.of {M:List bQ} {r:Nat} {cs:List Value} {i:Nat} (hi:M[i]?=some (rV r cs)):Fr (B.and M) r cs:=On.of hi
theorem G7.le (l:B.le B') {W:bQ} {v:Value}:∀{k:Nc},G7 I B W v k→G7 I B' W v k
 | .look,⟨a,p,b,r,n,n',c,d,e,f⟩ =>⟨a,p,b,r,n,n',c,d,On.le e l,On.le f l⟩
 | .swap _ _,⟨a,p,r,b,c,d⟩ =>⟨a,p,r,b,c,On.le d l⟩
 | .done _,x=>x
 | .full,x=>x
theorem CE.of0 {t:TypeId} {V:Bs→bQ→Value→Prop} {a:Ac} {d:Bool} {h1:Hp} {R:Value→Hp→Prop} (c:Cx F h h1 L) (H:CE t F h B V a d R):CE t AU h1 B V a d R:=fun v W M h' c' ok=>
 H v W M h' ((c.aE c').perm List.perm_append_comm |>.drop) ok
theorem Cx.vA (c:Cx F h0 h L) {i:Nat} {A:bQ} (hi:L[i]?=some A):∃F',Cx F' h h [A]∧(∀h2,Ch F' h h2→Ch F h0 h2)∧∀{h':Hp} {A':bQ} {M:List bQ},Cx F' h h' (A'::M)→Cx F h0 h' (L.set i A'++M):=by
 obtain ⟨F',c1,hg,_,up⟩ :=c.O6 hi
 refine ⟨F',c1,fun h2 ch=>⟨Nat.le_trans c.gr.size ch.size,fun r hr hn=>?_⟩,up⟩
 rw [ch.same r (Nat.lt_of_lt_of_le hr c.gr.size) (fun e=>(hg r e).elim hn (fun x=>by omega)),c.gr.same r hr hn]
section
variable {p:SH} {b:Int} {n:Value} {w:W3} {g:iM}
theorem LG (cs:XF S I) (Z:Zs h) (hb:0≤b∧b<4) (hR:∀h',Gr h h'→R (.int .i64 0) h'):vI S I vL (.int .i64 b) h R:=by
 unfold vI
 have c:=Cx.aA h
 refine c.v3 fun _ _ c=>?_
 refine c.rl 0 ?_
 refine cs.check _ _ (Z.gr c.gr) fun _ g=>?_
 have c:=c.more g
 refine vx (v:=.bool false) rfl<|bD ?_
 refine .here<|vx (iZ (by omega))<|bD<|aD<|c.rc 0 ?_
 exact vx (o8 (show ¬(4:Int)≤b by omega))<|bD<|hR _ c.gr
theorem LP (hR:∀p h',Cx (fun _=>False) h h' [dA DL (aX p) [((0:Int),(4:Int))]]→R (aX p) h'):vK S I (.int .i64 4) (.int .i64 0) h R:=by
 have lem:∀(p:SH) h',Cx (fun _=>False) h h' [dA DL (aX p) [((0:Int),(4:Int))]]→Az (aX p) (.int .i64 0) h' fun out5_1 at8 h4 again1=>
   Vb (bin .lss at8 (.int .i64 0)) fun v29=>Br v29 (
   Vb (bin .quo at8 (Value.int IntKind.i64 32)) fun v32=>
   Vb (bin .add v32 (Value.int IntKind.i64 1)) fun v33=>
   Vb (bin .mul v33 (Value.int IntKind.i64 32)) fun v34=>
   Vb (mn (.int .i64 0) v34) fun v35=>
   Vb (bG [(0,1),(1,1)] #[Value.int IntKind.i64 0,Value.int IntKind.i64 0] [(0,at8),(1,v35)]) fun v39=>
   Eb (pb #[Value.int IntKind.i64 0,Value.int IntKind.i64 0] 2 1 I.nB [(0,v39)] h4) fun v40 h5=>
   Ap I.nB #[Value.int IntKind.i64 0,Value.int IntKind.i64 0] 2 16 out5_1 v40 h5 fun v41 h6=>
   again1 v41 v35 h6) (
   R out5_1 h4):=fun p h' c=>by
  refine Az.by (fun (_:Unit) u v h'=>u=aX p∧v=.int .i64 0∧Cx (fun _=>False) h h' [dA DL (aX p) [((0:Int),(4:Int))]]) (fun _=>0) () ⟨rfl,rfl,c⟩ ?_
  rintro _ _ _ h4 ⟨rfl,rfl,c⟩ again _
  refine En.vb (v:=.bool false) rfl ?_
  refine bD ?_
  exact hR p _ c
 unfold vK
 have c:=Cx.aA h
 refine Az.by (fun (i:Nat) u v h'=>(i=0∧v=.int .i64 0∧Cx (fun _=>False) h h' [dA DL u []])∨(i=1∧v=.int .i64 4∧Cx (fun _=>False) h h' [dA DL u [((0:Int),(4:Int))]])) (fun i=>1 - i) 0 (.inl ⟨rfl,rfl,c.nil DL⟩) ?_
 rintro i u v h1 hh again hagain
 rcases hh with ⟨rfl,rfl,c⟩ | ⟨rfl,rfl,c⟩
 rotate_left
 ·refine vx (v:=.bool false) rfl<|bD ?_
  obtain ⟨p,rfl⟩ :=(c.sl (i:=0) rfl).vO
  exact lem p _ c
 refine vx (v:=.bool true) rfl ?_
 replace c:=c.n1
 refine eR<|vx (v:=.int .i64 0) rfl<|vx (v:=.int .i64 1) rfl<|vx (v:=.int .i64 32) rfl<|vx (v:=.int .i64 4) rfl<|vx (aL (ds:=[_,_]) rfl)<|c.jE DL ((0:Int),(4:Int)) rfl rfl fun v24 _ c=>?_
 replace c:=c.n2
 refine c.ap 0 rfl (c.sl (i:=1) rfl).sl rfl rfl (by decide) (by decide) fun v25 _ c=>?_
 replace c:=c.n2
 exact hagain 1 _ _ _ (.inr ⟨rfl,rfl,c.pick [0]⟩) (by decide)
structure Un (S:Sys) (I:aZ):Prop extends CyC S I where
 Gz:∀{b:Int} {h} {R:Value→Hp→Prop},Zs h→0≤b∧b<4→(∀h',Gr h h'→R (.int .i64 0) h')→S.C I.qe [vL,.int .i64 b] h R
 Gl:∀{h} {R:Value→Hp→Prop},(∀p h',Cx (fun _=>False) h h' [dA DL (aX p) [((0:Int),(4:Int))]]→R (aX p) h')→S.C I.qh [.int .i64 4,.int .i64 0] h R
 Ub:I.mt I.bA "Next"=some I.mB
theorem Oo (cs:Un S I) (Z:Zs h) (hR:∀p r h',Cx (fun _=>False) h h' [dA DL (aX p) [((0:Int),(4:Int))],rV r (zD p 0 0 false (pT I.dK r))]→R (.tuple #[.iface I.bA (.agg ⟨zD p 0 0 false (pT I.dK r)⟩),.int .i64 0]) h'):xj S I vL (.int .i64 0) h R:=by
 unfold xj
 have c:=Cx.aA h
 refine c.v3 fun _ _ c=>?_
 refine c.rl 0 ?_
 refine cs.Gz (Z.gr c.gr) ⟨by decide,by decide⟩ fun _ g=>?_
 have c:=c.more g
 refine vx (v:=.bool false) rfl<|bD ?_
 refine .here<|c.rl 0 ?_
 refine aD<|c.rc 0 ?_
 refine ⟨?_,?_⟩
 ·refine cs.Gl fun p _ d=>?_
  have c:=c.aE d
  replace c:=c.n2
  refine c.al 0 ?_
  refine vx (aL (ds:=[_,_,_,_,_,_,_,_]) rfl)<|c.v8 fun _ _ c=>?_
  refine c.al 0 ?_
  refine c.w8 2 fun _ c=>?_
  refine vx rfl<|aD<|c.q8 2 fun _ c=>?_
  refine c.rl 2 ?_
  exact vx rfl<|hR p _ _ (c.pick [1,2])
 ·refine c.v8 fun _ _ c=>?_
  refine c.ac 0 ?_
  refine c.al 0 ?_
  refine cs.Gl fun p _ d=>?_
  have c:=c.aE d
  replace c:=c.n3
  refine c.al 0 ?_
  refine vx (aL (ds:=[_,_,_,_,_,_,_,_]) rfl)<|c.w8 1 fun _ c=>?_
  refine vx rfl<|aD<|c.q8 1 fun _ c=>?_
  refine c.rl 1 ?_
  exact vx rfl<|hR p _ _ (c.pick [2,1])
theorem Mt (cs:Un S I) (b0:B.p h) (hZ:On B Zs) {r:Nat} (hn:n.oneCell'=true) (hp:On B fun h=>Sl DL h (aX p) [((0:Int),(4:Int))]) (hr:Fr B r (zD p b 0 false n))
  (hR:CE I.bA AU h B (fun B W v=>G7 I B W v .look) ⟨5,lP,W0,W0⟩ false R):rB S I (k6 g) (cA r) h R:=by
 unfold rB
 have c:=Cx.aA h
 refine c.v4 fun _ _ c=>?_
 refine c.v8 fun _ _ c=>?_
 refine vx (hr.ld (B.up b0 c.gr) rfl)<|cs.KA (p:=p) (b:=b) (n:=n) (hZ _ (B.up b0 c.gr)) (.inl rfl) hn (hp _ (B.up b0 c.gr)) (fun _ r2 _ d=>?_) fun x=>by cases x
 have c:=c.aE d
 replace c:=c.n3
 refine c.t8 1 fun _ c=>?_
 exact hR _ (aG []) [rV r2 (zD p b 0 false (pT I.cL r2))] _ (Cx.pack (L:=[aG []]) ((c.pick [2]).Db.perm (List.Perm.swap ..))) ⟨rfl,p,b,r2,_,_,rfl,rfl,hp.le (Bs.aR _ _),Fr.of (i:=0) rfl⟩
theorem M7 (cs:Un S I) (b0:B.p h) (hZ:On B Zs) {r:Nat} (hn:n.oneCell'=true) (hp:On B fun h=>Sl DL h (aX p) [((0:Int),(4:Int))]) (hr:Fr B r (zD p b 0 false n))
  (hR:CE I.bA AU h B (fun B W v=>G7 I B W v (gH g.w 4 0).1) (gH g.w 4 0).2.1 (gH g.w 4 0).2.2 R):mP S I (k6 g) (cA r) h R:=by
 obtain ⟨⟨gv,gq,gr⟩,gk⟩ :=g
 unfold mP
 have c:=Cx.aA h
 refine c.v4 fun _ _ c=>?_
 refine c.v8 fun _ _ c=>?_
 refine vx (hr.ld (B.up b0 c.gr) rfl)<|aD<|vx (c.vp (i:=0) (ds:=[_,_,_]) rfl rfl rfl)<|cs.Hg (p:=p) (b:=b) (n:=n) (w:=⟨gv,gq,gr⟩) (B.up b0 c.gr) hZ hn hp fun v W M _ d ok=>?_
 have c:=c.aE d
 replace c:=c.n4
 refine c.t8 1 fun _ c=>?_
 exact hR v W M _ (c.pick [2,3]) ok
theorem JW (cs:Un S I) (hB:∀h',Ch F h h'→B.p h') (hZ:On B Zs) {r i:Nat} (hi:i<4) (hp:On B fun h=>Sl DL h (aX p) [((0:Int),(4:Int))]) (c:Cx F h h [rV r (zD p i 0 false (pT I.cQ r))])
  (hR:CE I.bA F h B (fun B W v=>G7 I B W v (kU (.swap i w) g).1) (kU (.swap i w) g).2.1 (kU (.swap i w) g).2.2 R):kh S I (k6 g) (cA r) h R:=by
 obtain ⟨⟨gv,gq,gr⟩,gk⟩ :=g
 cases gk with
 | true=>
  have e:kU (.swap i w) ⟨⟨gv,gq,gr⟩,true⟩=(.done i,mL,true):=by unfold kU; exact if_pos rfl
  rw [e] at hR
  unfold kh
  replace c:Cx _ _ _ [_]:=c
  refine c.v4 fun _ _ c=>?_
  refine c.v8 fun _ _ c=>?_
  refine aD<|c.rc 1 ?_
  refine eR<|aD<|c.q8 0 fun _ c=>?_
  refine c.rl 0 ?_
  refine vx rfl<|vx (aL (ds:=[_,_,_,_,_,_,_,_]) rfl)<|c.w8 2 fun _ c=>?_
  refine c.rl 2 ?_
  exact hR _ (aG []) [] _ (Cx.Db (L:=[aG []]) (Cx.Db (L:=[]) (c.pick []))) ⟨hi,rfl,p,_,rfl,rfl⟩
 | false=>
  have e:kU (.swap i w) ⟨⟨gv,gq,gr⟩,false⟩=gH ⟨gv,gq,gr⟩ 4 0:=by unfold kU; exact if_neg Bool.false_ne_true
  rw [e] at hR
  unfold kh
  replace c:Cx _ _ _ [_]:=c
  refine c.v4 fun _ _ c=>?_
  refine c.v8 fun _ _ c=>?_
  refine aD<|c.rc 1 ?_
  refine bD<|c.rl 0 ?_
  refine aD<|vx (c.vp (i:=1) (ds:=[_,_,_]) rfl rfl rfl)<|cs.Hg (p:=p) (b:=i) (n:=pT I.cQ r) (w:=⟨gv,gq,gr⟩) (hB _ c.gr) hZ rfl hp fun v W M _ d ok=>?_
  have c:=c.aE d
  replace c:=c.n5
  refine c.t8 2 fun _ c=>?_
  exact hR v W M _ (c.pick [3,4]) ok
def ML.live:Nc→Prop
 | .look=>True
 | .swap _ _=>True
 | _=>False
theorem FI {F:Fp}:Cx F h h [aG []]:=(Cx.Db (L:=[]) ⟨[],.nil,.refl _ _,fun G hG=>by cases hG⟩)
theorem PC (cs:Un S I) (hB:∀h',Ch F h h'→B.p h') (hZ:On B Zs) {k:Nc} {W:bQ} {v:Value} (hv:G7 I B W v k) (hk:ML.live k) (c:Cx F h h [W])
  (hR:CE I.bA F h B (fun B W v=>G7 I B W v (kU k g).1) (kU k g).2.1 (kU k g).2.2 R):iC S I v (k6 g) h R:=by
 obtain ⟨⟨gv,gq,gr⟩,gk⟩ :=g
 cases k with
 | done i=>exact hk.elim
 | full=>exact hk.elim
 | look=>
  obtain ⟨rfl,p,b,r,n,n',rfl,rfl,hp,hr⟩ :=hv
  have hn:n.oneCell'=true:=by
   obtain ⟨_,⟨ho,_⟩,_⟩ :=hr _ (hB h (.refl _ _))
   exact uq ho n (by simp)
  unfold iC
  replace c:Cx _ _ _ [_]:=c
  refine c.v8 fun _ _ c=>?_
  refine c.v4 fun _ _ c=>?_
  refine c.v8 fun _ _ c=>?_
  refine aD<|c.rc 1 ?_
  refine bD<|aD<|c.rc 1 ?_
  refine c.rl 2 ?_
  refine .inl (.inl ⟨I.cL,#[],#[cA r],rfl,cs.tkl (M7 cs (g:=⟨⟨gv,gq,gr⟩,gk⟩) (p:=p) (b:=b) (n:=n) (hB _ c.gr) hZ hn hp hr fun v W M _ d ok=>?_)⟩)
  have c:=c.aE d
  replace c:=c.n6
  refine c.t8 3 fun _ c=>?_
  exact hR v W M _ (c.pick [4,5]) ok
 | swap i w=>
  obtain ⟨hi,p,r,rfl,rfl,hp⟩ :=hv
  unfold iC
  replace c:Cx _ _ _ [_]:=c
  refine c.v8 fun _ _ c=>?_
  refine c.v4 fun _ _ c=>?_
  refine c.v8 fun _ _ c=>?_
  refine aD<|c.rc 1 ?_
  refine bD<|aD<|c.rc 1 ?_
  refine c.rl 2 ?_
  refine .inl (.inl ⟨I.cQ,#[],#[cA r],rfl,cs.tkf ?_⟩)
  obtain ⟨F',c',hF,up⟩ :=c.vA (i:=0) rfl
  refine JW cs (g:=⟨⟨gv,gq,gr⟩,gk⟩) (B:=B) (F:=F') (w:=w) (fun h'' ch=>hB h'' (hF _ ch)) hZ hi hp c' fun v W M _ d ok=>?_
  have c:=up d
  replace c:=c.n5
  refine c.t8 3 fun _ c=>?_
  exact hR v W M _ (c.pick [0,4]) ok
end
end Go.En
