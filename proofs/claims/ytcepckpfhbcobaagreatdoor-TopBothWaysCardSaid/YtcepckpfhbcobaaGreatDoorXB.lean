/-
  Own library for the claim, packed by program: the engine, the clean texts, contracts, the plain law. (Part B.)
-/
import Derived.Test.YtcepckpfhbcobaaGreatDoorXA
namespace Go.En
open Go.ChangeShapes Go.WideShapes Go.ChangeAt Go.RowKit Go.Deep
section
variable {H:Type} {enc:TypeId × Value→H} {P:Program} {W W':World}
theorem Da {w:World} {base:Nat} {spare:Nat→Bool} {held:Bool}:∀{ts:List TypeId} {vs:List Value} {ds:List (DataW H)} {ps:List MemPlace},DataW.TrodAll enc P w base spare held ts vs ds ps→vs.length=ts.length∧ds.length=ts.length
 | [],[],[],_,_=>⟨rfl,rfl⟩
 | _::ts,_::vs,_::ds,_,h=>by
  obtain ⟨p,q,_,h2,_⟩ :=h
  have:=Da h2
  simp [this.1,this.2]
 | [],[],_::_,_,h=>h.elim
 | [],_::_,_,_,h=>h.elim
 | _::_,[],_,_,h=>h.elim
 | _::_,_::_,[],_,h=>h.elim
theorem Aa (hl:laidOutB P=true) (hb:Below W.heap.size W W'):∀{ts:List TypeId} {vs:List Value} {ds:List (DataW H)} {ps:List MemPlace},(ts.all fun t=>P.readableRec t&&decide (t<P.types.size))=true→
  (∀x∈ps,x.block<W.heap.size)→DataW.TrodAll enc P W 0 (fun _=>true) true ts vs ds ps→DataW.TrodAll enc P W' 0 (fun b=>decide (b<W.heap.size)) true ts vs ds ps
 | [],[],[],_,_,_,h=>h
 | t::ts,v::vs,d::ds,ps,hr,hlt,h=>by
  obtain ⟨p,q,h1,h2,rfl⟩ :=h
  simp only [List.all_cons,Bool.and_eq_true,decide_eq_true_eq] at hr
  exact ⟨p,q,Below.trod hl hr.1.1 hr.1.2 h1 hb (fun x hx=>hlt x (List.mem_append_left _ hx)),
   Aa hl hb (by simpa using hr.2) (fun x hx=>hlt x (List.mem_append_right _ hx)) h2,rfl⟩
 | [],[],_::_,_,_,_,h=>h.elim
 | [],_::_,_,_,_,_,h=>h.elim
 | _::_,[],_,_,_,_,h=>h.elim
 | _::_,_::_,[],_,_,_,h=>h.elim
theorem true_calls {f:FuncId} {fn:Func} {spec:ChangeSpec} {tb:TypeId} {args:Array Value} {ds gs:List (DataW H)} {before:List MemPlace}
  (hl:laidOutB P=true) (hr:(fn.params.toList.all fun t=>P.readableRec t&&decide (t<P.types.size))=true) (hvars:spec.vars=[]) (hres:fn.resultTypes=#[tb]) (htb:P.underlying tb=some .bool)
  (hfn:∀ds:List (DataW H),ds.length=fn.params.toList.length→spec.fn H (ds++[])={results:=[.lit (.bool true)],args:=ds})
  (hW:DataW.Whole enc P fn.params.toList spec.vars false W args.toList ds gs before)
  (hc:Sp P f args.toList W.heap (fun v h'=>v=.bool true∧Gr W.heap h')) :
  Calls P f args W (fun e W'=>∃v,e=.returned v∧spec.post enc P fn false true false false W args v W'):=by
 have:=hc W rfl
 rw [Array.toArray_toList] at this
 refine this.mono ?_
 rintro e W' ⟨v,rfl,⟨rfl,hg⟩,hrst⟩
 refine ⟨_,rfl,?_⟩
 have hb:Below W.heap.size W W':=⟨hrst.os,hrst.tape,hrst.output,hg.size,fun k hk=>hg.same k hk (fun e=>e)⟩
 have hW0:=hW
 obtain ⟨p,q,hA,hV,rfl,hn,ha⟩ :=hW
 rw [hvars] at hV
 have hgs:gs=[]∧q=[]:=by
  cases gs with
  | nil=>exact ⟨rfl,hV⟩
  | cons g gs=>exact hV.elim
 obtain ⟨rfl,rfl⟩ :=hgs
 have hlen:=Da hA
 have hf:=hfn ds hlen.2
 have hlt:∀x∈p,x.block<W.heap.size:=fun x hx=>by simpa using hW0.lt x (by simpa using hx)
 refine ⟨ds,[],p++[],[]++[],p,[],hW0,?_,?_,?_,hb.frame _,fun h=>by cases h⟩
 ·rw [hf,hres]
  exact ⟨[],[],⟨1,by simp [DataW.trod,htb,Value.cells]⟩,rfl,rfl⟩
 ·rw [hf]
  exact Aa hl hb hr hlt hA
 ·rw [hvars,hf]
  rfl
theorem DF {α:Type} {Q:Nat→α→Prop}:∀(n:Nat),(∀i,i<n→∃x,Q i x)→∃xs:List α,xs.length=n∧∀i x,xs[i]?=some x→Q i x
 | 0,_=>⟨[],rfl,fun i x h=>by simp at h⟩
 | n+1,h=>by
  obtain ⟨xs,hl,hx⟩ :=DF n fun i hi=>h i (by omega)
  obtain ⟨y,hy⟩ :=h n (by omega)
  refine ⟨xs++[y],by simp [hl],fun i x hi=>?_⟩
  by_cases hlt:i<xs.length
  ·rw [List.getElem?_append_left hlt] at hi; exact hx i x hi
  ·rw [List.getElem?_append_right (by omega)] at hi
   have:i=n:=by
    have:=(List.getElem?_eq_some_iff.mp hi).1
    simp at this; omega
   subst this
   rw [hl,Nat.sub_self] at hi
   simp only [List.getElem?_cons_zero,Option.some.injEq] at hi
   subst hi; exact hy
theorem sl_open {α:Type} {E:qd α} {Q:α→Prop} {t e:TypeId} {v:Value} {d:DataW H} {p:List MemPlace} {base:Nat} (ht:P.underlying t=some (.slice e)) (hn:P.cellsOf e=E.n) (hpos:0<E.n)
  (hel:∀n cs y,DataW.trod enc P W 0 (fun _=>true) true n e cs=some y→∃x,cs=E.c x∧Q x)
  (hv:Value.okWide P W .any base t v) (h:DataW.Trod enc P W 0 (fun _=>true) true t v d p):∃xs,Sl E W.heap v xs∧∀x∈xs,Q x:=by
 obtain ⟨a0,len0,cap0,rfl⟩ :=okWide_slice ht hv
 obtain ⟨fuel,hf⟩ :=h
 rcases open_slice ht hf with ⟨hcs,_⟩ | ⟨a,len,cap,m,n,D,Pl,hcs,_,hl,_,hm,_,hi⟩
 ·simp [Value.cells] at hcs
  obtain ⟨rfl,rfl,rfl⟩ :=hcs
  exact ⟨[],.nil,fun x hx=>by simp at hx⟩
 ·simp [Value.cells] at hcs
  obtain ⟨rfl,rfl,rfl⟩ :=hcs
  simp only [if_true] at hm
  subst hm
  have hx:∀i,i<len0→∃x,(∀j u,(E.c x)[j]?=some u→W.cell? (a.add (i*E.n+j))=some u)∧Q x:=by
   intro i hlt
   obtain ⟨cs',hc,ht'⟩ :=hi i (by omega)
   obtain ⟨x,rfl,hq⟩ :=hel _ _ _ ht'
   obtain ⟨_,hcl,hat⟩ :=World.cells?_some hc
   refine ⟨x,fun j u hu=>?_,hq⟩
   have hj:j<P.cellsOf e:=by rw [hn]; have:=(List.getElem?_eq_some_iff.mp hu).1; rwa [E.len] at this
   have:=hat j hj
   rw [hu,hn,Go.Deep.add_add] at this
   exact this
  obtain ⟨xs,hlen,hxs⟩ :=DF len0 hx
  refine ⟨xs,⟨some a,m,by rw [hlen],by omega,fun e=>by simp at e,fun i x hix=>?_⟩,fun x hx=>?_⟩
  ·have hc:=(hxs i x hix).1
   have hlt:=(List.getElem?_eq_some_iff.mp hix).1
   have hsp:a.spot=none:=by
    have h0:0<xs.length:=by omega
    have hc0:=(hxs 0 xs[0] (by simp)).1
    have hl0:0<(E.c xs[0]).length:=by rw [E.len]; exact hpos
    have:=World.cell?_spot (hc0 0 _ (List.getElem?_eq_getElem hl0))
    simpa [Addr.add] using this
   obtain ⟨b,off,spot⟩ :=a
   simp only at hsp
   subst hsp
   refine ⟨b,off,rfl,fun j u hu=>?_⟩
   have:=hc j u hu
   rw [Ds,zr,wD] at this
   rw [Nat.add_assoc]; exact this
  ·obtain ⟨i,hi,rfl⟩ :=List.mem_iff_getElem.mp hx
   exact (hxs i _ (List.getElem?_eq_getElem hi)).2
def UO (P:Program) (f:Field) (i:Nat) (k:Option IntKind):Bool:=
 Nat.beq f.offset i&&Nat.beq (P.cellsOf f.type) 1&&(match P.underlying f.type,k with
  | some (.int a),some b=>a == b
  | some .bool,none=>true
  | _,_=>false)
def LU (P:Program):List Field→Nat→List (Option IntKind)→Bool
 | [],_,[]=>true
 | f::fs,i,k::ks=>UO P f i k&&LU P fs (i+1) ks
 | _,_,_=>false
def WA (P:Program) (e:TypeId) (ks:List (Option IntKind)):Bool:=
 Nat.beq (P.cellsOf e) ks.length&&(match P.underlying e with
  | some (.struct fs)=>LU P fs.toList 0 ks
  | _=>false)
theorem Lx {P:Program}:∀{fs:List Field} {i:Nat} {ks:List (Option IntKind)},LU P fs i ks=true→fs.length=ks.length∧∀(j:Nat) (k:Option IntKind),ks[j]?=some k→∃f,fs[j]?=some f∧UO P f (i+j) k=true
 | [],_,[],_=>⟨rfl,fun j k h=>by simp at h⟩
 | f::fs,i,k::ks,h=>by
  simp only [LU,Bool.and_eq_true] at h
  obtain ⟨h1,h2⟩ :=Lx h.2
  refine ⟨by simp [h1],fun j q hq=>?_⟩
  cases j with
  | zero=>
   simp only [List.getElem?_cons_zero,Option.some.injEq] at hq
   subst hq
   exact ⟨f,rfl,h.1⟩
  | succ j=>
   obtain ⟨g,a,b⟩ :=h2 j q (by simpa using hq)
   exact ⟨g,by simpa using a,by rw [show i+(j+1)=i+1+j by omega]; exact b⟩
 | [],_,_::_,h=>by simp [LU] at h
 | _::_,_,[],h=>by simp [LU] at h
def Uz (k:Option IntKind) (v:Option Value):Prop:=
 match k with
 | some ik=>∃z,v=some (.int ik z)∧(Lit.int ik z).wf=true
 | none=>∃b,v=some (.bool b)
theorem PT {e:TypeId} {ks:List (Option IntKind)} (hs:WA P e ks=true):∀n cs y,DataW.trod enc P W 0 (fun _=>true) true n e cs=some y→cs.length=ks.length∧∀(j:Nat) (k:Option IntKind),ks[j]?=some k→Uz k cs[j]?:=by
 intro n cs y h
 unfold WA at hs
 rw [Bool.and_eq_true] at hs
 obtain ⟨hC,hs⟩ :=hs
 have hC:=Nat.eq_of_beq_eq_true hC
 split at hs <;> try contradiction
 rename_i fs hu
 obtain ⟨hl,hf⟩ :=Lx hs
 obtain ⟨xs,m,_,_,hlen,hxl,hat⟩ :=DataW.trod_struct hu h
 rw [hC] at hlen
 refine ⟨hlen,fun j k hk=>?_⟩
 obtain ⟨f,h1,h2⟩ :=hf j k hk
 have hj:j<ks.length:=(List.getElem?_eq_some_iff.mp hk).1
 have t0:=hat j f (by simpa using h1)
 unfold UO at h2
 simp only [Bool.and_eq_true,Nat.zero_add] at h2
 obtain ⟨⟨o,c⟩,u⟩ :=h2
 have o:=Nat.eq_of_beq_eq_true o
 have c:=Nat.eq_of_beq_eq_true c
 have hone:(cs.drop j).take 1=[cs[j]'(by omega)]:=by
  rw [List.drop_eq_getElem_cons (by omega)]; rfl
 rw [o,c,hone] at t0
 have hxs:xs[j]?=some (xs[j]'(by rw [hxl]; have:fs.size=ks.length:=(by simpa using hl); omega)):=List.getElem?_eq_getElem _
 rw [hxs] at t0
 rw [List.getElem?_eq_getElem (by omega:j<cs.length)]
 split at u
 ·rename_i a b hu1
  have:a=b:=by simpa using u
  subst this
  obtain ⟨z,e1,_,w⟩ :=DataW.trod_int hu1 t0
  simp only [List.cons.injEq,and_true] at e1
  exact ⟨z,by rw [e1],w⟩
 ·rename_i hu1
  obtain ⟨b,e1,_⟩ :=DataW.trod_bool hu1 t0
  simp only [List.cons.injEq,and_true] at e1
  exact ⟨b,by rw [e1]⟩
 ·contradiction
end
end Go.En
namespace Go.En
structure It {α:Type} (ik:IntKind) (E:α→Value) (h:Hp) (r m:Nat) (ps:List (Int × α)) (D:List Nat):Prop where
 ex:∃(es:Array MapEntry) (clock:Nat),h[m]?=some (.map es clock)∧Wa ik E es.toList ps clock∧h[r]?=some (.mapIter (some m) clock (D.map fun i=>((es.toList[i]?).map (·.born)).getD 0).toArray clock)
 nodup:D.Nodup
 lt:∀i∈D,i<ps.length
 ne:r≠m
section
variable {α:Type} {ik:IntKind} {E:α→Value} {h h':Hp} {r m:Nat} {ps:List (Int × α)} {D:List Nat}
theorem It.mp (H:It ik E h r m ps D):Mp ik E h (.map (some m)) ps:=by
 obtain ⟨es,clock,h1,h2,_⟩ :=H.ex
 exact ⟨m,es,clock,rfl,h1,h2⟩
theorem It.len (H:It ik E h r m ps D):D.length≤ps.length:=by
 have hp:(D++(List.range ps.length).filter fun i=>!D.contains i).Perm (List.range ps.length):=by
  refine (List.perm_ext_iff_of_nodup ?_ List.nodup_range).mpr fun i=>?_
  ·rw [List.nodup_append]
   refine ⟨H.nodup,List.nodup_range.filter _,fun a ha b hb e=>?_⟩
   subst e
   rw [List.mem_filter] at hb
   have:=hb.2
   simp only [Bool.not_eq_true',List.contains_eq_mem,decide_eq_false_iff_not] at this
   exact this ha
  ·rw [List.mem_append,List.mem_filter,List.mem_range]
   constructor
   ·rintro (h | h)
    ·exact H.lt i h
    ·exact h.1
   ·intro hi
    by_cases hd:i∈D
    ·exact .inl hd
    ·exact .inr ⟨hi,by simpa using hd⟩
 have:=hp.length_eq
 rw [List.length_append,List.length_range] at this
 omega
theorem QS {es:List MapEntry} {clock:Nat} (H:Wa ik E es ps clock):es.length=ps.length:=by have:=congrArg List.length H.Qt; simpa using this
theorem VQ {es:List MapEntry} {clock:Nat} (H:Wa ik E es ps clock) {i:Nat} {e:MapEntry} (h:es[i]?=some e):∃p,ps[i]?=some p∧e.key=.int ik p.1∧e.val=E p.2:=by
 have hd:=congrArg (fun l=>l[i]?) H.Qt
 simp only [List.getElem?_map,h,Option.map_some] at hd
 cases hp:ps[i]? with
 | none=>rw [hp] at hd; simp at hd
 | some p=>
  rw [hp] at hd
  simp only [Option.map_some,Option.some.injEq,Prod.mk.injEq] at hd
  exact ⟨p,rfl,hd.1,hd.2⟩
theorem PQ {es:List MapEntry} {clock:Nat} (H:Wa ik E es ps clock) {i j:Nat} {e e':MapEntry} (h:es[i]?=some e) (h':es[j]?=some e') (hb:e.born=e'.born):i=j:=by
 have hi:=(List.getElem?_eq_some_iff.mp h).1
 refine (List.getElem?_inj (l:=es.map (·.born)) (by simpa using hi) H.nodup).mp ?_
 rw [List.getElem?_map,List.getElem?_map,h,h']
 simp [hb]
theorem LD {es:List MapEntry} {i:Nat} {e:MapEntry} (hn:(es.map (·.born)).Nodup) (h:es[i]?=some e):es.find? (·.born == e.born)=some e:=by
 induction es generalizing i with
 | nil=>simp at h
 | cons x es ih=>
  rw [List.map_cons,List.nodup_cons] at hn
  cases i with
  | zero=>
   simp only [List.getElem?_cons_zero,Option.some.injEq] at h
   subst h
   rw [List.find?_cons_of_pos (by simp)]
  | succ i=>
   have h:es[i]?=some e:=by simpa using h
   have:x.born≠e.born:=fun eq=>hn.1 (by rw [eq]; exact List.mem_map.mpr ⟨e,List.mem_of_getElem? h,rfl⟩)
   rw [List.find?_cons_of_neg (by simpa using this)]
   exact ih hn.2 h
theorem It.next (H:It ik E h r m ps D) {k:Value→Hp→Prop} (h0:(∀i,i<ps.length→i∈D)→k (.tuple #[.bool false]) h)
  (h1:∀i p h',ps[i]?=some p→i∉D→It ik E h' r m ps (D++[i])→Ch (fun q=>q=r) h h'→zA (cA r) h'=some (.tuple #[.int ik p.1,E p.2])→k (.tuple #[.bool true,.int ik p.1,E p.2]) h'):Nx (cA r) h k:=by
 obtain ⟨es,clock,hm,he,hr⟩ :=H.ex
 refine ⟨r,rfl,.inr ⟨m,clock,_,clock,es,clock,hr,hm,?_,fun hall=>h0 fun i hi=>?_,fun e hem hns=>?_⟩⟩
 ·cases hes:es.isEmpty with
  | true=>simp
  | false=>
   have hsz:0<es.size:=by
    rcases Nat.eq_zero_or_pos es.size with h | h
    ·have:es=#[]:=Array.eq_empty_of_size_eq_zero h
     subst this
     simp at hes
    ·exact h
   have:es.all (fun e=>decide (e.born≥clock))=false:=by
    rw [Array.all_eq_false]
    exact ⟨0,hsz,by have:=he.born es[0] (by simp); simpa using this⟩
   rw [this,Bool.and_false]
 ·have hlen:=QS he
  have hi':i<es.toList.length:=by omega
  have hget:es.toList[i]?=some es.toList[i]:=List.getElem?_eq_getElem hi'
  have hmem:es.toList[i]∈es:=by simp
  have:=hall _ hmem (he.born _ (List.getElem_mem hi'))
  rw [Array.contains_iff_mem,List.mem_toArray,List.mem_map] at this
  obtain ⟨j,hj,e⟩ :=this
  have hjl:=H.lt j hj
  have hget2:es.toList[j]?=some (es.toList[j]'(by omega)):=List.getElem?_eq_getElem _
  rw [hget2] at e
  simp only [Option.map_some,Option.getD_some] at e
  have:=PQ he hget2 hget e
  subst this
  exact hj
 ·obtain ⟨i,hi,rfl⟩ :=List.mem_iff_getElem.mp (Array.mem_toList_iff.mpr hem)
  have hget:es.toList[i]?=some es.toList[i]:=List.getElem?_eq_getElem hi
  obtain ⟨p,hp,hk,hv⟩ :=VQ he hget
  have hnot:i∉D:=by
   intro hc
   have:(D.map fun i=>((es.toList[i]?).map (·.born)).getD 0).toArray.contains es.toList[i].born=true:=by
    rw [Array.contains_iff_mem,List.mem_toArray,List.mem_map]
    exact ⟨i,hc,by rw [hget]; rfl⟩
   rw [this] at hns
   contradiction
  have hlr:=(Array.getElem?_eq_some_iff.mp hr).1
  rw [hk,hv]
  have hr':(h.setIfInBounds r (Obj.mapIter (some m) clock ((D.map fun i=>((es.toList[i]?).map (·.born)).getD 0).toArray.push es.toList[i].born) clock))[r]?=some (.mapIter (some m) clock ((D.map fun i=>((es.toList[i]?).map (·.born)).getD 0).toArray.push es.toList[i].born) clock):=by
   rw [Array.getElem?_setIfInBounds,if_pos rfl,if_pos hlr]
  have hm':(h.setIfInBounds r (Obj.mapIter (some m) clock ((D.map fun i=>((es.toList[i]?).map (·.born)).getD 0).toArray.push es.toList[i].born) clock))[m]?=some (.map es clock):=by
   rw [Array.getElem?_setIfInBounds,if_neg H.ne]; exact hm
  refine h1 i p _ hp hnot ⟨⟨es,clock,hm',he,?_⟩,?_,fun j hj=>?_,H.ne⟩ ⟨by simp,fun q _ hq=>by rw [Array.getElem?_setIfInBounds,if_neg (fun e=>hq e.symm)]⟩ ?_
  ·rw [hr',List.map_append,List.map_cons,List.map_nil,hget]
   congr 2
   apply Array.ext'
   simp
  ·rw [List.nodup_append]
   exact ⟨H.nodup,by simp,fun a ha b hb e=>hnot (by simp only [List.mem_singleton] at hb; rw [←hb,←e]; exact ha)⟩
  ·rcases List.mem_append.mp hj with hj | hj
   ·exact H.lt j hj
   ·simp only [List.mem_singleton] at hj
    subst hj
    exact (List.getElem?_eq_some_iff.mp hp).1
  ·unfold zA cA
   simp only [hr',hm',Array.back?_push]
   have hck:Nat.beq clock clock=true:=Nat.beq_refl clock
   have hf:es.find? (·.born == es.toList[i].born)=some es.toList[i]:=by
    have:=LD he.nodup hget
    rw [←Array.find?_toList]; exact this
   simp only [hck,hf,hk,hv]
end
end Go.En
namespace Go.En
open Go.ChangeShapes Go.WideShapes Go.ChangeAt Go.RowKit Go.Deep
def EAr (ik:IntKind) (n:Nat):qd (Nat→Int):={n:=n,c:=fun f=>(List.range n).map fun i=>.int ik (f i),len:=fun _=>by simp,one:=fun a v h=>by obtain ⟨i,_,rfl⟩ :=List.mem_map.1 h; rfl}
theorem Q8 {ik:IntKind} {n i:Nat} {f:Nat→Int} (h:i<n):((EAr ik n).c f)[i]?=some (.int ik (f i)):=by
 show ((List.range n).map fun i=>Value.int ik (f i))[i]?=_
 simp [h]
section
variable {H:Type} {enc:TypeId × Value→H} {P:Program} {W:World}
def isAgg (P:Program) (t:TypeId):Bool:=match P.underlying t with | some (.struct _)=>true | some (.array _ _)=>true | _=>false
end
section
variable {h:Hp} {r n:Nat} {ik:IntKind} {f:Nat→Int}
theorem VJ {q:IntKind} {z:Int} {i:Nat} (hz:z=i) (hi:i<n) (o:Nat):Jj n 1 (.pointer (some ⟨r,o,none⟩)) (.int q z)=some (.pointer (some ⟨r,o+i,none⟩)):=by
 subst hz
 have:(0:Int)≤(i:Int)∧(i:Int)<n:=by omega
 simp only [Jj,this,and_self,if_true,Ds,Int.toNat_natCast,Nat.mul_one]
end
end Go.En
namespace Go.En
abbrev pV:Array Value:=#[.slice none 0 0,.slice none 0 0,.slice none 0 0,.slice none 0 0,.map none,.slice none 0 0,.int .i64 0,.slice none 0 0,.slice none 0 0]
abbrev xe:Array Value:=#[.nilIface,.nilFunc,.int .i64 0,.int .i64 0,.int .i64 0,.int .u32 0,.int .u32 0,.int .i64 0,.int .u32 0,.int .u32 0,.slice none 0 0]
abbrev yQ:Array Value:=#[.int .i64 0,.int .i64 0,.int .i64 0,.int .i64 0,.int .i64 0,.bool false,.slice none 0 0,.slice none 0 0,.nilIface,.slice none 0 0,.slice none 0 0,.slice none 0 0,.bool false]
abbrev Bf:Array Value:=#[.slice none 0 0,.slice none 0 0,.slice none 0 0,.slice none 0 0,.map none,.slice none 0 0,.int .i64 0]
abbrev aV:Array Value:=#[.int .i64 0,.int .i64 0,.int .i64 0,.int .u32 0,.int .u32 0,.int .i64 0,.int .u32 0,.int .u32 0]
abbrev ql:Array Value:=#[.int .i64 0,.int .i64 0,.int .u32 0,.int .u32 0,.int .i64 0,.bool false]
abbrev Xg:Array Value:=#[.int .i64 0,.int .i64 0,.int .i64 0,.int .i64 0,.int .i64 0,.int .i64 0,.int .i64 0]
abbrev Pg:Array Value:=#[.int .i64 0,.int .u32 0,.int .u32 0,.int .i64 0,.int .u32 0,.int .u32 0,.int .i64 0,.int .u32 0,.int .u32 0]
abbrev ze:Array Value:=#[.int .i64 0,.int .i64 0,.int .i64 0,.int .i64 0,.int .i64 0,.bool false,.slice none 0 0,.nilFunc,.bool false,.bool false]
abbrev lS:Array Value:=#[.int .i64 0,.int .i64 0,.int .i64 0,.bool false,.slice none 0 0,.int .i64 0,.int .i64 0,.int .i64 0,.int .i64 0,.nilIface,.bool false,.int .i64 0,.bool false,.nilFunc,.nilFunc]
abbrev G2:Array Value:=#[.int .i64 0,.int .i64 0,.int .i64 0,.bool false,.bool false,.slice none 0 0,.int .i64 0,.int .i64 0,.slice none 0 0,.slice none 0 0,.int .i64 0,.int .u32 0,.int .u32 0,.nilIface,.bool false,.nilFunc]
abbrev C1:Array Value:=#[.int .i64 0,.int .i64 0,.int .i64 0,.slice none 0 0,.int .i64 0,.int .i64 0,.bool false,.nilFunc]
abbrev eK:Array Value:=#[.int .i64 0,.int .i64 0,.int .i64 0,.int .u32 0,.int .i64 0,.int .i64 0,.int .i64 0,.int .i64 0,.bool false,.slice none 0 0,.int .i64 0,.slice none 0 0,.int .i64 0,.int .i64 0,.int .i64 0,.int .u32 0,.int .u32 0,.nilIface,.bool false,.nilFunc,.nilFunc]
abbrev GG:Array Value:=#[.int .i64 0,.int .i64 0,.int .i64 0,.int .i64 0,.int .i64 0,.bool false,.nilFunc]
structure aZ where
 mt:TypeId→String→Option FuncId
 sv:Nat
 tH:Nat
 pf:Nat
 kE:Nat
 gL:Nat
 mU:Nat
 kz:Nat
 kC:Nat
 fK:Nat
 ye:Nat
 wC:Nat
 jX:Nat
 jC:Nat
 cM:Nat
 lO:Nat
 gE:Nat
 gM:Nat
 rP:Nat
 bI:Nat
 cF:Nat
 lN:Nat
 sM:Nat
 uL:Nat
 oL:Nat
 qS:Nat
 lj:Nat
 oH:Nat
 uK:Nat
 vJ:Nat
 s9:Nat
 jY:Nat
 eV:Nat
 rj:Nat
 eH:Nat
 ma:Nat
 fC:Nat
 eX:Nat
 gO:Nat
 mQ:Nat
 gK:Nat
 fY:Nat
 tD:Nat
 xy:Nat
 r7:Nat
 Ae:Nat
 kN:Nat
 qw:Nat
 fB:Nat
 eI:Nat
 m7:Nat
 uG:Nat
 wI:Nat
 yd:Nat
 wh:Nat
 dH:Nat
 cI:Nat
 qL:Nat
 Dg:Nat
 lY:Nat
 kw:Nat
 kR:Nat
 gN:Nat
 qv:Nat
 dE:Nat
 jJ:Nat
 AY:Nat
 yN:Nat
 Js:Nat
 kB:Nat
 oz:Nat
 gQ:Nat
 nA:Nat
 oC:Nat
 iI:Nat
 eE:Nat
 fX:Nat
 l8:Nat
 k7:Nat
 qN:Nat
 sP:Nat
 Bn:Nat
 iU:Nat
 ka:Nat
 ml:Nat
 lK:Nat
 nm:Nat
 qp:Nat
 ni:Nat
 dQ:Nat
 bE:Nat
 dJ:Nat
 jS:Nat
 mu:Nat
 qT:Nat
 nP:Nat
 cX:Nat
 zQ:Nat
 jV:Nat
 iX:Nat
 cS:Nat
 gP:Nat
 gV:Nat
 aU:Nat
 sK:Nat
 bS:Nat
 qz:Nat
 cD:Nat
 fN:Nat
 dR:Nat
 lF:Nat
 ke:Nat
 hH:Nat
 aN:Nat
 dM:Nat
 jN:Nat
 tC:Nat
 dD:Nat
 bK:Nat
 bN:Nat
 u7:Nat
 sX:Nat
 dC:Nat
 fU:Nat
 eO:Nat
 xC:Nat
 cV:Nat
 fT:Nat
 qg:Nat
 po:Nat
 rJ:Nat
 IM:Nat
 vd:Nat
 zZ:Nat
 xd:Nat
 Ha:Nat
 Fw:Nat
 CH:Nat
 sJ:Nat
 jZ:Nat
 CB:Nat
 Dx:Nat
 rO:Nat
 rY:Nat
 dB:Nat
 bZ:Nat
 dT:Nat
 nf:Nat
 qU:Nat
 BN:Nat
 tw:Nat
 iO:Nat
 gB:Nat
 pr:Nat
 uu:Nat
 Dr:Nat
 lX:Nat
 k0:Nat
 qH:Nat
 jG:Nat
 iL:Nat
 su:Nat
 BG:Nat
 Bx:Nat
 qe:Nat
 qh:Nat
 dK:Nat
 l7:Nat
 cC:Nat
 sN:Nat
 kG:Nat
 cK:Nat
 iJ:Nat
 dV:Nat
 uM:Nat
 Bi:Nat
 nO:Nat
 eT:Nat
 vg:Nat
 ve:Nat
 tq:Nat
 fJ:Nat
 lV:Nat
 tN:Nat
 nV:Nat
 dZ:Nat
 zO:Nat
 Bv:Nat
 B0:Nat
 fI:Nat
 cL:Nat
 lx:Nat
 j9:Nat
 iD:Nat
 eC:Nat
 tu:Nat
 fV:Nat
 kA:Nat
 fH:Nat
 tG:Nat
 I1:Nat
 zW:Nat
 cQ:Nat
 tT:Nat
 iY:Nat
 bL:Nat
 hU:Nat
 iW:Nat
 cP:Nat
 cO:Nat
 bO:Nat
 kK:Nat
 eZ:Nat
 rU:Nat
 Fq:Nat
 dF:Nat
 cU:Nat
 lA:Nat
 gT:Nat
 dL:Nat
 la:Nat
 cR:Nat
 fL:Nat
 rm:Nat
 tI:Nat
 sI:Nat
 kX:Nat
 fZ:Nat
 eY:Nat
 mw:Nat
 ru:Nat
 jW:Nat
 fS:Nat
 kM:Nat
 lp:Nat
 pQ:Nat
 oA:Nat
 lB:Nat
 kH:Nat
 nS:Nat
 lM:Nat
 tA:Nat
 tP:Nat
 rR:Nat
 mV:Nat
 rN:Nat
 qi:Nat
 oY:Nat
 pK:Nat
 sD:Nat
 pH:Nat
 l5:Nat
 CI:Nat
 mB:Nat
 jB:Nat
 mz:Nat
 BF:Nat
 Lv:Nat
 AA:Nat
 aM:Nat
 GN:Nat
 l6:Nat
 jR:Nat
 bR:Nat
 bV:Nat
 E4:Nat
 uP:Nat
 kj:Nat
 nR:Nat
 aJ:Nat
 aI:Nat
 fG:Nat
 bB:Nat
 xW:Nat
 NQ:Nat
 hY:Nat
 aK:Nat
 eA:Nat
 eW:Nat
 aW:Nat
 Dl:Nat
 bX:Nat
 bH:Nat
 oE:Nat
 eG:Nat
 cY:Nat
 tF:Nat
 ue:Nat
 rG:Nat
 tK:Nat
 sT:Nat
 aY:Nat
 aH:Nat
 qO:Nat
 iB:Nat
 iG:Nat
 bA:Nat
 C4:Nat
 jM:Nat
 aB:Nat
 nB:Nat
 bJ:Nat
abbrev Po:Type:=Value→Hp→Prop
def Lf (n:Nat) (x:Value) (h:Hp) (k:Value→Prop):Prop:=Vb (fa n x) fun q=>Vb (dU q h) k
def X3 (v:Value) (k:Value→Value→Value→Prop):Prop:=Vb (ext 0 v) fun a=>Vb (ext 1 v) fun b=>Vb (ext 2 v) (k a b)
def X2 (v:Value) (k:Value→Value→Prop):Prop:=Vb (ext 0 v) fun a=>Vb (ext 1 v) (k a)
def Rl (n:Nat) (x:Value) (h:Hp) (R:Value→Hp→Prop):Prop:=Vb (aF n x h) fun r=>R r h
def fD (S:Sys)(I:aZ)(a2 aw a1:Value)(h:Hp)(R:Po):Prop:=
 S.C I.kz [] h fun cv al=>Vb (sk .not cv) fun cw=>Br cw (R (.bool false) al) (Eb (pb #[.slice none 0 0] 1 1 I.hY [(0,aw)] al) fun cx bc=>
 S.C I.kC [cx,(.slice none 0 0)] bc fun cy ao=>Br cy (R (.bool true) ao) (Vb (lu aw) fun cz=>UJ (.slice none 0 0) (.slice none 0 0) (.int .i64 0) ao fun av ax af aa az=>
 Vb (bin .lss af cz) fun c0=>Br c0 (Vb (lQ 2 aw af) fun c1=>Vb (aF 2 c1 aa) fun c2=>Eb (nw #[.int .u8 0,.slice none 0 0] I.eA aa) fun ab bo=>
 Sb (aQ 2 ab c2 bo) fun ar=>Lf 1 ab ar fun c3=>Vb (bG [(0,1),(1,1)] #[.int .u8 0,.slice none 0 0] [(0,(.int .u8 0)),(1,c3)]) fun c4=>Eb (pb #[.int .u8 0,.slice none 0 0] 2 1 I.eA [(0,c4)] ar) fun c5 bp=>
 Ap I.eA #[.int .u8 0,.slice none 0 0] 2 32 av c5 bp fun c6 au=>Lf 1 ab au fun c7=>Vb (bG [(0,1),(1,1)] #[.int .u8 0,.slice none 0 0] [(0,(.int .u8 1)),(1,c7)]) fun c8=>
 Eb (pb #[.int .u8 0,.slice none 0 0] 2 1 I.eA [(0,c8)] au) fun c9 bq=>Ap I.eA #[.int .u8 0,.slice none 0 0] 2 32 ax c9 bq fun da a3=>
 Vb (bin .add af (.int .i64 1)) fun db=>az c6 da db a3) (Eb (pb #[.slice none 0 0] 1 1 I.hY [(0,av)] aa) fun dc a4=>S.C I.fK [a2,a1,dc] a4 fun dd a5=>
 X2 dd fun de df=>Eb (nw pV I.bV a5) fun aj a6=>Sb (aQ 9 aj de a6) fun a7=>Eb (pb #[.slice none 0 0] 1 1 I.hY [(0,ax)] a7) fun dg a8=>
 S.C I.fK [a2,a1,dg] a8 fun dh a9=>X2 dh fun di dj=>Eb (nw pV I.bV a9) fun ak ba=>Sb (aQ 9 ak di ba) fun am=>Vb (aF 9 aj am) fun dk=>
 S.C I.jC [dk,(.int .i64 1),(.int .i64 20000)] am fun dl bb=>X2 dl fun dm dn=>Eb (nw pV I.bV bb) fun ag bd=>Sb (aQ 9 ag dm bd) fun an=>
 Vb (aF 9 ak an) fun dp=>S.C I.jC [dp,(.int .i64 1),(.int .i64 20000)] an fun dq be=>X2 dq fun dr ds=>Eb (nw pV I.bV be) fun ah bf=>
 Sb (aQ 9 ah dr bf) fun p=>lq (fun dx q=>Br dx (R (.bool false) q) (Lf 7 ag q fun dy=>Vb (lQ 11 dy (.int .i64 0)) fun dz=>Vb (aF 11 dz q) fun d0=>S.C I.jX [d0] q fun d1 bg=>
 X2 d1 fun d2 d3=>Eb (nw yQ I.aK bg) fun f bh=>Sb (aQ 13 f d2 bh) fun v=>Lf 7 ah v fun d4=>Vb (lQ 11 d4 (.int .i64 0)) fun br=>
 Vb (aF 11 br v) fun bs=>S.C I.jX [bs] v fun bt bi=>X2 bt fun bu bv=>Eb (nw yQ I.aK bi) fun n bj=>Sb (aQ 13 n bu bj) fun a=>
 lq (fun b6 w=>Br b6 (R (.bool false) w) (Lf 10 f w fun b7=>Vb (lu b7) fun b8=>xN (.int .i64 0) w fun k d a0=>Vb (bin .lss k b8) fun b9=>Br b9 (lq (fun cl ap=>
 Br cl (R (.bool false) ap) (Vb (bin .add k (.int .i64 1)) fun cm=>a0 cm ap)) fun ai=>Lf 10 f d fun ca=>Vb (lQ 1 ca k) fun cb=>Vb (dU cb d) fun cc=>Lf 10 n d fun cd=>
 Vb (lQ 1 cd k) fun ce=>Vb (dU ce d) fun cf=>Vb (BZ (YH cc cf)) fun cg=>Br cg (ai (.bool true) d) (Lf 10 f d fun ch=>Vb (lQ 1 ch k) fun ci=>Vb (dU ci d) fun cj=>
 Vb (sk .not cj) fun ck=>ai ck d)) (S.C I.cM [] d fun cn bk=>Eb (nw #[.int .i64 0,.int .i64 0,.int .i64 0] I.bB bk) fun e bl=>
 Sb (aQ 3 e cn bl) fun i=>Vb (aF 3 e i) fun ay=>Vb (fa 0 ag) fun co=>Vb (aF 7 co i) fun cp=>Vb (aF 3 e i) fun u=>Vb (fa 0 ah) fun ad=>Vb (aF 7 ad i) fun ae=>
 S.C I.gM [cp] i fun cq t=>aF 7 ad t=some ae∧aF 3 e t=some u∧aF 3 e t=some ay∧S.C I.gE [ay,cq] t fun cr x=>
 aF 7 ad x=some ae∧aF 3 e x=some u∧S.C I.gM [ae] x fun cs aq=>aF 3 e aq=some u∧S.C I.gE [u,cs] aq fun ct bm=>
 S.C I.lO [cr,ct] bm fun cu bn=>R cu bn))) fun g=>Vb (sk .not d3) fun bw=>Br bw (g (.bool true) a) (Vb (sk .not bv) fun bx=>Br bx (g (.bool true) a) (Lf 12 f a fun bz=>
 Br bz (g (.bool true) a) (Lf 12 n a fun b0=>Br b0 (g (.bool true) a) (Lf 10 f a fun b1=>Vb (lu b1) fun b2=>Lf 10 n a fun b3=>Vb (lu b3) fun b4=>Vb (bin .neq b2 b4) fun b5=>
 g b5 a)))))) fun m=>Vb (sk .not df) fun dt=>Br dt (m (.bool true) p) (Vb (sk .not dj) fun du=>Br du (m (.bool true) p) (Vb (sk .not dn) fun dv=>Br dv (m (.bool true) p) (Vb (sk .not ds) fun dw=>
 m dw p))))))
def kr (S:Sys)(I:aZ)(a5 a4:Value)(h:Hp)(R:Po):Prop:=
 Eb (nw (Value.cells a5) I.bV h) fun i v=>Eb (nw (Value.cells a4) I.E4 v) fun e aa=>Eb (nw pV I.bV aa) fun f p=>CY (fun q=>
 Vb (aF 9 i q) fun a1=>Sb (aQ 9 f a1 q) fun t=>Vb (aF 9 f t) fun g=>R (.tuple #[g,(.bool false)]) t) fun k=>Vb (aF 9 i p) fun a2=>S.C I.oL [a2] p fun a3 d=>
 Br a3 (k d) (Lf 0 e d fun ad=>Vb (bin .eql ad (.int .i64 2)) fun ae=>Br ae (Vb (fa 0 i) fun af=>Vb (aF 7 af d) fun ag=>Lf 2 e d fun ah=>S.C I.qS [ag,ah] d fun ai ab=>
 Vb (bG [(0,7),(7,1),(8,1)] pV [(0,ai)]) fun aj=>Sb (aQ 9 f aj ab) fun u=>Vb (aF 9 f u) fun g=>R (.tuple #[g,(.bool true)]) u) (Vb (aF 9 i d) fun ak=>
 Lf 1 e d fun al=>S.C I.lj [ak,al] d fun am a=>Vb (sk .not am) fun an=>Br an (k a) (Lf 0 e a fun ao=>Vb (bin .eql ao (.int .i64 0)) fun ap=>
 Br ap (Vb (aF 9 i a) fun aq=>Lf 1 e a fun ar=>Lf 2 e a fun au=>S.C I.oH [aq,ar,au] a fun av w=>Sb (aQ 9 f av w) fun m=>Vb (aF 9 f m) fun g=>
 R (.tuple #[g,(.bool true)]) m) (Lf 0 e a fun aw=>Vb (bin .eql aw (.int .i64 1)) fun ax=>Br ax (Vb (aF 9 i a) fun ay=>Lf 1 e a fun az=>S.C I.uK [ay,az] a fun a0 x=>
 Sb (aQ 9 f a0 x) fun n=>Vb (aF 9 f n) fun g=>R (.tuple #[g,(.bool true)]) n) (k a)))))
def pE (S:Sys)(I:aZ)(g:Value)(h:Hp)(R:Po):Prop:=
 Eb (nw (Value.cells g) I.fG h) fun d a=>Lf 1 d a fun e=>Vb (pos? (YY e (.nilFunc))) fun f=>R f a
def pS (S:Sys)(I:aZ)(f:Value)(h:Hp)(R:Po):Prop:=
 Eb (nw (Value.cells f) I.fG h) fun d a=>Lf 0 d a fun e=>R e a
def kq (S:Sys)(I:aZ)(h:Hp)(R:Po):Prop:=
 Eb (pb #[.int .i8 0] 1 2 I.NQ [(0,(.int .i8 5)),(1,(.int .i8 0))] h) fun bw a4=>Vb (bG [(0,1),(1,1),(2,1)] #[.int .u8 0,.int .i8 0,.bool false] [(0,(.int .u8 0)),(1,(.int .i8 (-1))),(2,(.bool true))]) fun bx=>
 Vb (bG [(0,1),(1,1),(2,1)] #[.int .u8 0,.int .i8 0,.bool false] [(0,(.int .u8 1)),(1,(.int .i8 1)),(2,(.bool true))]) fun bz=>Eb (pb #[.int .u8 0,.int .i8 0,.bool false] 3 2 I.eW [(0,bx),(1,bz)] a4) fun b0 a9=>
 Vb (bG [(0,1),(1,1)] #[.int .u8 0,.slice none 0 0] [(0,(.int .u8 1)),(1,b0)]) fun b1=>Eb (pb #[.int .u8 0,.slice none 0 0] 2 1 I.eA [(0,b1)] a9) fun b2 bf=>
 Eb (pb #[.slice none 0 0] 1 1 I.hY [(0,b2)] bf) fun b3 bm=>S.C I.fK [bw,(.bool false),b3] bm fun b4 br=>X2 b4 fun b5 b6=>
 Eb (nw pV I.bV br) fun a1 bs=>Sb (aQ 9 a1 b5 bs) fun aw=>Vb (aF 9 a1 aw) fun b7=>S.C I.jC [b7,(.int .i64 1),(.int .i64 500)] aw fun b8 bt=>
 X2 b8 fun b9 ca=>Eb (nw pV I.bV bt) fun w bu=>Sb (aQ 9 w b9 bu) fun n=>lq (fun a2 p=>lq (fun a3 g=>lq (fun bv a5=>R bv a5) fun m=>Br b6 (Br ca (Vb (aF 3 a2 g) fun cx=>
 Vb (bG [(0,1),(1,1),(2,1)] #[.int .i64 0,.int .u32 0,.int .u32 0] [(0,(.int .i64 4)),(1,(.int .u32 1))]) fun cy=>Vb (pos? (E5 [true,true,true] cx cy)) fun cz=>
 Br cz (Vb (aF 3 a3 g) fun c0=>Vb (bG [(0,1),(1,1),(2,1)] #[.int .i64 0,.int .u32 0,.int .u32 0] [(0,(.int .i64 1)),(1,(.int .u32 1))]) fun c1=>Vb (pos? (E5 [true,true,true] c0 c1)) fun c2=>
 m c2 g) (m (.bool false) g)) (m (.bool false) g)) (m (.bool false) g)) fun k=>Vb (fa 0 w) fun f=>Vb (aF 7 f p) fun d=>And (S.C I.cM [] p fun az q=>
 aF 7 f q=some d∧And (S.C I.cF [az,(.int .i64 1)] q fun a0 t=>aF 7 f t=some d∧And (S.C I.bI [d,a0] t fun cp a6=>
 X2 cp fun ct c7=>Eb (nw #[.int .i64 0,.int .u32 0,.int .u32 0] I.aJ a6) fun ae a7=>Sb (aQ 3 ae ct a7) fun a8=>k ae a8) (Eb (nw #[.int .i64 0,.int .u32 0,.int .u32 0] I.aJ t) fun af ai=>
 aF 7 f ai=some d∧S.C I.bI [d,a0] ai fun cq ba=>X2 cq fun cu c8=>Sb (aQ 3 af cu ba) fun bb=>k af bb)) (Eb (nw #[.int .i64 0,.int .u32 0,.int .u32 0] I.aJ q) fun ag aj=>
 aF 7 f aj=some d∧S.C I.cF [az,(.int .i64 1)] aj fun cn ak=>aF 7 f ak=some d∧S.C I.bI [d,cn] ak fun cr bc=>X2 cr fun cv c9=>
 Sb (aQ 3 ag cv bc) fun bd=>k ag bd)) (Eb (nw #[.int .i64 0,.int .u32 0,.int .u32 0] I.aJ p) fun ah al=>aF 7 f al=some d∧S.C I.cM [] al fun cm am=>
 aF 7 f am=some d∧S.C I.cF [cm,(.int .i64 1)] am fun co an=>aF 7 f an=some d∧S.C I.bI [d,co] an fun cs be=>X2 cs fun cw da=>
 Sb (aQ 3 ah cw be) fun bg=>k ah bg)) fun i=>Vb (fa 0 w) fun e=>Vb (aF 7 e n) fun a=>And (S.C I.cM [] n fun ax u=>aF 7 e u=some a∧And (S.C I.cF [ax,(.int .i64 0)] u fun ay v=>
 aF 7 e v=some a∧And (S.C I.bI [a,ay] v fun ce bh=>X2 ce fun ci c3=>Eb (nw #[.int .i64 0,.int .u32 0,.int .u32 0] I.aJ bh) fun x bi=>
 Sb (aQ 3 x ci bi) fun bj=>i x bj) (Eb (nw #[.int .i64 0,.int .u32 0,.int .u32 0] I.aJ v) fun aa ao=>aF 7 e ao=some a∧S.C I.bI [a,ay] ao fun cf bk=>
 X2 cf fun cj c4=>Sb (aQ 3 aa cj bk) fun bl=>i aa bl)) (Eb (nw #[.int .i64 0,.int .u32 0,.int .u32 0] I.aJ u) fun ab ap=>aF 7 e ap=some a∧S.C I.cF [ax,(.int .i64 0)] ap fun cc aq=>
 aF 7 e aq=some a∧S.C I.bI [a,cc] aq fun cg bn=>X2 cg fun ck c5=>Sb (aQ 3 ab ck bn) fun bo=>i ab bo)) (Eb (nw #[.int .i64 0,.int .u32 0,.int .u32 0] I.aJ n) fun ad ar=>
 aF 7 e ar=some a∧S.C I.cM [] ar fun cb au=>aF 7 e au=some a∧S.C I.cF [cb,(.int .i64 0)] au fun cd av=>aF 7 e av=some a∧S.C I.bI [a,cd] av fun ch bp=>
 X2 ch fun cl c6=>Sb (aQ 3 ad cl bp) fun bq=>i ad bq)
def kx (S:Sys)(I:aZ)(g a3:Value)(h:Hp)(R:Po):Prop:=
 Az (.int .i64 0) (.int .i64 0) h fun p d m v=>lq (fun af a=>Br af (Vb (lQ 1 g d) fun ah=>Vb (dU ah a) fun ai=>Vb (lu ai) fun aj=>Vb (bin .gtr aj (.int .i64 8)) fun ak=>
 Br ak (R (.bool true) a) (Vb (lQ 1 g d) fun al=>Vb (dU al a) fun u=>Vb (lu u) fun am=>Az p (.int .i64 0) a fun q i f w=>Vb (bin .lss i am) fun an=>
 Br an (Vb (lQ 2 u i) fun ao=>Vb (aF 2 ao f) fun ap=>Eb (nw #[.int .u8 0,.slice none 0 0] I.eA f) fun t x=>Sb (aQ 2 t ap x) fun n=>
 Lf 1 t n fun aq=>Vb (lu aq) fun ar=>Vb (bin .add (.int .i64 1) ar) fun au=>Vb (bin .add q au) fun av=>Vb (bin .add i (.int .i64 1)) fun ax=>w av ax n) (Vb (bin .add d (.int .i64 1)) fun ag=>
 v q ag f))) (lq (fun aw aa=>R aw aa) fun e=>Vb (lu g) fun ay=>Vb (bin .gtr ay (.int .i64 3)) fun az=>Br az (e (.bool true) a) (Vb (bin .gtr p (.int .i64 60)) fun a0=>
 Br a0 (e (.bool true) a) (Vb (lu a3) fun a1=>Vb (bin .gtr a1 (.int .i64 400)) fun a2=>e a2 a)))) fun k=>Vb (lu g) fun ab=>Vb (bin .lss d ab) fun ad=>
 Br ad (Vb (bin .lss d (.int .i64 4)) fun ae=>k ae m) (k (.bool false) m)
def kP (S:Sys)(I:aZ)(ah b2 ay:Value)(h:Hp)(R:Po):Prop:=
 Eb (nw pV I.bV h) fun p ai=>S.C I.cM [] ai fun a0 aq=>Eb (nw #[.int .i64 0,.int .i64 0,.int .i64 0] I.bB aq) fun a av=>
 Sb (aQ 3 a a0 av) fun v=>Vb (aF 3 a v) fun a1=>S.C I.lN [a1] v fun n aw=>xN (.int .i64 0) aw fun f g af=>lq (fun a8 e=>Br a8 (Vb (aF 3 a e) fun ba=>
 Vb (lQ 1 ah f) fun ab=>Vb (dU ab e) fun ad=>Vb (HA .i64 ad) fun bc=>S.C I.cF [ba,f] e fun bb w=>dU ab w=some ad∧Vb (lQ 3 n bb) fun bd=>
 Vb (fa 0 bd) fun be=>Sb (aQ 1 be bc w) fun ax=>Vb (bin .add f (.int .i64 1)) fun a9=>af a9 ax) (Lf 0 a e fun bf=>S.C I.sM [bf,n] e fun bg aj=>
 X2 bg fun bh bi=>Eb (nw Bf I.bR aj) fun x ak=>Sb (aQ 7 x bh ak) fun al=>Vb (lu ay) fun bj=>Az (.slice none 0 0) (.int .i64 0) al fun t i d ag=>
 Vb (bin .lss i bj) fun bk=>Br bk (Vb (lQ 1 ay i) fun bl=>Vb (dU bl d) fun bm=>Vb (aF 3 a d) fun bn=>Vb (bin .add i (.int .i64 1)) fun bo=>Vb (bG [(0,3),(3,1),(4,1),(5,1),(6,1),(7,1),(8,1),(9,1),(10,1),(11,1),(12,1)] yQ [(0,bn),(1,bo),(3,b2),(4,bm)]) fun bp=>
 Vb (some (.iface I.aK bp)) fun br=>Eb (pb #[.nilIface] 1 1 I.uP [(0,br)] d) fun bs am=>Ap I.uP #[.nilIface] 1 16 t bs am fun bt an=>
 Vb (bin .add i (.int .i64 1)) fun bu=>ag bt bu an) (Vb (aF 7 x d) fun bv=>S.C I.uL [bv,t] d fun bw ao=>X2 bw fun bx bz=>Eb (nw pV I.bV ao) fun aa ap=>
 Sb (aQ 9 aa bx ap) fun m=>lq (fun bq u=>Vb (aF 9 p u) fun az=>R (.tuple #[az,bq]) u) fun q=>Vb (aF 9 aa m) fun ae=>Vb (bin .eql bi (.int .i64 0)) fun b0=>
 Br b0 (Vb (bin .eql bz (.int .i64 0)) fun b1=>Sb (aQ 9 p ae m) fun ar=>q b1 ar) (Sb (aQ 9 p ae m) fun au=>q (.bool false) au)))) fun k=>Vb (lu ah) fun a2=>
 Vb (bin .lss f a2) fun a3=>Br a3 (Lf 1 a g fun a4=>Vb (bin .lss f a4) fun a5=>Br a5 (Vb (lu n) fun a6=>Vb (bin .gtr a6 (.int .i64 0)) fun a7=>k a7 g) (k (.bool false) g)) (k (.bool false) g)
def jT (S:Sys)(I:aZ)(aa:Value)(h:Hp)(R:Po):Prop:=
 Eb (nw (Value.cells aa) I.fG h) fun p i=>Eb (nw yQ I.aK i) fun g d=>Vb (aF 11 p d) fun v=>S.C I.mU [v] d fun w k=>
 Vb (C3 I.aK (Value.agg yQ) true w) fun x=>X2 x fun q t=>Eb (nw yQ I.aK k) fun a m=>Sb (aQ 13 a q m) fun e=>
 Vb (aF 13 a e) fun u=>Sb (aQ 13 g u e) fun f=>Vb (aF 13 g f) fun n=>R (.tuple #[n,t]) f
def lh (S:Sys)(I:aZ)(a9 f a8:Value)(h:Hp)(R:Po):Prop:=
 Eb (nw (Value.cells a9) I.bV h) fun a ad=>Eb (nw pV I.bV ad) fun g d=>lq (fun ap m=>Br ap (Vb (aF 9 a m) fun aq=>Sb (aQ 9 g aq m) fun t=>
 Vb (aF 9 g t) fun p=>R (.tuple #[p,(.bool false)]) t) (CY (fun e=>Vb (aF 9 a e) fun aa=>Lf 7 a e fun a3=>Vb (bin .sub f (.int .i64 1)) fun a4=>Vb (lQ 11 a3 a4) fun a5=>
 Vb (aF 11 a5 e) fun a6=>S.C I.gL [a6] e fun a7 u=>aF 9 a u=some aa∧Sb (aQ 9 g aa u) fun v=>Vb (aF 9 g v) fun p=>R (.tuple #[p,a7]) v) fun q=>
 Vb (mx a8 (.int .i64 0)) fun ar=>xN (.int .i64 0) m fun x n ab=>Vb (bin .lss x ar) fun au=>Br au (Vb (aF 9 a n) fun av=>Vb (bG [(0,1),(1,1),(2,1)] #[.int .i64 0,.int .i64 0,.int .i64 0] [(0,(.int .i64 0)),(1,f)]) fun aw=>
 S.C I.kE [av,aw] n fun ax ah=>X2 ax fun ay az=>Eb (nw pV I.bV ah) fun w ae=>Sb (aQ 9 w ay ae) fun k=>Vb (sk .not az) fun a0=>
 Br a0 (q k) (Vb (aF 9 w k) fun a1=>Sb (aQ 9 a a1 k) fun af=>Vb (bin .add x (.int .i64 1)) fun a2=>ab a2 af)) (q n))) fun i=>Vb (bin .lss f (.int .i64 1)) fun ai=>
 Br ai (i (.bool true) d) (Lf 7 a d fun aj=>Vb (lu aj) fun ak=>Vb (bin .gtr f ak) fun al=>Br al (i (.bool true) d) (Vb (aF 9 a d) fun am=>Vb (bin .sub f (.int .i64 1)) fun an=>
 S.C I.jY [am,an] d fun ao ag=>i ao ag))
def ns (S:Sys)(I:aZ)(h:Hp)(R:Po):Prop:=
 Eb (nw #[.int .i64 0,.int .i64 0,.int .i64 0] I.bB h) fun a d=>Vb (bG [(0,1),(1,1),(2,1)] #[.int .i64 0,.int .i64 0,.int .i64 0] [(0,(.int .i64 3)),(1,(.int .i64 6)),(2,(.int .i64 4))]) fun f=>
 Sb (aQ 3 a f d) fun e=>Rl 3 a e R
def lH (S:Sys)(I:aZ)(e g:Value)(h:Hp)(R:Po):Prop:=
 Vb (lu e) fun w=>Vb (lu g) fun x=>Vb (bin .neq w x) fun i=>Br i (R (.bool false) h) (xN (.int .i64 0) h fun d a f=>Vb (lu e) fun k=>Vb (bin .lss d k) fun m=>
 Br m (Vb (lQ 3 e d) fun p=>Vb (aF 3 p a) fun q=>Vb (lQ 3 g d) fun t=>Vb (aF 3 t a) fun u=>Vb (BZ (E5 [true,true,true] q u)) fun v=>Br v (R (.bool false) a) (Vb (bin .add d (.int .i64 1)) fun n=>
 f n a)) (R (.bool true) a))
def jQ (S:Sys)(I:aZ)(am k:Value)(h:Hp)(R:Po):Prop:=
 Eb (nw (Value.cells am) I.bB h) fun i n=>Eb (pb #[.int .i64 0,.int .u32 0,.int .u32 0] 3 0 I.aJ [] n) fun al p=>Ap I.aJ #[.int .i64 0,.int .u32 0,.int .u32 0] 3 16 al k p fun f q=>
 xN (.int .i64 0) q fun a d m=>Vb (lu k) fun x=>Vb (bin .lss a x) fun aa=>Br aa (CY (fun t=>Vb (bin .add a (.int .i64 1)) fun ab=>m ab t) fun g=>Vb (aF 3 i d) fun ad=>
 S.C I.eV [ad,a] d fun ae e=>Br ae (Vb (aF 3 i e) fun af=>S.C I.rj [af,k,a] e fun ag u=>X2 ag fun ah an=>Vb (lQ 3 f a) fun ai=>
 Sb (aQ 3 ai ah u) fun v=>g v) (Vb (bG [(0,1),(1,1),(2,1)] #[.int .i64 0,.int .u32 0,.int .u32 0] []) fun aj=>Vb (lQ 3 f a) fun ak=>Sb (aQ 3 ak aj e) fun w=>
 g w)) (R f d)
def km (S:Sys)(I:aZ)(aj:Value)(h:Hp)(R:Po):Prop:=
 Eb (nw (Value.cells aj) I.bR h) fun g e=>Vb (aF 7 g e) fun v=>S.C I.eH [v] e fun w n=>X2 w fun ak x=>Az (.slice none 0 0) (.int .i64 0) n fun i d a m=>
 Vb (bin .lss d x) fun aa=>Br aa (Vb (aF 7 g a) fun ab=>S.C I.bI [ab,d] a fun ad p=>X2 ad fun ae al=>Eb (nw #[.int .i64 0,.int .u32 0,.int .u32 0] I.aJ p) fun k q=>
 Sb (aQ 3 k ae q) fun f=>Vb (aF 3 k f) fun af=>Eb (pb #[.int .i64 0,.int .u32 0,.int .u32 0] 3 1 I.aJ [(0,af)] f) fun ag t=>Ap I.aJ #[.int .i64 0,.int .u32 0,.int .u32 0] 3 16 i ag t fun ah u=>
 Vb (bin .add d (.int .i64 1)) fun ai=>m ah ai u) (R i a)
def ou (S:Sys)(I:aZ)(g:Value)(h:Hp)(R:Po):Prop:=
 Eb (nw (Value.cells g) I.fG h) fun d a=>Lf 10 d a fun e=>Vb (lu e) fun f=>R f a
def kQ (S:Sys)(I:aZ)(v u:Value)(h:Hp)(R:Po):Prop:=
 Eb (nw (Value.cells v) I.bR h) fun i f=>Eb (nw #[.int .i64 0,.int .u32 0,.int .u32 0] I.aJ f) fun e a=>Vb (fa 0 i) fun p=>Vb (aF 2 p a) fun q=>
 S.C I.ma [q,u] a fun t g=>X2 t fun m n=>Sb (aQ 3 e m g) fun d=>Vb (aF 3 e d) fun k=>R (.tuple #[k,n]) d
def pa (S:Sys)(I:aZ)(k i:Value)(h:Hp)(R:Po):Prop:=
 Eb (nw (Value.cells k) I.bB h) fun e a=>Vb (aF 3 e a) fun f=>S.C I.fC [f,(.int .i64 3),i,(.int .i64 0)] a fun g d=>R g d
def oh (S:Sys)(I:aZ)(a2:Value)(h:Hp)(R:Po):Prop:=
 Eb (nw (Value.cells a2) I.bB h) fun a m=>Vb (aF 3 a m) fun ay=>S.C I.eX [ay] m fun az g=>Vb (sk .not az) fun a0=>Br a0 (R (.slice none 0 0) g) (Vb (aF 3 a g) fun a1=>
 S.C I.gO [a1] g fun p w=>Eb (J9 #[.int .i64 0,.int .u32 0,.int .u32 0] 3 16 I.aJ p p w) fun e n=>Vb (aF 3 a n) fun ae=>S.C I.mQ [ae] n fun af x=>
 Vb (lQ 3 e af) fun ag=>Vb (fa 0 ag) fun ah=>Sb (aQ 1 ah (.int .i64 1) x) fun aa=>xN (.int .i64 1) aa fun i d q=>Lf 0 a d fun ai=>Vb (bin .leq i ai) fun aj=>
 Br aj (Vb (aF 3 a d) fun al=>S.C I.gK [al,i] d fun am ab=>Vb (lQ 3 e am) fun an=>Vb (fa 0 an) fun ao=>Sb (aQ 1 ao (.int .i64 2) ab) fun ad=>
 Vb (bin .add i (.int .i64 1)) fun ak=>q ak ad) (Lf 2 a d fun ap=>xN (.int .i64 0) d fun k f t=>Vb (bin .lss k ap) fun aq=>Br aq (Vb (aF 3 a f) fun ar=>
 S.C I.fY [ar,k] f fun au u=>Vb (lQ 3 e au) fun av=>Vb (fa 0 av) fun aw=>Sb (aQ 1 aw (.int .i64 2) u) fun v=>Vb (bin .add k (.int .i64 1)) fun ax=>
 t ax v) (R e f)))
def vt (S:Sys)(I:aZ)(q ap:Value)(h:Hp)(R:Po):Prop:=
 Eb (nw Bf I.bR h) fun a x=>S.C I.tD [q,ap] x fun af aa=>X2 af fun ag t=>Eb (nw #[.slice none 0 0,.slice none 0 0] I.aM aa) fun i ab=>
 Sb (aQ 2 i ag ab) fun m=>Vb (bin .neq t (.int .i64 0)) fun ah=>Br ah (Vb (bG [(0,2),(2,3),(5,1),(6,1)] Bf []) fun ai=>Sb (aQ 7 a ai m) fun n=>Vb (aF 7 a n) fun d=>
 R (.tuple #[d,t]) n) (S.C I.xy [ap] m fun aj ad=>X2 aj fun ak u=>Eb (nw #[.slice none 0 0,.slice none 0 0,.map none] I.jR ad) fun g ae=>
 Sb (aQ 3 g ak ae) fun e=>Vb (bin .neq u (.int .i64 0)) fun al=>Br al (Vb (bG [(0,2),(2,3),(5,1),(6,1)] Bf []) fun am=>Sb (aQ 7 a am e) fun p=>Vb (aF 7 a p) fun d=>
 R (.tuple #[d,u]) p) (Vb (aF 2 i e) fun v=>Vb (aF 3 g e) fun w=>Eb (J9 #[.int .i64 0] 1 8 I.Lv q q e) fun an f=>aF 3 g f=some w∧aF 2 i f=some v∧Vb (bG [(0,2),(2,3),(5,1),(6,1)] Bf [(0,v),(1,w),(2,an)]) fun ao=>
 Sb (aQ 7 a ao f) fun k=>Vb (aF 7 a k) fun d=>R (.tuple #[d,(.int .i64 0)]) k))
def uX (S:Sys)(I:aZ)(bc k:Value)(h:Hp)(R:Po):Prop:=
 Eb (nw (Value.cells bc) I.bR h) fun a ak=>Eb (nw pV I.bV ak) fun i ad=>Vb (aF 7 a ad) fun aq=>S.C I.eH [aq] ad fun ar f=>
 X2 ar fun au bd=>Vb (lu k) fun av=>Vb (bin .gtr av au) fun aw=>Br aw (Vb (bG [(0,7),(7,1),(8,1)] pV []) fun ax=>Sb (aQ 9 i ax f) fun ae=>Vb (aF 9 i ae) fun m=>
 R (.tuple #[m,(.int .i64 15)]) ae) (lq (fun t ao=>Vb (lu k) fun a2=>xN (.int .i64 0) ao fun n e aj=>Vb (bin .lss n a2) fun a3=>Br a3 (Vb (lQ 1 k n) fun a4=>
 Vb (dU a4 e) fun a5=>Vb (fa 7 t) fun p=>Vb (dU p e) fun q=>S.C I.r7 [a5] e fun a6 af=>dU p af=some q∧Eb (pb xe 11 1 I.fG [(0,a6)] af) fun a7 ag=>
 dU p ag=some q∧Ap I.fG xe 11 96 q a7 ag fun a8 ap=>Vb (fa 7 t) fun a9=>Sb (aQ 1 a9 a8 ap) fun al=>Vb (bin .add n (.int .i64 1)) fun ba=>
 aj ba al) (Vb (aF 9 t e) fun bb=>Sb (aQ 9 i bb e) fun v=>Vb (aF 9 i v) fun m=>R (.tuple #[m,(.int .i64 0)]) v)) fun u=>Vb (aF 7 a f) fun d=>Vb (lu k) fun g=>
 And (Eb (J9 #[.bool false] 1 1 I.AA g g f) fun ay w=>aF 7 a w=some d∧Vb (bG [(0,7),(7,1),(8,1)] pV [(0,d),(2,ay)]) fun a0=>Eb (nw pV I.bV w) fun ah x=>
 aF 7 a x=some d∧Sb (aQ 9 ah a0 x) fun am=>u ah am) (Eb (nw pV I.bV f) fun ai aa=>aF 7 a aa=some d∧Eb (J9 #[.bool false] 1 1 I.AA g g aa) fun az ab=>
 aF 7 a ab=some d∧Vb (bG [(0,7),(7,1),(8,1)] pV [(0,d),(2,az)]) fun a1=>Sb (aQ 9 ai a1 ab) fun an=>u ai an))
def oK (S:Sys)(I:aZ)(p:Value)(h:Hp)(R:Po):Prop:=
 Eb (nw (Value.cells p) I.bV h) fun m a=>Vb (fa 0 m) fun f=>Vb (aF 7 f a) fun g=>S.C I.eH [g] a fun i d=>X2 i fun k n=>Vb (bin .eql k (.int .i64 0)) fun e=>
 R e d
def fA (S:Sys)(I:aZ)(ah f:Value)(h:Hp)(R:Po):Prop:=
 Eb (nw (Value.cells ah) I.bV h) fun g a=>lq (fun af i=>R af i) fun d=>Vb (bin .geq f (.int .i64 1)) fun ag=>Br ag (Lf 7 g a fun m=>Vb (lu m) fun n=>
 Vb (bin .leq f n) fun p=>Br p (Vb (aF 9 g a) fun q=>Vb (bin .sub f (.int .i64 1)) fun t=>S.C I.jY [q,t] a fun u e=>Vb (sk .not u) fun v=>
 Br v (Lf 7 g e fun w=>Vb (bin .sub f (.int .i64 1)) fun x=>Vb (lQ 11 w x) fun aa=>Vb (aF 11 aa e) fun ab=>S.C I.gL [ab] e fun ad k=>Vb (sk .not ad) fun ae=>
 d ae k) (d (.bool false) e)) (d (.bool false) a)) (d (.bool false) a)
def oB (S:Sys)(I:aZ)(bj k bh:Value)(h:Hp)(R:Po):Prop:=
 Eb (nw (Value.cells bj) I.bV h) fun a aa=>Eb (nw pV I.bV aa) fun x g=>Lf 7 a g fun am=>Vb (bin .sub k (.int .i64 1)) fun an=>Vb (lQ 11 am an) fun ao=>
 Vb (aF 11 ao g) fun ap=>S.C I.qw [ap] g fun aq ag=>X2 aq fun ar bi=>Eb (nw aV I.aI ag) fun n ah=>Sb (aQ 8 n ar ah) fun i=>Vb (fa 0 a) fun au=>
 Vb (aF 7 au i) fun av=>Vb (aF 8 n i) fun aw=>S.C I.fB [av,k,aw,bh] i fun ax ai=>X3 ax fun ay az a0=>Eb (nw Bf I.bR ai) fun u aj=>
 Eb (nw #[.int .i64 0,.int .u32 0,.int .u32 0,.bool false] I.aW aj) fun e ak=>Sb (aQ 7 u ay ak) fun al=>Sb (aQ 4 e az al) fun f=>CY (fun p=>Lf 7 a p fun a5=>
 S.C I.eI [a5] p fun a6 ab=>Vb (fa 7 a) fun a7=>Sb (aQ 1 a7 a6 ab) fun d=>Vb (fa 7 a) fun v=>Vb (dU v d) fun w=>Vb (bin .sub k (.int .i64 1)) fun a8=>
 Lf 7 a d fun a9=>Vb (bin .sub k (.int .i64 1)) fun ba=>Vb (lQ 11 a9 ba) fun bb=>Vb (aF 11 bb d) fun bc=>Vb (aF 4 e d) fun bd=>S.C I.m7 [bc,bd] d fun be q=>
 dU v q=some w∧Vb (lQ 11 w a8) fun bf=>Sb (aQ 11 bf be q) fun t=>Vb (aF 9 a t) fun bg=>Sb (aQ 9 x bg t) fun ad=>Rl 9 x ad R) fun m=>Vb (bin .neq a0 (.int .i64 0)) fun a1=>
 Br a1 (Vb (bG [(0,3),(3,1)] #[.int .i64 0,.int .u32 0,.int .u32 0,.bool false] []) fun a2=>Sb (aQ 4 e a2 f) fun ae=>m ae) (Vb (aF 7 u f) fun a3=>Vb (fa 0 a) fun a4=>
 Sb (aQ 7 a4 a3 f) fun af=>m af)
def mA (S:Sys)(I:aZ)(u g:Value)(h:Hp)(R:Po):Prop:=
 Eb (nw (Value.cells u) I.bV h) fun e a=>lq (fun n f=>R n f) fun d=>Lf 8 e a fun p=>Vb (lu p) fun q=>Vb (bin .lss g q) fun t=>Br t (Lf 8 e a fun i=>
 Vb (lQ 1 i g) fun k=>Vb (dU k a) fun m=>d m a) (d (.bool false) a)
def kJ (S:Sys)(I:aZ)(ap e:Value)(h:Hp)(R:Po):Prop:=
 Eb (nw (Value.cells ap) I.bB h) fun a n=>Vb (aF 3 a n) fun am=>S.C I.eX [am] n fun an f=>Vb (sk .not an) fun ao=>Br ao (R (.bool false) f) (Vb (aF 3 a f) fun u=>
 S.C I.dH [u,(.int .i64 3)] f fun v g=>Vb (bin .sub e v) fun q=>lq (fun ab i=>Br ab (R (.bool true) i) (lq (fun al t=>R al t) fun d=>
 Vb (aF 3 a i) fun ad=>S.C I.dH [ad,(.int .i64 2)] i fun ae k=>Vb (bin .geq e ae) fun af=>Br af (Vb (aF 3 a k) fun ag=>S.C I.dH [ag,(.int .i64 3)] k fun ah p=>
 Vb (bin .lss e ah) fun ai=>Br ai (Vb (bin .rem e (.int .i64 8)) fun aj=>Vb (bin .lss aj (.int .i64 3)) fun ak=>d ak p) (d (.bool false) p)) (d (.bool false) k))) fun m=>
 Vb (bin .geq q (.int .i64 0)) fun w=>Br w (Lf 1 a g fun x=>Vb (bin .lss q x) fun aa=>m aa g) (m (.bool false) g))
def rI (S:Sys)(I:aZ)(cf ar ag:Value)(h:Hp)(R:Po):Prop:=
 Eb (nw (Value.cells cf) I.bB h) fun q av=>Eb (nw #[.int .i64 0,.int .u32 0,.int .u32 0] I.aJ av) fun a aj=>lq (fun a2 x=>Br a2 (Vb (bG [(0,1),(1,1),(2,1)] #[.int .i64 0,.int .u32 0,.int .u32 0] []) fun ba=>
 Sb (aQ 3 a ba x) fun am=>Vb (aF 3 a am) fun d=>R (.tuple #[d,(.int .i64 1)]) am) (Vb (aF 3 q x) fun bb=>S.C I.eV [bb,ag] x fun bc aa=>
 Vb (sk .not bc) fun bd=>Br bd (Vb (bG [(0,1),(1,1),(2,1)] #[.int .i64 0,.int .u32 0,.int .u32 0] []) fun be=>Sb (aQ 3 a be aa) fun an=>Vb (aF 3 a an) fun d=>
 R (.tuple #[d,(.int .i64 10)]) an) (Vb (lQ 3 ar ag) fun bf=>Vb (aF 3 bf aa) fun bg=>Eb (nw #[.int .i64 0,.int .u32 0,.int .u32 0] I.aJ aa) fun f a1=>
 Sb (aQ 3 f bg a1) fun ao=>Lf 2 f ao fun bh=>S.C I.qL [bh] ao fun bi ab=>X2 bi fun ap bj=>Lf 0 f ab fun bk=>Lf 1 f ab fun bl=>Vb (bG [(0,1),(1,1),(2,1)] #[.int .i64 0,.int .u32 0,.int .u32 0] [(0,bk),(1,bl)]) fun bm=>
 Eb (nw #[.int .i64 0,.int .u32 0,.int .u32 0] I.aJ ab) fun t aw=>Sb (aQ 3 t bm aw) fun i=>Vb (bin .eql ap (.int .i64 0)) fun bn=>Br bn (Vb (aF 3 t i) fun bo=>
 Sb (aQ 3 a bo i) fun ah=>Vb (aF 3 a ah) fun d=>R (.tuple #[d,(.int .i64 0)]) ah) (Vb (aF 3 q i) fun bp=>S.C I.Dg [bp,ar,ap] i fun bq ax=>X2 bq fun br bs=>
 Eb (nw #[.int .i64 0,.int .i64 0,.int .i64 0,.slice none 0 0] I.Dl ax) fun g ay=>Sb (aQ 4 g br ay) fun e=>lq (fun bz k=>Br bz (Vb (aF 3 t k) fun b0=>
 Sb (aQ 3 a b0 k) fun ai=>Vb (aF 3 a ai) fun d=>R (.tuple #[d,(.int .i64 0)]) ai) (Lf 3 g k fun aq=>Vb (lu aq) fun b1=>xN (.int .i64 0) k fun ad m au=>
 Vb (bin .lss ad b1) fun b2=>Br b2 (Vb (lQ 6 aq ad) fun b3=>Vb (aF 6 b3 m) fun b4=>Eb (nw ql I.bX m) fun u az=>Sb (aQ 6 u b4 az) fun n=>lq (fun b8 p=>
 Br b8 (Lf 4 u p fun b9=>Lf 1 f p fun ca=>Vb (bin .add ca (.int .u32 1)) fun cb=>Vb (bG [(0,1),(1,1),(2,1)] #[.int .i64 0,.int .u32 0,.int .u32 0] [(0,b9),(1,cb)]) fun cc=>
 Sb (aQ 3 a cc p) fun ak=>Vb (aF 3 a ak) fun d=>R (.tuple #[d,(.int .i64 0)]) ak) (Vb (bin .add ad (.int .i64 1)) fun cd=>au cd p)) fun af=>Lf 0 u n fun b5=>
 Vb (bin .eql b5 ag) fun b6=>Br b6 (Lf 5 u n fun b7=>af b7 n) (af (.bool false) n)) (Vb (aF 3 t m) fun ce=>Sb (aQ 3 a ce m) fun al=>Vb (aF 3 a al) fun d=>
 R (.tuple #[d,(.int .i64 0)]) al))) fun v=>Vb (bin .neq bs (.int .i64 0)) fun bt=>Br bt (v (.bool true) e) (Lf 1 g e fun bu=>Vb (bin .neq bu bj) fun bv=>
 Br bv (v (.bool true) e) (Lf 2 g e fun bw=>Vb (bin .neq bw (.int .i64 1)) fun bx=>v bx e)))))) fun ae=>Vb (aF 3 q aj) fun a3=>S.C I.cI [a3] aj fun a4 w=>
 Vb (bin .neq a4 (.int .i64 0)) fun a5=>Br a5 (ae (.bool true) w) (Vb (lu ar) fun a6=>Vb (aF 3 q w) fun a7=>S.C I.gO [a7] w fun a8 a0=>
 Vb (bin .lss a6 a8) fun a9=>ae a9 a0)
def nF (S:Sys)(I:aZ)(n:Value)(h:Hp)(R:Po):Prop:=
 Eb (nw (Value.cells n) I.bR h) fun e a=>Vb (fa 0 e) fun f=>Vb (aF 2 f a) fun g=>S.C I.lY [g] a fun i d=>X2 i fun k m=>
 R (.tuple #[k,m]) d
def pz (S:Sys)(I:aZ)(ae ad:Value)(h:Hp)(R:Po):Prop:=
 Eb (nw (Value.cells ae) I.aM h) fun p i=>Eb (nw #[.int .i64 0,.int .u32 0,.int .u32 0] I.aJ i) fun f a=>Vb (aF 2 p a) fun ab=>S.C I.kw [ab,ad] a fun t k=>
 X2 t fun u v=>Eb (nw #[.slice none 0 0] I.bH k) fun g m=>Sb (aQ 1 g u m) fun d=>Vb (aF 1 g d) fun w=>S.C I.kR [w] d fun x n=>
 Vb (Zz 0 3 x) fun aa=>Sb (aQ 3 f aa n) fun e=>Vb (aF 3 f e) fun q=>R (.tuple #[q,v]) e
def qA (S:Sys)(I:aZ)(aj m k ak:Value)(h:Hp)(R:Po):Prop:=
 Eb (nw (Value.cells aj) I.bB h) fun f g=>lq (fun ab a=>Br ab (R (.int .i64 (-1)) a) (Vb (aF 3 f a) fun ad=>Vb (Jj 7 1 (.pointer (some ⟨0,0,none⟩)) m) fun n=>
 Vb (dU n a) fun p=>Vb (bin .mul k p) fun af=>S.C I.dH [ad,m] a fun ae i=>dU n i=some p∧Vb (bin .add ae af) fun ag=>Vb (bin .add ag ak) fun ah=>
 R ah i)) fun e=>Vb (aF 3 f g) fun ai=>S.C I.eX [ai] g fun t d=>Vb (sk .not t) fun u=>Br u (e (.bool true) d) (Vb (bin .lss k (.int .i64 0)) fun v=>
 Br v (e (.bool true) d) (Vb (aF 3 f d) fun w=>S.C I.gN [w,m] d fun x q=>Vb (bin .geq k x) fun aa=>e aa q))
def om (S:Sys)(I:aZ)(k:Value)(h:Hp)(R:Po):Prop:=
 Eb (nw (Value.cells k) I.bB h) fun e a=>Vb (aF 3 e a) fun f=>S.C I.cI [f] a fun g d=>Vb (bin .eql g (.int .i64 0)) fun i=>
 R i d
def py (S:Sys)(I:aZ)(p:Value)(h:Hp)(R:Po):Prop:=
 Eb (nw (Value.cells p) I.bB h) fun e d=>Vb (aF 3 e d) fun g=>S.C I.eX [g] d fun i a=>Vb (sk .not i) fun k=>Br k (R (.int .i64 0) a) (Vb (aF 3 e a) fun m=>
 S.C I.dH [m,(.int .i64 7)] a fun n f=>R n f)
def p7 (S:Sys)(I:aZ)(i:Value)(h:Hp)(R:Po):Prop:=
 Eb (nw (Value.cells i) I.bB h) fun e a=>Vb (aF 3 e a) fun f=>S.C I.fC [f,(.int .i64 0),(.int .i64 0),(.int .i64 1)] a fun g d=>
 R g d
def oU (S:Sys)(I:aZ)(k m:Value)(h:Hp)(R:Po):Prop:=
 Eb (nw (Value.cells k) I.bB h) fun e a=>Vb (aF 3 e a) fun f=>Vb (bin .sub m (.int .i64 1)) fun g=>S.C I.fC [f,(.int .i64 4),g,(.int .i64 0)] a fun i d=>
 R i d
def ol (S:Sys)(I:aZ)(k i:Value)(h:Hp)(R:Po):Prop:=
 Eb (nw (Value.cells k) I.bB h) fun e a=>Vb (aF 3 e a) fun f=>S.C I.fC [f,(.int .i64 6),i,(.int .i64 0)] a fun g d=>R g d
def xf (S:Sys)(I:aZ)(k q:Value)(h:Hp)(R:Po):Prop:=
 Eb (nw #[.slice none 0 0,.slice none 0 0] I.aM h) fun a u=>lq (fun ba e=>Br ba (Vb (bG [(0,1),(1,1)] #[.slice none 0 0,.slice none 0 0] []) fun ao=>
 Sb (aQ 2 a ao e) fun aa=>Vb (aF 2 a aa) fun d=>R (.tuple #[d,(.int .i64 3)]) aa) (Vb (lu q) fun ap=>Vb (bin .eql ap (.int .i64 0)) fun aq=>Br aq (Vb (bG [(0,1),(1,1)] #[.slice none 0 0,.slice none 0 0] []) fun ar=>
 Sb (aQ 2 a ar e) fun ab=>Vb (aF 2 a ab) fun d=>R (.tuple #[d,(.int .i64 8)]) ab) (Vb (lu q) fun au=>Vb (bin .gtr au (.int .i64 4096)) fun av=>Br av (Vb (bG [(0,1),(1,1)] #[.slice none 0 0,.slice none 0 0] []) fun aw=>
 Sb (aQ 2 a aw e) fun ad=>Vb (aF 2 a ad) fun d=>R (.tuple #[d,(.int .i64 15)]) ad) (Eb (J9 #[.map none] 1 8 I.eG k k e) fun ax aj=>Vb (bG [(0,1),(1,1)] #[.slice none 0 0,.slice none 0 0] [(1,ax)]) fun ay=>
 Eb (nw #[.slice none 0 0,.slice none 0 0] I.aM aj) fun g ak=>Sb (aQ 2 g ay ak) fun al=>Vb (lu q) fun az=>xN (.int .i64 0) al fun m f af=>
 Vb (bin .lss m az) fun a0=>Br a0 (Vb (lQ 3 q m) fun a1=>Vb (aF 3 a1 f) fun a2=>Eb (nw #[.int .i64 0,.int .u32 0,.int .u32 0] I.aJ f) fun ae ag=>
 Sb (aQ 3 ae a2 ag) fun i=>Vb (fa 0 g) fun n=>Vb (dU n i) fun p=>Vb (aF 3 ae i) fun a3=>S.C I.qv [a3] i fun a4 v=>dU n v=some p∧Eb (pb #[.slice none 0 0] 1 1 I.bH [(0,a4)] v) fun a5 w=>
 dU n w=some p∧Ap I.bH #[.slice none 0 0] 1 24 p a5 w fun a6 ah=>Vb (fa 0 g) fun a7=>Sb (aQ 1 a7 a6 ah) fun ai=>Vb (bin .add m (.int .i64 1)) fun a8=>
 af a8 ai) (Vb (aF 2 g f) fun a9=>Sb (aQ 2 a a9 f) fun x=>Vb (aF 2 a x) fun d=>R (.tuple #[d,(.int .i64 0)]) x))))) fun t=>Vb (bin .lss k (.int .i64 1)) fun am=>
 Br am (t (.bool true) u) (Vb (bin .gtr k (.int .i64 8)) fun an=>t an u)
def AF (S:Sys)(I:aZ)(g:Value)(h:Hp)(R:Po):Prop:=
 Eb (nw #[.slice none 0 0,.slice none 0 0,.map none] I.jR h) fun a e=>Vb (lu g) fun ah=>Vb (bin .gtr ah (.int .i64 4096)) fun ai=>Br ai (Vb (bG [(0,1),(1,1),(2,1)] #[.slice none 0 0,.slice none 0 0,.map none] []) fun aj=>
 Sb (aQ 3 a aj e) fun k=>Vb (aF 3 a k) fun f=>R (.tuple #[f,(.int .i64 7)]) k) (lq (fun ag m=>Vb (aF 3 a m) fun f=>R (.tuple #[f,ag]) m) fun i=>Vb (lu g) fun w=>
 Vb (bin .add w (.int .i64 8)) fun x=>Vb (bin .sub x (.int .i64 1)) fun aa=>Vb (bin .quo aa (.int .i64 8)) fun d=>And (S.C I.dE [g] e fun ak n=>
 Eb (J9 #[.slice none 0 0,.int .i64 0] 2 32 I.ue d d n) fun ab p=>Vb (bG [(0,1),(1,1),(2,1)] #[.slice none 0 0,.slice none 0 0,.map none] [(0,ak),(1,ab)]) fun ae=>
 Sb (aQ 3 a ae p) fun q=>i (.int .i64 0) q) (Eb (J9 #[.slice none 0 0,.int .i64 0] 2 32 I.ue d d e) fun ad t=>S.C I.dE [g] t fun al u=>
 Vb (bG [(0,1),(1,1),(2,1)] #[.slice none 0 0,.slice none 0 0,.map none] [(0,al),(1,ad)]) fun af=>Sb (aQ 3 a af u) fun v=>i (.int .i64 0) v))
def pN (S:Sys)(I:aZ)(e:Value)(h:Hp)(R:Po):Prop:=
 Eb (nw xe I.fG h) fun a d=>Vb (inl .eql e) fun t=>Br t (Vb (bG [(0,1),(1,1),(2,8),(10,1)] xe []) fun u=>Sb (aQ 11 a u d) fun f=>Rl 11 a f R) (Vb (bG [(0,1),(1,1),(2,8),(10,1)] xe []) fun v=>
 Vb (bG [(0,3),(3,1)] #[.int .i64 0,.int .u32 0,.int .u32 0,.bool false] []) fun w=>Ci S.C I.mt "Next" e [w] d fun x g=>X3 x fun m n p=>S.C I.jJ [v,m,n,p] g fun q i=>
 Sb (aQ 11 a q i) fun k=>Rl 11 a k R)
def nE (S:Sys)(I:aZ)(e:Value)(h:Hp)(R:Po):Prop:=
 Vb (pos? (Qa e (.slice none 0 0))) fun f=>Br f (R (.slice none 0 0) h) (Eb (pb #[.int .i64 0] 1 0 I.Lv [] h) fun g a=>Ap I.Lv #[.int .i64 0] 1 8 g e a fun i d=>
 R i d)
def qy (S:Sys)(I:aZ)(u:Value)(h:Hp)(R:Po):Prop:=
 Eb (nw (Value.cells u) I.fG h) fun f m=>Eb (nw aV I.aI m) fun g a=>Vb (fa 2 f) fun i=>Vb (aF 8 i a) fun k=>Vb (aF 11 f a) fun p=>S.C I.gL [p] a fun q d=>
 aF 8 i d=some k∧Vb (sk .not q) fun t=>Sb (aQ 8 g k d) fun e=>Vb (aF 8 g e) fun n=>R (.tuple #[n,t]) e
def bP (S:Sys)(I:aZ)(ca i b8 b9:Value)(h:Hp)(R:Po):Prop:=
 Eb (nw (Value.cells ca) I.bR h) fun d ai=>Eb (nw (Value.cells b8) I.aI ai) fun e an=>Eb (nw Bf I.bR an) fun k ax=>
 Eb (nw #[.int .i64 0,.int .u32 0,.int .u32 0,.bool false] I.aW ax) fun m t=>Vb (aF 7 d t) fun a0=>Vb (aF 8 e t) fun a1=>S.C I.kB [a0,i,a1] t fun ae u=>
 Vb (bin .neq ae (.int .i64 0)) fun a2=>Br a2 (Vb (aF 7 d u) fun a3=>Vb (bG [(0,3),(3,1)] #[.int .i64 0,.int .u32 0,.int .u32 0,.bool false] []) fun a4=>
 Sb (aQ 7 k a3 u) fun ay=>Sb (aQ 4 m a4 ay) fun v=>Vb (aF 7 k v) fun w=>Vb (aF 4 m v) fun x=>R (.tuple #[w,x,ae]) v) (Vb (bG [(0,3),(3,1)] #[.int .i64 0,.int .u32 0,.int .u32 0,.bool false] [(1,(.bool true))]) fun a5=>
 Eb (nw #[.int .i64 0,.int .u32 0,.int .u32 0,.bool false] I.aW u) fun g az=>Sb (aQ 4 g a5 az) fun ad=>CY (fun aa=>Lf 5 d aa fun b0=>S.C I.kN [b0] aa fun b1 aj=>
 Vb (fa 5 d) fun b2=>Sb (aQ 1 b2 b1 aj) fun n=>Lf 5 d n fun af=>Vb (bin .sub i (.int .i64 1)) fun ag=>Vb (lQ 1 af ag) fun b3=>Vb (dU b3 n) fun b4=>Vb (bin .add b4 (.int .i64 1)) fun b5=>
 Vb (lQ 1 af ag) fun b6=>Sb (aQ 1 b6 b5 n) fun p=>Vb (aF 7 d p) fun b7=>Vb (aF 4 g p) fun ah=>Sb (aQ 7 k b7 p) fun ab=>aF 4 g ab=some ah∧Sb (aQ 4 m ah ab) fun q=>
 Vb (aF 7 k q) fun w=>Vb (aF 4 m q) fun x=>R (.tuple #[w,x,(.int .i64 0)]) q) fun f=>Vb (aF 8 e ad) fun a6=>S.C I.oz [a6] ad fun a7 a=>
 Br a7 (Vb (aF 7 d a) fun a8=>Vb (aF 8 e a) fun a9=>S.C I.gQ [a8,i,a9] a fun ba ak=>X2 ba fun bb bc=>Sb (aQ 7 d bb ak) fun al=>Sb (aQ 4 g bc al) fun am=>
 f am) (Lf 0 e a fun bd=>Vb (bin .eql bd (.int .i64 7)) fun be=>Br be (Vb (fa 2 d) fun bf=>Vb (aF 3 bf a) fun bg=>Lf 1 e a fun bh=>S.C I.nA [bg,i,bh] a fun bi ao=>
 X2 bi fun bj cb=>Vb (fa 2 d) fun bk=>Sb (aQ 3 bk bj ao) fun ap=>f ap) (Lf 0 e a fun bl=>Vb (bin .eql bl (.int .i64 8)) fun bm=>Br bm (Vb (fa 2 d) fun bn=>
 Vb (aF 3 bn a) fun bo=>S.C I.oC [bo,i] a fun bp aq=>X2 bp fun bq cc=>Vb (fa 2 d) fun br=>Sb (aQ 3 br bq aq) fun ar=>f ar) (Lf 0 e a fun bs=>
 Vb (bin .neq bs (.int .i64 0)) fun bt=>Br bt (Vb (aF 7 d a) fun bu=>Vb (aF 8 e a) fun bv=>S.C I.iI [bu,i,bv,b9] a fun bw au=>X2 bw fun bx bz=>
 Sb (aQ 7 d bx au) fun av=>Sb (aQ 4 g bz av) fun aw=>f aw) (f a)))))
def gJ (S:Sys)(I:aZ)(e:Value)(h:Hp)(R:Po):Prop:=
 Vb (pos? (Qa e (.slice none 0 0))) fun f=>Br f (R (.slice none 0 0) h) (Eb (pb xe 11 0 I.fG [] h) fun g a=>Ap I.fG xe 11 96 g e a fun i d=>
 R i d)
def k8 (S:Sys)(I:aZ)(a5 a4:Value)(h:Hp)(R:Po):Prop:=
 Eb (nw (Value.cells a5) I.fG h) fun a w=>Eb (nw (Value.cells a4) I.aW w) fun f ag=>Eb (nw xe I.fG ag) fun e q=>Vb (aF 11 a q) fun a1=>
 S.C I.gL [a1] q fun a2 d=>Br a2 (Vb (aF 11 a d) fun a3=>Sb (aQ 11 e a3 d) fun ah=>Rl 11 e ah R) (Lf 1 a d fun ak=>CY (fun g=>Vb (aF 11 a g) fun v=>
 Vb (aF 4 f g) fun av=>Cw S.C S.Y I.mt ak [av] g fun aw t=>aF 11 a t=some v∧X3 aw fun ax ay az=>S.C I.jJ [v,ax,ay,az] t fun a0 ai=>Sb (aQ 11 e a0 ai) fun aj=>
 Rl 11 e aj R) fun m=>Vb (fa 10 a) fun u=>Vb (dU u d) fun i=>Vb (aF 4 f d) fun k=>And (S.C I.eE [i] d fun al n=>aF 4 f n=some k∧Eb (pb #[.int .i64 0,.int .u32 0,.int .u32 0,.bool false] 4 1 I.aW [(0,k)] n) fun an x=>
 Ap I.aW #[.int .i64 0,.int .u32 0,.int .u32 0,.bool false] 4 24 al an x fun ap aa=>Vb (fa 10 a) fun ar=>Sb (aQ 1 ar ap aa) fun ab=>m ab) (Eb (pb #[.int .i64 0,.int .u32 0,.int .u32 0,.bool false] 4 1 I.aW [(0,k)] d) fun ao p=>
 dU u p=some i∧S.C I.eE [i] p fun am ad=>Ap I.aW #[.int .i64 0,.int .u32 0,.int .u32 0,.bool false] 4 24 am ao ad fun aq ae=>
 Vb (fa 10 a) fun au=>Sb (aQ 1 au aq ae) fun af=>m af))
def pq (S:Sys)(I:aZ)(u v:Value)(h:Hp)(R:Po):Prop:=
 Eb (nw (Value.cells u) I.bB h) fun k g=>Az (.int .i64 0) (.int .i64 0) g fun e d a f=>Vb (bin .lss d v) fun t=>Br t (Vb (aF 3 k a) fun m=>
 S.C I.l8 [m,d] a fun n i=>Vb (bin .add e n) fun p=>Vb (bin .add d (.int .i64 1)) fun q=>f p q i) (R e a)
def ot (S:Sys)(I:aZ)(ag:Value)(h:Hp)(R:Po):Prop:=
 Eb (nw (Value.cells ag) I.bB h) fun a i=>lq (fun ab e=>Br ab (R (.int .i64 3) e) (Vb (aF 3 a e) fun w=>S.C I.dH [w,(.int .i64 7)] e fun x k=>
 Vb (bin .gtr x (.int .i64 4096)) fun aa=>Br aa (R (.int .i64 19) k) (R (.int .i64 0) k))) fun d=>Lf 0 a i fun ad=>S.C I.k7 [ad,(.int .i64 1),(.int .i64 8)] i fun ae f=>
 Vb (sk .not ae) fun n=>Br n (d n f) (Lf 1 a f fun af=>S.C I.k7 [af,(.int .i64 1),(.int .i64 2048)] f fun q g=>Vb (sk .not q) fun m=>Br m (d m g) (Lf 2 a g fun t=>
 S.C I.k7 [t,(.int .i64 0),(.int .i64 64)] g fun u p=>Vb (sk .not u) fun v=>d v p))
def wO (S:Sys)(I:aZ)(f:Value)(h:Hp)(R:Po):Prop:=
 Vb (bin .shr f (.int .u64 24)) fun n=>Vb (HA .i64 n) fun d=>Vb (bin .and f (.int .u32 16777215)) fun g=>Vb (HA .i64 g) fun e=>S.C I.qN [d,e] h fun i a=>
 X2 i fun p k=>Vb (bin .neq k (.int .i64 0)) fun m=>Br m (R (.tuple #[(.int .i64 0),(.int .i64 0)]) a) (R (.tuple #[d,e]) a)
def oM (S:Sys)(I:aZ)(k:Value)(h:Hp)(R:Po):Prop:=
 Eb (nw (Value.cells k) I.aM h) fun d a=>Lf 1 d a fun e=>Vb (lu e) fun f=>Lf 0 d a fun g=>Vb (lu g) fun i=>R (.tuple #[f,i]) a
def m0 (S:Sys)(I:aZ)(aa m:Value)(h:Hp)(R:Po):Prop:=
 Eb (nw (Value.cells aa) I.aM h) fun k n=>Eb (nw #[.slice none 0 0] I.bH n) fun d f=>Vb (aF 2 k f) fun v=>S.C I.iU [v,m] f fun w a=>
 Vb (sk .not w) fun x=>Br x (Vb (bG [(0,1)] #[.slice none 0 0] []) fun p=>Sb (aQ 1 d p a) fun g=>Vb (aF 1 d g) fun e=>R (.tuple #[e,(.bool false)]) g) (Lf 0 k a fun q=>
 Vb (lQ 1 q m) fun t=>Vb (aF 1 t a) fun u=>Sb (aQ 1 d u a) fun i=>Vb (aF 1 d i) fun e=>R (.tuple #[e,(.bool true)]) i)
def nl (S:Sys)(I:aZ)(ab:Value)(h:Hp)(R:Po):Prop:=
 Eb (nw (Value.cells ab) I.bH h) fun g i=>Eb (nw #[.int .i64 0,.int .u32 0,.int .u32 0,.int .i64 0,.map none] I.cY i) fun f a=>
 Vb (aF 1 g a) fun v=>Lf 0 g a fun w=>Vb (lu w) fun x=>Vb (bin .sub x (.int .i64 1)) fun p=>S.C I.ka [v,p] a fun q k=>X2 q fun t aa=>
 Eb (nw #[.int .i64 0,.int .u32 0,.int .u32 0,.int .i64 0,.map none] I.cY k) fun e m=>Sb (aQ 5 e t m) fun d=>Vb (aF 5 e d) fun u=>Sb (aQ 5 f u d) fun n=>
 Rl 5 f n R
def oX (S:Sys)(I:aZ)(q t:Value)(h:Hp)(R:Po):Prop:=
 Eb (nw (Value.cells q) I.bB h) fun d a=>Lf 0 d a fun n=>Lf 0 d a fun p=>Lf 1 d a fun e=>Lf 0 d a fun f=>Lf 2 d a fun g=>Lf 2 d a fun i=>Vb (RA 1 Xg [(0,(.int .i64 1)),(1,n),(2,p),(3,e),(4,f),(5,g),(6,i)]) fun k=>
 Vb (Y0 7 1 k t) fun m=>R m a
def qq (S:Sys)(I:aZ)(q:Value)(h:Hp)(R:Po):Prop:=
 Eb (nw (Value.cells q) I.aJ h) fun p e=>Eb (nw #[.slice none 0 0] I.bH e) fun d a=>Vb (aF 3 p a) fun i=>Vb (bG [(0,3),(3,1),(4,1)] #[.int .i64 0,.int .u32 0,.int .u32 0,.int .i64 0,.map none] [(0,i)]) fun k=>
 Eb (pb #[.int .i64 0,.int .u32 0,.int .u32 0,.int .i64 0,.map none] 5 1 I.cY [(0,k)] a) fun m f=>Vb (bG [(0,1)] #[.slice none 0 0] [(0,m)]) fun n=>
 Sb (aQ 1 d n f) fun g=>Rl 1 d g R
def gY (S:Sys)(I:aZ)(e:Value)(h:Hp)(R:Po):Prop:=
 Vb (pos? (Qa e (.slice none 0 0))) fun f=>Br f (R (.slice none 0 0) h) (Eb (pb #[.int .i64 0,.int .u32 0,.int .u32 0] 3 0 I.aJ [] h) fun g a=>
 Ap I.aJ #[.int .i64 0,.int .u32 0,.int .u32 0] 3 16 g e a fun i d=>R i d)
def gR (S:Sys)(I:aZ)(aq g ao ap:Value)(h:Hp)(R:Po):Prop:=
 Eb (nw (Value.cells aq) I.fG h) fun a u=>Eb (nw (Value.cells ao) I.aI u) fun f w=>Eb (nw xe I.fG w) fun d k=>Vb (aF 8 f k) fun t=>
 Vb (fa 0 a) fun ab=>Sb (aQ 1 ab g k) fun m=>aF 8 f m=some t∧Vb (fa 2 a) fun ad=>Sb (aQ 8 ad t m) fun x=>Vb (fa 1 a) fun ae=>Sb (aQ 1 ae (.nilFunc) x) fun n=>
 lq (fun ag p=>Br ag (Vb (bG [(0,1),(1,1),(2,3),(5,3)] aV []) fun ah=>Vb (fa 2 a) fun ai=>Sb (aQ 8 ai ah p) fun q=>Vb (aF 11 a q) fun aj=>Sb (aQ 11 d aj q) fun aa=>
 Rl 11 d aa R) (Vb (V7 g) fun ak=>Vb (some (.func (.method "Next") #[ak] #[])) fun al=>Vb (fa 1 a) fun am=>Sb (aQ 1 am al p) fun i=>Vb (aF 11 a i) fun an=>
 Sb (aQ 11 d an i) fun v=>Rl 11 d v R)) fun e=>Br ap (e (.bool true) n) (Vb (inl .eql g) fun af=>e af n)
def mZ (S:Sys)(I:aZ)(av t au:Value)(h:Hp)(R:Po):Prop:=
 Eb (nw (Value.cells av) I.bR h) fun q p=>Eb (nw (Value.cells au) I.aI p) fun d k=>Vb (aF 7 q k) fun u=>S.C I.eH [u] k fun v m=>
 X2 v fun w x=>lq (fun aa e=>Br aa (R (.int .i64 3) e) (lq (fun ae a=>Br ae (R (.int .i64 2) a) (lq (fun aj n=>Br aj (R (.int .i64 1) n) (R (.int .i64 0) n)) fun f=>
 Lf 0 d a fun ak=>Vb (bin .neq ak (.int .i64 0)) fun al=>Br al (Lf 0 d a fun am=>Vb (bin .neq am (.int .i64 8)) fun an=>Br an (Lf 1 d a fun ao=>Vb (bin .lss ao (.int .i64 0)) fun ap=>
 Br ap (f (.bool true) a) (Lf 1 d a fun aq=>Vb (bin .geq aq x) fun ar=>f ar a)) (f (.bool false) a)) (f (.bool false) a))) fun i=>Lf 0 d e fun af=>Vb (bin .lss af (.int .i64 0)) fun ag=>
 Br ag (i (.bool true) e) (Lf 0 d e fun ah=>Vb (bin .gtr ah (.int .i64 8)) fun ai=>i ai e))) fun g=>Vb (bin .lss t (.int .i64 1)) fun ab=>Br ab (g (.bool true) m) (Vb (bin .gtr t w) fun ad=>
 g ad m)
def rq (S:Sys)(I:aZ)(t:Value)(h:Hp)(R:Po):Prop:=
 Eb (nw (Value.cells t) I.aI h) fun e a=>lq (fun k f=>R k f) fun d=>Lf 0 e a fun m=>Vb (bin .eql m (.int .i64 3)) fun n=>Br n (d (.bool true) a) (Lf 0 e a fun p=>
 Vb (bin .eql p (.int .i64 4)) fun q=>Br q (d (.bool true) a) (Lf 0 e a fun g=>Vb (bin .eql g (.int .i64 6)) fun i=>d i a))
def dW (S:Sys)(I:aZ)(bs ao br:Value)(h:Hp)(R:Po):Prop:=
 Eb (nw (Value.cells bs) I.bR h) fun e w=>Eb (nw (Value.cells br) I.aI w) fun d ai=>Eb (nw Bf I.bR ai) fun t aj=>
 Eb (nw #[.int .i64 0,.int .u32 0,.int .u32 0,.bool false] I.aW aj) fun v ak=>Vb (bG [(0,3),(3,1)] #[.int .i64 0,.int .u32 0,.int .u32 0,.bool false] [(1,(.bool true))]) fun bq=>
 Eb (nw #[.int .i64 0,.int .u32 0,.int .u32 0,.bool false] I.aW ak) fun f al=>Sb (aQ 4 f bq al) fun a=>CY (fun g=>CY (fun k=>Vb (aF 7 e k) fun bp=>
 Vb (aF 4 f k) fun u=>Sb (aQ 7 t bp k) fun p=>aF 4 f p=some u∧Sb (aQ 4 v u p) fun i=>Vb (aF 7 t i) fun am=>Vb (aF 4 v i) fun an=>R (.tuple #[am,an]) i) fun n=>
 Lf 3 f g fun bg=>Br bg (Vb (fa 2 e) fun bh=>Vb (aF 3 bh g) fun bi=>Lf 1 d g fun bj=>Vb (fa 5 d) fun bk=>Vb (aF 3 bk g) fun bl=>S.C I.nm [bi,bj,bl] g fun bm x=>
 X2 bm fun bn bv=>Vb (fa 2 e) fun bo=>Sb (aQ 3 bo bn x) fun aa=>n aa) (n g)) fun m=>Lf 0 d a fun ap=>Vb (bin .eql ap (.int .i64 6)) fun aq=>Br aq (Vb (fa 0 e) fun ar=>
 Vb (aF 2 ar a) fun au=>Lf 1 d a fun av=>Vb (fa 2 d) fun aw=>Vb (aF 3 aw a) fun ax=>Vb (fa 5 d) fun ay=>Vb (aF 3 ay a) fun az=>S.C I.ml [au,ao,av,ax,az] a fun q ab=>
 X3 q fun a0 a1 a2=>Vb (ext 3 q) fun bt=>Vb (fa 0 e) fun a3=>Sb (aQ 2 a3 a0 ab) fun ad=>Vb (fa 0 f) fun a4=>Sb (aQ 3 a4 a1 ad) fun ae=>Vb (fa 3 f) fun a5=>
 Sb (aQ 1 a5 a2 ae) fun af=>m af) (Vb (fa 0 e) fun a6=>Vb (aF 2 a6 a) fun a7=>Lf 1 d a fun a8=>Vb (fa 5 d) fun a9=>Vb (aF 3 a9 a) fun ba=>Lf 0 d a fun bb=>
 Vb (bin .eql bb (.int .i64 4)) fun bc=>S.C I.lK [a7,ao,a8,ba,bc] a fun bd ag=>X2 bd fun be bu=>Vb (fa 0 e) fun bf=>Sb (aQ 2 bf be ag) fun ah=>
 m ah)
def jF (S:Sys)(I:aZ)(bc ab af:Value)(h:Hp)(R:Po):Prop:=
 Eb (nw (Value.cells bc) I.jR h) fun a ag=>Eb (nw #[.slice none 0 0,.slice none 0 0,.map none] I.jR ag) fun d al=>S.C I.qp [ab] al fun am g=>
 Vb (sk .not am) fun an=>Br an (Vb (aF 3 a g) fun ao=>Sb (aQ 3 d ao g) fun u=>Vb (aF 3 d u) fun f=>R (.tuple #[f,(.int .i64 3)]) u) (Vb (aF 3 a g) fun ap=>
 S.C I.ni [ap,af] g fun aq e=>Vb (sk .not aq) fun ar=>Br ar (Vb (aF 3 a e) fun au=>Sb (aQ 3 d au e) fun v=>Vb (aF 3 d v) fun f=>R (.tuple #[f,(.int .i64 1)]) v) (Lf 2 a e fun av=>
 Vb (MF (.int .i64) (.map none) false av ab e) fun aw=>S.C I.dQ [aw] e fun ad w=>lq (fun aa k=>Vb (bin .quo af (.int .i64 8)) fun ae=>
 Lf 1 a k fun az=>Vb (lQ 2 az ae) fun a0=>Lf 0 a0 k fun a1=>Vb (lu a1) fun a2=>Sb (CZ (.int .i64) aa ae a2 k) fun x=>Lf 2 a x fun a3=>S.C I.bE [a3] x fun a4 ah=>
 Vb (fa 2 a) fun a5=>Sb (aQ 1 a5 a4 ah) fun i=>CY (fun p=>Lf 2 a p fun ba=>Sb (CZ (.int .i64) ba ab aa p) fun q=>Vb (aF 3 a q) fun bb=>Sb (aQ 3 d bb q) fun t=>
 Vb (aF 3 d t) fun f=>R (.tuple #[f,(.int .i64 0)]) t) fun n=>Lf 2 a i fun a6=>Vb (pos? (Q7 a6 (.map none))) fun a7=>Br a7 (Eb (MZ i) fun a8 ai=>Vb (fa 2 a) fun a9=>
 Sb (aQ 1 a9 a8 ai) fun aj=>n aj) (n i)) fun m=>Vb (pos? (Q7 ad (.map none))) fun ax=>Br ax (Eb (MZ w) fun ay ak=>m ay ak) (m ad w)))
def my (S:Sys)(I:aZ)(a6 q:Value)(h:Hp)(R:Po):Prop:=
 Eb (nw (Value.cells a6) I.jR h) fun a w=>Eb (nw #[.slice none 0 0,.slice none 0 0,.map none] I.jR w) fun f ab=>S.C I.qp [q] ab fun a5 e=>
 Vb (sk .not a5) fun ag=>Br ag (Vb (aF 3 a e) fun ah=>Sb (aQ 3 f ah e) fun p=>Vb (aF 3 f p) fun i=>R (.tuple #[i,(.int .i64 3)]) p) (Lf 1 a e fun ai=>
 S.C I.dJ [ai] e fun aj ad=>Vb (fa 1 a) fun ak=>Sb (aQ 1 ak aj ad) fun g=>Lf 2 a g fun al=>Vb (MF (.int .i64) (.map none) false al q g) fun am=>
 Eb (TD am g) fun t ae=>NB ae fun af v=>Nx t af fun an d=>Vb (ext 0 an) fun ao=>Br ao (Vb (zA t d) fun ap=>X2 ap fun u aq=>Lf 1 a d fun ar=>Lf 1 a d fun au=>
 Vb (lQ 2 au u) fun av=>Lf 1 av d fun aw=>Vb (mx aw aq) fun ax=>Vb (lQ 2 ar u) fun ay=>Vb (fa 1 ay) fun az=>Sb (aQ 1 az ax d) fun x=>v x) (Lf 2 a d fun a0=>
 S.C I.bE [a0] d fun a1 aa=>Vb (fa 2 a) fun a2=>Sb (aQ 1 a2 a1 aa) fun k=>Lf 2 a k fun a3=>Eb (OM (.int .i64) a3 q k) fun _ m=>
 Vb (aF 3 a m) fun a4=>Sb (aQ 3 f a4 m) fun n=>Vb (aF 3 f n) fun i=>R (.tuple #[i,(.int .i64 0)]) n))
def fM (S:Sys)(I:aZ)(a7 ai a5 a6:Value)(h:Hp)(R:Po):Prop:=
 Eb (nw (Value.cells a7) I.bR h) fun d t=>Eb (nw (Value.cells a5) I.aI t) fun e ab=>Eb (nw Bf I.bR ab) fun p ad=>
 Eb (nw #[.int .i64 0,.int .u32 0,.int .u32 0,.bool false] I.aW ad) fun q ae=>Eb (nw #[.int .i64 0,.int .u32 0,.int .u32 0] I.aJ ae) fun f a=>
 CY (fun g=>Vb (aF 7 d g) fun a3=>Vb (aF 3 f g) fun n=>Vb (bG [(0,3),(3,1)] #[.int .i64 0,.int .u32 0,.int .u32 0,.bool false] [(0,n),(1,(.bool true))]) fun a4=>
 Sb (aQ 7 p a3 g) fun m=>aF 3 f m=some n∧Sb (aQ 4 q a4 m) fun i=>Vb (aF 7 p i) fun ag=>Vb (aF 4 q i) fun ah=>R (.tuple #[ag,ah]) i) fun k=>Lf 0 e a fun aj=>
 Vb (bin .eql aj (.int .i64 5)) fun ak=>Br ak (Vb (fa 0 d) fun al=>Vb (aF 2 al a) fun am=>Lf 1 e a fun an=>S.C I.jS [am,ai,an] a fun ao af=>
 X3 ao fun ap aq a8=>Vb (fa 0 d) fun ar=>Sb (aQ 2 ar ap af) fun u=>Sb (aQ 3 f aq u) fun v=>k v) (Vb (fa 0 d) fun au=>Vb (aF 2 au a) fun av=>Lf 1 e a fun aw=>
 Lf 0 e a fun ax=>Vb (bin .eql ax (.int .i64 2)) fun ay=>S.C I.mu [av,ai,aw,ay,a6] a fun az w=>X3 az fun a0 a1 a9=>Vb (fa 0 d) fun a2=>
 Sb (aQ 2 a2 a0 w) fun x=>Sb (aQ 3 f a1 x) fun aa=>k aa)
def j7 (S:Sys)(I:aZ)(a:Value)(h:Hp)(R:Po):Prop:=
 Vb (lu a) fun d=>Vb (lu a) fun e=>Vb (vR 4 a none (some d) (some e)) fun f=>R f h
def gA (S:Sys)(I:aZ)(aa k:Value)(h:Hp)(R:Po):Prop:=
 Eb (nw (Value.cells aa) I.bB h) fun i f=>Vb (aF 3 i f) fun x=>S.C I.gK [x,k] f fun p a=>MQ (fun e n g=>Vb (bin .lss e (.int .i64 0)) fun w=>
 Br w (R (.tuple #[(.int .i64 (-1)),(.int .i64 0)]) g) (R (.tuple #[e,n]) g)) fun d=>Vb (bin .geq k (.int .i64 9)) fun q=>Br q (Vb (aF 3 i a) fun t=>Vb (bin .sub k (.int .i64 9)) fun u=>
 S.C I.fY [t,u] a fun v m=>d v (.int .i64 10) m) (d p (.int .i64 32) a)
def oN (S:Sys)(I:aZ)(al e:Value)(h:Hp)(R:Po):Prop:=
 Eb (nw (Value.cells al) I.bB h) fun k d=>Vb (aF 3 k d) fun aj=>Vb (Jj 7 1 (.pointer (some ⟨0,0,none⟩)) e) fun m=>Vb (dU m d) fun n=>S.C I.gN [aj,e] d fun ak a=>
 dU m a=some n∧Vb (bin .mul ak n) fun u=>lq (fun t p=>Vb (bin .add t (.int .i64 8)) fun af=>Vb (bin .sub af (.int .i64 1)) fun ag=>Vb (bin .quo ag (.int .i64 8)) fun ah=>
 Vb (bin .mul ah (.int .i64 8)) fun ai=>R ai p) fun f=>lq (fun ae i=>Br ae (f (.int .i64 8) i) (f u i)) fun g=>Vb (Jj 7 1 (.pointer (some ⟨0,0,none⟩)) e) fun v=>
 Vb (dU v a) fun w=>Vb (bin .eql w (.int .i64 0)) fun x=>Br x (Vb (aF 3 k a) fun aa=>S.C I.gN [aa,e] a fun ab q=>Vb (bin .gtr ab (.int .i64 0)) fun ad=>
 g ad q) (g (.bool false) a)
def sh (S:Sys)(I:aZ)(e k m:Value)(h:Hp)(R:Po):Prop:=
 lq (fun g d=>R g d) fun a=>Vb (bin .geq e k) fun i=>Br i (Vb (bin .leq e m) fun f=>a f h) (a (.bool false) h)
def wV (S:Sys)(I:aZ)(f e:Value)(h:Hp)(R:Po):Prop:=
 lq (fun m d=>Br m (R (.tuple #[(.int .u32 0),(.int .i64 3)]) d) (Vb (HA .u32 f) fun n=>Vb (bin .shl n (.int .u64 24)) fun p=>Vb (HA .u32 e) fun q=>Vb (bin .or p q) fun t=>
 R (.tuple #[t,(.int .i64 0)]) d)) fun a=>Vb (bin .lss f (.int .i64 1)) fun u=>Br u (a (.bool true) h) (Vb (bin .gtr f (.int .i64 72)) fun g=>Br g (a (.bool true) h) (Vb (bin .lss e (.int .i64 1)) fun i=>
 Br i (a (.bool true) h) (Vb (bin .gtr e (.int .i64 16777215)) fun k=>a k h)))
def qc (S:Sys)(I:aZ)(az:Value)(h:Hp)(R:Po):Prop:=
 Eb (nw (Value.cells az) I.tF h) fun a v=>Eb (nw ql I.bX v) fun e g=>lq (fun ad d=>Br ad (Vb (bG [(0,1),(1,3),(4,1),(5,1)] ql []) fun ae=>
 Sb (aQ 6 e ae d) fun p=>Vb (aF 6 e p) fun f=>R (.tuple #[f,(.bool false)]) p) (Vb (Jj 3 3 a (.int .i64 0)) fun af=>Lf 0 af d fun ag=>Vb (Jj 3 3 a (.int .i64 1)) fun ah=>
 Vb (aF 3 ah d) fun ai=>Vb (Jj 3 3 a (.int .i64 2)) fun aj=>Lf 0 aj d fun ak=>Vb (Jj 3 3 a (.int .i64 0)) fun al=>Lf 1 al d fun am=>Vb (bin .eql am (.int .u32 1)) fun an=>
 Vb (bG [(0,1),(1,3),(4,1),(5,1)] ql [(0,ag),(1,ai),(2,ak),(3,an)]) fun ao=>Eb (nw ql I.bX d) fun k w=>Sb (aQ 6 k ao w) fun m=>Vb (aF 6 k m) fun ap=>
 Vb (aF 9 a m) fun u=>S.C I.qT [ap] m fun aq i=>aF 9 a i=some u∧Vb (BZ (E5 [true,true,true,true,true,true,true,true,true] aq u)) fun ar=>
 Br ar (Vb (bG [(0,1),(1,3),(4,1),(5,1)] ql []) fun au=>Sb (aQ 6 e au i) fun q=>Vb (aF 6 e q) fun f=>R (.tuple #[f,(.bool false)]) q) (Vb (aF 6 k i) fun av=>
 Sb (aQ 6 e av i) fun t=>Vb (aF 6 e t) fun f=>R (.tuple #[f,(.bool true)]) t))) fun n=>Vb (Jj 3 3 a (.int .i64 0)) fun aw=>Lf 0 aw g fun ax=>Vb (bin .lss ax (.int .i64 0)) fun ay=>
 Br ay (n (.bool true) g) (Vb (Jj 3 3 a (.int .i64 0)) fun x=>Lf 0 x g fun aa=>Vb (bin .geq aa (.int .i64 4096)) fun ab=>n ab g)
def nX (S:Sys)(I:aZ)(q e:Value)(h:Hp)(R:Po):Prop:=
 Eb (nw (Value.cells q) I.aM h) fun g a=>lq (fun n f=>R n f) fun d=>Vb (bin .geq e (.int .i64 0)) fun p=>Br p (Lf 0 g a fun i=>Vb (lu i) fun k=>
 Vb (bin .lss e k) fun m=>d m a) (d (.bool false) a)
def pn (S:Sys)(I:aZ)(ae m:Value)(h:Hp)(R:Po):Prop:=
 Eb (nw (Value.cells ae) I.bH h) fun n p=>Eb (nw #[.int .i64 0,.int .u32 0,.int .u32 0,.int .i64 0,.map none] I.cY p) fun d e=>
 lq (fun v a=>Br v (Vb (bG [(0,3),(3,1),(4,1)] #[.int .i64 0,.int .u32 0,.int .u32 0,.int .i64 0,.map none] []) fun w=>Sb (aQ 5 d w a) fun i=>Vb (aF 5 d i) fun f=>
 R (.tuple #[f,(.bool false)]) i) (Lf 0 n a fun x=>Vb (lQ 5 x m) fun aa=>Vb (aF 5 aa a) fun ab=>Sb (aQ 5 d ab a) fun k=>Vb (aF 5 d k) fun f=>R (.tuple #[f,(.bool true)]) k)) fun g=>
 Vb (bin .lss m (.int .i64 0)) fun ad=>Br ad (g (.bool true) e) (Lf 0 n e fun q=>Vb (lu q) fun t=>Vb (bin .geq m t) fun u=>g u e)
def md (S:Sys)(I:aZ)(a5 ap ad a7 a6:Value)(h:Hp)(R:Po):Prop:=
 Eb (nw (Value.cells a5) I.aM h) fun am ae=>Eb (nw (Value.cells a7) I.aJ ae) fun ao af=>Eb (nw (Value.cells a6) I.aJ af) fun an ag=>
 Eb (nw #[.slice none 0 0,.slice none 0 0] I.aM ag) fun f ah=>Eb (nw #[.int .i64 0,.int .u32 0,.int .u32 0] I.aJ ah) fun g x=>Vb (aF 2 am x) fun aq=>
 S.C I.jS [aq,ap,ad] x fun ar ai=>X3 ar fun au av aa=>Eb (nw #[.slice none 0 0,.slice none 0 0] I.aM ai) fun m aj=>Eb (nw #[.int .i64 0,.int .u32 0,.int .u32 0] I.aJ aj) fun d ak=>
 Sb (aQ 2 m au ak) fun al=>Sb (aQ 3 d av al) fun e=>lq (fun a0 a=>Br a0 (Vb (aF 2 m a) fun a1=>Vb (aF 3 d a) fun ab=>Sb (aQ 2 f a1 a) fun u=>aF 3 d u=some ab∧Sb (aQ 3 g ab u) fun i=>
 Vb (aF 2 f i) fun n=>Vb (aF 3 g i) fun p=>R (.tuple #[n,p,(.bool false),aa]) i) (Vb (aF 2 m a) fun a2=>Vb (aF 3 an a) fun a3=>Vb (aF 3 d a) fun q=>
 S.C I.jV [a2,ap,ad,a3,(.bool true)] a fun a4 v=>aF 3 d v=some q∧Sb (aQ 2 f a4 v) fun w=>aF 3 d w=some q∧Sb (aQ 3 g q w) fun k=>
 Vb (aF 2 f k) fun n=>Vb (aF 3 g k) fun p=>R (.tuple #[n,p,(.bool true),(.int .i64 0)]) k)) fun t=>Vb (bin .neq aa (.int .i64 0)) fun aw=>Br aw (t (.bool true) e) (Vb (aF 3 d e) fun ax=>
 Vb (aF 3 ao e) fun ay=>Vb (BZ (E5 [true,true,true] ax ay)) fun az=>t az e)
def nZ (S:Sys)(I:aZ)(af u n ah ag:Value)(h:Hp)(R:Po):Prop:=
 Eb (nw (Value.cells af) I.aM h) fun e p=>Eb (nw (Value.cells ah) I.aJ p) fun ae q=>Eb (nw #[.slice none 0 0,.slice none 0 0] I.aM q) fun d g=>
 Vb (aF 2 e g) fun v=>S.C I.iX [v,u,n] g fun m a=>Vb (bin .neq m (.int .i64 0)) fun w=>Br w (Vb (aF 2 e a) fun x=>Sb (aQ 2 d x a) fun i=>
 Vb (aF 2 d i) fun f=>R (.tuple #[f,m]) i) (Vb (aF 2 e a) fun aa=>Vb (aF 3 ae a) fun ab=>S.C I.jV [aa,u,n,ab,ag] a fun ad t=>Sb (aQ 2 d ad t) fun k=>
 Vb (aF 2 d k) fun f=>R (.tuple #[f,(.int .i64 0)]) k)
def qJ (S:Sys)(I:aZ)(ba n bb:Value)(h:Hp)(R:Po):Prop:=
 Eb (nw (Value.cells ba) I.jR h) fun a ae=>Eb (nw (Value.cells bb) I.aJ ae) fun ad al=>Eb (nw #[.slice none 0 0,.slice none 0 0,.map none] I.jR al) fun f t=>
 Vb (aF 3 a t) fun a9=>S.C I.ni [a9,n] t fun an e=>Vb (sk .not an) fun ao=>Br ao (Vb (aF 3 a e) fun ap=>Sb (aQ 3 f ap e) fun u=>Vb (aF 3 f u) fun g=>
 R (.tuple #[g,(.int .i64 1)]) u) (Lf 1 a e fun aq=>S.C I.dJ [aq] e fun ar am=>Vb (fa 1 a) fun au=>Sb (aQ 1 au ar am) fun d=>
 Lf 1 a d fun av=>Vb (bin .quo n (.int .i64 8)) fun aw=>Vb (lQ 2 av aw) fun i=>CY (fun v=>Vb (aF 3 a v) fun a8=>Sb (aQ 3 f a8 v) fun w=>Vb (aF 3 f w) fun g=>
 R (.tuple #[g,(.int .i64 0)]) w) fun m=>Vb (V7 i) fun ax=>Vb (fa 0 ax) fun x=>Vb (dU x d) fun k=>Vb (aF 3 ad d) fun aa=>Vb (bG [(0,1),(1,3)] #[.int .i64 0,.int .i64 0,.int .u32 0,.int .u32 0] [(0,n),(1,aa)]) fun ab=>
 And (S.C I.cS [k] d fun ay p=>aF 3 ad p=some aa∧Eb (pb #[.int .i64 0,.int .i64 0,.int .u32 0,.int .u32 0] 4 1 I.rG [(0,ab)] p) fun a0 af=>
 Ap I.rG #[.int .i64 0,.int .i64 0,.int .u32 0,.int .u32 0] 4 24 ay a0 af fun a2 ag=>Vb (V7 i) fun a4=>Vb (fa 0 a4) fun a6=>Sb (aQ 1 a6 a2 ag) fun ah=>
 m ah) (Eb (pb #[.int .i64 0,.int .i64 0,.int .u32 0,.int .u32 0] 4 1 I.rG [(0,ab)] d) fun a1 q=>dU x q=some k∧S.C I.cS [k] q fun az ai=>
 Ap I.rG #[.int .i64 0,.int .i64 0,.int .u32 0,.int .u32 0] 4 24 az a1 ai fun a3 aj=>Vb (V7 i) fun a5=>Vb (fa 0 a5) fun a7=>Sb (aQ 1 a7 a3 aj) fun ak=>
 m ak))
def vM (S:Sys)(I:aZ)(e:Value)(h:Hp)(R:Po):Prop:=
 lq (fun f d=>R f d) fun a=>Vb (bin .geq e (.int .i64 1)) fun g=>Br g (Vb (bin .leq e (.int .i64 8)) fun i=>a i h) (a (.bool false) h)
def sr (S:Sys)(I:aZ)(q e:Value)(h:Hp)(R:Po):Prop:=
 Eb (nw (Value.cells q) I.jR h) fun g a=>lq (fun n f=>R n f) fun d=>Vb (bin .geq e (.int .i64 0)) fun p=>Br p (Lf 0 g a fun i=>Vb (lu i) fun k=>
 Vb (bin .lss e k) fun m=>d m a) (d (.bool false) a)
def dP (S:Sys)(I:aZ)(d:Value)(h:Hp)(R:Po):Prop:=
 Vb (pos? (Q7 d (.map none))) fun e=>Br e (R (.map none) h) (Vb (some (.iface I.tK d)) fun f=>Eb (Qv [f] h) fun g a=>Vb (C3 I.tK (.map none) false g) fun i=>
 R i a)
def bM (S:Sys)(I:aZ)(d:Value)(h:Hp)(R:Po):Prop:=
 Vb (pos? (Q7 d (.map none))) fun e=>Br e (R (.map none) h) (Vb (some (.iface I.l6 d)) fun f=>Eb (Qv [f] h) fun g a=>Vb (C3 I.l6 (.map none) false g) fun i=>
 R i a)
def iE (S:Sys)(I:aZ)(e:Value)(h:Hp)(R:Po):Prop:=
 Vb (pos? (Qa e (.slice none 0 0))) fun f=>Br f (R (.slice none 0 0) h) (Eb (pb #[.slice none 0 0,.int .i64 0] 2 0 I.ue [] h) fun g a=>Ap I.ue #[.slice none 0 0,.int .i64 0] 2 32 g e a fun i d=>
 R i d)
def oW (S:Sys)(I:aZ)(t u q:Value)(h:Hp)(R:Po):Prop:=
 Eb (nw (Value.cells t) I.aM h) fun g d=>Eb (nw #[.slice none 0 0,.slice none 0 0] I.aM d) fun m e=>Eb (nw #[.int .i64 0,.int .u32 0,.int .u32 0] I.aJ e) fun n a=>
 Vb (aF 2 g a) fun p=>Vb (some (.func (.func I.gV) #[(.int .i64 0)] #[])) fun i=>S.C I.gP [p,u,q,(.bool true),i] a fun k f=>
 T3 2 m 3 n k f R
def pu (S:Sys)(I:aZ)(v w t q u:Value)(h:Hp)(R:Po):Prop:=
 Eb (nw (Value.cells v) I.aM h) fun g d=>Eb (nw #[.slice none 0 0,.slice none 0 0] I.aM d) fun i e=>Eb (nw #[.int .i64 0,.int .u32 0,.int .u32 0] I.aJ e) fun k a=>
 Vb (aF 2 g a) fun m=>Vb (some (.func (.func I.aU) #[u] #[])) fun n=>S.C I.gP [m,w,t,q,n] a fun p f=>T3 2 i 3 k p f R
def uW (S:Sys)(I:aZ)(aj:Value)(h:Hp)(R:Po):Prop:=
 Eb (nw (Value.cells aj) I.bX h) fun a m=>Eb (nw Pg I.tF m) fun k i=>Lf 0 a i fun af=>Vb (bG [(0,1),(1,1),(2,1)] #[.int .i64 0,.int .u32 0,.int .u32 0] [(0,af)]) fun ag=>
 Eb (nw #[.int .i64 0,.int .u32 0,.int .u32 0] I.aJ i) fun e n=>Sb (aQ 3 e ag n) fun f=>CY (fun d=>Vb (aF 3 e d) fun t=>Vb (fa 1 a) fun u=>Lf 0 u d fun v=>
 Vb (fa 1 a) fun w=>Lf 1 w d fun x=>Vb (bG [(0,1),(1,1),(2,1)] #[.int .i64 0,.int .u32 0,.int .u32 0] [(0,v),(1,x)]) fun aa=>Lf 4 a d fun ab=>Vb (bG [(0,1),(1,1),(2,1)] #[.int .i64 0,.int .u32 0,.int .u32 0] [(0,ab)]) fun ad=>
 Vb (RA 3 Pg [(0,t),(1,aa),(2,ad)]) fun ae=>Sb (aQ 9 k ae d) fun p=>Rl 9 k p R) fun g=>Lf 5 a f fun ah=>Br ah (Vb (fa 1 e) fun ai=>Sb (aQ 1 ai (.int .u32 1) f) fun q=>
 g q) (g f)
def qm (S:Sys)(I:aZ)(a:Value)(h:Hp)(R:Po):Prop:=
 Vb (lu a) fun ah=>Vb (bin .eql ah (.int .i64 0)) fun ai=>Br ai (R (.int .i64 8) h) (Vb (lu a) fun q=>Vb (bin .gtr q (.int .i64 32)) fun t=>Br t (R (.int .i64 15) h) (Vb (lu a) fun u=>
 xN (.int .i64 0) h fun d e n=>Vb (bin .lss d u) fun v=>Br v (Vb (lQ 6 a d) fun w=>Vb (aF 6 w e) fun x=>Eb (nw ql I.bX e) fun f p=>Sb (aQ 6 f x p) fun g=>
 Vb (aF 6 f g) fun aa=>S.C I.sK [aa] g fun m i=>Vb (bin .neq m (.int .i64 0)) fun ab=>Br ab (R m i) (Vb (vR 6 a none (some d) none) fun ad=>
 Vb (some (.func (.func I.qz) #[] #[f])) fun ae=>S.C I.bS [ad,ae] i fun af k=>Br af (R (.int .i64 11) k) (Vb (bin .add d (.int .i64 1)) fun ag=>
 n ag k))) (R (.int .i64 0) e)))
def eP (S:Sys)(I:aZ)(f aa:Value)(h:Hp)(R:Po):Prop:=
 Vb (lu f) fun w=>Vb (bin .sub w (.int .i64 1)) fun x=>xN x h fun d a g=>Vb (bin .gtr d (.int .i64 0)) fun i=>Br i (Vb (lQ 6 f d) fun m=>Vb (aF 6 m a) fun n=>
 Vb (bin .sub d (.int .i64 1)) fun p=>Vb (lQ 6 f p) fun q=>Vb (aF 6 q a) fun t=>Cw S.C S.Y I.mt aa [n,t] a fun u e=>Vb (bin .lss u (.int .i64 0)) fun v=>
 Br v (R (.bool false) e) (Vb (bin .sub d (.int .i64 1)) fun k=>g k e)) (R (.bool true) a)
def mg (S:Sys)(I:aZ)(ce u a cf cg:Value)(h:Hp)(R:Po):Prop:=
 Eb (nw (Value.cells ce) I.aM h) fun e ar=>Eb (nw (Value.cells cf) I.aJ ar) fun cd a1=>Eb (nw #[.slice none 0 0,.slice none 0 0] I.aM a1) fun ak p=>
 Lf 0 e p fun bg=>Vb (lQ 1 bg a) fun bh=>Vb (aF 1 bh p) fun bi=>Eb (nw #[.slice none 0 0] I.bH p) fun d be=>Sb (aQ 1 d bi be) fun k=>lq (fun al aj=>
 Vb (aF 1 al aj) fun bq=>Eb (nw #[.map none] I.eG aj) fun v bf=>Sb (aQ 1 v bq bf) fun t=>CY (fun g=>Lf 0 e g fun bw=>Vb (bin .add a (.int .i64 1)) fun bx=>
 Vb (vR 1 bw (some bx) none none) fun bz=>Vb (fa 0 e) fun aa=>Vb (dU aa g) fun ab=>Vb (vR 1 ab none (some a) (some a)) fun b0=>Vb (aF 1 d g) fun b1=>
 Vb (aF 3 cd g) fun b2=>Vb (aF 1 v g) fun b3=>Vb (bG [(0,3),(3,1),(4,1)] #[.int .i64 0,.int .u32 0,.int .u32 0,.int .i64 0,.map none] [(0,b2),(1,u),(2,b3)]) fun b4=>
 S.C I.lF [b1,b4] g fun b5 ae=>dU aa ae=some ab∧Eb (pb #[.slice none 0 0] 1 1 I.bH [(0,b5)] ae) fun b6 af=>dU aa af=some ab∧Ap I.bH #[.slice none 0 0] 1 24 b0 b6 af fun b7 au=>
 Ap I.bH #[.slice none 0 0] 1 24 b7 bz au fun b8 av=>Vb (fa 0 e) fun b9=>Sb (aQ 1 b9 b8 av) fun m=>Vb (aF 2 e m) fun ca=>Vb (aF 1 al m) fun cb=>
 S.C I.ke [ca,u,cb] m fun cc aw=>Sb (aQ 2 ak cc aw) fun ax=>Rl 2 ak ax R) fun ad=>Vb (sk .not cg) fun br=>Br br (Vb (bG [(0,1)] #[.map none] []) fun bs=>
 Vb (aF 1 d t) fun bt=>S.C I.dR [bt] t fun bu ay=>S.C I.fN [bs,a,bu] ay fun bv az=>Sb (aQ 1 v bv az) fun a0=>ad a0) (ad t)) fun i=>
 Vb (aF 2 e k) fun w=>Vb (aF 1 d k) fun f=>And (S.C I.cD [w,u] k fun x n=>aF 1 d n=some f∧And (S.C I.dR [f] n fun aq ag=>
 And (S.C I.fN [x,a,aq] ag fun bm a2=>Eb (nw #[.map none] I.eG a2) fun am a3=>Sb (aQ 1 am bm a3) fun a4=>i am a4) (Eb (nw #[.map none] I.eG ag) fun an a5=>
 S.C I.fN [x,a,aq] a5 fun bn a6=>Sb (aQ 1 an bn a6) fun a7=>i an a7)) (Eb (nw #[.map none] I.eG n) fun ao ah=>aF 1 d ah=some f∧S.C I.dR [f] ah fun bk a8=>
 S.C I.fN [x,a,bk] a8 fun bo a9=>Sb (aQ 1 ao bo a9) fun ba=>i ao ba)) (Eb (nw #[.map none] I.eG k) fun ap q=>aF 1 d q=some f∧aF 2 e q=some w∧S.C I.cD [w,u] q fun bj ai=>
 aF 1 d ai=some f∧S.C I.dR [f] ai fun bl bb=>S.C I.fN [bj,a,bl] bb fun bp bc=>Sb (aQ 1 ap bp bc) fun bd=>i ap bd)
def og (S:Sys)(I:aZ)(t u q:Value)(h:Hp)(R:Po):Prop:=
 Eb (nw (Value.cells t) I.aM h) fun f d=>Vb (aF 2 f d) fun p=>S.C I.hH [p,u] d fun g a=>Vb (sk .not g) fun i=>Br i (R (.int .i64 3) a) (Vb (aF 2 f a) fun k=>
 S.C I.iU [k,q] a fun m e=>Vb (sk .not m) fun n=>Br n (R (.int .i64 1) e) (R (.int .i64 0) e))
def gF (S:Sys)(I:aZ)(a:Value)(h:Hp)(R:Po):Prop:=
 Vb (lu a) fun d=>Vb (lu a) fun e=>Vb (vR 4 a none (some d) (some e)) fun f=>R f h
def jU (S:Sys)(I:aZ)(j5 m f p q:Value)(h:Hp)(R:Po):Prop:=
 Eb (nw (Value.cells j5) I.aM h) fun d d1=>Eb (nw #[.slice none 0 0,.slice none 0 0] I.aM d1) fun bj ff=>Eb (nw #[.int .i64 0,.int .u32 0,.int .u32 0] I.aJ ff) fun bk cc=>
 Vb (aF 2 d cc) fun gz=>S.C I.iX [gz,m,f] cc fun c3 v=>Vb (bin .neq c3 (.int .i64 0)) fun g0=>Br g0 (Vb (aF 2 d v) fun g1=>Vb (bG [(0,1),(1,1),(2,1)] #[.int .i64 0,.int .u32 0,.int .u32 0] []) fun g2=>
 Sb (aQ 2 bj g1 v) fun f3=>Sb (aQ 3 bk g2 f3) fun bs=>Vb (aF 2 bj bs) fun bx=>Vb (aF 3 bk bs) fun bz=>R (.tuple #[bx,bz,c3]) bs) (MQ (fun gy dj bt=>
 Vb (aF 2 gy bt) fun j4=>Vb (aF 3 dj bt) fun di=>Sb (aQ 2 bj j4 bt) fun cj=>aF 3 dj cj=some di∧Sb (aQ 3 bk di cj) fun bv=>Vb (aF 2 bj bv) fun bx=>
 Vb (aF 3 bk bv) fun bz=>R (.tuple #[bx,bz,(.int .i64 0)]) bv) fun n=>Vb (aF 2 d v) fun a=>Vb (fa 0 d) fun g=>Vb (dU g v) fun i=>Vb (lQ 1 i f) fun k=>
 Vb (aF 1 k v) fun e=>Vb (aF 2 d v) fun w=>And (S.C I.cD [w,m] v fun aw ab=>aF 1 k ab=some e∧dU g ab=some i∧aF 2 d ab=some a∧And (S.C I.dM [aw,f] ab fun ax ad=>
 aF 1 k ad=some e∧dU g ad=some i∧aF 2 d ad=some a∧And (Cw S.C S.Y I.mt q [e,ax] ad fun ay a2=>aF 2 d a2=some a∧And (S.C I.aN [a,m,f,ay,p] a2 fun hn b4=>
 X2 hn fun dg dh=>And (Eb (nw #[.slice none 0 0,.slice none 0 0] I.aM b4) fun cn eo=>Eb (nw #[.int .i64 0,.int .u32 0,.int .u32 0] I.aJ eo) fun dk ev=>
 Sb (aQ 2 cn dg ev) fun e3=>Sb (aQ 3 dk dh e3) fun e8=>n cn dk e8) (Eb (nw #[.int .i64 0,.int .u32 0,.int .u32 0] I.aJ b4) fun dv fd=>Eb (nw #[.slice none 0 0,.slice none 0 0] I.aM fd) fun cw fe=>
 Sb (aQ 2 cw dg fe) fun fg=>Sb (aQ 3 dv dh fg) fun fh=>n cw dv fh)) (And (Eb (nw #[.slice none 0 0,.slice none 0 0] I.aM a2) fun bi bo=>aF 2 d bo=some a∧And (S.C I.aN [a,m,f,ay,p] bo fun ho fi=>
 X2 ho fun ii jc=>Eb (nw #[.int .i64 0,.int .u32 0,.int .u32 0] I.aJ fi) fun dw fj=>Sb (aQ 2 bi ii fj) fun fk=>Sb (aQ 3 dw jc fk) fun fl=>n bi dw fl) (Eb (nw #[.int .i64 0,.int .u32 0,.int .u32 0] I.aJ bo) fun dx cb=>
 aF 2 d cb=some a∧S.C I.aN [a,m,f,ay,p] cb fun hz fm=>X2 hz fun iv jn=>Sb (aQ 2 bi iv fm) fun fn=>Sb (aQ 3 dx jn fn) fun fo=>n bi dx fo)) (Eb (nw #[.int .i64 0,.int .u32 0,.int .u32 0] I.aJ a2) fun bl bp=>
 aF 2 d bp=some a∧And (S.C I.aN [a,m,f,ay,p] bp fun h9 fp=>X2 h9 fun i5 jx=>Eb (nw #[.slice none 0 0,.slice none 0 0] I.aM fp) fun cy fq=>
 Sb (aQ 2 cy i5 fq) fun fr=>Sb (aQ 3 bl jx fr) fun fs=>n cy bl fs) (Eb (nw #[.slice none 0 0,.slice none 0 0] I.aM bp) fun cz cd=>aF 2 d cd=some a∧S.C I.aN [a,m,f,ay,p] cd fun ia ft=>
 X2 ia fun i6 jy=>Sb (aQ 2 cz i6 ft) fun fu=>Sb (aQ 3 bl jy fu) fun fv=>n cz bl fv)))) (And (Eb (nw #[.slice none 0 0,.slice none 0 0] I.aM ad) fun ag ao=>
 aF 1 k ao=some e∧dU g ao=some i∧aF 2 d ao=some a∧And (Cw S.C S.Y I.mt q [e,ax] ao fun da bq=>aF 2 d bq=some a∧And (S.C I.aN [a,m,f,da,p] bq fun ib fw=>
 X2 ib fun i7 jz=>Eb (nw #[.int .i64 0,.int .u32 0,.int .u32 0] I.aJ fw) fun dy fx=>Sb (aQ 2 ag i7 fx) fun fy=>Sb (aQ 3 dy jz fy) fun fz=>n ag dy fz) (Eb (nw #[.int .i64 0,.int .u32 0,.int .u32 0] I.aJ bq) fun dz ce=>
 aF 2 d ce=some a∧S.C I.aN [a,m,f,da,p] ce fun ic f0=>X2 ic fun i8 j0=>Sb (aQ 2 ag i8 f0) fun f1=>Sb (aQ 3 dz j0 f1) fun f2=>n ag dz f2)) (Eb (nw #[.int .i64 0,.int .u32 0,.int .u32 0] I.aJ ao) fun d0 bd=>
 aF 1 k bd=some e∧dU g bd=some i∧aF 2 d bd=some a∧Cw S.C S.Y I.mt q [e,ax] bd fun hi cf=>aF 2 d cf=some a∧S.C I.aN [a,m,f,hi,p] cf fun ie f4=>
 X2 ie fun i9 j1=>Sb (aQ 2 ag i9 f4) fun f5=>Sb (aQ 3 d0 j1 f5) fun f6=>n ag d0 f6)) (Eb (nw #[.int .i64 0,.int .u32 0,.int .u32 0] I.aJ ad) fun ah ap=>
 aF 1 k ap=some e∧dU g ap=some i∧aF 2 d ap=some a∧And (Cw S.C S.Y I.mt q [e,ax] ap fun dd br=>aF 2 d br=some a∧And (S.C I.aN [a,m,f,dd,p] br fun ig f7=>
 X2 ig fun ja j2=>Eb (nw #[.slice none 0 0,.slice none 0 0] I.aM f7) fun c0 f8=>Sb (aQ 2 c0 ja f8) fun f9=>Sb (aQ 3 ah j2 f9) fun ga=>n c0 ah ga) (Eb (nw #[.slice none 0 0,.slice none 0 0] I.aM br) fun c1 cg=>
 aF 2 d cg=some a∧S.C I.aN [a,m,f,dd,p] cg fun ih gb=>X2 ih fun jb j3=>Sb (aQ 2 c1 jb gb) fun gc=>Sb (aQ 3 ah j3 gc) fun gd=>n c1 ah gd)) (Eb (nw #[.slice none 0 0,.slice none 0 0] I.aM ap) fun c2 be=>
 aF 1 k be=some e∧dU g be=some i∧aF 2 d be=some a∧Cw S.C S.Y I.mt q [e,ax] be fun hj ch=>aF 2 d ch=some a∧S.C I.aN [a,m,f,hj,p] ch fun hp ge=>
 X2 hp fun ij jd=>Sb (aQ 2 c2 ij ge) fun gf=>Sb (aQ 3 ah jd gf) fun gg=>n c2 ah gg)))) (And (Eb (nw #[.slice none 0 0,.slice none 0 0] I.aM ab) fun x aq=>
 aF 1 k aq=some e∧dU g aq=some i∧aF 2 d aq=some a∧And (S.C I.dM [aw,f] aq fun c6 ar=>aF 1 k ar=some e∧dU g ar=some i∧aF 2 d ar=some a∧And (Cw S.C S.Y I.mt q [e,c6] ar fun de bu=>
 aF 2 d bu=some a∧And (S.C I.aN [a,m,f,de,p] bu fun hq gh=>X2 hq fun ik je=>Eb (nw #[.int .i64 0,.int .u32 0,.int .u32 0] I.aJ gh) fun dl gi=>
 Sb (aQ 2 x ik gi) fun gj=>Sb (aQ 3 dl je gj) fun gk=>n x dl gk) (Eb (nw #[.int .i64 0,.int .u32 0,.int .u32 0] I.aJ bu) fun dm ci=>aF 2 d ci=some a∧S.C I.aN [a,m,f,de,p] ci fun hr gl=>
 X2 hr fun il jf=>Sb (aQ 2 x il gl) fun gm=>Sb (aQ 3 dm jf gm) fun gn=>n x dm gn)) (Eb (nw #[.int .i64 0,.int .u32 0,.int .u32 0] I.aJ ar) fun dn bf=>
 aF 1 k bf=some e∧dU g bf=some i∧aF 2 d bf=some a∧Cw S.C S.Y I.mt q [e,c6] bf fun hk ck=>aF 2 d ck=some a∧S.C I.aN [a,m,f,hk,p] ck fun hs go=>
 X2 hs fun im jg=>Sb (aQ 2 x im go) fun gp=>Sb (aQ 3 dn jg gp) fun gq=>n x dn gq)) (Eb (nw #[.int .i64 0,.int .u32 0,.int .u32 0] I.aJ aq) fun dp bg=>
 aF 1 k bg=some e∧dU g bg=some i∧aF 2 d bg=some a∧S.C I.dM [aw,f] bg fun g6 bh=>aF 1 k bh=some e∧dU g bh=some i∧aF 2 d bh=some a∧Cw S.C S.Y I.mt q [e,g6] bh fun hl cl=>
 aF 2 d cl=some a∧S.C I.aN [a,m,f,hl,p] cl fun ht gr=>X2 ht fun io jh=>Sb (aQ 2 x io gr) fun gs=>Sb (aQ 3 dp jh gs) fun gt=>n x dp gt)) (Eb (nw #[.int .i64 0,.int .u32 0,.int .u32 0] I.aJ ab) fun aa au=>
 aF 1 k au=some e∧dU g au=some i∧aF 2 d au=some a∧And (S.C I.dM [aw,f] au fun c7 av=>aF 1 k av=some e∧dU g av=some i∧aF 2 d av=some a∧And (Cw S.C S.Y I.mt q [e,c7] av fun df bw=>
 aF 2 d bw=some a∧And (S.C I.aN [a,m,f,df,p] bw fun hu gu=>X2 hu fun ip ji=>Eb (nw #[.slice none 0 0,.slice none 0 0] I.aM gu) fun co gv=>
 Sb (aQ 2 co ip gv) fun gw=>Sb (aQ 3 aa ji gw) fun gx=>n co aa gx) (Eb (nw #[.slice none 0 0,.slice none 0 0] I.aM bw) fun cp cm=>aF 2 d cm=some a∧S.C I.aN [a,m,f,df,p] cm fun hv d2=>
 X2 hv fun iq jj=>Sb (aQ 2 cp iq d2) fun d3=>Sb (aQ 3 aa jj d3) fun d4=>n cp aa d4)) (Eb (nw #[.slice none 0 0,.slice none 0 0] I.aM av) fun cq az=>
 aF 1 k az=some e∧dU g az=some i∧aF 2 d az=some a∧Cw S.C S.Y I.mt q [e,c7] az fun hm b0=>aF 2 d b0=some a∧S.C I.aN [a,m,f,hm,p] b0 fun hw d5=>
 X2 hw fun ir jk=>Sb (aQ 2 cq ir d5) fun d6=>Sb (aQ 3 aa jk d6) fun d7=>n cq aa d7)) (Eb (nw #[.slice none 0 0,.slice none 0 0] I.aM au) fun cr a0=>
 aF 1 k a0=some e∧dU g a0=some i∧aF 2 d a0=some a∧S.C I.dM [aw,f] a0 fun g7 a1=>aF 1 k a1=some e∧dU g a1=some i∧aF 2 d a1=some a∧Cw S.C S.Y I.mt q [e,g7] a1 fun hb b1=>
 aF 2 d b1=some a∧S.C I.aN [a,m,f,hb,p] b1 fun hx d8=>X2 hx fun it jl=>Sb (aQ 2 cr it d8) fun d9=>Sb (aQ 3 aa jl d9) fun ea=>n cr aa ea)))) (And (Eb (nw #[.slice none 0 0,.slice none 0 0] I.aM v) fun t ae=>
 aF 2 d ae=some w∧aF 1 k ae=some e∧dU g ae=some i∧aF 2 d ae=some a∧And (S.C I.cD [w,m] ae fun c4 ai=>aF 1 k ai=some e∧dU g ai=some i∧aF 2 d ai=some a∧And (S.C I.dM [c4,f] ai fun c8 aj=>
 aF 1 k aj=some e∧dU g aj=some i∧aF 2 d aj=some a∧And (Cw S.C S.Y I.mt q [e,c8] aj fun db bm=>aF 2 d bm=some a∧And (S.C I.aN [a,m,f,db,p] bm fun hy eb=>
 X2 hy fun iu jm=>Eb (nw #[.int .i64 0,.int .u32 0,.int .u32 0] I.aJ eb) fun dq ec=>Sb (aQ 2 t iu ec) fun ed=>Sb (aQ 3 dq jm ed) fun ee=>n t dq ee) (Eb (nw #[.int .i64 0,.int .u32 0,.int .u32 0] I.aJ bm) fun dr b2=>
 aF 2 d b2=some a∧S.C I.aN [a,m,f,db,p] b2 fun h0 ef=>X2 h0 fun iw jo=>Sb (aQ 2 t iw ef) fun eg=>Sb (aQ 3 dr jo eg) fun eh=>n t dr eh)) (Eb (nw #[.int .i64 0,.int .u32 0,.int .u32 0] I.aJ aj) fun ds a3=>
 aF 1 k a3=some e∧dU g a3=some i∧aF 2 d a3=some a∧Cw S.C S.Y I.mt q [e,c8] a3 fun hc b3=>aF 2 d b3=some a∧S.C I.aN [a,m,f,hc,p] b3 fun h1 ei=>
 X2 h1 fun ix jp=>Sb (aQ 2 t ix ei) fun ej=>Sb (aQ 3 ds jp ej) fun ek=>n t ds ek)) (Eb (nw #[.int .i64 0,.int .u32 0,.int .u32 0] I.aJ ai) fun dt a4=>
 aF 1 k a4=some e∧dU g a4=some i∧aF 2 d a4=some a∧S.C I.dM [c4,f] a4 fun g8 a5=>aF 1 k a5=some e∧dU g a5=some i∧aF 2 d a5=some a∧Cw S.C S.Y I.mt q [e,g8] a5 fun hd b5=>
 aF 2 d b5=some a∧S.C I.aN [a,m,f,hd,p] b5 fun h2 el=>X2 h2 fun iy jq=>Sb (aQ 2 t iy el) fun em=>Sb (aQ 3 dt jq em) fun en=>n t dt en)) (Eb (nw #[.int .i64 0,.int .u32 0,.int .u32 0] I.aJ ae) fun du ak=>
 aF 2 d ak=some w∧aF 1 k ak=some e∧dU g ak=some i∧aF 2 d ak=some a∧S.C I.cD [w,m] ak fun g3 a6=>aF 1 k a6=some e∧dU g a6=some i∧aF 2 d a6=some a∧S.C I.dM [g3,f] a6 fun g9 a7=>
 aF 1 k a7=some e∧dU g a7=some i∧aF 2 d a7=some a∧Cw S.C S.Y I.mt q [e,g9] a7 fun he b6=>aF 2 d b6=some a∧S.C I.aN [a,m,f,he,p] b6 fun h3 ep=>
 X2 h3 fun iz jr=>Sb (aQ 2 t iz ep) fun er=>Sb (aQ 3 du jr er) fun es=>n t du es)) (Eb (nw #[.int .i64 0,.int .u32 0,.int .u32 0] I.aJ v) fun u af=>
 aF 2 d af=some w∧aF 1 k af=some e∧dU g af=some i∧aF 2 d af=some a∧And (S.C I.cD [w,m] af fun c5 al=>aF 1 k al=some e∧dU g al=some i∧aF 2 d al=some a∧And (S.C I.dM [c5,f] al fun c9 am=>
 aF 1 k am=some e∧dU g am=some i∧aF 2 d am=some a∧And (Cw S.C S.Y I.mt q [e,c9] am fun dc bn=>aF 2 d bn=some a∧And (S.C I.aN [a,m,f,dc,p] bn fun h4 et=>
 X2 h4 fun i0 js=>Eb (nw #[.slice none 0 0,.slice none 0 0] I.aM et) fun cs eu=>Sb (aQ 2 cs i0 eu) fun ew=>Sb (aQ 3 u js ew) fun ex=>n cs u ex) (Eb (nw #[.slice none 0 0,.slice none 0 0] I.aM bn) fun ct b7=>
 aF 2 d b7=some a∧S.C I.aN [a,m,f,dc,p] b7 fun h5 ey=>X2 h5 fun i1 jt=>Sb (aQ 2 ct i1 ey) fun ez=>Sb (aQ 3 u jt ez) fun e0=>n ct u e0)) (Eb (nw #[.slice none 0 0,.slice none 0 0] I.aM am) fun cu a8=>
 aF 1 k a8=some e∧dU g a8=some i∧aF 2 d a8=some a∧Cw S.C S.Y I.mt q [e,c9] a8 fun hf b8=>aF 2 d b8=some a∧S.C I.aN [a,m,f,hf,p] b8 fun h6 e1=>
 X2 h6 fun i2 ju=>Sb (aQ 2 cu i2 e1) fun e2=>Sb (aQ 3 u ju e2) fun e4=>n cu u e4)) (Eb (nw #[.slice none 0 0,.slice none 0 0] I.aM al) fun cv a9=>
 aF 1 k a9=some e∧dU g a9=some i∧aF 2 d a9=some a∧S.C I.dM [c5,f] a9 fun ha ba=>aF 1 k ba=some e∧dU g ba=some i∧aF 2 d ba=some a∧Cw S.C S.Y I.mt q [e,ha] ba fun hg b9=>
 aF 2 d b9=some a∧S.C I.aN [a,m,f,hg,p] b9 fun h7 e5=>X2 h7 fun i3 jv=>Sb (aQ 2 cv i3 e5) fun e6=>Sb (aQ 3 u jv e6) fun e7=>n cv u e7)) (Eb (nw #[.slice none 0 0,.slice none 0 0] I.aM af) fun cx an=>
 aF 2 d an=some w∧aF 1 k an=some e∧dU g an=some i∧aF 2 d an=some a∧S.C I.cD [w,m] an fun g4 bb=>aF 1 k bb=some e∧dU g bb=some i∧aF 2 d bb=some a∧S.C I.dM [g4,f] bb fun g5 bc=>
 aF 1 k bc=some e∧dU g bc=some i∧aF 2 d bc=some a∧Cw S.C S.Y I.mt q [e,g5] bc fun hh ca=>aF 2 d ca=some a∧S.C I.aN [a,m,f,hh,p] ca fun h8 e9=>
 X2 h8 fun i4 jw=>Sb (aQ 2 cx i4 e9) fun fb=>Sb (aQ 3 u jw fb) fun fc=>n cx u fc))))
def oT (S:Sys)(I:aZ)(m k n:Value)(h:Hp)(R:Po):Prop:=
 Eb (nw (Value.cells k) I.bH h) fun i a=>Vb (aF 1 i a) fun e=>S.C I.dR [e] a fun f d=>Vb (bin .sub f (.int .i64 1)) fun g=>
 R g d
def mD (S:Sys)(I:aZ)(i m k:Value)(h:Hp)(R:Po):Prop:=
 Eb (nw (Value.cells m) I.bH h) fun g a=>Vb (aF 1 g a) fun f=>S.C I.jN [f,k,i] a fun e d=>R e d
def kZ (S:Sys)(I:aZ)(ap:Value)(h:Hp)(R:Po):Prop:=
 Eb (nw (Value.cells ap) I.bX h) fun a f=>lq (fun ah g=>Br ah (R (.int .i64 3) g) (Vb (fa 1 a) fun q=>Vb (aF 3 q g) fun t=>S.C I.tC [t] g fun u e=>
 Vb (sk .not u) fun v=>Br v (R (.int .i64 13) e) (lq (fun w d=>Br w (R (.int .i64 9) d) (lq (fun ae n=>Br ae (R (.int .i64 4) n) (R (.int .i64 0) n)) fun m=>
 Lf 5 a d fun af=>Vb (sk .not af) fun ag=>Br ag (Lf 4 a d fun ai=>Vb (fa 1 a) fun aj=>Lf 0 aj d fun ak=>Vb (bin .neq ai ak) fun al=>m al d) (m (.bool false) d))) fun k=>
 Lf 5 a e fun x=>Br x (Vb (fa 1 a) fun aa=>Lf 1 aa e fun ab=>Vb (bin .eql ab (.int .u32 4294967295)) fun ad=>k ad e) (k (.bool false) e)))) fun i=>Lf 0 a f fun am=>
 Vb (bin .lss am (.int .i64 0)) fun an=>Br an (i (.bool true) f) (Lf 0 a f fun ao=>Vb (bin .geq ao (.int .i64 4096)) fun p=>i p f)
def eN (S:Sys)(I:aZ)(g f:Value)(h:Hp)(R:Po):Prop:=
 S.C I.dD [g,f] h fun d a=>Vb (bin .geq d (.int .i64 0)) fun e=>R e a
def ti (S:Sys)(I:aZ)(k i:Value)(h:Hp)(R:Po):Prop:=
 Eb (nw (Value.cells k) I.bX h) fun g a=>Lf 0 g a fun d=>Lf 0 i a fun e=>Vb (bin .eql d e) fun f=>R f a
def pe (S:Sys)(I:aZ)(aa m:Value)(h:Hp)(R:Po):Prop:=
 Eb (nw (Value.cells aa) I.aM h) fun f g=>Eb (nw #[.map none] I.eG g) fun d e=>Vb (aF 2 f e) fun u=>S.C I.hH [u,m] e fun v a=>
 Vb (sk .not v) fun w=>Br w (Vb (bG [(0,1)] #[.map none] []) fun x=>Sb (aQ 1 d x a) fun i=>Rl 1 d i R) (Lf 1 f a fun n=>Vb (bin .sub m (.int .i64 1)) fun p=>
 Vb (lQ 1 n p) fun q=>Vb (aF 1 q a) fun t=>Sb (aQ 1 d t a) fun k=>Rl 1 d k R)
def mX (S:Sys)(I:aZ)(an g aa:Value)(h:Hp)(R:Po):Prop:=
 Eb (nw (Value.cells an) I.eG h) fun i q=>Eb (nw #[.map none] I.eG q) fun e a=>lq (fun ag d=>Br ag (Vb (aF 1 i d) fun ah=>Sb (aQ 1 e ah d) fun t=>
 Rl 1 e t R) (Lf 0 i d fun ai=>S.C I.bK [ai] d fun p m=>lq (fun n u=>Sb (CZ (.int .i64) n g aa u) fun v=>Vb (bG [(0,1)] #[.map none] [(0,n)]) fun al=>
 Sb (aQ 1 e al v) fun w=>Rl 1 e w R) fun k=>Vb (pos? (Q7 p (.map none))) fun aj=>Br aj (Eb (MZ m) fun ak x=>k ak x) (k p m))) fun f=>Vb (bin .lss g (.int .i64 0)) fun am=>
 Br am (f (.bool true) a) (Vb (bin .geq g (.int .i64 4096)) fun ab=>Br ab (f (.bool true) a) (Lf 0 i a fun ad=>Vb (MF (.int .i64) (.int .i64 0) false ad g a) fun ae=>
 Vb (bin .leq aa ae) fun af=>f af a))
def nY (S:Sys)(I:aZ)(g:Value)(h:Hp)(R:Po):Prop:=
 Eb (nw (Value.cells g) I.bH h) fun f a=>Lf 0 f a fun d=>Vb (lu d) fun e=>R e a
def od (S:Sys)(I:aZ)(an am:Value)(h:Hp)(R:Po):Prop:=
 Eb (nw (Value.cells an) I.bH h) fun al p=>Eb (nw (Value.cells am) I.cY p) fun m v=>Eb (nw #[.slice none 0 0] I.bH v) fun d a=>
 CY (fun w=>Rl 1 d w R) fun g=>Vb (fa 0 al) fun n=>Vb (dU n a) fun e=>Vb (aF 5 m a) fun f=>And (S.C I.bN [e] a fun ah i=>
 aF 5 m i=some f∧Eb (pb #[.int .i64 0,.int .u32 0,.int .u32 0,.int .i64 0,.map none] 5 1 I.cY [(0,f)] i) fun aj x=>Ap I.cY #[.int .i64 0,.int .u32 0,.int .u32 0,.int .i64 0,.map none] 5 32 ah aj x fun ad aa=>
 Vb (bG [(0,1)] #[.slice none 0 0] [(0,ad)]) fun af=>Sb (aQ 1 d af aa) fun ab=>g ab) (Eb (pb #[.int .i64 0,.int .u32 0,.int .u32 0,.int .i64 0,.map none] 5 1 I.cY [(0,f)] a) fun ak k=>
 dU n k=some e∧S.C I.bN [e] k fun ai q=>Ap I.cY #[.int .i64 0,.int .u32 0,.int .u32 0,.int .i64 0,.map none] 5 32 ai ak q fun ae t=>
 Vb (bG [(0,1)] #[.slice none 0 0] [(0,ae)]) fun ag=>Sb (aQ 1 d ag t) fun u=>g u)
def oP (S:Sys)(I:aZ)(af ag ai:Value)(h:Hp)(R:Po):Prop:=
 Eb (nw (Value.cells af) I.aM h) fun a n=>Eb (nw (Value.cells ai) I.eG n) fun ad p=>Eb (nw #[.slice none 0 0,.slice none 0 0] I.aM p) fun m e=>
 Lf 1 a e fun ae=>Vb (lu ae) fun k=>Eb (J9 #[.map none] 1 8 I.eG k k e) fun d f=>Lf 1 a f fun u=>Eb (Ni 1 d u f) fun ah g=>Vb (bin .sub ag (.int .i64 1)) fun v=>
 Vb (aF 1 ad g) fun w=>Vb (lQ 1 d v) fun x=>Sb (aQ 1 x w g) fun q=>Vb (fa 1 a) fun aa=>Sb (aQ 1 aa d q) fun i=>Vb (aF 2 a i) fun ab=>Sb (aQ 2 m ab i) fun t=>
 Rl 2 m t R
def nn (S:Sys)(I:aZ)(q g:Value)(h:Hp)(R:Po):Prop:=
 Eb (nw (Value.cells q) I.aM h) fun f a=>lq (fun n e=>R n e) fun d=>Vb (bin .geq g (.int .i64 1)) fun p=>Br p (Lf 1 f a fun i=>Vb (lu i) fun k=>
 Vb (bin .leq g k) fun m=>d m a) (d (.bool false) a)
def lG (S:Sys)(I:aZ)(a6 an x ak a5:Value)(h:Hp)(R:Po):Prop:=
 Eb (nw (Value.cells a6) I.aM h) fun i aa=>Eb (nw #[.slice none 0 0,.slice none 0 0] I.aM aa) fun v ae=>Eb (nw #[.int .i64 0,.int .u32 0,.int .u32 0] I.aJ ae) fun w g=>
 Lf 0 i g fun ao=>Vb (lQ 1 ao x) fun ap=>Vb (aF 1 ap g) fun aq=>S.C I.ka [aq,ak] g fun ar af=>X2 ar fun au a7=>Eb (nw #[.int .i64 0,.int .u32 0,.int .u32 0,.int .i64 0,.map none] I.cY af) fun n ag=>
 Sb (aQ 5 n au ag) fun u=>Vb (aF 2 i u) fun av=>S.C I.cD [av,an] u fun aw ah=>S.C I.fN [aw,x,ak] ah fun ax ai=>Eb (nw #[.map none] I.eG ai) fun e aj=>
 Sb (aQ 1 e ax aj) fun a=>CY (fun d=>Vb (aF 2 i d) fun a2=>Vb (aF 1 e d) fun a3=>Vb (fa 0 n) fun k=>Vb (aF 3 k d) fun m=>S.C I.ke [a2,an,a3] d fun a4 q=>
 aF 3 k q=some m∧Sb (aQ 2 v a4 q) fun t=>aF 3 k t=some m∧Sb (aQ 3 w m t) fun f=>Vb (aF 2 v f) fun al=>Vb (aF 3 w f) fun am=>R (.tuple #[al,am]) f) fun p=>
 Br a5 (Vb (aF 1 e a) fun ay=>Vb (fa 4 n) fun az=>Vb (aF 1 az a) fun a0=>S.C I.u7 [ay,a0] a fun a1 ab=>Sb (aQ 1 e a1 ab) fun ad=>p ad) (p a)
def ui (S:Sys)(I:aZ)(i g:Value)(h:Hp)(R:Po):Prop:=
 Eb (nw (Value.cells i) I.eG h) fun d a=>Lf 0 d a fun e=>Vb (MF (.int .i64) (.int .i64 0) false e g a) fun f=>R f a
def mG (S:Sys)(I:aZ)(x w v:Value)(h:Hp)(R:Po):Prop:=
 Eb (nw (Value.cells x) I.bH h) fun u d=>Lf 0 u d fun t=>Vb (lu t) fun e=>Vb (bin .sub e (.int .i64 1)) fun a=>Vb (bin .lss a (.int .i64 0)) fun f=>
 Br f (R (.int .i64 (-1)) d) (Vb (mn w a) fun g=>Vb (mx (.int .i64 0) g) fun i=>Vb (mx v (.int .i64 0)) fun k=>Vb (bin .sub a i) fun m=>Vb (bin .add m (.int .i64 1)) fun n=>
 Vb (bin .rem k n) fun p=>Vb (bin .sub a p) fun q=>R q d)
def xu (S:Sys)(I:aZ)(k:Value)(h:Hp)(R:Po):Prop:=
 Eb (nw (Value.cells k) I.aJ h) fun i a=>Vb (aF 3 i a) fun e=>S.C I.sX [e] a fun f d=>Vb (bin .eql f (.int .i64 0)) fun g=>R g d
def fF (S:Sys)(I:aZ)(g t:Value)(h:Hp)(R:Po):Prop:=
 Vb (lu g) fun p=>xN (.int .i64 0) h fun a d f=>Vb (bin .lss a p) fun q=>Br q (Vb (lQ 6 g a) fun i=>Vb (aF 6 i d) fun k=>Cw S.C S.Y I.mt t [k] d fun m e=>
 Br m (R a e) (Vb (bin .add a (.int .i64 1)) fun n=>f n e)) (R (.int .i64 (-1)) d)
def bW (S:Sys)(I:aZ)(d:Value)(h:Hp)(R:Po):Prop:=
 Vb (pos? (Q7 d (.map none))) fun e=>Br e (R (.map none) h) (Vb (some (.iface I.oE d)) fun f=>Eb (Qv [f] h) fun g a=>Vb (C3 I.oE (.map none) false g) fun i=>
 R i a)
def cG (S:Sys)(I:aZ)(a:Value)(h:Hp)(R:Po):Prop:=
 Vb (lu a) fun d=>Vb (lu a) fun e=>Vb (vR 5 a none (some d) (some e)) fun f=>R f h
def uO (S:Sys)(I:aZ)(ap aq:Value)(h:Hp)(R:Po):Prop:=
 Eb (nw (Value.cells ap) I.eG h) fun g q=>Eb (nw (Value.cells aq) I.eG q) fun i u=>Eb (nw #[.map none] I.eG u) fun e a=>Lf 0 i a fun ao=>
 Vb (Uf ao a) fun ab=>Vb (bin .eql ab (.int .i64 0)) fun ad=>Br ad (Vb (aF 1 g a) fun ae=>Sb (aQ 1 e ae a) fun v=>Rl 1 e v R) (Lf 0 i a fun af=>S.C I.bK [af] a fun f k=>
 Lf 0 g k fun ag=>Eb (TD ag k) fun m w=>NB w fun x p=>Nx m x fun ah d=>Vb (ext 0 ah) fun ai=>Br ai (Vb (zA m d) fun aj=>X2 aj fun n ak=>Vb (MF (.int .i64) (.int .i64 0) false f n d) fun al=>
 Vb (mx al ak) fun am=>Sb (CZ (.int .i64) f n am d) fun aa=>p aa) (Vb (bG [(0,1)] #[.map none] [(0,f)]) fun an=>Sb (aQ 1 e an d) fun t=>Rl 1 e t R))
def s4 (S:Sys)(I:aZ)(q:Value)(h:Hp)(R:Po):Prop:=
 Eb (nw (Value.cells q) I.aJ h) fun e d=>Lf 2 e d fun k=>S.C I.qL [k] d fun m a=>X2 m fun n p=>Lf 2 e a fun f=>Vb (bin .eql f (.int .u32 0)) fun g=>
 Br g (R (.int .i64 0) a) (Vb (bin .gtr n (.int .i64 0)) fun i=>Br i (R (.int .i64 1) a) (R (.int .i64 2) a))
def cJ (S:Sys)(I:aZ)(d9 ea:Value)(h:Hp)(R:Po):Prop:=
 Eb (nw (Value.cells d9) I.aK h) fun a a8=>Eb (nw (Value.cells ea) I.aW a8) fun aq bb=>Eb (nw aV I.aI bb) fun e g=>
 Lf 8 a g fun b1=>Vb (inl .neq b1) fun b7=>Br b7 (Vb (aF 13 a g) fun ci=>Vb (aF 4 aq g) fun cj=>S.C I.eO [ci,cj] g fun ck bo=>
 T2 8 e ck bo R) (NB g fun k a6=>lq (fun ct f=>Br ct (Lf 6 a f fun cu=>Vb (vR 2 cu (some (.int .i64 1)) none none) fun cv=>Vb (fa 6 a) fun cw=>Sb (aQ 1 cw cv f) fun bs=>
 a6 bs) (lq (fun c1 x=>Br c1 (Vb (aF 13 a x) fun c2=>Vb (some (.iface I.aK c2)) fun c3=>Vb (bG [(0,1),(1,1),(2,3),(5,3)] aV []) fun c4=>
 Sb (aQ 8 e c4 x) fun ar=>Vb (aF 8 e ar) fun m=>R (.tuple #[c3,m,(.bool true)]) ar) (Vb (aF 13 a x) fun c5=>S.C I.fU [c5] x fun aa d=>
 lq (fun a7 ab=>lq (fun ca ad=>Br ca (Vb (fa 12 a) fun cb=>Sb (aQ 1 cb (.bool true) ad) fun au=>Vb (aF 13 a au) fun cc=>Vb (some (.iface I.aK cc)) fun cd=>
 Vb (bG [(0,1),(1,1),(2,3),(5,3)] aV []) fun ce=>Sb (aQ 8 e ce au) fun av=>Vb (aF 8 e av) fun m=>R (.tuple #[cd,m,(.bool true)]) av) (Vb (aF 13 a ad) fun cf=>
 Vb (bG [(0,3),(3,1)] #[.int .i64 0,.int .u32 0,.int .u32 0,.bool false] []) fun cg=>S.C I.eO [cf,cg] ad fun ch a9=>T2 8 e ch a9 R)) fun ap=>
 Vb (bin .neq a7 (.int .i64 0)) fun b6=>Br b6 (ap (.bool true) ab) (Lf 8 a ab fun b8=>Vb (inl .eql b8) fun b9=>ap b9 ab)) fun ao=>Lf 6 a d fun c6=>Vb (lQ 2 c6 (.int .i64 0)) fun c7=>
 Lf 0 c7 d fun c8=>Vb (bin .rem c8 (.int .u8 4)) fun c9=>Vb (bin .eql c9 (.int .u8 3)) fun da=>Br da (Vb (fa 0 a) fun a0=>Vb (aF 3 a0 d) fun a1=>Vb (fa 5 a) fun a2=>
 Vb (dU a2 d) fun a3=>Vb (aF 13 a d) fun db=>S.C I.cV [db,aa] d fun dc ae=>dU a2 ae=some a3∧aF 3 a0 ae=some a1∧S.C I.xC [a1,a3,dc] ae fun dd ba=>
 X2 dd fun de df=>Vb (fa 8 a) fun dg=>Sb (aQ 1 dg de ba) fun bc=>ao df bc) (CY (fun w=>Lf 7 a w fun d0=>Vb (lu d0) fun a5=>Vb (lu aa) fun d1=>Vb (bin .lss a5 d1) fun d2=>
 Br d2 (Eb (pb #[.int .i64 0,.int .u32 0,.int .u32 0] 3 0 I.aJ [] w) fun d3 aw=>Lf 7 a aw fun d4=>Ap I.aJ #[.int .i64 0,.int .u32 0,.int .u32 0] 3 16 d3 d4 aw fun d5 bd=>
 Vb (bG [(0,1),(1,1),(2,1)] #[.int .i64 0,.int .u32 0,.int .u32 0] []) fun d6=>Eb (pb #[.int .i64 0,.int .u32 0,.int .u32 0] 3 1 I.aJ [(0,d6)] bd) fun d7 be=>
 Ap I.aJ #[.int .i64 0,.int .u32 0,.int .u32 0] 3 16 d5 d7 be fun d8 bf=>Vb (fa 7 a) fun bt=>Sb (aQ 1 bt d8 bf) fun af=>Vb (aF 13 a af) fun az=>
 Vb (some (.iface I.aK az)) fun bu=>Vb (aF 13 a af) fun bv=>S.C I.cV [bv,aa] af fun bw ag=>aF 13 a ag=some az∧Vb (lQ 1 bw a5) fun bx=>
 Vb (dU bx ag) fun bz=>Vb (bG [(0,1),(1,1),(2,3),(5,3)] aV [(0,(.int .i64 5)),(1,bz)]) fun b0=>Sb (aQ 8 e b0 ag) fun ax=>Vb (aF 8 e ax) fun m=>R (.tuple #[bu,m,(.bool false)]) ax) (Vb (aF 13 a w) fun b2=>
 S.C I.fT [b2,aa] w fun b3 bg=>X2 b3 fun b4 b5=>Sb (aQ 13 a b4 bg) fun bh=>ao b5 bh)) fun v=>Lf 7 a d fun dh=>Vb (lu dh) fun di=>
 Vb (bin .gtr di (.int .i64 0)) fun dj=>Br dj (Vb (fa 7 a) fun n=>Vb (dU n d) fun p=>Vb (fa 7 a) fun q=>Vb (dU q d) fun t=>Vb (lu t) fun dl=>Vb (bin .sub dl (.int .i64 1)) fun dm=>
 Vb (vR 3 p none (some dm) none) fun ak=>Vb (fa 0 aq) fun al=>Vb (aF 3 al d) fun u=>And (Eb (pb #[.int .i64 0,.int .u32 0,.int .u32 0] 3 0 I.aJ [] d) fun a4 i=>
 aF 3 al i=some u∧dU q i=some t∧dU n i=some p∧And (Ap I.aJ #[.int .i64 0,.int .u32 0,.int .u32 0] 3 16 a4 ak i fun dn ay=>aF 3 al ay=some u∧Eb (pb #[.int .i64 0,.int .u32 0,.int .u32 0] 3 1 I.aJ [(0,u)] ay) fun dr bi=>
 Ap I.aJ #[.int .i64 0,.int .u32 0,.int .u32 0] 3 16 dn dr bi fun du bj=>Vb (fa 7 a) fun dx=>Sb (aQ 1 dx du bj) fun bk=>v bk) (Eb (pb #[.int .i64 0,.int .u32 0,.int .u32 0] 3 1 I.aJ [(0,u)] i) fun ds ah=>
 dU q ah=some t∧dU n ah=some p∧Ap I.aJ #[.int .i64 0,.int .u32 0,.int .u32 0] 3 16 a4 ak ah fun dp bl=>Ap I.aJ #[.int .i64 0,.int .u32 0,.int .u32 0] 3 16 dp ds bl fun dv bm=>
 Vb (fa 7 a) fun dy=>Sb (aQ 1 dy dv bm) fun bn=>v bn)) (Eb (pb #[.int .i64 0,.int .u32 0,.int .u32 0] 3 1 I.aJ [(0,u)] d) fun dt ai=>dU q ai=some t∧dU n ai=some p∧Eb (pb #[.int .i64 0,.int .u32 0,.int .u32 0] 3 0 I.aJ [] ai) fun dk aj=>
 dU q aj=some t∧dU n aj=some p∧Ap I.aJ #[.int .i64 0,.int .u32 0,.int .u32 0] 3 16 dk ak aj fun dq bp=>Ap I.aJ #[.int .i64 0,.int .u32 0,.int .u32 0] 3 16 dq dt bp fun dw bq=>
 Vb (fa 7 a) fun dz=>Sb (aQ 1 dz dw bq) fun br=>v br)) (v d)))) fun an=>Lf 6 a f fun cx=>Vb (lu cx) fun cy=>Vb (bin .eql cy (.int .i64 0)) fun cz=>Br cz (an (.bool true) f) (Lf 12 a f fun c0=>
 an c0 f))) fun am=>Lf 6 a k fun cl=>Vb (lu cl) fun cm=>Vb (bin .gtr cm (.int .i64 0)) fun cn=>Br cn (Lf 6 a k fun co=>Vb (lQ 2 co (.int .i64 0)) fun cp=>
 Lf 1 cp k fun cq=>Vb (lu cq) fun cr=>Vb (bin .eql cr (.int .i64 0)) fun cs=>am cs k) (am (.bool false) k))
def kf (S:Sys)(I:aZ)(be:Value)(h:Hp)(R:Po):Prop:=
 Eb (nw (Value.cells be) I.aK h) fun e u=>Vb (fa 0 e) fun bc=>Lf 1 bc u fun bd=>Az (.slice none 0 0) (.int .i64 0) u fun f m a x=>
 Vb (bin .lss m bd) fun aj=>Br aj (lq (fun ah ab=>Vb (bin .add m (.int .i64 1)) fun a2=>x ah a2 ab) fun p=>Lf 6 e a fun ak=>Vb (lQ 2 ak (.int .i64 0)) fun al=>
 Lf 1 al a fun w=>Vb (lu w) fun am=>Az f (.int .i64 0) a fun i n g aa=>Vb (bin .lss n am) fun an=>Br an (Vb (lQ 3 w n) fun ao=>Vb (aF 3 ao g) fun ap=>
 Eb (nw #[.int .u8 0,.int .i8 0,.bool false] I.eW g) fun k ad=>Sb (aQ 3 k ap ad) fun d=>Lf 0 k d fun aq=>Vb (HA .i64 aq) fun ar=>Vb (fa 0 e) fun au=>
 Lf 1 au d fun av=>Vb (bin .rem ar av) fun aw=>Vb (bin .eql aw m) fun ax=>Br ax (Vb (aF 3 k d) fun ay=>Eb (pb #[.int .u8 0,.int .i8 0,.bool false] 3 1 I.eW [(0,ay)] d) fun az ae=>
 Ap I.eW #[.int .u8 0,.int .i8 0,.bool false] 3 3 i az ae fun a0 af=>p a0 af) (Vb (bin .add n (.int .i64 1)) fun a1=>aa i a1 d)) (p i g)) (lq (fun ai ag=>
 R ai ag) fun q=>lq (fun ba v=>Br ba (Vb (vR 3 f none (some (.int .i64 1)) none) fun bb=>q bb v) (q f v)) fun t=>Lf 6 e a fun a3=>Vb (lQ 2 a3 (.int .i64 0)) fun a4=>
 Lf 0 a4 a fun a5=>Vb (bin .rem a5 (.int .u8 4)) fun a6=>Vb (bin .eql a6 (.int .u8 2)) fun a7=>Br a7 (Vb (lu f) fun a8=>Vb (bin .gtr a8 (.int .i64 1)) fun a9=>
 t a9 a) (t (.bool false) a))
def bT (S:Sys)(I:aZ)(cp cq:Value)(h:Hp)(R:Po):Prop:=
 Eb (nw (Value.cells cp) I.aK h) fun a al=>Eb (nw (Value.cells cq) I.aW al) fun ak av=>Eb (nw aV I.aI av) fun k i=>
 Lf 8 a i fun bb=>Vb (aF 4 ak i) fun bc=>Ci S.C I.mt "Next" bb [bc] i fun bd a4=>X3 bd fun e be bf=>Eb (nw aV I.aI a4) fun t a5=>Sb (aQ 8 t be a5) fun a6=>
 Vb (fa 8 a) fun bg=>Sb (aQ 1 bg e a6) fun d=>Vb (sk .not bf) fun bh=>Br bh (Vb (aF 13 a d) fun bi=>Vb (some (.iface I.aK bi)) fun bj=>
 Vb (aF 8 t d) fun bk=>Sb (aQ 8 k bk d) fun ae=>Vb (aF 8 k ae) fun ba=>R (.tuple #[bj,ba,(.bool false)]) ae) (S.C I.qg [e] d fun bl a7=>X2 bl fun bm bn=>
 MQ (fun aj a8 am=>lq (fun a9 f=>CY (fun an=>Eb (pb #[.bool false] 1 0 I.AA [] an) fun cb u=>Lf 10 a u fun cc=>Ap I.AA #[.bool false] 1 1 cb cc u fun cd ao=>
 Eb (pb #[.bool false] 1 1 I.AA [(0,aj)] ao) fun ce ap=>Ap I.AA #[.bool false] 1 1 cd ce ap fun cf aq=>Vb (fa 10 a) fun cg=>Sb (aQ 1 cg cf aq) fun v=>
 Lf 6 a v fun ch=>Vb (vR 2 ch (some (.int .i64 1)) none none) fun ci=>Vb (fa 6 a) fun cj=>Sb (aQ 1 cj ci v) fun ar=>Vb (fa 8 a) fun ck=>Sb (aQ 1 ck (.nilIface) ar) fun au=>
 Vb (fa 9 a) fun cl=>Sb (aQ 1 cl (.slice none 0 0) au) fun w=>Vb (aF 13 a w) fun cm=>Vb (bG [(0,3),(3,1)] #[.int .i64 0,.int .u32 0,.int .u32 0,.bool false] []) fun cn=>
 S.C I.dC [cm,cn] w fun co aw=>T2 8 k co aw R) fun q=>Lf 12 a f fun b7=>Br b7 (Vb (fa 12 a) fun b9=>Sb (aQ 1 b9 (.bool true) f) fun ax=>
 q ax) (Vb (sk .not a9) fun b8=>Vb (fa 12 a) fun ca=>Sb (aQ 1 ca b8 f) fun ay=>q ay)) fun p=>S.C I.rJ [e] am fun br x=>X2 br fun ag bs=>Br bs (Vb (lu ag) fun bt=>
 Az (.int .i64 0) (.int .i64 0) x fun af m g ai=>Vb (bin .lss m bt) fun bu=>Br bu (Vb (lQ 3 ag m) fun bv=>Vb (aF 3 bv g) fun bw=>Eb (nw #[.int .i64 0,.int .u32 0,.int .u32 0] I.aJ g) fun ah az=>
 Sb (aQ 3 ah bw az) fun aa=>Lf 0 ah aa fun bx=>Vb (bin .add af bx) fun bz=>Vb (bin .add m (.int .i64 1)) fun b0=>ai bz b0 aa) (Eb (pb #[.int .i64 0] 1 0 I.BF [] g) fun b1 ab=>
 Lf 11 a ab fun b2=>Ap I.BF #[.int .i64 0] 1 8 b1 b2 ab fun b3 a0=>Eb (pb #[.int .i64 0] 1 1 I.BF [(0,af)] a0) fun b4 a1=>Ap I.BF #[.int .i64 0] 1 8 b3 b4 a1 fun b5 a2=>
 Vb (fa 11 a) fun b6=>Sb (aQ 1 b6 b5 a2) fun a3=>p (.bool true) a3)) (p a8 x)) fun n=>S.C I.po [e] a7 fun bo ad=>X3 bo fun bp cr bq=>Br bq (n bp (.bool true) ad) (n bm bn ad))
def jH (S:Sys)(I:aZ)(an u:Value)(h:Hp)(R:Po):Prop:=
 Eb (nw (Value.cells an) I.aK h) fun f m=>Vb (lu u) fun am=>Az (.slice none 0 0) (.int .i64 0) m fun g e d k=>Vb (bin .lss e am) fun v=>
 Br v (Vb (lQ 3 u e) fun w=>Vb (aF 3 w d) fun x=>Eb (nw #[.int .u8 0,.int .i8 0,.bool false] I.eW d) fun i n=>Sb (aQ 3 i x n) fun a=>
 Vb (fa 0 f) fun aa=>Vb (aF 3 aa a) fun ab=>Lf 0 i a fun ad=>Vb (HA .i64 ad) fun ae=>Vb (fa 0 f) fun af=>Lf 1 af a fun ag=>Vb (bin .rem ae ag) fun ah=>
 S.C I.cF [ab,ah] a fun ai p=>Eb (pb #[.int .i64 0] 1 1 I.nR [(0,ai)] p) fun aj q=>Ap I.nR #[.int .i64 0] 1 8 g aj q fun ak t=>
 Vb (bin .add e (.int .i64 1)) fun al=>k ak al t) (R g d)
def eD (S:Sys)(I:aZ)(c6 x:Value)(h:Hp)(R:Po):Prop:=
 Eb (nw (Value.cells c6) I.aK h) fun a aw=>Eb (nw yQ I.aK aw) fun ao a1=>Vb (fa 9 a) fun bq=>Sb (aQ 1 bq (.slice none 0 0) a1) fun af=>
 Vb (aF 13 a af) fun br=>S.C I.cV [br,x] af fun bs a8=>Vb (lu x) fun bt=>xN (.int .i64 0) a8 fun m v au=>Vb (bin .lss m bt) fun bu=>
 Br bu (Vb (lQ 3 x m) fun bv=>Vb (aF 3 bv v) fun bw=>Eb (nw #[.int .u8 0,.int .i8 0,.bool false] I.eW v) fun p a9=>Sb (aQ 3 p bw a9) fun w=>
 Lf 7 a w fun bx=>Vb (lQ 3 bx m) fun bz=>Vb (aF 3 bz w) fun b0=>Eb (nw #[.int .i64 0,.int .u32 0,.int .u32 0] I.aJ w) fun n ba=>Sb (aQ 3 n b0 ba) fun i=>
 Vb (lQ 1 bs m) fun ag=>Vb (dU ag i) fun ah=>Vb (fa 0 n) fun ai=>Vb (dU ai i) fun aj=>Vb (fa 1 n) fun ak=>Vb (dU ak i) fun al=>Vb (bG [(0,1),(1,1),(2,1)] #[.int .i64 0,.int .u32 0,.int .u32 0] [(0,aj),(1,al)]) fun b1=>
 Vb (fa 0 n) fun am=>Vb (dU am i) fun an=>Vb (fa 2 p) fun ap=>Vb (dU ap i) fun aq=>Vb (bG [(0,1),(1,3),(4,1),(5,1)] ql [(0,ah),(1,b1),(2,an),(3,aq)]) fun b2=>
 Eb (nw ql I.bX i) fun t f=>dU ap f=some aq∧dU am f=some an∧dU ak f=some al∧dU ai f=some aj∧dU ag f=some ah∧Sb (aQ 6 t b2 f) fun k=>
 CY (fun u=>Lf 9 a u fun b9=>Vb (aF 6 t u) fun ca=>Eb (pb ql 6 1 I.bX [(0,ca)] u) fun cb ax=>Ap I.bX ql 6 40 b9 cb ax fun cc ay=>
 Vb (fa 9 a) fun cd=>Sb (aQ 1 cd cc ay) fun az=>Vb (bin .add m (.int .i64 1)) fun ce=>au ce az) fun aa=>Lf 2 p k fun b3=>Br b3 (Lf 0 n k fun b4=>Lf 1 p k fun b5=>
 Vb (HA .i64 b5) fun b6=>Vb (bin .add b4 b6) fun b7=>Vb (fa 4 t) fun b8=>Sb (aQ 1 b8 b7 k) fun a0=>aa a0) (aa k)) (Vb (fa 7 a) fun cf=>Sb (aQ 1 cf (.slice none 0 0) v) fun d=>
 lq (fun av ad=>Vb (aF 13 a ad) fun bp=>Sb (aQ 13 ao bp ad) fun ae=>Vb (aF 13 ao ae) fun bb=>R (.tuple #[bb,av]) ae) fun q=>Lf 6 a d fun cg=>Vb (lQ 2 cg (.int .i64 0)) fun ch=>
 Lf 0 ch d fun ci=>Vb (bin .rem ci (.int .u8 4)) fun ar=>Vb (bin .eql ar (.int .u8 1)) fun cw=>Br cw (Vb (fa 0 a) fun cx=>Vb (aF 3 cx d) fun cy=>Lf 5 a d fun cz=>
 Lf 9 a d fun c0=>S.C I.vd [cy,cz,c0] d fun c1 a2=>X2 c1 fun c2 c3=>Vb (fa 8 a) fun c4=>Sb (aQ 1 c4 c2 a2) fun a3=>q c3 a3) (lq (fun c5 e=>Br c5 (Vb (fa 0 a) fun bf=>
 Vb (aF 3 bf e) fun bg=>Lf 5 a e fun bh=>Lf 9 a e fun bi=>Vb (lQ 6 bi (.int .i64 0)) fun bj=>Vb (aF 6 bj e) fun bk=>S.C I.zZ [bg,bh,bk] e fun bl a4=>
 X2 bl fun bm bn=>Vb (fa 8 a) fun bo=>Sb (aQ 1 bo bm a4) fun a5=>q bn a5) (Lf 4 a e fun cj=>Vb (bin .add cj (.int .i64 1)) fun ck=>Vb (fa 4 a) fun cl=>
 Sb (aQ 1 cl ck e) fun g=>Vb (fa 0 a) fun cm=>Vb (aF 3 cm g) fun cn=>Lf 3 a g fun co=>Lf 4 a g fun cp=>Lf 5 a g fun cq=>Lf 9 a g fun cr=>S.C I.xd [cn,co,cp,cq,cr] g fun cs a6=>
 X2 cs fun ct cu=>Vb (fa 8 a) fun cv=>Sb (aQ 1 cv ct a6) fun a7=>q cu a7)) fun ab=>Vb (bin .eql ar (.int .u8 2)) fun bc=>Br bc (Vb (lQ 3 x (.int .i64 0)) fun bd=>
 Lf 2 bd d fun be=>ab be d) (ab (.bool false) d)))
def nW (S:Sys)(I:aZ)(v:Value)(h:Hp)(R:Po):Prop:=
 Vb (C3 I.aY (Value.agg ze) true v) fun t=>X2 t fun u f=>Eb (nw ze I.aY h) fun e i=>Sb (aQ 10 e u i) fun a=>MQ (fun p q k=>
 R (.tuple #[p,q]) k) fun d=>Br f (Lf 9 e a fun g=>Br f (Lf 8 e a fun m=>d g m a) (d g (.bool false) a)) (Br f (Lf 8 e a fun n=>d (.bool false) n a) (d (.bool false) (.bool false) a))
def nh (S:Sys)(I:aZ)(w:Value)(h:Hp)(R:Po):Prop:=
 Vb (C3 I.aH (Value.agg lS) true w) fun v=>X2 v fun i k=>Eb (nw lS I.aH h) fun d g=>Sb (aQ 15 d i g) fun e=>lq (fun q a=>
 Br q (R (.tuple #[(.bool false),(.int .i64 0),(.bool false)]) a) (Lf 10 d a fun t=>Lf 11 d a fun u=>R (.tuple #[t,u,(.bool true)]) a)) fun f=>Vb (sk .not k) fun m=>
 Br m (f (.bool true) e) (Lf 12 d e fun n=>Vb (sk .not n) fun p=>f p e)
def tV (S:Sys)(I:aZ)(ad:Value)(h:Hp)(R:Po):Prop:=
 Vb (C3 I.qO (Value.agg G2) true ad) fun ab=>X2 ab fun p q=>Eb (nw G2 I.qO h) fun a m=>Sb (aQ 16 a p m) fun d=>lq (fun w e=>
 Br w (R (.tuple #[(.slice none 0 0),(.bool false)]) e) (Lf 8 a e fun x=>Vb (lu x) fun i=>Eb (J9 #[.int .i64 0,.int .u32 0,.int .u32 0] 3 16 I.aJ i i e) fun k g=>
 Lf 8 a g fun aa=>Eb (Ni 3 k aa g) fun ae n=>R (.tuple #[k,(.bool true)]) n)) fun f=>Vb (sk .not q) fun t=>Br t (f (.bool true) d) (Lf 14 a d fun u=>Vb (sk .not u) fun v=>
 f v d)
def yq (S:Sys)(I:aZ)(x w i:Value)(h:Hp)(R:Po):Prop:=
 Eb (nw (Value.cells x) I.bB h) fun f a=>Vb (aF 3 f a) fun m=>S.C I.sJ [m,i] a fun g d=>Vb (bin .neq g (.int .i64 0)) fun n=>Br n (R (.tuple #[(.nilIface),g]) d) (Eb (pb ql 6 0 I.bX [] d) fun p k=>
 Ap I.bX ql 6 40 p i k fun q e=>Vb (aF 3 f e) fun t=>Vb (bG [(0,3),(3,1),(4,1),(5,1),(6,1),(7,1),(8,1),(9,1),(10,1),(11,1),(12,1),(13,1),(14,1)] lS [(0,t),(1,w),(2,q),(11,(.func (.func I.jZ) #[] #[]))]) fun u=>
 Vb (some (.iface I.aH u)) fun v=>R (.tuple #[v,(.int .i64 0)]) e)
def Am (S:Sys)(I:aZ)(be n m aj i:Value)(h:Hp)(R:Po):Prop:=
 Eb (nw (Value.cells be) I.bB h) fun a u=>Vb (aF 3 a u) fun ao=>S.C I.cI [ao] u fun ap d=>Vb (bin .neq ap (.int .i64 0)) fun aq=>
 Br aq (R (.tuple #[(.nilIface),(.int .i64 1)]) d) (lq (fun ar ad=>Br ar (R (.tuple #[(.nilIface),(.int .i64 3)]) ad) (S.C I.nP [i] ad fun ai ae=>
 Vb (bin .neq ai (.int .i64 0)) fun az=>Br az (R (.tuple #[(.nilIface),ai]) ae) (S.C I.cX [i,(.func (.func I.rO) #[] #[])] ae fun a0 af=>
 Vb (sk .not a0) fun a1=>Br a1 (R (.tuple #[(.nilIface),(.int .i64 12)]) af) (Vb (some (.func (.func I.rY) #[] #[a])) fun a2=>S.C I.bS [i,a2] af fun a3 k=>
 Br a3 (R (.tuple #[(.nilIface),(.int .i64 10)]) k) (lq (fun g ag=>Vb (aF 10 g ag) fun a8=>Vb (some (.func (.func I.bZ) #[a8] #[])) fun a9=>
 Eb (nw #[.nilFunc] I.kj ag) fun ah am=>Sb (aQ 1 ah a9 am) fun an=>Vb (some (.func (.func I.dT) #[] #[ah,g])) fun ba=>
 Vb (fa 7 g) fun bb=>Sb (aQ 1 bb ba an) fun v=>Vb (aF 10 g v) fun bc=>Vb (some (.iface I.aY bc)) fun bd=>R (.tuple #[bd,(.int .i64 0)]) v) fun p=>
 Vb (aF 3 a k) fun e=>And (S.C I.dB [i] k fun a4 w=>aF 3 a w=some e∧Vb (bG [(0,3),(3,1),(4,1),(5,1),(6,1),(7,1),(8,1),(9,1)] ze [(0,e),(1,n),(2,m),(3,aj),(4,a4)]) fun a6=>
 Eb (nw ze I.aY w) fun q x=>aF 3 a x=some e∧Sb (aQ 10 q a6 x) fun ak=>p q ak) (Eb (nw ze I.aY k) fun t aa=>aF 3 a aa=some e∧S.C I.dB [i] aa fun a5 ab=>
 aF 3 a ab=some e∧Vb (bG [(0,3),(3,1),(4,1),(5,1),(6,1),(7,1),(8,1),(9,1)] ze [(0,e),(1,n),(2,m),(3,aj),(4,a5)]) fun a7=>Sb (aQ 10 t a7 ab) fun al=>
 p t al)))))) fun f=>Vb (bin .lss n (.int .i64 1)) fun au=>Br au (f (.bool true) d) (Lf 0 a d fun av=>Vb (bin .gtr n av) fun aw=>Br aw (f (.bool true) d) (Vb (bin .lss m (.int .i64 1)) fun ax=>
 Br ax (f (.bool true) d) (Vb (bin .gtr m (.int .i64 16777215)) fun ay=>f ay d))))
def vk (S:Sys)(I:aZ)(a3 a:Value)(h:Hp)(R:Po):Prop:=
 Eb (nw (Value.cells a3) I.bB h) fun k n=>Vb (aF 3 k n) fun a2=>S.C I.cI [a2] n fun aa p=>Vb (bin .neq aa (.int .i64 0)) fun ab=>
 Br ab (R (.int .i64 1) p) (S.C I.nP [a] p fun t g=>Vb (bin .neq t (.int .i64 0)) fun ad=>Br ad (R t g) (Vb (lu a) fun ae=>Vb (bin .gtr ae (.int .i64 10)) fun af=>
 Br af (R (.int .i64 15) g) (xN (.int .i64 1) g fun f d v=>Vb (lu a) fun ag=>Vb (bin .lss f ag) fun ah=>Br ah (Vb (bin .sub f (.int .i64 1)) fun aj=>Vb (lQ 6 a aj) fun ak=>
 Lf 0 ak d fun al=>Vb (lQ 6 a f) fun am=>Lf 0 am d fun an=>Vb (bin .geq al an) fun ao=>Br ao (R (.int .i64 12) d) (Vb (bin .add f (.int .i64 1)) fun ai=>
 v ai d)) (Vb (lu a) fun ap=>xN (.int .i64 0) d fun m e w=>Vb (bin .lss m ap) fun aq=>Br aq (Vb (lQ 6 a m) fun ar=>Vb (aF 6 ar e) fun au=>Eb (nw ql I.bX e) fun u x=>
 Sb (aQ 6 u au x) fun i=>Vb (aF 3 k i) fun av=>Lf 0 u i fun aw=>S.C I.eV [av,aw] i fun ax q=>Vb (sk .not ax) fun ay=>Br ay (R (.int .i64 10) q) (Vb (bin .add m (.int .i64 1)) fun az=>
 w az q)) (Lf 2 k e fun a0=>Vb (bin .eql a0 (.int .i64 0)) fun a1=>Br a1 (R (.int .i64 9) e) (R (.int .i64 0) e))))))
def l4 (S:Sys)(I:aZ)(x aa:Value)(h:Hp)(R:Po):Prop:=
 Eb (nw (Value.cells x) I.aH h) fun e f=>Eb (nw (Value.cells aa) I.aW f) fun ad g=>Eb (nw lS I.aH g) fun v i=>Eb (nw aV I.aI i) fun w a=>
 Vb (fa 0 e) fun m=>Vb (aF 3 m a) fun n=>S.C I.tw [n,(.int .i64 0)] a fun p d=>X2 p fun q ab=>Vb (aF 15 e d) fun t=>S.C I.iO [t,q,(.func (.func I.gB) #[] #[])] d fun u k=>
 T3 15 v 8 w u k R
def tR (S:Sys)(I:aZ)(m n:Value)(h:Hp)(R:Po):Prop:=
 Eb (nw (Value.cells m) I.bX h) fun d f=>Eb (nw (Value.cells n) I.bX f) fun e a=>Lf 0 d a fun g=>Lf 0 e a fun i=>Vb (bin .sub g i) fun k=>
 R k a
def tQ (S:Sys)(I:aZ)(n m:Value)(h:Hp)(R:Po):Prop:=
 Eb (nw (Value.cells n) I.bX h) fun k a=>Vb (aF 3 m a) fun e=>Lf 0 k a fun f=>S.C I.eV [e,f] a fun g d=>Vb (sk .not g) fun i=>
 R i d
def gI (S:Sys)(I:aZ)(e:Value)(h:Hp)(R:Po):Prop:=
 Vb (pos? (Qa e (.slice none 0 0))) fun f=>Br f (R (.slice none 0 0) h) (Eb (pb ql 6 0 I.bX [] h) fun g a=>Ap I.bX ql 6 40 g e a fun i d=>
 R i d)
def gZ (S:Sys)(I:aZ)(bc bd:Value)(h:Hp)(R:Po):Prop:=
 Eb (nw (Value.cells bc) I.aY h) fun a q=>Eb (nw (Value.cells bd) I.aW q) fun p w=>Eb (nw aV I.aI w) fun k n=>Vb (fa 0 p) fun ab=>
 Vb (aF 3 ab n) fun ad=>Eb (nw #[.int .i64 0,.int .u32 0,.int .u32 0] I.aJ n) fun g x=>Sb (aQ 3 g ad x) fun d=>Lf 1 g d fun ae=>Lf 4 a d fun af=>
 Vb (HA .u32 af) fun ag=>Vb (bin .geq ae ag) fun ah=>Br ah (Vb (aF 10 a d) fun ai=>S.C I.lX [ai,(.bool false)] d fun aj aa=>T2 8 k aj aa R) (Lf 3 a d fun ak=>
 Lf 1 g d fun al=>Vb (HA .i64 al) fun am=>S.C I.qN [ak,am] d fun an e=>X2 an fun ao ap=>lq (fun ax f=>Br ax (Vb (aF 10 a f) fun ay=>S.C I.k0 [ay] f fun az t=>
 T2 8 k az t R) (Vb (fa 0 a) fun a0=>Vb (aF 3 a0 f) fun a1=>Lf 5 a f fun a2=>S.C I.qH [a1,ao,a2] f fun a3 i=>X2 a3 fun a4 a5=>Vb (bin .neq a5 (.int .i64 0)) fun a6=>
 Br a6 (Vb (aF 10 a i) fun a7=>S.C I.k0 [a7] i fun a8 u=>T2 8 k a8 u R) (Vb (aF 10 a i) fun a9=>Vb (bG [(0,3),(3,1)] #[.int .i64 0,.int .u32 0,.int .u32 0,.bool false] []) fun ba=>
 S.C I.jG [a9,a4,ba,(.func (.func I.iL) #[] #[])] i fun bb v=>T2 8 k bb v R))) fun m=>Vb (bin .neq ap (.int .i64 0)) fun aq=>
 Br aq (m (.bool true) e) (Lf 0 g e fun ar=>Vb (bin .neq ar (.int .i64 0)) fun au=>Br au (Lf 0 g e fun av=>Vb (bin .neq av (.int .i64 1)) fun aw=>m aw e) (m (.bool false) e)))
def tL (S:Sys)(I:aZ)(x aa d:Value)(h:Hp)(R:Po):Prop:=
 Eb (nw (Value.cells x) I.aW h) fun ab m=>Eb (nw aV I.aI m) fun i e=>Vb (dU aa e) fun v=>Vb (fa 7 d) fun w=>Sb (aQ 1 w v e) fun a=>Vb (aF 10 d a) fun k=>
 Vb (some (.iface I.aY k)) fun p=>Vb (aF 10 d a) fun q=>S.C I.nf [q] a fun t f=>aF 10 d f=some k∧Vb (bG [(0,1),(1,1),(2,3),(5,3)] aV [(0,(.int .i64 5)),(1,t)]) fun u=>
 Sb (aQ 8 i u f) fun g=>Vb (aF 8 i g) fun n=>R (.tuple #[p,n,(.bool false)]) g
def sy (S:Sys)(I:aZ)(m:Value)(h:Hp)(R:Po):Prop:=
 Eb (nw (Value.cells m) I.aY h) fun d a=>Vb (fa 0 d) fun f=>Vb (aF 3 f a) fun g=>Lf 3 d a fun i=>S.C I.gK [g,i] a fun k e=>R k e
def xj (S:Sys)(I:aZ)(ap p:Value)(h:Hp)(R:Po):Prop:=
 Eb (nw (Value.cells ap) I.bB h) fun a q=>Vb (aF 3 a q) fun ao=>S.C I.qe [ao,p] q fun x e=>Vb (bin .neq x (.int .i64 0)) fun af=>
 Br af (R (.tuple #[(.nilIface),x]) e) (lq (fun f ad=>Vb (some (.func (.func I.dK) #[] #[f])) fun ak=>Vb (fa 7 f) fun al=>Sb (aQ 1 al ak ad) fun t=>
 Vb (aF 8 f t) fun am=>Vb (some (.iface I.bA am)) fun an=>R (.tuple #[an,(.int .i64 0)]) t) fun k=>Vb (aF 3 a e) fun d=>Vb (fa 2 a) fun aa=>
 Vb (dU aa e) fun i=>And (S.C I.qh [i,p] e fun ag u=>aF 3 a u=some d∧Vb (bG [(0,3),(3,1),(4,1),(5,1),(6,1),(7,1)] C1 [(0,d),(1,ag)]) fun ai=>
 Eb (nw C1 I.bA u) fun m v=>aF 3 a v=some d∧Sb (aQ 8 m ai v) fun ae=>k m ae) (Eb (nw C1 I.bA e) fun n g=>dU aa g=some i∧aF 3 a g=some d∧S.C I.qh [i,p] g fun ah w=>
 aF 3 a w=some d∧Vb (bG [(0,3),(3,1),(4,1),(5,1),(6,1),(7,1)] C1 [(0,d),(1,ah)]) fun aj=>Sb (aQ 8 n aj w) fun ab=>k n ab))
def mR (S:Sys)(I:aZ)(aa x w:Value)(h:Hp)(R:Po):Prop:=
 Eb (nw (Value.cells aa) I.aH h) fun a e=>Eb (nw lS I.aH e) fun u f=>Eb (nw aV I.aI f) fun v g=>Vb (fa 9 a) fun m=>
 Sb (aQ 1 m x g) fun i=>Vb (fa 14 a) fun n=>Sb (aQ 1 n w i) fun d=>Vb (aF 15 a d) fun p=>Vb (bG [(0,3),(3,1)] #[.int .i64 0,.int .u32 0,.int .u32 0,.bool false] []) fun q=>
 S.C I.cC [p,q] d fun t k=>T3 15 u 8 v t k R
def iV (S:Sys)(I:aZ)(ar au:Value)(h:Hp)(R:Po):Prop:=
 Eb (nw (Value.cells ar) I.aH h) fun a p=>Eb (nw (Value.cells au) I.aW p) fun aw u=>Eb (nw lS I.aH u) fun m v=>Eb (nw aV I.aI v) fun n f=>
 Lf 9 a f fun x=>S.C I.sN [x] f fun aa g=>X3 aa fun k ab av=>Vb (bin .neq ab (.int .i64 0)) fun ad=>Br ad (Vb (fa 11 a) fun ae=>Sb (aQ 1 ae (.int .i64 9) g) fun i=>
 Vb (aF 15 a i) fun af=>S.C I.kG [af] i fun ag w=>T3 15 m 8 n ag w R) (Vb (bin .add (.int .i64 9) k) fun ah=>Vb (fa 5 a) fun ai=>Sb (aQ 1 ai ah g) fun e=>
 Vb (fa 0 a) fun aj=>Vb (aF 3 aj e) fun ak=>S.C I.fY [ak,k] e fun al q=>Vb (fa 7 a) fun am=>Sb (aQ 1 am al q) fun d=>Vb (aF 15 a d) fun an=>
 Lf 7 a d fun ao=>Vb (bG [(0,1),(1,1),(2,3),(5,3)] aV [(0,(.int .i64 5)),(1,ao)]) fun ap=>S.C I.cK [an,ap,(.func (.func I.iJ) #[] #[])] d fun aq t=>
 T3 15 m 8 n aq t R)
def ug (S:Sys)(I:aZ)(ag af ah:Value)(h:Hp)(R:Po):Prop:=
 Eb (nw (Value.cells ag) I.aY h) fun a m=>Eb (nw (Value.cells af) I.aI m) fun k n=>Eb (nw (Value.cells ah) I.iB n) fun v p=>
 Eb (nw aV I.aI p) fun i e=>Vb (aF 10 a e) fun w=>Eb (nw ze I.aY e) fun g q=>Sb (aQ 10 g w q) fun t=>Vb (some (.func (.func I.dV) #[] #[v,g])) fun x=>
 Vb (fa 7 a) fun aa=>Sb (aQ 1 aa x t) fun d=>Vb (aF 10 a d) fun ab=>Vb (some (.iface I.aY ab)) fun ad=>Vb (aF 8 k d) fun ae=>Sb (aQ 8 i ae d) fun f=>
 Vb (aF 8 i f) fun u=>R (.tuple #[ad,u,(.bool false)]) f
def tn (S:Sys)(I:aZ)(x aa:Value)(h:Hp)(R:Po):Prop:=
 Eb (nw (Value.cells x) I.aY h) fun a g=>Eb (nw aV I.aI g) fun f i=>Vb (fa 8 a) fun v=>Sb (aQ 1 v (.bool true) i) fun k=>Vb (fa 9 a) fun w=>
 Sb (aQ 1 w aa k) fun m=>Vb (fa 7 a) fun p=>Sb (aQ 1 p (.nilFunc) m) fun d=>Vb (aF 10 a d) fun q=>Vb (some (.iface I.aY q)) fun t=>Vb (bG [(0,1),(1,1),(2,3),(5,3)] aV []) fun u=>
 Sb (aQ 8 f u d) fun e=>Vb (aF 8 f e) fun n=>R (.tuple #[t,n,(.bool true)]) e
def pL (S:Sys)(I:aZ)(dv:Value)(h:Hp)(R:Po):Prop:=
 Eb (nw (Value.cells dv) I.aY h) fun a a9=>Eb (nw aV I.aI a9) fun co aj=>Vb (aF 10 a aj) fun b4=>S.C I.nf [b4] aj fun e k=>
 lq (fun a5 aq=>Lf 6 a aq fun cn=>Vb (lu cn) fun cp=>Vb (bG [(0,1),(1,1),(2,1)] #[.int .i64 0,.int .u32 0,.int .u32 0] [(0,cp)]) fun cq=>Eb (pb #[.int .i64 0,.int .u32 0,.int .u32 0] 3 1 I.aJ [(0,cq)] aq) fun cr au=>
 Lf 6 a au fun a0=>Vb (lu a0) fun cs=>Az cr (.int .i64 0) au fun m aa u a7=>Vb (bin .lss aa cs) fun ct=>Br ct (Vb (lQ 6 a0 aa) fun cu=>Vb (aF 6 cu u) fun cv=>
 Eb (nw ql I.bX u) fun a4 b1=>Sb (aQ 6 a4 cv b1) fun av=>Vb (aF 6 a4 av) fun cw=>S.C I.qT [cw] av fun cx b2=>Eb (nw Pg I.tF b2) fun a2 ba=>
 Sb (aQ 9 a2 cx ba) fun bb=>Vb (YO 3 3 a2 none none none) fun cy=>Ap I.aJ #[.int .i64 0,.int .u32 0,.int .u32 0] 3 16 m cy bb fun cz bc=>Vb (bin .add aa (.int .i64 1)) fun c0=>
 a7 cz c0 bc) (Vb (lu m) fun c1=>UJ a5 (.slice none 0 0) (.int .i64 0) u fun af v g i a8=>Vb (bin .lss g c1) fun c2=>Br c2 (MQ (fun a6 b3 bd=>Vb (bin .add g (.int .i64 1)) fun df=>
 a8 a6 b3 df bd) fun ad=>Vb (lQ 3 m g) fun c3=>Vb (aF 3 c3 i) fun c4=>Eb (nw #[.int .i64 0,.int .u32 0,.int .u32 0] I.aJ i) fun a3 be=>Sb (aQ 3 a3 c4 be) fun ag=>
 Vb (bin .add e (.int .i64 1)) fun c5=>Vb (bin .add c5 g) fun ab=>Vb (aF 3 a3 ag) fun c6=>Vb (bG [(0,1),(1,1),(2,3),(5,3)] aV [(0,(.int .i64 3)),(1,ab),(3,c6)]) fun c7=>
 Eb (pb aV 8 1 I.aI [(0,c7)] ag) fun c8 bf=>Ap I.aI aV 8 48 af c8 bf fun a1 ah=>lq (fun dc ai=>Br dc (Eb (pb #[.int .i64 0] 1 1 I.nR [(0,ab)] ai) fun dd bg=>
 Ap I.nR #[.int .i64 0] 1 8 v dd bg fun de bh=>ad a1 de bh) (ad a1 v ai)) fun ae=>Vb (bin .eql g (.int .i64 0)) fun c9=>Br c9 (ae (.bool true) ah) (Vb (bin .rem ab (.int .i64 8)) fun da=>
 Vb (bin .eql da (.int .i64 0)) fun db=>ae db ah)) (Vb (aF 10 a i) fun dg=>S.C I.eT [dg,v] i fun dh bi=>Ap I.aI aV 8 48 af dh bi fun di ak=>
 Lf 4 a ak fun dj=>S.C I.fJ [(.int .i64 0),dj] ak fun dk bj=>Vb (bG [(0,1),(1,1),(2,3),(5,3)] aV [(0,(.int .i64 4)),(1,e),(3,dk)]) fun dl=>
 Eb (pb aV 8 1 I.aI [(0,dl)] bj) fun dm bk=>Ap I.aI aV 8 48 di dm bk fun dn al=>Vb (aF 10 a al) fun dp=>Eb (pb #[.int .i64 0] 1 1 I.nR [(0,e)] al) fun dq bl=>
 S.C I.eT [dp,dq] bl fun dr bm=>Ap I.aI aV 8 48 dn dr bm fun ds am=>Vb (aF 10 a am) fun dt=>S.C I.nO [dt,ds,(.func (.func I.lV) #[] #[])] am fun du bn=>
 T2 8 co du bn R))) fun f=>Vb (fa 4 a) fun aw=>Vb (dU aw k) fun w=>Vb (aF 10 a k) fun d=>And (S.C I.fJ [(.int .i64 3),w] k fun b5 n=>aF 10 a n=some d∧Vb (bG [(0,1),(1,1),(2,3),(5,3)] aV [(0,(.int .i64 4)),(1,e),(3,b5)]) fun x=>
 And (Eb (pb aV 8 1 I.aI [(0,x)] n) fun b7 an=>aF 10 a an=some d∧Eb (pb #[.int .i64 0] 1 1 I.nR [(0,e)] an) fun cc ao=>aF 10 a ao=some d∧S.C I.eT [d,cc] ao fun cd bo=>
 Ap I.aI aV 8 48 b7 cd bo fun ci bp=>f ci bp) (Eb (pb #[.int .i64 0] 1 1 I.nR [(0,e)] n) fun ay p=>aF 10 a p=some d∧And (Eb (pb aV 8 1 I.aI [(0,x)] p) fun b8 ap=>
 aF 10 a ap=some d∧S.C I.eT [d,ay] ap fun ce bq=>Ap I.aI aV 8 48 b8 ce bq fun cj br=>f cj br) (S.C I.eT [d,ay] p fun cf bs=>
 Eb (pb aV 8 1 I.aI [(0,x)] bs) fun b9 bt=>Ap I.aI aV 8 48 b9 cf bt fun ck bu=>f ck bu))) (Eb (pb #[.int .i64 0] 1 1 I.nR [(0,e)] k) fun az q=>
 aF 10 a q=some d∧dU aw q=some w∧S.C I.fJ [(.int .i64 3),w] q fun b6 t=>aF 10 a t=some d∧Vb (bG [(0,1),(1,1),(2,3),(5,3)] aV [(0,(.int .i64 4)),(1,e),(3,b6)]) fun ax=>
 And (Eb (pb aV 8 1 I.aI [(0,ax)] t) fun ca ar=>aF 10 a ar=some d∧S.C I.eT [d,az] ar fun cg bv=>Ap I.aI aV 8 48 ca cg bv fun cl bw=>
 f cl bw) (S.C I.eT [d,az] t fun ch bx=>Eb (pb aV 8 1 I.aI [(0,ax)] bx) fun cb bz=>Ap I.aI aV 8 48 cb ch bz fun cm b0=>
 f cm b0))
def uC (S:Sys)(I:aZ)(ak p aj:Value)(h:Hp)(R:Po):Prop:=
 Eb (nw (Value.cells ak) I.bB h) fun d g=>Vb (aF 3 d g) fun q=>S.C I.cI [q] g fun t i=>Vb (bin .neq t (.int .i64 0)) fun u=>
 Br u (R (.tuple #[(.nilIface),(.int .i64 1)]) i) (S.C I.qL [p] i fun v k=>X2 v fun e w=>Vb (aF 3 d k) fun x=>S.C I.fX [x,e] k fun aa m=>
 X2 aa fun n ab=>lq (fun af a=>Br af (R (.tuple #[(.nilIface),(.int .i64 3)]) a) (Vb (aF 3 d a) fun ag=>Vb (bG [(0,3),(3,1),(4,1),(5,1),(6,1),(7,1),(8,1),(9,1),(10,1),(11,1),(12,1),(13,1),(14,3),(17,1),(18,1),(19,1),(20,1)] eK [(0,ag),(1,p),(2,n),(3,e),(4,w),(5,ab),(6,aj),(15,(.func (.func I.tN) #[] #[]))]) fun ah=>
 Vb (some (.iface I.aB ah)) fun ai=>R (.tuple #[ai,(.int .i64 0)]) a)) fun f=>Vb (bin .eql e (.int .i64 0)) fun ad=>Br ad (f (.bool true) m) (Vb (bin .lss n (.int .i64 0)) fun ae=>
 f ae m))
def lm (S:Sys)(I:aZ)(av ax aw ay:Value)(h:Hp)(R:Po):Prop:=
 Eb (nw (Value.cells av) I.aY h) fun i p=>Eb (nw (Value.cells ax) I.uP p) fun d u=>Eb (nw (Value.cells aw) I.aW u) fun n v=>Eb (nw (Value.cells ay) I.iG v) fun k w=>
 Eb (nw aV I.aI w) fun m f=>Vb (dU d f) fun ad=>Vb (aF 4 n f) fun ae=>Ci S.C I.mt "Next" ad [ae] f fun af x=>X3 af fun ag ah ai=>Eb (nw aV I.aI x) fun g aa=>
 Sb (aQ 1 d ag aa) fun ab=>Sb (aQ 8 g ah ab) fun a=>Br ai (Vb (dU d a) fun aj=>S.C I.nV [aj] a fun ak e=>X2 ak fun al az=>Vb (dU k e) fun am=>
 Vb (aF 10 i e) fun an=>Cw S.C S.Y I.mt am [an,al] e fun ao q=>T2 8 m ao q R) (Vb (aF 10 i a) fun ap=>Vb (aF 8 g a) fun aq=>Vb (some (.func (.func I.dZ) #[] #[d,k])) fun ar=>
 S.C I.pr [ap,aq,ar] a fun au t=>T2 8 m au t R)
def mN (S:Sys)(I:aZ)(m n:Value)(h:Hp)(R:Po):Prop:=
 Eb (nw (Value.cells m) I.aY h) fun d e=>Eb (nw aV I.aI e) fun g a=>Vb (aF 10 d a) fun i=>S.C I.k0 [i] a fun k f=>T2 8 g k f R
def vI (S:Sys)(I:aZ)(v i:Value)(h:Hp)(R:Po):Prop:=
 Eb (nw (Value.cells v) I.bB h) fun g e=>Vb (aF 3 g e) fun p=>S.C I.cI [p] e fun q a=>Vb (bin .neq q (.int .i64 0)) fun t=>
 Br t (R (.int .i64 1) a) (lq (fun u f=>Br u (R (.int .i64 3) f) (R (.int .i64 0) f)) fun d=>Vb (bin .lss i (.int .i64 0)) fun k=>Br k (d (.bool true) a) (Lf 2 g a fun m=>
 Vb (bin .geq i m) fun n=>d n a))
def vK (S:Sys)(I:aZ)(t e:Value)(h:Hp)(R:Po):Prop:=
 Az (.slice none 0 0) e h fun i a f p=>Vb (bin .lss a t) fun aa=>Br aa (Vb (bin .quo a (.int .i64 32)) fun ab=>Vb (bin .add ab (.int .i64 1)) fun ad=>Vb (bin .mul ad (.int .i64 32)) fun ae=>
 Vb (mn t ae) fun m=>Vb (bG [(0,1),(1,1)] #[.int .i64 0,.int .i64 0] [(0,a),(1,m)]) fun af=>Eb (pb #[.int .i64 0,.int .i64 0] 2 1 I.nB [(0,af)] f) fun ag u=>
 Ap I.nB #[.int .i64 0,.int .i64 0] 2 16 i ag u fun ah v=>p ah m v) (Az i (.int .i64 0) f fun k d g q=>Vb (bin .lss d e) fun ai=>Br ai (Vb (bin .quo d (.int .i64 32)) fun aj=>
 Vb (bin .add aj (.int .i64 1)) fun ak=>Vb (bin .mul ak (.int .i64 32)) fun al=>Vb (mn e al) fun n=>Vb (bG [(0,1),(1,1)] #[.int .i64 0,.int .i64 0] [(0,d),(1,n)]) fun am=>
 Eb (pb #[.int .i64 0,.int .i64 0] 2 1 I.nB [(0,am)] g) fun an w=>Ap I.nB #[.int .i64 0,.int .i64 0] 2 16 k an w fun ao x=>q ao n x) (R k g))
def rB (S:Sys)(I:aZ)(k m:Value)(h:Hp)(R:Po):Prop:=
 Eb (nw (Value.cells k) I.aW h) fun n d=>Eb (nw aV I.aI d) fun f a=>Vb (aF 8 m a) fun g=>S.C I.l7 [g] a fun i e=>T2 8 f i e R
def oI (S:Sys)(I:aZ)(aq:Value)(h:Hp)(R:Po):Prop:=
 Eb (nw (Value.cells aq) I.bA h) fun a n=>Eb (nw aV I.aI n) fun e d=>Lf 3 a d fun ao=>Vb (lu ao) fun ap=>Vb (bin .eql ap (.int .i64 0)) fun t=>
 Br t (Vb (fa 6 a) fun u=>Sb (aQ 1 u (.bool true) d) fun p=>Vb (fa 5 a) fun v=>Sb (aQ 1 v (.int .i64 9) p) fun g=>Vb (aF 8 a g) fun w=>Vb (some (.iface I.bA w)) fun x=>
 Vb (bG [(0,1),(1,1),(2,3),(5,3)] aV []) fun aa=>Sb (aQ 8 e aa g) fun i=>Vb (aF 8 e i) fun f=>R (.tuple #[x,f,(.bool true)]) i) (Vb (fa 0 a) fun ab=>
 Vb (aF 3 ab d) fun ad=>Lf 3 a d fun ae=>Vb (lQ 2 ae (.int .i64 0)) fun af=>Lf 0 af d fun ag=>S.C I.fI [ad,ag] d fun ah q=>X2 ah fun ai ar=>
 Vb (some (.func (.func I.cL) #[] #[a])) fun aj=>Vb (fa 7 a) fun ak=>Sb (aQ 1 ak aj q) fun k=>Vb (aF 8 a k) fun al=>Vb (some (.iface I.bA al)) fun am=>
 Vb (bG [(0,1),(1,1),(2,3),(5,3)] aV [(0,(.int .i64 5)),(1,ai)]) fun an=>Sb (aQ 8 e an k) fun m=>Vb (aF 8 e m) fun f=>R (.tuple #[am,f,(.bool false)]) m)
def iA (S:Sys)(I:aZ)(aq ap:Value)(h:Hp)(R:Po):Prop:=
 Eb (nw (Value.cells aq) I.aH h) fun d m=>Eb (nw (Value.cells ap) I.aW m) fun k p=>Eb (nw lS I.aH p) fun g q=>Eb (nw aV I.aI q) fun i e=>
 Lf 9 d e fun x=>Vb (aF 4 k e) fun aa=>Ci S.C I.mt "Next" x [aa] e fun ab t=>X3 ab fun ad ae af=>Eb (nw aV I.aI t) fun f u=>Sb (aQ 8 f ae u) fun v=>
 Vb (fa 9 d) fun ag=>Sb (aQ 1 ag ad v) fun a=>Vb (sk .not af) fun ah=>Br ah (Vb (aF 15 d a) fun ai=>Vb (aF 8 f a) fun aj=>S.C I.cK [ai,aj,(.func (.func I.cC) #[] #[])] a fun ak w=>
 T3 15 g 8 i ak w R) (Lf 14 d a fun al=>Vb (aF 15 d a) fun am=>Vb (bG [(0,3),(3,1)] #[.int .i64 0,.int .u32 0,.int .u32 0,.bool false] []) fun an=>Cw S.C S.Y I.mt al [am,an] a fun ao n=>
 T3 15 g 8 i ao n R)
def sL (S:Sys)(I:aZ)(m:Value)(h:Hp)(R:Po):Prop:=
 CY (fun n=>R (.tuple #[(.int .i64 0),(.int .i64 0),(.bool false)]) n) fun g=>Vb (C3 I.bA (Value.agg C1) true m) fun k=>Vb (ext 1 k) fun ai=>
 Vb (ext 0 k) fun t=>Br ai (Eb (nw C1 I.bA h) fun e p=>Sb (aQ 8 e t p) fun a=>Lf 6 e a fun v=>Vb (sk .not v) fun w=>Br w (g a) (Lf 5 e a fun x=>
 Vb (bin .neq x (.int .i64 0)) fun aa=>Br aa (Lf 5 e a fun ab=>R (.tuple #[(.int .i64 0),ab,(.bool true)]) a) (Lf 4 e a fun u=>R (.tuple #[u,(.int .i64 0),(.bool true)]) a))) (Vb (C3 I.bJ (Value.agg GG) true m) fun i=>
 Vb (ext 1 i) fun ad=>Vb (ext 0 i) fun ae=>Br ad (Eb (nw GG I.bJ h) fun f q=>Sb (aQ 7 f ae q) fun d=>Lf 5 f d fun af=>Br af (Lf 3 f d fun ag=>
 Lf 4 f d fun ah=>R (.tuple #[ag,ah,(.bool true)]) d) (g d)) (g h))
def p6 (S:Sys)(I:aZ)(aa:Value)(h:Hp)(R:Po):Prop:=
 Eb (nw (Value.cells aa) I.aH h) fun d i=>Eb (nw lS I.aH i) fun f k=>Eb (nw aV I.aI k) fun g m=>Vb (fa 12 d) fun u=>
 Sb (aQ 1 u (.bool true) m) fun n=>Vb (fa 9 d) fun v=>Sb (aQ 1 v (.nilIface) n) fun e=>Vb (aF 15 d e) fun w=>Vb (bG [(0,1),(1,1),(2,3),(5,3)] aV []) fun x=>
 Sb (aQ 15 f w e) fun p=>Sb (aQ 8 g x p) fun a=>Vb (aF 15 f a) fun q=>Vb (aF 8 g a) fun t=>R (.tuple #[q,t,(.bool true)]) a
def pY (S:Sys)(I:aZ)(ad aa ab:Value)(h:Hp)(R:Po):Prop:=
 Eb (nw (Value.cells ad) I.aH h) fun g n=>Eb (nw (Value.cells aa) I.aI n) fun e p=>Eb (nw lS I.aH p) fun k q=>Eb (nw aV I.aI q) fun m t=>
 Vb (fa 13 g) fun w=>Sb (aQ 1 w ab t) fun a=>Vb (aF 15 g a) fun x=>Vb (aF 8 e a) fun i=>Sb (aQ 15 k x a) fun f=>aF 8 e f=some i∧Sb (aQ 8 m i f) fun d=>
 Vb (aF 15 k d) fun u=>Vb (aF 8 m d) fun v=>R (.tuple #[u,v,(.bool false)]) d
def iH (S:Sys)(I:aZ)(al ak:Value)(h:Hp)(R:Po):Prop:=
 Eb (nw (Value.cells al) I.aH h) fun d m=>Eb (nw (Value.cells ak) I.aW m) fun e p=>Eb (nw lS I.aH p) fun i q=>Eb (nw aV I.aI q) fun k a=>
 Vb (fa 0 e) fun ai=>Lf 1 ai a fun aj=>Vb (bin .geq aj (.int .u32 16777215)) fun u=>Br u (Vb (fa 11 d) fun v=>Sb (aQ 1 v (.int .i64 9) a) fun f=>Vb (aF 15 d f) fun w=>
 S.C I.j9 [w] f fun x t=>T3 15 i 8 k x t R) (Vb (fa 0 e) fun aa=>Lf 1 aa a fun ab=>Vb (HA .i64 ab) fun ad=>Vb (bin .add ad (.int .i64 1)) fun ae=>
 Vb (fa 6 d) fun af=>Sb (aQ 1 af ae a) fun g=>Vb (aF 15 d g) fun ag=>S.C I.iD [ag,(.int .i64 3),(.func (.func I.eC) #[] #[])] g fun ah n=>
 T3 15 i 8 k ah n R)
def sx (S:Sys)(I:aZ)(p q t:Value)(h:Hp)(R:Po):Prop:=
 Eb (nw (Value.cells p) I.aW h) fun d e=>Eb (nw aV I.aI e) fun i a=>Vb (dU q a) fun k=>Vb (aF 10 t a) fun m=>Vb (aF 4 d a) fun n=>Cw S.C S.Y I.mt k [m,n] a fun g f=>
 T2 8 i g f R
def nM (S:Sys)(I:aZ)(ah ai aj:Value)(h:Hp)(R:Po):Prop:=
 Eb (nw (Value.cells ah) I.aY h) fun e i=>Eb (nw (Value.cells ai) I.C4 i) fun d k=>Eb (nw (Value.cells aj) I.jM k) fun f m=>
 Eb (nw aV I.aI m) fun g a=>Vb (dU d a) fun ag=>Vb (lu ag) fun q=>Vb (bin .eql q (.int .i64 0)) fun t=>Br t (Vb (dU f a) fun u=>Vb (aF 10 e a) fun v=>
 Cw S.C S.Y I.mt u [v] a fun w n=>T2 8 g w n R) (Vb (aF 10 e a) fun x=>Vb (dU d a) fun aa=>Vb (lQ 8 aa (.int .i64 0)) fun ab=>Vb (aF 8 ab a) fun ad=>
 Vb (some (.func (.func I.fV) #[] #[d,f])) fun ae=>S.C I.pr [x,ad,ae] a fun af p=>T2 8 g af p R)
def pM (S:Sys)(I:aZ)(aj i:Value)(h:Hp)(R:Po):Prop:=
 Eb (nw (Value.cells aj) I.aY h) fun k a=>Lf 5 k a fun ai=>Vb (sk .not ai) fun t=>Br t (R (.slice none 0 0) a) (Vb (lu i) fun u=>Az (.slice none 0 0) (.int .i64 0) a fun f e d g=>
 Vb (bin .lss e u) fun v=>Br v (Vb (lQ 1 i e) fun w=>Vb (dU w d) fun x=>Vb (bG [(0,1),(1,1),(2,3),(5,3)] aV [(0,(.int .i64 7)),(1,x)]) fun aa=>Eb (pb aV 8 1 I.aI [(0,aa)] d) fun ab m=>
 Ap I.aI aV 8 48 f ab m fun ad n=>Vb (bin .add e (.int .i64 1)) fun ae=>g ad ae n) (Vb (bG [(0,1),(1,1),(2,3),(5,3)] aV [(0,(.int .i64 8))]) fun af=>
 Eb (pb aV 8 1 I.aI [(0,af)] d) fun ag p=>Ap I.aI aV 8 48 f ag p fun ah q=>R ah q))
def vB (S:Sys)(I:aZ)(k i:Value)(h:Hp)(R:Po):Prop:=
 Eb (nw #[.int .i64 0,.int .u32 0,.int .u32 0] I.aJ h) fun a d=>Vb (HA .u32 i) fun f=>Vb (bG [(0,1),(1,1),(2,1)] #[.int .i64 0,.int .u32 0,.int .u32 0] [(0,k),(1,f)]) fun g=>
 Sb (aQ 3 a g d) fun e=>Rl 3 a e R
def qx (S:Sys)(I:aZ)(aj:Value)(h:Hp)(R:Po):Prop:=
 Eb (nw (Value.cells aj) I.aY h) fun a i=>Eb (nw aV I.aI i) fun g e=>Lf 3 a e fun n=>Lf 4 a e fun p=>S.C I.qN [n,p] e fun q f=>
 X2 q fun t ak=>Vb (fa 0 a) fun u=>Vb (aF 3 u f) fun v=>Lf 5 a f fun w=>S.C I.qH [v,t,w] f fun x d=>X2 x fun aa ab=>Vb (bin .neq ab (.int .i64 0)) fun ad=>
 Br ad (Vb (aF 10 a d) fun ae=>S.C I.lX [ae,(.bool false)] d fun af k=>T2 8 g af k R) (Vb (aF 10 a d) fun ag=>Vb (bG [(0,3),(3,1)] #[.int .i64 0,.int .u32 0,.int .u32 0,.bool false] []) fun ah=>
 S.C I.jG [ag,aa,ah,(.func (.func I.kA) #[] #[])] d fun ai m=>T2 8 g ai m R)
def tB (S:Sys)(I:aZ)(u q:Value)(h:Hp)(R:Po):Prop:=
 Eb (nw (Value.cells u) I.aB h) fun p d=>Eb (nw (Value.cells q) I.aW d) fun t e=>Eb (nw eK I.aB e) fun i f=>Eb (nw aV I.aI f) fun k a=>
 Vb (aF 21 p a) fun m=>S.C I.fH [m,(.func (.func I.tG) #[] #[])] a fun n g=>T3 21 i 8 k n g R
def vy (S:Sys)(I:aZ)(v:Value)(h:Hp)(R:Po):Prop:=
 Vb (C3 I.aB (Value.agg eK) true v) fun t=>X2 t fun u i=>Eb (nw eK I.aB h) fun e g=>Sb (aQ 21 e u g) fun a=>lq (fun p d=>
 Br p (R (.tuple #[(.int .i64 0),(.bool false)]) d) (Lf 13 e d fun q=>R (.tuple #[q,(.bool true)]) d)) fun f=>Vb (sk .not i) fun k=>Br k (f (.bool true) a) (Lf 18 e a fun m=>
 Vb (sk .not m) fun n=>f n a)
def pj (S:Sys)(I:aZ)(u v w x:Value)(h:Hp)(R:Po):Prop:=
 Eb (nw (Value.cells u) I.aY h) fun d f=>Eb (nw (Value.cells v) I.aW f) fun e g=>Eb (nw aV I.aI g) fun q a=>Vb (aF 10 d a) fun t=>
 Vb (dU w a) fun k=>Vb (aF 4 e a) fun m=>Vb (dU x a) fun n=>S.C I.jG [t,k,m,n] a fun p i=>T2 8 q p i R
def oV (S:Sys)(I:aZ)(q e:Value)(h:Hp)(R:Po):Prop:=
 Eb (nw (Value.cells q) I.bB h) fun g a=>Vb (aF 3 g a) fun p=>Vb (bin .quo e (.int .i64 32)) fun i=>S.C I.fC [p,(.int .i64 5),e,i] a fun f d=>
 Vb (bin .lss f (.int .i64 0)) fun k=>Br k (R (.tuple #[(.int .i64 (-1)),(.int .i64 0)]) d) (Vb (bin .rem e (.int .i64 32)) fun m=>Vb (bin .shl (.int .i64 1) m) fun n=>
 R (.tuple #[f,n]) d)
def mP (S:Sys)(I:aZ)(p q:Value)(h:Hp)(R:Po):Prop:=
 Eb (nw (Value.cells p) I.aW h) fun d e=>Eb (nw aV I.aI e) fun g a=>Vb (aF 8 q a) fun i=>Vb (fa 0 d) fun k=>Vb (aF 3 k a) fun m=>S.C I.lx [i,m] a fun n f=>
 T2 8 g n f R
def qE (S:Sys)(I:aZ)(ba bb:Value)(h:Hp)(R:Po):Prop:=
 Eb (nw (Value.cells ba) I.bA h) fun a u=>Eb (nw (Value.cells bb) I.aJ u) fun f w=>Eb (nw aV I.aI w) fun m i=>Lf 3 a i fun ab=>
 Vb (lQ 2 ab (.int .i64 0)) fun ad=>Lf 0 ad i fun ae=>xN ae i fun g d t=>Lf 3 a d fun af=>Vb (lQ 2 af (.int .i64 0)) fun ag=>Lf 1 ag d fun ah=>Vb (bin .lss g ah) fun ai=>
 Br ai (Vb (fa 0 a) fun ak=>Vb (aF 3 ak d) fun al=>S.C I.fI [al,g] d fun am k=>X2 am fun an q=>Lf 0 f k fun ao=>Vb (bin .and ao q) fun ap=>
 Vb (bin .neq ap (.int .i64 0)) fun aq=>Br aq (Vb (bin .add g (.int .i64 1)) fun aj=>t aj k) (Vb (fa 4 a) fun ar=>Sb (aQ 1 ar g k) fun x=>Vb (some (.func (.func I.cQ) #[] #[a])) fun au=>
 Vb (fa 7 a) fun av=>Sb (aQ 1 av au x) fun e=>Vb (aF 8 a e) fun aw=>Vb (some (.iface I.bA aw)) fun ax=>Vb (aF 3 f e) fun ay=>Lf 0 f e fun az=>
 Vb (bin .or az q) fun a0=>Lf 1 f e fun a1=>Lf 2 f e fun a2=>Vb (bG [(0,1),(1,1),(2,1)] #[.int .i64 0,.int .u32 0,.int .u32 0] [(0,a0),(1,a1),(2,a2)]) fun a3=>
 Vb (bG [(0,1),(1,1),(2,3),(5,3)] aV [(0,(.int .i64 6)),(1,an),(2,ay),(3,a3)]) fun a4=>Sb (aQ 8 m a4 e) fun n=>Vb (aF 8 m n) fun aa=>R (.tuple #[ax,aa,(.bool false)]) n)) (Lf 3 a d fun a5=>
 Vb (vR 2 a5 (some (.int .i64 1)) none none) fun a6=>Vb (fa 3 a) fun a7=>Sb (aQ 1 a7 a6 d) fun p=>Vb (aF 8 a p) fun a8=>S.C I.l7 [a8] p fun a9 v=>
 T2 8 m a9 v R)
def lZ (S:Sys)(I:aZ)(ad:Value)(h:Hp)(R:Po):Prop:=
 Eb (nw (Value.cells ad) I.aH h) fun a f=>Eb (nw lS I.aH f) fun w g=>Eb (nw aV I.aI g) fun x d=>Vb (fa 0 a) fun aa=>
 Vb (aF 3 aa d) fun ab=>Lf 5 a d fun m=>Vb (bin .sub m (.int .i64 9)) fun n=>S.C I.tT [ab,n] d fun p i=>X2 p fun q ae=>Vb (fa 5 a) fun t=>Sb (aQ 1 t (.int .i64 0) i) fun e=>
 Vb (aF 15 a e) fun u=>S.C I.iO [u,q,(.func (.func I.iY) #[] #[])] e fun v k=>T3 15 w 8 x v k R
def nH (S:Sys)(I:aZ)(ad ae ab:Value)(h:Hp)(R:Po):Prop:=
 Eb (nw (Value.cells ad) I.aH h) fun a k=>Eb (nw lS I.aH k) fun x m=>Eb (nw aV I.aI m) fun aa n=>Vb (fa 14 a) fun q=>
 Sb (aQ 1 q ab n) fun d=>Vb (aF 15 a d) fun f=>Vb (fa 7 a) fun g=>Vb (dU g d) fun i=>Lf 6 a d fun t=>S.C I.fJ [ae,t] d fun u e=>dU g e=some i∧aF 15 a e=some f∧Vb (bG [(0,1),(1,1),(2,3),(5,3)] aV [(0,(.int .i64 4)),(1,i),(3,u)]) fun v=>
 S.C I.cK [f,v,(.func (.func I.bL) #[] #[])] e fun w p=>T3 15 x 8 aa w p R
def fE (S:Sys)(I:aZ)(a7 a8:Value)(h:Hp)(R:Po):Prop:=
 Eb (nw (Value.cells a7) I.aH h) fun a t=>Eb (nw (Value.cells a8) I.aW t) fun a9 x=>Eb (nw lS I.aH x) fun g aa=>Eb (nw aV I.aI aa) fun i e=>
 Vb (fa 8 a) fun n=>Vb (dU n e) fun p=>Vb (aF 15 a e) fun ae=>S.C I.hU [ae] e fun af d=>dU n d=some p∧Vb (bin .lss p af) fun ag=>
 Br ag (Lf 7 a d fun ah=>Vb (bin .add ah (.int .i64 1)) fun ai=>Lf 8 a d fun aj=>Vb (bin .add ai aj) fun ak=>Vb (aF 15 a d) fun al=>Vb (some (.func (.func I.iW) #[al] #[])) fun am=>
 Lf 8 a d fun an=>Cw S.C S.Y I.mt am [an] d fun ao ab=>Eb (nw #[.int .i64 0,.int .u32 0,.int .u32 0] I.aJ ab) fun q ad=>Sb (aQ 3 q ao ad) fun m=>
 Lf 8 a m fun ap=>Vb (bin .add ap (.int .i64 1)) fun aq=>Vb (fa 8 a) fun ar=>Sb (aQ 1 ar aq m) fun f=>Vb (aF 15 a f) fun au=>Vb (aF 3 q f) fun av=>Vb (bG [(0,1),(1,1),(2,3),(5,3)] aV [(0,(.int .i64 3)),(1,ak),(3,av)]) fun aw=>
 S.C I.cK [au,aw,(.func (.func I.eC) #[] #[])] f fun ax u=>T3 15 g 8 i ax u R) (Lf 3 a d fun ay=>Vb (sk .not ay) fun az=>
 Br az (Vb (aF 15 a d) fun a0=>Vb (bG [(0,3),(3,1)] #[.int .i64 0,.int .u32 0,.int .u32 0,.bool false] []) fun a1=>S.C I.cP [a0,a1] d fun a2 v=>
 T3 15 g 8 i a2 v R) (Vb (fa 8 a) fun a3=>Sb (aQ 1 a3 (.int .i64 0) d) fun k=>Vb (aF 15 a k) fun a4=>Vb (bG [(0,3),(3,1)] #[.int .i64 0,.int .u32 0,.int .u32 0,.bool false] []) fun a5=>
 S.C I.cO [a4,a5] k fun a6 w=>T3 15 g 8 i a6 w R))
def rM (S:Sys)(I:aZ)(t u v w:Value)(h:Hp)(R:Po):Prop:=
 Eb (nw (Value.cells t) I.aY h) fun d e=>Eb (nw (Value.cells u) I.aW e) fun x f=>Eb (nw aV I.aI f) fun p a=>Vb (aF 10 d a) fun q=>
 Vb (dU v a) fun i=>Vb (vR 8 i (some (.int .i64 1)) none none) fun k=>Vb (dU w a) fun m=>S.C I.nO [q,k,m] a fun n g=>T2 8 p n g R
def ow (S:Sys)(I:aZ)(n p:Value)(h:Hp)(R:Po):Prop:=
 Eb (nw (Value.cells n) I.aY h) fun d e=>Eb (nw aV I.aI e) fun i a=>Vb (aF 10 d a) fun k=>Vb (bin .eql p (.int .i64 1)) fun m=>S.C I.lX [k,m] a fun g f=>
 T2 8 i g f R
def qI (S:Sys)(I:aZ)(u t:Value)(h:Hp)(R:Po):Prop:=
 Eb (nw (Value.cells u) I.aB h) fun d e=>Eb (nw eK I.aB e) fun m f=>Eb (nw aV I.aI f) fun n a=>Vb (aF 21 d a) fun p=>
 Lf 4 d a fun q=>Vb (bG [(0,1),(1,1),(2,3),(5,3)] aV [(0,(.int .i64 5)),(1,q)]) fun i=>S.C I.bO [p,i,t] a fun k g=>T3 21 m 8 n k g R
def rn (S:Sys)(I:aZ)(ai ah:Value)(h:Hp)(R:Po):Prop:=
 Eb (nw (Value.cells ai) I.aB h) fun d k=>Eb (nw (Value.cells ah) I.aW k) fun i m=>Eb (nw eK I.aB m) fun f n=>Eb (nw aV I.aI n) fun g e=>
 Vb (aF 21 d e) fun ae=>Vb (fa 0 i) fun af=>Vb (aF 3 af e) fun ag=>S.C I.kK [ae,ag] e fun t a=>Br t (Vb (aF 21 d a) fun u=>S.C I.eZ [u,(.int .i64 4)] a fun v p=>
 T3 21 f 8 g v p R) (Vb (aF 21 d a) fun w=>Lf 4 d a fun x=>Vb (bin .add x (.int .i64 1)) fun aa=>Vb (bG [(0,1),(1,1),(2,3),(5,3)] aV [(0,(.int .i64 1)),(1,aa)]) fun ab=>
 S.C I.bO [w,ab,(.func (.func I.rU) #[] #[])] a fun ad q=>T3 21 f 8 g ad q R)
def kh (S:Sys)(I:aZ)(ad i:Value)(h:Hp)(R:Po):Prop:=
 Eb (nw (Value.cells ad) I.aW h) fun e k=>Eb (nw aV I.aI k) fun d a=>Lf 3 e a fun x=>Br x (Vb (fa 6 i) fun aa=>Sb (aQ 1 aa (.bool true) a) fun f=>
 Vb (aF 8 i f) fun ab=>Vb (some (.iface I.bA ab)) fun p=>Vb (bG [(0,1),(1,1),(2,3),(5,3)] aV []) fun q=>Sb (aQ 8 d q f) fun g=>Vb (aF 8 d g) fun n=>
 R (.tuple #[p,n,(.bool true)]) g) (Vb (aF 8 i a) fun t=>Vb (fa 0 e) fun u=>Vb (aF 3 u a) fun v=>S.C I.lx [t,v] a fun w m=>T2 8 d w m R)
def wN (S:Sys)(I:aZ)(aj g:Value)(h:Hp)(R:Po):Prop:=
 Eb (nw (Value.cells aj) I.bB h) fun e i=>Vb (aF 3 e i) fun v=>S.C I.qe [v,g] i fun n d=>Vb (bin .neq n (.int .i64 0)) fun w=>Br w (R (.tuple #[(.nilIface),n]) d) (Vb (aF 3 e d) fun x=>
 Vb (bG [(0,3),(3,1),(4,1),(5,1),(6,1)] GG [(0,x),(1,g)]) fun aa=>Eb (nw GG I.bJ d) fun a p=>Sb (aQ 7 a aa p) fun k=>Vb (aF 3 e k) fun ab=>
 S.C I.fI [ab,g] k fun ad q=>X2 ad fun ae ak=>Eb (nw #[.int .i64 0] I.nR q) fun f t=>Sb (aQ 1 f ae t) fun u=>Vb (some (.func (.func I.dF) #[] #[a,f])) fun af=>
 Vb (fa 6 a) fun ag=>Sb (aQ 1 ag af u) fun m=>Vb (aF 7 a m) fun ah=>Vb (some (.iface I.bJ ah)) fun ai=>R (.tuple #[ai,(.int .i64 0)]) m)
def lE (S:Sys)(I:aZ)(q t:Value)(h:Hp)(R:Po):Prop:=
 Eb (nw (Value.cells q) I.aH h) fun i d=>Eb (nw (Value.cells t) I.aW d) fun u e=>Eb (nw lS I.aH e) fun k f=>Eb (nw aV I.aI f) fun m a=>
 Vb (aF 15 i a) fun n=>S.C I.kG [n] a fun p g=>T3 15 k 8 m p g R
def gC (S:Sys)(I:aZ)(ag af:Value)(h:Hp)(R:Po):Prop:=
 Eb (nw (Value.cells ag) I.aH h) fun d i=>Eb (nw (Value.cells af) I.aW i) fun g k=>Eb (nw lS I.aH k) fun e m=>Eb (nw aV I.aI m) fun f a=>
 Lf 3 d a fun ad=>Vb (sk .not ad) fun ae=>Br ae (Lf 14 d a fun q=>Vb (aF 15 d a) fun t=>Vb (aF 4 g a) fun u=>Cw S.C S.Y I.mt q [t,u] a fun v n=>T3 15 e 8 f v n R) (Vb (aF 15 d a) fun w=>
 Lf 7 d a fun x=>Vb (bG [(0,1),(1,1),(2,3),(5,3)] aV [(0,(.int .i64 7)),(1,x)]) fun aa=>S.C I.cK [w,aa,(.func (.func I.gT) #[] #[])] a fun ab p=>
 T3 15 e 8 f ab p R)
def nC (S:Sys)(I:aZ)(k:Value)(h:Hp)(R:Po):Prop:=
 Eb (nw (Value.cells k) I.aH h) fun d a=>Lf 4 d a fun e=>Vb (lu e) fun f=>Vb (bin .mul (.int .i64 3) f) fun g=>Vb (bin .add (.int .i64 1) g) fun i=>
 R i a
def lL (S:Sys)(I:aZ)(ag e:Value)(h:Hp)(R:Po):Prop:=
 Eb (nw (Value.cells ag) I.aH h) fun f g=>Eb (nw #[.int .i64 0,.int .u32 0,.int .u32 0] I.aJ g) fun d a=>Vb (bin .eql e (.int .i64 0)) fun ad=>
 Br ad (Lf 4 f a fun ae=>Vb (lu ae) fun af=>Vb (bG [(0,1),(1,1),(2,1)] #[.int .i64 0,.int .u32 0,.int .u32 0] [(0,af)]) fun n=>Sb (aQ 3 d n a) fun i=>
 Rl 3 d i R) (Lf 4 f a fun p=>Vb (bin .sub e (.int .i64 1)) fun q=>Vb (bin .quo q (.int .i64 3)) fun t=>Vb (lQ 6 p t) fun u=>Vb (aF 6 u a) fun v=>S.C I.qT [v] a fun w k=>
 Vb (bin .sub e (.int .i64 1)) fun x=>Vb (bin .rem x (.int .i64 3)) fun aa=>Vb (Yf 3 3 w aa) fun ab=>Sb (aQ 3 d ab k) fun m=>Rl 3 d m R)
def oO (S:Sys)(I:aZ)(q t:Value)(h:Hp)(R:Po):Prop:=
 Eb (nw (Value.cells q) I.aH h) fun i d=>Eb (nw (Value.cells t) I.aW d) fun u e=>Eb (nw lS I.aH e) fun k f=>Eb (nw aV I.aI f) fun m a=>
 Vb (aF 15 i a) fun n=>S.C I.iD [n,(.int .i64 0),(.func (.func I.dL) #[] #[])] a fun p g=>T3 15 k 8 m p g R
def mf (S:Sys)(I:aZ)(aw ax:Value)(h:Hp)(R:Po):Prop:=
 Eb (nw (Value.cells aw) I.aH h) fun a p=>Eb (nw (Value.cells ax) I.aW p) fun ay t=>Eb (nw lS I.aH t) fun m u=>Eb (nw aV I.aI u) fun n d=>
 Lf 7 a d fun w=>Vb (bin .quo w (.int .i64 8)) fun x=>Vb (bin .mul x (.int .i64 8)) fun aa=>Lf 8 a d fun ab=>Vb (bin .mul ab (.int .i64 8)) fun ad=>Vb (bin .add aa ad) fun g=>
 Vb (fa 7 a) fun i=>Vb (dU i d) fun k=>Vb (aF 15 a d) fun ae=>S.C I.hU [ae] d fun af e=>dU i e=some k∧Vb (bin .add k af) fun ag=>
 Vb (bin .gtr g ag) fun ah=>Br ah (Vb (aF 15 a e) fun ai=>Vb (bG [(0,1),(1,1),(2,3),(5,3)] aV [(0,(.int .i64 8))]) fun aj=>S.C I.cK [ai,aj,(.func (.func I.cP) #[] #[])] e fun ak v=>
 T3 15 m 8 n ak v R) (Lf 8 a e fun al=>Vb (bin .add al (.int .i64 1)) fun am=>Vb (fa 8 a) fun an=>Sb (aQ 1 an am e) fun f=>Vb (aF 15 a f) fun ao=>Lf 7 a f fun ap=>
 Vb (bin .add ap (.int .i64 1)) fun aq=>Vb (mx g aq) fun ar=>Vb (bG [(0,1),(1,1),(2,3),(5,3)] aV [(0,(.int .i64 7)),(1,ar)]) fun au=>S.C I.cK [ao,au,(.func (.func I.cO) #[] #[])] f fun av q=>
 T3 15 m 8 n av q R)
def rh (S:Sys)(I:aZ)(ad aa ab:Value)(h:Hp)(R:Po):Prop:=
 Eb (nw (Value.cells ad) I.aB h) fun m n=>Eb (nw (Value.cells aa) I.aI n) fun e p=>Eb (nw eK I.aB p) fun i q=>Eb (nw aV I.aI q) fun k t=>
 Vb (fa 19 m) fun w=>Sb (aQ 1 w ab t) fun a=>Vb (aF 21 m a) fun x=>Vb (aF 8 e a) fun g=>Sb (aQ 21 i x a) fun f=>aF 8 e f=some g∧Sb (aQ 8 k g f) fun d=>
 Vb (aF 21 i d) fun u=>Vb (aF 8 k d) fun v=>R (.tuple #[u,v,(.bool false)]) d
def p8 (S:Sys)(I:aZ)(ad ab:Value)(h:Hp)(R:Po):Prop:=
 Eb (nw (Value.cells ad) I.aB h) fun aa f=>Eb (nw (Value.cells ab) I.aJ f) fun e a=>lq (fun u g=>R u g) fun d=>Lf 1 e a fun v=>Lf 6 aa a fun w=>
 Vb (HA .u32 w) fun x=>Vb (bin .neq v x) fun i=>Br i (d (.bool true) a) (Lf 2 e a fun k=>Vb (bin .neq k (.int .u32 0)) fun m=>Br m (d (.bool true) a) (Lf 0 e a fun n=>
 Vb (bin .lss n (.int .i64 0)) fun p=>Br p (d (.bool true) a) (Lf 0 e a fun q=>Vb (bin .gtr q (.int .i64 2)) fun t=>d t a)))
def rE (S:Sys)(I:aZ)(ae ad:Value)(h:Hp)(R:Po):Prop:=
 Eb (nw (Value.cells ae) I.aB h) fun a i=>Eb (nw eK I.aB i) fun f k=>Eb (nw aV I.aI k) fun g m=>Vb (fa 18 a) fun aa=>
 Sb (aQ 1 aa (.bool true) m) fun n=>Vb (fa 13 a) fun ab=>Sb (aQ 1 ab ad n) fun p=>Vb (fa 17 a) fun v=>Sb (aQ 1 v (.nilIface) p) fun e=>Vb (aF 21 a e) fun w=>
 Vb (bG [(0,1),(1,1),(2,3),(5,3)] aV []) fun x=>Sb (aQ 21 f w e) fun q=>Sb (aQ 8 g x q) fun d=>Vb (aF 21 f d) fun t=>Vb (aF 8 g d) fun u=>R (.tuple #[t,u,(.bool true)]) d
def ly (S:Sys)(I:aZ)(ao an:Value)(h:Hp)(R:Po):Prop:=
 Eb (nw (Value.cells ao) I.aB h) fun e p=>Eb (nw (Value.cells an) I.aW p) fun i t=>Eb (nw eK I.aB t) fun m u=>Eb (nw aV I.aI u) fun n a=>
 Vb (fa 0 i) fun am=>Lf 0 am a fun d=>lq (fun ag g=>Br ag (Vb (aF 21 e g) fun ah=>S.C I.eZ [ah,(.int .i64 4)] g fun ai v=>T3 21 m 8 n ai v R) (Vb (fa 10 e) fun aj=>
 Sb (aQ 1 aj d g) fun k=>Vb (aF 21 e k) fun ak=>S.C I.la [ak] k fun al q=>T3 21 m 8 n al q R)) fun f=>Vb (bin .lss d (.int .i64 1)) fun w=>
 Br w (f (.bool true) a) (Lf 7 e a fun x=>Vb (bin .gtr d x) fun aa=>Br aa (f (.bool true) a) (Vb (fa 0 i) fun ab=>Vb (aF 3 ab a) fun ad=>Vb (bG [(0,1),(1,1),(2,1)] #[.int .i64 0,.int .u32 0,.int .u32 0] [(0,d)]) fun ae=>
 Vb (BZ (E5 [true,true,true] ad ae)) fun af=>f af a))
def rS (S:Sys)(I:aZ)(v e w:Value)(h:Hp)(R:Po):Prop:=
 Eb (nw (Value.cells v) I.aW h) fun x g=>Eb (nw aV I.aI g) fun f i=>Vb (some (.func (.func I.cU) #[] #[e])) fun q=>Vb (fa 6 e) fun t=>
 Sb (aQ 1 t q i) fun a=>Vb (aF 7 e a) fun u=>Vb (some (.iface I.bJ u)) fun m=>Vb (dU w a) fun n=>Vb (bG [(0,1),(1,1),(2,3),(5,3)] aV [(0,(.int .i64 5)),(1,n)]) fun p=>
 Sb (aQ 8 f p a) fun d=>Vb (aF 8 f d) fun k=>R (.tuple #[m,k,(.bool false)]) d
def pF (S:Sys)(I:aZ)(p q:Value)(h:Hp)(R:Po):Prop:=
 Eb (nw (Value.cells p) I.aW h) fun d e=>Eb (nw aV I.aI e) fun g a=>Vb (aF 7 q a) fun i=>Vb (fa 0 d) fun k=>Vb (aF 3 k a) fun m=>S.C I.lA [i,m] a fun n f=>
 T2 8 g n f R
def nD (S:Sys)(I:aZ)(az a0:Value)(h:Hp)(R:Po):Prop:=
 Eb (nw (Value.cells az) I.bJ h) fun a t=>Eb (nw (Value.cells a0) I.aJ t) fun e u=>Eb (nw aV I.aI u) fun f g=>Vb (fa 0 a) fun w=>
 Vb (aF 3 w g) fun x=>Lf 3 a g fun aa=>S.C I.fI [x,aa] g fun ab i=>X2 ab fun ad q=>Lf 0 e i fun ae=>Vb (bin .and ae q) fun af=>Vb (bin .eql af (.int .i64 0)) fun ag=>
 Br ag (Vb (fa 5 a) fun ah=>Sb (aQ 1 ah (.bool true) i) fun v=>Vb (fa 4 a) fun ai=>Sb (aQ 1 ai (.int .i64 13) v) fun m=>Vb (aF 7 a m) fun aj=>Vb (some (.iface I.bJ aj)) fun ak=>
 Vb (bG [(0,1),(1,1),(2,3),(5,3)] aV []) fun al=>Sb (aQ 8 f al m) fun n=>Vb (aF 8 f n) fun k=>R (.tuple #[ak,k,(.bool true)]) n) (Vb (some (.func (.func I.cR) #[] #[a])) fun am=>
 Vb (fa 6 a) fun an=>Sb (aQ 1 an am i) fun d=>Vb (aF 7 a d) fun ao=>Vb (some (.iface I.bJ ao)) fun ap=>Vb (aF 3 e d) fun aq=>Lf 0 e d fun ar=>
 Vb (bin .andNot ar q) fun au=>Lf 1 e d fun av=>Lf 2 e d fun aw=>Vb (bG [(0,1),(1,1),(2,1)] #[.int .i64 0,.int .u32 0,.int .u32 0] [(0,au),(1,av),(2,aw)]) fun ax=>
 Vb (bG [(0,1),(1,1),(2,3),(5,3)] aV [(0,(.int .i64 6)),(1,ad),(2,aq),(3,ax)]) fun ay=>Sb (aQ 8 f ay d) fun p=>Vb (aF 8 f p) fun k=>R (.tuple #[ap,k,(.bool false)]) p)
def kD (S:Sys)(I:aZ)(u v:Value)(h:Hp)(R:Po):Prop:=
 Eb (nw (Value.cells u) I.aH h) fun d e=>Eb (nw (Value.cells v) I.aW e) fun w f=>Eb (nw lS I.aH f) fun n g=>Eb (nw aV I.aI g) fun p a=>
 Vb (aF 15 d a) fun q=>Vb (bG [(0,1),(1,1),(2,3),(5,3)] aV [(0,(.int .i64 8))]) fun t=>Lf 14 d a fun k=>S.C I.cK [q,t,k] a fun m i=>
 T3 15 n 8 p m i R
def mm (S:Sys)(I:aZ)(ag ah:Value)(h:Hp)(R:Po):Prop:=
 Eb (nw (Value.cells ag) I.aH h) fun a g=>Eb (nw (Value.cells ah) I.aW g) fun ak i=>Eb (nw lS I.aH i) fun ae k=>Eb (nw aV I.aI k) fun af d=>
 Lf 5 a d fun n=>Lf 6 a d fun p=>S.C I.qN [n,p] d fun q e=>X2 q fun t ai=>Vb (fa 0 a) fun u=>Vb (aF 3 u e) fun v=>Lf 3 a e fun w=>S.C I.qH [v,t,w] e fun x f=>
 X2 x fun aa aj=>Vb (aF 15 a f) fun ab=>S.C I.iO [ab,aa,(.func (.func I.fL) #[] #[])] f fun ad m=>T3 15 ae 8 af ad m R
def ny (S:Sys)(I:aZ)(am:Value)(h:Hp)(R:Po):Prop:=
 Eb (nw (Value.cells am) I.aB h) fun d k=>Eb (nw eK I.aB k) fun g m=>Eb (nw aV I.aI m) fun i a=>Lf 9 d a fun ak=>Vb (lu ak) fun e=>
 Lf 10 d a fun q=>Vb (bin .mul (.int .i64 3) q) fun t=>Vb (bin .eql e t) fun u=>Br u (Vb (aF 21 d a) fun v=>S.C I.fH [v,(.func (.func I.rm) #[] #[])] a fun w n=>
 T3 21 g 8 i w n R) (Vb (fa 0 d) fun x=>Vb (aF 3 x a) fun aa=>Lf 5 d a fun ab=>Vb (bin .quo e (.int .i64 3)) fun ad=>Vb (bin .rem e (.int .i64 3)) fun ae=>
 S.C I.tI [aa,ab,ad,ae] a fun af f=>X2 af fun ag al=>Vb (aF 21 d f) fun ah=>Vb (bG [(0,1),(1,1),(2,3),(5,3)] aV [(0,(.int .i64 1)),(1,ag)]) fun ai=>
 S.C I.bO [ah,ai,(.func (.func I.sI) #[] #[])] f fun aj p=>T3 21 g 8 i aj p R)
def j6 (S:Sys)(I:aZ)(ad i:Value)(h:Hp)(R:Po):Prop:=
 Eb (nw (Value.cells ad) I.aW h) fun e k=>Eb (nw aV I.aI k) fun d a=>Lf 3 e a fun x=>Br x (Vb (fa 5 i) fun aa=>Sb (aQ 1 aa (.bool true) a) fun f=>
 Vb (aF 7 i f) fun ab=>Vb (some (.iface I.bJ ab)) fun p=>Vb (bG [(0,1),(1,1),(2,3),(5,3)] aV []) fun q=>Sb (aQ 8 d q f) fun g=>Vb (aF 8 d g) fun n=>
 R (.tuple #[p,n,(.bool true)]) g) (Vb (aF 7 i a) fun t=>Vb (fa 0 e) fun u=>Vb (aF 3 u a) fun v=>S.C I.lA [t,v] a fun w m=>T2 8 d w m R)
def kT (S:Sys)(I:aZ)(ab ad:Value)(h:Hp)(R:Po):Prop:=
 Eb (nw (Value.cells ab) I.aH h) fun a f=>Eb (nw (Value.cells ad) I.aW f) fun af g=>Eb (nw lS I.aH g) fun x i=>Eb (nw aV I.aI i) fun aa d=>
 Lf 9 a d fun n=>S.C I.nV [n] d fun p k=>X2 p fun q ae=>Vb (bin .eql q (.int .i64 1)) fun t=>Vb (fa 10 a) fun u=>Sb (aQ 1 u t k) fun e=>Vb (aF 15 a e) fun v=>
 S.C I.j9 [v] e fun w m=>T3 15 x 8 aa w m R
def ll (S:Sys)(I:aZ)(ay ax:Value)(h:Hp)(R:Po):Prop:=
 Eb (nw (Value.cells ay) I.aB h) fun a n=>Eb (nw (Value.cells ax) I.aW n) fun m u=>Eb (nw eK I.aB u) fun f v=>Eb (nw aV I.aI v) fun g i=>
 Vb (aF 21 a i) fun aw=>Vb (fa 0 m) fun x=>Vb (aF 3 x i) fun aa=>S.C I.kK [aw,aa] i fun ab e=>Br ab (Vb (aF 21 a e) fun ad=>S.C I.eZ [ad,(.int .i64 4)] e fun ae w=>
 T3 21 f 8 g ae w R) (Vb (aF 21 a e) fun af=>S.C I.kX [af] e fun ag k=>X2 ag fun ah ai=>Vb (sk .not ai) fun aj=>Br aj (Vb (aF 21 a k) fun ak=>
 S.C I.eZ [ak,(.int .i64 4)] k fun al p=>T3 21 f 8 g al p R) (Vb (fa 11 a) fun am=>Sb (aQ 1 am ah k) fun d=>Vb (fa 0 m) fun an=>Lf 0 an d fun ao=>
 Vb (bin .neq ao (.int .i64 0)) fun ap=>Br ap (Vb (aF 21 a d) fun aq=>S.C I.fZ [aq] d fun ar q=>T3 21 f 8 g ar q R) (Vb (aF 21 a d) fun au=>
 S.C I.eY [au] d fun av t=>T3 21 f 8 g av t R)))
def wP (S:Sys)(I:aZ)(aj ak k m:Value)(h:Hp)(R:Po):Prop:=
 Eb (nw (Value.cells aj) I.bB h) fun i f=>Vb (aF 3 i f) fun n=>S.C I.cI [n] f fun p e=>Vb (bin .neq p (.int .i64 0)) fun q=>
 Br q (R (.tuple #[(.int .i64 0),(.int .i64 1)]) e) (Vb (aF 3 i e) fun t=>S.C I.fX [t,ak] e fun u d=>X2 u fun v w=>lq (fun ae g=>Br ae (R (.tuple #[(.int .i64 0),(.int .i64 3)]) g) (Vb (bin .mul (.int .i64 3) k) fun af=>
 Vb (bin .add (.int .i64 2) af) fun ag=>Vb (bin .add ag m) fun ah=>Vb (bin .add v ah) fun ai=>R (.tuple #[ai,(.int .i64 0)]) g)) fun a=>Vb (bin .lss k (.int .i64 0)) fun x=>
 Br x (a (.bool true) d) (Vb (bin .geq k w) fun aa=>Br aa (a (.bool true) d) (Vb (bin .lss m (.int .i64 0)) fun ab=>Br ab (a (.bool true) d) (Vb (bin .geq m (.int .i64 3)) fun ad=>
 a ad d))))
def sR (S:Sys)(I:aZ)(ao an:Value)(h:Hp)(R:Po):Prop:=
 Eb (nw (Value.cells ao) I.aB h) fun d t=>Eb (nw (Value.cells an) I.aW t) fun q u=>Eb (nw eK I.aB u) fun al v=>Eb (nw aV I.aI v) fun am a=>
 Vb (fa 9 d) fun m=>Vb (dU m a) fun n=>Vb (fa 9 d) fun p=>Vb (dU p a) fun g=>Vb (lu g) fun aa=>Vb (fa 9 d) fun i=>Vb (dU i a) fun k=>Vb (lu k) fun ab=>
 Vb (vR 3 n none (some aa) (some ab)) fun ad=>Vb (fa 0 q) fun ae=>Vb (aF 3 ae a) fun af=>Eb (pb #[.int .i64 0,.int .u32 0,.int .u32 0] 3 1 I.aJ [(0,af)] a) fun ag e=>
 dU i e=some k∧dU p e=some g∧dU m e=some n∧Ap I.aJ #[.int .i64 0,.int .u32 0,.int .u32 0] 3 16 ad ag e fun ah w=>Vb (fa 9 d) fun ai=>Sb (aQ 1 ai ah w) fun f=>
 Vb (aF 21 d f) fun aj=>S.C I.la [aj] f fun ak x=>T3 21 al 8 am ak x R
def nI (S:Sys)(I:aZ)(a9:Value)(h:Hp)(R:Po):Prop:=
 Eb (nw (Value.cells a9) I.aB h) fun n q=>Az (.slice none 0 0) (.int .i64 0) q fun a k d p=>Lf 9 n d fun aa=>Vb (lu aa) fun ab=>Vb (bin .lss k ab) fun ad=>
 Br ad (Lf 9 n d fun af=>Vb (bin .add k (.int .i64 3)) fun ag=>Vb (vR 3 af (some k) (some ag) none) fun ah=>Vb (YR 3 ah) fun ai=>Vb (aF 9 ai d) fun aj=>
 S.C I.sP [aj] d fun ak u=>X2 ak fun al am=>Eb (nw ql I.bX u) fun g v=>Sb (aQ 6 g al v) fun i=>lq (fun a3 m=>Br a3 (R (.tuple #[(.slice none 0 0),(.bool false)]) m) (Vb (aF 6 g m) fun a4=>
 Eb (pb ql 6 1 I.bX [(0,a4)] m) fun a5 w=>Ap I.bX ql 6 40 a a5 w fun a6 x=>Vb (bin .add k (.int .i64 3)) fun ae=>p a6 ae x)) fun f=>
 Vb (sk .not am) fun an=>Br an (f (.bool true) i) (Vb (fa 0 n) fun ao=>Vb (aF 3 ao i) fun ap=>Lf 0 g i fun aq=>S.C I.eV [ap,aq] i fun ar e=>
 Vb (sk .not ar) fun au=>Br au (f (.bool true) e) (Vb (lu a) fun av=>Vb (bin .gtr av (.int .i64 0)) fun aw=>Br aw (Vb (lu a) fun ax=>Vb (bin .sub ax (.int .i64 1)) fun ay=>
 Vb (lQ 6 a ay) fun az=>Lf 0 az e fun a0=>Lf 0 g e fun a1=>Vb (bin .geq a0 a1) fun a2=>f a2 e) (f (.bool false) e)))) (S.C I.nP [a] d fun a7 t=>
 Vb (bin .eql a7 (.int .i64 0)) fun a8=>R (.tuple #[a,a8]) t)
def lI (S:Sys)(I:aZ)(x:Value)(h:Hp)(R:Po):Prop:=
 Eb (nw (Value.cells x) I.aB h) fun d g=>Eb (nw eK I.aB g) fun e i=>Eb (nw aV I.aI i) fun f a=>Lf 8 d a fun u=>Br u (Vb (aF 21 d a) fun v=>
 Lf 4 d a fun w=>Vb (bG [(0,1),(1,1),(2,3),(5,3)] aV [(0,(.int .i64 7)),(1,w)]) fun n=>S.C I.bO [v,n,(.func (.func I.mw) #[] #[])] a fun p k=>
 T3 21 e 8 f p k R) (Vb (aF 21 d a) fun q=>S.C I.fH [q,(.func (.func I.ru) #[] #[])] a fun t m=>T3 21 e 8 f t m R)
def lJ (S:Sys)(I:aZ)(al:Value)(h:Hp)(R:Po):Prop:=
 Eb (nw (Value.cells al) I.aB h) fun a q=>Eb (nw eK I.aB q) fun n u=>Eb (nw aV I.aI u) fun p d=>Lf 12 a d fun ai=>Lf 11 a d fun aj=>
 Vb (lu aj) fun ak=>Vb (bin .eql ai ak) fun w=>Br w (Vb (aF 21 a d) fun x=>S.C I.jW [x,(.int .i64 1)] d fun aa v=>T3 21 n 8 p aa v R) (Vb (aF 21 a d) fun f=>
 Vb (aF 21 a d) fun ab=>Vb (aF 21 a d) fun m=>Vb (aF 21 a d) fun i=>S.C I.fS [ab] d fun ad e=>aF 21 a e=some i∧aF 21 a e=some m∧aF 21 a e=some f∧S.C I.kM [m] e fun ae g=>
 aF 21 a g=some i∧aF 21 a g=some f∧S.C I.lp [i] g fun af k=>aF 21 a k=some f∧Vb (bG [(0,1),(1,1),(2,3),(5,3)] aV [(0,(.int .i64 6)),(1,ad),(2,ae),(3,af)]) fun ag=>
 S.C I.bO [f,ag,(.func (.func I.pQ) #[] #[])] k fun ah t=>T3 21 n 8 p ah t R)
def mh (S:Sys)(I:aZ)(v t:Value)(h:Hp)(R:Po):Prop:=
 Eb (nw (Value.cells v) I.aB h) fun q d=>Eb (nw (Value.cells t) I.aW d) fun u e=>Eb (nw eK I.aB e) fun i f=>Eb (nw aV I.aI f) fun k a=>
 Vb (aF 21 q a) fun m=>Vb (bG [(0,1),(1,1),(2,3),(5,3)] aV [(0,(.int .i64 8))]) fun n=>S.C I.bO [m,n,(.func (.func I.oA) #[] #[])] a fun p g=>
 T3 21 i 8 k p g R
def pI (S:Sys)(I:aZ)(aw av:Value)(h:Hp)(R:Po):Prop:=
 Eb (nw (Value.cells aw) I.aB h) fun a q=>Eb (nw (Value.cells av) I.aW q) fun k v=>Eb (nw eK I.aB v) fun ao w=>Eb (nw aV I.aI w) fun ap x=>
 Vb (fa 13 a) fun aq=>Sb (aQ 1 aq (.int .i64 4) x) fun aa=>Vb (fa 12 a) fun ar=>Sb (aQ 1 ar (.int .i64 0) aa) fun f=>CY (fun m=>Vb (aF 21 a m) fun am=>
 S.C I.lB [am] m fun an ab=>T3 21 ao 8 ap an ab R) fun g=>Vb (fa 0 k) fun au=>Vb (aF 3 au f) fun n=>lq (fun ad d=>Br ad (Vb (fa 0 k) fun aj=>
 Lf 0 aj d fun ak=>Vb (fa 13 a) fun al=>Sb (aQ 1 al ak d) fun t=>g t) (g d)) fun i=>Lf 6 a f fun ae=>S.C I.fJ [(.int .i64 1),ae] f fun af e=>
 Vb (pos? (E5 [true,true,true] n af)) fun p=>Br p (i p e) (Lf 6 a e fun ag=>S.C I.fJ [(.int .i64 2),ag] e fun ah u=>Vb (pos? (E5 [true,true,true] n ah)) fun ai=>
 i ai u)
def kg (S:Sys)(I:aZ)(ag af:Value)(h:Hp)(R:Po):Prop:=
 Eb (nw (Value.cells ag) I.aB h) fun d k=>Eb (nw eK I.aB k) fun g m=>Eb (nw aV I.aI m) fun i n=>Vb (fa 13 d) fun ae=>
 Sb (aQ 1 ae af n) fun e=>lq (fun v a=>Br v (Vb (aF 21 d a) fun w=>S.C I.kH [w,(.func (.func I.nS) #[] #[])] a fun x p=>T3 21 g 8 i x p R) (Vb (aF 21 d a) fun aa=>
 Vb (bG [(0,3),(3,1)] #[.int .i64 0,.int .u32 0,.int .u32 0,.bool false] []) fun ab=>S.C I.nS [aa,ab] a fun ad q=>T3 21 g 8 i ad q R)) fun f=>
 Vb (bin .eql af (.int .i64 1)) fun t=>Br t (Lf 8 d e fun u=>f u e) (f (.bool false) e)
def pX (S:Sys)(I:aZ)(k:Value)(h:Hp)(R:Po):Prop:=
 Eb (nw (Value.cells k) I.aB h) fun d a=>Lf 11 d a fun e=>Lf 12 d a fun f=>Vb (lQ 6 e f) fun g=>Lf 0 g a fun i=>R i a
def p0 (S:Sys)(I:aZ)(q:Value)(h:Hp)(R:Po):Prop:=
 Eb (nw (Value.cells q) I.aB h) fun e f=>Eb (nw #[.int .i64 0,.int .u32 0,.int .u32 0] I.aJ f) fun d a=>Lf 11 e a fun i=>Lf 12 e a fun k=>
 Vb (lQ 6 i k) fun m=>Vb (fa 1 m) fun n=>Vb (aF 3 n a) fun p=>Sb (aQ 3 d p a) fun g=>Rl 3 d g R
def qK (S:Sys)(I:aZ)(x:Value)(h:Hp)(R:Po):Prop:=
 Eb (nw (Value.cells x) I.aB h) fun i k=>Eb (nw #[.int .i64 0,.int .u32 0,.int .u32 0] I.aJ k) fun g d=>Vb (aF 21 i d) fun q=>S.C I.kM [q] d fun t m=>
 Eb (nw #[.int .i64 0,.int .u32 0,.int .u32 0] I.aJ m) fun a n=>Sb (aQ 3 a t n) fun e=>Lf 3 i e fun u=>Vb (fa 2 a) fun v=>Sb (aQ 1 v u e) fun f=>
 Vb (aF 3 a f) fun w=>Sb (aQ 3 g w f) fun p=>Rl 3 g p R
def jK (S:Sys)(I:aZ)(a2 a1:Value)(h:Hp)(R:Po):Prop:=
 Eb (nw (Value.cells a2) I.aB h) fun a v=>Eb (nw (Value.cells a1) I.aW v) fun f aa=>Eb (nw eK I.aB aa) fun i ab=>Eb (nw aV I.aI ab) fun k d=>
 lq (fun az e=>Br az (Lf 12 a e fun ah=>Vb (bin .add ah (.int .i64 1)) fun ai=>Vb (fa 12 a) fun aj=>Sb (aQ 1 aj ai e) fun q=>Vb (aF 21 a q) fun ak=>S.C I.eY [ak] q fun al ad=>
 T3 21 i 8 k al ad R) (Vb (aF 21 a e) fun am=>Vb (fa 0 f) fun an=>Vb (aF 3 an e) fun ao=>S.C I.lM [am,ao] e fun ap g=>Br ap (Vb (fa 0 f) fun aq=>
 Vb (aF 3 aq g) fun ar=>Vb (fa 14 a) fun au=>Sb (aQ 3 au ar g) fun n=>Vb (aF 21 a n) fun av=>S.C I.fH [av,(.func (.func I.tA) #[] #[])] n fun aw w=>
 T3 21 i 8 k aw w R) (Vb (aF 21 a g) fun ax=>S.C I.jW [ax,(.int .i64 2)] g fun ay x=>T3 21 i 8 k ay x R))) fun m=>Lf 3 f d fun a0=>Br a0 (m (.bool true) d) (Vb (fa 0 f) fun t=>
 Vb (aF 3 t d) fun u=>Vb (aF 21 a d) fun ae=>S.C I.lp [ae] d fun af p=>aF 3 t p=some u∧Vb (pos? (E5 [true,true,true] u af)) fun ag=>
 m ag p)
def oJ (S:Sys)(I:aZ)(u q:Value)(h:Hp)(R:Po):Prop:=
 Eb (nw (Value.cells u) I.aB h) fun p d=>Eb (nw (Value.cells q) I.aW d) fun t e=>Eb (nw eK I.aB e) fun i f=>Eb (nw aV I.aI f) fun k a=>
 Vb (aF 21 p a) fun m=>S.C I.fH [m,(.func (.func I.ru) #[] #[])] a fun n g=>T3 21 i 8 k n g R
def lD (S:Sys)(I:aZ)(ak:Value)(h:Hp)(R:Po):Prop:=
 Eb (nw (Value.cells ak) I.aB h) fun d k=>Eb (nw eK I.aB k) fun e n=>Eb (nw aV I.aI n) fun f a=>Lf 12 d a fun ai=>Lf 11 d a fun aj=>
 Vb (lu aj) fun t=>Vb (bin .lss ai t) fun u=>Br u (Vb (aF 21 d a) fun i=>Vb (aF 21 d a) fun v=>S.C I.fS [v] a fun w g=>aF 21 d g=some i∧Vb (bG [(0,1),(1,1),(2,3),(5,3)] aV [(0,(.int .i64 5)),(1,w)]) fun x=>
 S.C I.bO [i,x,(.func (.func I.tP) #[] #[])] g fun aa p=>T3 21 e 8 f aa p R) (Lf 8 d a fun ab=>Br ab (Vb (aF 21 d a) fun ad=>S.C I.kH [ad,(.func (.func I.rR) #[] #[])] a fun ae q=>
 T3 21 e 8 f ae q R) (Vb (aF 21 d a) fun af=>Lf 13 d a fun ag=>S.C I.eZ [af,ag] a fun ah m=>T3 21 e 8 f ah m R))
def pZ (S:Sys)(I:aZ)(x w:Value)(h:Hp)(R:Po):Prop:=
 Eb (nw (Value.cells x) I.aB h) fun a e=>Eb (nw eK I.aB e) fun q f=>Eb (nw aV I.aI f) fun t g=>Vb (fa 12 a) fun u=>
 Sb (aQ 1 u (.int .i64 0) g) fun i=>Vb (fa 20 a) fun v=>Sb (aQ 1 v w i) fun d=>Vb (aF 21 a d) fun m=>Vb (bG [(0,3),(3,1)] #[.int .i64 0,.int .u32 0,.int .u32 0,.bool false] []) fun n=>
 S.C I.mV [m,n] d fun p k=>T3 21 q 8 t p k R
def sQ (S:Sys)(I:aZ)(aj ah:Value)(h:Hp)(R:Po):Prop:=
 Eb (nw (Value.cells aj) I.aB h) fun a t=>Eb (nw (Value.cells ah) I.aW t) fun ai u=>Eb (nw eK I.aB u) fun af v=>Eb (nw aV I.aI v) fun ag d=>
 Vb (aF 21 a d) fun g=>Vb (fa 4 a) fun i=>Vb (dU i d) fun k=>Lf 6 a d fun x=>Vb (fa 13 a) fun m=>Vb (dU m d) fun n=>Vb (fa 6 a) fun p=>Vb (dU p d) fun q=>
 S.C I.fJ [(.int .i64 0),x] d fun aa e=>dU p e=some q∧dU m e=some n∧dU i e=some k∧aF 21 a e=some g∧S.C I.fJ [n,q] e fun ab f=>
 dU i f=some k∧aF 21 a f=some g∧Vb (bG [(0,1),(1,1),(2,3),(5,3)] aV [(0,(.int .i64 6)),(1,k),(2,aa),(3,ab)]) fun ad=>S.C I.bO [g,ad,(.func (.func I.rN) #[] #[])] f fun ae w=>
 T3 21 af 8 ag ae w R
def oi (S:Sys)(I:aZ)(aj ai:Value)(h:Hp)(R:Po):Prop:=
 Eb (nw (Value.cells aj) I.aB h) fun k m=>Eb (nw (Value.cells ai) I.aJ m) fun i e=>Lf 2 i e fun p=>S.C I.qL [p] e fun q f=>X2 q fun g ag=>
 Vb (fa 0 k) fun t=>Vb (aF 3 t f) fun u=>S.C I.fX [u,g] f fun v a=>X2 v fun w ah=>lq (fun af n=>R af n) fun d=>Lf 2 i a fun x=>Lf 3 k a fun aa=>
 Vb (bin .neq x aa) fun ab=>Br ab (Vb (bin .neq g (.int .i64 0)) fun ad=>Br ad (Vb (bin .geq w (.int .i64 0)) fun ae=>d ae a) (d (.bool false) a)) (d (.bool false) a)
def rQ (S:Sys)(I:aZ)(au aq:Value)(h:Hp)(R:Po):Prop:=
 Eb (nw (Value.cells au) I.aB h) fun d p=>Eb (nw (Value.cells aq) I.aW p) fun n t=>Eb (nw eK I.aB t) fun i u=>Eb (nw aV I.aI u) fun k e=>
 Vb (fa 0 n) fun m=>Vb (aF 3 m e) fun g=>Lf 6 d e fun x=>S.C I.fJ [(.int .i64 0),x] e fun aa a=>aF 3 m a=some g∧Vb (BZ (E5 [true,true,true] g aa)) fun ab=>
 Br ab (Vb (aF 21 d a) fun ad=>S.C I.fZ [ad] a fun ae v=>T3 21 i 8 k ae v R) (Vb (fa 0 d) fun af=>Vb (aF 3 af a) fun ag=>Vb (fa 14 d) fun ah=>
 Lf 2 ah a fun ai=>Lf 8 d a fun aj=>S.C I.qH [ag,ai,aj] a fun ak w=>X2 ak fun al ar=>Vb (fa 17 d) fun am=>Sb (aQ 1 am al w) fun f=>Vb (aF 21 d f) fun an=>
 Vb (bG [(0,3),(3,1)] #[.int .i64 0,.int .u32 0,.int .u32 0,.bool false] []) fun ao=>S.C I.qi [an,ao] f fun ap q=>T3 21 i 8 k ap q R)
def l9 (S:Sys)(I:aZ)(bk bj:Value)(h:Hp)(R:Po):Prop:=
 Eb (nw (Value.cells bk) I.aB h) fun e aa=>Eb (nw (Value.cells bj) I.aW aa) fun i ai=>Eb (nw eK I.aB ai) fun t ak=>Eb (nw aV I.aI ak) fun u g=>
 Lf 11 e g fun an=>Lf 12 e g fun ao=>Vb (lQ 6 an ao) fun ap=>Vb (aF 6 ap g) fun aq=>Eb (nw ql I.bX g) fun f al=>Sb (aQ 6 f aq al) fun a=>
 CY (fun n=>Vb (aF 21 e n) fun bf=>Vb (bG [(0,3),(3,1)] #[.int .i64 0,.int .u32 0,.int .u32 0,.bool false] []) fun bg=>S.C I.pK [bf,bg] n fun bh am=>
 T3 21 t 8 u bh am R) fun k=>Vb (fa 0 i) fun ar=>Lf 2 ar a fun au=>Lf 3 e a fun av=>Vb (bin .eql au av) fun aw=>Br aw (MQ (fun bi x d=>Vb (bin .eql x (.int .i64 0)) fun a7=>
 Br a7 (Vb (aF 21 e d) fun a8=>Lf 0 f d fun a9=>Vb (fa 0 i) fun ba=>Vb (aF 3 ba d) fun bb=>Vb (aF 3 bi d) fun bc=>Vb (bG [(0,1),(1,1),(2,3),(5,3)] aV [(0,(.int .i64 6)),(1,a9),(2,bb),(3,bc)]) fun bd=>
 S.C I.bO [a8,bd,(.func (.func I.pK) #[] #[])] d fun be ab=>T3 21 t 8 u be ab R) (k d)) fun m=>Vb (fa 0 i) fun ax=>Vb (aF 3 ax a) fun p=>
 Lf 4 f a fun q=>Lf 5 f a fun ay=>Br ay (Lf 13 e a fun az=>Vb (bin .eql az (.int .i64 1)) fun a0=>S.C I.oY [p,q,a0] a fun a1 ad=>X2 a1 fun a3 a5=>
 Eb (nw #[.int .i64 0,.int .u32 0,.int .u32 0] I.aJ ad) fun v ae=>Sb (aQ 3 v a3 ae) fun af=>m v a5 af) (S.C I.oY [p,q,(.bool false)] a fun a2 ag=>
 X2 a2 fun a4 a6=>Eb (nw #[.int .i64 0,.int .u32 0,.int .u32 0] I.aJ ag) fun w ah=>Sb (aQ 3 w a4 ah) fun aj=>m w a6 aj)) (k a)
def rL (S:Sys)(I:aZ)(v t:Value)(h:Hp)(R:Po):Prop:=
 Eb (nw (Value.cells v) I.aB h) fun d e=>Eb (nw (Value.cells t) I.aW e) fun u f=>Eb (nw eK I.aB f) fun m g=>Eb (nw aV I.aI g) fun n a=>
 Vb (aF 21 d a) fun p=>Lf 13 d a fun q=>S.C I.eZ [p,q] a fun k i=>T3 21 m 8 n k i R
def pi (S:Sys)(I:aZ)(ao am:Value)(h:Hp)(R:Po):Prop:=
 Eb (nw (Value.cells ao) I.aB h) fun a k=>Eb (nw (Value.cells am) I.aW k) fun an n=>Eb (nw eK I.aB n) fun g p=>Eb (nw aV I.aI p) fun i d=>
 Lf 12 a d fun al=>Lf 11 a d fun t=>Vb (lu t) fun u=>Vb (bin .eql al u) fun v=>Br v (Vb (aF 21 a d) fun w=>Vb (bG [(0,1),(1,1),(2,3),(5,3)] aV [(0,(.int .i64 8))]) fun x=>
 Lf 20 a d fun aa=>S.C I.bO [w,x,aa] d fun ab q=>T3 21 g 8 i ab q R) (Vb (aF 21 a d) fun ad=>S.C I.fS [ad] d fun ae e=>
 Lf 12 a e fun af=>Vb (bin .add af (.int .i64 1)) fun ag=>Vb (fa 12 a) fun ah=>Sb (aQ 1 ah ag e) fun f=>Vb (aF 21 a f) fun ai=>Vb (bG [(0,1),(1,1),(2,3),(5,3)] aV [(0,(.int .i64 7)),(1,ae)]) fun aj=>
 S.C I.bO [ai,aj,(.func (.func I.mV) #[] #[])] f fun ak m=>T3 21 g 8 i ak m R)
def rH (S:Sys)(I:aZ)(u q:Value)(h:Hp)(R:Po):Prop:=
 Eb (nw (Value.cells u) I.aB h) fun p d=>Eb (nw (Value.cells q) I.aW d) fun t e=>Eb (nw eK I.aB e) fun i f=>Eb (nw aV I.aI f) fun k a=>
 Vb (aF 21 p a) fun m=>S.C I.fZ [m] a fun n g=>T3 21 i 8 k n g R
def nU (S:Sys)(I:aZ)(bd bb:Value)(h:Hp)(R:Po):Prop:=
 Eb (nw (Value.cells bd) I.aB h) fun a ab=>Eb (nw (Value.cells bb) I.aW ab) fun aa ag=>Eb (nw eK I.aB ag) fun i ah=>Eb (nw aV I.aI ah) fun k g=>
 Lf 17 a g fun am=>Vb (aF 4 aa g) fun an=>Ci S.C I.mt "Next" am [an] g fun ao ai=>X3 ao fun n ap aq=>Eb (nw aV I.aI ai) fun m aj=>Sb (aQ 8 m ap aj) fun ak=>
 Vb (fa 17 a) fun ar=>Sb (aQ 1 ar n ak) fun f=>Vb (sk .not aq) fun au=>Br au (Vb (aF 21 a f) fun av=>Vb (aF 8 m f) fun aw=>S.C I.bO [av,aw,(.func (.func I.qi) #[] #[])] f fun ax al=>
 T3 21 i 8 k ax al R) (Vb (fa 17 a) fun ay=>Sb (aQ 1 ay (.nilIface) f) fun ad=>S.C I.nV [n] ad fun az d=>X2 az fun a0 bc=>Vb (bin .neq a0 (.int .i64 4)) fun a1=>
 Br a1 (Vb (aF 21 a d) fun a2=>S.C I.eY [a2] d fun a3 ae=>T3 21 i 8 k a3 ae R) (Vb (aF 21 a d) fun p=>Vb (aF 21 a d) fun a4=>Vb (fa 14 a) fun q=>
 Vb (aF 3 q d) fun t=>Vb (fa 14 a) fun a6=>Vb (fa 0 a6) fun u=>Vb (dU u d) fun v=>Vb (fa 14 a) fun a7=>Vb (fa 1 a7) fun w=>Vb (dU w d) fun x=>Vb (bG [(0,1),(1,1),(2,1)] #[.int .i64 0,.int .u32 0,.int .u32 0] [(0,v),(1,x)]) fun a8=>
 S.C I.fS [a4] d fun a5 e=>dU w e=some x∧dU u e=some v∧aF 3 q e=some t∧aF 21 a e=some p∧Vb (bG [(0,1),(1,1),(2,3),(5,3)] aV [(0,(.int .i64 6)),(1,a5),(2,t),(3,a8)]) fun a9=>
 S.C I.bO [p,a9,(.func (.func I.sD) #[] #[])] e fun ba af=>T3 21 i 8 k ba af R))
def m4 (S:Sys)(I:aZ)(an am al:Value)(h:Hp)(R:Po):Prop:=
 Eb (nw (Value.cells an) I.aJ h) fun f t=>Eb (nw #[.int .i64 0,.int .u32 0,.int .u32 0] I.aJ t) fun a k=>Vb (aF 3 f k) fun ak=>S.C I.sX [ak] k fun u g=>
 Vb (bin .neq u (.int .i64 1)) fun v=>Br v (Vb (aF 3 f g) fun w=>Sb (aQ 3 a w g) fun m=>Vb (aF 3 a m) fun e=>R (.tuple #[e,(.int .i64 13)]) m) (lq (fun x d=>
 Br x (Vb (aF 3 f d) fun ad=>Sb (aQ 3 a ad d) fun n=>Vb (aF 3 a n) fun e=>R (.tuple #[e,(.int .i64 9)]) n) (Br al (Lf 1 f d fun ae=>Vb (bin .add ae (.int .u32 1)) fun af=>
 Vb (bG [(0,1),(1,1),(2,1)] #[.int .i64 0,.int .u32 0,.int .u32 0] [(0,am),(1,af)]) fun ag=>Sb (aQ 3 a ag d) fun p=>Vb (aF 3 a p) fun e=>R (.tuple #[e,(.int .i64 0)]) p) (Lf 0 f d fun ah=>
 Lf 1 f d fun ai=>Vb (bG [(0,1),(1,1),(2,1)] #[.int .i64 0,.int .u32 0,.int .u32 0] [(0,ah),(1,ai)]) fun aj=>Sb (aQ 3 a aj d) fun q=>Vb (aF 3 a q) fun e=>
 R (.tuple #[e,(.int .i64 0)]) q))) fun i=>Br al (Lf 1 f g fun aa=>Vb (bin .eql aa (.int .u32 4294967295)) fun ab=>i ab g) (i (.bool false) g))
def tU (S:Sys)(I:aZ)(aa w:Value)(h:Hp)(R:Po):Prop:=
 Eb (nw (Value.cells aa) I.aB h) fun a f=>Eb (nw (Value.cells w) I.aW f) fun x g=>Eb (nw eK I.aB g) fun q i=>Eb (nw aV I.aI i) fun t d=>
 Lf 12 a d fun u=>Vb (bin .add u (.int .i64 1)) fun v=>Vb (fa 12 a) fun m=>Sb (aQ 1 m v d) fun e=>Vb (aF 21 a e) fun n=>S.C I.lB [n] e fun p k=>
 T3 21 q 8 t p k R
def sO (S:Sys)(I:aZ)(u q:Value)(h:Hp)(R:Po):Prop:=
 Eb (nw (Value.cells u) I.aB h) fun p d=>Eb (nw (Value.cells q) I.aW d) fun t e=>Eb (nw eK I.aB e) fun i f=>Eb (nw aV I.aI f) fun k a=>
 Vb (aF 21 p a) fun m=>S.C I.eY [m] a fun n g=>T3 21 i 8 k n g R
def jI (S:Sys)(I:aZ)(aa ab:Value)(h:Hp)(R:Po):Prop:=
 Eb (nw (Value.cells aa) I.aY h) fun d i=>Eb (nw (Value.cells ab) I.aW i) fun g k=>Eb (nw aV I.aI k) fun e a=>Lf 8 d a fun w=>
 Br w (Vb (aF 10 d a) fun x=>Vb (some (.iface I.aY x)) fun p=>Vb (bG [(0,1),(1,1),(2,3),(5,3)] aV []) fun q=>Sb (aQ 8 e q a) fun f=>Vb (aF 8 e f) fun n=>
 R (.tuple #[p,n,(.bool true)]) f) (Lf 7 d a fun t=>Vb (aF 4 g a) fun u=>Cw S.C S.Y I.mt t [u] a fun v m=>T2 8 e v m R)
def gU (S:Sys)(I:aZ)(aq ap:Value)(h:Hp)(R:Po):Prop:=
 Eb (nw (Value.cells aq) I.aH h) fun d q=>Eb (nw (Value.cells ap) I.aW q) fun p t=>Eb (nw aV I.aI t) fun e a=>Lf 12 d a fun aa=>
 Br aa (Vb (aF 15 d a) fun ab=>Vb (some (.iface I.aH ab)) fun ad=>Vb (bG [(0,1),(1,1),(2,3),(5,3)] aV []) fun ae=>Sb (aQ 8 e ae a) fun m=>
 Vb (aF 8 e m) fun g=>R (.tuple #[ad,g,(.bool true)]) m) (Lf 13 d a fun af=>Vb (aF 15 d a) fun ag=>Vb (aF 4 p a) fun ah=>Cw S.C S.Y I.mt af [ag,ah] a fun ai u=>
 X3 ai fun aj ak al=>Eb (nw lS I.aH u) fun n v=>Eb (nw aV I.aI v) fun i w=>Sb (aQ 15 n aj w) fun x=>Sb (aQ 8 i ak x) fun f=>
 Vb (aF 15 n f) fun am=>Vb (some (.iface I.aH am)) fun an=>Vb (aF 8 i f) fun ao=>Sb (aQ 8 e ao f) fun k=>Vb (aF 8 e k) fun g=>R (.tuple #[an,g,al]) k)
def iC (S:Sys)(I:aZ)(aa ab:Value)(h:Hp)(R:Po):Prop:=
 Eb (nw (Value.cells aa) I.bA h) fun d i=>Eb (nw (Value.cells ab) I.aW i) fun g k=>Eb (nw aV I.aI k) fun e a=>Lf 6 d a fun w=>
 Br w (Vb (aF 8 d a) fun x=>Vb (some (.iface I.bA x)) fun p=>Vb (bG [(0,1),(1,1),(2,3),(5,3)] aV []) fun q=>Sb (aQ 8 e q a) fun f=>Vb (aF 8 e f) fun n=>
 R (.tuple #[p,n,(.bool true)]) f) (Lf 7 d a fun t=>Vb (aF 4 g a) fun u=>Cw S.C S.Y I.mt t [u] a fun v m=>T2 8 e v m R)
def nu (S:Sys)(I:aZ)(aq ap:Value)(h:Hp)(R:Po):Prop:=
 Eb (nw (Value.cells aq) I.aB h) fun e q=>Eb (nw (Value.cells ap) I.aW q) fun p t=>Eb (nw aV I.aI t) fun d a=>Lf 18 e a fun aa=>
 Br aa (Vb (aF 21 e a) fun ab=>Vb (some (.iface I.aB ab)) fun ad=>Vb (bG [(0,1),(1,1),(2,3),(5,3)] aV []) fun ae=>Sb (aQ 8 d ae a) fun m=>
 Vb (aF 8 d m) fun g=>R (.tuple #[ad,g,(.bool true)]) m) (Lf 19 e a fun af=>Vb (aF 21 e a) fun ag=>Vb (aF 4 p a) fun ah=>Cw S.C S.Y I.mt af [ag,ah] a fun ai u=>
 X3 ai fun aj ak al=>Eb (nw eK I.aB u) fun n v=>Eb (nw aV I.aI v) fun i w=>Sb (aQ 21 n aj w) fun x=>Sb (aQ 8 i ak x) fun f=>
 Vb (aF 21 n f) fun am=>Vb (some (.iface I.aB am)) fun an=>Vb (aF 8 i f) fun ao=>Sb (aQ 8 d ao f) fun k=>Vb (aF 8 d k) fun g=>R (.tuple #[an,g,al]) k)
def kl (S:Sys)(I:aZ)(aa ab:Value)(h:Hp)(R:Po):Prop:=
 Eb (nw (Value.cells aa) I.bJ h) fun d i=>Eb (nw (Value.cells ab) I.aW i) fun g k=>Eb (nw aV I.aI k) fun e a=>Lf 5 d a fun w=>
 Br w (Vb (aF 7 d a) fun x=>Vb (some (.iface I.bJ x)) fun p=>Vb (bG [(0,1),(1,1),(2,3),(5,3)] aV []) fun q=>Sb (aQ 8 e q a) fun f=>Vb (aF 8 e f) fun n=>
 R (.tuple #[p,n,(.bool true)]) f) (Lf 6 d a fun t=>Vb (aF 4 g a) fun u=>Cw S.C S.Y I.mt t [u] a fun v m=>T2 8 e v m R)
end Go.En
namespace Go.En
abbrev Fp:=Nat→Prop
structure Mv (F:Fp) (h:Hp) (F':Fp) (h':Hp):Prop where
 ch:Ch F h h'
 grow:∀r,F' r→F r∨h.size≤r
theorem Mv.trans {F F' F'':Fp} {a b c:Hp} (x:Mv F a F' b) (y:Mv F' b F'' c):Mv F a F'' c:=by
 refine ⟨⟨Nat.le_trans x.ch.size y.ch.size,fun r hr hn=>?_⟩,fun r hr=>?_⟩
 ·rw [y.ch.same r (Nat.lt_of_lt_of_le hr x.ch.size) (fun e=>(x.grow r e).elim hn (fun g=>by omega)),x.ch.same r hr hn]
 ·rcases y.grow r hr with h | h
  ·exact x.grow r h
  ·exact .inr (Nat.le_trans x.ch.size h)
structure bQ where
 P:Hp→Fp→Prop
 lt:∀{h F},P h F→∀r,F r→r<h.size
 loc:∀{h h' F D},P h F→Ch D h h'→(∀r,F r→¬D r)→P h' F
inductive B9 (h:Hp):List bQ→List Fp→Prop where
 | nil:B9 h [] []
 | cons {A:bQ} {F:Fp} {L:List bQ} {Fs:List Fp}:A.P h F→(∀G∈Fs,∀r,F r→¬G r)→B9 h L Fs→B9 h (A::L) (F::Fs)
theorem B9.lt {h:Hp} {L:List bQ} {Fs:List Fp} (o:B9 h L Fs):∀G∈Fs,∀r,G r→r<h.size:=by
 induction o with
 | nil=>intro G hG; cases hG
 | cons a _ _ ih=>
  intro G hG
  rcases List.mem_cons.1 hG with rfl | hG
  ·exact bQ.lt _ a
  ·exact ih G hG
theorem B9.loc {h h':Hp} {D:Fp} {L:List bQ} {Fs:List Fp} (o:B9 h L Fs) (c:Ch D h h') (hd:∀G∈Fs,∀r,G r→¬D r):B9 h' L Fs:=by
 induction o with
 | nil=>exact .nil
 | cons a d _ ih=>exact .cons (bQ.loc _ a c (hd _ (List.mem_cons_self ..))) d (ih fun G hG=>hd G (List.mem_cons_of_mem _ hG))
def Cx (F0:Fp) (h0 h:Hp) (L:List bQ):Prop:=∃Fs,B9 h L Fs∧Ch F0 h0 h∧∀G∈Fs,∀r,G r→F0 r∨h0.size≤r
section
variable {F0:Fp} {h0 h h':Hp} {L:List bQ} {A B:bQ}
theorem Cx.gr (c:Cx F0 h0 h L):Ch F0 h0 h:=let ⟨_,_,g,_⟩ :=c; g
theorem Cx.start {F:Fp} (a:A.P h F):Cx F h h [A]:=⟨[F],.cons a (fun _ hG=>by cases hG) .nil,.refl _ _,fun G hG r hr=>by
 rcases List.mem_cons.1 hG with rfl | hG
 ·exact .inl hr
 ·cases hG⟩
theorem Cx.aA (h:Hp):Cx (fun _=>False) h h []:=⟨[],.nil,.refl _ _,fun G hG=>by cases hG⟩
theorem wM:∀{L:List bQ} {Fs:List Fp} {i:Nat} {A:bQ},B9 h L Fs→L[i]?=some A→∃F,A.P h F∧Fs[i]?=some F∧∀{h':Hp} {F':Fp} {B:bQ},B.P h' F'→Mv F h F' h'→B9 h' (L.set i B) (Fs.set i F')
 | _,_,i,A,.nil,hi=>by simp at hi
 | _,_,0,A,.cons (F:=F) a d o,hi=>by
  simp only [List.getElem?_cons_zero,Option.some.injEq] at hi
  subst hi
  refine ⟨F,a,rfl,fun {h' F' B} b m=>?_⟩
  refine .cons b (fun G hG r hr hG2=>?_) (o.loc m.ch fun G hG r hr hF=>d G hG r hF hr)
  rcases m.grow r hr with h | h
  ·exact d G hG r h hG2
  ·have:=o.lt G hG r hG2; omega
 | _,_,i+1,A,.cons (F:=F0) (A:=A0) a d o,hi=>by
  obtain ⟨F,p,hF,f⟩ :=wM o (by simpa using hi)
  refine ⟨F,p,by simpa using hF,fun {h' F' B} b m=>?_⟩
  have hdis:∀r,F0 r→¬F r:=d F (List.mem_of_getElem? hF)
  refine .cons (A0.loc a m.ch hdis) (fun G hG r hr hG2=>?_) (f b m)
  rcases List.mem_or_eq_of_mem_set hG with h | h
  ·exact d G h r hr hG2
  ·subst h
   rcases m.grow r hG2 with h | h
   ·exact hdis r hr h
   ·have:=A0.lt a r hr; omega
theorem Cx.Nz (c:Cx F0 h0 h L) {i:Nat} (hi:L[i]?=some A):∃F,A.P h F∧∀{h':Hp} {F':Fp} {B:bQ},B.P h' F'→Mv F h F' h'→Cx F0 h0 h' (L.set i B):=by
 obtain ⟨Fs,o,g,k⟩ :=c
 obtain ⟨F,p,hF,f⟩ :=wM o hi
 refine ⟨F,p,fun {h' F' B} b m=>⟨_,f b m,?_,fun G hG r hr=>?_⟩⟩
 ·have kF:=k F (List.mem_of_getElem? hF)
  refine ⟨Nat.le_trans g.size m.ch.size,fun r hr hn=>?_⟩
  rw [m.ch.same r (Nat.lt_of_lt_of_le hr g.size) (fun e=>(kF r e).elim hn (fun x=>by omega)),g.same r hr hn]
 ·rcases List.mem_or_eq_of_mem_set hG with h | h
  ·exact k G h r hr
  ·subst h
   rcases m.grow r hr with h | h
   ·exact k F (List.mem_of_getElem? hF) r h
   ·exact .inr (Nat.le_trans g.size h)
theorem Cx.get (c:Cx F0 h0 h L) {i:Nat} (hi:L[i]?=some A):∃F,A.P h F:=let ⟨F,p,_⟩ :=c.Nz hi; ⟨F,p⟩
theorem KP:∀{L:List bQ} {Fs:List Fp} {F':Fp} {h h':Hp} {B:bQ},B9 h L Fs→B.P h' F'→Gr h h'→(∀r,F' r→h.size≤r)→B9 h' (L++[B]) (Fs++[F'])
 | _,_,_,_,_,B,.nil,b,g,n=>.cons b (fun G hG=>by cases hG) .nil
 | _,_,F',h,h',B,.cons (A:=A0) a d o,b,g,n=>by
  refine .cons (A0.loc a g fun _ _ e=>e) (fun G hG r hr hG2=>?_) (KP o b g n)
  rcases List.mem_append.1 hG with h | h
  ·exact d G h r hr hG2
  ·simp only [List.mem_singleton] at h
   subst h
   have:=n r hG2
   have:=A0.lt a r hr
   omega
theorem Cx.add (c:Cx F0 h0 h L) {F':Fp} (b:B.P h' F') (g:Gr h h') (n:∀r,F' r→h.size≤r):Cx F0 h0 h' (L++[B]):=by
 obtain ⟨Fs,o,g0,k⟩ :=c
 refine ⟨_,KP o b g n,⟨Nat.le_trans g0.size g.size,fun r hr hn=>by rw [g.same r (Nat.lt_of_lt_of_le hr g0.size) (fun e=>e),g0.same r hr hn]⟩,fun G hG r hr=>?_⟩
 rcases List.mem_append.1 hG with h | h
 ·exact k G h r hr
 ·simp only [List.mem_singleton] at h
  subst h
  exact .inr (Nat.le_trans g0.size (n r hr))
theorem Cx.more (c:Cx F0 h0 h L) (g:Gr h h'):Cx F0 h0 h' L:=by
 obtain ⟨Fs,o,g0,k⟩ :=c
 exact ⟨Fs,o.loc g fun _ _ _ _ e=>e,⟨Nat.le_trans g0.size g.size,fun r hr hn=>by rw [g.same r (Nat.lt_of_lt_of_le hr g0.size) (fun e=>e),g0.same r hr hn]⟩,k⟩
theorem HV:∀{L L':List bQ} {Fs:List Fp},B9 h (L++L') Fs→∃Fs',B9 h L Fs'∧∀G∈Fs',G∈Fs
 | [],L',Fs,_=>⟨[],.nil,fun G hG=>by cases hG⟩
 | A::L,L',_,.cons a d o=>by
  obtain ⟨Fs',o',hs⟩ :=HV (L:=L) o
  exact ⟨_,.cons a (fun G hG=>d G (hs G hG)) o',fun G hG=>by
   rcases List.mem_cons.1 hG with rfl | hG
   ·exact List.mem_cons_self ..
   ·exact List.mem_cons_of_mem _ (hs G hG)⟩
theorem Cx.drop {L':List bQ} (c:Cx F0 h0 h (L++L')):Cx F0 h0 h L:=by
 obtain ⟨Fs,o,g,k⟩ :=c
 obtain ⟨Fs',o',hs⟩ :=HV o
 exact ⟨Fs',o',g,fun G hG=>k G (hs G hG)⟩
theorem QP:∀{L:List bQ} {Fs:List Fp} {i j:Nat} {A B:bQ},B9 h L Fs→L[i]?=some A→L[j]?=some B→i≠j→∃F G,A.P h F∧B.P h G∧∀r,F r→¬G r
 | _,_,i,_,_,_,.nil,hi,_,_=>by simp at hi
 | _,_,0,0,_,_,.cons ..,_,_,hn=>absurd rfl hn
 | _,_,0,j+1,A,B,.cons a d o,hi,hj,hn=>by
  simp only [List.getElem?_cons_zero,Option.some.injEq] at hi
  subst hi
  obtain ⟨G,b,hG,_⟩ :=wM o (by simpa using hj)
  exact ⟨_,_,a,b,d G (List.mem_of_getElem? hG)⟩
 | _,_,i+1,0,A,B,.cons a d o,hi,hj,hn=>by
  simp only [List.getElem?_cons_zero,Option.some.injEq] at hj
  subst hj
  obtain ⟨G,b,hG,_⟩ :=wM o (by simpa using hi)
  exact ⟨_,_,b,a,fun r h1 h2=>d G (List.mem_of_getElem? hG) r h2 h1⟩
 | _,_,i+1,j+1,A,B,.cons a d o,hi,hj,hn=>QP o (by simpa using hi) (by simpa using hj) (by omega)
end
def E1 {α:Type} (E:qd α) (r:Nat) (x:α):bQ where
 P:=fun h F=>Va E h r x∧∀q,F q↔q=r
 lt:=fun ⟨v,hf⟩ q hq=>by rw [hf] at hq; subst hq; exact v.lt
 loc:=fun ⟨v,hf⟩ c hd=>⟨v.ch c (hd r ((hf r).2 rfl)),hf⟩
def dA {α:Type} (E:qd α) (v:Value) (xs:List α):bQ where
 P:=fun h F=>Ow E h v xs∧∀q,F q↔s8 v=some q
 lt:=fun ⟨o,hf⟩ q hq=>by rw [hf] at hq; exact o.lt hq
 loc:=fun ⟨o,hf⟩ c hd=>⟨o.ch c fun r hr=>hd r ((hf r).2 hr),hf⟩
def DT {α:Type} (ik:IntKind) (E:α→Value) (v:Value) (ps:List (Int × α)):bQ where
 P:=fun h F=>Mp ik E h v ps∧∀q,F q↔Bw v=some q
 lt:=fun ⟨o,hf⟩ q hq=>by rw [hf] at hq; exact o.lt hq
 loc:=fun ⟨o,hf⟩ c hd=>⟨o.ch c fun r hr=>hd r ((hf r).2 hr),hf⟩
section
variable {F0:Fp} {h0 h h':Hp} {L:List bQ}
theorem Cx.nw {α:Type} (E:qd α) (x:α) (c:Cx F0 h0 h L) {cs:Array Value} {e:TypeId} (hc:cs.toList=E.c x) {k:Value→Hp→Prop}
  (hk:∀r h',Cx F0 h0 h' (L++[E1 E r x])→k (cA r) h'):Eb (En.nw cs e h) k:=
 eb rfl (hk h.size _ (c.add (F':=fun q=>q=h.size) ⟨Va.new hc,fun _=>Iff.rfl⟩ (Ch.push _ _) fun r e=>by omega))
theorem Cx.va {α:Type} {E:qd α} {r i:Nat} {x:α} (c:Cx F0 h0 h L) (hi:L[i]?=some (E1 E r x)):Va E h r x:=let ⟨_,p,_⟩ :=c.get hi; p
theorem Cx.sl {α:Type} {E:qd α} {v:Value} {i:Nat} {xs:List α} (c:Cx F0 h0 h L) (hi:L[i]?=some (dA E v xs)):Ow E h v xs:=let ⟨_,p,_⟩ :=c.get hi; p
theorem Cx.mp {α:Type} {ik:IntKind} {E:α→Value} {v:Value} {i:Nat} {ps:List (Int × α)} (c:Cx F0 h0 h L) (hi:L[i]?=some (DT ik E v ps)):Mp ik E h v ps:=let ⟨_,p,_⟩ :=c.get hi; p
theorem sF {F:Fp} {a b:Hp} (c:Ch F a b):Mv F a F b:=⟨c,fun _ e=>.inl e⟩
theorem Cx.aQ {α:Type} {E:qd α} {r:Nat} {x:α} (c:Cx F0 h0 h L) (i:Nat) (hi:L[i]?=some (E1 E r x)) (y:α) {n:Nat} (hn:n=E.n) {w:Value} (hw:w=.agg ⟨E.c y⟩) {k:Hp→Prop}
  (hk:∀h',Cx F0 h0 h' (L.set i (E1 E r y))→k h'):Sb (En.aQ n (cA r) w h) k:=by
 obtain ⟨F,⟨v,hf⟩,f⟩ :=c.Nz hi
 exact v.aQ y hn hw fun h' v' ch=>hk h' (f (F':=F) ⟨v',hf⟩ (sF (ch.mono fun q _ e=>(hf q).2 e)))
end
section
variable {F0:Fp} {h0 h h':Hp} {L:List bQ} {A B:bQ}
theorem uy:∀{L M:List bQ} {Fs Gs:List Fp},B9 h L Fs→B9 h M Gs→(∀F∈Fs,∀G∈Gs,∀r,F r→¬G r)→B9 h (L++M) (Fs++Gs)
 | _,_,_,_,.nil,o,_=>o
 | _,_,_,_,.cons a d o',o,x=>by
  refine .cons a (fun G hG r hr hG2=>?_) (uy o' o fun F hF G hG=>x F (List.mem_cons_of_mem _ hF) G hG)
  rcases List.mem_append.1 hG with h | h
  ·exact d G h r hr hG2
  ·exact x _ (List.mem_cons_self ..) G h r hr hG2
theorem CO:∀{L M:List bQ} {Fs:List Fp},B9 h (L++M) Fs→∃Fa Fb,Fs=Fa++Fb∧B9 h L Fa∧B9 h M Fb∧∀F∈Fa,∀G∈Fb,∀r,F r→¬G r
 | [],M,Fs,o=>⟨[],Fs,rfl,.nil,o,fun F hF=>by cases hF⟩
 | A::L,M,_,.cons a d o=>by
  obtain ⟨Fa,Fb,rfl,o1,o2,x⟩ :=CO (L:=L) o
  refine ⟨_::Fa,Fb,rfl,.cons a (fun G hG=>d G (List.mem_append_left _ hG)) o1,o2,fun F hF G hG=>?_⟩
  rcases List.mem_cons.1 hF with rfl | hF
  ·exact d G (List.mem_append_right _ hG)
  ·exact x F hF G hG
theorem Cx.O6 (c:Cx F0 h0 h L) {i:Nat} (hi:L[i]?=some A):∃F,Cx F h h [A]∧(∀r,F r→F0 r∨h0.size≤r)∧(∀(j:Nat) (B:bQ),i≠j→L[j]?=some B→∃G,B.P h G∧∀r,F r→¬G r)∧∀{h':Hp} {A':bQ} {M:List bQ},Cx F h h' (A'::M)→Cx F0 h0 h' (L.set i A'++M):=by
 obtain ⟨Fs,o,g,k⟩ :=c
 obtain ⟨F,a,hF,f⟩ :=wM o hi
 have hmF:=List.mem_of_getElem? hF
 refine ⟨F,Cx.start a,k F hmF,fun j B hij hj=>?_,fun {h' A' M} c'=>?_⟩
 ·obtain ⟨G,b,hG,_⟩ :=wM o hj
  exact ⟨G,b,own_apart o hF hG hij⟩
 obtain ⟨Gs,o',g',k'⟩ :=c'
 cases o' with
 | cons a' d' o'=>
  rename_i F' Gs
  have hgrow:∀r,F' r→F r∨h.size≤r:=fun r hr=>k' F' (List.mem_cons_self ..) r hr
  have o1:=f a' ⟨g',hgrow⟩
  have hlt:=o.lt
  refine ⟨_,uy o1 o' fun X hX G hG r hr hG2=>?_,?_,fun G hG r hr=>?_⟩
  ·rcases k' G (List.mem_cons_of_mem _ hG) r hG2 with h1 | h1
   ·
    rcases List.mem_or_eq_of_mem_set hX with h2 | h2
    ·
     obtain ⟨j,hj,rfl⟩ :=List.mem_iff_getElem.1 hX
     rw [List.getElem_set] at hr
     split at hr
     ·exact d' G hG r hr hG2
     ·rename_i hne
      have hj':j<Fs.length:=by simpa using hj
      exact own_apart o hF (List.getElem?_eq_getElem hj') hne r h1 hr
    ·subst h2; exact d' G hG r hr hG2
   ·rcases List.mem_or_eq_of_mem_set hX with h2 | h2
    ·have:=hlt X h2 r hr; omega
    ·subst h2; exact d' G hG r hr hG2
  ·refine ⟨Nat.le_trans g.size g'.size,fun r hr hn=>?_⟩
   rw [g'.same r (Nat.lt_of_lt_of_le hr g.size) (fun e=>(k F hmF r e).elim hn (fun x=>by omega)),g.same r hr hn]
  ·have fin:F r∨h.size≤r→F0 r∨h0.size≤r:=fun e=>e.elim (k F hmF r) fun e=>.inr (Nat.le_trans g.size e)
   rcases List.mem_append.1 hG with h1 | h1
   ·rcases List.mem_or_eq_of_mem_set h1 with h2 | h2
    ·exact k G h2 r hr
    ·subst h2; exact fin (hgrow r hr)
   ·exact fin (k' G (List.mem_cons_of_mem _ h1) r hr)
where
 own_apart:∀{L:List bQ} {Fs:List Fp} {h:Hp} {i j:Nat} {F G:Fp},B9 h L Fs→Fs[i]?=some F→Fs[j]?=some G→i≠j→∀r,F r→¬G r
  | _,_,_,i,_,_,_,.nil,hi,_,_=>by simp at hi
  | _,_,_,0,0,_,_,.cons ..,_,_,hn=>absurd rfl hn
  | _,_,_,0,j+1,F,G,.cons a d o,hi,hj,hn=>by
   simp only [List.getElem?_cons_zero,Option.some.injEq] at hi
   subst hi
   exact d G (List.mem_of_getElem? (by simpa using hj))
  | _,_,_,i+1,0,F,G,.cons a d o,hi,hj,hn=>by
   simp only [List.getElem?_cons_zero,Option.some.injEq] at hj
   subst hj
   exact fun r h1 h2=>d F (List.mem_of_getElem? (by simpa using hi)) r h2 h1
  | _,_,_,i+1,j+1,F,G,.cons a d o,hi,hj,hn=>own_apart o (by simpa using hi) (by simpa using hj) (by omega)
theorem Cx.aE (c:Cx F0 h0 h L) {M:List bQ} (c':Cx (fun _=>False) h h' M):Cx F0 h0 h' (L++M):=by
 obtain ⟨Fs,o,g,k⟩ :=c
 obtain ⟨Gs,o',g',k'⟩ :=c'
 refine ⟨_,uy (o.loc g' fun _ _ _ _ e=>e) o' fun X hX G hG r hr hG2=>?_,?_,fun G hG r hr=>?_⟩
 ·have:=o.lt X hX r hr
  rcases k' G hG r hG2 with h1 | h1
  ·exact h1
  ·omega
 ·exact ⟨Nat.le_trans g.size g'.size,fun r hr hn=>by rw [g'.same r (Nat.lt_of_lt_of_le hr g.size) (fun e=>e),g.same r hr hn]⟩
 ·rcases List.mem_append.1 hG with h1 | h1
  ·exact k G h1 r hr
  ·rcases k' G h1 r hr with h2 | h2
   ·exact h2.elim
   ·exact .inr (Nat.le_trans g.size h2)
def aG (L:List bQ):bQ where
 P:=fun h F=>∃Fs,B9 h L Fs∧∀q,F q↔∃G∈Fs,G q
 lt:=fun ⟨Fs,o,hf⟩ q hq=>by
  obtain ⟨G,hG,hq⟩ :=(hf q).1 hq
  exact o.lt G hG q hq
 loc:=fun ⟨Fs,o,hf⟩ c hd=>⟨Fs,o.loc c fun G hG r hr=>hd r ((hf r).2 ⟨G,hG,hr⟩),hf⟩
theorem Cx.star {F:Fp} (a:(aG L).P h F):Cx F h h L:=by
 obtain ⟨Fs,o,hf⟩ :=a
 exact ⟨Fs,o,.refl _ _,fun G hG r hr=>.inl ((hf r).2 ⟨G,hG,hr⟩)⟩
theorem Cx.NW {F:Fp} (c:Cx F h0 h L):∃F',(aG L).P h F'∧Mv F h0 F' h:=by
 obtain ⟨Fs,o,g,k⟩ :=c
 exact ⟨fun q=>∃G∈Fs,G q,⟨Fs,o,fun _=>Iff.rfl⟩,g,fun r ⟨G,hG,hr⟩ =>k G hG r hr⟩
theorem Oz {L L':List bQ} (s:L.Perm L'):∀{Fs:List Fp},B9 h L Fs→∃Fs',B9 h L' Fs'∧Fs.Perm Fs':=by
 induction s with
 | nil=>intro Fs o; exact ⟨Fs,o,.refl _⟩
 | cons A _ ih=>
  intro Fs o
  cases o with
  | cons a d o=>
   obtain ⟨Fs',o',hp⟩ :=ih o
   exact ⟨_,.cons a (fun G hG=>d G (hp.mem_iff.2 hG)) o',hp.cons _⟩
 | swap A B l=>
  intro Fs o
  cases o with
  | cons a d o=>
   cases o with
   | cons b e o=>
    exact ⟨_,.cons b (fun G hG r h1 h2=>by
     rcases List.mem_cons.1 hG with rfl | hG
     ·exact d _ (List.mem_cons_self ..) r h2 h1
     ·exact e G hG r h1 h2) (.cons a (fun G hG=>d G (List.mem_cons_of_mem _ hG)) o),.swap ..⟩
 | trans _ _ ih1 ih2=>
  intro Fs o
  obtain ⟨F1,o1,p1⟩ :=ih1 o
  obtain ⟨F2,o2,p2⟩ :=ih2 o1
  exact ⟨F2,o2,p1.trans p2⟩
theorem Cx.perm {L':List bQ} (c:Cx F0 h0 h L) (s:L.Perm L'):Cx F0 h0 h L':=by
 obtain ⟨Fs,o,g,k⟩ :=c
 obtain ⟨Fs',o',hp⟩ :=Oz s o
 exact ⟨Fs',o',g,fun G hG=>k G (hp.mem_iff.2 hG)⟩
theorem Cx.pack {M:List bQ} (c:Cx F0 h0 h (L++M)):Cx F0 h0 h (L++[aG M]):=by
 obtain ⟨Fs,o,g,k⟩ :=c
 obtain ⟨Fa,Fb,rfl,o1,o2,x⟩ :=CO o
 refine ⟨Fa++[fun q=>∃G∈Fb,G q],uy o1 (.cons ⟨Fb,o2,fun _=>Iff.rfl⟩ (fun _ hG=>by cases hG) .nil) fun F hF G hG r hr hG2=>?_,g,fun G hG r hr=>?_⟩
 ·simp only [List.mem_singleton] at hG
  subst hG
  obtain ⟨G,hG,hG2⟩ :=hG2
  exact x F hF G hG r hr hG2
 ·rcases List.mem_append.1 hG with h1 | h1
  ·exact k G (List.mem_append_left _ h1) r hr
  ·simp only [List.mem_singleton] at h1
   subst h1
   obtain ⟨G,hG,hr⟩ :=hr
   exact k G (List.mem_append_right _ hG) r hr
theorem HW {Fs:List Fp} (o:B9 h L Fs):∀(idx:List Nat),idx.Nodup→∃Fs',B9 h (idx.filterMap (L[·]?)) Fs'∧∀G∈Fs',∃i∈idx,Fs[i]?=some G
 | [],_=>⟨[],.nil,fun G hG=>by cases hG⟩
 | i::idx,hn=>by
  obtain ⟨hi,hn⟩ :=List.nodup_cons.1 hn
  obtain ⟨Fs',o',hs⟩ :=HW o idx hn
  rw [List.filterMap_cons]
  cases hA:L[i]? with
  | none=>exact ⟨Fs',o',fun G hG=>let ⟨j,hj,e⟩ :=hs G hG; ⟨j,List.mem_cons_of_mem _ hj,e⟩⟩
  | some A=>
   obtain ⟨F,a,hF,_⟩ :=wM o hA
   refine ⟨F::Fs',.cons a (fun G hG=>?_) o',fun G hG=>?_⟩
   ·obtain ⟨j,hj,e⟩ :=hs G hG
    exact Cx.O6.own_apart o hF e fun e=>hi (e▸hj)
   ·rcases List.mem_cons.1 hG with rfl | hG
    ·exact ⟨i,List.mem_cons_self ..,hF⟩
    ·obtain ⟨j,hj,e⟩ :=hs G hG
     exact ⟨j,List.mem_cons_of_mem _ hj,e⟩
theorem Cx.pick (c:Cx F0 h0 h L) (idx:List Nat) (hn:idx.Nodup:=by decide):Cx F0 h0 h (idx.filterMap (L[·]?)):=by
 obtain ⟨Fs,o,g,k⟩ :=c
 obtain ⟨Fs',o',hs⟩ :=HW o idx hn
 exact ⟨Fs',o',g,fun G hG=>let ⟨_,_,e⟩ :=hs G hG; k G (List.mem_of_getElem? e)⟩
end
end Go.En
namespace Go.En
abbrev Nf (z:Int):Prop:=-9223372036854775808≤z∧z≤9223372036854775807
def BA (z:Int):Int:=IntKind.i64.wrap z
theorem T9 (z:Int):Nf (BA z):=by unfold BA; rw [IntKind.wrap_i64]; omega
theorem qo (a b:Int):bin .add (.int .i64 a) (.int .i64 b)=some (.int .i64 (BA (a+b))):=DQ
structure W3 where
 v:Int
 dN:Int
 ref:Int
def EW:qd W3:={n:=3,c:=fun w=>[.int .i64 w.v,.int .u32 w.dN,.int .u32 w.ref],len:=fun _=>rfl,one:=fun a v h=>by simp only [List.mem_cons,List.not_mem_nil,or_false] at h; rcases h with rfl | rfl | rfl <;> rfl}
def mW (w:W3):Value:=.agg #[.int .i64 w.v,.int .u32 w.dN,.int .u32 w.ref]
abbrev W0:W3:=⟨0,0,0⟩
def yh:qd Int:={n:=1,c:=fun i=>[.int .i64 i],len:=fun _=>rfl,one:=fun a v h=>by simp only [List.mem_singleton] at h; subst h; rfl}
def V6:qd Bool:={n:=1,c:=fun i=>[.bool i],len:=fun _=>rfl,one:=fun a v h=>by simp only [List.mem_singleton] at h; subst h; rfl}
def DL:qd (Int × Int):={n:=2,c:=fun o=>[.int .i64 o.1,.int .i64 o.2],len:=fun _=>rfl,one:=fun a v h=>by simp only [List.mem_cons,List.not_mem_nil,or_false] at h; rcases h with rfl | rfl <;> rfl}
section
variable {S:Sys} {h h0 h':Hp} {F F0:Fp} {R:Value→Hp→Prop} {L M:List bQ}
theorem Cx.CZ {α:Type} {F0:Fp} {L:List bQ} {E:α→Value} {v:Value} {ps:List (Int × α)} (c:Cx F0 h0 h L) (i:Nat) (hi:L[i]?=some (DT .i64 E v ps)) (k:Int) (x:α) {w:Value} (hw:w=E x) {K:Hp→Prop}
  (hK:∀h',Cx F0 h0 h' (L.set i (DT .i64 E v (r8 ps k x)))→K h'):Sb (En.CZ (.int .i64) v (.int .i64 k) w h) K:=by
 obtain ⟨F,⟨m,hf⟩,up⟩ :=c.Nz hi
 exact m.CZ k x hw fun h' m' ch=>hK h' (up (F':=F) ⟨m',hf⟩ (sF (ch.mono fun q _ e=>(hf q).2 e)))
def rIt {α:Type} (ik:IntKind) (E:α→Value) (r m:Nat) (ps:List (Int × α)) (D:List Nat):bQ where
 P:=fun h F=>It ik E h r m ps D∧∀q,F q↔q=r∨q=m
 lt:=fun {h F} ⟨o,hf⟩ q hq=>by
  obtain ⟨es,clock,h1,h2,h3⟩ :=o.ex
  rcases (hf q).1 hq with rfl | rfl
  ·exact (Array.getElem?_eq_some_iff.mp h3).1
  ·exact (Array.getElem?_eq_some_iff.mp h1).1
 loc:=fun {h h' F D'} ⟨o,hf⟩ c hd=>by
  obtain ⟨es,clock,h1,h2,h3⟩ :=o.ex
  refine ⟨⟨⟨es,clock,?_,h2,?_⟩,o.nodup,o.lt,o.ne⟩,hf⟩
  ·rw [c.same m (Array.getElem?_eq_some_iff.mp h1).1 (hd m ((hf m).2 (.inr rfl)))]; exact h1
  ·rw [c.same r (Array.getElem?_eq_some_iff.mp h3).1 (hd r ((hf r).2 (.inl rfl)))]; exact h3
section
variable {α:Type} {ik:IntKind} {E:α→Value} {v:Value} {ps:List (Int × α)} {D:List Nat} {r m:Nat}
theorem Cx.next (c:Cx F0 h0 h L) (i:Nat) (hi:L[i]?=some (rIt ik E r m ps D)) {k:Value→Hp→Prop} (h0':(∀j,j<ps.length→j∈D)→Cx F0 h0 h (L.set i (DT ik E (.map (some m)) ps))→k (.tuple #[.bool false]) h)
  (h1:∀j p h',ps[j]?=some p→j∉D→Cx F0 h0 h' (L.set i (rIt ik E r m ps (D++[j])))→zA (cA r) h'=some (.tuple #[.int ik p.1,E p.2])→k (.tuple #[.bool true,.int ik p.1,E p.2]) h'):Nx (cA r) h k:=by
 obtain ⟨F,⟨o,hf⟩,up⟩ :=c.Nz hi
 refine o.next (fun hall=>h0' hall (up (F':=fun q=>q=m) ⟨o.mp,fun q=>by simp [Bw,eq_comm]⟩ ⟨.refl _ _,fun q hq=>.inl ((hf q).2 (.inr hq))⟩)) fun j p h' hp hj it ch he=>h1 j p h' hp hj (up (F':=F) ⟨it,hf⟩ (sF (ch.mono fun q _ e=>(hf q).2 (.inl e)))) he
theorem Cx.MZ {β:Type} (ik:IntKind) (E:β→Value) (c:Cx F0 h0 h L) {k:Value→Hp→Prop} (hk:∀m h',Cx F0 h0 h' (L++[DT ik E (.map (some m)) []])→k (.map (some m)) h'):Eb (En.MZ h) k:=
 eb rfl (hk _ _ (c.add (F':=fun q=>q=h.size) ⟨Mp.new,fun q=>by simp [Bw,eq_comm]⟩ (Ch.push _ _) fun r e=>by omega))
end
def I5 (r:Nat) (ob:Obj):bQ where
 P:=fun h F=>h[r]?=some ob∧∀q,F q↔q=r
 lt:=fun {h F} ⟨v,hf⟩ q hq=>by rw [hf] at hq; subst hq; exact (Array.getElem?_eq_some_iff.mp v).1
 loc:=fun {h h' F D} ⟨v,hf⟩ c hd=>⟨by rw [c.same r (Array.getElem?_eq_some_iff.mp v).1 (hd r ((hf r).2 rfl))]; exact v,hf⟩
theorem Cx.obj {i r:Nat} {ob:Obj} (c:Cx F0 h0 h L) (hi:L[i]?=some (I5 r ob)):h[r]?=some ob:=let ⟨_,p,_⟩ :=c.get hi; p
theorem Cx.La (c:Cx F0 h0 h L) (ob:Obj):Cx F0 h0 (h.push ob) (L++[I5 h.size ob]):=
 c.add (F':=fun q=>q=h.size) ⟨by simp,fun _=>Iff.rfl⟩ (Ch.push _ _) fun r e=>by omega
theorem Cx.jE {α:Type} (E:qd α) (x:α) (c:Cx F0 h0 h L) {e:TypeId} {zero:Array Value} {n:Nat} {w:Value} {k:Value→Hp→Prop} (hn:n=E.n) (hw:w.cells.toList=E.c x)
  (hk:∀u h',Cx F0 h0 h' (L++[dA E u [x]])→k u h'):Eb (pb zero n 1 e [(0,w)] h) k:=by
 refine eb (JN (us:=[w]) rfl rfl (fun u hu=>by simp only [List.mem_singleton] at hu; subst hu; rw [hn,←E.len x,←hw]; rfl)) (hk _ _ (c.add (F':=fun q=>q=h.size) ⟨Ow.lit (xs:=[x]) (by simp [hw]) rfl,fun q=>by simp [s8,eq_comm]⟩ (Ch.push _ _) fun r e=>by omega))
theorem Cx.Jc {α:Type} (E:qd α) (c:Cx F0 h0 h L) {e:TypeId} {zero:Array Value} {n:Nat} {k:Value→Hp→Prop}
  (hk:∀u h',Cx F0 h0 h' (L++[dA E u []])→k u h'):Eb (pb zero n 0 e [] h) k:=by
 refine eb (JN (us:=[]) rfl rfl (fun u hu=>by cases hu)) (hk _ _ (c.add (F':=fun q=>q=h.size) ⟨Ow.lit (xs:=([]:List α)) (by simp) rfl,fun q=>by simp [s8,eq_comm]⟩ (Ch.push _ _) fun r e=>by omega))
theorem Cx.ap {α:Type} {E:qd α} {v:Value} {xs ys:List α} (c:Cx F0 h0 h L) (i:Nat) (hi:L[i]?=some (dA E v xs)) {x:Value} (hx:Sl E h x ys) {e:TypeId} {zero:Array Value} {n bytes:Nat} {k:Value→Hp→Prop}
  (hn:n=E.n) (hz:zero.size=E.n) (hb:(xs.length+ys.length)*bytes≤140737488355328) (hl:xs.length+ys.length≤9223372036854775807)
  (hk:∀v' h',Cx F0 h0 h' (L.set i (dA E v' (xs++ys)))→k v' h'):Ap e zero n bytes v x h k:=by
 obtain ⟨F,⟨o,hf⟩,up⟩ :=c.Nz hi
 refine apw o hx hn hz hb hl fun v' h' o' ch nw=>hk v' h' (up (F':=fun q=>s8 v'=some q) ⟨o',fun _=>Iff.rfl⟩ ⟨ch.mono fun q _ e=>(hf q).2 e,fun r hr=>?_⟩)
 rcases nw r hr with h1 | h1
 ·exact .inl ((hf r).2 h1)
 ·exact .inr h1
theorem Cx.X5 {α:Type} (E:qd α) (xs:List α) (us:List Value) (c:Cx F0 h0 h L) {e:TypeId} {zero:Array Value} {n len:Nat} {parts:List (Nat × Value)} {k:Value→Hp→Prop}
  (hp:parts=us.zipIdx.map fun x=>(x.2,x.1)) (hl:us.length=len) (hl2:xs.length=len) (hu:∀u,u∈us→u.cells.size=n) (hc:(us.flatMap fun u=>u.cells.toList)=xs.flatMap E.c)
  (hk:∀a h',Cx F0 h0 h' (L++[dA E (.slice (some a) len len) xs])→k (.slice (some a) len len) h'):Eb (pb zero n len e parts h) k:=
 eb (JN hp hl hu) (hk _ _ (c.add (F':=fun q=>q=h.size) ⟨Ow.lit hc hl2,fun q=>by simp [s8,eq_comm]⟩ (Ch.push _ _) fun r e=>by omega))
theorem Cx.nil {α:Type} (E:qd α) (c:Cx F0 h0 h L):Cx F0 h0 h (L++[dA E (.slice none 0 0) []]):=
 c.add (F':=fun _=>False) ⟨.nil,fun q=>by simp [s8]⟩ (.refl _ _) fun r e=>e.elim
theorem Wj {x y:Value} {k:Value→Prop} (hk:k x):Vb (ext 0 (.tuple #[x,y])) k:=by
 have e:ext 0 (.tuple #[x,y])=some x:=by rfl
 rw [e,bC]; exact hk
theorem Xh {x y:Value} {k:Value→Prop} (hk:k y):Vb (ext 1 (.tuple #[x,y])) k:=by
 have e:ext 1 (.tuple #[x,y])=some y:=by rfl
 rw [e,bC]; exact hk
theorem Cx.IL {α:Type} (E:qd α) (x0:α) (c:Cx F0 h0 h L) {zero:Array Value} {n:Nat} {size bytes:Nat} {e:TypeId} {z:Int} (hz:z=n) (h0':zero.toList=E.c x0) (hs:size=E.n) (hb:n≤1000000000) (hb2:bytes≤10000) {k:Value→Hp→Prop}
  (hk:∀a h',Cx F0 h0 h' (L++[dA E (.slice (some a) n n) (List.replicate n x0)])→k (.slice (some a) n n) h'):Eb (J9 zero size bytes e (.int .i64 z) (.int .i64 z) h) k:=by
 subst hz
 refine Qm h0' hs hb hb2 fun h' o g hsz=>hk _ h' (c.add (F':=fun q=>q=h.size) ⟨o,fun q=>by simp [s8,eq_comm]⟩ g fun r e=>by omega)
end
section
variable {F0:Fp} {h0 h h':Hp} {L M:List bQ}
theorem Cx.unpack (c:Cx F0 h0 h (L++[aG M])):Cx F0 h0 h (L++M):=by
 obtain ⟨Fs,o,g,k⟩ :=c
 obtain ⟨Fa,Fb,rfl,o1,o2,x⟩ :=CO o
 cases o2 with
 | cons a d o2=>
  cases o2
  rename_i F
  obtain ⟨Gs,o3,hf⟩ :=a
  refine ⟨Fa++Gs,uy o1 o3 fun X hX G hG r hr hG2=>?_,g,fun G hG r hr=>?_⟩
  ·exact x X hX F (List.mem_cons_self ..) r hr ((hf r).2 ⟨G,hG,hG2⟩)
  ·rcases List.mem_append.1 hG with h1 | h1
   ·exact k G (List.mem_append_left _ h1) r hr
   ·exact k F (List.mem_append_right _ (List.mem_cons_self ..)) r ((hf r).2 ⟨G,h1,hr⟩)
end
theorem qV {a b:Int} (h:Nf (a+b)):bin .add (.int .i64 a) (.int .i64 b)=some (.int .i64 (a+b)):=by rw [DQ,EZ h]
theorem nj {a b:Int} (h:Nf (a - b)):bin .sub (.int .i64 a) (.int .i64 b)=some (.int .i64 (a - b)):=by rw [RS,EZ h]
theorem EF {a b:Int} (ha:0≤a∧a≤9223372036854775807) (hb:0<b):bin .quo (.int .i64 a) (.int .i64 b)=some (.int .i64 (a / b)):=by
 have h1:=Int.ediv_nonneg ha.1 (Int.le_of_lt hb)
 have h2:=Int.ediv_le_self b ha.1
 rw [RY (by omega),Int.tdiv_eq_ediv_of_nonneg ha.1,EZ ⟨by omega,by omega⟩]
theorem Fu {k:IntKind} {a b:Int} (ha:0≤a) (hb:0<b):bin .rem (.int k a) (.int k b)=some (.int k (a % b)):=by
 rw [Qk (by omega),Int.tmod_eq_emod_of_nonneg ha]
theorem eqI {k:IntKind} (a:Int):bin .eql (.int k a) (.int k a)=some (.bool true):=by rw [iQ]; simp
theorem Nu {α:Type} {E:qd α} {e:TypeId} {zero:Array Value} {n bytes:Nat} {a:Option Addr} {x:Value} {h:Hp} {xs ys:List α} {k:Value→Hp→Prop}
  (hs:Sl E h (.slice a xs.length xs.length) xs) (hpos:0<ys.length) (hx:Sl E h x ys) (hn:n=E.n) (hz:zero.size=E.n) (hb:(xs.length+ys.length)*bytes≤140737488355328) (hl:xs.length+ys.length≤9223372036854775807)
  (hk:∀v h',Ow E h' v (xs++ys)→Gr h h'→s8 v=some h.size→k v h'):Ap e zero n bytes (.slice a xs.length xs.length) x h k:=by
 obtain ⟨xa,xc,ex,hxc,hxn,hxr⟩ :=id hx
 have hxrow:=hx.row rfl
 subst hn
 have hsl:=hs
 have hsrow:=hsl.row rfl
 have grow:∀cap,xs.length+ys.length≤cap→k (.slice (some ⟨h.size,0,none⟩) (xs.length+ys.length) cap) (h.push (.cells ((xs.flatMap E.c).toArray++(ys.flatMap E.c).toArray++Builtin.zeroCells zero (cap - (xs.length+ys.length))) e)):=by
  intro cap hcap
  refine hk _ _ (.inr ⟨h.size,0,cap,by simp,by simpa using hcap,by simp,fun i y hy=>?_,fun j hj=>?_⟩) (Ch.push h _) rfl
  ·intro j u hu
   have hfl:((xs++ys).flatMap E.c)[i*E.n+j]?=some u:=by
    clear hk hx hxrow hsrow hsl hs hb hl hcap hxr hpos
    generalize xs++ys=zs at hy
    induction zs generalizing i with
    | nil=>simp at hy
    | cons z zs ih=>
     rw [List.flatMap_cons]
     cases i with
     | zero=>
      simp only [List.getElem?_cons_zero,Option.some.injEq] at hy
      subst hy
      rw [Nat.zero_mul,Nat.zero_add,List.getElem?_append_left (List.getElem?_eq_some_iff.mp hu).1]
      exact hu
     | succ i=>
      have:=ih i (by simpa using hy)
      rw [List.getElem?_append_right (by rw [E.len,Nat.succ_mul]; omega),E.len]
      have e2:(i+1)*E.n+j - E.n=i*E.n+j:=by rw [Nat.succ_mul]; omega
      rw [e2]; exact this
   have hlt:=(List.getElem?_eq_some_iff.mp hfl).1
   unfold cl
   simp only [Array.getElem?_push_size,Nat.zero_add]
   rw [Array.getElem?_append_left (by rw [List.flatMap_append,List.length_append] at hlt; simpa using hlt)]
   rw [List.flatMap_append] at hfl
   simpa using hfl
  ·unfold cl fz
   simp only [Array.getElem?_push_size,Nat.zero_add]
   refine ⟨?_,by simp⟩
   have:j<((xs.flatMap E.c).toArray++(ys.flatMap E.c).toArray++Builtin.zeroCells zero (cap - (xs.length+ys.length))).size:=by
    have h1:=ry E xs
    have h2:=ry E ys
    simp only [Array.size_append,List.size_toArray,yI,hz,h1,h2]
    have:cap=xs.length+ys.length+(cap - (xs.length+ys.length)):=by omega
    rw [this,Nat.add_mul,Nat.add_mul] at hj
    exact hj
   rw [Array.getElem?_eq_getElem this]; rfl
 exact ⟨a,xs.length,xs.length,xa,ys.length,xc,_,rfl,ex,hxrow,fun hle=>by omega,fun _=>⟨hb,hl,_,hsrow,fun cap hc _=>grow cap hc⟩⟩
theorem Sl.clip {α:Type} {E:qd α} {h:Hp} {v:Value} {xs:List α} (H:Sl E h v xs) {n:Nat} (hn:n=E.n) {k k':IntKind} {z:Int} {u:Nat} (hz:z=u) (h2:u≤xs.length) :
  ∃a,vR n v none (some (.int k z)) (some (.int k' z))=some (.slice a (xs.take u).length (xs.take u).length)∧Sl E h (.slice a (xs.take u).length (xs.take u).length) (xs.take u):=by
 subst hz
 obtain ⟨a,cap,rfl,h3,h4,h5⟩ :=H
 have hl:(xs.take u).length=u:=by rw [List.length_take]; omega
 have hc:u≤cap:=Nat.le_trans h2 h3
 refine ⟨if u=0 then a else a.map (·.add (0*n)),?_,?_⟩
 ·rw [hl]
  simp [vR,Nb,Pm,Kl,Ft,Tt,MM,hc]
 ·refine ⟨_,u,by rw [hl],by omega,fun e=>?_,fun i x hx=>?_⟩
  ·split at e
   ·rename_i h0; exact h0
   ·rename_i h0
    obtain ⟨r,o,ea,_⟩ :=h5 0 (xs[0]'(by omega)) (List.getElem?_eq_getElem (by omega))
    rw [ea] at e
    cases e
  ·have hlt:=(List.getElem?_eq_some_iff.mp hx).1
   rw [hl] at hlt
   rw [List.getElem?_take_of_lt hlt] at hx
   obtain ⟨r,o,ea,hr⟩ :=h5 i x hx
   refine ⟨r,o,?_,hr⟩
   rw [if_neg (by omega),ea]
   simp [Ds]
theorem Cx.Nu {α:Type} {E:qd α} {F0:Fp} {h h0:Hp} {L:List bQ} {a:Option Addr} {xs ys:List α} {x:Value} {e:TypeId} {zero:Array Value} {n bytes:Nat} {k:Value→Hp→Prop} (c:Cx F0 h0 h L)
  (hs:Sl E h (.slice a xs.length xs.length) xs) (hx:Sl E h x ys) (hpos:0<ys.length) (hn:n=E.n) (hz:zero.size=E.n) (hb:(xs.length+ys.length)*bytes≤140737488355328) (hl:xs.length+ys.length≤9223372036854775807)
  (hk:∀v' h',Cx F0 h0 h' (L++[dA E v' (xs++ys)])→k v' h'):Ap e zero n bytes (.slice a xs.length xs.length) x h k:=
 En.Nu hs hpos hx hn hz hb hl fun v' h' o g hbk=>hk v' h' (c.add (F':=fun q=>s8 v'=some q) ⟨o,fun _=>Iff.rfl⟩ g fun r e=>by rw [hbk] at e; injection e with e; omega)
theorem Ow.Ni {α:Type} {E:qd α} {h:Hp} {v s:Value} {xs ys:List α} (H:Ow E h v xs) (Hs:Sl E h s ys) (hl:ys.length=xs.length) {n:Nat} (hn:n=E.n):∃h',En.Ni n v s h=some (.int .i64 ys.length,h')∧Ow E h' v ys∧Ch (fun r=>s8 v=some r) h h':=by
 subst hn
 have wJ:=Hs.row rfl
 obtain ⟨sa,sc,es,hre⟩ :=id Hs
 rcases H with ⟨rfl,rfl⟩ | ⟨r,o,cap,rfl,hcap,hr,hrw,hw⟩
 ·have:ys=[]:=List.length_eq_zero_iff.mp hl
  subst this
  refine ⟨h,?_,.inl ⟨rfl,rfl⟩,.refl _ _⟩
  rw [es] at wJ⊢
  simp only [List.length_nil,Nat.zero_mul] at wJ
  simp [En.Ni,wJ]
 ·obtain ⟨h',e1,up⟩ :=wg (r:=r) (o:=o) (ys.flatMap E.c) 0 h (fun u hu=>by
    obtain ⟨y,_,hy⟩ :=List.mem_flatMap.mp hu
    exact E.one y u hy) (fun j hj=>by
    rw [ry] at hj
    have:=hw j (by
     have:ys.length*E.n≤cap*E.n:=Nat.mul_le_mul_right _ (by omega)
     omega)
    rw [Nat.add_zero]; exact this)
  refine ⟨h',?_,.inr ⟨r,o,cap,by rw [hl],by omega,by rw [up.size]; exact hr,fun i y hy j u hu=>?_,fun j hj=>?_⟩,up.ch.mono fun x _ e=>by subst e; rfl⟩
  ·rw [es] at wJ⊢
   have hm:Nat.min ys.length xs.length=ys.length:=by rw [hl]; exact Nat.min_self _
   simp only [En.Ni,hm,wJ,Option.bind_some,e1]
  ·have hj:j<E.n:=by have:=(List.getElem?_eq_some_iff.mp hu).1; rwa [E.len] at this
   have hfl:(ys.flatMap E.c)[i*E.n+j]?=some u:=by
    clear wJ es up e1 hl Hs hre
    induction ys generalizing i with
    | nil=>simp at hy
    | cons z zs ih=>
     rw [List.flatMap_cons]
     cases i with
     | zero=>
      simp only [List.getElem?_cons_zero,Option.some.injEq] at hy
      subst hy
      rw [Nat.zero_mul,Nat.zero_add,List.getElem?_append_left (by rw [E.len]; exact hj)]
      exact hu
     | succ q=>
      have:=ih q (by simpa using hy)
      rw [List.getElem?_append_right (by rw [E.len,Nat.succ_mul]; omega),E.len]
      have e2:(q+1)*E.n+j - E.n=q*E.n+j:=by rw [Nat.succ_mul]; omega
      rw [e2]; exact this
   have:=up.put _ _ hfl
   have hh:o+i*E.n+j=o+0+(i*E.n+j):=by omega
   rw [hh]; exact this
  ·exact ⟨up.some (hw j hj).1,by rw [up.fz]; exact (hw j hj).2⟩
theorem Cx.Ni {α:Type} {E:qd α} {F0:Fp} {h h0:Hp} {L:List bQ} {v s:Value} {xs ys:List α} (c:Cx F0 h0 h L) (i:Nat) (hi:L[i]?=some (dA E v xs)) (Hs:Sl E h s ys) (hl:ys.length=xs.length) {n:Nat} (hn:n=E.n) {k:Value→Hp→Prop}
  (hk:∀h',Cx F0 h0 h' (L.set i (dA E v ys))→k (.int .i64 ys.length) h'):Eb (En.Ni n v s h) k:=by
 obtain ⟨F,⟨o,hf⟩,up⟩ :=c.Nz hi
 obtain ⟨h',e,o',ch⟩ :=o.Ni Hs hl hn
 exact En.eb e (hk h' (up (F':=F) ⟨o',hf⟩ (sF (ch.mono fun q _ e=>(hf q).2 e))))
theorem Cx.D7 {α:Type} {E:qd α} {F0:Fp} {h h0:Hp} {L:List bQ} {v:Value} {xs:List α} (c:Cx F0 h0 h L) (i:Nat) (hi:L[i]?=some (dA E v xs)) {j:Nat} (hj:j<xs.length) (y:α) {n:Nat} (hn:n=E.n) {q:IntKind} {z:Int} (hz:z=j) {w:Value} (hw:w=.agg ⟨E.c y⟩) {k:Hp→Prop}
  (hk:∀h',Cx F0 h0 h' (L.set i (dA E v (xs.set j y)))→k h'):Vb (lQ n v (.int q z)) fun p=>Sb (En.aQ n p w h) k:=by
 obtain ⟨F,⟨o,hf⟩,up⟩ :=c.Nz hi
 exact o.set hj y hn hz hw fun h' o' ch=>hk h' (up (F':=F) ⟨o',hf⟩ (sF (ch.mono fun q _ e=>(hf q).2 e)))
theorem Cx.II {α:Type} {E:qd α} {F0:Fp} {h h0:Hp} {L:List bQ} {v:Value} {xs:List α} {x:α} (c:Cx F0 h0 h L) (i:Nat) (hi:L[i]?=some (dA E v xs)) {p:Nat} (hx:xs[p]?=some x) (y:α) {n:Nat} (hn:n=E.n) {q:IntKind} {z:Int} (hz:z=p) {j:Nat} {w:Value} (hw:w.oneCell'=true) (hj:j<E.n) (hy:E.c y=(E.c x).set j w) {k:Hp→Prop}
  (hk:∀h',Cx F0 h0 h' (L.set i (dA E v (xs.set p y)))→k h'):Vb (lQ n v (.int q z)) fun p=>Vb (fa j p) fun p=>Sb (En.aQ 1 p w h) k:=by
 obtain ⟨F,⟨o,hf⟩,up⟩ :=c.Nz hi
 exact o.II hx y hn hz hw hj hy fun h' o' ch=>hk h' (up (F':=F) ⟨o',hf⟩ (sF (ch.mono fun q _ e=>(hf q).2 e)))
end Go.En
namespace Go.En
variable {h h0 h':Hp} {F F0:Fp} {L M:List bQ}
def fR (cs:List Value):Bool:=cs.all Value.oneCell'
theorem uq {cs:List Value} (h:fR cs=true) (v:Value) (hv:v∈cs):v.oneCell'=true:=List.all_eq_true.1 h v hv
abbrev Cells (n:Nat):Type:={cs:List Value // cs.length=n∧fR cs=true}
def VX (n:Nat):qd (Cells n):={n:=n,c:=fun x=>x.1,len:=fun x=>x.2.1,one:=fun x=>uq x.2.2}
def rV (r:Nat) (cs:List Value):bQ where
 P:=fun h F=>(∃ho:fR cs=true,Va (VX cs.length) h r ⟨cs,rfl,ho⟩)∧∀q,F q↔q=r
 lt:=fun ⟨⟨_,v⟩,hf⟩ q hq=>by rw [hf] at hq; subst hq; exact v.lt
 loc:=fun ⟨⟨ho,v⟩,hf⟩ c hd=>⟨⟨ho,v.ch c (hd r ((hf r).2 rfl))⟩,hf⟩
section
variable {r i o n:Nat} {cs:List Value}
theorem Cx.nv {a:Array Value} (c:Cx F0 h0 h L) {e:TypeId} (hl:a.toList=cs) (ho:fR cs=true) {k:Value→Hp→Prop}
  (hk:∀r h',Cx F0 h0 h' (L++[rV r cs])→k (cA r) h'):Eb (En.nw a e h) k:=by
 subst hl
 exact eb rfl (hk h.size _ (c.add (F':=fun q=>q=h.size) ⟨⟨ho,Va.new rfl⟩,fun _=>Iff.rfl⟩ (Ch.push _ _) fun r e=>by omega))
theorem Cx.rv (c:Cx F0 h0 h L) (hi:L[i]?=some (rV r cs)):∃ho:fR cs=true,Va (VX cs.length) h r ⟨cs,rfl,ho⟩ :=let ⟨_,p,_⟩ :=c.get hi; p
theorem Cx.vl (c:Cx F0 h0 h L) (hi:L[i]?=some (rV r cs)) (hn:n=cs.length):aF n (cA r) h=some (.agg ⟨cs⟩):=let ⟨_,v⟩ :=c.rv hi; v.whole hn
theorem Cx.vc (c:Cx F0 h0 h L) (hi:L[i]?=some (rV r cs)) {u:Value} (ho:cs[o]?=some u):dU (.pointer (some ⟨r,o,none⟩)) h=some u:=by
 obtain ⟨_,v⟩ :=c.rv hi
 have:=v.row.dU (j:=o) ho
 rwa [Nat.zero_add] at this
theorem Cx.vp (c:Cx F0 h0 h L) (hi:L[i]?=some (rV r cs)) {ds:List Value} (hb:Nat.ble (o+n) cs.length=true) (hd:(cs.drop o).take n=ds):aF n (.pointer (some ⟨r,o,none⟩)) h=some (.agg ⟨ds⟩):=by
 subst hd
 obtain ⟨ho,v⟩ :=c.rv hi
 have hn:=Nat.le_of_ble_eq_true hb
 have hl:((cs.drop o).take n).length=n:=by rw [List.length_take,List.length_drop]; omega
 have hr:Row (VX n) h r o ⟨(cs.drop o).take n,hl,List.all_eq_true.2 fun x hx=>uq ho x (List.mem_of_mem_drop (List.mem_of_mem_take hx))⟩ :=fun j u hu=>by
  have hu:((cs.drop o).take n)[j]?=some u:=hu
  rw [List.getElem?_take] at hu
  split at hu
  ·rw [List.getElem?_drop] at hu
   have:=v.row (o+j) u hu
   rwa [Nat.zero_add] at this
  ·cases hu
 exact hr.aF rfl
theorem Cx.vS (c:Cx F0 h0 h L) (i:Nat) (hi:L[i]?=some (rV r cs)) {vs ds:List Value} {w:Value} (hw:w.cells.toList=vs) (ho:fR vs=true) (hn:vs.length=n) (hd:ds.length=cs.length) (hj:o+n≤cs.length)
  (hy:∀j u,ds[j]?=some u→if o≤j∧j<o+n then vs[j - o]?=some u else cs[j]?=some u) {k:Hp→Prop} (hk:∀h',Cx F0 h0 h' (L.set i (rV r ds))→k h'):Sb (En.aQ n (.pointer (some ⟨r,o,none⟩)) w h) k:=by
 obtain ⟨F,⟨⟨hc,v⟩,hf⟩,up⟩ :=c.Nz hi
 have hone:fR ds=true:=List.all_eq_true.2 fun x hx=>by
  obtain ⟨j,hj,rfl⟩ :=List.mem_iff_getElem.1 hx
  have:=hy j _ (List.getElem?_eq_getElem hj)
  split at this
  ·exact uq ho _ (List.mem_of_getElem? this)
  ·exact uq hc _ (List.mem_of_getElem? this)
 obtain ⟨h1,e,v',ch,_⟩ :=Va.put (E:=VX cs.length) v (y:=⟨ds,hd,hone⟩) (j:=o) (vs:=vs) (fun j u hu=>by rw [hn]; exact hy j u hu) (by rw [hn]; exact hj) (uq ho)
 have hsz:w.cells.size=n:=by rw [←Array.length_toList,hw,hn]
 refine sb (h':=h1) ?_ (hk h1 (up (F':=F) ⟨⟨hone,?_⟩,hf⟩ (sF (ch.mono fun q _ e=>(hf q).2 e))))
 ·have hb:Nat.beq w.cells.size n=true:=by rw [hsz]; exact Nat.beq_refl n
  show (match Nat.beq w.cells.size n with | true=>p5 h ⟨r,o,none⟩ 0 w.cells.toList | false=>none)=some h1
  rw [hb,hw]
  exact e
 ·obtain ⟨a,b,d⟩ :=v'
  exact ⟨a,b,fun j hj=>d j (show j<cs.length by rw [←hd]; exact hj)⟩
theorem Cx.vw (c:Cx F0 h0 h L) (i:Nat) (hi:L[i]?=some (rV r cs)) {w:Value} {vs:List Value} (hw:w.cells.toList=vs) (ho:fR vs=true) (hn:vs.length=n) (hd:n=cs.length) {k:Hp→Prop}
  (hk:∀h',Cx F0 h0 h' (L.set i (rV r vs))→k h'):Sb (En.aQ n (cA r) w h) k:=
 c.vS i hi hw ho hn (hn.trans hd) (by omega) (fun j u hu=>by
  have:=(List.getElem?_eq_some_iff.1 hu).1
  rw [if_pos ⟨Nat.zero_le _,by omega⟩]; exact hu) hk
theorem Cx.vq (c:Cx F0 h0 h L) (i:Nat) (hi:L[i]?=some (rV r cs)) {w:Value} {vs ds:List Value} (hw:w.cells.toList=vs) (ho:fR vs=true) (hn:vs.length=n) (hb:Nat.ble (o+n) cs.length=true) (hs:cs.take o++vs++cs.drop (o+n)=ds) {k:Hp→Prop}
  (hk:∀h',Cx F0 h0 h' (L.set i (rV r ds))→k h'):Sb (En.aQ n (.pointer (some ⟨r,o,none⟩)) w h) k:=by
 subst hs hw
 have hj:=Nat.le_of_ble_eq_true hb
 exact c.vS i hi rfl ho hn (by rw [List.length_append,List.length_append,List.length_take,List.length_drop]; omega) hj (fun j u hu=>by
  have hl:(cs.take o).length=o:=by rw [List.length_take]; omega
  rw [List.append_assoc] at hu
  by_cases h1:j<o
  ·rw [List.getElem?_append_left (by omega),List.getElem?_take_of_lt h1] at hu
   rw [if_neg (by omega)]; exact hu
  ·rw [List.getElem?_append_right (by omega),hl] at hu
   by_cases h2:j<o+n
   ·rw [List.getElem?_append_left (by omega)] at hu
    rw [if_pos (by omega)]; exact hu
   ·rw [List.getElem?_append_right (by omega),List.getElem?_drop] at hu
    rw [if_neg (by omega)]
    rwa [show o+n+(j - o - w.cells.toList.length)=j by omega] at hu) hk
theorem Cx.t3 (c:Cx F0 h0 h L) (i j:Nat) {r q n m:Nat} {csx csy vs ws:List Value} {a b d:Value} {R:Value→Hp→Prop} (hi:L[i]?=some (rV r csx)) (hj:L[j]?=some (rV q csy)) (hij:Nat.beq i j=false)
  (ha:a.cells.toList=vs) (oa:fR vs=true) (na:vs.length=n) (da:n=csx.length) (hb:b.cells.toList=ws) (ob:fR ws=true) (nb:ws.length=m) (db:m=csy.length)
  (hk:∀h',Cx F0 h0 h' ((L.set i (rV r vs)).set j (rV q ws))→R (.tuple #[.agg ⟨vs⟩,.agg ⟨ws⟩,d]) h'):T3 n (cA r) m (cA q) (.tuple #[a,b,d]) h R:=by
 have hne:¬i=j:=fun e=>by rw [e,Nat.beq_refl] at hij; cases hij
 refine En.vb (v:=a) rfl (En.vb (v:=b) rfl (En.vb (v:=d) rfl ?_))
 refine c.vw i hi ha oa na da fun _ c=>?_
 have hj':(L.set i (rV r vs))[j]?=some (rV q csy):=by rw [List.getElem?_set,if_neg hne]; exact hj
 refine c.vw j hj' hb ob nb db fun _ c=>?_
 have hli:i<L.length:=(List.getElem?_eq_some_iff.1 hi).1
 have hlj:j<L.length:=(List.getElem?_eq_some_iff.1 hj).1
 refine En.vb (c.vl (i:=i) (by rw [List.getElem?_set,if_neg (fun e=>hne e.symm),List.getElem?_set,if_pos rfl,if_pos hli]) na.symm) ?_
 refine En.vb (c.vl (i:=j) (by rw [List.getElem?_set,if_pos rfl,if_pos (by rw [List.length_set]; exact hlj)]) nb.symm) ?_
 exact hk _ c
theorem Cx.t2 (c:Cx F0 h0 h L) (j:Nat) {q m:Nat} {csy ws:List Value} {a b d:Value} {R:Value→Hp→Prop} (hj:L[j]?=some (rV q csy)) (hb:b.cells.toList=ws) (ob:fR ws=true) (nb:ws.length=m) (db:m=csy.length)
  (hk:∀h',Cx F0 h0 h' (L.set j (rV q ws))→R (.tuple #[a,.agg ⟨ws⟩,d]) h'):T2 m (cA q) (.tuple #[a,b,d]) h R:=by
 refine En.vb (v:=a) rfl (En.vb (v:=b) rfl (En.vb (v:=d) rfl ?_))
 refine c.vw j hj hb ob nb db fun _ c=>?_
 have hlj:j<L.length:=(List.getElem?_eq_some_iff.1 hj).1
 refine En.vb (c.vl (i:=j) (by rw [List.getElem?_set,if_pos rfl,if_pos hlj]) nb.symm) ?_
 exact hk _ c
theorem jD {v:Value} (h:v.oneCell'=true):v.cells.toList=[v]:=by
 cases v <;> first | rfl | cases h
end
structure Bs where
 p:Hp→Prop
 up:∀{h h':Hp},p h→Gr h h'→p h'
def Bs.and (B:Bs) (M:List bQ):Bs:=⟨fun h=>B.p h∧∃F,(aG M).P h F,fun ⟨a,F,b⟩ g=>⟨B.up a g,F,(aG M).loc b g fun _ _ e=>e⟩⟩
def Bs.of (h:Hp):Bs:=⟨fun h'=>Gr h h',fun a g=>a.trans g⟩
def On (B:Bs) (P:Hp→Prop):Prop:=∀h,B.p h→P h
def Bs.le (B B':Bs):Prop:=∀h,B'.p h→B.p h
theorem Bs.le_refl (B:Bs):B.le B:=fun _ b=>b
theorem Bs.aR (B:Bs) (M:List bQ):B.le (B.and M):=fun _ b=>b.1
theorem Bs.le.trans {A B C:Bs} (x:A.le B) (y:B.le C):A.le C:=fun h c=>x h (y h c)
def Rt (B:Bs) (h:Hp) (Q:Bs→Prop) (K:Hp→Prop):Prop:=∀M h',Cx (fun _=>False) h h' [aG M]→Q (B.and M)→K h'
theorem Rt.nil {B:Bs} {Q:Bs→Prop} {K:Hp→Prop} (H:Rt B h Q K) (hp:Q (B.and [])) {h':Hp} (g:Gr h h'):K h':=
 H [] h' (((Cx.aA h).more g).pack (L:=[]) (M:=[])) hp
theorem On.le {B B':Bs} {P:Hp→Prop} (H:On B P) (l:B.le B'):On B' P:=fun h b=>H h (l h b)
theorem On.imp {B:Bs} {P Q:Hp→Prop} (H:On B P) (f:∀h,P h→Q h):On B Q:=fun h b=>f h (H h b)
theorem Bs.star {B:Bs} {Ms:List bQ} (b:(B.and Ms).p h) {M:List bQ} {i:Nat} (hi:Ms[i]?=some (aG M)):∃F,(aG M).P h F:=by
 obtain ⟨_,F,p⟩ :=b
 exact (Cx.star p).get hi
theorem Bs.Eg {B:Bs} {M Ms:List bQ} {i:Nat} (hi:Ms[i]?=some (aG M)):(B.and M).le (B.and Ms):=fun _ b=>⟨b.1,Bs.star b hi⟩
theorem Bs.MA {B:Bs} {M N:List bQ}:((B.and M).and N).le (B.and [aG M,aG N]):=fun _ b=>⟨⟨b.1,Bs.star b (i:=0) rfl⟩,Bs.star b (i:=1) rfl⟩
theorem On.of {B:Bs} {M:List bQ} {A:bQ} {i:Nat} (hi:M[i]?=some A):On (B.and M) fun h=>∃F,A.P h F:=fun _ b=>by
 obtain ⟨_,F,p⟩ :=b
 exact (Cx.star p).get hi
theorem On.sl {B:Bs} {M:List bQ} {α:Type} {E:qd α} {v:Value} {xs:List α} {i:Nat} (hi:M[i]?=some (dA E v xs)):On (B.and M) fun h=>Sl E h v xs:=(On.of hi).imp fun _ ⟨_,p⟩ =>p.1.sl
theorem On.mp {B:Bs} {M:List bQ} {α:Type} {ik:IntKind} {E:α→Value} {v:Value} {xs:List (Int × α)} {i:Nat} (hi:M[i]?=some (DT ik E v xs)):On (B.and M) fun h=>Mp ik E h v xs:=(On.of hi).imp fun _ ⟨_,p⟩ =>p.1
theorem eR {A B:Prop} (h:A):Br (.bool true) A B:=h
theorem bD {A B:Prop} (h:B):Br (.bool false) A B:=h
section
variable {k:IntKind} {a b:Int}
theorem qu (h:a=b):bin .eql (.int k a) (.int k b)=some (.bool true):=by rw [iQ,decide_eq_true h]
theorem m6 (h:¬a=b):bin .eql (.int k a) (.int k b)=some (.bool false):=by rw [iQ,decide_eq_false h]
theorem FP (h:¬a=b):bin .neq (.int k a) (.int k b)=some (.bool true):=by rw [pJ,decide_eq_true h]
theorem EJ (h:a=b):bin .neq (.int k a) (.int k b)=some (.bool false):=by rw [pJ,decide_eq_false fun e=>e h]
theorem yH (h:a<b):bin .lss (.int k a) (.int k b)=some (.bool true):=by rw [cH,decide_eq_true h]
theorem iZ (h:¬a<b):bin .lss (.int k a) (.int k b)=some (.bool false):=by rw [cH,decide_eq_false h]
theorem IU (h:a≤b):bin .leq (.int k a) (.int k b)=some (.bool true):=by rw [DJ,decide_eq_true h]
theorem PS (h:¬a≤b):bin .leq (.int k a) (.int k b)=some (.bool false):=by rw [DJ,decide_eq_false h]
theorem F4 (h:b<a):bin .gtr (.int k a) (.int k b)=some (.bool true):=by rw [pP,decide_eq_true h]
theorem sf (h:¬b<a):bin .gtr (.int k a) (.int k b)=some (.bool false):=by rw [pP,decide_eq_false h]
theorem uA (h:b≤a):bin .geq (.int k a) (.int k b)=some (.bool true):=by rw [rZ,decide_eq_true h]
theorem o8 (h:¬b≤a):bin .geq (.int k a) (.int k b)=some (.bool false):=by rw [rZ,decide_eq_false h]
end
theorem G3 {α:Type} {j:Nat} {u:α} {P:Prop} (h:([]:List α)[j]?=some u):P:=by simp at h
def Ii (place:Nat→Option (Nat × Nat)):List Value→List (Nat × Value)→Option (List Value)
 | cs,[]=>some cs
 | cs,(i,v)::r=>match place i with
  | none=>none
  | some (o,n)=>match Nat.beq v.cells.toList.length n,Nat.ble (o+n) cs.length with
   | true,true=>Ii place (cs.take o++v.cells.toList++cs.drop (o+n)) r
   | _,_=>none
theorem KQ {place:Nat→Option (Nat × Nat)}:∀{parts:List (Nat × Value)} {cs ds:List Value},Ii place cs parts=some ds→Instr.fill place cs.toArray parts=some ds.toArray
 | [],cs,ds,h=>by
  simp only [Ii,Option.some.injEq] at h
  subst h; rfl
 | (i,v)::r,cs,ds,h=>by
  unfold Ii at h
  unfold Instr.fill
  split at h
  ·cases h
  ·rename_i o n hp
   simp only [hp]
   split at h
   ·rename_i h1 h2
    have h1:=Nat.eq_of_beq_eq_true h1
    have h2:=Nat.le_of_ble_eq_true h2
    have hs:v.cells.size=n:=by rw [←Array.length_toList]; exact h1
    have hc:(v.cells.size≠n||o+v.cells.size > cs.toArray.size)=false:=by simp [hs]; omega
    simp only [hc,Bool.false_eq_true,if_false]
    have hf:(v.cells.zipIdx.foldl (fun cs x=>cs.setIfInBounds (o+x.2) x.1) cs.toArray)=(cs.take o++v.cells.toList++cs.drop (o+n)).toArray:=by
     apply Array.ext'
     rw [←Array.foldl_toList,Array.toList_zipIdx,E3]
     ·rw [Nat.add_zero,h1]
     ·rw [Nat.add_zero,h1]; omega
    rw [hf]
    exact KQ h
   ·cases h
theorem aL {places:List (Nat × Nat)} {zero:Array Value} {parts:List (Nat × Value)} {ds:List Value} (h:Ii (places[·]?) zero.toList parts=some ds):bG places zero parts=some (.agg ⟨ds⟩):=by
 have:=KQ h
 rw [Array.toArray_toList] at this
 unfold bG
 rw [this]; rfl
theorem aD {r o j:Nat} {K:Value→Prop} (h:K (.pointer (some ⟨r,o+j,none⟩))):Vb (fa j (.pointer (some ⟨r,o,none⟩))) K:=En.vb (oZ _ _ _) h
section
variable {r o n:Nat} {cs:List Value}
theorem Cx.rc (c:Cx F0 h0 h L) (i:Nat) {u:Value} {K:Value→Prop} (k:K u) (hi:L[i]?=some (rV r cs):=by exact rfl) (ho:cs[o]?=some u:=by exact rfl):Vb (dU (.pointer (some ⟨r,o,none⟩)) h) K:=En.vb (c.vc hi ho) k
theorem Cx.rl (c:Cx F0 h0 h L) (i:Nat) {K:Value→Prop} (k:K (.agg ⟨cs⟩)) (hi:L[i]?=some (rV r cs):=by exact rfl) (hn:n=cs.length:=by exact rfl):Vb (aF n (cA r) h) K:=En.vb (c.vl hi hn) k
theorem Cx.ac (c:Cx F0 h0 h L) (i:Nat) {u:Value} {K:Prop} (k:K) (hi:L[i]?=some (rV r cs):=by exact rfl) (ho:cs[o]?=some u:=by exact rfl):dU (.pointer (some ⟨r,o,none⟩)) h=some u∧K:=⟨c.vc hi ho,k⟩
theorem Cx.al (c:Cx F0 h0 h L) (i:Nat) {K:Prop} (k:K) (hi:L[i]?=some (rV r cs):=by exact rfl) (hn:n=cs.length:=by exact rfl):aF n (cA r) h=some (.agg ⟨cs⟩)∧K:=⟨c.vl hi hn,k⟩
theorem Cx.n0 (c:Cx F0 h0 h []):Cx F0 h0 h []:=c
theorem Cx.n1 {x0:bQ} (c:Cx F0 h0 h [x0]):Cx F0 h0 h [x0]:=c
theorem Cx.n2 {x0 x1:bQ} (c:Cx F0 h0 h [x0,x1]):Cx F0 h0 h [x0,x1]:=c
theorem Cx.n3 {x0 x1 x2:bQ} (c:Cx F0 h0 h [x0,x1,x2]):Cx F0 h0 h [x0,x1,x2]:=c
theorem Cx.n4 {x0 x1 x2 x3:bQ} (c:Cx F0 h0 h [x0,x1,x2,x3]):Cx F0 h0 h [x0,x1,x2,x3]:=c
theorem Cx.n5 {x0 x1 x2 x3 x4:bQ} (c:Cx F0 h0 h [x0,x1,x2,x3,x4]):Cx F0 h0 h [x0,x1,x2,x3,x4]:=c
theorem Cx.n6 {x0 x1 x2 x3 x4 x5:bQ} (c:Cx F0 h0 h [x0,x1,x2,x3,x4,x5]):Cx F0 h0 h [x0,x1,x2,x3,x4,x5]:=c
theorem Cx.n7 {x0 x1 x2 x3 x4 x5 x6:bQ} (c:Cx F0 h0 h [x0,x1,x2,x3,x4,x5,x6]):Cx F0 h0 h [x0,x1,x2,x3,x4,x5,x6]:=c
theorem Cx.n8 {x0 x1 x2 x3 x4 x5 x6 x7:bQ} (c:Cx F0 h0 h [x0,x1,x2,x3,x4,x5,x6,x7]):Cx F0 h0 h [x0,x1,x2,x3,x4,x5,x6,x7]:=c
theorem Cx.n9 {x0 x1 x2 x3 x4 x5 x6 x7 x8:bQ} (c:Cx F0 h0 h [x0,x1,x2,x3,x4,x5,x6,x7,x8]):Cx F0 h0 h [x0,x1,x2,x3,x4,x5,x6,x7,x8]:=c
theorem Cx.Wq {x0 x1 x2 x3 x4 x5 x6 x7 x8 x9:bQ} (c:Cx F0 h0 h [x0,x1,x2,x3,x4,x5,x6,x7,x8,x9]):Cx F0 h0 h [x0,x1,x2,x3,x4,x5,x6,x7,x8,x9]:=c
theorem Cx.n11 {x0 x1 x2 x3 x4 x5 x6 x7 x8 x9 x10:bQ} (c:Cx F0 h0 h [x0,x1,x2,x3,x4,x5,x6,x7,x8,x9,x10]):Cx F0 h0 h [x0,x1,x2,x3,x4,x5,x6,x7,x8,x9,x10]:=c
theorem Cx.n12 {x0 x1 x2 x3 x4 x5 x6 x7 x8 x9 x10 x11:bQ} (c:Cx F0 h0 h [x0,x1,x2,x3,x4,x5,x6,x7,x8,x9,x10,x11]):Cx F0 h0 h [x0,x1,x2,x3,x4,x5,x6,x7,x8,x9,x10,x11]:=c
theorem Cx.n14 {x0 x1 x2 x3 x4 x5 x6 x7 x8 x9 x10 x11 x12 x13:bQ} (c:Cx F0 h0 h [x0,x1,x2,x3,x4,x5,x6,x7,x8,x9,x10,x11,x12,x13]):Cx F0 h0 h [x0,x1,x2,x3,x4,x5,x6,x7,x8,x9,x10,x11,x12,x13]:=c
theorem Cx.n15 {x0 x1 x2 x3 x4 x5 x6 x7 x8 x9 x10 x11 x12 x13 x14:bQ} (c:Cx F0 h0 h [x0,x1,x2,x3,x4,x5,x6,x7,x8,x9,x10,x11,x12,x13,x14]):Cx F0 h0 h [x0,x1,x2,x3,x4,x5,x6,x7,x8,x9,x10,x11,x12,x13,x14]:=c
theorem Cx.n16 {x0 x1 x2 x3 x4 x5 x6 x7 x8 x9 x10 x11 x12 x13 x14 x15:bQ} (c:Cx F0 h0 h [x0,x1,x2,x3,x4,x5,x6,x7,x8,x9,x10,x11,x12,x13,x14,x15]):Cx F0 h0 h [x0,x1,x2,x3,x4,x5,x6,x7,x8,x9,x10,x11,x12,x13,x14,x15]:=c
theorem Cx.n17 {x0 x1 x2 x3 x4 x5 x6 x7 x8 x9 x10 x11 x12 x13 x14 x15 x16:bQ} (c:Cx F0 h0 h [x0,x1,x2,x3,x4,x5,x6,x7,x8,x9,x10,x11,x12,x13,x14,x15,x16]):Cx F0 h0 h [x0,x1,x2,x3,x4,x5,x6,x7,x8,x9,x10,x11,x12,x13,x14,x15,x16]:=c
class Ov (v:Value):Prop where
 h:v.oneCell'=true
theorem cN {v:Value} {vs:List Value} (h:v.oneCell'=true) (t:fR vs=true):fR (v::vs)=true:=by
 unfold fR at t⊢
 rw [List.all_cons,h,t]; rfl
class Sn (L:List bQ) (f:outParam (bQ→List bQ)):Prop where
 e:∀x,L++[x]=f x
instance:Sn [] fun x=>[x]:=⟨fun _=>rfl⟩
instance {a:bQ} {f:bQ→List bQ} [s:Sn L f]:Sn (a::L) fun x=>a::f x:=⟨fun x=>by rw [←s.e x]; rfl⟩
class Stt (L:List bQ) (i:Nat) (f:outParam (bQ→List bQ)):Prop where
 e:∀x,L.set i x=f x
instance {a:bQ}:Stt (a::L) 0 fun x=>x::L:=⟨fun _=>rfl⟩
instance {a:bQ} {i:Nat} {f:bQ→List bQ} [s:Stt L i f]:Stt (a::L) (i+1) fun x=>a::f x:=⟨fun x=>by rw [←s.e x]; rfl⟩
variable {f f':bQ→List bQ} {k:Value→Hp→Prop} {K:Hp→Prop} {v w:Value} {i j q:Nat} {csx csy:List Value}
theorem Cx.v1 {x0:Value} {a:Array Value} (c:Cx F0 h0 h L) {e:TypeId} [s:Sn L f] (hk:∀r h',Cx F0 h0 h' (f (rV r [x0]))→k (cA r) h') (hl:a.toList=[x0]:=by exact rfl) (ho:fR [x0]=true:=by first | exact rfl | repeat' first | exact rfl | assumption | exact Ov.h | apply cN):Eb (En.nw a e h) k:=c.nv hl ho fun r h' c=>hk r h' (s.e _▸c)
theorem Cx.w1 {x0:Value} (c:Cx F0 h0 h L) (i:Nat) [s:Stt L i f] (hk:∀h',Cx F0 h0 h' (f (rV r [x0]))→K h') (hi:L[i]?=some (rV r cs):=by exact rfl) (hw:w.cells.toList=[x0]:=by exact rfl) (ho:fR [x0]=true:=by first | exact rfl | repeat' first | exact rfl | assumption | exact Ov.h | apply cN) (hd:1=cs.length:=by exact rfl):Sb (En.aQ 1 (cA r) w h) K:=c.vw i hi hw ho rfl hd fun h' c=>hk h' (s.e _▸c)
theorem Cx.v2 {x0 x1:Value} {a:Array Value} (c:Cx F0 h0 h L) {e:TypeId} [s:Sn L f] (hk:∀r h',Cx F0 h0 h' (f (rV r [x0,x1]))→k (cA r) h') (hl:a.toList=[x0,x1]:=by exact rfl) (ho:fR [x0,x1]=true:=by first | exact rfl | repeat' first | exact rfl | assumption | exact Ov.h | apply cN):Eb (En.nw a e h) k:=c.nv hl ho fun r h' c=>hk r h' (s.e _▸c)
theorem Cx.w2 {x0 x1:Value} (c:Cx F0 h0 h L) (i:Nat) [s:Stt L i f] (hk:∀h',Cx F0 h0 h' (f (rV r [x0,x1]))→K h') (hi:L[i]?=some (rV r cs):=by exact rfl) (hw:w.cells.toList=[x0,x1]:=by exact rfl) (ho:fR [x0,x1]=true:=by first | exact rfl | repeat' first | exact rfl | assumption | exact Ov.h | apply cN) (hd:2=cs.length:=by exact rfl):Sb (En.aQ 2 (cA r) w h) K:=c.vw i hi hw ho rfl hd fun h' c=>hk h' (s.e _▸c)
theorem Cx.q2 {x0 x1:Value} (c:Cx F0 h0 h L) (i:Nat) [s:Stt L i f] (hk:∀h',Cx F0 h0 h' (f (rV r [x0,x1]))→K h') (hi:L[i]?=some (rV r cs):=by exact rfl) (hw:w.cells.toList=[v]:=by first | exact rfl | exact jD (by assumption)) (ho:fR [v]=true:=by first | exact rfl | repeat' first | exact rfl | assumption | exact Ov.h | apply cN) (hb:Nat.ble (o+1) cs.length=true:=by exact rfl) (hs:cs.take o++[v]++cs.drop (o+1)=[x0,x1]:=by exact rfl):Sb (En.aQ 1 (.pointer (some ⟨r,o,none⟩)) w h) K:=c.vq i hi hw ho rfl hb hs fun h' c=>hk h' (s.e _▸c)
theorem Cx.v3 {x0 x1 x2:Value} {a:Array Value} (c:Cx F0 h0 h L) {e:TypeId} [s:Sn L f] (hk:∀r h',Cx F0 h0 h' (f (rV r [x0,x1,x2]))→k (cA r) h') (hl:a.toList=[x0,x1,x2]:=by exact rfl) (ho:fR [x0,x1,x2]=true:=by first | exact rfl | repeat' first | exact rfl | assumption | exact Ov.h | apply cN):Eb (En.nw a e h) k:=c.nv hl ho fun r h' c=>hk r h' (s.e _▸c)
theorem Cx.w3 {x0 x1 x2:Value} (c:Cx F0 h0 h L) (i:Nat) [s:Stt L i f] (hk:∀h',Cx F0 h0 h' (f (rV r [x0,x1,x2]))→K h') (hi:L[i]?=some (rV r cs):=by exact rfl) (hw:w.cells.toList=[x0,x1,x2]:=by exact rfl) (ho:fR [x0,x1,x2]=true:=by first | exact rfl | repeat' first | exact rfl | assumption | exact Ov.h | apply cN) (hd:3=cs.length:=by exact rfl):Sb (En.aQ 3 (cA r) w h) K:=c.vw i hi hw ho rfl hd fun h' c=>hk h' (s.e _▸c)
theorem Cx.q3 {x0 x1 x2:Value} (c:Cx F0 h0 h L) (i:Nat) [s:Stt L i f] (hk:∀h',Cx F0 h0 h' (f (rV r [x0,x1,x2]))→K h') (hi:L[i]?=some (rV r cs):=by exact rfl) (hw:w.cells.toList=[v]:=by first | exact rfl | exact jD (by assumption)) (ho:fR [v]=true:=by first | exact rfl | repeat' first | exact rfl | assumption | exact Ov.h | apply cN) (hb:Nat.ble (o+1) cs.length=true:=by exact rfl) (hs:cs.take o++[v]++cs.drop (o+1)=[x0,x1,x2]:=by exact rfl):Sb (En.aQ 1 (.pointer (some ⟨r,o,none⟩)) w h) K:=c.vq i hi hw ho rfl hb hs fun h' c=>hk h' (s.e _▸c)
theorem Cx.v4 {x0 x1 x2 x3:Value} {a:Array Value} (c:Cx F0 h0 h L) {e:TypeId} [s:Sn L f] (hk:∀r h',Cx F0 h0 h' (f (rV r [x0,x1,x2,x3]))→k (cA r) h') (hl:a.toList=[x0,x1,x2,x3]:=by exact rfl) (ho:fR [x0,x1,x2,x3]=true:=by first | exact rfl | repeat' first | exact rfl | assumption | exact Ov.h | apply cN):Eb (En.nw a e h) k:=c.nv hl ho fun r h' c=>hk r h' (s.e _▸c)
theorem Cx.w4 {x0 x1 x2 x3:Value} (c:Cx F0 h0 h L) (i:Nat) [s:Stt L i f] (hk:∀h',Cx F0 h0 h' (f (rV r [x0,x1,x2,x3]))→K h') (hi:L[i]?=some (rV r cs):=by exact rfl) (hw:w.cells.toList=[x0,x1,x2,x3]:=by exact rfl) (ho:fR [x0,x1,x2,x3]=true:=by first | exact rfl | repeat' first | exact rfl | assumption | exact Ov.h | apply cN) (hd:4=cs.length:=by exact rfl):Sb (En.aQ 4 (cA r) w h) K:=c.vw i hi hw ho rfl hd fun h' c=>hk h' (s.e _▸c)
theorem Cx.q4 {x0 x1 x2 x3:Value} (c:Cx F0 h0 h L) (i:Nat) [s:Stt L i f] (hk:∀h',Cx F0 h0 h' (f (rV r [x0,x1,x2,x3]))→K h') (hi:L[i]?=some (rV r cs):=by exact rfl) (hw:w.cells.toList=[v]:=by first | exact rfl | exact jD (by assumption)) (ho:fR [v]=true:=by first | exact rfl | repeat' first | exact rfl | assumption | exact Ov.h | apply cN) (hb:Nat.ble (o+1) cs.length=true:=by exact rfl) (hs:cs.take o++[v]++cs.drop (o+1)=[x0,x1,x2,x3]:=by exact rfl):Sb (En.aQ 1 (.pointer (some ⟨r,o,none⟩)) w h) K:=c.vq i hi hw ho rfl hb hs fun h' c=>hk h' (s.e _▸c)
theorem Cx.v5 {x0 x1 x2 x3 x4:Value} {a:Array Value} (c:Cx F0 h0 h L) {e:TypeId} [s:Sn L f] (hk:∀r h',Cx F0 h0 h' (f (rV r [x0,x1,x2,x3,x4]))→k (cA r) h') (hl:a.toList=[x0,x1,x2,x3,x4]:=by exact rfl) (ho:fR [x0,x1,x2,x3,x4]=true:=by first | exact rfl | repeat' first | exact rfl | assumption | exact Ov.h | apply cN):Eb (En.nw a e h) k:=c.nv hl ho fun r h' c=>hk r h' (s.e _▸c)
theorem Cx.w5 {x0 x1 x2 x3 x4:Value} (c:Cx F0 h0 h L) (i:Nat) [s:Stt L i f] (hk:∀h',Cx F0 h0 h' (f (rV r [x0,x1,x2,x3,x4]))→K h') (hi:L[i]?=some (rV r cs):=by exact rfl) (hw:w.cells.toList=[x0,x1,x2,x3,x4]:=by exact rfl) (ho:fR [x0,x1,x2,x3,x4]=true:=by first | exact rfl | repeat' first | exact rfl | assumption | exact Ov.h | apply cN) (hd:5=cs.length:=by exact rfl):Sb (En.aQ 5 (cA r) w h) K:=c.vw i hi hw ho rfl hd fun h' c=>hk h' (s.e _▸c)
theorem Cx.v6 {x0 x1 x2 x3 x4 x5:Value} {a:Array Value} (c:Cx F0 h0 h L) {e:TypeId} [s:Sn L f] (hk:∀r h',Cx F0 h0 h' (f (rV r [x0,x1,x2,x3,x4,x5]))→k (cA r) h') (hl:a.toList=[x0,x1,x2,x3,x4,x5]:=by exact rfl) (ho:fR [x0,x1,x2,x3,x4,x5]=true:=by first | exact rfl | repeat' first | exact rfl | assumption | exact Ov.h | apply cN):Eb (En.nw a e h) k:=c.nv hl ho fun r h' c=>hk r h' (s.e _▸c)
theorem Cx.w6 {x0 x1 x2 x3 x4 x5:Value} (c:Cx F0 h0 h L) (i:Nat) [s:Stt L i f] (hk:∀h',Cx F0 h0 h' (f (rV r [x0,x1,x2,x3,x4,x5]))→K h') (hi:L[i]?=some (rV r cs):=by exact rfl) (hw:w.cells.toList=[x0,x1,x2,x3,x4,x5]:=by exact rfl) (ho:fR [x0,x1,x2,x3,x4,x5]=true:=by first | exact rfl | repeat' first | exact rfl | assumption | exact Ov.h | apply cN) (hd:6=cs.length:=by exact rfl):Sb (En.aQ 6 (cA r) w h) K:=c.vw i hi hw ho rfl hd fun h' c=>hk h' (s.e _▸c)
theorem Cx.q6 {x0 x1 x2 x3 x4 x5:Value} (c:Cx F0 h0 h L) (i:Nat) [s:Stt L i f] (hk:∀h',Cx F0 h0 h' (f (rV r [x0,x1,x2,x3,x4,x5]))→K h') (hi:L[i]?=some (rV r cs):=by exact rfl) (hw:w.cells.toList=[v]:=by first | exact rfl | exact jD (by assumption)) (ho:fR [v]=true:=by first | exact rfl | repeat' first | exact rfl | assumption | exact Ov.h | apply cN) (hb:Nat.ble (o+1) cs.length=true:=by exact rfl) (hs:cs.take o++[v]++cs.drop (o+1)=[x0,x1,x2,x3,x4,x5]:=by exact rfl):Sb (En.aQ 1 (.pointer (some ⟨r,o,none⟩)) w h) K:=c.vq i hi hw ho rfl hb hs fun h' c=>hk h' (s.e _▸c)
theorem Cx.v7 {x0 x1 x2 x3 x4 x5 x6:Value} {a:Array Value} (c:Cx F0 h0 h L) {e:TypeId} [s:Sn L f] (hk:∀r h',Cx F0 h0 h' (f (rV r [x0,x1,x2,x3,x4,x5,x6]))→k (cA r) h') (hl:a.toList=[x0,x1,x2,x3,x4,x5,x6]:=by exact rfl) (ho:fR [x0,x1,x2,x3,x4,x5,x6]=true:=by first | exact rfl | repeat' first | exact rfl | assumption | exact Ov.h | apply cN):Eb (En.nw a e h) k:=c.nv hl ho fun r h' c=>hk r h' (s.e _▸c)
theorem Cx.w7 {x0 x1 x2 x3 x4 x5 x6:Value} (c:Cx F0 h0 h L) (i:Nat) [s:Stt L i f] (hk:∀h',Cx F0 h0 h' (f (rV r [x0,x1,x2,x3,x4,x5,x6]))→K h') (hi:L[i]?=some (rV r cs):=by exact rfl) (hw:w.cells.toList=[x0,x1,x2,x3,x4,x5,x6]:=by exact rfl) (ho:fR [x0,x1,x2,x3,x4,x5,x6]=true:=by first | exact rfl | repeat' first | exact rfl | assumption | exact Ov.h | apply cN) (hd:7=cs.length:=by exact rfl):Sb (En.aQ 7 (cA r) w h) K:=c.vw i hi hw ho rfl hd fun h' c=>hk h' (s.e _▸c)
theorem Cx.q7 {x0 x1 x2 x3 x4 x5 x6:Value} (c:Cx F0 h0 h L) (i:Nat) [s:Stt L i f] (hk:∀h',Cx F0 h0 h' (f (rV r [x0,x1,x2,x3,x4,x5,x6]))→K h') (hi:L[i]?=some (rV r cs):=by exact rfl) (hw:w.cells.toList=[v]:=by first | exact rfl | exact jD (by assumption)) (ho:fR [v]=true:=by first | exact rfl | repeat' first | exact rfl | assumption | exact Ov.h | apply cN) (hb:Nat.ble (o+1) cs.length=true:=by exact rfl) (hs:cs.take o++[v]++cs.drop (o+1)=[x0,x1,x2,x3,x4,x5,x6]:=by exact rfl):Sb (En.aQ 1 (.pointer (some ⟨r,o,none⟩)) w h) K:=c.vq i hi hw ho rfl hb hs fun h' c=>hk h' (s.e _▸c)
theorem Cx.v8 {x0 x1 x2 x3 x4 x5 x6 x7:Value} {a:Array Value} (c:Cx F0 h0 h L) {e:TypeId} [s:Sn L f] (hk:∀r h',Cx F0 h0 h' (f (rV r [x0,x1,x2,x3,x4,x5,x6,x7]))→k (cA r) h') (hl:a.toList=[x0,x1,x2,x3,x4,x5,x6,x7]:=by exact rfl) (ho:fR [x0,x1,x2,x3,x4,x5,x6,x7]=true:=by first | exact rfl | repeat' first | exact rfl | assumption | exact Ov.h | apply cN):Eb (En.nw a e h) k:=c.nv hl ho fun r h' c=>hk r h' (s.e _▸c)
theorem Cx.w8 {x0 x1 x2 x3 x4 x5 x6 x7:Value} (c:Cx F0 h0 h L) (i:Nat) [s:Stt L i f] (hk:∀h',Cx F0 h0 h' (f (rV r [x0,x1,x2,x3,x4,x5,x6,x7]))→K h') (hi:L[i]?=some (rV r cs):=by exact rfl) (hw:w.cells.toList=[x0,x1,x2,x3,x4,x5,x6,x7]:=by exact rfl) (ho:fR [x0,x1,x2,x3,x4,x5,x6,x7]=true:=by first | exact rfl | repeat' first | exact rfl | assumption | exact Ov.h | apply cN) (hd:8=cs.length:=by exact rfl):Sb (En.aQ 8 (cA r) w h) K:=c.vw i hi hw ho rfl hd fun h' c=>hk h' (s.e _▸c)
theorem Cx.q8 {x0 x1 x2 x3 x4 x5 x6 x7:Value} (c:Cx F0 h0 h L) (i:Nat) [s:Stt L i f] (hk:∀h',Cx F0 h0 h' (f (rV r [x0,x1,x2,x3,x4,x5,x6,x7]))→K h') (hi:L[i]?=some (rV r cs):=by exact rfl) (hw:w.cells.toList=[v]:=by first | exact rfl | exact jD (by assumption)) (ho:fR [v]=true:=by first | exact rfl | repeat' first | exact rfl | assumption | exact Ov.h | apply cN) (hb:Nat.ble (o+1) cs.length=true:=by exact rfl) (hs:cs.take o++[v]++cs.drop (o+1)=[x0,x1,x2,x3,x4,x5,x6,x7]:=by exact rfl):Sb (En.aQ 1 (.pointer (some ⟨r,o,none⟩)) w h) K:=c.vq i hi hw ho rfl hb hs fun h' c=>hk h' (s.e _▸c)
theorem Cx.v9 {x0 x1 x2 x3 x4 x5 x6 x7 x8:Value} {a:Array Value} (c:Cx F0 h0 h L) {e:TypeId} [s:Sn L f] (hk:∀r h',Cx F0 h0 h' (f (rV r [x0,x1,x2,x3,x4,x5,x6,x7,x8]))→k (cA r) h') (hl:a.toList=[x0,x1,x2,x3,x4,x5,x6,x7,x8]:=by exact rfl) (ho:fR [x0,x1,x2,x3,x4,x5,x6,x7,x8]=true:=by first | exact rfl | repeat' first | exact rfl | assumption | exact Ov.h | apply cN):Eb (En.nw a e h) k:=c.nv hl ho fun r h' c=>hk r h' (s.e _▸c)
theorem Cx.w9 {x0 x1 x2 x3 x4 x5 x6 x7 x8:Value} (c:Cx F0 h0 h L) (i:Nat) [s:Stt L i f] (hk:∀h',Cx F0 h0 h' (f (rV r [x0,x1,x2,x3,x4,x5,x6,x7,x8]))→K h') (hi:L[i]?=some (rV r cs):=by exact rfl) (hw:w.cells.toList=[x0,x1,x2,x3,x4,x5,x6,x7,x8]:=by exact rfl) (ho:fR [x0,x1,x2,x3,x4,x5,x6,x7,x8]=true:=by first | exact rfl | repeat' first | exact rfl | assumption | exact Ov.h | apply cN) (hd:9=cs.length:=by exact rfl):Sb (En.aQ 9 (cA r) w h) K:=c.vw i hi hw ho rfl hd fun h' c=>hk h' (s.e _▸c)
theorem Cx.q9 {x0 x1 x2 x3 x4 x5 x6 x7 x8:Value} (c:Cx F0 h0 h L) (i:Nat) [s:Stt L i f] (hk:∀h',Cx F0 h0 h' (f (rV r [x0,x1,x2,x3,x4,x5,x6,x7,x8]))→K h') (hi:L[i]?=some (rV r cs):=by exact rfl) (hw:w.cells.toList=[v]:=by first | exact rfl | exact jD (by assumption)) (ho:fR [v]=true:=by first | exact rfl | repeat' first | exact rfl | assumption | exact Ov.h | apply cN) (hb:Nat.ble (o+1) cs.length=true:=by exact rfl) (hs:cs.take o++[v]++cs.drop (o+1)=[x0,x1,x2,x3,x4,x5,x6,x7,x8]:=by exact rfl):Sb (En.aQ 1 (.pointer (some ⟨r,o,none⟩)) w h) K:=c.vq i hi hw ho rfl hb hs fun h' c=>hk h' (s.e _▸c)
theorem Cx.v10 {x0 x1 x2 x3 x4 x5 x6 x7 x8 x9:Value} {a:Array Value} (c:Cx F0 h0 h L) {e:TypeId} [s:Sn L f] (hk:∀r h',Cx F0 h0 h' (f (rV r [x0,x1,x2,x3,x4,x5,x6,x7,x8,x9]))→k (cA r) h') (hl:a.toList=[x0,x1,x2,x3,x4,x5,x6,x7,x8,x9]:=by exact rfl) (ho:fR [x0,x1,x2,x3,x4,x5,x6,x7,x8,x9]=true:=by first | exact rfl | repeat' first | exact rfl | assumption | exact Ov.h | apply cN):Eb (En.nw a e h) k:=c.nv hl ho fun r h' c=>hk r h' (s.e _▸c)
theorem Cx.Xd {x0 x1 x2 x3 x4 x5 x6 x7 x8 x9:Value} (c:Cx F0 h0 h L) (i:Nat) [s:Stt L i f] (hk:∀h',Cx F0 h0 h' (f (rV r [x0,x1,x2,x3,x4,x5,x6,x7,x8,x9]))→K h') (hi:L[i]?=some (rV r cs):=by exact rfl) (hw:w.cells.toList=[x0,x1,x2,x3,x4,x5,x6,x7,x8,x9]:=by exact rfl) (ho:fR [x0,x1,x2,x3,x4,x5,x6,x7,x8,x9]=true:=by first | exact rfl | repeat' first | exact rfl | assumption | exact Ov.h | apply cN) (hd:10=cs.length:=by exact rfl):Sb (En.aQ 10 (cA r) w h) K:=c.vw i hi hw ho rfl hd fun h' c=>hk h' (s.e _▸c)
theorem Cx.T6 {x0 x1 x2 x3 x4 x5 x6 x7 x8 x9:Value} (c:Cx F0 h0 h L) (i:Nat) [s:Stt L i f] (hk:∀h',Cx F0 h0 h' (f (rV r [x0,x1,x2,x3,x4,x5,x6,x7,x8,x9]))→K h') (hi:L[i]?=some (rV r cs):=by exact rfl) (hw:w.cells.toList=[v]:=by first | exact rfl | exact jD (by assumption)) (ho:fR [v]=true:=by first | exact rfl | repeat' first | exact rfl | assumption | exact Ov.h | apply cN) (hb:Nat.ble (o+1) cs.length=true:=by exact rfl) (hs:cs.take o++[v]++cs.drop (o+1)=[x0,x1,x2,x3,x4,x5,x6,x7,x8,x9]:=by exact rfl):Sb (En.aQ 1 (.pointer (some ⟨r,o,none⟩)) w h) K:=c.vq i hi hw ho rfl hb hs fun h' c=>hk h' (s.e _▸c)
theorem Cx.v11 {x0 x1 x2 x3 x4 x5 x6 x7 x8 x9 x10:Value} {a:Array Value} (c:Cx F0 h0 h L) {e:TypeId} [s:Sn L f] (hk:∀r h',Cx F0 h0 h' (f (rV r [x0,x1,x2,x3,x4,x5,x6,x7,x8,x9,x10]))→k (cA r) h') (hl:a.toList=[x0,x1,x2,x3,x4,x5,x6,x7,x8,x9,x10]:=by exact rfl) (ho:fR [x0,x1,x2,x3,x4,x5,x6,x7,x8,x9,x10]=true:=by first | exact rfl | repeat' first | exact rfl | assumption | exact Ov.h | apply cN):Eb (En.nw a e h) k:=c.nv hl ho fun r h' c=>hk r h' (s.e _▸c)
theorem Cx.Yq {x0 x1 x2 x3 x4 x5 x6 x7 x8 x9 x10:Value} (c:Cx F0 h0 h L) (i:Nat) [s:Stt L i f] (hk:∀h',Cx F0 h0 h' (f (rV r [x0,x1,x2,x3,x4,x5,x6,x7,x8,x9,x10]))→K h') (hi:L[i]?=some (rV r cs):=by exact rfl) (hw:w.cells.toList=[x0,x1,x2,x3,x4,x5,x6,x7,x8,x9,x10]:=by exact rfl) (ho:fR [x0,x1,x2,x3,x4,x5,x6,x7,x8,x9,x10]=true:=by first | exact rfl | repeat' first | exact rfl | assumption | exact Ov.h | apply cN) (hd:11=cs.length:=by exact rfl):Sb (En.aQ 11 (cA r) w h) K:=c.vw i hi hw ho rfl hd fun h' c=>hk h' (s.e _▸c)
theorem Cx.Ly {x0 x1 x2 x3 x4 x5 x6 x7 x8 x9 x10:Value} (c:Cx F0 h0 h L) (i:Nat) [s:Stt L i f] (hk:∀h',Cx F0 h0 h' (f (rV r [x0,x1,x2,x3,x4,x5,x6,x7,x8,x9,x10]))→K h') (hi:L[i]?=some (rV r cs):=by exact rfl) (hw:w.cells.toList=[v]:=by first | exact rfl | exact jD (by assumption)) (ho:fR [v]=true:=by first | exact rfl | repeat' first | exact rfl | assumption | exact Ov.h | apply cN) (hb:Nat.ble (o+1) cs.length=true:=by exact rfl) (hs:cs.take o++[v]++cs.drop (o+1)=[x0,x1,x2,x3,x4,x5,x6,x7,x8,x9,x10]:=by exact rfl):Sb (En.aQ 1 (.pointer (some ⟨r,o,none⟩)) w h) K:=c.vq i hi hw ho rfl hb hs fun h' c=>hk h' (s.e _▸c)
theorem Cx.KG {x0 x1 x2 x3 x4 x5 x6 x7 x8 x9 x10 x11 x12:Value} {a:Array Value} (c:Cx F0 h0 h L) {e:TypeId} [s:Sn L f] (hk:∀r h',Cx F0 h0 h' (f (rV r [x0,x1,x2,x3,x4,x5,x6,x7,x8,x9,x10,x11,x12]))→k (cA r) h') (hl:a.toList=[x0,x1,x2,x3,x4,x5,x6,x7,x8,x9,x10,x11,x12]:=by exact rfl) (ho:fR [x0,x1,x2,x3,x4,x5,x6,x7,x8,x9,x10,x11,x12]=true:=by first | exact rfl | repeat' first | exact rfl | assumption | exact Ov.h | apply cN):Eb (En.nw a e h) k:=c.nv hl ho fun r h' c=>hk r h' (s.e _▸c)
theorem Cx.RT {x0 x1 x2 x3 x4 x5 x6 x7 x8 x9 x10 x11 x12:Value} (c:Cx F0 h0 h L) (i:Nat) [s:Stt L i f] (hk:∀h',Cx F0 h0 h' (f (rV r [x0,x1,x2,x3,x4,x5,x6,x7,x8,x9,x10,x11,x12]))→K h') (hi:L[i]?=some (rV r cs):=by exact rfl) (hw:w.cells.toList=[x0,x1,x2,x3,x4,x5,x6,x7,x8,x9,x10,x11,x12]:=by exact rfl) (ho:fR [x0,x1,x2,x3,x4,x5,x6,x7,x8,x9,x10,x11,x12]=true:=by first | exact rfl | repeat' first | exact rfl | assumption | exact Ov.h | apply cN) (hd:13=cs.length:=by exact rfl):Sb (En.aQ 13 (cA r) w h) K:=c.vw i hi hw ho rfl hd fun h' c=>hk h' (s.e _▸c)
theorem Cx.Dz {x0 x1 x2 x3 x4 x5 x6 x7 x8 x9 x10 x11 x12:Value} (c:Cx F0 h0 h L) (i:Nat) [s:Stt L i f] (hk:∀h',Cx F0 h0 h' (f (rV r [x0,x1,x2,x3,x4,x5,x6,x7,x8,x9,x10,x11,x12]))→K h') (hi:L[i]?=some (rV r cs):=by exact rfl) (hw:w.cells.toList=[v]:=by first | exact rfl | exact jD (by assumption)) (ho:fR [v]=true:=by first | exact rfl | repeat' first | exact rfl | assumption | exact Ov.h | apply cN) (hb:Nat.ble (o+1) cs.length=true:=by exact rfl) (hs:cs.take o++[v]++cs.drop (o+1)=[x0,x1,x2,x3,x4,x5,x6,x7,x8,x9,x10,x11,x12]:=by exact rfl):Sb (En.aQ 1 (.pointer (some ⟨r,o,none⟩)) w h) K:=c.vq i hi hw ho rfl hb hs fun h' c=>hk h' (s.e _▸c)
theorem Cx.qW {x0 x1 x2 x3 x4 x5 x6 x7 x8 x9 x10 x11 x12 x13 x14:Value} {a:Array Value} (c:Cx F0 h0 h L) {e:TypeId} [s:Sn L f] (hk:∀r h',Cx F0 h0 h' (f (rV r [x0,x1,x2,x3,x4,x5,x6,x7,x8,x9,x10,x11,x12,x13,x14]))→k (cA r) h') (hl:a.toList=[x0,x1,x2,x3,x4,x5,x6,x7,x8,x9,x10,x11,x12,x13,x14]:=by exact rfl) (ho:fR [x0,x1,x2,x3,x4,x5,x6,x7,x8,x9,x10,x11,x12,x13,x14]=true:=by first | exact rfl | repeat' first | exact rfl | assumption | exact Ov.h | apply cN):Eb (En.nw a e h) k:=c.nv hl ho fun r h' c=>hk r h' (s.e _▸c)
theorem Cx.WO {x0 x1 x2 x3 x4 x5 x6 x7 x8 x9 x10 x11 x12 x13 x14:Value} (c:Cx F0 h0 h L) (i:Nat) [s:Stt L i f] (hk:∀h',Cx F0 h0 h' (f (rV r [x0,x1,x2,x3,x4,x5,x6,x7,x8,x9,x10,x11,x12,x13,x14]))→K h') (hi:L[i]?=some (rV r cs):=by exact rfl) (hw:w.cells.toList=[x0,x1,x2,x3,x4,x5,x6,x7,x8,x9,x10,x11,x12,x13,x14]:=by exact rfl) (ho:fR [x0,x1,x2,x3,x4,x5,x6,x7,x8,x9,x10,x11,x12,x13,x14]=true:=by first | exact rfl | repeat' first | exact rfl | assumption | exact Ov.h | apply cN) (hd:15=cs.length:=by exact rfl):Sb (En.aQ 15 (cA r) w h) K:=c.vw i hi hw ho rfl hd fun h' c=>hk h' (s.e _▸c)
theorem Cx.Hl {x0 x1 x2 x3 x4 x5 x6 x7 x8 x9 x10 x11 x12 x13 x14:Value} (c:Cx F0 h0 h L) (i:Nat) [s:Stt L i f] (hk:∀h',Cx F0 h0 h' (f (rV r [x0,x1,x2,x3,x4,x5,x6,x7,x8,x9,x10,x11,x12,x13,x14]))→K h') (hi:L[i]?=some (rV r cs):=by exact rfl) (hw:w.cells.toList=[v]:=by first | exact rfl | exact jD (by assumption)) (ho:fR [v]=true:=by first | exact rfl | repeat' first | exact rfl | assumption | exact Ov.h | apply cN) (hb:Nat.ble (o+1) cs.length=true:=by exact rfl) (hs:cs.take o++[v]++cs.drop (o+1)=[x0,x1,x2,x3,x4,x5,x6,x7,x8,x9,x10,x11,x12,x13,x14]:=by exact rfl):Sb (En.aQ 1 (.pointer (some ⟨r,o,none⟩)) w h) K:=c.vq i hi hw ho rfl hb hs fun h' c=>hk h' (s.e _▸c)
theorem Cx.TJ {x0 x1 x2 x3 x4 x5 x6 x7 x8 x9 x10 x11 x12 x13 x14 x15:Value} {a:Array Value} (c:Cx F0 h0 h L) {e:TypeId} [s:Sn L f] (hk:∀r h',Cx F0 h0 h' (f (rV r [x0,x1,x2,x3,x4,x5,x6,x7,x8,x9,x10,x11,x12,x13,x14,x15]))→k (cA r) h') (hl:a.toList=[x0,x1,x2,x3,x4,x5,x6,x7,x8,x9,x10,x11,x12,x13,x14,x15]:=by exact rfl) (ho:fR [x0,x1,x2,x3,x4,x5,x6,x7,x8,x9,x10,x11,x12,x13,x14,x15]=true:=by first | exact rfl | repeat' first | exact rfl | assumption | exact Ov.h | apply cN):Eb (En.nw a e h) k:=c.nv hl ho fun r h' c=>hk r h' (s.e _▸c)
theorem Cx.w16 {x0 x1 x2 x3 x4 x5 x6 x7 x8 x9 x10 x11 x12 x13 x14 x15:Value} (c:Cx F0 h0 h L) (i:Nat) [s:Stt L i f] (hk:∀h',Cx F0 h0 h' (f (rV r [x0,x1,x2,x3,x4,x5,x6,x7,x8,x9,x10,x11,x12,x13,x14,x15]))→K h') (hi:L[i]?=some (rV r cs):=by exact rfl) (hw:w.cells.toList=[x0,x1,x2,x3,x4,x5,x6,x7,x8,x9,x10,x11,x12,x13,x14,x15]:=by exact rfl) (ho:fR [x0,x1,x2,x3,x4,x5,x6,x7,x8,x9,x10,x11,x12,x13,x14,x15]=true:=by first | exact rfl | repeat' first | exact rfl | assumption | exact Ov.h | apply cN) (hd:16=cs.length:=by exact rfl):Sb (En.aQ 16 (cA r) w h) K:=c.vw i hi hw ho rfl hd fun h' c=>hk h' (s.e _▸c)
theorem Cx.iK {x0 x1 x2 x3 x4 x5 x6 x7 x8 x9 x10 x11 x12 x13 x14 x15 x16 x17 x18 x19 x20:Value} {a:Array Value} (c:Cx F0 h0 h L) {e:TypeId} [s:Sn L f] (hk:∀r h',Cx F0 h0 h' (f (rV r [x0,x1,x2,x3,x4,x5,x6,x7,x8,x9,x10,x11,x12,x13,x14,x15,x16,x17,x18,x19,x20]))→k (cA r) h') (hl:a.toList=[x0,x1,x2,x3,x4,x5,x6,x7,x8,x9,x10,x11,x12,x13,x14,x15,x16,x17,x18,x19,x20]:=by exact rfl) (ho:fR [x0,x1,x2,x3,x4,x5,x6,x7,x8,x9,x10,x11,x12,x13,x14,x15,x16,x17,x18,x19,x20]=true:=by first | exact rfl | repeat' first | exact rfl | assumption | exact Ov.h | apply cN):Eb (En.nw a e h) k:=c.nv hl ho fun r h' c=>hk r h' (s.e _▸c)
theorem Cx.Yr {x0 x1 x2 x3 x4 x5 x6 x7 x8 x9 x10 x11 x12 x13 x14 x15 x16 x17 x18 x19 x20:Value} (c:Cx F0 h0 h L) (i:Nat) [s:Stt L i f] (hk:∀h',Cx F0 h0 h' (f (rV r [x0,x1,x2,x3,x4,x5,x6,x7,x8,x9,x10,x11,x12,x13,x14,x15,x16,x17,x18,x19,x20]))→K h') (hi:L[i]?=some (rV r cs):=by exact rfl) (hw:w.cells.toList=[x0,x1,x2,x3,x4,x5,x6,x7,x8,x9,x10,x11,x12,x13,x14,x15,x16,x17,x18,x19,x20]:=by exact rfl) (ho:fR [x0,x1,x2,x3,x4,x5,x6,x7,x8,x9,x10,x11,x12,x13,x14,x15,x16,x17,x18,x19,x20]=true:=by first | exact rfl | repeat' first | exact rfl | assumption | exact Ov.h | apply cN) (hd:21=cs.length:=by exact rfl):Sb (En.aQ 21 (cA r) w h) K:=c.vw i hi hw ho rfl hd fun h' c=>hk h' (s.e _▸c)
theorem Cx.Ag {x0 x1 x2 x3 x4 x5 x6 x7 x8 x9 x10 x11 x12 x13 x14 x15 x16 x17 x18 x19 x20:Value} (c:Cx F0 h0 h L) (i:Nat) [s:Stt L i f] (hk:∀h',Cx F0 h0 h' (f (rV r [x0,x1,x2,x3,x4,x5,x6,x7,x8,x9,x10,x11,x12,x13,x14,x15,x16,x17,x18,x19,x20]))→K h') (hi:L[i]?=some (rV r cs):=by exact rfl) (hw:w.cells.toList=[v]:=by first | exact rfl | exact jD (by assumption)) (ho:fR [v]=true:=by first | exact rfl | repeat' first | exact rfl | assumption | exact Ov.h | apply cN) (hb:Nat.ble (o+1) cs.length=true:=by exact rfl) (hs:cs.take o++[v]++cs.drop (o+1)=[x0,x1,x2,x3,x4,x5,x6,x7,x8,x9,x10,x11,x12,x13,x14,x15,x16,x17,x18,x19,x20]:=by exact rfl):Sb (En.aQ 1 (.pointer (some ⟨r,o,none⟩)) w h) K:=c.vq i hi hw ho rfl hb hs fun h' c=>hk h' (s.e _▸c)
theorem Cx.eM {x0 x1 x2 x3 x4 x5 x6 x7 x8 x9 x10 x11 x12 x13 x14 x15 x16 x17 x18 x19 x20 y0 y1 y2 y3 y4 y5 y6 y7 a b d:Value} (c:Cx F0 h0 h L) (i j:Nat) [s:Stt L i f] [s':Stt (f (rV r [x0,x1,x2,x3,x4,x5,x6,x7,x8,x9,x10,x11,x12,x13,x14,x15,x16,x17,x18,x19,x20])) j f'] {R:Value→Hp→Prop} (hk:∀h',Cx F0 h0 h' (f' (rV q [y0,y1,y2,y3,y4,y5,y6,y7]))→R (.tuple #[.agg ⟨[x0,x1,x2,x3,x4,x5,x6,x7,x8,x9,x10,x11,x12,x13,x14,x15,x16,x17,x18,x19,x20]⟩,.agg ⟨[y0,y1,y2,y3,y4,y5,y6,y7]⟩,d]) h') (hi:L[i]?=some (rV r csx):=by exact rfl) (hj:L[j]?=some (rV q csy):=by exact rfl) (hij:Nat.beq i j=false:=by exact rfl) (ha:a.cells.toList=[x0,x1,x2,x3,x4,x5,x6,x7,x8,x9,x10,x11,x12,x13,x14,x15,x16,x17,x18,x19,x20]:=by exact rfl) (oa:fR [x0,x1,x2,x3,x4,x5,x6,x7,x8,x9,x10,x11,x12,x13,x14,x15,x16,x17,x18,x19,x20]=true:=by first | exact rfl | repeat' first | exact rfl | assumption | exact Ov.h | apply cN) (da:21=csx.length:=by exact rfl) (hb:b.cells.toList=[y0,y1,y2,y3,y4,y5,y6,y7]:=by exact rfl) (ob:fR [y0,y1,y2,y3,y4,y5,y6,y7]=true:=by first | exact rfl | repeat' first | exact rfl | assumption | exact Ov.h | apply cN) (db:8=csy.length:=by exact rfl):T3 21 (cA r) 8 (cA q) (.tuple #[a,b,d]) h R:=c.t3 i j hi hj hij ha oa rfl da hb ob rfl db fun h' c=>hk h' (by rw [s.e,s'.e] at c; exact c)
theorem Cx.pU {x0 x1 x2 x3 x4 x5 x6 x7 x8 x9 x10 x11 x12 x13 x14 y0 y1 y2 y3 y4 y5 y6 y7 a b d:Value} (c:Cx F0 h0 h L) (i j:Nat) [s:Stt L i f] [s':Stt (f (rV r [x0,x1,x2,x3,x4,x5,x6,x7,x8,x9,x10,x11,x12,x13,x14])) j f'] {R:Value→Hp→Prop} (hk:∀h',Cx F0 h0 h' (f' (rV q [y0,y1,y2,y3,y4,y5,y6,y7]))→R (.tuple #[.agg ⟨[x0,x1,x2,x3,x4,x5,x6,x7,x8,x9,x10,x11,x12,x13,x14]⟩,.agg ⟨[y0,y1,y2,y3,y4,y5,y6,y7]⟩,d]) h') (hi:L[i]?=some (rV r csx):=by exact rfl) (hj:L[j]?=some (rV q csy):=by exact rfl) (hij:Nat.beq i j=false:=by exact rfl) (ha:a.cells.toList=[x0,x1,x2,x3,x4,x5,x6,x7,x8,x9,x10,x11,x12,x13,x14]:=by exact rfl) (oa:fR [x0,x1,x2,x3,x4,x5,x6,x7,x8,x9,x10,x11,x12,x13,x14]=true:=by first | exact rfl | repeat' first | exact rfl | assumption | exact Ov.h | apply cN) (da:15=csx.length:=by exact rfl) (hb:b.cells.toList=[y0,y1,y2,y3,y4,y5,y6,y7]:=by exact rfl) (ob:fR [y0,y1,y2,y3,y4,y5,y6,y7]=true:=by first | exact rfl | repeat' first | exact rfl | assumption | exact Ov.h | apply cN) (db:8=csy.length:=by exact rfl):T3 15 (cA r) 8 (cA q) (.tuple #[a,b,d]) h R:=c.t3 i j hi hj hij ha oa rfl da hb ob rfl db fun h' c=>hk h' (by rw [s.e,s'.e] at c; exact c)
theorem Cx.X6 {x0 x1 y0 y1 y2 a b d:Value} (c:Cx F0 h0 h L) (i j:Nat) [s:Stt L i f] [s':Stt (f (rV r [x0,x1])) j f'] {R:Value→Hp→Prop} (hk:∀h',Cx F0 h0 h' (f' (rV q [y0,y1,y2]))→R (.tuple #[.agg ⟨[x0,x1]⟩,.agg ⟨[y0,y1,y2]⟩,d]) h') (hi:L[i]?=some (rV r csx):=by exact rfl) (hj:L[j]?=some (rV q csy):=by exact rfl) (hij:Nat.beq i j=false:=by exact rfl) (ha:a.cells.toList=[x0,x1]:=by exact rfl) (oa:fR [x0,x1]=true:=by first | exact rfl | repeat' first | exact rfl | assumption | exact Ov.h | apply cN) (da:2=csx.length:=by exact rfl) (hb:b.cells.toList=[y0,y1,y2]:=by exact rfl) (ob:fR [y0,y1,y2]=true:=by first | exact rfl | repeat' first | exact rfl | assumption | exact Ov.h | apply cN) (db:3=csy.length:=by exact rfl):T3 2 (cA r) 3 (cA q) (.tuple #[a,b,d]) h R:=c.t3 i j hi hj hij ha oa rfl da hb ob rfl db fun h' c=>hk h' (by rw [s.e,s'.e] at c; exact c)
theorem Cx.t8 {y0 y1 y2 y3 y4 y5 y6 y7 a b d:Value} (c:Cx F0 h0 h L) (j:Nat) [s:Stt L j f] {R:Value→Hp→Prop} (hk:∀h',Cx F0 h0 h' (f (rV q [y0,y1,y2,y3,y4,y5,y6,y7]))→R (.tuple #[a,.agg ⟨[y0,y1,y2,y3,y4,y5,y6,y7]⟩,d]) h') (hj:L[j]?=some (rV q csy):=by exact rfl) (hb:b.cells.toList=[y0,y1,y2,y3,y4,y5,y6,y7]:=by exact rfl) (ob:fR [y0,y1,y2,y3,y4,y5,y6,y7]=true:=by first | exact rfl | repeat' first | exact rfl | assumption | exact Ov.h | apply cN) (db:8=csy.length:=by exact rfl):T2 8 (cA q) (.tuple #[a,b,d]) h R:=c.t2 j hj hb ob rfl db fun h' c=>hk h' (s.e _▸c)
theorem vx {o:Option Value} {v:Value} {k:Value→Prop} (e:o=some v) (h:k v):Vb o k:=⟨v,e,h⟩
end
end Go.En
namespace Go.En
variable {S:Sys} {I:aZ} {h h0 h':Hp} {F F0:Fp} {R:Value→Hp→Prop} {L:List bQ}
def GZ:Nat→Int:=fun i=>([8,8,8,1,104,0,32]:List Int).getD i 0
structure Zs (h:Hp):Prop where
 row:Row (EAr .i64 7) h 0 0 GZ
theorem Zs.gr (H:Zs h) (g:Gr h h'):Zs h':=⟨H.row.ch g fun e=>e⟩
theorem Zs.adr {q:IntKind} {z:Int} {i:Nat} (hz:z=i) (hi:i<7):Jj 7 1 (.pointer (some ⟨0,0,none⟩)) (.int q z)=some (.pointer (some ⟨0,0+i,none⟩)):=VJ hz hi 0
theorem Zs.ld (H:Zs h) {i:Nat} (hi:i<7):dU (.pointer (some ⟨0,0+i,none⟩)) h=some (.int .i64 (GZ i)):=H.row.dU (Q8 hi)
def Pz (S:Sys) (f:Nat) (args:List Value) (v:Value):Prop:=∀h (R:Value→Hp→Prop),Zs h→(∀h',Gr h h'→R v h')→S.C f args h R
def EL:qd (Int × Int × Int):={n:=3,c:=fun x=>[.int .i64 x.1,.int .i64 x.2.1,.int .i64 x.2.2],len:=fun _=>rfl,one:=fun a v h=>by simp only [List.mem_cons,List.not_mem_nil,or_false] at h; rcases h with rfl | rfl | rfl <;> rfl}
abbrev lay:Int × Int × Int:=(3,6,4)
def vL:Value:=.agg ⟨EL.c lay⟩
def sg:Nat→Int:=fun i=>([1,3,3,6,3,4,4]:List Int).getD i 0
def EA:Nat→Int:=fun i=>([8,24,24,8,312,8,128]:List Int).getD i 0
def qj:Nat→Int:=fun i=>([0,8,32,56,64,376,384,512]:List Int).getD i 0
theorem Uw {p:Nat} {P:Nat→Prop} (h:p<7) (h0:P 0) (h1:P 1) (h2:P 2) (h3:P 3) (h4:P 4) (h5:P 5) (h6:P 6):P p:=by
 match p,h with
 | 0,_=>exact h0
 | 1,_=>exact h1
 | 2,_=>exact h2
 | 3,_=>exact h3
 | 4,_=>exact h4
 | 5,_=>exact h5
 | 6,_=>exact h6
 | p+7,h=>omega
theorem TL {p:Nat} (hp:p<7) (hR:∀h',Gr h h'→R (.int .i64 (sg p)) h'):oX S I vL (.int .i64 p) h R:=by
 unfold oX
 refine (Cx.aA h).nw EL lay rfl fun r h1 c=>?_
 refine (c.va (i:=0) rfl).A4 (j:=0) rfl ?_
 refine (c.va (i:=0) rfl).A4 (j:=0) rfl ?_
 refine (c.va (i:=0) rfl).A4 (j:=1) rfl ?_
 refine (c.va (i:=0) rfl).A4 (j:=0) rfl ?_
 refine (c.va (i:=0) rfl).A4 (j:=2) rfl ?_
 refine (c.va (i:=0) rfl).A4 (j:=2) rfl ?_
 refine En.vb (v:=.agg #[.int .i64 1,.int .i64 3,.int .i64 3,.int .i64 6,.int .i64 3,.int .i64 4,.int .i64 4]) (by kernel_rfl) ?_
 refine En.vb (v:=.int .i64 (sg p)) ?_ (hR _ c.gr)
 refine Uw (P:=fun p=>Y0 7 1 (.agg #[.int .i64 1,.int .i64 3,.int .i64 3,.int .i64 6,.int .i64 3,.int .i64 4,.int .i64 4]) (.int .i64 (p:Int))=some (.int .i64 (sg p))) hp ?_ ?_ ?_ ?_ ?_ ?_ ?_ <;> kernel_rfl
structure Y5 (S:Sys) (I:aZ):Prop where
 many:∀{p:Nat},p<7→Pz S I.gN [vL,.int .i64 p] (.int .i64 (sg p))
theorem Ud {p:Nat} (cs:Y5 S I) (Z:Zs h) (hp:p<7) (hR:∀h',Gr h h'→R (.int .i64 (EA p)) h'):oN S I vL (.int .i64 p) h R:=by
 unfold oN
 refine (Cx.aA h).nw EL lay rfl fun r h1 c=>?_
 rw [show aF 3 (cA r) h1=some vL from (c.va (i:=0) rfl).whole rfl,bC]
 rw [Zs.adr rfl hp,bC,(Z.gr c.gr).ld hp,bC]
 refine cs.many hp h1 _ (Z.gr c.gr) fun h2 g=>?_
 have c:=c.more g
 refine ⟨(Z.gr c.gr).ld hp,?_⟩
 rw [Bu,bC]
 have fin:∀(n:Int) h3,Gr h h3→((n+8 - 1).tdiv 8*8=EA p)→(0≤n∧n≤1000)→Vb (bin .add (.int .i64 n) (.int .i64 8)) fun v24=>Vb (bin .sub v24 (.int .i64 1)) fun v25=>Vb (bin .quo v25 (.int .i64 8)) fun v26=>Vb (bin .mul v26 (.int .i64 8)) fun v27=>R v27 h3:=fun n h3 g e hn=>by
  have h1:0≤(n+8 - 1) / 8:=by omega
  have h2:(n+8 - 1).tdiv 8=(n+8 - 1) / 8:=Int.tdiv_eq_ediv_of_nonneg (by omega)
  rw [qV ⟨by omega,by omega⟩,bC,nj ⟨by omega,by omega⟩,bC,EF ⟨by omega,by omega⟩ (by decide),bC,Bu,bC,EZ ⟨by omega,by omega⟩,←h2,e]
  exact hR h3 g
 refine .here ?_
 refine lq.at (fun v h'=>v=.bool (decide (GZ p=0∧sg p > 0))∧Cx (fun _=>False) h h' [E1 EL r lay]) ?_ ?_
 ·rw [bC,(Z.gr c.gr).ld hp,bC,iQ,bC]
  refine pC (fun e=>?_) fun e=>?_
  ·rw [show aF 3 (cA r) h2=some vL from (c.va (i:=0) rfl).whole rfl,bC]
   refine cs.many hp h2 _ (Z.gr c.gr) fun h3 g=>?_
   rw [pP,bC]
   exact ⟨by congr 1; exact decide_eq_decide.2 ⟨fun h=>⟨e,h⟩,fun h=>h.2⟩,c.more g⟩
  ·exact ⟨by rw [decide_eq_false fun h=>e h.1],c⟩
 rintro v h3 ⟨rfl,c⟩
 refine pC (fun e=>?_) fun e=>?_
 ·refine fin 8 h3 c.gr ?_ ⟨by decide,by decide⟩
  revert e
  refine Uw (P:=fun p=>GZ p=0∧sg p > 0→((8:Int)+8 - 1).tdiv 8*8=EA p) hp ?_ ?_ ?_ ?_ ?_ ?_ ?_ <;> decide
 ·have e1:IntKind.i64.wrap (sg p*GZ p)=sg p*GZ p:=by
   refine Uw (P:=fun p=>IntKind.i64.wrap (sg p*GZ p)=sg p*GZ p) hp ?_ ?_ ?_ ?_ ?_ ?_ ?_ <;> decide
  rw [e1]
  refine fin _ h3 c.gr ?_ ?_
  ·revert e
   refine Uw (P:=fun p=>¬(GZ p=0∧sg p > 0)→(sg p*GZ p+8 - 1).tdiv 8*8=EA p) hp ?_ ?_ ?_ ?_ ?_ ?_ ?_ <;> decide
  ·refine Uw (P:=fun p=>0≤sg p*GZ p∧sg p*GZ p≤1000) hp ?_ ?_ ?_ ?_ ?_ ?_ ?_ <;> decide
structure ZE (S:Sys) (I:aZ):Prop extends Y5 S I where
 Xm:∀{p:Nat},p<7→Pz S I.l8 [vL,.int .i64 p] (.int .i64 (EA p))
theorem VR {p:Nat} (cs:ZE S I) (Z:Zs h) (hp:p<8) (hR:∀h',Gr h h'→R (.int .i64 (qj p)) h'):pq S I vL (.int .i64 p) h R:=by
 unfold pq
 refine (Cx.aA h).nw EL lay rfl fun r h1 c=>?_
 refine Az.by (fun (i:Nat) u v h'=>u=.int .i64 (qj i)∧v=.int .i64 i∧i≤p∧Cx (fun _=>False) h h' [E1 EL r lay]) (fun i=>p - i) 0 ⟨rfl,rfl,Nat.zero_le _,c⟩ ?_
 clear c
 rintro i u v h2 ⟨rfl,rfl,hi,c⟩ again hagain
 rw [cH,bC]
 refine pC (fun e=>?_) fun e=>?_
 ·have hi7:i<7:=by omega
  rw [show aF 3 (cA r) h2=some vL from (c.va (i:=0) rfl).whole rfl,bC]
  refine cs.Xm hi7 h2 _ (Z.gr c.gr) fun h3 g=>?_
  have ef:bin .add (.int .i64 (qj i)) (.int .i64 (EA i))=some (.int .i64 (qj (i+1))):=by
   refine Uw (P:=fun i=>bin .add (.int .i64 (qj i)) (.int .i64 (EA i))=some (.int .i64 (qj (i+1)))) hi7 ?_ ?_ ?_ ?_ ?_ ?_ ?_ <;> kernel_rfl
  rw [ef,bC,DQ,bC,wrS (by omega)]
  exact hagain (i+1) _ _ _ ⟨rfl,rfl,by omega,c.more g⟩ (by omega)
 ·have:i=p:=by omega
  subst this
  exact hR _ c.gr
theorem Mm {n a b:Int} (hR:∀h',Gr h h'→R (.bool (decide (a≤n∧n≤b))) h'):sh S I (.int .i64 n) (.int .i64 a) (.int .i64 b) h R:=by
 unfold sh
 refine .here ?_
 rw [rZ,bC]
 refine pC (fun e=>?_) fun e=>?_
 ·rw [DJ,bC,show decide (n≤b)=decide (a≤n∧n≤b) from decide_eq_decide.2 ⟨fun h=>⟨e,h⟩,fun h=>h.2⟩]
  exact hR _ (.refl _ _)
 ·rw [show false=decide (a≤n∧n≤b) from (decide_eq_false fun h=>e h.1).symm]
  exact hR _ (.refl _ _)
structure CeC (S:Sys) (I:aZ):Prop extends ZE S I where
 Nh:∀{p:Nat},p<8→Pz S I.dH [vL,.int .i64 p] (.int .i64 (qj p))
 DS:∀{n a b:Int},Pz S I.k7 [.int .i64 n,.int .i64 a,.int .i64 b] (.bool (decide (a≤n∧n≤b)))
theorem R0 (cs:CeC S I) (Z:Zs h) (hR:∀h',Gr h h'→R (.int .i64 0) h'):ot S I vL h R:=by
 unfold ot
 refine (Cx.aA h).nw EL lay rfl fun r h1 c=>?_
 refine lq.at (fun v h'=>v=.bool false∧Cx (fun _=>False) h h' [E1 EL r lay]) ?_ ?_
 ·refine (c.va (i:=0) rfl).A4 (j:=0) rfl ?_
  refine cs.DS h1 _ (Z.gr c.gr) fun h2 g=>?_
  have c:=c.more g
  refine En.vb (v:=.bool false) rfl ?_
  rw [p9]
  refine (c.va (i:=0) rfl).A4 (j:=1) rfl ?_
  refine cs.DS h2 _ (Z.gr c.gr) fun h3 g=>?_
  have c:=c.more g
  refine En.vb (v:=.bool false) rfl ?_
  rw [p9]
  refine (c.va (i:=0) rfl).A4 (j:=2) rfl ?_
  refine cs.DS h3 _ (Z.gr c.gr) fun h4 g=>?_
  refine En.vb (v:=.bool false) rfl ?_
  exact ⟨rfl,c.more g⟩
 rintro v h2 ⟨rfl,c⟩
 rw [p9,show aF 3 (cA r) h2=some vL from (c.va (i:=0) rfl).whole rfl,bC]
 refine cs.Nh (p:=7) (by decide) h2 _ (Z.gr c.gr) fun h3 g=>?_
 refine En.vb (v:=.bool false) (by kernel_rfl) ?_
 rw [p9]
 exact hR _ (c.more g).gr
structure Zc (S:Sys) (I:aZ):Prop extends CeC S I where
 check:Pz S I.cI [vL] (.int .i64 0)
theorem QG (cs:Zc S I) (Z:Zs h) (hR:∀h',Gr h h'→R (.bool true) h'):om S I vL h R:=by
 unfold om
 refine (Cx.aA h).nw EL lay rfl fun r h1 c=>?_
 rw [show aF 3 (cA r) h1=some vL from (c.va (i:=0) rfl).whole rfl,bC]
 refine cs.check h1 _ (Z.gr c.gr) fun h2 g=>?_
 rw [eqI,bC]
 exact hR _ (c.more g).gr
structure YZ (S:Sys) (I:aZ):Prop extends Zc S I where
 right:Pz S I.eX [vL] (.bool true)
theorem Ou (cs:YZ S I) (Z:Zs h) (hR:∀h',Gr h h'→R (.int .i64 512) h'):py S I vL h R:=by
 unfold py
 refine (Cx.aA h).nw EL lay rfl fun r h1 c=>?_
 rw [show aF 3 (cA r) h1=some vL from (c.va (i:=0) rfl).whole rfl,bC]
 refine cs.right h1 _ (Z.gr c.gr) fun h2 g=>?_
 have c:=c.more g
 refine En.vb (v:=.bool false) rfl ?_
 rw [p9,show aF 3 (cA r) h2=some vL from (c.va (i:=0) rfl).whole rfl,bC]
 exact cs.Nh (p:=7) (by decide) h2 _ (Z.gr c.gr) fun h3 g=>hR _ (c.more g).gr
def SK (p:Nat) (i more:Int):Int:=if 0≤i∧i<sg p then qj p+i*GZ p+more else -1
theorem ZG {p:Nat} {i more:Int} (cs:YZ S I) (Z:Zs h) (hp:p<7) (hm:0≤more∧more≤1000) (hR:∀h',Gr h h'→R (.int .i64 (SK p i more)) h'):qA S I vL (.int .i64 p) (.int .i64 i) (.int .i64 more) h R:=by
 have hb:sg p≤8∧0≤GZ p∧GZ p≤104∧0≤qj p∧qj p≤512:=by
  refine Uw (P:=fun p=>sg p≤8∧0≤GZ p∧GZ p≤104∧0≤qj p∧qj p≤512) hp ?_ ?_ ?_ ?_ ?_ ?_ ?_ <;> decide
 unfold qA
 refine (Cx.aA h).nw EL lay rfl fun r h1 c=>?_
 refine lq.at (fun v h'=>v=.bool (decide (¬(0≤i∧i<sg p)))∧Cx (fun _=>False) h h' [E1 EL r lay]) ?_ ?_
 ·rw [show aF 3 (cA r) h1=some vL from (c.va (i:=0) rfl).whole rfl,bC]
  refine cs.right h1 _ (Z.gr c.gr) fun h2 g=>?_
  have c:=c.more g
  refine En.vb (v:=.bool false) rfl ?_
  rw [p9,cH,bC]
  refine pC (fun e=>?_) fun e=>?_
  ·exact ⟨by rw [decide_eq_true]; omega,c⟩
  rw [show aF 3 (cA r) h2=some vL from (c.va (i:=0) rfl).whole rfl,bC]
  refine cs.many hp h2 _ (Z.gr c.gr) fun h3 g=>?_
  rw [rZ,bC]
  exact ⟨by congr 1; exact decide_eq_decide.2 (by omega),c.more g⟩
 rintro v h2 ⟨rfl,c⟩
 refine pC (fun e=>?_) fun e=>?_
 ·have:=hR _ c.gr
  rwa [SK,if_neg e] at this
 have e:=Decidable.not_not.1 e
 have hR:=hR
 unfold SK at hR
 rw [if_pos e] at hR
 have hmul:0≤i*GZ p∧i*GZ p≤832:=⟨Int.mul_nonneg e.1 hb.2.1,Int.le_trans (Int.mul_le_mul (by omega:i≤8) hb.2.2.1 hb.2.1 (by decide)) (by decide)⟩
 rw [show aF 3 (cA r) h2=some vL from (c.va (i:=0) rfl).whole rfl,bC,Zs.adr rfl hp,bC,(Z.gr c.gr).ld hp,bC,Bu,bC,EZ ⟨by omega,by omega⟩]
 refine cs.Nh (p:=p) (by omega) h2 _ (Z.gr c.gr) fun h3 g=>?_
 have c:=c.more g
 refine ⟨(Z.gr c.gr).ld hp,?_⟩
 rw [qV ⟨by omega,by omega⟩,bC,qV ⟨by omega,by omega⟩,bC]
 exact hR _ c.gr
structure SQ (S:Sys) (I:aZ):Prop extends YZ S I where
 at':∀{p:Nat} {i more:Int},p<7→0≤more∧more≤1000→Pz S I.fC [vL,.int .i64 p,.int .i64 i,.int .i64 more] (.int .i64 (SK p i more))
 size:Pz S I.gO [vL] (.int .i64 512)
end Go.En
namespace Go.En
variable {S:Sys} {I:aZ} {h h0 h':Hp} {F F0:Fp} {R:Value→Hp→Prop} {L:List bQ}
abbrev sU (f:Nat):Value:=.func (.func f) #[] #[]
structure Ac where
 op:Int
 at':Int
 old:W3
 new:W3
def nJ (x:Ac):Value:=.agg #[.int .i64 x.op,.int .i64 x.at',.int .i64 x.old.v,.int .u32 x.old.dN,.int .u32 x.old.ref,.int .i64 x.new.v,.int .u32 x.new.dN,.int .u32 x.new.ref]
abbrev mL:Ac:=⟨0,0,W0,W0⟩
structure iM where
 w:W3
 ok:Bool
def k6 (x:iM):Value:=.agg #[.int .i64 x.w.v,.int .u32 x.w.dN,.int .u32 x.w.ref,.bool x.ok]
abbrev qY:iM:=⟨W0,false⟩
end Go.En
namespace Go.En
variable {S:Sys} {I:aZ} {h h0 h':Hp} {F F0:Fp} {R:Value→Hp→Prop} {L:List bQ}
def ux (i:Int):Int:=if 0≤i∧i<6 then 56+i else -1
def m5 (t:Int):Int:=if 1≤t∧t≤3 then 104*t - 40 else -1
def lC (i:Int):Int:=if 0≤i∧i<4 then 384+32*i else -1
def bF (who:Int):Int:=if 9≤who then lC (who - 9) else m5 who
def m8 (who:Int):Int:=if bF who<0 then 0 else if 9≤who then 10 else 32
def qD (a:Int):Bool:=decide (56≤a∧a<62∨32≤a∧a<56∧a % 8<3)
theorem lt4 {p:Nat} {P:Nat→Prop} (h:p<4) (h0:P 0) (h1:P 1) (h2:P 2) (h3:P 3):P p:=by
 match p,h with
 | 0,_=>exact h0
 | 1,_=>exact h1
 | 2,_=>exact h2
 | 3,_=>exact h3
 | p+4,h=>omega
theorem Sd (i:Int):SK 3 i 0=ux i:=by
 show (if 0≤i∧i<6 then (56:Int)+i*1+0 else -1)=_
 unfold ux
 rw [Int.mul_one,Int.add_zero]
theorem RI (t:Int):SK 4 (t - 1) 0=m5 t:=by
 show (if 0≤t - 1∧t - 1<3 then (64:Int)+(t - 1)*104+0 else -1)=_
 unfold m5
 by_cases h:1≤t∧t≤3
 ·rw [if_pos (by omega),if_pos h]; omega
 ·rw [if_neg (by omega),if_neg h]
theorem OW (i:Int):SK 6 i 0=lC i:=by
 show (if 0≤i∧i<4 then (384:Int)+i*32+0 else -1)=_
 unfold lC
 by_cases h:0≤i∧i<4
 ·rw [if_pos h,if_pos h]; omega
 ·rw [if_neg h,if_neg h]
section
variable {t i:Int}
theorem WD (cs:SQ S I) (Z:Zs h) (hR:∀h',Gr h h'→R (.int .i64 1) h'):p7 S I vL h R:=by
 unfold p7
 have c:=Cx.aA h
 refine c.v3 fun _ _ c=>?_
 refine c.rl 0 ?_
 refine cs.at' (p:=0) (i:=0) (more:=1) (by decide) (by decide) _ _ (Z.gr c.gr) fun _ g=>?_
 have c:=c.more g
 exact hR _ c.gr
theorem UB (cs:SQ S I) (Z:Zs h) (hR:∀h',Gr h h'→R (.int .i64 (ux i)) h'):pa S I vL (.int .i64 i) h R:=by
 rw [←Sd] at hR
 unfold pa
 have c:=Cx.aA h
 refine c.v3 fun _ _ c=>?_
 refine c.rl 0 ?_
 refine cs.at' (p:=3) (i:=i) (more:=0) (by decide) (by decide) _ _ (Z.gr c.gr) fun _ g=>?_
 have c:=c.more g
 exact hR _ c.gr
theorem U0 (cs:SQ S I) (Z:Zs h) (ht : -1000≤t∧t≤1000) (hR:∀h',Gr h h'→R (.int .i64 (m5 t)) h'):oU S I vL (.int .i64 t) h R:=by
 rw [←RI] at hR
 unfold oU
 have c:=Cx.aA h
 refine c.v3 fun _ _ c=>?_
 refine c.rl 0 ?_
 refine vx (nj ⟨by omega,by omega⟩)<|cs.at' (p:=4) (i:=t - 1) (more:=0) (by decide) (by decide) _ _ (Z.gr c.gr) fun _ g=>?_
 have c:=c.more g
 exact hR _ c.gr
theorem Ql (cs:SQ S I) (Z:Zs h) (hR:∀h',Gr h h'→R (.int .i64 (lC i)) h'):ol S I vL (.int .i64 i) h R:=by
 rw [←OW] at hR
 unfold ol
 have c:=Cx.aA h
 refine c.v3 fun _ _ c=>?_
 refine c.rl 0 ?_
 refine cs.at' (p:=6) (i:=i) (more:=0) (by decide) (by decide) _ _ (Z.gr c.gr) fun _ g=>?_
 have c:=c.more g
 exact hR _ c.gr
theorem Vk {i:Nat} (cs:SQ S I) (Z:Zs h) (hi:i<4) (hR:∀h',Gr h h'→R (.tuple #[.int .i64 376,.int .i64 (2 ^ i)]) h'):oV S I vL (.int .i64 i) h R:=by
 have ea:SK 5 i 0=376:=by
  show (if 0≤(i:Int)∧(i:Int)<4 then (376:Int)+i*0+0 else -1)=_
  rw [if_pos (by omega)]; omega
 have eq:((i:Int).tdiv 32)=0:=by match i,hi with | 0,_ | 1,_ | 2,_ | 3,_=>rfl
 have er:bin .rem (.int .i64 i) (.int .i64 32)=some (.int .i64 i):=by match i,hi with | 0,_ | 1,_ | 2,_ | 3,_=>rfl
 have es:bin .shl (.int .i64 1) (.int .i64 i)=some (.int .i64 (2 ^ i)):=by
  refine lt4 (P:=fun i=>bin .shl (.int .i64 1) (.int .i64 (i:Int))=some (.int .i64 (2 ^ i))) hi ?_ ?_ ?_ ?_ <;> kernel_rfl
 unfold oV
 have c:=Cx.aA h
 refine c.v3 fun _ _ c=>?_
 refine c.rl 0 ?_
 refine vx (v:=.int .i64 0) (by match i,hi with | 0,_ | 1,_ | 2,_ | 3,_=>rfl)<|cs.at' (p:=5) (i:=i) (more:=0) (by decide) (by decide) _ _ (Z.gr c.gr) fun _ g=>?_
 have c:=c.more g
 rw [ea]
 exact vx (v:=.bool false) rfl<|bD<|vx er<|vx es<|hR _ c.gr
structure Vr (S:Sys) (I:aZ):Prop extends SQ S I where
 era:Pz S I.mQ [vL] (.int .i64 1)
 cell:∀{i:Int},Pz S I.cF [vL,.int .i64 i] (.int .i64 (ux i))
 DZ:∀{t:Int},-1000≤t∧t≤1000→Pz S I.gK [vL,.int .i64 t] (.int .i64 (m5 t))
 Eu:∀{i:Int},Pz S I.fY [vL,.int .i64 i] (.int .i64 (lC i))
 FV:∀{i:Nat},i<4→Pz S I.fI [vL,.int .i64 i] (.tuple #[.int .i64 376,.int .i64 (2 ^ i)])
theorem QB {who:Int} (cs:Vr S I) (Z:Zs h) (hw : -1000≤who∧who≤1000) (hR:∀h',Gr h h'→R (.tuple #[.int .i64 (bF who),.int .i64 (m8 who)]) h'):gA S I vL (.int .i64 who) h R:=by
 have hl:bF who = -1∨0≤bF who:=by unfold bF lC m5; split <;> split <;> omega
 by_cases e9:9≤who
 ·have ep:lC (who - 9)=bF who:=by unfold bF; rw [if_pos e9]
  by_cases e0:bF who<0
  ·have em:m8 who=0:=by unfold m8; rw [if_pos e0]
   have e1:bF who = -1:=by omega
   rw [em,e1] at hR
   unfold gA
   have c:=Cx.aA h
   refine c.v3 fun _ _ c=>?_
   refine c.rl 0 ?_
   refine cs.DZ hw _ _ (Z.gr c.gr) fun _ g=>?_
   have c:=c.more g
   refine .here<|vx (uA e9)<|eR<|c.rl 0 ?_
   refine vx (nj ⟨by omega,by omega⟩)<|cs.Eu _ _ (Z.gr c.gr) fun _ g=>?_
   have c:=c.more g
   rw [ep]
   exact vx (yH e0)<|eR<|hR _ c.gr
  ·have em:m8 who=10:=by unfold m8; rw [if_neg e0,if_pos e9]
   rw [em] at hR
   unfold gA
   have c:=Cx.aA h
   refine c.v3 fun _ _ c=>?_
   refine c.rl 0 ?_
   refine cs.DZ hw _ _ (Z.gr c.gr) fun _ g=>?_
   have c:=c.more g
   refine .here<|vx (uA e9)<|eR<|c.rl 0 ?_
   refine vx (nj ⟨by omega,by omega⟩)<|cs.Eu _ _ (Z.gr c.gr) fun _ g=>?_
   have c:=c.more g
   rw [ep]
   exact vx (iZ e0)<|bD<|hR _ c.gr
 ·have ep:m5 who=bF who:=by unfold bF; rw [if_neg e9]
  by_cases e0:bF who<0
  ·have em:m8 who=0:=by unfold m8; rw [if_pos e0]
   have e1:bF who = -1:=by omega
   rw [em,e1] at hR
   unfold gA
   have c:=Cx.aA h
   refine c.v3 fun _ _ c=>?_
   refine c.rl 0 ?_
   refine cs.DZ hw _ _ (Z.gr c.gr) fun _ g=>?_
   have c:=c.more g
   rw [ep]
   exact .here<|vx (o8 e9)<|bD<|vx (yH e0)<|eR<|hR _ c.gr
  ·have em:m8 who=32:=by unfold m8; rw [if_neg e0,if_neg e9]
   rw [em] at hR
   unfold gA
   have c:=Cx.aA h
   refine c.v3 fun _ _ c=>?_
   refine c.rl 0 ?_
   refine cs.DZ hw _ _ (Z.gr c.gr) fun _ g=>?_
   have c:=c.more g
   rw [ep]
   exact .here<|vx (o8 e9)<|bD<|vx (iZ e0)<|bD<|hR _ c.gr
theorem Xv {a:Int} (cs:SQ S I) (Z:Zs h) (ha : -1000000≤a∧a≤1000000) (hR:∀h',Gr h h'→R (.bool (qD a)) h'):kJ S I vL (.int .i64 a) h R:=by
 by_cases e1:56≤a∧a<62
 ·have em:qD a=true:=decide_eq_true (.inl e1)
  rw [em] at hR
  unfold kJ
  have c:=Cx.aA h
  refine c.v3 fun _ _ c=>?_
  refine c.rl 0 ?_
  refine cs.right _ _ (Z.gr c.gr) fun _ g=>?_
  have c:=c.more g
  refine vx (v:=.bool false) (rfl)<|bD<|c.rl 0 ?_
  refine cs.Nh (p:=3) (by decide) _ _ (Z.gr c.gr) fun _ g=>?_
  have c:=c.more g
  rw [show qj 3=56 from rfl]
  refine vx (nj ⟨by omega,by omega⟩) ?_
  refine .here<|vx (uA ((by omega)))<|eR<|aD<|c.rc 0 ?_
  exact vx (yH (show a - 56<6 by omega))<|eR<|hR _ c.gr
 ·by_cases e2:32≤a∧a<56
  ·have em:qD a=decide (a % 8<3):=decide_eq_decide.2 ⟨fun h=>h.elim (fun x=>absurd x e1) fun x=>x.2.2,fun h=>.inr ⟨e2.1,e2.2,h⟩⟩
   rw [em] at hR
   unfold kJ
   have c:=Cx.aA h
   refine c.v3 fun _ _ c=>?_
   refine c.rl 0 ?_
   refine cs.right _ _ (Z.gr c.gr) fun _ g=>?_
   have c:=c.more g
   refine vx (v:=.bool false) (rfl)<|bD<|c.rl 0 ?_
   refine cs.Nh (p:=3) (by decide) _ _ (Z.gr c.gr) fun _ g=>?_
   have c:=c.more g
   rw [show qj 3=56 from rfl]
   refine vx (nj ⟨by omega,by omega⟩) ?_
   refine .here<|vx (o8 ((by omega)))<|bD<|bD ?_
   refine .here<|c.rl 0 ?_
   refine cs.Nh (p:=2) (by decide) _ _ (Z.gr c.gr) fun _ g=>?_
   have c:=c.more g
   rw [show qj 2=32 from rfl]
   refine vx (uA e2.1)<|eR<|c.rl 0 ?_
   refine cs.Nh (p:=3) (by decide) _ _ (Z.gr c.gr) fun _ g=>?_
   have c:=c.more g
   rw [show qj 3=56 from rfl]
   exact vx (yH e2.2)<|eR<|vx (Fu (by omega) (by decide))<|vx (cH ..)<|hR _ c.gr
  ·have em:qD a=false:=decide_eq_false fun h=>h.elim e1 fun x=>e2 ⟨x.1,x.2.1⟩
   rw [em] at hR
   unfold kJ
   have c:=Cx.aA h
   refine c.v3 fun _ _ c=>?_
   refine c.rl 0 ?_
   refine cs.right _ _ (Z.gr c.gr) fun _ g=>?_
   have c:=c.more g
   refine vx (v:=.bool false) (rfl)<|bD<|c.rl 0 ?_
   refine cs.Nh (p:=3) (by decide) _ _ (Z.gr c.gr) fun _ g=>?_
   have c:=c.more g
   rw [show qj 3=56 from rfl]
   refine vx (nj ⟨by omega,by omega⟩) ?_
   refine .here<|vx rZ<|pC (fun q=>?_) fun q=>?_
   ·refine aD<|c.rc 0 ?_
    refine vx (iZ (show ¬a - 56<6 by omega))<|bD ?_
    refine .here<|c.rl 0 ?_
    refine cs.Nh (p:=2) (by decide) _ _ (Z.gr c.gr) fun _ g=>?_
    have c:=c.more g
    rw [show qj 2=32 from rfl]
    refine vx rZ<|pC (fun q2=>?_) fun q2=>?_
    ·refine c.rl 0 ?_
     refine cs.Nh (p:=3) (by decide) _ _ (Z.gr c.gr) fun _ g=>?_
     have c:=c.more g
     rw [show qj 3=56 from rfl]
     exact vx (iZ ((by omega)))<|bD<|hR _ c.gr
    ·exact hR _ c.gr
   ·refine bD ?_
    refine .here<|c.rl 0 ?_
    refine cs.Nh (p:=2) (by decide) _ _ (Z.gr c.gr) fun _ g=>?_
    have c:=c.more g
    rw [show qj 2=32 from rfl]
    refine vx rZ<|pC (fun q2=>?_) fun q2=>?_
    ·refine c.rl 0 ?_
     refine cs.Nh (p:=3) (by decide) _ _ (Z.gr c.gr) fun _ g=>?_
     have c:=c.more g
     rw [show qj 3=56 from rfl]
     exact vx (iZ ((by omega)))<|bD<|hR _ c.gr
    ·exact hR _ c.gr
end
structure YN (S:Sys) (I:aZ):Prop extends Vr S I where
 Cy:∀{who:Int},-1000≤who∧who≤1000→Pz S I.fX [vL,.int .i64 who] (.tuple #[.int .i64 (bF who),.int .i64 (m8 who)])
 LQ:∀{a:Int},-1000000≤a∧a≤1000000→Pz S I.eV [vL,.int .i64 a] (.bool (qD a))
end Go.En
namespace Go.En
variable {S:Sys} {I:aZ} {h h0 h':Hp} {F F0:Fp} {R:Value→Hp→Prop} {L:List bQ} {B B':Bs}
def mI (x:Int):Value:=.int .i64 x
def EM:qd (Option Nat):={n:=1,c:=fun a=>[.map a],len:=fun _=>rfl,one:=fun a v h=>by simp only [List.mem_singleton] at h; subst h; rfl}
def vV (a:Option Nat):Value:=.agg #[.map a]
def Mo (h:Hp) (a:Option Nat) (ps:List (Int × Int)):Prop:=(a=none∧ps=[])∨Mp .i64 mI h (.map a) ps
theorem Mo.gr {a:Option Nat} {ps:List (Int × Int)} (H:Mo h a ps) (g:Gr h h'):Mo h' a ps:=H.imp id fun m=>m.gr g
def at' (ps:List (Int × Int)) (l:Int):Int:=(gD ps l).getD 0
theorem Kf (ps:List (Int × Int)) (k x l:Int):at' (r8 ps k x) l=if l=k then x else at' ps l:=by
 unfold at'
 rw [wU]
 split <;> rfl
def Ge (ps:List (Int × Int)) (f:Int→Int):Prop:=∀l,0≤at' ps l∧f l≤at' ps l
def VO (B:Bs) (a:Option Nat) (f:Int→Int):Prop:=∃ps,(On B fun h=>Mo h a ps)∧Ge ps f
theorem VO.le {a:Option Nat} {f:Int→Int} (H:VO B a f) (l:B.le B'):VO B' a f:=let ⟨ps,m,g⟩ :=H; ⟨ps,m.le l,g⟩
theorem Mo.look {a:Option Nat} {ps:List (Int × Int)} (H:Mo h a ps) (k:Int):MF (.int .i64) (.int .i64 0) false (.map a) (.int .i64 k) h=some (.int .i64 (at' ps k)):=by
 rcases H with ⟨rfl,rfl⟩ | m
 ·rfl
 ·rw [m.look]
  unfold at'
  cases gD ps k with
  | none=>rfl
  | some x=>rfl
def rz (f:Int→Int) (l n:Int):Int→Int:=fun k=>if k=l then max n (f k) else f k
def Ev (f g:Int→Int):Int→Int:=fun k=>max (f k) (g k)
section
variable {a b:Option Nat} {ps qs:List (Int × Int)} {l n:Int} {f g:Int→Int}
theorem PO (m:Mp .i64 mI h (.map a) ps) (hR:∀k h',Cx (fun _=>False) h h' [DT .i64 mI (.map (some k)) ps]→R (.map (some k)) h'):bW S I (.map a) h R:=by
 obtain ⟨r,es,clock,e,hh,he⟩ :=m
 injection e with e
 subst e
 unfold bW
 refine En.vb (v:=.bool false) rfl ?_
 rw [p9,bC]
 refine En.eb (v:=.iface I.oE (.map (some h.size))) (h':=h.push (.map es clock)) (by simp only [Qv,hh]) ?_
 refine En.vb (v:=.map (some h.size)) (by simp [C3]) ?_
 refine hR _ _ ((Cx.aA h).add (F':=fun q=>q=h.size) ⟨⟨h.size,es,clock,rfl,by simp,he⟩,fun q=>by simp [Bw,eq_comm]⟩ (Ch.push _ _) fun r e=>by omega)
theorem LS (hR:R (.map none) h):bW S I (.map none) h R:=by
 unfold bW
 refine En.vb (v:=.bool true) rfl ?_
 rw [Gi]
 exact hR
structure Yh (S:Sys) (I:aZ):Prop extends YN S I where
 Ky:∀{a:Option Nat} {ps:List (Int × Int)} {h R},Mp .i64 mI h (.map a) ps→(∀k h',Cx (fun _=>False) h h' [DT .i64 mI (.map (some k)) ps]→R (.map (some k)) h')→S.C I.bK [.map a] h R
 KM:∀{h} {R:Value→Hp→Prop},R (.map none) h→S.C I.bK [.map none] h R
theorem Wu (b0:B.p h) (H:VO B a f) (hR:∀h' n,0≤n→f l≤n→Gr h h'→R (.int .i64 n) h'):ui S I (vV a) (.int .i64 l) h R:=by
 obtain ⟨ps,Hm,hg⟩ :=H
 have H:=Hm h b0
 unfold ui
 have c:=Cx.aA h
 refine c.v1 fun _ _ c=>?_
 refine aD<|c.rc 0 ?_
 exact vx ((H.gr c.gr).look l)<|hR _ _ (hg l).1 (hg l).2 c.gr
theorem Vo (cs:Yh S I) (b0:B.p h) (H:VO B a f) (h0:0≤l∧l<4096) (hn:0≤n) (hR:∀b,Rt B h (fun B=>VO B b (rz f l n)) fun h'=>R (vV b) h'):mX S I (vV a) (.int .i64 l) (.int .i64 n) h R:=by
 obtain ⟨ps,Ho,hg⟩ :=H
 have Hm:=Ho h b0
 by_cases hle:n≤at' ps l
 ·unfold mX
  have c:=Cx.aA h
  refine c.v1 fun _ _ c=>?_
  refine c.v1 fun _ _ c=>?_
  refine .here<|vx (iZ (by omega))<|bD<|vx (o8 (by omega))<|bD<|aD<|c.rc 0 ?_
  refine vx ((Hm.gr c.gr).look l)<|vx (IU hle)<|eR<|c.rl 0 ?_
  refine c.w1 1 fun _ c=>?_
  refine c.rl 1 ?_
  refine (hR a).nil ?_ c.gr
  refine ⟨ps,Ho.le (Bs.aR _ _),fun x=>?_⟩
  have hx:=hg x
  unfold rz
  split
  ·rename_i e
   subst e
   omega
  ·exact hx
 ·have fin:∀k h',Cx (fun _=>False) h h' [DT .i64 mI (.map (some k)) (r8 ps l n)]→R (vV (some k)) h':=fun k h' c=>by
   refine hR (some k) [DT .i64 mI (.map (some k)) (r8 ps l n)] _ (Cx.pack (L:=[]) c) ⟨_,(On.mp (i:=0) rfl).imp fun _ m=>.inr m,fun x=>?_⟩
   rw [Kf]
   have hx:=hg x
   unfold rz
   split
   ·rename_i e
    subst e
    omega
   ·exact hx
  rcases Hm with ⟨rfl,rfl⟩ | m
  ·unfold mX
   have c:=Cx.aA h
   refine c.v1 fun _ _ c=>?_
   refine c.v1 fun _ _ c=>?_
   refine .here<|vx (iZ (by omega))<|bD<|vx (o8 (by omega))<|bD<|aD<|c.rc 0 ?_
   refine vx (v:=.int .i64 0) rfl<|vx (PS hle)<|bD<|aD<|c.rc 0 ?_
   refine cs.KM ?_
   refine .here<|vx (v:=.bool true) (rfl)<|eR<|c.MZ .i64 mI fun k _ c=>?_
   replace c:=c.n3
   refine c.CZ 2 rfl l n rfl fun _ c=>?_
   replace c:=c.n3
   refine vx (aL (ds:=[_]) rfl)<|c.w1 1 fun _ c=>?_
   refine c.rl 1 ?_
   exact fin k _ (c.pick [2])
  ·unfold mX
   have c:=Cx.aA h
   refine c.v1 fun _ _ c=>?_
   refine c.v1 fun _ _ c=>?_
   refine .here<|vx (iZ (by omega))<|bD<|vx (o8 (by omega))<|bD<|aD<|c.rc 0 ?_
   refine vx (Mo.look (.inr (m.gr c.gr)) l)<|vx (PS hle)<|bD<|aD<|c.rc 0 ?_
   refine cs.Ky (m.gr c.gr) fun k _ d=>?_
   have c:=c.aE d
   replace c:=c.n3
   refine .here<|vx (v:=.bool false) (rfl)<|bD<|c.CZ 2 rfl l n rfl fun _ c=>?_
   replace c:=c.n3
   refine vx (aL (ds:=[_]) rfl)<|c.w1 1 fun _ c=>?_
   refine c.rl 1 ?_
   exact fin k _ (c.pick [2])
theorem Mp.ln {v:Value} (m:Mp .i64 mI h v ps):Uf v h=some (.int .i64 ps.length):=by
 obtain ⟨r,es,clock,rfl,hh,he⟩ :=m
 have:=congrArg List.length he.Qt
 simp only [List.length_map,Array.length_toList] at this
 simp only [Uf,hh]
 rw [this]
theorem at_mem {l:Int}:at' ps l=0∨∃(i:Nat) (p:Int × Int),i<ps.length∧ps[i]?=some p∧p.1=l∧p.2=at' ps l:=by
 unfold at'
 cases e:gD ps l with
 | none=>exact .inl rfl
 | some x=>
  unfold gD at e
  cases e2:ps.find? fun p=>p.1 == l with
  | none=>rw [e2] at e; cases e
  | some p=>
   rw [e2] at e
   simp only [Option.map_some,Option.some.injEq] at e
   obtain ⟨i,hi,rfl⟩ :=List.mem_iff_getElem.1 (List.mem_of_find?_eq_some e2)
   have h1:=List.find?_some e2
   exact .inr ⟨i,_,hi,List.getElem?_eq_getElem hi,by simpa using h1,by simpa using e⟩
theorem UT (cs:Yh S I) (b0:B.p h) (H:VO B a f) (H2:VO B b g) (hR:∀d,Rt B h (fun B=>VO B d (Ev f g)) fun h'=>R (vV d) h'):uO S I (vV a) (vV b) h R:=by
 obtain ⟨qs,Ho,hq⟩ :=H
 obtain ⟨ps,Ho2,hp⟩ :=H2
 have Hm:=Ho h b0
 have Hm2:=Ho2 h b0
 have same:ps.length=0→∀h',Gr h h'→R (vV a) h':=fun e h' g=>(hR a).nil ⟨qs,Ho.le (Bs.aR _ _),fun x=>by
  have h1:=hq x
  have h2:=hp x
  rw [List.length_eq_zero_iff] at e
  subst e
  have:at' [] x=0:=rfl
  unfold Ev
  omega⟩ g
 by_cases hz:ps.length=0
 ·have e:Uf (.map b) h=some (.int .i64 ps.length):=by
   rcases Hm2 with ⟨rfl,rfl⟩ | m
   ·rfl
   ·exact m.ln
  have e:∀h',Gr h h'→Uf (.map b) h'=some (.int .i64 ps.length):=fun h' gr=>by
   rcases Hm2 with ⟨rfl,rfl⟩ | m
   ·rfl
   ·exact (m.gr gr).ln
  unfold uO
  have c:=Cx.aA h
  refine c.v1 fun _ _ c=>?_
  refine c.v1 fun _ _ c=>?_
  refine c.v1 fun _ _ c=>?_
  refine aD<|c.rc 1 ?_
  refine vx (e _ c.gr)<|vx (qu (by omega))<|eR<|c.rl 0 ?_
  refine c.w1 2 fun _ c=>?_
  refine c.rl 2 ?_
  exact same hz _ c.gr
 rcases Hm2 with ⟨rfl,rfl⟩ | m
 ·exact absurd rfl hz
 unfold uO
 have c:=Cx.aA h
 refine c.v1 fun a2_ _ c=>?_
 refine c.v1 fun b3_ _ c=>?_
 refine c.v1 fun v4_ _ c=>?_
 refine aD<|c.rc 1 ?_
 refine vx (m.gr c.gr).ln<|vx (m6 (by omega))<|bD<|aD<|c.rc 1 ?_
 refine cs.Ky (m.gr c.gr) fun k h4 d=>?_
 have c:=c.aE d
 replace c:=c.n4
 refine aD<|c.rc 0 ?_
 have fin:∀zs h8,Cx (fun _=>False) h h8 [rV a2_ [.map a],rV b3_ [.map b],rV v4_ [.map none],DT .i64 mI (.map (some k)) zs]→(∀l,at' qs l≤at' zs l∧at' ps l≤at' zs l)→Vb (bG [(0,1)] #[Value.map none] [(0,.map (some k))]) fun v32=>Sb (aQ 1 (cA v4_) v32 h8) fun h10=>Vb (aF 1 (cA v4_) h10) fun r0=>R r0 h10:=fun zs h8 c hz=>by
  refine vx (aL (ds:=[_]) rfl)<|c.vw 2 rfl (vs:=[_]) (by exact rfl) (by exact rfl) (by exact rfl) (by exact rfl) fun _ c=>?_
  refine vx (c.vl (i:=2) rfl rfl)<|hR (some k) [DT .i64 mI (.map (some k)) zs] _ (Cx.pack (L:=[]) (c.pick [3])) ⟨zs,(On.mp (i:=0) rfl).imp fun _ m=>.inr m,fun x=>?_⟩
  have h1:=hq x
  have h2:=hp x
  have h3:=hz x
  unfold Ev
  omega
 rcases Hm with ⟨rfl,rfl⟩ | m2
 ·refine En.eb (v:=cA _) (h':=_) (by exact rfl) ?_
  have c:=c.more (Ch.push _ (.mapIter none 0 #[] 0))
  refine NB.by (fun (_:Unit) h'=>h'=_) (fun _=>0) () rfl ?_
  rintro _ h5 rfl again _
  refine ⟨_,rfl,.inl ⟨0,#[],0,by simp,?_⟩⟩
  exact vx (v:=.bool false) rfl<|bD<|fin _ _ c fun l=>⟨(hp l).1,Int.le_refl _⟩
 ·obtain ⟨mb,es,clock,e,hh,he⟩ :=m2
  injection e with e
  subst e
  have hmb:∀{h5:Hp} {L:List bQ},Cx (fun _=>False) h h5 L→h5[mb]?=some (.map es clock):=fun c=>by
   rw [c.gr.same mb (Array.getElem?_eq_some_iff.mp hh).1 fun e=>e]; exact hh
  refine En.eb (v:=cA _) (h':=_) (by simp only [TD,zg,hmb c]; rfl) ?_
  have hs4:=c.gr.size
  have c:=c.La (.mapIter (some mb) clock #[] clock)
  obtain ⟨r,hr⟩:∃r,r=h4.size:=⟨_,rfl⟩
  have hne:r≠mb:=fun e=>by
   have h9:=(Array.getElem?_eq_some_iff.mp hh).1
   omega
  rw [←hr] at c⊢
  obtain ⟨itO,hO⟩:∃itO:List Nat→Obj,itO=fun D=>.mapIter (some mb) clock (D.map fun i=>((es.toList[i]?).map (·.born)).getD 0).toArray clock:=⟨_,rfl⟩
  refine NB.by (fun (z:List Nat × List (Int × Int)) h'=>Cx (fun _=>False) h h' [rV a2_ [.map (some mb)],rV b3_ [.map b],rV v4_ [.map none],DT .i64 mI (.map (some k)) z.2,I5 r (itO z.1)]∧z.1.Nodup∧(∀i∈z.1,i<qs.length)∧(∀l,at' ps l≤at' z.2 l)∧∀i∈z.1,∀p,qs[i]?=some p→p.2≤at' z.2 p.1) (fun z=>qs.length - z.1.length) ([],ps) ⟨by rw [hO]; exact c,List.nodup_nil,(fun i hi=>by cases hi),(fun l=>Int.le_refl _),fun i hi=>by cases hi⟩ ?_
  clear c hr
  rintro ⟨D,zs⟩ h6 ⟨c,hnd,hlt,hzp,hzq⟩ again hagain
  dsimp only at *
  have hobj:=c.obj (i:=4) rfl
  rw [hO] at hobj
  have it:It .i64 mI h6 r mb qs D:=⟨⟨es,clock,hmb c,he,hobj⟩,hnd,hlt,hne⟩
  refine it.next (fun hall=>?_) fun j p h7 hpj hjD it2 ch hent=>?_
  ·refine vx (v:=.bool false) rfl<|bD<|fin _ _ (c.pick [0,1,2,3]) fun l=>⟨?_,hzp l⟩
   rcases at_mem (ps:=qs) (l:=l) with e | ⟨i,p,hi,hpi,rfl,e⟩
   ·have h1:=hzp l
    have h2:=(hp l).1
    omega
   ·have:=hzq i (hall i hi) p hpi
    omega
  ·obtain ⟨es2,clock2,e1,e2,e3⟩ :=it2.ex
   have c:Cx (fun _=>False) h h7 [rV a2_ [.map (some mb)],rV b3_ [.map b],rV v4_ [.map none],DT .i64 mI (.map (some k)) zs,I5 r (itO (D++[j]))]:=by
    obtain ⟨F,⟨o,hf⟩,up⟩ :=c.Nz (i:=4) rfl
    have hm7:h7[mb]?=some (.map es clock):=by
     rw [ch.same mb (Array.getElem?_eq_some_iff.mp (hmb c)).1 fun e=>hne e.symm]; exact hmb c
    rw [e1] at hm7
    injection hm7 with hm7
    injection hm7 with q1 q2
    subst q1; subst q2
    exact up (B:=I5 r (itO (D++[j]))) (F':=F) ⟨by rw [hO]; exact e3,hf⟩ (sF (ch.mono fun q _ e=>(hf q).2 e))
   refine vx (v:=.bool true) rfl<|eR<|vx hent<|En.vb (v:=.int .i64 p.1) rfl (En.vb (v:=mI p.2) rfl ?_)
   refine vx (Mo.look (.inr (c.mp (i:=3) rfl)) p.1) ?_
   obtain ⟨y,ey,hy1,hy2⟩:∃y:Int,mx (.int .i64 (at' zs p.1)) (mI p.2)=some (.int .i64 y)∧at' zs p.1≤y∧p.2≤y:=by
    refine ⟨_,rfl,?_,?_⟩ <;> split <;> omega
   refine vx ey<|c.CZ 3 rfl p.1 y rfl fun h8 c=>?_
   have hDl:(D++[j]).length≤qs.length:=it2.len
   refine hagain (D++[j],r8 zs p.1 y) _ ⟨c,it2.nodup,it2.lt,(fun l=>?_),fun i hi p' hp'=>?_⟩ (by dsimp only; rw [List.length_append,List.length_singleton] at *; omega)
   ·have h1:=hzp l
    rw [Kf]
    split
    ·rename_i e; subst e; omega
    ·exact h1
   ·rw [Kf]
    rcases List.mem_append.1 hi with hi | hi
    ·have h1:=hzq i hi p' hp'
     split
     ·rename_i e; rw [e] at h1; omega
     ·exact h1
    ·rw [List.mem_singleton] at hi
     subst hi
     rw [hpj] at hp'
     injection hp' with hp'
     subst hp'
     rw [if_pos rfl]; exact hy2
structure CfB (S:Sys) (I:aZ):Prop extends Yh S I where
 Ef:∀{B:Bs} {a:Option Nat} {f:Int→Int} {l:Int} {h R},B.p h→VO B a f→(∀h' n,0≤n→f l≤n→Gr h h'→R (.int .i64 n) h')→S.C I.dM [vV a,.int .i64 l] h R
 xG:∀{B:Bs} {a:Option Nat} {f:Int→Int} {l n:Int} {h R},B.p h→VO B a f→(0≤l∧l<4096)→0≤n→(∀b,Rt B h (fun B=>VO B b (rz f l n)) fun h'=>R (vV b) h')→S.C I.fN [vV a,.int .i64 l,.int .i64 n] h R
 Sr:∀{B:Bs} {a b:Option Nat} {f g:Int→Int} {h R},B.p h→VO B a f→VO B b g→(∀d,Rt B h (fun B=>VO B d (Ev f g)) fun h'=>R (vV d) h')→S.C I.u7 [vV a,vV b] h R
end
end Go.En
namespace Go.En
variable {S:Sys} {I:aZ} {h h0 h':Hp} {F F0:Fp} {R:Value→Hp→Prop} {L:List bQ}
abbrev SH:Type:=Option Addr × Nat × Nat
abbrev aX (u:SH):Value:=.slice u.1 u.2.1 u.2.2
theorem Ow.vO {α:Type} {E:qd α} {v:Value} {xs:List α} (H:Ow E h v xs):∃u:SH,v=aX u:=by
 rcases H with ⟨rfl,_⟩ | ⟨r,o,cap,rfl,_⟩
 ·exact ⟨(none,0,0),rfl⟩
 ·exact ⟨(some ⟨r,o,none⟩,xs.length,cap),rfl⟩
structure Df where
 w:W3
 t:Int
 a:Option Nat
def wH:qd Df:={n:=5,c:=fun m=>[.int .i64 m.w.v,.int .u32 m.w.dN,.int .u32 m.w.ref,.int .i64 m.t,.map m.a],len:=fun _=>rfl,one:=fun a v h=>by simp only [List.mem_cons,List.not_mem_nil,or_false] at h; rcases h with rfl | rfl | rfl | rfl | rfl <;> rfl}
def NR (m:Df):Value:=.agg ⟨wH.c m⟩
abbrev M0:Df:=⟨W0,0,none⟩
def xE:qd SH:={n:=1,c:=fun a=>[aX a],len:=fun _=>rfl,one:=fun a v h=>by simp only [List.mem_singleton] at h; subst h; rfl}
def vH (u:SH):Value:=.agg ⟨xE.c u⟩
section
variable {u:SH} {ms:List Df} {m l:Df} {w:W3}
theorem WS (u:SH):bG [(0,1)] #[Value.slice none 0 0] [(0,aX u)]=some (vH u):=by kernel_rfl
theorem XW (w:W3):bG [(0,3),(3,1),(4,1)] #[Value.int IntKind.i64 0,Value.int IntKind.u32 0,Value.int IntKind.u32 0,Value.int IntKind.i64 0,Value.map none] [(0,mW w)]=some (NR ⟨w,0,none⟩):=by kernel_rfl
theorem Vz (hR:∀u h',Gr h h'→Sl wH h' (aX u) [⟨w,0,none⟩]→R (vH u) h'):qq S I (mW w) h R:=by
 unfold qq
 refine (Cx.aA h).nw EW w rfl fun r1 h1 c=>?_
 refine c.nw xE (none,0,0) rfl fun r2 h2 c=>?_
 rw [show aF 3 (cA r1) h2=some (mW w) from (c.va (i:=0) rfl).whole rfl,bC,XW,bC]
 refine c.jE wH ⟨w,0,none⟩ rfl rfl fun v h3 c=>?_
 obtain ⟨u,rfl⟩ :=(c.sl (i:=2) rfl).vO
 rw [WS,bC]
 refine c.aQ 1 rfl u rfl rfl fun h4 c=>?_
 unfold Rl
 rw [show aF 1 (cA r2) h4=some (vH u) from (c.va (i:=1) rfl).whole rfl,bC]
 exact hR u _ c.gr (c.sl (i:=2) rfl).sl
theorem Vv (H:Sl wH h (aX u) ms) (hR:∀h',Gr h h'→R (.int .i64 ms.length) h'):nY S I (vH u) h R:=by
 unfold nY
 refine (Cx.aA h).nw xE u rfl fun r1 h1 c=>?_
 refine (c.va (i:=0) rfl).A4 (j:=0) rfl ?_
 rw [(H.gr c.gr).ln,bC]
 exact hR _ c.gr
theorem Ya {i:Nat} (H:Sl wH h (aX u) ms) (hm:ms[i]?=some m) (hR:∀h',Gr h h'→R (.tuple #[NR m,.bool true]) h'):pn S I (vH u) (.int .i64 i) h R:=by
 have hlt:=(List.getElem?_eq_some_iff.1 hm).1
 unfold pn
 refine (Cx.aA h).nw xE u rfl fun r1 h1 c=>?_
 refine c.nw wH M0 rfl fun r2 h2 c=>?_
 refine lq.at (fun v h'=>v=.bool false∧h'=h2) ?_ ?_
 ·rw [cH,bC]
  refine pC (fun e=>by omega) fun _=>?_
  refine (c.va (i:=0) rfl).A4 (j:=0) rfl ?_
  rw [(H.gr c.gr).ln,bC,rZ,bC]
  exact ⟨by rw [decide_eq_false]; omega,rfl⟩
 rintro v h3 ⟨rfl,rfl⟩
 rw [p9]
 refine (c.va (i:=0) rfl).A4 (j:=0) rfl ?_
 refine (H.gr c.gr).whole rfl hm rfl ?_
 refine c.aQ 1 rfl m rfl rfl fun h4 c=>?_
 rw [show aF 5 (cA r2) h4=some (NR m) from (c.va (i:=1) rfl).whole rfl,bC]
 exact hR _ c.gr
structure Yg (S:Sys) (I:aZ):Prop extends CfB S I where
 H8:∀{w:W3} {h R},(∀u h',Gr h h'→Sl wH h' (aX u) [⟨w,0,none⟩]→R (vH u) h')→S.C I.qv [mW w] h R
 Gt:∀{u:SH} {ms:List Df} {h R},Sl wH h (aX u) ms→(∀h',Gr h h'→R (.int .i64 ms.length) h')→S.C I.dR [vH u] h R
 YB:∀{u:SH} {ms:List Df} {m:Df} {i:Nat} {h R},Sl wH h (aX u) ms→ms[i]?=some m→(∀h',Gr h h'→R (.tuple #[NR m,.bool true]) h')→S.C I.ka [vH u,.int .i64 i] h R
 OE:∀{v:Value} {h R},cG S I v h R→S.C I.bN [v] h R
theorem Rs (cs:Yg S I) (H:Sl wH h (aX u) (ms++[l])) (hb:ms.length≤1000000) (hR:∀h',Gr h h'→R (NR l) h'):nl S I (vH u) h R:=by
 unfold nl
 refine (Cx.aA h).nw xE u rfl fun r1 h1 c=>?_
 refine c.nw wH M0 rfl fun r2 h2 c=>?_
 rw [show aF 1 (cA r1) h2=some (vH u) from (c.va (i:=0) rfl).whole rfl,bC]
 refine (c.va (i:=0) rfl).A4 (j:=0) rfl ?_
 rw [(H.gr c.gr).ln,bC,List.length_append,List.length_singleton,nj ⟨by omega,by omega⟩,bC]
 rw [show ((ms.length+1:Nat):Int) - 1=(ms.length:Nat) by omega]
 refine cs.YB (H.gr c.gr) (i:=ms.length) (m:=l) (by simp) fun h3 g=>?_
 have c:=c.more g
 refine Wj (Xh ?_)
 refine c.nw wH M0 rfl fun r3 h4 c=>?_
 refine c.aQ 2 rfl l rfl rfl fun h5 c=>?_
 rw [show aF 5 (cA r3) h5=some (NR l) from (c.va (i:=2) rfl).whole rfl,bC]
 refine c.aQ 1 rfl l rfl rfl fun h6 c=>?_
 unfold Rl
 rw [show aF 5 (cA r2) h6=some (NR l) from (c.va (i:=1) rfl).whole rfl,bC]
 exact hR _ c.gr
theorem Vi (cs:Yg S I) (H:Sl wH h (aX u) ms) (hb:ms.length≤1000000) (hR:∀u' h',Cx (fun _=>False) h h' [dA wH (aX u') (ms++[m])]→R (vH u') h'):od S I (vH u) (NR m) h R:=by
 unfold od
 refine (Cx.aA h).nw xE u rfl fun r1 h1 c=>?_
 refine c.nw wH m rfl fun r2 h2 c=>?_
 refine c.nw xE (none,0,0) rfl fun r3 h3 c=>?_
 refine .here ?_
 rw [show fa 0 (cA r1)=some (.pointer (some ⟨r1,0+0,none⟩)) from oZ _ _ _,bC,show dU (.pointer (some ⟨r1,0+0,none⟩)) h3=some (aX u) from (c.va (i:=0) rfl).row.dU (j:=0) rfl,bC,show aF 5 (cA r2) h3=some (NR m) from (c.va (i:=1) rfl).whole rfl,bC]
 obtain ⟨a,e,Hc⟩ :=H.clip (n:=5) (k:=.i64) (k':=.i64) rfl rfl (Nat.le_refl _)
 rw [List.take_length] at e Hc
 have fin:∀(v9:Value) h6,Cx (fun _=>False) h h6 [E1 xE r1 u,E1 wH r2 m,E1 xE r3 (none,0,0),dA wH v9 [m]]→Ap I.cY #[Value.int IntKind.i64 0,Value.int IntKind.u32 0,Value.int IntKind.u32 0,Value.int IntKind.i64 0,Value.map none] 5 32 (.slice a ms.length ms.length) v9 h6 fun v10 h7=>
  Vb (bG [(0,1)] #[Value.slice none 0 0] [(0,v10)]) fun v11=>
  Sb (aQ 1 (cA r3) v11 h7) fun h8=>Vb (aF 1 (cA r3) h8) fun r0=>R r0 h8:=fun v9 h6 c=>by
  refine c.Nu (Hc.gr c.gr) (c.sl (i:=3) rfl).sl (by simp) rfl rfl (by rw [List.length_singleton]; omega) (by rw [List.length_singleton]; omega) fun v10 h7 c=>?_
  obtain ⟨u',rfl⟩ :=(c.sl (i:=4) rfl).vO
  rw [WS,bC]
  refine c.aQ 2 rfl u' rfl rfl fun h8 c=>?_
  rw [show aF 1 (cA r3) h8=some (vH u') from (c.va (i:=2) rfl).whole rfl,bC]
  exact hR u' _ (c.pick [4])
 refine And.intro ?_ ?_
 ·refine cs.OE ?_
  unfold cG
  rw [(H.gr c.gr).ln,bC,bC,e,bC]
  refine ⟨(c.va (i:=1) rfl).whole rfl,?_⟩
  refine c.jE wH m rfl rfl fun v9 h6 c=>?_
  exact fin v9 h6 c
 ·refine c.jE wH m rfl rfl fun v9 h6 c=>?_
  refine ⟨(c.va (i:=0) rfl).row.dU (j:=0) rfl,?_⟩
  refine cs.OE ?_
  unfold cG
  rw [(H.gr c.gr).ln,bC,bC,e,bC]
  exact fin v9 h6 c
end
end Go.En
