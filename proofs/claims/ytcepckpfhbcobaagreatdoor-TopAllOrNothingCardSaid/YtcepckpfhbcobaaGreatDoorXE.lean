/-
  Own library for the claim, packed by program: the engine, the clean texts, contracts, the plain law. (Part E.)
-/
import Derived.Test.YtcepckpfhbcobaaGreatDoorXD
set_option maxRecDepth 100000
set_option linter.defProp false
namespace Go.En
variable {h h0 h':Hp} {F F0:Fp} {R:Value->Hp->Prop} {L:List aX} {B B':Bs}
section
variable {T n b t i:Nat} {x:SH × SH} {m:Me} {w:W3} {am:AM} {v:MV} {mc:Mc}
def Kn {ms:List ET} {u:SH} {f z:Int} (H:Sl wo h (aK u) ms) (h1:1<=ms.length/\ms.length<=2000000) (J:∀(q:Nat) h',q<ms.length->(∀g:Int,g<=f->g<=(ms.length - 1:Nat)->g<=q)->Gr h h'->R (.int .i64 q) h'):S.C 153 [(vH u),(.int .i64 f),(.int .i64 z)] h R:=by
 refine pb.2 ?_;have c:=Cx.aB h;refine c.v1 λ_ _ c=>?_;refine aE<|c.rc 0 ?_;refine vx (H.gr c.gr).ln<|vx (fT ⟨by omega,by omega⟩)<|vx (dA (by omega))<|aN<|vx (v:=.int .i64 (if (ms.length:Int) - 1<f then(ms.length:Int) - 1 else f)) rfl<|vx (v:=.int .i64 (if (if (ms.length:Int) - 1<f then(ms.length:Int) - 1 else f) > 0 then(if (ms.length:Int) - 1<f then(ms.length:Int) - 1 else f) else 0)) rfl ?_;obtain⟨lo,E,U,k2,K⟩:∃lo:Int,(if (if (ms.length:Int) - 1<f then(ms.length:Int) - 1 else f) > 0 then(if (ms.length:Int) - 1<f then(ms.length:Int) - 1 else f) else 0)=lo/\0<=lo/\lo<=ms.length - 1/\(∀g:Int,g<=f->g<=(ms.length:Int) - 1->g<=lo):=⟨_,rfl,by split <;> split <;> omega,by split <;> split <;> omega,λg G M=>by split <;> split <;> omega⟩;rw[E];refine vx (v:=.int .i64 (if 0 > z then 0 else z)) rfl ?_;obtain⟨A,N,O⟩:∃A:Int,(if 0 > z then 0 else z)=A/\0<=A:=⟨_,rfl,by split <;> omega⟩;rw[N];refine vx (fT ⟨by omega,by omega⟩)<|vx (iQ ⟨by omega,by omega⟩)<|vx (AQ O (by omega)) ?_;have V:=Int.emod_nonneg A (show(ms.length:Int) - 1 - lo+1≠0 by omega);have X:=Int.emod_lt_of_pos A (show 0<(ms.length:Int) - 1 - lo+1 by omega);refine vx (fT ⟨by omega,by omega⟩) ?_;obtain⟨q,Q⟩:∃q:Nat,(ms.length:Int) - 1 - A % ((ms.length:Int) - 1 - lo+1)=q:=⟨((ms.length:Int) - 1 - A % ((ms.length:Int) - 1 - lo+1)).toNat,by omega⟩;rw[Q];exact J q _ (by omega) (λg G M=>by have:=K g G (by omega); omega) c.gr
def eU {ms:List ET} {u:SH} {f z:Int} (H:Sl wo h (aK u) ms) (h1:1<=ms.length/\ms.length<=2000000) (A:∀(q:Nat) h',q<ms.length->(∀g:Int,g<=f->g<=(ms.length - 1:Nat)->g<=q)->Gr h h'->R (.int .i64 q) h'):aM.1 (.int .i64 z) (vH u) (.int .i64 f) h R:=by
 have c:=Cx.aB h;refine c.v1 λ_ _ c=>?_;refine c.rl 0 ?_;refine Kn (H.gr c.gr) h1 λq _ E G g=>?_;have c:=c.more g;exact A q _ E G c.gr
def NL (G:B.p h) (H:MO B x m) (k:Mk T n b m) (hb:b<=1000000) (N:1<=t/\t<=T) (hi:i<n) (hv:m.view t i<=((m.at i).length - 1:Nat)) {jn:Bool} {z:Int}
  (hR:∀(q:Nat) (am:AM) K,(m.at i)[q]?=some am->m.view t i<=q->Rt B h (λB=>MO B K (m.lO t i q am jn)) λh'=>R (.tuple #[xA K,mW am.w,.int .i64 0]) h'):S.C 138 [(xA x),(.int .i64 t),(.int .i64 i),(.bool jn),(.func (.func 140) #[.int .i64 z] #[])] h R:=by
 refine my.2 ?_;obtain⟨us,h1,h2,h3⟩:=H.hs;have hn:=k.hs;have hu:=List.getElem?_eq_getElem (l:=us) (i:=i) (by omega);obtain⟨hm,eQ,iF⟩:=k.at hi;obtain⟨ms,hs,ha⟩:=h3 _ _ _ hu hm;generalize us[i]=u at hu hs;have iN:ms.length=(m.at i).length:=ha.1;obtain⟨rp,op,bY,U,_⟩:=(h1 h G).ix hu (n:=1) rfl (k:=.i64) (z:=(i:Int)) rfl;have f33:∀{V:Hp},Gr h V->aP 1 (.pointer (some ⟨rp,op,none⟩)) V=some (vH u):=λg=>(U.ch g λe=>e).aP rfl;have fin:∀(q:Nat) (am:AM) (K:SH × SH) (M:List aX) (r1 r2 r3 ro rw:Nat) (h':Hp),Cx (λ_=>False) h h' [rV r1 (Fi x),rV r2 L3,rV r3 (cW W0),rV ro (Fi K),rV rw (cW am.w),aD M]->(m.at i)[q]?=some am->m.view t i<=q->MO (B.and M) K (m.lO t i q am jn)->
  ∃(q:Nat) (am:AM) (X Z:Nat) (K:SH × SH) (M:List aX),bE ro=bE X/\bE rw=bE Z/\(m.at i)[q]?=some am/\m.view t i<=q/\Cx (λ_=>False) h h' [rV r1 (Fi x),rV r2 L3,rV r3 (cW W0),rV X (Fi K),rV Z (cW am.w),aD M]/\MO (B.and M) K (m.lO t i q am jn):=λq am K M r1 r2 r3 ro rw h' c A E ok=>⟨q,am,ro,rw,K,M,rfl,rfl,A,E,c,ok⟩
 have c:=Cx.aB h;refine c.v2 λdO _ c=>?_;refine c.v2 λaS _ c=>?_;refine c.v3 λaT _ c=>?_;refine c.rl 0 ?_;refine CB (B.up G c.gr) H k N hi λ_ g=>?_;have c:=c.more g;refine vx (v:=.bool false) rfl<|aN<|Du.at (λo q' h'=>∃(q:Nat) (am:AM) (ro rw:Nat) (K:SH × SH) (M:List aX),o=bE ro/\q'=bE rw/\(m.at i)[q]?=some am/\m.view t i<=q/\Cx (λ_=>False) h h' [rV dO (Fi x),rV aS L3,rV aT (cW W0),rV ro (Fi K),rV rw (cW am.w),aD M]/\MO (B.and M) K (m.lO t i q am jn)) ?_ ?_
 ·refine c.rl 0 ?_;refine aE<|c.rc 0 ?_;refine vx bY<|vx (f33 c.gr)<|c.rl 0 ?_;refine⟨?_,?_⟩
  ·refine jY (B.up G c.gr) H k N λa Va _ g=>?_;have c:=c.more g;refine And.intro (f33 c.gr) ?_;refine c.ac 0 ?_;refine c.al 0 ?_;refine⟨?_,?_⟩
   ·refine jR (B.up G c.gr) Va λ_ p O J g=>?_;have c:=c.more g;refine And.intro (f33 c.gr) ?_;refine c.ac 0 ?_;refine c.al 0 ?_;refine⟨?_,?_⟩
    ·refine .inl (.inl ⟨140,#[.int .i64 z],#[],rfl,aM.2 (eU (hs _ (B.up G c.gr)) (by omega) λq _ Q E g=>?_)⟩);have c:=c.more g;have E:m.view t i<=q:=E _ J (by omega);have A:=List.getElem?_eq_getElem (l:=m.at i) (i:=q) (by omega);generalize (m.at i)[q]'(by omega)=am at A;refine c.al 0 ?_;refine⟨?_,?_⟩
     ·refine aU (jn:=jn) (B.up G c.gr) H k N hi A λK M _ d ok=>?_;have c:=c.aF d;replace c:=c.n4;refine vx rfl<|vx rfl<|⟨?_,?_⟩
      ·refine c.v2 λ_ _ c=>?_;refine c.v3 λ_ _ c=>?_;refine c.w2 4 λ_ c=>?_;refine c.w3 5 λ_ c=>?_;exact fin q am _ M _ _ _ _ _ _ (c.pick [0,1,2,4,5,3]) A E ok
      ·refine c.v3 λ_ _ c=>?_;refine c.v2 λ_ _ c=>?_;refine c.w2 5 λ_ c=>?_;refine c.w3 4 λ_ c=>?_;exact fin q am _ M _ _ _ _ _ _ (c.pick [0,1,2,5,4,3]) A E ok
     ·refine⟨?_,?_⟩
      ·refine c.v2 λ_ _ c=>?_;refine c.al 0 ?_;refine⟨?_,?_⟩
       ·refine aU (jn:=jn) (B.up G c.gr) H k N hi A λK M _ d ok=>?_;have c:=c.aF d;replace c:=c.n5;refine vx rfl<|vx rfl<|c.v3 λ_ _ c=>?_;refine c.w2 3 λ_ c=>?_;refine c.w3 5 λ_ c=>?_;exact fin q am _ M _ _ _ _ _ _ (c.pick [0,1,2,3,5,4]) A E ok
       ·refine c.v3 λ_ _ c=>?_;refine c.al 0 ?_;refine aU (jn:=jn) (B.up G c.gr) H k N hi A λK M _ d ok=>?_;have c:=c.aF d;replace c:=c.n6;refine vx rfl<|vx rfl<|c.w2 3 λ_ c=>?_;refine c.w3 4 λ_ c=>?_;exact fin q am _ M _ _ _ _ _ _ (c.pick [0,1,2,3,4,5]) A E ok
      ·refine c.v3 λ_ _ c=>?_;refine c.al 0 ?_;refine⟨?_,?_⟩
       ·refine aU (jn:=jn) (B.up G c.gr) H k N hi A λK M _ d ok=>?_;have c:=c.aF d;replace c:=c.n5;refine vx rfl<|vx rfl<|c.v2 λ_ _ c=>?_;refine c.w2 5 λ_ c=>?_;refine c.w3 3 λ_ c=>?_;exact fin q am _ M _ _ _ _ _ _ (c.pick [0,1,2,5,3,4]) A E ok
       ·refine c.v2 λ_ _ c=>?_;refine c.al 0 ?_;refine aU (jn:=jn) (B.up G c.gr) H k N hi A λK M _ d ok=>?_;have c:=c.aF d;replace c:=c.n6;refine vx rfl<|vx rfl<|c.w2 4 λ_ c=>?_;refine c.w3 3 λ_ c=>?_;exact fin q am _ M _ _ _ _ _ _ (c.pick [0,1,2,4,3,5]) A E ok
    ·refine⟨?_,?_⟩
     ·refine c.v2 λ_ _ c=>?_;refine And.intro (f33 c.gr) ?_;refine c.ac 0 ?_;refine c.al 0 ?_;refine⟨?_,?_⟩
      ·refine .inl (.inl ⟨140,#[.int .i64 z],#[],rfl,aM.2 (eU (hs _ (B.up G c.gr)) (by omega) λq _ Q E g=>?_)⟩);have c:=c.more g;have E:m.view t i<=q:=E _ J (by omega);have A:=List.getElem?_eq_getElem (l:=m.at i) (i:=q) (by omega);generalize (m.at i)[q]'(by omega)=am at A;refine c.al 0 ?_;refine⟨?_,?_⟩
       ·refine aU (jn:=jn) (B.up G c.gr) H k N hi A λK M _ d ok=>?_;have c:=c.aF d;replace c:=c.n5;refine vx rfl<|vx rfl<|c.v3 λ_ _ c=>?_;refine c.w2 3 λ_ c=>?_;refine c.w3 5 λ_ c=>?_;exact fin q am _ M _ _ _ _ _ _ (c.pick [0,1,2,3,5,4]) A E ok
       ·refine c.v3 λ_ _ c=>?_;refine c.al 0 ?_;refine aU (jn:=jn) (B.up G c.gr) H k N hi A λK M _ d ok=>?_;have c:=c.aF d;replace c:=c.n6;refine vx rfl<|vx rfl<|c.w2 3 λ_ c=>?_;refine c.w3 4 λ_ c=>?_;exact fin q am _ M _ _ _ _ _ _ (c.pick [0,1,2,3,4,5]) A E ok
      ·refine c.v3 λ_ _ c=>?_;refine And.intro (f33 c.gr) ?_;refine c.ac 0 ?_;refine c.al 0 ?_;refine .inl (.inl ⟨140,#[.int .i64 z],#[],rfl,aM.2 (eU (hs _ (B.up G c.gr)) (by omega) λq _ Q E g=>?_)⟩);have c:=c.more g;have E:m.view t i<=q:=E _ J (by omega);have A:=List.getElem?_eq_getElem (l:=m.at i) (i:=q) (by omega);generalize (m.at i)[q]'(by omega)=am at A;refine c.al 0 ?_;refine aU (jn:=jn) (B.up G c.gr) H k N hi A λK M _ d ok=>?_;have c:=c.aF d;replace c:=c.n6;refine vx rfl<|vx rfl<|c.w2 3 λ_ c=>?_;refine c.w3 4 λ_ c=>?_;exact fin q am _ M _ _ _ _ _ _ (c.pick [0,1,2,3,4,5]) A E ok
     ·refine c.v3 λ_ _ c=>?_;refine And.intro (f33 c.gr) ?_;refine c.ac 0 ?_;refine c.al 0 ?_;refine⟨?_,?_⟩
      ·refine .inl (.inl ⟨140,#[.int .i64 z],#[],rfl,aM.2 (eU (hs _ (B.up G c.gr)) (by omega) λq _ Q E g=>?_)⟩);have c:=c.more g;have E:m.view t i<=q:=E _ J (by omega);have A:=List.getElem?_eq_getElem (l:=m.at i) (i:=q) (by omega);generalize (m.at i)[q]'(by omega)=am at A;refine c.al 0 ?_;refine⟨?_,?_⟩
       ·refine aU (jn:=jn) (B.up G c.gr) H k N hi A λK M _ d ok=>?_;have c:=c.aF d;replace c:=c.n5;refine vx rfl<|vx rfl<|c.v2 λ_ _ c=>?_;refine c.w2 5 λ_ c=>?_;refine c.w3 3 λ_ c=>?_;exact fin q am _ M _ _ _ _ _ _ (c.pick [0,1,2,5,3,4]) A E ok
       ·refine c.v2 λ_ _ c=>?_;refine c.al 0 ?_;refine aU (jn:=jn) (B.up G c.gr) H k N hi A λK M _ d ok=>?_;have c:=c.aF d;replace c:=c.n6;refine vx rfl<|vx rfl<|c.w2 4 λ_ c=>?_;refine c.w3 3 λ_ c=>?_;exact fin q am _ M _ _ _ _ _ _ (c.pick [0,1,2,4,3,5]) A E ok
      ·refine c.v2 λ_ _ c=>?_;refine And.intro (f33 c.gr) ?_;refine c.ac 0 ?_;refine c.al 0 ?_;refine .inl (.inl ⟨140,#[.int .i64 z],#[],rfl,aM.2 (eU (hs _ (B.up G c.gr)) (by omega) λq _ Q E g=>?_)⟩);have c:=c.more g;have E:m.view t i<=q:=E _ J (by omega);have A:=List.getElem?_eq_getElem (l:=m.at i) (i:=q) (by omega);generalize (m.at i)[q]'(by omega)=am at A;refine c.al 0 ?_;refine aU (jn:=jn) (B.up G c.gr) H k N hi A λK M _ d ok=>?_;have c:=c.aF d;replace c:=c.n6;refine vx rfl<|vx rfl<|c.w2 4 λ_ c=>?_;refine c.w3 3 λ_ c=>?_;exact fin q am _ M _ _ _ _ _ _ (c.pick [0,1,2,4,3,5]) A E ok
   ·refine⟨?_,?_⟩
    ·refine c.v2 λ_ _ c=>?_;refine And.intro (f33 c.gr) ?_;refine c.ac 0 ?_;refine c.al 0 ?_;refine⟨?_,?_⟩
     ·refine jR (B.up G c.gr) Va λ_ p O J g=>?_;have c:=c.more g;refine And.intro (f33 c.gr) ?_;refine c.ac 0 ?_;refine c.al 0 ?_;refine⟨?_,?_⟩
      ·refine .inl (.inl ⟨140,#[.int .i64 z],#[],rfl,aM.2 (eU (hs _ (B.up G c.gr)) (by omega) λq _ Q E g=>?_)⟩);have c:=c.more g;have E:m.view t i<=q:=E _ J (by omega);have A:=List.getElem?_eq_getElem (l:=m.at i) (i:=q) (by omega);generalize (m.at i)[q]'(by omega)=am at A;refine c.al 0 ?_;refine⟨?_,?_⟩
       ·refine aU (jn:=jn) (B.up G c.gr) H k N hi A λK M _ d ok=>?_;have c:=c.aF d;replace c:=c.n5;refine vx rfl<|vx rfl<|c.v3 λ_ _ c=>?_;refine c.w2 3 λ_ c=>?_;refine c.w3 5 λ_ c=>?_;exact fin q am _ M _ _ _ _ _ _ (c.pick [0,1,2,3,5,4]) A E ok
       ·refine c.v3 λ_ _ c=>?_;refine c.al 0 ?_;refine aU (jn:=jn) (B.up G c.gr) H k N hi A λK M _ d ok=>?_;have c:=c.aF d;replace c:=c.n6;refine vx rfl<|vx rfl<|c.w2 3 λ_ c=>?_;refine c.w3 4 λ_ c=>?_;exact fin q am _ M _ _ _ _ _ _ (c.pick [0,1,2,3,4,5]) A E ok
      ·refine c.v3 λ_ _ c=>?_;refine And.intro (f33 c.gr) ?_;refine c.ac 0 ?_;refine c.al 0 ?_;refine .inl (.inl ⟨140,#[.int .i64 z],#[],rfl,aM.2 (eU (hs _ (B.up G c.gr)) (by omega) λq _ Q E g=>?_)⟩);have c:=c.more g;have E:m.view t i<=q:=E _ J (by omega);have A:=List.getElem?_eq_getElem (l:=m.at i) (i:=q) (by omega);generalize (m.at i)[q]'(by omega)=am at A;refine c.al 0 ?_;refine aU (jn:=jn) (B.up G c.gr) H k N hi A λK M _ d ok=>?_;have c:=c.aF d;replace c:=c.n6;refine vx rfl<|vx rfl<|c.w2 3 λ_ c=>?_;refine c.w3 4 λ_ c=>?_;exact fin q am _ M _ _ _ _ _ _ (c.pick [0,1,2,3,4,5]) A E ok
     ·refine c.v3 λ_ _ c=>?_;refine And.intro (f33 c.gr) ?_;refine c.ac 0 ?_;refine c.al 0 ?_;refine jR (B.up G c.gr) Va λ_ p O J g=>?_;have c:=c.more g;refine And.intro (f33 c.gr) ?_;refine c.ac 0 ?_;refine c.al 0 ?_;refine .inl (.inl ⟨140,#[.int .i64 z],#[],rfl,aM.2 (eU (hs _ (B.up G c.gr)) (by omega) λq _ Q E g=>?_)⟩);have c:=c.more g;have E:m.view t i<=q:=E _ J (by omega);have A:=List.getElem?_eq_getElem (l:=m.at i) (i:=q) (by omega);generalize (m.at i)[q]'(by omega)=am at A;refine c.al 0 ?_;refine aU (jn:=jn) (B.up G c.gr) H k N hi A λK M _ d ok=>?_;have c:=c.aF d;replace c:=c.n6;refine vx rfl<|vx rfl<|c.w2 3 λ_ c=>?_;refine c.w3 4 λ_ c=>?_;exact fin q am _ M _ _ _ _ _ _ (c.pick [0,1,2,3,4,5]) A E ok
    ·refine c.v3 λ_ _ c=>?_;refine And.intro (f33 c.gr) ?_;refine c.ac 0 ?_;refine c.al 0 ?_;refine⟨?_,?_⟩
     ·refine jR (B.up G c.gr) Va λ_ p O J g=>?_;have c:=c.more g;refine And.intro (f33 c.gr) ?_;refine c.ac 0 ?_;refine c.al 0 ?_;refine⟨?_,?_⟩
      ·refine .inl (.inl ⟨140,#[.int .i64 z],#[],rfl,aM.2 (eU (hs _ (B.up G c.gr)) (by omega) λq _ Q E g=>?_)⟩);have c:=c.more g;have E:m.view t i<=q:=E _ J (by omega);have A:=List.getElem?_eq_getElem (l:=m.at i) (i:=q) (by omega);generalize (m.at i)[q]'(by omega)=am at A;refine c.al 0 ?_;refine⟨?_,?_⟩
       ·refine aU (jn:=jn) (B.up G c.gr) H k N hi A λK M _ d ok=>?_;have c:=c.aF d;replace c:=c.n5;refine vx rfl<|vx rfl<|c.v2 λ_ _ c=>?_;refine c.w2 5 λ_ c=>?_;refine c.w3 3 λ_ c=>?_;exact fin q am _ M _ _ _ _ _ _ (c.pick [0,1,2,5,3,4]) A E ok
       ·refine c.v2 λ_ _ c=>?_;refine c.al 0 ?_;refine aU (jn:=jn) (B.up G c.gr) H k N hi A λK M _ d ok=>?_;have c:=c.aF d;replace c:=c.n6;refine vx rfl<|vx rfl<|c.w2 4 λ_ c=>?_;refine c.w3 3 λ_ c=>?_;exact fin q am _ M _ _ _ _ _ _ (c.pick [0,1,2,4,3,5]) A E ok
      ·refine c.v2 λ_ _ c=>?_;refine And.intro (f33 c.gr) ?_;refine c.ac 0 ?_;refine c.al 0 ?_;refine .inl (.inl ⟨140,#[.int .i64 z],#[],rfl,aM.2 (eU (hs _ (B.up G c.gr)) (by omega) λq _ Q E g=>?_)⟩);have c:=c.more g;have E:m.view t i<=q:=E _ J (by omega);have A:=List.getElem?_eq_getElem (l:=m.at i) (i:=q) (by omega);generalize (m.at i)[q]'(by omega)=am at A;refine c.al 0 ?_;refine aU (jn:=jn) (B.up G c.gr) H k N hi A λK M _ d ok=>?_;have c:=c.aF d;replace c:=c.n6;refine vx rfl<|vx rfl<|c.w2 4 λ_ c=>?_;refine c.w3 3 λ_ c=>?_;exact fin q am _ M _ _ _ _ _ _ (c.pick [0,1,2,4,3,5]) A E ok
     ·refine c.v2 λ_ _ c=>?_;refine And.intro (f33 c.gr) ?_;refine c.ac 0 ?_;refine c.al 0 ?_;refine jR (B.up G c.gr) Va λ_ p O J g=>?_;have c:=c.more g;refine And.intro (f33 c.gr) ?_;refine c.ac 0 ?_;refine c.al 0 ?_;refine .inl (.inl ⟨140,#[.int .i64 z],#[],rfl,aM.2 (eU (hs _ (B.up G c.gr)) (by omega) λq _ Q E g=>?_)⟩);have c:=c.more g;have E:m.view t i<=q:=E _ J (by omega);have A:=List.getElem?_eq_getElem (l:=m.at i) (i:=q) (by omega);generalize (m.at i)[q]'(by omega)=am at A;refine c.al 0 ?_;refine aU (jn:=jn) (B.up G c.gr) H k N hi A λK M _ d ok=>?_;have c:=c.aF d;replace c:=c.n6;refine vx rfl<|vx rfl<|c.w2 4 λ_ c=>?_;refine c.w3 3 λ_ c=>?_;exact fin q am _ M _ _ _ _ _ _ (c.pick [0,1,2,4,3,5]) A E ok
  ·refine⟨?_,?_⟩
   ·refine c.v2 λ_ _ c=>?_;refine c.al 0 ?_;refine And.intro (f33 c.gr) ?_;refine c.ac 0 ?_;refine c.al 0 ?_;refine⟨?_,?_⟩
    ·refine jY (B.up G c.gr) H k N λa Va _ g=>?_;have c:=c.more g;refine And.intro (f33 c.gr) ?_;refine c.ac 0 ?_;refine c.al 0 ?_;refine⟨?_,?_⟩
     ·refine jR (B.up G c.gr) Va λ_ p O J g=>?_;have c:=c.more g;refine And.intro (f33 c.gr) ?_;refine c.ac 0 ?_;refine c.al 0 ?_;refine⟨?_,?_⟩
      ·refine .inl (.inl ⟨140,#[.int .i64 z],#[],rfl,aM.2 (eU (hs _ (B.up G c.gr)) (by omega) λq _ Q E g=>?_)⟩);have c:=c.more g;have E:m.view t i<=q:=E _ J (by omega);have A:=List.getElem?_eq_getElem (l:=m.at i) (i:=q) (by omega);generalize (m.at i)[q]'(by omega)=am at A;refine c.al 0 ?_;refine⟨?_,?_⟩
       ·refine aU (jn:=jn) (B.up G c.gr) H k N hi A λK M _ d ok=>?_;have c:=c.aF d;replace c:=c.n5;refine vx rfl<|vx rfl<|c.v3 λ_ _ c=>?_;refine c.w2 3 λ_ c=>?_;refine c.w3 5 λ_ c=>?_;exact fin q am _ M _ _ _ _ _ _ (c.pick [0,1,2,3,5,4]) A E ok
       ·refine c.v3 λ_ _ c=>?_;refine c.al 0 ?_;refine aU (jn:=jn) (B.up G c.gr) H k N hi A λK M _ d ok=>?_;have c:=c.aF d;replace c:=c.n6;refine vx rfl<|vx rfl<|c.w2 3 λ_ c=>?_;refine c.w3 4 λ_ c=>?_;exact fin q am _ M _ _ _ _ _ _ (c.pick [0,1,2,3,4,5]) A E ok
      ·refine c.v3 λ_ _ c=>?_;refine And.intro (f33 c.gr) ?_;refine c.ac 0 ?_;refine c.al 0 ?_;refine .inl (.inl ⟨140,#[.int .i64 z],#[],rfl,aM.2 (eU (hs _ (B.up G c.gr)) (by omega) λq _ Q E g=>?_)⟩);have c:=c.more g;have E:m.view t i<=q:=E _ J (by omega);have A:=List.getElem?_eq_getElem (l:=m.at i) (i:=q) (by omega);generalize (m.at i)[q]'(by omega)=am at A;refine c.al 0 ?_;refine aU (jn:=jn) (B.up G c.gr) H k N hi A λK M _ d ok=>?_;have c:=c.aF d;replace c:=c.n6;refine vx rfl<|vx rfl<|c.w2 3 λ_ c=>?_;refine c.w3 4 λ_ c=>?_;exact fin q am _ M _ _ _ _ _ _ (c.pick [0,1,2,3,4,5]) A E ok
     ·refine c.v3 λ_ _ c=>?_;refine And.intro (f33 c.gr) ?_;refine c.ac 0 ?_;refine c.al 0 ?_;refine jR (B.up G c.gr) Va λ_ p O J g=>?_;have c:=c.more g;refine And.intro (f33 c.gr) ?_;refine c.ac 0 ?_;refine c.al 0 ?_;refine .inl (.inl ⟨140,#[.int .i64 z],#[],rfl,aM.2 (eU (hs _ (B.up G c.gr)) (by omega) λq _ Q E g=>?_)⟩);have c:=c.more g;have E:m.view t i<=q:=E _ J (by omega);have A:=List.getElem?_eq_getElem (l:=m.at i) (i:=q) (by omega);generalize (m.at i)[q]'(by omega)=am at A;refine c.al 0 ?_;refine aU (jn:=jn) (B.up G c.gr) H k N hi A λK M _ d ok=>?_;have c:=c.aF d;replace c:=c.n6;refine vx rfl<|vx rfl<|c.w2 3 λ_ c=>?_;refine c.w3 4 λ_ c=>?_;exact fin q am _ M _ _ _ _ _ _ (c.pick [0,1,2,3,4,5]) A E ok
    ·refine c.v3 λ_ _ c=>?_;refine c.al 0 ?_;refine And.intro (f33 c.gr) ?_;refine c.ac 0 ?_;refine c.al 0 ?_;refine jY (B.up G c.gr) H k N λa Va _ g=>?_;have c:=c.more g;refine And.intro (f33 c.gr) ?_;refine c.ac 0 ?_;refine c.al 0 ?_;refine jR (B.up G c.gr) Va λ_ p O J g=>?_;have c:=c.more g;refine And.intro (f33 c.gr) ?_;refine c.ac 0 ?_;refine c.al 0 ?_;refine .inl (.inl ⟨140,#[.int .i64 z],#[],rfl,aM.2 (eU (hs _ (B.up G c.gr)) (by omega) λq _ Q E g=>?_)⟩);have c:=c.more g;have E:m.view t i<=q:=E _ J (by omega);have A:=List.getElem?_eq_getElem (l:=m.at i) (i:=q) (by omega);generalize (m.at i)[q]'(by omega)=am at A;refine c.al 0 ?_;refine aU (jn:=jn) (B.up G c.gr) H k N hi A λK M _ d ok=>?_;have c:=c.aF d;replace c:=c.n6;refine vx rfl<|vx rfl<|c.w2 3 λ_ c=>?_;refine c.w3 4 λ_ c=>?_;exact fin q am _ M _ _ _ _ _ _ (c.pick [0,1,2,3,4,5]) A E ok
   ·refine c.v3 λ_ _ c=>?_;refine c.al 0 ?_;refine And.intro (f33 c.gr) ?_;refine c.ac 0 ?_;refine c.al 0 ?_;refine⟨?_,?_⟩
    ·refine jY (B.up G c.gr) H k N λa Va _ g=>?_;have c:=c.more g;refine And.intro (f33 c.gr) ?_;refine c.ac 0 ?_;refine c.al 0 ?_;refine⟨?_,?_⟩
     ·refine jR (B.up G c.gr) Va λ_ p O J g=>?_;have c:=c.more g;refine And.intro (f33 c.gr) ?_;refine c.ac 0 ?_;refine c.al 0 ?_;refine⟨?_,?_⟩
      ·refine .inl (.inl ⟨140,#[.int .i64 z],#[],rfl,aM.2 (eU (hs _ (B.up G c.gr)) (by omega) λq _ Q E g=>?_)⟩);have c:=c.more g;have E:m.view t i<=q:=E _ J (by omega);have A:=List.getElem?_eq_getElem (l:=m.at i) (i:=q) (by omega);generalize (m.at i)[q]'(by omega)=am at A;refine c.al 0 ?_;refine⟨?_,?_⟩
       ·refine aU (jn:=jn) (B.up G c.gr) H k N hi A λK M _ d ok=>?_;have c:=c.aF d;replace c:=c.n5;refine vx rfl<|vx rfl<|c.v2 λ_ _ c=>?_;refine c.w2 5 λ_ c=>?_;refine c.w3 3 λ_ c=>?_;exact fin q am _ M _ _ _ _ _ _ (c.pick [0,1,2,5,3,4]) A E ok
       ·refine c.v2 λ_ _ c=>?_;refine c.al 0 ?_;refine aU (jn:=jn) (B.up G c.gr) H k N hi A λK M _ d ok=>?_;have c:=c.aF d;replace c:=c.n6;refine vx rfl<|vx rfl<|c.w2 4 λ_ c=>?_;refine c.w3 3 λ_ c=>?_;exact fin q am _ M _ _ _ _ _ _ (c.pick [0,1,2,4,3,5]) A E ok
      ·refine c.v2 λ_ _ c=>?_;refine And.intro (f33 c.gr) ?_;refine c.ac 0 ?_;refine c.al 0 ?_;refine .inl (.inl ⟨140,#[.int .i64 z],#[],rfl,aM.2 (eU (hs _ (B.up G c.gr)) (by omega) λq _ Q E g=>?_)⟩);have c:=c.more g;have E:m.view t i<=q:=E _ J (by omega);have A:=List.getElem?_eq_getElem (l:=m.at i) (i:=q) (by omega);generalize (m.at i)[q]'(by omega)=am at A;refine c.al 0 ?_;refine aU (jn:=jn) (B.up G c.gr) H k N hi A λK M _ d ok=>?_;have c:=c.aF d;replace c:=c.n6;refine vx rfl<|vx rfl<|c.w2 4 λ_ c=>?_;refine c.w3 3 λ_ c=>?_;exact fin q am _ M _ _ _ _ _ _ (c.pick [0,1,2,4,3,5]) A E ok
     ·refine c.v2 λ_ _ c=>?_;refine And.intro (f33 c.gr) ?_;refine c.ac 0 ?_;refine c.al 0 ?_;refine jR (B.up G c.gr) Va λ_ p O J g=>?_;have c:=c.more g;refine And.intro (f33 c.gr) ?_;refine c.ac 0 ?_;refine c.al 0 ?_;refine .inl (.inl ⟨140,#[.int .i64 z],#[],rfl,aM.2 (eU (hs _ (B.up G c.gr)) (by omega) λq _ Q E g=>?_)⟩);have c:=c.more g;have E:m.view t i<=q:=E _ J (by omega);have A:=List.getElem?_eq_getElem (l:=m.at i) (i:=q) (by omega);generalize (m.at i)[q]'(by omega)=am at A;refine c.al 0 ?_;refine aU (jn:=jn) (B.up G c.gr) H k N hi A λK M _ d ok=>?_;have c:=c.aF d;replace c:=c.n6;refine vx rfl<|vx rfl<|c.w2 4 λ_ c=>?_;refine c.w3 3 λ_ c=>?_;exact fin q am _ M _ _ _ _ _ _ (c.pick [0,1,2,4,3,5]) A E ok
    ·refine c.v2 λ_ _ c=>?_;refine c.al 0 ?_;refine And.intro (f33 c.gr) ?_;refine c.ac 0 ?_;refine c.al 0 ?_;refine jY (B.up G c.gr) H k N λa Va _ g=>?_;have c:=c.more g;refine And.intro (f33 c.gr) ?_;refine c.ac 0 ?_;refine c.al 0 ?_;refine jR (B.up G c.gr) Va λ_ p O J g=>?_;have c:=c.more g;refine And.intro (f33 c.gr) ?_;refine c.ac 0 ?_;refine c.al 0 ?_;refine .inl (.inl ⟨140,#[.int .i64 z],#[],rfl,aM.2 (eU (hs _ (B.up G c.gr)) (by omega) λq _ Q E g=>?_)⟩);have c:=c.more g;have E:m.view t i<=q:=E _ J (by omega);have A:=List.getElem?_eq_getElem (l:=m.at i) (i:=q) (by omega);generalize (m.at i)[q]'(by omega)=am at A;refine c.al 0 ?_;refine aU (jn:=jn) (B.up G c.gr) H k N hi A λK M _ d ok=>?_;have c:=c.aF d;replace c:=c.n6;refine vx rfl<|vx rfl<|c.w2 4 λ_ c=>?_;refine c.w3 3 λ_ c=>?_;exact fin q am _ M _ _ _ _ _ _ (c.pick [0,1,2,4,3,5]) A E ok
 ·rintro _ _ h7 ⟨q,am,ro,rw,K,M,rfl,rfl,A,E,c,ok⟩;replace c:=c.n6;refine c.rl 3 ?_;refine c.rl 4 ?_;refine c.w2 1 λ_ c=>?_;refine c.al 4 ?_;refine c.w3 2 λ_ c=>?_;refine c.rl 1 ?_;refine c.rl 2 ?_;exact hR q am K A E M _ (c.pick [5]) ok
end
section
variable {T n b t i:Nat} {x:SH × SH} {m:Me} {w:W3} {am:AM} {v:MV} {mc:Mc}
def Qi (A:B.p h) (H:MO B x m) (k:Mk T n b m) (E:b<=1000000) (G:1<=t/\t<=T) (hi:i<n) (hv:m.view t i<=((m.at i).length - 1:Nat)) {jn:Bool} {z:Int}
  (J:∀(q:Nat) (am:AM) u,(m.at i)[q]?=some am->m.view t i<=q->Rt B h (λB=>MO B u (m.lO t i q am jn)) λh'=>R (.tuple #[xA u,mW am.w,.int .i64 0]) h'):S.C 123 [(xA x),(.int .i64 t),(.int .i64 i),(.bool jn),(.int .i64 z)] h R:=by
 refine rT.2 ?_;have c:=Cx.aB h;refine c.v2 λ_ _ c=>?_;refine c.v2 λ_ _ c=>?_;refine c.v3 λ_ _ c=>?_;refine c.rl 0 ?_;refine vx rfl<|NL (B.up A c.gr) H k E G hi hv λq am u K N M _ d ok=>?_;have c:=c.aF d;replace c:=c.n4;refine c.Sr 1 2 λ_ c=>?_;exact J q am u K N M _ (c.pick [3]) ok
end
structure Lj where
 fst:List W3
 lg:List (List RA × Int)
 cQ:Int->Int->Option Int
def Lj.bF (l:Lj) (i:Nat) (w:W3):Lj:={l with lg:=l.lg.set (i / 8) (((l.lg.getD (i / 8) ([],0)).1++[((i:Int),w)]),(l.lg.getD (i / 8) ([],0)).2)}
def Lj.xU (l:Lj) (t i:Nat):Lj:={l with cQ:=λx n=>if x=t/\n=(i / 8:Nat) then some ((l.lg.getD (i / 8) ([],0)).1.length:Nat) else l.cQ x n}
def Lj.uC (l:Lj) (t:Nat):Lj:={l with lg:=l.lg.mapIdx (λn g=>(g.1,max g.2 ((l.cQ t n).getD g.2))),cQ:=λx n=>if x=t then none else l.cQ x n}
def mM (o:Option Nat):Value:=.map o
def Ti (B:Bs) (a:Option Nat) (f:Int->Int->Option Int):Prop:=
 ∃es:List (Int × Option Nat),(On B λh=>(a=none/\es=[])\/Mp .i64 mM h (.map a) es)/\(es.map (·.1)).Nodup/\∀t:Int,∃ps,(On B λh=>Mo h ((bH es t).getD none) ps)/\(ps.map (·.1)).Nodup/\∀n,f t n=bH ps n
def Ti.le {a:Option Nat} {f:Int->Int->Option Int} (H:Ti B a f) (l:B.le B'):Ti B' a f:=let⟨es,m,nd,g⟩:=H; ⟨es,m.le l,nd,λt=>let⟨ps,p,q⟩:=g t; ⟨ps,p.le l,q⟩⟩
structure Pg (B:Bs) (y:LV) (l:Lj):Prop where
 lo:LO B y ⟨l.fst,l.lg,y.a⟩
 cQ:Ti B y.a l.cQ
def Pg.le {y:LV} {l:Lj} (H:Pg B y l) (q:B.le B'):Pg B' y l:=⟨H.lo.le q,H.cQ.le q⟩
structure Fh (n b:Nat) (l:Lj):Prop where
 k:∀a,Lk n b ⟨l.fst,l.lg,a⟩
 cQ:∀t j q,l.cQ t j=some q->0<=j/\j<l.lg.length
def Fh.up {n b q:Nat} {l:Lj} (k:Fh n b l) (h:b<=q):Fh n q l:=⟨λa=>(k.k a).up h,k.cQ⟩
def Fh.bF {n b i:Nat} {l:Lj} {w:W3} (k:Fh n b l) (hi:i<n):Fh n (b+1) (l.bF i w):=⟨λa=>(k.k a).bF hi,λt j q h=>by
 have:=k.cQ t j q h;show 0<=j/\j<((l.lg.set _ _).length:Nat);rw[List.length_set]; exact this⟩
def Fh.xU {n b i t:Nat} {l:Lj} (k:Fh n b l) (hi:i<n):Fh n b (l.xU t i):=⟨k.k,λu j q h=>by
 have h:(if u=t/\j=(i / 8:Nat) then some ((l.lg.getD (i / 8) ([],0)).1.length:Int) else l.cQ u j)=some q:=h;have e:=(k.k none).lg;have e:l.lg.length=(n+7) / 8:=e;by_cases c:u=t/\j=(i / 8:Nat)
 ·show 0<=j/\j<(l.lg.length:Nat);omega
 ·rw[if_neg c] at h;exact k.cQ u j q h⟩
def Fh.uC {n b t:Nat} {l:Lj} (k:Fh n b l):Fh n b (l.uC t):=by
 refine⟨λa=>⟨(k.k a).fst,by show(l.lg.mapIdx _).length=_; rw[List.length_mapIdx]; exact(k.k a).lg,(k.k a).le,λg A=>?_⟩,λu j q h=>?_⟩
 ·have A:g∈l.lg.mapIdx (λn g=>(g.1,max g.2 ((l.cQ t n).getD g.2))):=A;obtain⟨i,hi,rfl⟩:=List.mem_mapIdx.1 A;exact(k.k a).len (l.lg[i]) (List.getElem_mem _)
 ·have h:(if u=t then none else l.cQ u j)=some q:=h;by_cases c:u=t
  ·rw[if_pos c] at h; cases h
  ·rw[if_neg c] at h;show 0<=j/\j<((l.lg.mapIdx _).length:Nat);rw[List.length_mapIdx];exact k.cQ u j q h
section
variable {n b t i:Nat} {y:LV} {l:Lj} {w:W3} {a:Option Nat} {ps:List (Int × Int)} {es:List (Int × Option Nat)}
def lZ (u:1<=t/\t<=8) (q:∀h',Gr h h'->R (.bool true) h'):S.C 117 [(.int .i64 t)] h R:=by
 refine tm.2 ?_;dsimp only[tm,iJ];have c:=Cx.aB h;exact .here<|vx (ny (by omega))<|bU<|vx (Be (by omega))<|q _ c.gr
def DB (m:Mp .i64 mI h (.map a) ps) (u:∀k h',Cx (λ_=>False) h h' [AR .i64 mI (.map (some k)) ps]->R (.map (some k)) h'):S.C 119 [(.map a)] h R:=by
 refine gB.2 ?_;obtain⟨r,es,clock,e,A,he⟩:=m;injection e with e;subst e;refine En.vb (v:=.bool false) rfl ?_;rw[kl,aQ];refine En.eb (v:=.iface 232 (.map (some h.size))) (h':=h.push (.map es clock)) (by simp only[K9,A]) ?_;refine En.vb (v:=.map (some h.size)) (by simp[Az]) ?_;refine u _ _ ((Cx.aB h).add (F':=λq=>q=h.size) ⟨⟨h.size,es,clock,rfl,by simp,he⟩,λq=>by simp[uV,eq_comm]⟩ (Ch.push _ _) λr e=>by omega)
def Bq (q:R (.map none) h):S.C 119 [(.map none)] h R:=by
 refine gB.2 ?_;refine En.vb (v:=.bool true) rfl ?_;rw[C8];exact q
def vR (m:Mp .i64 mM h (.map a) es) (u:∀k h',Cx (λ_=>False) h h' [AR .i64 mM (.map (some k)) es]->R (.map (some k)) h'):S.C 120 [(.map a)] h R:=by
 refine cX.2 ?_;obtain⟨r,es,clock,e,A,he⟩:=m;injection e with e;subst e;refine En.vb (v:=.bool false) rfl ?_;rw[kl,aQ];refine En.eb (v:=.iface 32 (.map (some h.size))) (h':=h.push (.map es clock)) (by simp only[K9,A]) ?_;refine En.vb (v:=.map (some h.size)) (by simp[Az]) ?_;refine u _ _ ((Cx.aB h).add (F':=λq=>q=h.size) ⟨⟨h.size,es,clock,rfl,by simp,he⟩,λq=>by simp[uV,eq_comm]⟩ (Ch.push _ _) λr e=>by omega)
def wG (q:R (.map none) h):S.C 120 [(.map none)] h R:=by
 refine cX.2 ?_;refine En.vb (v:=.bool true) rfl ?_;rw[C8];exact q
end
section
variable {α:Type} {ik:IntKind} {E:α->Value} {h h':Hp} {v:Value} {ps:List (Int × α)}
def vO (ps:List (Int × α)) (k:Int):List (Int × α):=ps.eraseP λp=>p.1 == k
def Em {p:Int × α} {k:Int}:∀{ps1 ps2:List (Int × α)},(∀q∈ps1,q.1≠k)->p.1=k->vO (ps1++p::ps2) k=ps1++ps2
 | [],ps2,_,h=>by unfold vO; rw[List.nil_append,List.eraseP_cons_of_pos (by simpa using h),List.nil_append]
 | q::ps1,ps2,h1,h2=>by
  have u:=Em (ps1:=ps1) (ps2:=ps2) (λq A=>h1 q (List.mem_cons_of_mem _ A)) h2;unfold vO at u⊢;rw[List.cons_append,List.eraseP_cons_of_neg (by simpa using h1 q (by simp)),u,List.cons_append]
def Bj {k:Int}:∀{ps:List (Int × α)},bH ps k=none->vO ps k=ps
 | [],_=>rfl
 | p::ps,h=>by
  unfold bH at h;by_cases e:p.1=k
  ·rw[List.find?_cons_of_pos (by simpa using e)] at h; simp at h
  ·rw[List.find?_cons_of_neg (by simpa using e)] at h;have q:=Bj (ps:=ps) h;unfold vO at q⊢;rw[List.eraseP_cons_of_neg (by simpa using e),q]
def Ae {k k':Int}:∀{ps:List (Int × α)},(ps.map (·.1)).Nodup->bH (vO ps k) k'=if k'=k then none else bH ps k'
 | [],_=>by simp[vO,bH]
 | p::ps,A=>by
  rw[List.map_cons,List.nodup_cons] at A;have B:=Ae (k:=k) (k':=k') A.2;unfold vO at B⊢;by_cases h:p.1=k
  ·rw[List.eraseP_cons_of_pos (by simpa using h)];by_cases h2:k'=k
   ·rw[if_pos h2];unfold bH;rw[List.find?_eq_none.2 λq F=>by
     intro e;simp only[beq_iff_eq] at e;exact A.1 (List.mem_map.2 ⟨q,F,by rw[e,h2,h]⟩)]
    rfl
   ·rw[if_neg h2];unfold bH;rw[List.find?_cons_of_neg (by rw[h]; simpa using λe=>h2 e.symm)]
  ·rw[List.eraseP_cons_of_neg (by simpa using h)];unfold bH at B⊢;by_cases u:p.1=k'
   ·rw[List.find?_cons_of_pos (by simpa using u),List.find?_cons_of_pos (by simpa using u),if_neg (by rw[<-u]; exact h)]
   ·rw[List.find?_cons_of_neg (by simpa using u),List.find?_cons_of_neg (by simpa using u)]; exact B
def Gt {k:Int} (h:(ps.map (·.1)).Nodup):((vO ps k).map (·.1)).Nodup:=h.sublist (List.eraseP_sublist.map _)
def Mp.del (H:Mp ik E h v ps) (k:Int):∃h',GZ (.int ik) v (.int ik k) h=some (.tuple #[],h')/\Mp ik E h' v (vO ps k)/\Ch (λr=>uV v=some r) h h':=by
 obtain⟨r,es,clock,rfl,K,he⟩:=H;obtain⟨f,h1,h2,Q⟩:=yL (k:=k) 0 he.Nr;have G:=(Array.getElem?_eq_some_iff.mp K).1;have J:∀o,Ch (λM=>uV (.map (some r))=some M) h (h.setIfInBounds r o):=λo=>⟨by simp,λM _ R=>by rw[Array.getElem?_setIfInBounds,if_neg (λe=>R (by rw[<-e]; rfl))]⟩;cases f with
 | some y=>
  obtain⟨j,u⟩:=y;refine⟨_,by simp only[GZ,rm,K,h1]; rfl,⟨r,_,clock,rfl,by rw[Array.getElem?_setIfInBounds,if_pos rfl,if_pos G],?_⟩,J _⟩;obtain⟨q,e,A,ps1,p,ps2,F,rfl,Z,a4,T,U,V,a8⟩:=Q j u rfl;have X:j=q.length:=by omega
  have hlen:j<es.size:=by
   have:=congrArg List.length F;simp only[Array.length_toList,List.length_append,List.length_cons] at this;omega
  have hm:(es.eraseIdxIfInBounds j).toList=q++A:=by
   rw[Array.toList_eraseIdxIfInBounds,F,X,List.eraseIdx_append_of_length_le (Nat.le_refl _),Nat.sub_self];rfl
  rw[hm];have N:=he.Nr;rw[F,List.map_append,List.map_append,List.map_cons,List.map_cons] at N;obtain⟨d1,d2⟩:=List.append_inj N (by simp[T]);simp only[List.cons.injEq] at d2;refine⟨?_,?_,?_⟩
  ·rw[Em V U,List.map_append,List.map_append,d1,d2.2]
  ·intro O L;rcases List.mem_append.mp L with m | m
   ·exact he.born O (by rw[F]; simp[m])
   ·exact he.born O (by rw[F]; simp[m])
  ·have hs:(q++A).Sublist es.toList:=by
    rw[F];exact(List.Sublist.refl q).append (List.sublist_cons_self e A)
   exact he.nodup.sublist (hs.map _)
 | none=>
  have B:bH ps k=none:=by simpa using h2.symm
  refine⟨_,by simp only[GZ,rm,K,h1]; rfl,⟨r,_,clock,rfl,by rw[Array.getElem?_setIfInBounds,if_pos rfl,if_pos G],?_⟩,J _⟩;rw[Bj B];exact he
def Cx.GZ {u:Fp} {A:Hp} {L:List aX} {E:α->Value} {v:Value} {ps:List (Int × α)} (c:Cx u A h L) (i:Nat) (hi:L[i]?=some (AR .i64 E v ps)) (k:Int) {K:Value->Hp->Prop}
  (G:∀h',Cx u A h' (L.set i (AR .i64 E v (vO ps k)))->K (.tuple #[]) h'):Eb (En.GZ (.int .i64) v (.int .i64 k) h) K:=by
 obtain⟨F,⟨m,B⟩,up⟩:=c.IA hi;obtain⟨h',e,H,ch⟩:=m.del k;exact eb e (G h' (up (F':=F) ⟨H,B⟩ (lm (ch.mono λq _ e=>(B q).2 e))))
end
def SJ {a:Option Nat} {es:List (Int × Option Nat)} (H:(a=none/\es=[])\/Mp .i64 mM h (.map a) es) (k:Int):JM (.int .i64) (.map none) false (.map a) (.int .i64 k) h=some (.map ((bH es k).getD none)):=by
 rcases H with ⟨rfl,rfl⟩| m
 ·rfl
 ·rw[m.look];cases bH es k with
  | none=>rfl
  | some x=>rfl
section
variable {n b t i:Nat} {y:LV} {l:Lj}
def M5 (A:B.p h) (H:Pg B y l) (k:Fh n b l) (N:1<=t/\t<=8) (hi:i<n) (hR:∀y',Rt B h (λB=>Pg B y' (l.xU t i)) λh'=>R (.tuple #[KV y',.int .i64 0]) h'):S.C 90 [(KV y),(.int .i64 t),(.int .i64 i)] h R:=by
 refine uu.2 ?_;obtain⟨us,h1,h2,h3⟩:=H.lo.lg;obtain⟨es,A1,A2,Q⟩:=H.cQ;obtain⟨ps,P1,P3,P2⟩:=Q t;have hl:=(k.k none).lg;have hle:=(k.k none).le;have hl:l.lg.length=(n+7) / 8:=hl;have h2:us.length=l.lg.length:=h2;have T:i / 8<us.length:=by omega
 have hu:=List.getElem?_eq_getElem (l:=us) (i:=i / 8) T;have hg:l.lg[i / 8]?=some (l.lg.getD (i / 8) ([],0)):=by
  rw[List.getD_eq_getElem?_getD,List.getElem?_eq_getElem (by omega)]; rfl
 obtain⟨e2,s1⟩:=h3 _ _ _ hu hg;have aS:=(k.k none).len _ (List.mem_of_getElem? hg);generalize us[i / 8]=u at hu e2 s1;obtain⟨u,kp⟩:=u;dsimp only at e2 s1;have G:((i:Int)) / 8=((i / 8:Nat):Int):=by omega
 have E:∀{M:Hp},Gr h M->JM (.int .i64) (.map none) false (.map y.a) (.int .i64 t) M=some (.map ((bH es t).getD none)):=λg=>SJ (A1 _ (B.up A g)) t;have fin:∀(q k2:Nat) (h':Hp),Cx (λ_=>False) h h' [AR .i64 mI (.map (some q)) (lC ps (i / 8:Nat) ((l.lg.getD (i / 8) ([],0)).1.length:Nat)),AR .i64 mM (.map (some k2)) (lC es t (some q))]->R (.tuple #[KV ⟨y.f,y.l,some k2⟩,.int .i64 0]) h':=λq k2 h' c=>by
  refine hR ⟨y.f,y.l,some k2⟩ [AR .i64 mI (.map (some q)) (lC ps (i / 8:Nat) ((l.lg.getD (i / 8) ([],0)).1.length:Nat)),AR .i64 mM (.map (some k2)) (lC es t (some q))] h' (Cx.pack (L:=[]) c) ⟨⟨H.lo.fst.le (Bs.aJ _ _),(H.lo.le (Bs.aJ _ _)).lg,rfl⟩,lC es t (some q),(On.mp (i:=1) rfl).imp λ_ m=>.inr m,tI _ _ A2,λU=>?_⟩;rw[pZ];by_cases V:U=t
  ·subst V;rw[if_pos rfl];refine⟨_,(On.mp (i:=0) rfl).imp λ_ m=>.inr m,tI _ _ P3,λK=>?_⟩;rw[pZ,<-P2 K];show(if (t:Int)=t/\K=(i / 8:Nat) then _ else _)=_;by_cases O:K=(i / 8:Nat)
   ·rw[if_pos ⟨rfl,O⟩,if_pos O]
   ·rw[if_neg (λx=>O x.2),if_neg O]
  ·rw[if_neg V];obtain⟨qs,q1,q2⟩:=Q U;refine⟨qs,q1.le (Bs.aJ _ _),q2.1,λK=>?_⟩;show(if U=t/\K=(i / 8:Nat) then _ else _)=_;rw[if_neg (λx=>V x.1)];exact q2.2 K
 obtain⟨yf,yl,ya⟩:=y;dsimp only at h1 A1 Q E fin;generalize (bH es t).getD none=o at P1 E;rcases P1 _ A with ⟨rfl,rfl⟩| mi
 ·rcases A1 _ A with ⟨rfl,rfl⟩| X
  ·skip
   have c:=Cx.aB h;refine c.v3 λ_ _ c=>?_;refine c.v3 λ_ _ c=>?_;refine lZ N λ_ g=>?_;have c:=c.more g;refine vx (v:=.bool false) (rfl)<|aN<|c.rl 0 ?_;refine Dy (B.up A c.gr) H.lo (k.k _) hi λ_ g=>?_;have c:=c.more g;refine vx (v:=.bool false) (rfl)<|aN<|aE<|c.rc 0 ?_;refine vx (E c.gr)<|Bq ?_;refine .here<|vx (v:=.bool true) (rfl)<|bU<|c.Gb .i64 mI λq _ c=>?_;replace c:=c.n3;refine vx (zl ⟨by omega,by omega⟩ (by decide)) ?_;rw[G];refine aE<|c.rc 0 ?_;obtain⟨r,Z,el,J,_⟩:=(h1 _ (B.up A c.gr)).ix hu (n:=2) rfl (k:=.i64) (z:=((i / 8:Nat):Int)) rfl;refine vx el<|vx (gQ _ _ _)<|vx (J.eH (j:=0) rfl)<|vx (s1 _ (B.up A c.gr)).ln<|c.wB 2 rfl (i / 8:Nat) ((l.lg.getD (i / 8) ([],0)).1.length:Nat) rfl λ_ c=>?_;replace c:=c.n3;refine aE<|c.rc 0 ?_;refine wG ?_;refine aE<|c.q3 0 λ_ c=>?_;refine .here<|aE<|c.rc 0 ?_;refine vx (v:=.bool true) (rfl)<|bU<|c.Gb .i64 mM λk2 _ c=>?_;replace c:=c.n4;refine aE<|c.q3 0 λ_ c=>?_;refine aE<|c.rc 0 ?_;refine c.wB 3 rfl t (some q) rfl λ_ c=>?_;replace c:=c.n4;refine c.rl 0 ?_;refine c.w3 1 λ_ c=>?_;refine c.rl 1 ?_;exact fin q k2 _ (c.pick [2,3])
  ·skip
   have c:=Cx.aB h;refine c.v3 λ_ _ c=>?_;refine c.v3 λ_ _ c=>?_;refine lZ N λ_ g=>?_;have c:=c.more g;refine vx (v:=.bool false) (rfl)<|aN<|c.rl 0 ?_;refine Dy (B.up A c.gr) H.lo (k.k _) hi λ_ g=>?_;have c:=c.more g;refine vx (v:=.bool false) (rfl)<|aN<|aE<|c.rc 0 ?_;refine vx (E c.gr)<|Bq ?_;refine .here<|vx (v:=.bool true) (rfl)<|bU<|c.Gb .i64 mI λq _ c=>?_;replace c:=c.n3;refine vx (zl ⟨by omega,by omega⟩ (by decide)) ?_;rw[G];refine aE<|c.rc 0 ?_;obtain⟨r,Z,el,J,_⟩:=(h1 _ (B.up A c.gr)).ix hu (n:=2) rfl (k:=.i64) (z:=((i / 8:Nat):Int)) rfl;refine vx el<|vx (gQ _ _ _)<|vx (J.eH (j:=0) rfl)<|vx (s1 _ (B.up A c.gr)).ln<|c.wB 2 rfl (i / 8:Nat) ((l.lg.getD (i / 8) ([],0)).1.length:Nat) rfl λ_ c=>?_;replace c:=c.n3;refine aE<|c.rc 0 ?_;refine vR (X.gr c.gr) λk2 _ d=>?_;have c:=c.aF d;replace c:=c.n4;refine aE<|c.q3 0 λ_ c=>?_;refine .here<|aE<|c.rc 0 ?_;refine vx (v:=.bool false) (rfl)<|aN<|aE<|c.rc 0 ?_;refine c.wB 3 rfl t (some q) rfl λ_ c=>?_;replace c:=c.n4;refine c.rl 0 ?_;refine c.w3 1 λ_ c=>?_;refine c.rl 1 ?_;exact fin q k2 _ (c.pick [2,3])
 ·rcases A1 _ A with ⟨rfl,rfl⟩| X
  ·skip
   have c:=Cx.aB h;refine c.v3 λ_ _ c=>?_;refine c.v3 λ_ _ c=>?_;refine lZ N λ_ g=>?_;have c:=c.more g;refine vx (v:=.bool false) (rfl)<|aN<|c.rl 0 ?_;refine Dy (B.up A c.gr) H.lo (k.k _) hi λ_ g=>?_;have c:=c.more g;refine vx (v:=.bool false) (rfl)<|aN<|aE<|c.rc 0 ?_;refine vx (E c.gr)<|DB (mi.gr c.gr) λq _ d=>?_;have c:=c.aF d;replace c:=c.n3;refine .here<|vx (v:=.bool false) (rfl)<|aN<|vx (zl ⟨by omega,by omega⟩ (by decide)) ?_;rw[G];refine aE<|c.rc 0 ?_;obtain⟨r,Z,el,J,_⟩:=(h1 _ (B.up A c.gr)).ix hu (n:=2) rfl (k:=.i64) (z:=((i / 8:Nat):Int)) rfl;refine vx el<|vx (gQ _ _ _)<|vx (J.eH (j:=0) rfl)<|vx (s1 _ (B.up A c.gr)).ln<|c.wB 2 rfl (i / 8:Nat) ((l.lg.getD (i / 8) ([],0)).1.length:Nat) rfl λ_ c=>?_;replace c:=c.n3;refine aE<|c.rc 0 ?_;refine wG ?_;refine aE<|c.q3 0 λ_ c=>?_;refine .here<|aE<|c.rc 0 ?_;refine vx (v:=.bool true) (rfl)<|bU<|c.Gb .i64 mM λk2 _ c=>?_;replace c:=c.n4;refine aE<|c.q3 0 λ_ c=>?_;refine aE<|c.rc 0 ?_;refine c.wB 3 rfl t (some q) rfl λ_ c=>?_;replace c:=c.n4;refine c.rl 0 ?_;refine c.w3 1 λ_ c=>?_;refine c.rl 1 ?_;exact fin q k2 _ (c.pick [2,3])
  ·skip
   have c:=Cx.aB h;refine c.v3 λ_ _ c=>?_;refine c.v3 λ_ _ c=>?_;refine lZ N λ_ g=>?_;have c:=c.more g;refine vx (v:=.bool false) (rfl)<|aN<|c.rl 0 ?_;refine Dy (B.up A c.gr) H.lo (k.k _) hi λ_ g=>?_;have c:=c.more g;refine vx (v:=.bool false) (rfl)<|aN<|aE<|c.rc 0 ?_;refine vx (E c.gr)<|DB (mi.gr c.gr) λq _ d=>?_;have c:=c.aF d;replace c:=c.n3;refine .here<|vx (v:=.bool false) (rfl)<|aN<|vx (zl ⟨by omega,by omega⟩ (by decide)) ?_;rw[G];refine aE<|c.rc 0 ?_;obtain⟨r,Z,el,J,_⟩:=(h1 _ (B.up A c.gr)).ix hu (n:=2) rfl (k:=.i64) (z:=((i / 8:Nat):Int)) rfl;refine vx el<|vx (gQ _ _ _)<|vx (J.eH (j:=0) rfl)<|vx (s1 _ (B.up A c.gr)).ln<|c.wB 2 rfl (i / 8:Nat) ((l.lg.getD (i / 8) ([],0)).1.length:Nat) rfl λ_ c=>?_;replace c:=c.n3;refine aE<|c.rc 0 ?_;refine vR (X.gr c.gr) λk2 _ d=>?_;have c:=c.aF d;replace c:=c.n4;refine aE<|c.q3 0 λ_ c=>?_;refine .here<|aE<|c.rc 0 ?_;refine vx (v:=.bool false) (rfl)<|aN<|aE<|c.rc 0 ?_;refine c.wB 3 rfl t (some q) rfl λ_ c=>?_;replace c:=c.n4;refine c.rl 0 ?_;refine c.w3 1 λ_ c=>?_;refine c.rl 1 ?_;exact fin q k2 _ (c.pick [2,3])
end
section
variable {n b t i:Nat} {y:LV} {l:Lj}
def QK (b0:B.p h) (H:Pg B y l) (k:Fh n b l) (ht:1<=t/\t<=8) (hR:∀y',Rt B h (λB=>Pg B y' (l.uC t)) λh'=>R (.tuple #[KV y',.int .i64 0]) h'):S.C 91 [(KV y),(.int .i64 t)] h R:=by
 refine vt.2 ?_;obtain⟨us,h1,h2,h3⟩:=H.lo.lg;obtain⟨es,A1,A2,A3⟩:=H.cQ;obtain⟨ps,P1,P3,P2⟩:=A3 t;have hl:=(k.k none).lg;have hle:=(k.k none).le;have hl:l.lg.length=(n+7) / 8:=hl;have h2:us.length=l.lg.length:=h2;have J:∀{oR:Hp},Gr h oR->JM (.int .i64) (.map none) false (.map y.a) (.int .i64 t) oR=some (.map ((bH es t).getD none)):=λg=>SJ (A1 _ (B.up b0 g)) t;have A:∀(ls:SH) (a':Option Nat) (M:List aX) (E:List (SH × Int)) (h':Hp),Cx (λ_=>False) h h' [aD M]->(On (B.and M) λh=>Sl J9 h (aK ls) E)->(∀(j:Nat) (u:SH × Int),us[j]?=some u->E[j]?=some (u.1,max u.2 ((bH ps j).getD u.2)))->E.length=us.length->
   (On (B.and M) λh=>(a'=none/\vO es t=[])\/Mp .i64 mM h (.map a') (vO es t))->R (.tuple #[KV ⟨y.f,ls,a'⟩,.int .i64 0]) h':=λls a' M E h' c q1 q2 q3 q4=>by
  refine hR ⟨y.f,ls,a'⟩ M h' c ⟨⟨H.lo.fst.le (Bs.aJ _ _),⟨E,q1,?_,λj u g hu hg=>?_⟩,rfl⟩,vO es t,q4,Gt A2,λt'=>?_⟩
  ·show E.length=(l.lg.mapIdx _).length;rw[List.length_mapIdx,q3,h2]
  ·have hg:(l.lg.mapIdx (λn g=>(g.1,max g.2 ((l.cQ t n).getD g.2))))[j]?=some g:=hg;rw[List.getElem?_mapIdx] at hg;cases T:l.lg[j]? with
   | none=>rw[T] at hg; cases hg
   | some g0=>
    rw[T] at hg;simp only[Option.map_some,Option.some.injEq] at hg;have hj:=(List.getElem?_eq_some_iff.1 T).1;have iF:=List.getElem?_eq_getElem (l:=us) (i:=j) (by omega);generalize us[j]'(by omega)=u0 at iF;rw[q2 j u0 iF] at hu;injection hu with hu;subst hu hg;obtain⟨r1,r2⟩:=h3 j u0 g0 iF T;refine⟨?_,r2.le (Bs.aJ _ _)⟩;dsimp only;rw[r1,<-P2]
  ·rw[Ae A2];by_cases ct:t'=t
   ·subst ct;rw[if_pos rfl];exact⟨[],λ_ _=>.inl ⟨rfl,rfl⟩,List.nodup_nil,λn'=>if_pos rfl⟩
   ·rw[if_neg ct];obtain⟨qs,r1,r2,r3⟩:=A3 t';exact⟨qs,r1.le (Bs.aJ _ _),r2,λn'=>(if_neg ct).trans (r3 n')⟩
 obtain⟨yf,yl,ya⟩:=y;dsimp only at h1 A1 A3 J A;rcases A1 _ b0 with ⟨rfl,rfl⟩| mo
 ·obtain rfl:ps=[]:=by
   rcases P1 _ b0 with ⟨_,e⟩| m
   ·exact e
   ·exact absurd m (λ⟨_,_,_,e,_⟩=>by cases e)
  have c:=Cx.aB h;refine c.v3 λ_ _ c=>?_;refine c.v3 λ_ _ c=>?_;refine lZ ht λ_ g=>?_;have c:=c.more g;refine vx (v:=.bool false) (rfl)<|aN<|aE<|c.rc 0 ?_;refine wg (h1 _ (B.up b0 c.gr)) (by omega) λU _ d=>?_;have c:=c.aF d;replace c:=c.n3;refine aE<|c.q3 0 λ_ c=>?_;refine aE<|c.rc 0 ?_;refine vx (J c.gr)<|En.eb (v:=bE _) (h':=_) (by exact rfl) ?_;have c:=c.more (Ch.push _ (.mapIter none 0 #[] 0));replace c:=c.n3;refine Fm.by (λ(_:Unit) h'=>h'=_) (λ_=>0) () rfl ?_;rintro _ h5 rfl again _;refine⟨_,rfl,.inl ⟨0,#[],0,by simp,?_⟩⟩;refine vx (v:=.bool false) (rfl)<|aN<|aE<|c.rc 0 ?_;refine wG ?_;refine aE<|c.q3 0 λ_ c=>?_;refine aE<|c.rc 0 ?_;refine En.eb (v:=.tuple #[]) (by exact rfl) ?_;refine c.rl 0 ?_;refine c.w3 1 λ_ c=>?_;refine c.rl 1 ?_;exact A U none _ us _ (Cx.pack (L:=[]) (M:=[_]) (c.pick [2])) (On.sl (i:=0) rfl) (λj u e=>by rw[e]; simp[bH]) rfl λ_ _=>.inl ⟨rfl,rfl⟩
 ·generalize ho:(bH es t).getD none=o at P1 J;rcases P1 _ b0 with ⟨rfl,rfl⟩| mi
  ·skip
   have c:=Cx.aB h;refine c.v3 λ_ _ c=>?_;refine c.v3 λ_ _ c=>?_;refine lZ ht λ_ g=>?_;have c:=c.more g;refine vx (v:=.bool false) (rfl)<|aN<|aE<|c.rc 0 ?_;refine wg (h1 _ (B.up b0 c.gr)) (by omega) λU _ d=>?_;have c:=c.aF d;replace c:=c.n3;refine aE<|c.q3 0 λ_ c=>?_;refine aE<|c.rc 0 ?_;refine vx (J c.gr)<|En.eb (v:=bE _) (h':=_) (by exact rfl) ?_;have c:=c.more (Ch.push _ (.mapIter none 0 #[] 0));replace c:=c.n3;refine Fm.by (λ(_:Unit) h'=>h'=_) (λ_=>0) () rfl ?_;rintro _ h5 rfl again _;refine⟨_,rfl,.inl ⟨0,#[],0,by simp,?_⟩⟩;refine vx (v:=.bool false) (rfl)<|aN<|aE<|c.rc 0 ?_;refine vR (mo.gr c.gr) λk2 _ d=>?_;have c:=c.aF d;replace c:=c.n4;refine aE<|c.q3 0 λ_ c=>?_;refine aE<|c.rc 0 ?_;refine c.GZ 3 rfl t λ_ c=>?_;replace c:=c.n4;refine c.rl 0 ?_;refine c.w3 1 λ_ c=>?_;refine c.rl 1 ?_;exact A U (some k2) _ us _ (Cx.pack (L:=[]) (M:=[_,_]) (c.pick [2,3])) (On.sl (i:=0) rfl) (λj u e=>by rw[e]; simp[bH]) rfl λh b=>.inr ((On.mp (B:=B) (i:=1) rfl) h b)
  ·skip
   have c:=Cx.aB h;refine c.v3 λrW _ c=>?_;refine c.v3 λtO _ c=>?_;refine lZ ht λ_ g=>?_;have c:=c.more g;refine vx (v:=.bool false) (rfl)<|aN<|aE<|c.rc 0 ?_;refine wg (h1 _ (B.up b0 c.gr)) (by omega) λU _ d=>?_;have c:=c.aF d;replace c:=c.n3;refine aE<|c.vq 0 rfl (vs:=[_]) (ds:=[_,_,_]) (by exact rfl) (by exact rfl) (by exact rfl) (by exact rfl) (by exact rfl) λh6' c=>?_;replace c:=c.n3;refine aE<|c.rc 0 ?_;refine vx (J c.gr) ?_;obtain⟨mb,V,clock,e,hh,he⟩:=mi;injection e with e;subst e;have X:∀{h5:Hp} {L:List aX},Cx (λ_=>False) h h5 L->h5[mb]?=some (.map V clock):=λc=>by
    rw[c.gr.same mb (Array.getElem?_eq_some_iff.mp hh).1 λe=>e]; exact hh
   refine En.eb (v:=bE _) (h':=_) (by simp only[MJ,rm,X c]; rfl) ?_;have hs4:=c.gr.size;have c:=c.yB (.mapIter (some mb) clock #[] clock);obtain⟨G,hO⟩:∃G:List Nat->Obj,G=λD=>.mapIter (some mb) clock (D.map λi=>((V.toList[i]?).map (·.born)).getD 0).toArray clock:=⟨_,rfl⟩;rw[show Obj.mapIter (some mb) clock #[] clock=G [] from by rw[hO]; rfl] at c⊢;replace c:=c.n4;obtain⟨r,hr,uS⟩:∃r,r=Array.size h6'/\r≠mb:=⟨_,rfl,λe=>by
    have h9:=(Array.getElem?_eq_some_iff.mp hh).1;omega⟩
   rw[<-hr] at c⊢;refine Fm.by (λ(z:List Nat × List (SH × Int)) h'=>Cx (λ_=>False) h h' [rV rW [aK yf,aK U,.map ya],rV tO [.slice none 0 0,.slice none 0 0,.map none],bJ J9 (aK U) z.2,nt r (G z.1)]/\z.1.Nodup/\(∀i∈z.1,i<ps.length)/\z.2.length=us.length/\∀(j:Nat) (u:SH × Int),us[j]?=some u->∃q,z.2[j]?=some (u.1,q)/\((∃i∈z.1,∃p,ps[i]?=some p/\p.1=j)->q=max u.2 ((bH ps j).getD u.2))/\((∀i∈z.1,∀p,ps[i]?=some p->p.1≠j)->q=u.2)) (λz=>ps.length - z.1.length) ([],us) ⟨c,List.nodup_nil,(λi hi=>by cases hi),rfl,λj u e=>⟨u.2,e,(λ⟨i,hi,_⟩=>by cases hi),λ_=>rfl⟩⟩ ?_;clear c hr;rintro⟨D,zs⟩ h6 ⟨c,hnd,hlt,hzl,iN⟩ again Z;dsimp only at *;have dO:=c.obj (i:=3) rfl;rw[hO] at dO;have it:It .i64 mI h6 r mb ps D:=⟨⟨V,clock,X c,he,dO⟩,hnd,hlt,uS⟩;refine it.next (λhall=>?_) λj p h7 aS hjD aT ch hent=>?_
   ·have hfin:∀(j:Nat) (u:SH × Int),us[j]?=some u->zs[j]?=some (u.1,max u.2 ((bH ps j).getD u.2)):=λj u hu=>by
     obtain⟨q,q1,q2,q3⟩:=iN j u hu;rw[q1];cases iS:bH ps j with
     | none=>
      rw[q3 λi hi p K e=>by
       have:(p.1,p.2)∈ps:=List.mem_of_getElem? K;rw[wZ P3,e,iS] at this;cases this]
      simp
     | some x=>
      have:=(wZ P3).2 iS;obtain⟨i,hi,e⟩:=List.getElem_of_mem this;rw[q2 ⟨i,hall i hi,_,List.getElem?_eq_getElem hi,by rw[e]⟩,iS]
    refine vx rfl<|aN<|aE<|c.rc 0 ?_;refine vR (mo.gr c.gr) λk2 _ d=>?_;have c:=c.aF d;replace c:=c.n5;refine aE<|c.q3 0 λ_ c=>?_;refine aE<|c.rc 0 ?_;refine c.GZ 4 rfl t λ_ c=>?_;replace c:=c.n5;refine c.rl 0 ?_;refine c.w3 1 λ_ c=>?_;refine c.rl 1 ?_;exact A U (some k2) _ zs _ (Cx.pack (L:=[]) (M:=[_,_]) (c.pick [2,4])) (On.sl (i:=0) rfl) hfin hzl λh b=>.inr ((On.mp (B:=B) (i:=1) rfl) h b)
   ·obtain⟨es2,clock2,e1,e2,e3⟩:=aT.ex;have c:Cx (λ_=>False) h h7 [rV rW [aK yf,aK U,.map ya],rV tO [.slice none 0 0,.slice none 0 0,.map none],bJ J9 (aK U) zs,nt r (G (D++[j]))]:=by
     obtain⟨F,⟨o,hf⟩,up⟩:=c.IA (i:=3) rfl;have bY:h7[mb]?=some (.map V clock):=by
      rw[ch.same mb (Array.getElem?_eq_some_iff.mp (X c)).1 λe=>uS e.symm]; exact X c
     rw[e1] at bY;injection bY with bY;injection bY with q1 q2;subst q1; subst q2;exact up (B:=nt r (G (D++[j]))) (F':=F) ⟨by rw[hO]; exact e3,hf⟩ (lm (ch.mono λq _ e=>(hf q).2 e))
    obtain⟨pk,O⟩:=p;have eQ:bH ps pk=some O:=(wZ P3).1 (List.mem_of_getElem? aS);obtain⟨hk1,hk2⟩:=k.cQ t pk O (by rw[P2]; exact eQ);obtain⟨Q,rfl⟩:∃Q:Nat,pk=Q:=⟨pk.toNat,by omega⟩;have hu:=List.getElem?_eq_getElem (l:=us) (i:=Q) (by omega);generalize us[Q]'(by omega)=u at hu;obtain⟨q,RZ,RY,hz3⟩:=iN Q u hu;have hq:q=u.2:=hz3 λi hi p K e=>hjD (by
     have h1:i<ps.length:=hlt i hi;have hmm:(ps.map (·.1))[i]?=some (Q:Int):=by rw[List.getElem?_map,K]; exact congrArg some e
     have hm2:(ps.map (·.1))[j]?=some (Q:Int):=by rw[List.getElem?_map,aS]; rfl
     have:=(List.getElem?_inj (l:=ps.map (·.1)) (by rw[List.length_map]; exact h1) P3).1 (hmm.trans hm2.symm);rw[<-this]; exact hi)
    refine vx rfl<|bU<|vx hent<|vx rfl<|vx rfl<|aE<|c.rc 0 ?_;refine aE<|c.rc 0 ?_;obtain⟨r9,o9,e9,row9,_⟩:=(c.sl (i:=2) rfl).sl.ix RZ (n:=2) rfl (k:=.i64) (z:=(Q:Int)) rfl;refine vx e9<|vx (gQ _ _ _)<|vx (row9.eH (j:=1) rfl)<|En.vb (v:=.int .i64 (max q O)) (by
     show some (Value.int .i64 (if O > q then O else q))=_;rw[show(if O > q then O else q)=max q O from by split <;> omega]) ?_
    refine c.EJ 2 rfl RZ (u.1,max q O) rfl rfl rfl (by decide) rfl λ_ c=>?_;replace c:=c.n4;have hDl:(D++[j]).length<=ps.length:=aT.len;refine Z (D++[j],zs.set Q (u.1,max q O)) _ ⟨c,aT.nodup,aT.lt,by rw[List.length_set]; exact hzl,λj' u' N=>?_⟩ (by dsimp only; rw[List.length_append,List.length_singleton] at *; omega);dsimp only;rw[List.getElem?_set];by_cases ej:Q=j'
    ·subst ej;rw[if_pos rfl,if_pos (by omega)];rw[hu] at N;injection N with N;subst N;exact⟨_,rfl,(λ_=>by rw[eQ,hq]; rfl),λoF=>absurd rfl (oF j (by simp) _ aS)⟩
    ·rw[if_neg ej];obtain⟨q',a1,a2,a3⟩:=iN j' u' N;refine⟨q',a1,λ⟨i,hi,p,K,e⟩=>?_,λoF=>a3 λi hi p K=>oF i (List.mem_append_left _ hi) p K⟩;rcases List.mem_append.1 hi with hi | hi
     ·exact a2 ⟨i,hi,p,K,e⟩
     ·rw[List.mem_singleton] at hi;subst hi;rw[aS] at K;injection K with K;subst K;exact absurd (Int.ofNat_inj.1 e) ej
end
structure Mj where
 me:Me
 li:Lj
structure wm (B:Bs) (T:Nat) (v:MV) (m:Mj):Prop where
 me:MO B v.x m.me
 li:Pg B v.y m.li
 st:∃ss:List Int,(On B λh=>Sl mf h (aK v.s) ss)/\ss.length=T
def wm.le {T:Nat} {v:MV} {m:Mj} (H:wm B T v m) (l:B.le B'):wm B' T v m:=let⟨a,b,ss,c,d⟩:=H; ⟨a.le l,b.le l,ss,c.le l,d⟩
structure xP (T n b:Nat) (m:Mj):Prop where
 me:Mk T n b m.me
 li:Fh n b m.li
def wm.mc {T:Nat} {v:MV} {m:Mj} (_:wm B T v m):Mc:=⟨m.me,⟨m.li.fst,m.li.lg,v.y.a⟩⟩
def wm.ko {T:Nat} {v:MV} {m:Mj} (H:wm B T v m):KO B T v H.mc:=⟨H.me,H.li.lo,H.st⟩
def xP.kk {T n b:Nat} {v:MV} {m:Mj} (k:xP T n b m) (H:wm B T v m):Kk T n b H.mc:=⟨k.me,k.li.k _⟩
inductive xz (m:Mj) (t:Nat):Ac->Mj->cP->Prop where
 | look (i:Nat) (o n:W3):i<m.me.hs.length->xz m t ⟨5,i,o,n⟩ {m with me:=m.me.lO t i ((m.me.at i).length - 1) (m.me.top i) true} ⟨(m.me.top i).w,true⟩
 | load (i q:Nat) (x:AM) (o n:W3):i<m.me.hs.length->(m.me.at i)[q]?=some x->m.me.view t i<=q->xz m t ⟨1,i,o,n⟩ {m with me:=m.me.lO t i q x false} ⟨x.w,true⟩
 | put (i:Nat) (o w:W3) (wl:Bool):i<m.me.hs.length->xz m t ⟨if wl then 4 else 3,i,o,w⟩ ⟨m.me.add t i w wl,m.li.bF i w⟩ ⟨W0,true⟩
 | swap (i:Nat) (old new:W3):i<m.me.hs.length->xz m t ⟨6,i,old,new⟩ ⟨m.me.Dm t i old new,if (m.me.top i).w=old then m.li.bF i new else m.li⟩ ⟨(m.me.top i).w,decide ((m.me.top i).w=old)⟩
 | flush (i:Nat) (o n:W3):i<m.me.hs.length->xz m t ⟨7,i,o,n⟩ {m with li:=m.li.xU t i} ⟨W0,true⟩
 | sync (p:Int) (o n:W3):xz m t ⟨8,p,o,n⟩ {m with li:=m.li.uC t} ⟨W0,true⟩
section
variable {T n b t i:Nat} {v:MV} {m:Mj} {w:W3} {z:Int}
def wm.of {u:MV} {mc:Mc} (H:wm B T v m) (q:KO B' T u mc) (l:B.le B') (e:mc.li.cQ=v.y.a):wm B' T u ⟨mc.me,⟨mc.li.fst,mc.li.lg,m.li.cQ⟩⟩:=by
 have A:u.y.a=v.y.a:=q.li.cQ.trans e;refine⟨q.me,⟨?_,?_⟩,q.st⟩
 ·have:=q.li;rw[A];rw[show(⟨mc.li.fst,mc.li.lg,v.y.a⟩:Li)=mc.li from by rw[<-e]];exact this
 ·rw[A]; exact H.li.cQ.le l
def M1 (E:B.p h) (H:wm B T v m) (k:xP T n b m) (G:b<=1000000) (J:1<=t/\t<=T) (hi:i<n) (hv:m.me.view t i<=((m.me.at i).length - 1:Nat)) {K N:W3}
  (O:∀(q:Nat) (am:AM) u,(m.me.at i)[q]?=some am->m.me.view t i<=q->Rt B h (λB=>wm B T u {m with me:=m.me.lO t i q am false}) λh'=>R (.tuple #[yC u,eI ⟨am.w,true⟩]) h'):gW.1 (yC v) (.int .i64 t) (lD ⟨1,i,K,N⟩) (.int .i64 z) h R:=by
 have c:=Cx.aB h;refine c.v7 λ_ _ c=>?_;refine c.v8 λ_ _ c=>?_;refine c.v7 λ_ _ c=>?_;refine c.v4 λ_ _ c=>?_;refine c.v3 λ_ _ c=>?_;refine .here<|aE<|c.rc 1 ?_;refine vx (v:=.bool false) rfl<|aN<|aE<|vx (c.vp (i:=0) (ds:=[_,_]) rfl rfl rfl)<|aE<|c.rc 1 ?_;refine aE<|c.rc 1 ?_;refine vx (v:=.bool false) rfl<|Qi (x:=v.x) (jn:=false) (B.up E c.gr) H.me k.me G J hi hv λq am Q U V M _ d ok=>?_;have c:=c.aF d;replace c:=c.n6;refine vx rfl<|vx rfl<|vx rfl<|aE<|c.vq 0 rfl (vs:=[_,_]) (ds:=[_,_,_,_,_,_,_]) (by exact rfl) (by exact rfl) (by exact rfl) (by exact rfl) (by exact rfl) λ_ c=>?_;replace c:=c.n6;refine c.w3 4 λ_ c=>?_;refine c.rl 0 ?_;refine c.rl 4 ?_;refine vx (aG (ds:=[_,_,_,_]) rfl)<|c.w7 2 λ_ c=>?_;refine c.al 4 ?_;refine c.w4 3 λ_ c=>?_;refine c.rl 2 ?_;refine c.rl 3 ?_;exact O q am {v with x:=Q} U V M _ (c.pick [5]) (let A:=H.le (Bs.aJ B M); ⟨ok,A.li,A.st⟩)
end
section
variable {T n b t i:Nat} {v:MV} {m:Mj} {w:W3} {z:Int}
def Q4 (A:B.p h) (H:wm B T v m) (k:xP T n b m) (O:b<=1000000) (J:1<=t/\t<=T) (hi:i<n) (hv:m.me.view t i<=((m.me.at i).length - 1:Nat)) {E G:W3}
  (Q:∀(q:Nat) (am:AM) u,(m.me.at i)[q]?=some am->m.me.view t i<=q->Rt B h (λB=>wm B T u {m with me:=m.me.lO t i q am false}) λh'=>R (.tuple #[yC u,eI ⟨am.w,true⟩,.int .i64 0]) h'):cI.1 (yC v) (.int .i64 t) (lD ⟨1,i,E,G⟩) (.int .i64 z) h R:=by
 have hle:=k.me.le;have et:((t:Nat):Int) - 1=((t - 1:Nat):Int):=by omega
 have c:=Cx.aB h;refine c.v7 λ_ _ c=>?_;refine c.v8 λ_ _ c=>?_;refine c.v7 λ_ _ c=>?_;refine c.v4 λ_ _ c=>?_;refine c.rl 0 ?_;refine c.rl 1 ?_;refine nH (v:=v) (a:=⟨1,i,E,G⟩) (B.up A c.gr) H.ko (k.kk H) J ⟨by dsimp only; decide,by dsimp only; decide⟩ (λ_ _=>⟨Int.natCast_nonneg i,Int.ofNat_lt.2 hi⟩) λ_ g=>?_;have c:=c.more g;refine vx (v:=.bool false) rfl<|aN<|vx (aG (ds:=[_,_,_,_]) rfl)<|c.v4 λ_ _ c=>?_;refine c.w4 4 λ_ c=>?_;refine .here<|c.rl 1 ?_;refine tW (a:=⟨1,i,E,G⟩) (r:=false) rfl λ_ g=>?_;have c:=c.more g;refine aN<|aE<|c.rc 1 ?_;refine vx (v:=.bool false) rfl<|aN<|aE<|c.rc 1 ?_;refine vx (v:=.bool false) rfl<|aN<|aE<|c.rc 1 ?_;refine vx (v:=.bool true) rfl<|bU<|c.rl 0 ?_;refine c.rl 1 ?_;refine gW.2 (M1 (v:=v) (B.up A c.gr) H k O J hi hv λq am u U V M _ d ok=>?_);have c:=c.aF d;obtain⟨ss,hs,X⟩:=ok.st;have K:=List.getElem?_eq_getElem (l:=ss) (i:=t - 1) (by omega);generalize ss[t - 1]'(by omega)=y at K;replace c:=c.n6;refine vx rfl<|vx rfl<|c.w7 0 λ_ c=>?_;refine c.w4 4 λ_ c=>?_;refine aE<|c.rc 0 ?_;refine nO (hs _ ⟨B.up A c.gr,c.get (i:=5) rfl⟩) (by omega) λs' _ d=>?_;have c:=c.aF d;replace c:=c.n7;refine aE<|c.q7 0 λ_ c=>?_;refine aE<|c.rc 0 ?_;refine vx (fT ⟨by omega,by omega⟩) ?_;rw[et];obtain⟨r,o,cap,el,Z,row⟩:=(c.sl (i:=6) rfl).ix K (n:=1) rfl (k:=.i64) (z:=((t - 1:Nat):Int)) rfl;refine vx Z<|vx (row.rq rfl)<|vx (hU _ _)<|c.wX 6 rfl (j:=t - 1) (by omega) (uA (y+1)) rfl rfl rfl λ_ c=>?_;replace c:=c.n7;refine c.rl 0 ?_;refine c.rl 4 ?_;refine c.w7 2 λ_ c=>?_;refine c.al 4 ?_;refine c.w4 3 λ_ c=>?_;refine c.rl 2 ?_;refine c.rl 3 ?_;exact Q q am {u with s:=s'} U V [aD M,bJ mf (aK s') (ss.set (t - 1) (uA (y+1)))] _ (Cx.pack (L:=[]) (c.pick [5,6])) (let N:=ok.le (B':=B.and [aD M,bJ mf (aK s') (ss.set (t - 1) (uA (y+1)))]) λh b=>⟨b.1,Bs.star b (i:=0) rfl⟩; ⟨N.me,N.li,_,On.sl (i:=1) rfl,by rw[List.length_set]; exact X⟩)
def PV (q:B.p h) (H:wm B T v m) (k:xP T n b m) (E:1<=t/\t<=T) (hi:i<n) {u A:W3} {ch:Value}
  (K:∀G,Rt B h (λB=>wm B T G {m with li:=m.li.xU t i}) λh'=>R (.tuple #[yC G,eI ⟨W0,true⟩,.int .i64 0]) h'):cI.1 (yC v) (.int .i64 t) (lD ⟨7,i,u,A⟩) ch h R:=by
 have hle:=k.me.le;obtain⟨ss,hs,N⟩:=H.st;have J:=List.getElem?_eq_getElem (l:=ss) (i:=t - 1) (by omega);generalize ss[t - 1]'(by omega)=y at J;have et:((t:Nat):Int) - 1=((t - 1:Nat):Int):=by omega
 have c:=Cx.aB h;refine c.v7 λ_ _ c=>?_;refine c.v8 λ_ _ c=>?_;refine c.v7 λ_ _ c=>?_;refine c.v4 λ_ _ c=>?_;refine c.rl 0 ?_;refine c.rl 1 ?_;refine nH (v:=v) (a:=⟨7,i,u,A⟩) (B.up q c.gr) H.ko (k.kk H) E ⟨by dsimp only; decide,by dsimp only; decide⟩ (λ_ _=>⟨Int.natCast_nonneg i,Int.ofNat_lt.2 hi⟩) λ_ g=>?_;have c:=c.more g;refine vx (v:=.bool false) rfl<|aN<|vx (aG (ds:=[_,_,_,_]) rfl)<|c.v4 λ_ _ c=>?_;refine c.w4 4 λ_ c=>?_;refine .here<|c.rl 1 ?_;refine tW (a:=⟨7,i,u,A⟩) (r:=false) rfl λ_ g=>?_;have c:=c.more g;refine aN<|aE<|c.rc 1 ?_;refine vx (v:=.bool true) rfl<|bU<|aE<|vx (c.vp (i:=0) (ds:=[_,_,_]) rfl rfl rfl)<|aE<|c.rc 1 ?_;refine M5 (y:=v.y) (B.up q c.gr) H.li k.li ⟨E.1,by omega⟩ hi λO M _ d ok=>?_;have c:=c.aF d;replace c:=c.n6;refine vx rfl<|vx rfl<|aE<|c.vq 0 rfl (vs:=[_,_,_]) (ds:=[_,_,_,_,_,_,_]) (by exact rfl) (by exact rfl) (by exact rfl) (by exact rfl) (by exact rfl) λ_ c=>?_;replace c:=c.n6;refine aE<|c.rc 0 ?_;refine nO (hs _ (B.up q c.gr)) (by omega) λs' _ d=>?_;have c:=c.aF d;replace c:=c.n7;refine aE<|c.q7 0 λ_ c=>?_;refine aE<|c.rc 0 ?_;refine vx (fT ⟨by omega,by omega⟩) ?_;rw[et];obtain⟨r,o,cap,el,Q,row⟩:=(c.sl (i:=6) rfl).ix J (n:=1) rfl (k:=.i64) (z:=((t - 1:Nat):Int)) rfl;refine vx Q<|vx (row.rq rfl)<|vx (hU _ _)<|c.wX 6 rfl (j:=t - 1) (by omega) (uA (y+1)) rfl rfl rfl λ_ c=>?_;replace c:=c.n7;refine c.rl 0 ?_;refine c.rl 4 ?_;refine c.w7 2 λ_ c=>?_;refine c.al 4 ?_;refine c.w4 3 λ_ c=>?_;refine c.rl 2 ?_;refine c.rl 3 ?_;exact K {v with y:=O,s:=s'} [aD M,bJ mf (aK s') (ss.set (t - 1) (uA (y+1)))] _ (Cx.pack (L:=[]) (c.pick [5,6])) ⟨H.me.le (Bs.aJ _ _),ok.le (λh b=>⟨b.1,Bs.star b (i:=0) rfl⟩),_,On.sl (i:=1) rfl,by rw[List.length_set]; exact N⟩
def PK (q:B.p h) (H:wm B T v m) (k:xP T n b m) (E:1<=t/\t<=T) {u A:W3} {ch:Value} {p:Int}
  (K:∀G,Rt B h (λB=>wm B T G {m with li:=m.li.uC t}) λh'=>R (.tuple #[yC G,eI ⟨W0,true⟩,.int .i64 0]) h'):cI.1 (yC v) (.int .i64 t) (lD ⟨8,p,u,A⟩) ch h R:=by
 have hle:=k.me.le;obtain⟨ss,hs,N⟩:=H.st;have J:=List.getElem?_eq_getElem (l:=ss) (i:=t - 1) (by omega);generalize ss[t - 1]'(by omega)=y at J;have et:((t:Nat):Int) - 1=((t - 1:Nat):Int):=by omega
 have c:=Cx.aB h;refine c.v7 λ_ _ c=>?_;refine c.v8 λ_ _ c=>?_;refine c.v7 λ_ _ c=>?_;refine c.v4 λ_ _ c=>?_;refine c.rl 0 ?_;refine c.rl 1 ?_;refine nH (v:=v) (a:=⟨8,p,u,A⟩) (B.up q c.gr) H.ko (k.kk H) E ⟨by dsimp only; decide,by dsimp only; decide⟩ (λ_ e=>absurd rfl e) λ_ g=>?_;have c:=c.more g;refine vx (v:=.bool false) rfl<|aN<|vx (aG (ds:=[_,_,_,_]) rfl)<|c.v4 λ_ _ c=>?_;refine c.w4 4 λ_ c=>?_;refine .here<|c.rl 1 ?_;refine tW (a:=⟨8,p,u,A⟩) (r:=false) rfl λ_ g=>?_;have c:=c.more g;refine aN<|aE<|c.rc 1 ?_;refine vx (v:=.bool false) rfl<|aN<|aE<|c.rc 1 ?_;refine vx (v:=.bool true) rfl<|bU<|aE<|vx (c.vp (i:=0) (ds:=[_,_,_]) rfl rfl rfl)<|QK (y:=v.y) (B.up q c.gr) H.li k.li ⟨E.1,by omega⟩ λO M _ d ok=>?_;have c:=c.aF d;replace c:=c.n6;refine vx rfl<|vx rfl<|aE<|c.vq 0 rfl (vs:=[_,_,_]) (ds:=[_,_,_,_,_,_,_]) (by exact rfl) (by exact rfl) (by exact rfl) (by exact rfl) (by exact rfl) λ_ c=>?_;replace c:=c.n6;refine aE<|c.rc 0 ?_;refine nO (hs _ (B.up q c.gr)) (by omega) λs' _ d=>?_;have c:=c.aF d;replace c:=c.n7;refine aE<|c.q7 0 λ_ c=>?_;refine aE<|c.rc 0 ?_;refine vx (fT ⟨by omega,by omega⟩) ?_;rw[et];obtain⟨r,o,cap,el,Q,row⟩:=(c.sl (i:=6) rfl).ix J (n:=1) rfl (k:=.i64) (z:=((t - 1:Nat):Int)) rfl;refine vx Q<|vx (row.rq rfl)<|vx (hU _ _)<|c.wX 6 rfl (j:=t - 1) (by omega) (uA (y+1)) rfl rfl rfl λ_ c=>?_;replace c:=c.n7;refine c.rl 0 ?_;refine c.rl 4 ?_;refine c.w7 2 λ_ c=>?_;refine c.al 4 ?_;refine c.w4 3 λ_ c=>?_;refine c.rl 2 ?_;refine c.rl 3 ?_;exact K {v with y:=O,s:=s'} [aD M,bJ mf (aK s') (ss.set (t - 1) (uA (y+1)))] _ (Cx.pack (L:=[]) (c.pick [5,6])) ⟨H.me.le (Bs.aJ _ _),ok.le (λh b=>⟨b.1,Bs.star b (i:=0) rfl⟩),_,On.sl (i:=1) rfl,by rw[List.length_set]; exact N⟩
def DY (n:Nat) (a:Ac):Prop:=a.op=8\/((a.op=1\/a.op=3\/a.op=4\/a.op=5\/a.op=6\/a.op=7)/\0<=a.at'/\a.at'<n)
def Q3 (G:B.p h) (H:wm B T v m) (k:xP T n b m) (O:b<=900000) (J:1<=t/\t<=T) {a:Ac} (Q:DY n a) (E:a.op=5\/a.op=3\/a.op=4->a.old=W0) (N:a.op=5->a.new=W0) (hv:a.op=1->∀i:Nat,a.at'=i->m.me.view t i<=((m.me.at i).length - 1:Nat))
  (K:∀U g u,xz m t a U g->Rt B h (λB=>wm B T u U) λh'=>R (.tuple #[yC u,eI g,.int .i64 0]) h'):S.C 60 [yC v,.int .i64 t,lD a,.int .i64 z] h R:=by
 obtain⟨op,at',old,new⟩:=a;dsimp only[DY] at Q;dsimp only at E N hv;have hn:=k.me.hs;rcases Q with rfl | ⟨Q,V,X⟩
 ·exact cI.2 (PK G H k J λu=>K _ _ u (.sync at' old new))
 ·obtain⟨i,rfl⟩:∃i:Nat,at'=i:=⟨at'.toNat,by omega⟩;have hi:i<n:=by omega
  have A:i<m.me.hs.length:=by omega
  rcases Q with rfl | rfl | rfl | rfl | rfl | rfl
  ·exact cI.2 (Q4 G H k (by omega) J hi (hv rfl i rfl) λq am u Z e2=>K _ _ u (.load i q am old new A Z e2))
  ·obtain rfl:=E (.inr (.inl rfl));exact HJ (a:=.put i new false) G H.ko (k.kk H) O J hi λu M h' c ok=>K _ _ u (.put i W0 new false A) M h' c (H.of ok (Bs.aJ _ _) rfl)
  ·obtain rfl:=E (.inr (.inr rfl));exact HJ (a:=.put i new true) G H.ko (k.kk H) O J hi λu M h' c ok=>K _ _ u (.put i W0 new true A) M h' c (H.of ok (Bs.aJ _ _) rfl)
  ·obtain rfl:=E (.inl rfl);obtain rfl:=N rfl;exact HJ (a:=.look i) G H.ko (k.kk H) O J hi λu M h' c ok=>K _ _ u (.look i W0 W0 A) M h' c (H.of ok (Bs.aJ _ _) rfl)
  ·refine HJ (a:=.swap i old new) G H.ko (k.kk H) O J hi λu M h' c ok=>K _ _ u (.swap i old new A) M h' c ?_;have:=H.of ok (Bs.aJ _ _) (by unfold Mc.act Mc.swap; dsimp only; split <;> rfl);unfold Mc.act Mc.swap at this;dsimp only at this;by_cases e:(m.me.top i).w=old
   ·rw[if_pos e];rw[if_pos (show(H.mc.me.top i).w=old from e)] at this;exact this
   ·rw[if_neg e];rw[if_neg (show ¬(H.mc.me.top i).w=old from e)] at this;exact this
  ·exact cI.2 (PV G H k J hi λu=>K _ _ u (.flush i old new A))
end
def II (B:Bs) (W:aX) (f:Nat) (t:TypeId) (v:Value) (g:cP) (Q:Bs->aX->Value->Ac->Bool->Prop):Prop:=
 ∀h F (R:Value->Hp->Prop),Cx F h h [W]->(∀h',Ch F h h'->B.p h')->(∀q u d A M h',Cx F h h' [A,aD M]->Q (B.and M) A q u d->R (.tuple #[.iface t q,lD u,.bool d]) h')->S.C f [v,eI g] h R
def Cx.Bu (c:Cx F h0 h L) (E:∀h',Ch F h0 h'->B.p h') {i j:Nat} {A:aX} {M:List aX} (hi:L[i]?=some A) (G:L[j]?=some (aD M)) (u:i≠j) :
  ∃F',Cx F' h h [A]/\(∀q,Ch F' h q->(B.and M).p q)/\∀{h':Hp} {A':aX} {M':List aX},Cx F' h h' (A'::M')->Cx F h0 h' (L.set i A'++M'):=by
 obtain⟨F',H,J,up⟩:=c.lR hi;refine⟨F',H,λq ch=>?_,up⟩;have K:=up (A':=aD []) (M:=[]) (h':=q) (Cx.Oh ch);refine⟨E _ (J _ ch),K.get (i:=j) ?_⟩;rw[List.append_nil,List.getElem?_set,if_neg u];exact G
section
variable {W:aX} {t:TypeId} {v:Value} {d:Bool} {a:Ac} {s:SH} {x:Tk} {gs:List cP} {g:cP} {f:Nat} {Q:Bs->aX->Value->Ac->Bool->Prop}
def Jo (c:Cx F h h [W]) (H:∀h',Ch F h h'->B.p h') (J:I.mt t "Next"=some f) (K:II B W f t v kq Q)
  (N:∀q u d A M h',Cx F h h' [A,aD M]->Q (B.and M) A q u d->R (Jn ⟨t,q,d,if d then jG else u,(none,0,0)⟩) h'):vZ.1 (.iface t v) h R:=by
 have fin:∀q u d A M h',Cx F h h' [A,aD M]->Q (B.and M) A q u d->R (Jn ⟨t,q,d,if d then jG else u,(none,0,0)⟩) h':=N;replace c:Cx _ _ _ [_]:=c;refine c.v11 λ_ _ c=>?_;refine vx (v:=.bool false) (rfl)<|aN<|vx (aG (ds:=[_,_,_,_,_,_,_,_,_,_,_]) rfl)<|vx (aG (ds:=[_,_,_,_]) rfl) ?_;obtain⟨F',O,U,up⟩:=c.lR (i:=0) rfl;refine⟨_,_,_,rfl,J,K _ F' _ O (λE ch=>H E (U _ ch)) λq u d A M _ dd ok=>?_⟩;have c:=up dd;replace c:=c.n3;refine vx rfl<|vx rfl<|vx rfl<|NZ λ_ g=>?_;have c:=c.more g;have G:(Jn ⟨t,q,d,if d then jG else u,(none,0,0)⟩).cells.toList=Ob ⟨t,q,d,if d then jG else u,(none,0,0)⟩:=rfl;refine c.vw 1 rfl (vs:=Ob ⟨t,q,d,if d then jG else u,(none,0,0)⟩) G (List.all_eq_true.2 λx V=>Ff.one ⟨t,q,d,if d then jG else u,(none,0,0)⟩ x V) rfl rfl λ_ c=>?_;replace c:=c.n3;refine c.rl 1 ?_;exact fin q u d A M _ (c.pick [0,2]) ok
def LX (c:Cx F h h [W]) (J:∀h',Ch F h h'->B.p h') (X:I.mt t "Next"=some f) (hs:On B λh=>Sl Oj h (aK s) gs) (hl:gs.length<=1000000) (Z:II B W f t v g Q) (hQ:∀{B B':Bs},B.le B'->∀{W v a d},Q B W v a d->Q B' W v a d)
  (hR:∀u A d s' E M h',Cx F h h' [E,aD M]->Q (B.and M) E u A d->(On (B.and M) λh=>Sl Oj h (aK s') (gs++[g]))->R (Jn ⟨t,u,d,if d then jG else A,s'⟩) h'):pC.1 (Jn ⟨t,v,false,a,s⟩) (eI g) h R:=by
 obtain⟨ac,K,_⟩:=(hs h (J _ (.refl _ _))).yP (n:=4) rfl;have Hc:∀h',Ch F h h'->Sl Oj h' (.slice ac gs.length gs.length) gs:=λh' ch=>by
  obtain⟨aS,G,N⟩:=(hs h' (J _ ch)).yP (n:=4) rfl;rw[K] at G;injection G with G;rw[G]; exact N
 have fin:∀u A d s' E M h',Cx F h h' [E,aD M,bJ Oj (aK s') (gs++[g])]->Q (B.and M) E u A d->R (Jn ⟨t,u,d,if d then jG else A,s'⟩) h':=λu A d s' E M h' c q=>hR u A d s' E [aD M,bJ Oj (aK s') (gs++[g])] h' (Cx.pack (L:=[_]) c) (hQ (Bs.iB (i:=0) rfl) q) (On.sl (i:=1) rfl);replace c:Cx _ _ _ [_]:=c;refine c.v11 λ_ _ c=>?_;refine c.v4 λ_ _ c=>?_;refine c.v11 λ_ _ c=>?_;refine c.rl 1 ?_;refine sS λ_ gr=>?_;have c:=c.more gr;refine aN<|aE<|c.rc 1 ?_;refine .here<|aE<|c.rc 1 ?_;refine c.rl 2 ?_;refine⟨?_,?_⟩
 ·refine Ih (hs _ (J _ c.gr)) K ?_;refine c.al 2 ?_;refine c.dN Oj g rfl rfl λlA _ c=>?_;replace c:=c.n5;refine c.MP (Hc _ c.gr) (c.sl (i:=4) rfl).sl (by simp) rfl rfl (by rw[List.length_singleton]; omega) (by rw[List.length_singleton]; omega) λtJ _ c=>?_;obtain⟨s',rfl⟩:=(c.sl (i:=5) rfl).ol;replace c:=c.n6;refine aE<|c.JX 1 λ_ c=>?_;refine c.rl 1 ?_;refine c.rl 2 ?_;obtain⟨F',O,U,up⟩:=c.lR (i:=0) rfl;refine .inr ⟨_,_,rfl,_,_,_,rfl,X,Z _ F' _ O (λH ch=>J H (U _ ch)) λu A d E M _ dd ok=>?_⟩;have c:=up dd;replace c:=c.n7;refine c.al 1 ?_;refine vx rfl<|vx rfl<|vx rfl<|Kc (t:=t) (v:=v) (a:=a) (s:=s') λ_ gr=>?_;have c:=c.more gr;refine c.vw 3 rfl (vs:=Ob ⟨t,u,d,if d then jG else A,s'⟩) rfl (List.all_eq_true.2 λx V=>Ff.one ⟨t,u,d,if d then jG else A,s'⟩ x V) rfl rfl λ_ c=>?_;replace c:=c.n7;refine c.rl 3 ?_;exact fin u A d s' E M _ (c.pick [0,6,5]) ok
 ·refine c.dN Oj g rfl rfl λlA _ c=>?_;replace c:=c.n5;refine c.ac 1 ?_;refine Ih (hs _ (J _ c.gr)) K ?_;refine c.MP (Hc _ c.gr) (c.sl (i:=4) rfl).sl (by simp) rfl rfl (by rw[List.length_singleton]; omega) (by rw[List.length_singleton]; omega) λtJ _ c=>?_;obtain⟨s',rfl⟩:=(c.sl (i:=5) rfl).ol;replace c:=c.n6;refine aE<|c.JX 1 λ_ c=>?_;refine c.rl 1 ?_;refine c.rl 2 ?_;obtain⟨F',O,U,up⟩:=c.lR (i:=0) rfl;refine .inr ⟨_,_,rfl,_,_,_,rfl,X,Z _ F' _ O (λH ch=>J H (U _ ch)) λu A d E M _ dd ok=>?_⟩;have c:=up dd;replace c:=c.n7;refine c.al 1 ?_;refine vx rfl<|vx rfl<|vx rfl<|Kc (t:=t) (v:=v) (a:=a) (s:=s') λ_ gr=>?_;have c:=c.more gr;refine c.vw 3 rfl (vs:=Ob ⟨t,u,d,if d then jG else A,s'⟩) rfl (List.all_eq_true.2 λx V=>Ff.one ⟨t,u,d,if d then jG else A,s'⟩ x V) rfl rfl λ_ c=>?_;replace c:=c.n7;refine c.rl 3 ?_;exact fin u A d s' E M _ (c.pick [0,6,5]) ok
end
structure yo (B:Bs) (T:Nat) (w:WV) (m:Mj) (tks:List Tk) (gss:List (List cP)) (sts:List Bool):Prop where
 ko:wm B T w.m m
 ts:On B λh=>Sl Ff h (aK w.ts) tks
 st:On B λh=>Sl O5 h (aK w.st) sts
 sl:sts.length=tks.length
 gl:gss.length=tks.length
 gs:∀(i:Nat) (tk:Tk) (gs:List cP),tks[i]?=some tk->gss[i]?=some gs->On B λh=>Sl Oj h (aK tk.s) gs
def yo.le {T:Nat} {w:WV} {m:Mj} {tks:List Tk} {gss:List (List cP)} {sts:List Bool} (H:yo B T w m tks gss sts) (l:B.le B'):yo B' T w m tks gss sts:=
 ⟨H.ko.le l,H.ts.le l,H.st.le l,H.sl,H.gl,λi tk gs h1 h2=>(H.gs i tk gs h1 h2).le l⟩
section
variable {W:aX} {T n b t:Nat} {w:WV} {m:Mj} {tks:List Tk} {gss:List (List cP)} {sts:List Bool} {tk:Tk} {gs:List cP} {z:Int}
def yp (q:B.p h) (H:yo B T w m tks gss sts) (k:xP T n b m) (A:1<=T) (u:∀h',Gr h h'->R (.bool false) h'):fU.1 (rX w) h R:=by
 have c:=Cx.aB h;refine c.v9 λ_ _ c=>?_;refine aE<|vx (c.vp (i:=0) (ds:=[_,_,_,_,_,_,_]) rfl rfl rfl)<|yH (v:=w.m) (B.up q c.gr) H.ko.ko (k.kk H.ko) λ_ g=>?_;have c:=c.more g;exact vx rfl<|vx rfl<|vx (fG (by omega))<|u _ c.gr
def tR (A:B.p h) (H:yo B T w m tks gss sts) {i:Nat} {q:Bool} (E:sts[i]?=some q) (G:∀h',Gr h h'->R (.bool q) h'):fS.1 (rX w) (.int .i64 i) h R:=by
 have J:=(List.getElem?_eq_some_iff.1 E).1;have c:=Cx.aB h;refine c.v9 λ_ _ c=>?_;refine .here<|aE<|c.rc 0 ?_;refine vx (H.st h A).ln<|vx (qA (by omega))<|bU<|aE<|c.rc 0 ?_;refine(H.st _ (B.up A c.gr)).one rfl E rfl (u:=.bool q) rfl ?_;exact G _ c.gr
def vk (u:B.p h) (H:yo B T w m tks gss sts) (K:tks.length<=8) (M:1<=t) (A:tks[t - 1]?=some tk) {q:Bool} (E:sts[t - 1]?=some q) (G:∀h',Gr h h'->R (.bool (!q&&!tk.dn)) h'):dB.1 (rX w) (.int .i64 t) h R:=by
 have J:=(List.getElem?_eq_some_iff.1 A).1;have et:((t:Nat):Int) - 1=((t - 1:Nat):Int):=by omega
 cases q with
 | true=>
  have c:=Cx.aB h;refine c.v9 λ_ _ c=>?_;refine .here<|vx (ny (by omega))<|bU<|aE<|c.rc 0 ?_;refine vx (H.ts h u).ln<|vx (Be (by omega))<|bU<|c.rl 0 ?_;refine vx (fT ⟨by omega,by omega⟩) ?_;rw[et];refine fS.2 (tR (w:=w) (B.up u c.gr) H E λ_ g=>?_);have c:=c.more g;exact vx (v:=.bool false) (rfl)<|aN<|G _ c.gr
 | false=>
  have c:=Cx.aB h;refine c.v9 λ_ _ c=>?_;refine .here<|vx (ny (by omega))<|bU<|aE<|c.rc 0 ?_;refine vx (H.ts h u).ln<|vx (Be (by omega))<|bU<|c.rl 0 ?_;refine vx (fT ⟨by omega,by omega⟩) ?_;rw[et];refine fS.2 (tR (w:=w) (B.up u c.gr) H E λ_ g=>?_);have c:=c.more g;refine vx (v:=.bool true) (rfl)<|bU<|aE<|c.rc 0 ?_;refine vx (fT ⟨by omega,by omega⟩) ?_;rw[et];refine(H.ts _ (B.up u c.gr)).whole rfl A rfl ?_;refine sS (x:=tk) λ_ g=>?_;have c:=c.more g;exact vx rfl<|G _ c.gr
def F7 (u:B.p h) (H:yo B T w m tks gss sts) (A:¬(1<=z/\z<=tks.length)) (q:∀h',Gr h h'->R (.bool false) h'):dB.1 (rX w) (.int .i64 z) h R:=by
 by_cases h1:1<=z
 ·have c:=Cx.aB h;refine c.v9 λ_ _ c=>?_;refine .here<|vx (ny h1)<|bU<|aE<|c.rc 0 ?_;exact vx (H.ts h u).ln<|vx (KK (by omega))<|aN<|q _ c.gr
 ·have c:=Cx.aB h;refine c.v9 λ_ _ c=>?_;exact .here<|vx (iO h1)<|aN<|q _ c.gr
def Kj (c:Cx F h h [W]) (O:∀h',Ch F h h'->B.p h') (H:yo B T w m tks gss sts) (k:xP T n b m) (hb:b<=900000) (hl:tks.length<=T) (ht:1<=t) (U:tks[t - 1]?=some tk) (hg:gss[t - 1]?=some gs) (eQ:gs.length<=900000) (hd:tk.dn=false)
  (ha:DY n tk.act) (J:tk.act.op=5\/tk.act.op=3\/tk.act.op=4->tk.act.old=W0) (K:tk.act.op=5->tk.act.new=W0) (hv:tk.act.op=1->∀i:Nat,tk.act.at'=i->m.me.view t i<=((m.me.at i).length - 1:Nat))
  {f:Nat} (hf:I.mt tk.t "Next"=some f) {Q:Mj->cP->Bs->aX->Value->Ac->Bool->Prop} (hQ:∀{q g} {B B':Bs},B.le B'->∀{W v a d},Q q g B W v a d->Q q g B' W v a d) (hN:∀q g,xz m t tk.act q g->∀B',B.le B'->II B' W f tk.t tk.v g (Q q g)) {ch:Int}
  (hR:∀q g w' u A d s' V M h',xz m t tk.act q g->Cx F h h' [V,aD M]->Q q g (B.and M) V u A d->yo (B.and M) T w' q (tks.set (t - 1) ⟨tk.t,u,d,if d then jG else A,s'⟩) (gss.set (t - 1) (gs++[g])) sts->R (rX w') h'):oH.1 (rX w) (.int .i64 t) (.int .i64 ch) h R:=by
 have X:=(List.getElem?_eq_some_iff.1 U).1;have hT:=k.me.le.1;have et:((t:Nat):Int) - 1=((t - 1:Nat):Int):=by omega
 obtain⟨E,tv,td,ta,ts⟩:=tk;dsimp only at hd ha J K hv hf hN hR;subst hd;replace c:Cx _ _ _ [_]:=c;refine c.v9 λ_ _ c=>?_;refine c.v9 λ_ _ c=>?_;refine aE<|c.rc 1 ?_;refine vx (fT ⟨by omega,by omega⟩) ?_;rw[et];refine(H.ts _ (O _ c.gr)).whole rfl U rfl ?_;refine QL (x:=⟨E,tv,false,ta,ts⟩) λ_ g=>?_;have c:=c.more g;refine vx rfl<|vx rfl<|c.v8 λ_ _ c=>?_;refine c.w8 3 λ_ c=>?_;refine aE<|vx (c.vp (i:=1) (ds:=[_,_,_,_,_,_,_]) rfl rfl rfl)<|c.rl 3 ?_;refine Q3 (v:=w.m) (O _ c.gr) H.ko k hb ⟨ht,by omega⟩ ha J K hv λq g v1 G M _ d ok=>?_;have c:=c.aF d;replace c:=c.n5;refine vx rfl<|vx rfl<|vx rfl<|c.v7 λ_ _ c=>?_;refine c.v4 λ_ _ c=>?_;refine c.w7 5 λ_ c=>?_;refine c.w4 6 λ_ c=>?_;refine .here<|vx (v:=.bool false) rfl<|aN<|c.rl 5 ?_;refine aE<|c.vq 1 rfl (vs:=[_,_,_,_,_,_,_]) (ds:=[_,_,_,_,_,_,_,_,_]) (by exact rfl) (by exact rfl) (by exact rfl) (by exact rfl) (by exact rfl) λ_ c=>?_;replace c:=c.n7;refine aE<|c.rc 1 ?_;refine Kg (H.ts _ (O _ c.gr)) (by omega) λs' _ d=>?_;have c:=c.aF d;replace c:=c.n8;refine aE<|c.q9 1 λ_ c=>?_;refine aE<|c.rc 1 ?_;refine vx (fT ⟨by omega,by omega⟩) ?_;rw[et];refine aE<|c.rc 1 ?_;refine vx (fT ⟨by omega,by omega⟩) ?_;rw[et];refine(c.sl (i:=7) rfl).sl.whole rfl U rfl ?_;refine c.rl 6 ?_;obtain⟨F',d',hM,up⟩:=c.Bu O (i:=0) (j:=4) rfl rfl (by decide);refine pC.2 (LX (B:=B.and M) (t:=E) (v:=tv) (a:=ta) (s:=ts) (g:=g) d' hM hf ((H.gs _ _ _ U hg).le (Bs.aJ _ _)) (by omega) (hN q g G _ (Bs.aJ _ _)) hQ λu A d s2 V N _ dd Z aS=>?_);have c:=up dd;replace c:=c.n9;refine c.ac 1 ?_;refine c.wX 7 rfl (j:=t - 1) X ⟨E,u,d,if d then jG else A,s2⟩ rfl rfl rfl λ_ c=>?_;replace c:=c.n9;refine c.rl 1 ?_;refine c.w9 2 λ_ c=>?_;refine c.rl 2 ?_;refine hR q g ⟨v1,s',w.st⟩ u A d s2 V [aD M,bJ Ff (aK s') (tks.set (t - 1) ⟨E,u,d,if d then jG else A,s2⟩),aD N] _ G (Cx.pack (L:=[_]) (c.pick [0,4,7,8])) ?_ ?_
 ·exact hQ (B:=(B.and M).and N) (B':=B.and [aD M,bJ Ff (aK s') (tks.set (t - 1) ⟨E,u,d,if d then jG else A,s2⟩),aD N]) (λh b=>⟨⟨b.1,Bs.star b (i:=0) rfl⟩,Bs.star b (i:=2) rfl⟩) Z
 have l1:(B.and M).le (B.and [aD M,bJ Ff (aK s') (tks.set (t - 1) ⟨E,u,d,if d then jG else A,s2⟩),aD N]):=Bs.iB (i:=0) rfl;have l2:((B.and M).and N).le (B.and [aD M,bJ Ff (aK s') (tks.set (t - 1) ⟨E,u,d,if d then jG else A,s2⟩),aD N]):=λh b=>⟨⟨b.1,Bs.star b (i:=0) rfl⟩,Bs.star b (i:=2) rfl⟩;have l0:=Bs.aJ B [aD M,bJ Ff (aK s') (tks.set (t - 1) ⟨E,u,d,if d then jG else A,s2⟩),aD N];have dO:=H.gl;refine⟨ok.le l1,On.sl (i:=1) rfl,H.st.le l0,by rw[List.length_set]; exact H.sl,by rw[List.length_set,List.length_set]; exact H.gl,λj aT bY h1 h2=>?_⟩;rw[List.getElem?_set] at h1 h2;by_cases ej:t - 1=j
 ·rw[if_pos ej,if_pos (by omega)] at h1 h2;injection h1 with h1; injection h2 with h2;subst h1 h2;exact aS.le l2
 ·rw[if_neg ej] at h1 h2;exact(H.gs j aT bY h1 h2).le l0
end
section
variable {W:aX} {T n b t:Nat} {w:WV} {m:Mj} {tks:List Tk} {gss:List (List cP)} {sts:List Bool} {tk:Tk} {gs:List cP} {z:Int}
def wL (u:B.p h) (H:yo B T w m tks gss sts) (k:xP T n b m) (J:1<=T) (K:tks.length<=8) {kd:Int} (M:¬kd=2) (A:(∀t:Nat,1<=t->z=t->∃tk q,tks[t - 1]?=some tk/\sts[t - 1]?=some q/\(q=true\/tk.dn=true))\/¬(1<=z/\z<=tks.length)) {ch:Int} (E:∀h',Gr h h'->R (.tuple #[rX w,.bool false]) h'):cT.1 (rX w) (Py kd z ch) h R:=by
 have N:∀h R,B.p h->(∀h',Gr h h'->R (.bool false) h')->S.C 35 [rX w,.int .i64 z] h R:=λh R u E=>by
  by_cases RY:1<=z/\z<=tks.length
  ·rcases A with A | A
   ·obtain⟨t,rfl⟩:∃t:Nat,z=t:=⟨z.toNat,by omega⟩;obtain⟨tk,q,h1,h2,G⟩:=A t (by omega) rfl;refine dB.2 (vk u H K (by omega) h1 h2 ?_);rcases G with rfl | G
    ·exact E
    ·rw[G,show(!q&&!true)=false from Bool.and_false _]; exact E
   ·exact absurd RY A
  ·exact dB.2 (F7 u H RY E)
 have c:=Cx.aB h;refine c.v9 λ_ _ c=>?_;refine c.v3 λ_ _ c=>?_;refine c.v9 λ_ _ c=>?_;refine .here<|c.rl 0 ?_;refine fU.2 (yp (w:=w) (B.up u c.gr) H k J λ_ g=>?_);have c:=c.more g;refine aN<|aE<|c.rc 1 ?_;refine vx (fG M)<|aN<|c.rl 0 ?_;refine aE<|c.rc 1 ?_;refine N _ _ (B.up u c.gr) λ_ g=>?_;have c:=c.more g;refine vx (v:=.bool true) (rfl)<|bU<|c.rl 0 ?_;refine c.w9 2 λ_ c=>?_;refine c.rl 2 ?_;exact E _ c.gr
def H3 (c:Cx F h h [W]) (G:∀h',Ch F h h'->B.p h') (H:yo B T w m tks gss sts) (k:xP T n b m) (hb:b<=900000) (hl:tks.length<=T) (Z:1<=t) (J:tks[t - 1]?=some tk) (hs:sts[t - 1]?=some false) (hg:gss[t - 1]?=some gs) (K:gs.length<=900000) (hd:tk.dn=false)
  (ha:DY n tk.act) (N:tk.act.op=5\/tk.act.op=3\/tk.act.op=4->tk.act.old=W0) (O:tk.act.op=5->tk.act.new=W0) (hv:tk.act.op=1->∀i:Nat,tk.act.at'=i->m.me.view t i<=((m.me.at i).length - 1:Nat))
  {f:Nat} (hf:I.mt tk.t "Next"=some f) {Q:Mj->cP->Bs->aX->Value->Ac->Bool->Prop} (hQ:∀{q g} {B B':Bs},B.le B'->∀{W v a d},Q q g B W v a d->Q q g B' W v a d) (hN:∀q g,xz m t tk.act q g->∀B',B.le B'->II B' W f tk.t tk.v g (Q q g)) {ch:Int}
  (hR:∀q g w' u A d s' E M h',xz m t tk.act q g->Cx F h h' [E,aD M]->Q q g (B.and M) E u A d->yo (B.and M) T w' q (tks.set (t - 1) ⟨tk.t,u,d,if d then jG else A,s'⟩) (gss.set (t - 1) (gs++[g])) sts->R (.tuple #[rX w',.bool true]) h'):cT.1 (rX w) (Py 0 t ch) h R:=by
 have hT:=k.me.le.1;have aS:=(List.getElem?_eq_some_iff.1 J).1;replace c:Cx _ _ _ [_]:=c;refine c.v9 λ_ _ c=>?_;refine c.v3 λ_ _ c=>?_;refine c.v9 λ_ _ c=>?_;refine .here<|c.rl 1 ?_;refine fU.2 (yp (w:=w) (G _ c.gr) H k (by omega) λ_ g=>?_);have c:=c.more g;refine aN<|aE<|c.rc 2 ?_;refine vx (v:=.bool false) rfl<|aN<|c.rl 1 ?_;refine aE<|c.rc 2 ?_;refine dB.2 (vk (G _ c.gr) H (by omega) Z J hs λ_ g=>?_);rw[hd];have c:=c.more g;refine vx (v:=.bool false) (rfl)<|aN<|aE<|c.rc 2 ?_;refine vx (v:=.bool true) rfl<|bU<|c.rl 1 ?_;refine aE<|c.rc 2 ?_;refine aE<|c.rc 2 ?_;obtain⟨F',d',hF,up⟩:=c.lR (i:=0) rfl;refine oH.2 (Kj (Q:=Q) d' (λU ch=>G U (hF _ ch)) H k hb hl Z J hg K hd ha N O hv hf hQ hN λq g w' u A d s' E M _ V dd ok X=>?_);have c:=up dd;replace c:=c.n5;refine c.w9 3 λ_ c=>?_;refine c.rl 3 ?_;exact hR q g w' u A d s' E M _ V (c.pick [0,4]) ok X
def L4 {G:Type} {done:G->Bool} {rk:G->Nat} {P:Bs->aX->WV->G->Prop} (hP:∀{B B':Bs},B.le B'->∀{W w s},P B W w s->P B' W w s) {k:Nat} (hk:k<=1000000) (ht:1<=t)
  (J:∀{B:Bs} {W w s},P B W w s->∃T mj tks gss sts tk,yo B T w mj tks gss sts/\tks.length<=8/\tks[t - 1]?=some tk/\sts[t - 1]?=some false/\tk.dn=done s)
  (K:∀{B:Bs} {W w s} h F R,Cx F h h [W]->(∀h',Ch F h h'->B.p h')->P B W w s->done s=false->(∀w' s' u M h',Cx F h h' [u,aD M]->P (B.and M) u w' s'->rk s'<rk s->R (.tuple #[rX w',.bool true]) h')->S.C 9 [rX w,Py 0 t 0] h R)
  (Z:∀{B:Bs} {W w s} h R,B.p h->P B W w s->done s=true->(∀h',Gr h h'->R (.tuple #[rX w,.bool false]) h')->S.C 9 [rX w,Py 0 t 0] h R)
  (hz:∀{B:Bs} {W w s},P B W w s->rk s=0->done s=true)
  {s:G} (c:Cx F h h [W]) (O:∀h',Ch F h h'->B.p h') (H:P B W w s) (aS:rk s<=k) (hR:∀w' s' u M h',Cx F h h' [u,aD M]->P (B.and M) u w' s'->done s'=true->R (.tuple #[rX w',.bool true]) h'):kz.1 (rX w) (.int .i64 t) (.int .i64 k) h R:=by
 obtain⟨T,mc,tks,gss,sts,tk,V,hl,hx,hs,hd⟩:=J H;have tO:=(List.getElem?_eq_some_iff.1 hx).1;have et:((t:Nat):Int) - 1=((t - 1:Nat):Int):=by omega
 have fin:∀(w':WV) s' u M Q X h',Cx F h h' [rV Q (HU w'),rV X [.slice none 0 0,.slice none 0 0,.slice none 0 0,.slice none 0 0,.map none,.slice none 0 0,.int .i64 0,.slice none 0 0,.slice none 0 0],u,aD M]->P (B.and M) u w' s'->done s'=true->
  Vb (aP 9 (bE Q) h') λU=>Vb (fa 7 (bE Q)) λaT=>Vb (eH aT h') λbY=>Vb (bin .sub (.int .i64 t) (.int .i64 1)) λdO=>Vb (nh 11 bY dO) λeQ=>Vb (aP 11 eQ h') λiF=>S.C 11 [iF] h' λiN h6=>aP 9 (bE Q) h6=some U/\Sb (bF 9 (bE X) U h6) λh7=>Vb (aP 9 (bE X) h7) λr0=>R (.tuple #[r0,iN]) h7:=λw' s' u M Q X h' c q e=>by
  obtain⟨T,mc,tks,gss,sts,tk,V,hl,hx,hs,hd⟩:=J q;refine En.vb (c.vl (i:=0) rfl rfl) ?_;refine En.vb (gQ _ _ _) ?_;refine En.vb (c.vc (i:=0) rfl rfl) ?_;refine En.vb (fT ⟨by omega,by omega⟩) ?_;rw[et];refine(V.ts _ ⟨O _ c.gr,c.get (i:=3) rfl⟩).whole rfl hx rfl ?_;refine sS (x:=tk) λ_ g=>?_;have c:=c.more g;refine And.intro (c.vl (i:=0) rfl rfl) ?_;refine c.vw 1 rfl (vs:=[_,_,_,_,_,_,_,_,_]) (by exact rfl) (by exact rfl) (by exact rfl) (by exact rfl) λ_ c=>?_;refine En.vb (c.vl (i:=1) rfl rfl) ?_;rw[hd,e];exact hR w' s' u M _ (c.pick [2,3]) q e
 replace c:Cx _ _ _ [_]:=c;refine c.v9 λiS _ c=>?_;refine c.v9 λoF _ c=>?_;refine .here<|vx (dA (by omega))<|aN<|aE<|c.rc 1 ?_;refine vx (V.ts h (O _ (.refl _ _))).ln<|vx (ka (by omega))<|aN<|c.rl 1 ?_;refine vx (fT ⟨by omega,by omega⟩) ?_;rw[et];refine fS.2 (tR (w:=w) (O _ c.gr) V hs λ_ g=>?_);have c:=c.more g;refine aN ?_;refine .here<|En.vb (v:=.int .i64 k) (by
  show some (Value.int .i64 (if (0:Int) > k then 0 else k))=_;rw[if_neg (by omega)]) ?_
 refine oP.by (λ(z:Nat × G) x h'=>x=.int .i64 z.1/\z.1<=k/\rk z.2+z.1<=k/\∃w' u M,Cx F h h' [rV iS (HU w'),rV oF [.slice none 0 0,.slice none 0 0,.slice none 0 0,.slice none 0 0,.map none,.slice none 0 0,.int .i64 0,.slice none 0 0,.slice none 0 0],u,aD M]/\P (B.and M) u w' z.2) (λz=>k - z.1) (0,s) ⟨rfl,Nat.zero_le _,aS,w,W,[],Cx.pack (L:=[_,_,_]) (M:=[]) (c.pick [1,2,0]),hP (Bs.aJ _ _) H⟩ ?_;rintro⟨i,s'⟩ _ h8 ⟨rfl,hi,oR,w',u,M,c,q⟩ again A;dsimp only at hi oR q A;replace c:=c.n4;refine vx aV<|dW (λrW=>?_) λrW=>?_
 ·refine c.rl 0 ?_;refine vx (aG (ds:=[_,_,_]) rfl) ?_;by_cases E:done s'=true
  ·refine Z (B:=B.and M) _ _ ⟨O _ c.gr,c.get (i:=3) rfl⟩ q E λ_ g=>?_;have c:=c.more g;refine En.vb rfl (En.vb rfl ?_);refine c.nv (cs:=[_,_,_,_,_,_,_,_,_]) rfl rfl λ_ _ c=>?_;refine c.vw 4 rfl (vs:=[_,_,_,_,_,_,_,_,_]) (by exact rfl) (by exact rfl) (by exact rfl) (by exact rfl) λ_ c=>?_;exact vx rfl<|bU<|fin w' s' u M _ _ _ (c.pick [0,1,2,3]) q E
  have E:done s'=false:=by simpa using E
  obtain⟨F',d',hM,up⟩:=c.Bu O (i:=2) (j:=3) rfl rfl (by decide);refine K (B:=B.and M) _ F' _ d' hM q E λw2 s2 W2 N _ d ok uS=>?_;have c:=up d;replace c:=c.n5;refine vx rfl<|vx rfl<|c.v9 λ_ _ c=>?_;refine c.w9 5 λ_ c=>?_;refine vx (v:=.bool false) (rfl)<|aN<|c.rl 5 ?_;refine c.w9 0 λ_ c=>?_;refine vx (inc (by omega))<|A (i+1,s2) _ _ ⟨rfl,by dsimp only; omega,by dsimp only; omega,w2,W2,[aD M,aD N],Cx.pack (L:=[_,_,_]) (c.pick [0,1,2,3,4]),hP Bs.Ay ok⟩ (by dsimp only; omega)
 ·exact fin w' s' u M _ _ _ (c.pick [0,1,2,3]) q (hz q (by omega))
end
def Cx.snoc {q:aX} {u:List aX} (c:Cx F h0 h (L++[q,aD u])):Cx F h0 h (L++[aD (u++[q])]):=by
 have c:Cx F h0 h ((L++[q])++[aD u]):=by rw[List.append_assoc]; exact c
 have c:=Cx.unpack c;rw[List.append_assoc] at c;exact Cx.pack (c.perm (List.Perm.append_left L (List.perm_append_comm (l₁:=[q]) (l₂:=u))))
def Cx.ws {W:aX} {q M:List aX} {i:Nat} (c:Cx F h0 h [aD M,aD q]) (J:∀h',Ch F h0 h'->B.p h') (hi:q[i]?=some W) :
  ∃F',Cx F' h h [W]/\(∀A,Ch F' h A->(B.and M).p A)/\∀{h':Hp} {u:aX} {N:List aX},Cx F' h h' [u,aD N]->Cx F h0 h' [aD [aD M,aD N],aD (q.set i u)]:=by
 have c2:Cx F h0 h ([aD M]++q):=Cx.unpack (L:=[aD M]) c;have E:([aD M]++q)[i+1]?=some W:=by simpa using hi
 obtain⟨F',K,O,up⟩:=c2.Bu J (i:=i+1) (j:=0) E rfl (by omega);refine⟨F',K,O,λ{h' u N} dd=>?_⟩;have H:=up dd;have e:([aD M]++q).set (i+1) u++[aD N]=[aD M]++(q.set i u++[aD N]):=by simp
 rw[e] at H;have G:Cx F h0 h' ([aD M]++([aD N]++q.set i u)):=H.perm (List.Perm.append_left _ List.perm_append_comm);have Q:Cx F h0 h' ([aD M,aD N]++[aD (q.set i u)]):=by
  have G:Cx F h0 h' ([aD M,aD N]++q.set i u):=G;exact Cx.pack G
 have U:Cx F h0 h' ([aD (q.set i u)]++[aD M,aD N]):=Q.perm List.perm_append_comm;exact(Cx.pack U).pick [1,0]
section
variable {T n b t:Nat} {w:WV} {m:Mj} {v:MV} {s:SH} {cds:List (TypeId × Value)}
def KY (Q:Nat->Bs->aX->Value->Ac->Bool->Prop) (B:Bs) (cds:List (TypeId × Value)) (q:List Tk) (u:List aX):Prop:=
 ∀(j:Nat) (tk:Tk) (W:aX),q[j]?=some tk->u[j]?=some W->∃a c,cds[j]?=some c/\tk.t=c.1/\Q j B W tk.v a tk.dn/\tk.act=(if tk.dn then jG else a)/\tk.s=(none,0,0)
def NK (O:B.p h) (H:wm B T v m) (k:xP T n b m) (hs:On B λh=>Sl Pm h (aK s) cds) (hl:cds.length<=T) {Q:Nat->Bs->aX->Value->Ac->Bool->Prop} (hQ:∀{j} {B B':Bs},B.le B'->∀{W v a d},Q j B W v a d->Q j B' W v a d)
  (hN:∀(j:Nat) (c:TypeId × Value),cds[j]?=some c->∃f,I.mt c.1 "Next"=some f/\∀B',B.le B'->II B' (aD []) f c.1 c.2 kq (Q j))
  (hR:∀w q A M h',q.length=cds.length->A.length=cds.length->Cx (λ_=>False) h h' [aD M,aD A]->KY Q (B.and M) cds q A->yo (B.and M) T w m q (List.replicate cds.length []) (List.replicate cds.length false)->R (.tuple #[rX w,.int .i64 0]) h'):xE.1 (yC v) (aK s) h R:=by
 have hT:=k.me.le.1;have c:=Cx.aB h;refine c.v7 λV _ c=>?_;refine c.v9 λX _ c=>?_;refine c.rl 0 ?_;refine yH (v:=v) (B.up O c.gr) H.ko (k.kk H) λ_ g=>?_;have c:=c.more g;refine vx rfl<|vx rfl<|vx (hs h O).ln<|vx (ka (by omega))<|aN<|m3.at (λz h'=>∃(r3:Nat) (u:SH),z=bE r3/\Cx (λ_=>False) h h' [rV V (S1 v),rV X [.slice none 0 0,.slice none 0 0,.slice none 0 0,.slice none 0 0,.map none,.slice none 0 0,.int .i64 0,.slice none 0 0,.slice none 0 0],rV r3 (HU ⟨v,(none,0,0),u⟩),bJ O5 (aK u) (List.replicate cds.length false)]) ?_ ?_
 ·refine c.rl 0 ?_;refine vx (hs h O).ln<|⟨?_,?_⟩
  ·refine c.zq O5 false rfl rfl rfl (by omega) (by decide) λZ _ c=>?_;obtain⟨u,hu⟩:∃l:SH,aK l=.slice (some Z) cds.length cds.length:=⟨(some Z,cds.length,cds.length),rfl⟩;rw[<-hu] at c⊢;replace c:=c.n3;refine c.al 0 ?_;refine vx (aG (ds:=[_,_,_,_,_,_,_,_,_]) rfl)<|c.v9 λ_ _ c=>?_;refine c.al 0 ?_;refine c.w9 3 λ_ c=>?_;exact⟨_,u,rfl,c.pick [0,1,3,2]⟩
  ·refine c.v9 λ_ _ c=>?_;refine c.al 0 ?_;refine c.zq O5 false rfl rfl rfl (by omega) (by decide) λZ _ c=>?_;obtain⟨u,hu⟩:∃l:SH,aK l=.slice (some Z) cds.length cds.length:=⟨(some Z,cds.length,cds.length),rfl⟩;rw[<-hu] at c⊢;replace c:=c.n4;refine c.al 0 ?_;refine vx (aG (ds:=[_,_,_,_,_,_,_,_,_]) rfl)<|c.w9 2 λ_ c=>?_;exact⟨_,u,rfl,c.pick [0,1,2,3]⟩
 ·rintro _ U ⟨r3,u,rfl,c⟩;replace c:=c.n4;refine vx (hs h O).ln<|oP.by (λ(i:Nat) z h'=>z=.int .i64 i/\i<=cds.length/\∃(p:SH) (q:List Tk) (M A:List aX),q.length=i/\A.length=i/\Cx (λ_=>False) h h' [rV V (S1 v),rV X [.slice none 0 0,.slice none 0 0,.slice none 0 0,.slice none 0 0,.map none,.slice none 0 0,.int .i64 0,.slice none 0 0,.slice none 0 0],rV r3 (HU ⟨v,p,u⟩),bJ O5 (aK u) (List.replicate cds.length false),bJ Ff (aK p) q,aD M,aD A]/\KY Q (B.and M) cds q A) (λi=>cds.length - i) 0 ⟨rfl,Nat.zero_le _,(none,0,0),([]:List Tk),([]:List aX),([]:List aX),rfl,rfl,Cx.wj (L:=[_,_,_,_,_,_]) (Cx.wj (L:=[_,_,_,_,_]) ((c.nil Ff).pick [0,1,2,3,4])),λj tk W E=>C5 E⟩ ?_;rintro i _ h8 ⟨rfl,hi,p,q,M,A,hlen,aS,c,hM⟩ again G;replace c:=c.n7;refine vx aV<|dW (λbY=>?_) λbY=>?_
  ·obtain⟨J,K⟩:∃J,cds[i]?=some J:=⟨_,List.getElem?_eq_getElem (by omega)⟩;obtain⟨f,hf,dO⟩:=hN i J K;refine(hs _ (B.up O c.gr)).one rfl K rfl (u:=.iface J.1 J.2) rfl ?_;refine aE<|c.rc 2 ?_;refine vZ.2 (Jo (B:=B) (BX (F:=uH)) (λh' ch=>B.up O (Gr.trans c.gr ch)) hf (dO B (Bs.le_refl B)) λv' a' d W N _ dd ok=>?_);have c:=c.aF dd;replace c:=c.n9;refine c.ac 2 ?_;refine c.dN Ff ⟨J.1,v',d,if d then jG else a',(none,0,0)⟩ rfl rfl λeQ _ c=>?_;replace c:=c.Oo;refine c.ac 2 ?_;refine c.ap 4 rfl (c.sl (i:=9) rfl).sl rfl rfl (by simp only[List.length_singleton]; omega) (by simp only[List.length_singleton]; omega) λiF _ c=>?_;obtain⟨p2,rfl⟩:=(c.sl (i:=4) rfl).ol;replace c:=c.Oo;refine aE<|c.q9 2 λ_ c=>?_;refine vx (inc (by omega)) ?_;have c:=Cx.pack (L:=[_,_,_,_,_,_,_]) (M:=[_,_]) (c.pick [0,1,2,3,4,7,6,5,8]);have c:=Cx.snoc (L:=[_,_,_,_,_,_]) (c.pick [0,1,2,3,4,7,5,6]);refine G (i+1) _ _ ⟨rfl,by omega,p2,q++[(⟨J.1,v',d,if d then jG else a',(none,0,0)⟩:Tk)],[aD M,aD N],A++[W],by rw[List.length_append,List.length_singleton,hlen],by rw[List.length_append,List.length_singleton,aS],c,λj tk W' E hw=>?_⟩ (by omega);by_cases aT:j<q.length
   ·rw[List.getElem?_append_left aT] at E;rw[List.getElem?_append_left (by omega)] at hw;obtain⟨a,cc,h1,h2,h3,h4,U⟩:=hM j tk W' E hw;exact⟨a,cc,h1,h2,hQ (Bs.iB (i:=0) rfl) h3,h4,U⟩
   ·rw[List.getElem?_append_right (by omega)] at E hw;have e:j - q.length=0:=by
     have:=(List.getElem?_eq_some_iff.1 E).1;rw[List.length_singleton] at this;omega
    rw[e] at E;rw[show j - A.length=0 by omega] at hw;simp only[List.getElem?_cons_zero,Option.some.injEq] at E hw;subst E hw;obtain rfl:j=i:=by omega
    exact⟨a',J,K,rfl,hQ (Bs.iB (i:=1) rfl) ok,rfl,rfl⟩
  ·refine c.rl 2 ?_;refine c.w9 1 λ_ c=>?_;refine c.rl 1 ?_;have hi:i=cds.length:=by omega
   subst hi;have c:=Cx.pack (L:=[_]) (M:=[_,_,_]) (c.pick [6,4,3,5]);refine hR ⟨v,p,u⟩ q A [bJ Ff (aK p) q,bJ O5 (aK u) (List.replicate cds.length false),aD M] _ hlen aS (c.pick [1,0]) (λj tk W E hw=>?_) ⟨H.le (Bs.aJ _ _),On.sl (i:=0) rfl,On.sl (i:=1) rfl,by rw[List.length_replicate,hlen],by rw[List.length_replicate,hlen],λj tk gs h1 h2=>?_⟩
   ·obtain⟨a,cc,h1,h2,h3,h4,U⟩:=hM j tk W E hw;exact⟨a,cc,h1,h2,hQ (Bs.iB (i:=2) rfl) h3,h4,U⟩
   ·have aT:=(List.getElem?_eq_some_iff.1 h1).1;obtain⟨a,cc,_,_,_,_,U⟩:=hM j tk _ h1 (List.getElem?_eq_getElem (by omega));rw[List.getElem?_replicate] at h2;split at h2
    ·injection h2 with h2;subst h2;rw[U];exact λh b=>⟨none,0,rfl,Nat.le_refl _,(λ_=>rfl),λi x hx=>C5 hx⟩
    ·cases h2
end
def EI8:jZ Int:={n:=1,c:=λi=>[.int .i8 i],len:=λ_=>rfl,one:=λa v h=>by simp only[List.mem_singleton] at h; subst h; rfl}
structure BW (G:Nat->W3) (ws:List W3):Prop where
 len:ws.length=512
 at':∀i,i<512->ws[i]?=some (G i)
def BW.set {G:Nat->W3} {ws:List W3} (H:BW G ws) {p:Nat} (q:p<512) (w:W3):BW (λj=>if j=p then w else G j) (ws.set p w):=by
 refine⟨by rw[List.length_set]; exact H.len,λi hi=>?_⟩;have:=H.len;rw[List.getElem?_set];by_cases e:p=i
 ·subst e;rw[if_pos rfl,if_pos (by omega),if_pos rfl]
 ·rw[if_neg e,if_neg (λx=>e x.symm)];exact H.at' i hi
def BW.ext {G q:Nat->W3} {ws:List W3} (H:BW G ws) (e:∀i,i<512->G i=q i):BW q ws:=⟨H.len,λi hi=>by rw[H.at' i hi,e i hi]⟩
def ML (t:Nat) (j:Nat):W3:=if 64<=j/\j<64+104*t/\(j - 64) % 104=0 then⟨2,0,0⟩ else if j=1 then⟨1,0,0⟩ else W0
def N5 (i:Nat) (j:Nat):W3:=if 384<=j/\j<384+32*i/\(j - 384) % 32=0 then⟨2,0,0⟩ else ML 3 j
def sK (first:List Int) (i:Nat) (j:Nat):W3:=if 56<=j/\j<56+i then⟨first.getD (j - 56) 0,0,0⟩ else N5 4 j
def BW.start:BW (ML 0) ((List.replicate 512 W0).set 1 ⟨1,0,0⟩):=by
 have:BW (λ_=>W0) (List.replicate 512 W0):=⟨List.length_replicate,λi hi=>by rw[List.getElem?_replicate,if_pos hi]⟩;refine(this.set (p:=1) (by decide) ⟨1,0,0⟩).ext λi _=>?_;exact(if_neg (by omega)).symm
section
variable {first:List Int}
def tP (q:∀h',Gr h h'->R vL h'):S.C 22 [] h R:=by
 refine qu.2 ?_;have c:=Cx.aB h;refine c.v3 λ_ _ c=>?_;refine vx (aG (ds:=[_,_,_]) rfl)<|c.w3 0 λ_ c=>?_;refine c.rl 0 ?_;exact q _ c.gr
def FJ:Pz 50 [vL] (.int .i64 512):=λh R Z k=>iW.2 (Ln Z k)
def FQ:Pz 51 [vL] (.int .i64 1):=λh R Z k=>m6.2 (RM Z k)
def Ki (Z:Zs h) (O:∀u ws h',BW (N5 4) ws->Cx (λ_=>False) h h' [bJ EW (aK u) ws]->R (aK u) h'):S.C 29 [vL] h R:=by
 refine qQ.2 ?_;have h1:(List.replicate 512 W0)[1]?=some W0:=by rw[List.getElem?_replicate,if_pos (by decide)]
 have c:=Cx.aB h;refine c.v3 λE _ c=>?_;refine c.rl 0 ?_;refine kL _ _ (Z.gr c.gr) λ_ g=>?_;have c:=c.more g;refine vx (v:=.bool false) (rfl)<|aN<|c.rl 0 ?_;refine FJ _ _ (Z.gr c.gr) λ_ g=>?_;have c:=c.more g;refine c.zq EW W0 (n:=512) rfl rfl rfl (by decide) (by decide) λM _ c=>?_;obtain⟨u,hu⟩:∃u:SH,aK u=.slice (some M) 512 512:=⟨(some M,512,512),rfl⟩;rw[<-hu] at c⊢;replace c:=c.n2;refine c.rl 0 ?_;refine FQ _ _ (Z.gr c.gr) λ_ g=>?_;have c:=c.more g;refine c.EJ 1 rfl (p:=1) h1 ⟨1,0,0⟩ rfl rfl (j:=0) rfl (by decide) rfl λ_ c=>?_;replace c:=c.n2;refine oP.by (λ(i:Nat) z h'=>z=.int .i64 ((i+1:Nat):Int)/\i<=3/\∃ws,BW (ML i) ws/\Cx (λ_=>False) h h' [rV E [.int .i64 3,.int .i64 6,.int .i64 4],bJ EW (aK u) ws]) (λi=>3 - i) 0 ⟨rfl,by decide,_,BW.start,c⟩ ?_;rintro i _ U ⟨rfl,hi,ws,A,c⟩ again q;refine aE<|c.rc 0 ?_;refine vx sP<|dW (λH=>?_) λH=>?_
 ·refine c.rl 0 ?_;refine jJ (t:=((i+1:Nat):Int)) (by omega) _ _ (Z.gr c.gr) λ_ g=>?_;have c:=c.more g;have Q:=A.len;have J:=A.at' (64+104*i) (by omega);rw[show eN ((i+1:Nat):Int)=((64+104*i:Nat):Int) by unfold eN; rw[if_pos (by omega)]; omega];refine c.EJ 1 rfl J ⟨2,0,0⟩ rfl rfl (j:=0) rfl (by decide) (by unfold ML; rw[if_neg (by omega),if_neg (by omega)]; rfl) λ_ c=>?_;replace c:=c.n2;refine vx (inc (by omega))<|q (i+1) _ _ ⟨rfl,by omega,_,(A.set (p:=64+104*i) (by omega) ⟨2,0,0⟩).ext λj N=>?_,c⟩ (by omega);unfold ML;by_cases e:j=64+104*i
  ·rw[if_pos e,if_pos (by omega)]
  ·rw[if_neg e];by_cases G:64<=j/\j<64+104*i/\(j - 64) % 104=0
   ·rw[if_pos G,if_pos (by omega)]
   ·exact(if_neg G).trans (if_neg (by omega)).symm
 ·refine aE<|c.rc 0 ?_;obtain rfl:i=3:=by omega
  refine oP.by (λ(i:Nat) z h'=>z=.int .i64 i/\i<=4/\∃ws,BW (N5 i) ws/\Cx (λ_=>False) h h' [rV E [.int .i64 3,.int .i64 6,.int .i64 4],bJ EW (aK u) ws]) (λi=>4 - i) 0 ⟨rfl,by decide,ws,A.ext λj N=>(if_neg (by omega)).symm,c⟩ ?_;clear A c;rintro i _ T ⟨rfl,hi,ws,A,c⟩ again q;refine vx aV<|dW (λK=>?_) λK=>?_
  ·refine c.rl 0 ?_;refine l8 (i:=(i:Int)) _ _ (Z.gr c.gr) λ_ g=>?_;have c:=c.more g;have J:=A.at' (384+32*i) (by omega);rw[show cK (i:Int)=((384+32*i:Nat):Int) by unfold cK; rw[if_pos (by omega)]; omega];refine c.EJ 1 rfl J ⟨2,0,0⟩ rfl rfl (j:=0) rfl (by decide) (by unfold N5 ML; rw[if_neg (by omega),if_neg (by omega),if_neg (by omega)]; rfl) λ_ c=>?_;replace c:=c.n2;refine vx (inc (by omega))<|q (i+1) _ _ ⟨rfl,by omega,_,(A.set (p:=384+32*i) (by omega) ⟨2,0,0⟩).ext λj N=>?_,c⟩ (by omega);unfold N5;by_cases e:j=384+32*i
   ·rw[if_pos e,if_pos (by omega)]
   ·rw[if_neg e];by_cases G:384<=j/\j<384+32*i/\(j - 384) % 32=0
    ·rw[if_pos G,if_pos (by omega)]
    ·exact(if_neg G).trans (if_neg (by omega)).symm
  ·obtain rfl:i=4:=by omega
   exact O u ws _ A (c.pick [1])
end
def Mj.new (T:Nat) (ws:List W3):Mj:=⟨Me.new T ws,⟨ws,List.replicate ((ws.length+7) / 8) ([],0),λ_ _=>none⟩⟩
def wm.new {T:Nat} {v:MV} {ws:List W3} (H:KO B T v ⟨Me.new T ws,Li.new ws⟩):wm B T v (Mj.new T ws):=by
 have e:v.y.a=none:=H.li.cQ;refine⟨H.me,⟨?_,?_⟩,H.st⟩
 ·rw[e]; exact H.li
 ·rw[e]; exact⟨[],λ_ _=>.inl ⟨rfl,rfl⟩,List.nodup_nil,λt=>⟨[],λ_ _=>.inl ⟨rfl,rfl⟩,List.nodup_nil,λ_=>rfl⟩⟩
def xP.new {T:Nat} {ws:List W3} (u:T<=8) (hw:ws.length<=4096):xP T ws.length 1 (Mj.new T ws):=by
 have k:=Kk.new (ws:=ws) u hw;exact⟨k.me,λa=>⟨k.li.fst,k.li.lg,k.li.le,k.li.len⟩,λt j q h=>by cases h⟩
def yW (du:Bool) (i:Nat) (ops:List iZ):Cn:=⟨i+1,0,du,ops,[],none,[],[],false⟩
def Sq (du:Bool) (i:Nat) (u:SH):Cc:=⟨((i+1:Nat):Int),0,du,u,(none,0,0),.nilIface,(none,0,0),(none,0,0),(none,0,0),false⟩
def sZ (du:Bool) (us:List SH):List (TypeId × Value):=us.mapIdx λi u=>(89,wy (Sq du i u))
def qC (du:Bool) (opss:List (List iZ)) (j:Nat) (B:Bs) (W:aX) (v:Value) (a:Ac) (d:Bool):Prop:=
 ∃ops,opss[j]?=some ops/\a=(cO (yW du j ops) kq).2.1/\d=(cO (yW du j ops) kq).2.2/\GX B W v (cO (yW du j ops) kq).1
def qC.le {du:Bool} {opss:List (List iZ)} {j:Nat} {W:aX} {v:Value} {a:Ac} {d:Bool} (l:B.le B') (H:qC du opss j B W v a d):qC du opss j B' W v a d:=let⟨o,h1,h2,q,u⟩:=H; ⟨o,h1,h2,q,u.le l⟩
section
variable {first:List Int} {du:Bool} {us:List SH} {opss:List (List iZ)} {vf vo:Value}
def tS:I.mt 89 "Next"=some 196:=by kernel_rfl
def Nm (E:On B Zs) (ho:∀(i:Nat) u ops,us[i]?=some u->opss[i]?=some ops->nE B u ops) (K:us.length=opss.length) (G:∀(i:Nat) ops,opss[i]?=some ops->MM (yW du i ops) kq) :
  ∀(j:Nat) (c:TypeId × Value),(sZ du us)[j]?=some c->∃f,I.mt c.1 "Next"=some f/\∀B',B.le B'->II B' (aD []) f c.1 c.2 kq (qC du opss j):=by
 intro j c A;unfold sZ at A;rw[List.getElem?_mapIdx] at A;cases hu:us[j]? with
 | none=>rw[hu] at A; cases A
 | some u=>
  rw[hu] at A;simp only[Option.map_some,Option.some.injEq] at A;subst A;have N:=(List.getElem?_eq_some_iff.1 hu).1;have q:=List.getElem?_eq_getElem (l:=opss) (i:=j) (by omega);generalize opss[j]'(by omega)=ops at q;refine⟨_,tS,λB' l h F R c H J=>bC.2 (FN (c':=yW du j ops) (E.le l) (W:=aD []) ⟨Sq du j u,rfl,⟨rfl,rfl,rfl,(ho j u ops hu q).le l,λ_ _=>Sl.nil,λ_ _=>Sl.nil,λ_ _=>Sl.nil,rfl⟩,rfl,rfl⟩ (G j ops q) ⟨⟨by decide,by decide⟩,⟨by decide,by decide⟩,⟨by decide,by decide⟩⟩ c H λv W M h' c2 ok=>?_)⟩;exact J v _ _ W M h' c2 ⟨ops,q,rfl,rfl,ok⟩
def A7 (J:B.p h) (hZ:On B Zs) (hf:On B λh=>Sl EI8 h vf first) (iN:∀z∈first,-128<=z/\z<=127) (hfl:first.length<=9223372036854775807) (hv:On B λh=>Sl EH1 h vo us) (hl3:us.length<=3) (hl:us.length=opss.length) (ho:∀(i:Nat) u ops,us[i]?=some u->opss[i]?=some ops->nE B u ops) (hk:∀(i:Nat) ops,opss[i]?=some ops->MM (yW du i ops) kq)
  (hR:∀ws w q Z M h',BW (sK first (min first.length 6)) ws->q.length=us.length->Z.length=us.length->Cx (λ_=>False) h h' [aD M,aD Z]->KY (qC du opss) (B.and M) (sZ du us) q Z->yo (B.and M) 3 w (Mj.new 3 ws) q (List.replicate us.length []) (List.replicate us.length false)->R (.tuple #[rX w,.bool true]) h'):gT.1 vf (.bool du) vo h R:=by
 have c:=Cx.aB h;refine c.v9 λV _ c=>?_;refine tP λ_ g=>?_;have c:=c.more g;refine c.v3 λX _ c=>?_;refine c.w3 1 λ_ c=>?_;refine c.rl 1 ?_;refine Ki (hZ _ (B.up J c.gr)) λu iS _ K d=>?_;have c:=c.aF d;replace c:=c.n3;refine oP.by (λ(i:Nat) z h'=>z=.int .i64 i/\i<=min first.length 6/\∃ws,BW (sK first i) ws/\Cx (λ_=>False) h h' [rV V uU.toList,rV X [.int .i64 3,.int .i64 6,.int .i64 4],bJ EW (aK u) ws]) (λi=>6 - i) 0 ⟨rfl,Nat.zero_le _,iS,K.ext λj hj=>(if_neg (by omega)).symm,c⟩ ?_;clear K c;rintro i _ h6 ⟨rfl,hi,ws,K,c⟩ again E;refine m3.at (λv h'=>v=.bool (decide (i<min first.length 6))/\Cx (λ_=>False) h h' [rV V uU.toList,rV X [.int .i64 3,.int .i64 6,.int .i64 4],bJ EW (aK u) ws]) ?_ ?_
 ·refine vx (hf _ (B.up J c.gr)).ln<|vx aV<|dW (λoF=>?_) λoF=>?_
  ·refine aE<|c.rc 1 ?_;refine vx aV<|dW (λoR=>?_) λoR=>?_
   ·refine vx (c.sl (i:=2) rfl).sl.ln ?_;have hlen:=K.len;refine vx (zH (by omega)) ?_;first | exact⟨by rw[decide_eq_true (show i<min first.length 6 by omega)],c⟩| exact⟨by rw[decide_eq_false (show ¬i<min first.length 6 by omega)],c⟩
   ·first | exact⟨by rw[decide_eq_true (show i<min first.length 6 by omega)],c⟩| exact⟨by rw[decide_eq_false (show ¬i<min first.length 6 by omega)],c⟩
  ·first | exact⟨by rw[decide_eq_true (show i<min first.length 6 by omega)],c⟩| exact⟨by rw[decide_eq_false (show ¬i<min first.length 6 by omega)],c⟩
 ·rintro _ h7 ⟨rfl,c⟩;replace c:=c.n3;refine dW (λrW=>?_) λrW=>?_
  ·refine c.rl 1 ?_;have G:=List.getElem?_eq_getElem (l:=first) (i:=i) (by omega);have aS:first.getD i 0=first[i]'(by omega):=by rw[List.getD_eq_getElem?_getD,G]; rfl
   generalize first[i]'(by omega)=z at G aS
   have hz:=iN z (List.mem_of_getElem? G);obtain⟨r5,o5,e5,aT,_⟩:=(hf _ (B.up J c.gr)).ix G (n:=1) rfl (k:=.i64) (z:=(i:Int)) rfl;refine vx e5<|vx (aT.rq rfl)<|vx (Nf (a:=z) ⟨by omega,by omega⟩)<|gO (i:=(i:Int)) _ _ (hZ _ (B.up J c.gr)) λ_ g=>?_;have c:=c.more g;rw[show nJ (i:Int)=((56+i:Nat):Int) by unfold nJ; rw[if_pos (by omega)]; omega];have tO:=K.at' (56+i) (by omega);obtain⟨r6,o6,O,U,_⟩:=(hf _ (B.up J c.gr)).ix G (n:=1) rfl (k:=.i64) (z:=(i:Int)) rfl;rw[e5] at O;injection O with O;injection O with O;injection O with O;injection O with e7 e8;subst e7;rw[<-e8] at U;refine And.intro (U.rq rfl) ?_;refine c.EJ 2 rfl tO ⟨z,0,0⟩ rfl rfl (j:=0) rfl (by decide) (by unfold sK N5 ML; rw[if_neg (by omega),if_neg (by omega),if_neg (by omega),if_neg (by omega)]; rfl) λ_ c=>?_;replace c:=c.n3;refine vx (inc (by omega))<|E (i+1) _ _ ⟨rfl,by omega,_,(K.set (p:=56+i) (by omega) ⟨z,0,0⟩).ext λj hj=>?_,c⟩ (by omega);unfold sK;by_cases e:j=56+i
   ·rw[if_pos e,if_pos (by omega),show j - 56=i by omega,aS]
   ·rw[if_neg e];by_cases e2:56<=j/\j<56+i
    ·rw[if_pos e2,if_pos (by omega)]
    ·exact(if_neg e2).trans (if_neg (by omega)).symm
  ·refine aE<|c.rc 1 ?_;obtain rfl:i=min first.length 6:=by omega
   have hlen:=K.len;refine Qe (T:=3) (c.sl (i:=2) rfl).sl ⟨by decide,by decide⟩ ⟨by omega,by omega⟩ λv M _ d uS=>?_;have c:=c.aF d;replace c:=c.n4;refine vx rfl<|vx rfl<|c.v7 λbY _ c=>?_;refine c.w7 4 λ_ c=>?_;refine vx (hv _ (B.up J c.gr)).ln<|wA.by (λ(i:Nat) x z h'=>z=.int .i64 i/\i<=us.length/\Cx (λ_=>False) h h' [rV V uU.toList,rV X [.int .i64 3,.int .i64 6,.int .i64 4],bJ EW (aK u) ws,aD M,rV bY (S1 v),bJ Pm x ((sZ du us).take i)]) (λi=>us.length - i) 0 ⟨rfl,Nat.zero_le _,c.nil Pm⟩ ?_;rintro j x _ h13' ⟨rfl,hj,c⟩ iF A;have hcl:(sZ du us).length=us.length:=by unfold sZ; rw[List.length_mapIdx]
   replace c:=c.n6;refine vx aV<|dW (λe59=>?_) λe59=>?_
   ·have G:=List.getElem?_eq_getElem (l:=us) (i:=j) (by omega);have dO:(sZ du us).take (j+1)=(sZ du us).take j++[(89,wy (Sq du j (us[j]'(by omega))))]:=by
     rw[List.take_add_one];congr 1;unfold sZ;rw[List.getElem?_mapIdx,G]; rfl
    generalize us[j]'(by omega)=uj at G dO;refine(hv _ (B.up J c.gr)).one rfl G rfl (u:=aK uj) rfl ?_;refine c.rl 1 ?_;refine vx (iQ ⟨by omega,by omega⟩)<|vx (aG (ds:=[_,_,_,_,_,_,_,_,_,_,_,_,_]) rfl)<|vx rfl<|c.dN Pm (89,wy (Sq du j uj)) rfl rfl λv71 _ c=>?_;replace c:=c.n7;refine c.ap 5 rfl (c.sl (i:=6) rfl).sl rfl rfl (by simp only[List.length_take,List.length_cons,List.length_nil]; omega) (by simp only[List.length_take,List.length_cons,List.length_nil]; omega) λv72 _ c=>?_;rw[<-dO] at c;replace c:=c.n7;exact vx (inc (by omega))<|A (j+1) _ _ _ ⟨rfl,by omega,c.pick [0,1,2,3,4,5]⟩ (by omega)
   ·refine c.rl 4 ?_;obtain rfl:j=us.length:=by omega
    rw[List.take_of_length_le (by omega)] at c;obtain⟨cd,rfl⟩:=(c.sl (i:=5) rfl).ol;have c:=Cx.pack (L:=[_,_]) (M:=[aD M,bJ Pm (aK cd) (sZ du us)]) (c.pick [0,4,3,5]);have l0:=Bs.aJ B [aD M,bJ Pm (aK cd) (sZ du us)];have hko:wm (B.and [aD M,bJ Pm (aK cd) (sZ du us)]) 3 v (Mj.new 3 ws):=(wm.new (uS B)).le λh b=>⟨b.1,Bs.star b (i:=0) rfl⟩;have hkk:=xP.new (T:=3) (ws:=ws) (by decide) (by omega);refine xE.2 (NK (B:=B.and [aD M,bJ Pm (aK cd) (sZ du us)]) (v:=v) ⟨B.up J c.gr,c.get (i:=2) rfl⟩ hko hkk (On.sl (i:=1) rfl) (by omega) (Q:=qC du opss) (λ{j B B'} l {W v a d} (H:qC du opss j B W v a d)=>qC.le l H) (λj c hc=>?_) λw q Z N _ ht hw d ok1 eQ=>?_)
    ·obtain⟨f,hf1,hf2⟩:=Nm hZ ho hl hk j c hc;exact⟨f,hf1,λB' l=>hf2 B' (l0.trans l)⟩
    have c:=c.aF d;replace c:=c.n5;refine vx rfl<|vx rfl<|c.v9 λ_ _ c=>?_;refine c.w9 5 λ_ c=>?_;refine .here<|c.rl 5 ?_;refine vx (v:=.bool true) rfl<|bU<|vx (v:=.bool true) rfl<|c.w9 0 λ_ c=>?_;refine c.rl 0 ?_;have c:=Cx.pack (L:=[_]) (M:=[_,_]) (c.pick [4,2,3]);rw[hcl] at eQ ht hw;exact hR ws w q Z _ _ K ht hw (c.pick [1,0]) (λj tk W h1 h2=>let⟨a,cc,q1,q2,q3,q4,q5⟩:=ok1 j tk W h1 h2; ⟨a,cc,q1,q2,q3.le Bs.Ay,q4,q5⟩) (eQ.le Bs.Ay)
end
def Mj.words (m:Mj):List W3:=(List.range m.me.hs.length).map λi=>(m.me.top i).w
def Mj.pK {m:Mj}:m.words.length=m.me.hs.length:=by unfold Mj.words; rw[List.length_map,List.length_range]
def Mj.za {m:Mj} {i:Nat} (hi:i<m.me.hs.length):m.words[i]?=some (m.me.top i).w:=by
 unfold Mj.words;rw[List.getElem?_map,List.getElem?_range hi]; rfl
section
variable {T n b:Nat} {v:MV} {m:Mj} {ws us:List W3} {vw vu:Value} {i:Nat}
def C3 (J:B.p h) (H:wm B T v m) (k:xP T n b m) (K:b<=1000000) (M:∀u h',Cx (λ_=>False) h h' [bJ EW (aK u) m.words]->R (aK u) h'):eK.1 (yC v) h R:=by
 have U:=k.me.hs;have hle:=k.me.le;have c:=Cx.aB h;refine c.v7 λA _ c=>?_;refine c.rl 0 ?_;refine yH (v:=v) (B.up J c.gr) H.ko (k.kk H) λ_ g=>?_;have c:=c.more g;refine vx rfl<|vx rfl<|wA.by (λ(i:Nat) x z h'=>z=.int .i64 i/\i<=n/\Cx (λ_=>False) h h' [rV A (S1 v),bJ EW x (m.words.take i)]) (λi=>n - i) 0 ⟨rfl,Nat.zero_le _,c.nil EW⟩ ?_;rintro i x _ N ⟨rfl,hi,c⟩ again q;replace c:=c.n2;refine vx aV<|dW (λE=>?_) λE=>?_
 ·refine c.rl 0 ?_;refine(nf (v:=v) (B.up J c.gr) H.ko (k.kk H) K (i:=i) (by omega) λ_ g=>?_);have c:=c.more g;have G:m.words.take (i+1)=m.words.take i++[(m.me.top i).w]:=by rw[List.take_add_one,Mj.za (by omega)]; rfl
  refine vx rfl<|vx rfl<|c.v3 λ_ _ c=>?_;refine c.w3 2 λ_ c=>?_;refine c.rl 2 ?_;refine c.dN EW (m.me.top i).w rfl rfl λO _ c=>?_;replace c:=c.n4;refine c.ap 1 rfl (c.sl (i:=3) rfl).sl rfl rfl (by simp only[List.length_take,List.length_cons,List.length_nil]; omega) (by simp only[List.length_take,List.length_cons,List.length_nil]; omega) λQ _ c=>?_;rw[<-G] at c;replace c:=c.n4;exact vx (inc (by omega))<|q (i+1) _ _ _ ⟨rfl,by omega,c.pick [0,1]⟩ (by omega)
 ·obtain⟨u,rfl⟩:=(c.sl (i:=1) rfl).ol;rw[List.take_of_length_le (by rw[Mj.pK]; omega)] at c;exact M u _ (c.pick [1])
def qY:Pz 50 [vL] (.int .i64 512):=λh R Z k=>iW.2 (Ln Z k)
end
section
variable {ws us:List W3} {vw vu:Value}
def QV (u:B.p h) (hw:On B λh=>Sl EW h vw ws) (hu:On B λh=>Sl EW h vu ws) (J:ws.length<=1000000) (G:∀h',Gr h h'->R (.bool true) h'):lK.1 vw vu h R:=by
 have c:=Cx.aB h;refine vx (hw _ (B.up u c.gr)).ln<|vx (hu _ (B.up u c.gr)).ln<|vx (v:=.bool false) (by rw[dZ,decide_eq_false (λh=>h rfl)])<|aN<|oP.by (λ(i:Nat) z h'=>z=.int .i64 i/\i<=ws.length/\Cx (λ_=>False) h h' []) (λi=>ws.length - i) 0 ⟨rfl,Nat.zero_le _,c⟩ ?_;rintro i _ H ⟨rfl,hi,c⟩ again q;refine vx (hw _ (B.up u c.gr)).ln<|vx aV<|dW (λA=>?_) λA=>?_
 ·have E:=List.getElem?_eq_getElem (l:=ws) (i:=i) (by omega);generalize ws[i]'(by omega)=x at E;refine(hw _ (B.up u c.gr)).whole rfl E rfl ?_;refine(hu _ (B.up u c.gr)).whole rfl E rfl ?_;exact vx (v:=.bool false) ((LG x x).trans (by rw[decide_eq_false (λh=>h rfl)]))<|aN<|vx (inc (by omega))<|q (i+1) _ _ ⟨rfl,by omega,c⟩ (by omega)
 ·exact G _ c.gr
def OQ {x:Cc} {d:Bool} {a:Ac} {s:SH} (q:∀h',Gr h h'->R (.tuple #[wy x,.bool true]) h') (A:x.now.oneCell'=true):mJ.1 (Jn ⟨89,wy x,d,a,s⟩) h R:=by
 obtain⟨t,seq,du,ops,u,now,oV,dn,sm,br⟩:=x;dsimp only at A;cases d with
 | true=>
  have c:=Cx.aB h;refine c.v11 λ_ _ c=>?_;refine c.FT λ_ _ c=>?_;refine c.rl 0 ?_;refine HV (x:=⟨89,_,true,a,s⟩) λ_ g=>?_;have c:=c.more g;refine vx (v:=.tuple #[wy ⟨t,seq,du,ops,u,now,oV,dn,sm,br⟩,.bool true]) (by simp[Az])<|vx rfl<|vx rfl<|c.FT λ_ _ c=>?_;refine c.Od 2 λ_ c=>?_;refine c.rl 2 ?_;refine c.Od 1 λ_ c=>?_;refine c.rl 1 ?_;exact q _ c.gr
 | false=>
  have c:=Cx.aB h;refine c.v11 λ_ _ c=>?_;refine c.FT λ_ _ c=>?_;refine c.rl 0 ?_;refine HV (x:=⟨89,_,false,a,s⟩) λ_ g=>?_;have c:=c.more g;refine vx (v:=.tuple #[wy ⟨t,seq,du,ops,u,now,oV,dn,sm,br⟩,.bool true]) (by simp[Az])<|vx rfl<|vx rfl<|c.FT λ_ _ c=>?_;refine c.Od 2 λ_ c=>?_;refine c.rl 2 ?_;refine c.Od 1 λ_ c=>?_;refine c.rl 1 ?_;exact q _ c.gr
end
def D2 (M:Nat->W3) (i:Nat) (w:W3):Nat->W3:=λj=>if j=i then w else M j
def NF {M:Nat->W3} {i j:Nat} {w:W3} (h:¬j=i):D2 M i w j=M j:=if_neg h
def exec (M:Nat->W3) (a:Ac):(Nat->W3) × cP:=
 if a.op=5\/a.op=1 then(M,⟨M a.at'.toNat,true⟩)
 else if a.op=3\/a.op=4 then(D2 M a.at'.toNat a.new,⟨W0,true⟩)
 else if a.op=6 then(if M a.at'.toNat=a.old then(D2 M a.at'.toNat a.new,⟨M a.at'.toNat,true⟩) else(M,⟨M a.at'.toNat,false⟩))
 else(M,⟨W0,true⟩)
structure jB (a:Ac):Prop where
 ok:DY 512 a
 old:a.op=5\/a.op=3\/a.op=4->a.old=W0
 nw:a.op=5->a.new=W0
 w:a.op=3\/a.op=4\/a.op=6->Ww a.new
inductive Ends (post:Cn->(Nat->W3)->Prop):Nat->CR->(Nat->W3)->Prop
 | done {k:Nat} {c:Cn} {a:Ac} {M:Nat->W3}:post c M->Ends post k (c,a,true) M
 | step {k:Nat} {c:Cn} {a:Ac} {M:Nat->W3}:jB a->MM c (exec M a).2->Ends post k (cO c (exec M a).2) (exec M a).1->Ends post (k+1) (c,a,false) M
structure SV (m:Mj) (M:Nat->W3):Prop where
 vs:1<=m.me.vs.length
 hs:m.me.hs.length=512
 ne:∀i,i<512->1<=(m.me.at i).length
 top:∀i,i<512->(m.me.top i).w=M i
 ww:∀i,Ww (M i)
 vw:∀i:Nat,i<512->m.me.view 1 i=((m.me.at i).length - 1:Nat)
 ms:∀(i:Nat) (x:AM),i<512->x∈m.me.at i->∀l:Nat,l<512->x.f l<=((m.me.at l).length - 1:Nat)
section
variable {m m':Mj} {M:Nat->W3} {a:Ac} {g:cP} {i:Nat}
def Me.pP {m:Me} {i n:Nat} {x:AM} {j:Bool} (h:1<=m.vs.length):(m.lO 1 i n x j).view 1=if j then y9 (fL (m.view 1) i n) x.f else fL (m.view 1) i n:=by
 show(m.vs.set 0 _).getD 0 _=_;rw[List.getD_eq_getElem?_getD,List.getElem?_set_self (by omega)]; rfl
def Me.nF {m:Me} {t i:Nat} {w:W3} {b:Bool} (k:Nat) (h:i<m.hs.length):(m.add t i w b).at k=if k=i then m.at i++[⟨w,if b then fL (m.view t) i (m.at i).length else fL (λ_=>0) i (m.at i).length⟩] else m.at k:=by
 show(m.hs.set i _).getD k []=_;rw[List.getD_eq_getElem?_getD];by_cases e:k=i
 ·subst e;rw[List.getElem?_set_self h,if_pos rfl]; rfl
 ·rw[List.getElem?_set_ne (λx=>e x.symm),if_neg e,<-List.getD_eq_getElem?_getD]; rfl
def Me.vB {m:Me} {i:Nat} {w:W3} {b:Bool} (h:1<=m.vs.length):(m.add 1 i w b).view 1=fL (m.view 1) i (m.at i).length:=by
 show(m.vs.set 0 _).getD 0 _=_;rw[List.getD_eq_getElem?_getD,List.getElem?_set_self (by omega)]; rfl
def Me.sU {m:Me} {i:Nat} (h:1<=(m.at i).length):m.top i∈m.at i:=by
 unfold Me.top;have q:m.at i≠[]:=λe=>by rw[e] at h; simp at h
 rw[List.getLast?_eq_some_getLast q];exact List.getLast_mem q
def SV.lO (H:SV m M) {q:Nat} {x:AM} {j:Bool} (hi:i<512) (A:x∈m.me.at i) (B:q=(m.me.at i).length - 1):SV {m with me:=m.me.lO 1 i q x j} M:=by
 refine⟨by show 1<=(m.me.vs.set _ _).length; rw[List.length_set]; exact H.vs,H.hs,H.ne,H.top,H.ww,λl h=>?_,H.ms⟩;have h1:=H.vw l h;have h2:=H.ms i x hi A l h;show(m.me.lO 1 i q x j).view 1 l=((m.me.at l).length - 1:Nat);rw[Me.pP H.vs];have u:fL (m.me.view 1) i q l=((m.me.at l).length - 1:Nat):=by
  unfold fL;by_cases e:(l:Int)=i
  ·rw[if_pos e];obtain rfl:l=i:=by omega
   omega
  ·rw[if_neg e]; exact h1
 cases j with
 | true=>simp only[if_true,y9]; rw[u]; omega
 | false=>simp only[Bool.false_eq_true,if_false]; exact u
def SV.add (H:SV m M) {w:W3} {b:Bool} (hi:i<512) (hw:Ww w) {l:Lj}:SV ⟨m.me.add 1 i w b,l⟩ (D2 M i w):=by
 have u:i<m.me.hs.length:=by rw[H.hs]; exact hi
 have hlen:∀k,k<512->((m.me.add 1 i w b).at k).length=(m.me.at k).length+if k=i then 1 else 0:=λk h=>by
  rw[Me.nF k u];by_cases e:k=i
  ·subst e; rw[if_pos rfl,if_pos rfl,List.length_append,List.length_singleton]
  ·rw[if_neg e,if_neg e]; rfl
 refine⟨by show 1<=(m.me.vs.set _ _).length; rw[List.length_set]; exact H.vs,by show(m.me.hs.set _ _).length=_; rw[List.length_set]; exact H.hs,λk h=>?_,λk h=>?_,λk=>?_,λk h=>?_,λk x h q l A=>?_⟩
 ·show 1<=((m.me.add 1 i w b).at k).length;have:=H.ne k h;rw[hlen k h]; omega
 ·show((m.me.add 1 i w b).top k).w=_;unfold Me.top;rw[Me.nF k u];by_cases e:k=i
  ·subst e;rw[if_pos rfl,List.getLast?_append];simp[D2]
  ·rw[if_neg e,NF e];exact H.top k h
 ·unfold D2;split
  ·exact hw
  ·exact H.ww k
 ·show(m.me.add 1 i w b).view 1 k=((((m.me.add 1 i w b).at k).length - 1:Nat):Int);rw[Me.vB H.vs,hlen k h];have h1:=H.vw k h;have h2:=H.ne k h;unfold fL;by_cases e:k=i
  ·subst e;rw[if_pos rfl,if_pos rfl];omega
  ·rw[if_neg (by omega),if_neg e];omega
 ·show x.f l<=((((m.me.add 1 i w b).at l).length - 1:Nat):Int);have q:x∈(m.me.add 1 i w b).at k:=q;rw[Me.nF k u] at q;have h2:=H.ne l A;have E:=H.vw l A;rw[hlen l A];by_cases e:k=i
  ·subst e;rw[if_pos rfl] at q;rcases List.mem_append.1 q with q | q
   ·have:=H.ms k x h q l A;split <;> omega
   ·rw[List.mem_singleton] at q;subst q;show(if b=true then fL (m.me.view 1) k (m.me.at k).length else fL (λ_=>0) k (m.me.at k).length) l<=_;by_cases B:l=k
    ·subst B;rw[if_pos rfl];cases b with
     | true=>simp only[if_true,fL]; omega
     | false=>simp only[Bool.false_eq_true,if_false,fL,if_true]; omega
    ·rw[if_neg B];cases b with
     | true=>simp only[if_true,fL]; rw[if_neg (by omega)]; omega
     | false=>simp only[Bool.false_eq_true,if_false,fL]; rw[if_neg (by omega)]; omega
  ·rw[if_neg e] at q;have:=H.ms k x h q l A;split <;> omega
def SV.step (H:SV m M) (hs:xz m 1 a m' g) (E:jB a):g=(exec M a).2/\SV m' (exec M a).1:=by
 cases hs with
 | look i o n h=>
  have hi:i<512:=by rw[<-H.hs]; exact h
  have e:exec M ⟨5,i,o,n⟩=(M,⟨M i,true⟩):=by unfold exec; rw[if_pos (.inl rfl)]; rfl
  rw[e];exact⟨by rw[H.top i hi],H.lO hi (Me.sU (H.ne i hi)) rfl⟩
 | load i q x o n h B hv=>
  have hi:i<512:=by rw[<-H.hs]; exact h
  have e:exec M ⟨1,i,o,n⟩=(M,⟨M i,true⟩):=by unfold exec; rw[if_pos (.inr rfl)]; rfl
  have F:=(List.getElem?_eq_some_iff.1 B).1;have h1:=H.vw i hi;have h2:=H.ne i hi;obtain rfl:q=(m.me.at i).length - 1:=by omega
  have A:m.me.top i=x:=by
   unfold Me.top;rw[List.getLast?_eq_getElem?,B]; rfl
  rw[e];exact⟨by rw[<-A,H.top i hi],H.lO hi (List.mem_of_getElem? B) rfl⟩
 | put i o w wl h=>
  have hi:i<512:=by rw[<-H.hs]; exact h
  have hw:Ww w:=E.w (by cases wl <;> simp);have e:exec M ⟨if wl then 4 else 3,i,o,w⟩=(D2 M i w,⟨W0,true⟩):=by
   cases wl <;> (unfold exec; dsimp only; rw[if_neg (by decide),if_pos (by decide)]; rfl)
  rw[e];exact⟨rfl,H.add hi hw⟩
 | swap i old new h=>
  have hi:i<512:=by rw[<-H.hs]; exact h
  have hw:Ww new:=E.w (.inr (.inr rfl));have e:exec M ⟨6,i,old,new⟩=if M i=old then(D2 M i new,⟨M i,true⟩) else(M,⟨M i,false⟩):=by
   unfold exec; dsimp only; rw[if_neg (by decide),if_neg (by decide),if_pos rfl]; rfl
  have u:=H.lO (j:=true) (q:=(m.me.at i).length - 1) hi (Me.sU (H.ne i hi)) rfl;have A:=H.top i hi;rw[e];by_cases c:M i=old
  ·rw[if_pos c];refine⟨by rw[A,decide_eq_true c],?_⟩;have:Me.Dm m.me 1 i old new=(m.me.lO 1 i ((m.me.at i).length - 1) (m.me.top i) true).add 1 i new true:=if_pos (A.trans c);rw[this];exact u.add hi hw
  ·rw[if_neg c];refine⟨by rw[A,decide_eq_false c],?_⟩;have:Me.Dm m.me 1 i old new=m.me.lO 1 i ((m.me.at i).length - 1) (m.me.top i) true:=if_neg (λx=>c (A.symm.trans x));rw[this];exact⟨u.vs,u.hs,u.ne,u.top,u.ww,u.vw,u.ms⟩
 | flush i o n h=>
  have e:exec M ⟨7,i,o,n⟩=(M,⟨W0,true⟩):=by unfold exec; dsimp only; rw[if_neg (by decide),if_neg (by decide),if_neg (by decide)]
  rw[e];exact⟨rfl,H.vs,H.hs,H.ne,H.top,H.ww,H.vw,H.ms⟩
 | sync p o n=>
  have e:exec M ⟨8,p,o,n⟩=(M,⟨W0,true⟩):=by unfold exec; dsimp only; rw[if_neg (by decide),if_neg (by decide),if_neg (by decide)]
  rw[e];exact⟨rfl,H.vs,H.hs,H.ne,H.top,H.ww,H.vw,H.ms⟩
def SV.new {ws:List W3} {G:Nat->W3} (H:BW G ws) (hw:∀i,Ww (G i)):SV (Mj.new 3 ws) G:=by
 have hlen:=H.len;have h:∀i,i<512->(Mj.new 3 ws).me.at i=[⟨G i,λ_=>0⟩]:=λi hi=>by
  show(ws.map λw=>[(⟨w,λ_=>0⟩:AM)]).getD i []=_;rw[List.getD_eq_getElem?_getD,List.getElem?_map,H.at' i hi]; rfl
 refine⟨Nat.le_trans (by decide:1<=3) (Nat.le_of_eq (List.length_replicate).symm),by show(ws.map _).length=_; rw[List.length_map,hlen],λi hi=>by rw[h i hi]; exact Nat.le_refl 1,λi hi=>?_,hw,λi hi=>?_,λi x hi q l u=>?_⟩
 ·unfold Me.top;rw[h i hi]; rfl
 ·rw[h i hi];rfl
 ·rw[h i hi,List.mem_singleton] at q;subst q;rw[h l u];exact Int.le_refl _
end
abbrev Sg:Type:=CR × (Nat->W3) × Nat
def NJ (post:Cn->(Nat->W3)->Prop) (B:Bs) (W:aX) (w:WV) (s:Sg):Prop:=
 ∃(m:Mj) (v:Value) (sp:SH) (gs:List cP) (b:Nat),yo B 3 w m [⟨89,v,s.1.2.2,if s.1.2.2 then jG else s.1.2.1,sp⟩] [gs] [false]/\GX B W v s.1.1/\SV m s.2.1/\xP 3 512 b m/\b+s.2.2<=800000/\gs.length+s.2.2<=800000/\Ends post s.2.2 s.1 s.2.1
def NJ.le {post:Cn->(Nat->W3)->Prop} {W:aX} {w:WV} {s:Sg} (l:B.le B') (H:NJ post B W w s):NJ post B' W w s:=by
 obtain⟨m,v,sp,gs,b,h1,h2,q⟩:=H;exact⟨m,v,sp,gs,b,h1.le l,h2.le l,q⟩
def xP.step {m u:Mj} {t n b T:Nat} {a:Ac} {g:cP} (k:xP T n b m) (h:xz m t a u g):xP T n (b+1) u:=by
 have A:=k.me.hs;cases h with
 | look i o n h=>exact⟨(k.me.lO _ _).up (Nat.le_succ _),k.li.up (Nat.le_succ _)⟩
 | load i q x o n h E hv=>exact⟨(k.me.lO _ _).up (Nat.le_succ _),k.li.up (Nat.le_succ _)⟩
 | put i o w wl h=>exact⟨k.me.add (by omega),k.li.bF (by omega)⟩
 | swap i old new h=>
  refine⟨?_,?_⟩
  ·show Mk T n (b+1) (Me.Dm _ _ _ _ _);unfold Me.Dm;split
   ·exact(k.me.lO _ _).add (by omega)
   ·exact(k.me.lO _ _).up (Nat.le_succ _)
  ·show Fh n (b+1) (if _ then _ else _);split
   ·exact k.li.bF (by omega)
   ·exact k.li.up (Nat.le_succ _)
 | flush i o n h=>exact⟨k.me.up (Nat.le_succ _),(k.li.xU (by omega)).up (Nat.le_succ _)⟩
 | sync p o n=>exact⟨k.me.up (Nat.le_succ _),k.li.uC.up (Nat.le_succ _)⟩
section
variable {post:Cn->(Nat->W3)->Prop} {W:aX} {w:WV} {s:Sg}
def PW (hZ:On B Zs) {k:Nat} (hk:k<=100000) (c:Cx F h h [W]) (T:∀h',Ch F h h'->B.p h') (H:NJ post B W w s) (hs:s.2.2<=k)
  (A:∀w' s' u M h',Cx F h h' [u,aD M]->NJ post (B.and M) u w' s'->s'.1.2.2=true->R (.tuple #[rX w',.bool true]) h'):kz.1 (rX w) (.int .i64 1) (.int .i64 k) h R:=by
 refine L4 (t:=1) (P:=λB W w s=>On B Zs/\NJ post B W w s) (done:=λs=>s.1.2.2) (rk:=λs=>s.2.2) (λ{B B'} l {W w s} H=>⟨H.1.le l,H.2.le l⟩) (by omega) (Nat.le_refl 1) (λH=>?_) (λ{B W w s} h F R c T H G A=>?_) (λ{B W w s} h R b0 H G A=>?_) (λ{B W w s} H hz=>?_) c T ⟨hZ,H⟩ hs λw' s' u M h' c' H' G=>A w' s' u M h' c' H'.2 G
 ·obtain⟨_,m,v,sp,gs,b,h1,h2,q⟩:=H;exact⟨3,m,_,_,_,_,h1,by simp,rfl,rfl,rfl⟩
 ·obtain⟨hZ,m,v,sp,gs,b,h1,h2,q,U,V,h6,J⟩:=H;obtain⟨⟨K,a,d⟩,M,n⟩:=s;dsimp only at G h1 h2 q V h6 J;subst G;cases J with
  | step X hc he=>
   rename_i k';refine cT.2 (H3 (t:=1) (n:=512) (b:=b) (tk:=⟨89,v,false,a,sp⟩) (gs:=gs) (Q:=λO g B W Z a' d'=>g=(exec M a).2/\SV O (exec M a).1/\xP 3 512 (b+1) O/\a'=(cO K (exec M a).2).2.1/\d'=(cO K (exec M a).2).2.2/\GX B W Z (cO K (exec M a).2).1) c T h1 U (by omega) (show 1<=3 by decide) (Nat.le_refl 1) rfl rfl rfl (by omega) rfl X.ok X.old X.nw (λV i hi=>?_) tS (λ{O g B B'} l {W v a d} H=>⟨H.1,H.2.1,H.2.2.1,H.2.2.2.1,H.2.2.2.2.1,H.2.2.2.2.2.le l⟩) (λO g E B' l=>?_) λO g w' Z a' d' s' u N h' E c' hq aS=>?_)
   ·have V:a.op=1:=V;have hi:a.at'=i:=hi;rcases X.ok with e | ⟨_,e1,e2⟩
    ·omega
    ·rw[q.vw i (by omega)]; exact Int.le_refl _
   ·obtain⟨eg,aT⟩:=q.step E X;subst eg;refine λh F R c T A=>bC.2 (FN (hZ.le l) (h2.le l) hc ?_ c T λZ u N h' c' ok=>?_)
    ·unfold exec;have w0:Ww W0:=⟨⟨by decide,by decide⟩,⟨by decide,by decide⟩,⟨by decide,by decide⟩⟩;split
     ·exact q.ww _
     ·split
      ·exact w0
      ·split
       ·split
        ·exact q.ww _
        ·exact q.ww _
       ·exact w0
    ·exact A Z _ _ u N h' c' ⟨rfl,aT,U.step E,rfl,rfl,ok⟩
   ·obtain⟨q1,q2,q3,q4,q5,q6⟩:=hq;subst q1 q4 q5;refine A w' (cO K (exec M a).2,(exec M a).1,k') u N h' c' ⟨hZ.le (Bs.aJ _ _),O,Z,s',gs++[(exec M a).2],b+1,aS,q6,q2,q3,by dsimp only; omega,by rw[List.length_append,List.length_singleton]; dsimp only; omega,he⟩ (Nat.lt_succ_self _)
 ·obtain⟨_,m,v,sp,gs,b,h1,h2,q,U,_⟩:=H;refine cT.2 (wL (z:=1) (n:=512) (b:=b) b0 h1 U (by decide) (by simp) (by decide) (.inl λt ht e=>?_) A);obtain rfl:t=1:=by omega
  exact⟨_,_,rfl,rfl,.inr G⟩
 ·obtain⟨_,m,v,sp,gs,b,h1,h2,q,U,V,h6,J⟩:=H;obtain⟨⟨K,a,d⟩,M,n⟩:=s;have hz:n=0:=hz;subst hz;have J:Ends post 0 (K,a,d) M:=J;cases J with
  | done=>rfl
end
section
variable {opss:List (List iZ)} {us:List SH} {vo:Value} {w:SH} {np:Nat}
def Gy (E:B.p h) (hv:On B λh=>Sl EH1 h vo us) (hl:us.length=opss.length) (ho:∀(i:Nat) u ops,us[i]?=some u->opss[i]?=some ops->nE B u ops) (hw:∀h,B.p h->B5 (aK w)=some (.int .i64 np))
  (H:∀b,(b=false->opss.length<=3/\(∀ops∈opss,ops.length<=8)/\np<=400)->∀h',Gr h h'->R (.bool b) h'):gG.1 vo (aK w) h R:=by
 dsimp only[gG,dL];have c:=Cx.aB h;refine wA.by (λ(i:Nat) x z h'=>z=.int .i64 i/\i<=opss.length/\i<=4/\(∃y:Int,x=.int .i64 y)/\(∀ops∈opss.take i,ops.length<=8)/\Cx (λ_=>False) h h' []) (λi=>4 - i) 0 ⟨rfl,Nat.zero_le _,by decide,⟨0,rfl⟩,(λops h=>by simp at h),c⟩ ?_;rintro i _ _ iF ⟨rfl,hi,iN,⟨y,rfl⟩,q,c⟩ again G;refine m3.at (λv h'=>v=.bool (decide (i<opss.length/\i<4))/\Cx (λ_=>False) h h' []) ?_ ?_
 ·refine vx (hv _ (B.up E c.gr)).ln<|vx aV<|dW (λU=>?_) λU=>?_
  ·refine vx aV ?_;first | exact⟨congrArg Value.bool (decide_eq_decide.2 ⟨λe=>⟨by omega,by omega⟩,λe=>by omega⟩),c⟩| exact⟨by rw[decide_eq_false (show ¬(i<opss.length/\i<4) by omega)],c⟩
  ·first | exact⟨congrArg Value.bool (decide_eq_decide.2 ⟨λe=>⟨by omega,by omega⟩,λe=>by omega⟩),c⟩| exact⟨by rw[decide_eq_false (show ¬(i<opss.length/\i<4) by omega)],c⟩
 ·rintro _ h7 ⟨rfl,c⟩;replace c:=c.n0;refine dW (λV=>?_) λV=>?_
  ·have Q:=List.getElem?_eq_getElem (l:=us) (i:=i) (by omega);have X:=List.getElem?_eq_getElem (l:=opss) (i:=i) (by omega);have K:opss.take (i+1)=opss.take i++[opss[i]'(by omega)]:=by rw[List.take_add_one,X]; rfl
   generalize us[i]'(by omega)=u at Q;generalize opss[i]'(by omega)=ops at X K;have Z:=ho i u ops Q X;refine(hv _ (B.up E c.gr)).one rfl Q rfl (u:=aK u) rfl ?_;refine vx (Z.ln (B.up E c.gr))<|vx eY<|dW (λaS=>?_) λaS=>?_
   ·exact H true (λh=>by cases h) _ c.gr
   ·refine(hv _ (B.up E c.gr)).one rfl Q rfl (u:=aK u) rfl ?_;refine vx (Z.ln (B.up E c.gr)) ?_;obtain⟨M,a1,a2,a3⟩:=Z;refine wA.by (λ(j:Nat) x z h'=>z=.int .i64 j/\j<=ops.length/\(∃y:Int,x=.int .i64 y)/\Cx (λ_=>False) h h' []) (λj=>ops.length - j) 0 ⟨rfl,Nat.zero_le _,⟨_,rfl⟩,c⟩ ?_;rintro j _ _ iS ⟨rfl,hj,⟨y2,rfl⟩,c⟩ T A;refine vx aV<|dW (λaT=>?_) λaT=>?_
    ·have J:=List.getElem?_eq_getElem (l:=M) (i:=j) (by omega);have N:=List.getElem?_eq_getElem (l:=ops) (i:=j) (by omega);generalize M[j]'(by omega)=e2 at J;generalize ops[j]'(by omega)=o at N;obtain⟨d2,p2⟩:=e2;have bY:=(a3 j _ o J N).2;refine(a1 _ (B.up E c.gr)).whole rfl J rfl ?_;refine c.v2 λ_ _ c=>?_;refine c.w2 0 λ_ c=>?_;refine aE<|c.rc 0 ?_;exact vx (bY _ (B.up E c.gr)).ln<|vx (hU _ _)<|vx (hU _ _)<|vx (inc (by omega))<|A (j+1) _ _ _ ⟨rfl,by omega,⟨_,rfl⟩,c.pick []⟩ (by omega)
    ·refine vx (inc (by omega))<|G (i+1) _ _ _ ⟨rfl,by omega,by omega,⟨_,rfl⟩,λO h=>?_,c⟩ (by omega);rw[K] at h;rcases List.mem_append.1 h with h | h
     ·exact q O h
     ·rw[List.mem_singleton] at h;subst h;omega
  ·refine .here<|vx (hv _ (B.up E c.gr)).ln<|vx eY<|dW (λdO=>?_) λdO=>?_
   ·first | exact H true (λh=>by cases h) _ c.gr | exact H _ (λe=>⟨by omega,(λops h=>q ops (by rw[List.take_of_length_le (by omega)]; exact h)),by have:=of_decide_eq_false e; omega⟩) _ c.gr
   ·refine vx eY<|dW (λeQ=>?_) λeQ=>?_
    ·first | exact H true (λh=>by cases h) _ c.gr | exact H _ (λe=>⟨by omega,(λops h=>q ops (by rw[List.take_of_length_le (by omega)]; exact h)),by have:=of_decide_eq_false e; omega⟩) _ c.gr
    ·refine vx (hw _ (B.up E c.gr))<|vx eY ?_;first | exact H true (λh=>by cases h) _ c.gr | exact H _ (λe=>⟨by omega,(λops h=>q ops (by rw[List.take_of_length_le (by omega)]; exact h)),by have:=of_decide_eq_false e; omega⟩) _ c.gr
end
def NJ.make {post:Cn->(Nat->W3)->Prop} {du:Bool} {u:SH} {ops:List iZ} {q:List Tk} {M:List aX} {w:WV} {ws:List W3} {G:Nat->W3} {k:Nat} (A:KY (qC du [ops]) B (sZ du [u]) q M) (E:yo B 3 w (Mj.new 3 ws) q [[]] [false]) (X:q.length=1) (hw:M.length=1) (N:BW G ws) (Z:∀i,Ww (G i)) (he:Ends post k (cO (yW du 0 ops) kq) G) (hk:k<=700000) :
  ∃W,M=[W]/\NJ post B W w (cO (yW du 0 ops) kq,G,k):=by
 obtain⟨tk,rfl⟩:=List.length_eq_one_iff.1 X;obtain⟨W,rfl⟩:=List.length_eq_one_iff.1 hw;refine⟨W,rfl,?_⟩;obtain⟨a,cc,H,q2,⟨J,K,p2,Q,U⟩,q4,V⟩:=A 0 tk W rfl rfl;obtain⟨tt,tv,td,ta,ts⟩:=tk;dsimp only at q2 Q U q4 V;have K:some ops=some J:=K;injection K with K;subst K p2 Q V;have O:=q4;clear q4;have H:some (89,wy (Sq du 0 u))=some cc:=H;injection H with H;subst H q2;have kk:=xP.new (T:=3) (ws:=ws) (by decide) (by rw[N.len]; decide);rw[N.len] at kk;refine⟨_,tv,(none,0,0),[],1,?_,U,SV.new N Z,kk,by dsimp only; omega,by dsimp only[List.length_nil]; omega,he⟩;rw[O] at E;exact E
section
variable {post:Cn->(Nat->W3)->Prop}
def Ro:List Pt:=[⟨0,-1,true⟩,⟨1,1,true⟩]
def Ht:List iZ:=[⟨1,Ro⟩]
def Gk (H:Zs h) (hk:MM (yW false 0 Ht) kq) (he:Ends (λ_ M=>M 56=⟨4,1,0⟩/\M 57=⟨1,1,0⟩) 500 (cO (yW false 0 Ht) kq) (sK [5,0] 2)) (hG:∀i,Ww (sK [5,0] 2 i))
  (hR:∀h',Gr h h'->R (.bool true) h'):kE.1 h R:=by
 have c:=Cx.aB h;refine c.Su EI8 [5,0] [.int .i8 5,.int .i8 0] rfl rfl rfl (λu hu=>by simp only[List.mem_cons,List.not_mem_nil,or_false] at hu; rcases hu with rfl | rfl <;> rfl) rfl λad _ c=>?_;obtain⟨uf,aS⟩:∃u:SH,aK u=.slice (some ad) 2 2:=⟨(some ad,2,2),rfl⟩;rw[<-aS] at c⊢;replace c:=c.n1;refine vx (aG (ds:=[_,_,_]) rfl)<|vx (aG (ds:=[_,_,_]) rfl)<|c.Su wz Ro [.agg ⟨wz.c ⟨0,-1,true⟩⟩,.agg ⟨wz.c ⟨1,1,true⟩⟩] rfl rfl rfl (λu hu=>by simp only[List.mem_cons,List.not_mem_nil,or_false] at hu; rcases hu with rfl | rfl <;> rfl) rfl λO _ c=>?_;obtain⟨up,aT⟩:∃u:SH,aK u=.slice (some O) 2 2:=⟨(some O,2,2),rfl⟩;rw[<-aT] at c⊢;replace c:=c.n2;refine vx (aG (ds:=[_,_]) rfl)<|c.dN J8 (1,up) rfl rfl λlA _ c=>?_;obtain⟨J,rfl⟩:=(c.sl (i:=2) rfl).ol;replace c:=c.n3;refine c.dN EH1 J rfl rfl λtJ _ c=>?_;obtain⟨ul,rfl⟩:=(c.sl (i:=3) rfl).ol;replace c:=c.n4;have c:=Cx.pack (L:=[]) (M:=[bJ EI8 (aK uf) [5,0],bJ wz (aK up) Ro,bJ J8 (aK J) [((1:Int),up)],bJ EH1 (aK ul) [J]]) c;generalize Z:[bJ EI8 (aK uf) [5,0],bJ wz (aK up) Ro,bJ J8 (aK J) [((1:Int),up)],bJ EH1 (aK ul) [J]]=A at c;have b1:((Bs.of h).and A).p _:=⟨c.gr,c.get (i:=0) rfl⟩;have Q:nE ((Bs.of h).and A) J Ht:=⟨[((1:Int),up)],by rw[<-Z]; exact On.sl (i:=2) rfl,rfl,λi a o h1 h2=>by
  have hi:=(List.getElem?_eq_some_iff.1 h1).1;obtain rfl:i=0:=by simp at hi; exact hi
  simp only[List.getElem?_cons_zero,Option.some.injEq,Ht] at h1 h2;subst h1 h2;exact⟨rfl,by rw[<-Z]; exact On.sl (i:=1) rfl⟩⟩
 refine gT.2 (A7 (B:=(Bs.of h).and A) (first:=[5,0]) (du:=false) (us:=[J]) (opss:=[Ht]) b1 (λh' b=>H.gr b.1) (by rw[<-Z]; exact On.sl (i:=0) rfl) (by decide) (by decide) (by rw[<-Z]; exact On.sl (i:=3) rfl) (show 1<=3 by decide) rfl (λi u ops h1 h2=>by
  have hi:=(List.getElem?_eq_some_iff.1 h1).1;obtain rfl:i=0:=by simp at hi; exact hi
  simp only[List.getElem?_cons_zero,Option.some.injEq] at h1 h2;subst h1 h2;exact Q) (λi ops h2=>by
  have hi:=(List.getElem?_eq_some_iff.1 h2).1;obtain rfl:i=0:=by simp at hi; exact hi
  simp only[List.getElem?_cons_zero,Option.some.injEq] at h2;subst h2;exact hk) λws w iF Ws M _ hF ht hw d T bY=>?_)
 have c:=c.aF d;obtain⟨W,rfl,hS⟩:=NJ.make (k:=500) T bY ht hw hF hG he (by decide);have c:=Cx.unpack (L:=[_,_]) c;have c:=Cx.pack (L:=[_]) (M:=[aD A,aD M]) (c.pick [2,0,1]);replace c:=c.n2;refine vx rfl<|vx (v:=.bool true) (rfl)<|c.v9 λU _ c=>?_;refine c.w9 2 λ_ c=>?_;refine c.rl 2 ?_;obtain⟨F',d',hM,dO⟩:=c.Bu (B:=Bs.of h) (i:=0) (j:=1) (λiN g=>g) rfl rfl (by decide);refine kz.2 (PW (k:=500) (B:=(Bs.of h).and [aD A,aD M]) (λh' b=>H.gr b.1) (by decide) d' hM (hS.le Bs.Ay) (Nat.le_refl _) λw' s' W' N _ dd eQ hd=>?_);have c:=dO dd;obtain⟨m,v,sp,gs,b,q,iS,V,E,oF,oR,K⟩:=eQ;have G:s'.2.1 56=⟨4,1,0⟩/\s'.2.1 57=⟨1,1,0⟩:=by
  obtain⟨⟨cn,a,d⟩,M',n⟩:=s';have hd:d=true:=hd;subst hd;have K:Ends (λ_ M=>M 56=⟨4,1,0⟩/\M 57=⟨1,1,0⟩) n (cn,a,true) M':=K;cases K with
  | done hp=>exact hp
 have t56:=(V.top 56 (by decide)).trans G.1;have t57:=(V.top 57 (by decide)).trans G.2;replace c:=c.n4;refine vx rfl<|vx (v:=.bool true) (rfl)<|c.v9 λX _ c=>?_;refine c.w9 4 λ_ c=>?_;refine m3.at (λv h'=>∃ra,v=bE ra/\Cx (λ_=>False) h h' [W',aD [aD A,aD M],rV U (HU w),aD N,rV X (HU w'),rV ra (cW ⟨4,1,0⟩)]) ?_ ?_
 ·refine aE<|vx (c.vp (i:=4) (ds:=[_,_,_,_,_,_,_]) rfl rfl rfl)<|⟨?_,?_⟩
  ·refine tP λ_ g=>?_;have c:=c.more g;refine And.intro (c.vp (i:=4) (ds:=[_,_,_,_,_,_,_]) rfl rfl rfl) ?_;refine⟨?_,?_⟩
   ·refine gO (i:=0) _ _ (H.gr c.gr) λ_ g=>?_;have c:=c.more g;rw[show nJ 0=((56:Nat):Int) from rfl];refine And.intro (c.vp (i:=4) (ds:=[_,_,_,_,_,_,_]) rfl rfl rfl) ?_;refine⟨?_,?_⟩
    ·refine(nf (B:=((Bs.of h).and [aD A,aD M]).and N) (v:=w'.m) ⟨⟨c.gr,c.get (i:=1) rfl⟩,c.get (i:=3) rfl⟩ q.ko.ko (E.kk q.ko) (by omega) (i:=56) (by decide) λ_ g=>?_);have c:=c.more g;rw[show(q.ko.mc.me.top 56).w=⟨4,1,0⟩ from t56];refine vx rfl<|vx rfl<|c.v3 λ_ _ c=>?_;refine c.w3 5 λ_ c=>?_;exact⟨_,rfl,c.pick [0,1,2,3,4,5]⟩
    ·refine c.v3 λ_ _ c=>?_;refine And.intro (c.vp (i:=4) (ds:=[_,_,_,_,_,_,_]) rfl rfl rfl) ?_;refine(nf (B:=((Bs.of h).and [aD A,aD M]).and N) (v:=w'.m) ⟨⟨c.gr,c.get (i:=1) rfl⟩,c.get (i:=3) rfl⟩ q.ko.ko (E.kk q.ko) (by omega) (i:=56) (by decide) λ_ g=>?_);have c:=c.more g;rw[show(q.ko.mc.me.top 56).w=⟨4,1,0⟩ from t56];refine vx rfl<|vx rfl<|c.w3 5 λ_ c=>?_;exact⟨_,rfl,c.pick [0,1,2,3,4,5]⟩
   ·refine c.v3 λ_ _ c=>?_;refine And.intro (c.vp (i:=4) (ds:=[_,_,_,_,_,_,_]) rfl rfl rfl) ?_;refine gO (i:=0) _ _ (H.gr c.gr) λ_ g=>?_;have c:=c.more g;rw[show nJ 0=((56:Nat):Int) from rfl];refine And.intro (c.vp (i:=4) (ds:=[_,_,_,_,_,_,_]) rfl rfl rfl) ?_;refine(nf (B:=((Bs.of h).and [aD A,aD M]).and N) (v:=w'.m) ⟨⟨c.gr,c.get (i:=1) rfl⟩,c.get (i:=3) rfl⟩ q.ko.ko (E.kk q.ko) (by omega) (i:=56) (by decide) λ_ g=>?_);have c:=c.more g;rw[show(q.ko.mc.me.top 56).w=⟨4,1,0⟩ from t56];refine vx rfl<|vx rfl<|c.w3 5 λ_ c=>?_;exact⟨_,rfl,c.pick [0,1,2,3,4,5]⟩
  ·refine c.v3 λ_ _ c=>?_;refine And.intro (c.vp (i:=4) (ds:=[_,_,_,_,_,_,_]) rfl rfl rfl) ?_;refine tP λ_ g=>?_;have c:=c.more g;refine And.intro (c.vp (i:=4) (ds:=[_,_,_,_,_,_,_]) rfl rfl rfl) ?_;refine gO (i:=0) _ _ (H.gr c.gr) λ_ g=>?_;have c:=c.more g;rw[show nJ 0=((56:Nat):Int) from rfl];refine And.intro (c.vp (i:=4) (ds:=[_,_,_,_,_,_,_]) rfl rfl rfl) ?_;refine(nf (B:=((Bs.of h).and [aD A,aD M]).and N) (v:=w'.m) ⟨⟨c.gr,c.get (i:=1) rfl⟩,c.get (i:=3) rfl⟩ q.ko.ko (E.kk q.ko) (by omega) (i:=56) (by decide) λ_ g=>?_);have c:=c.more g;rw[show(q.ko.mc.me.top 56).w=⟨4,1,0⟩ from t56];refine vx rfl<|vx rfl<|c.w3 5 λ_ c=>?_;exact⟨_,rfl,c.pick [0,1,2,3,4,5]⟩
 ·rintro _ rW ⟨ra,rfl,c⟩;replace c:=c.n6;refine m3.at (λv h'=>∃rb,v=bE rb/\Cx (λ_=>False) h h' [W',aD [aD A,aD M],rV U (HU w),aD N,rV X (HU w'),rV ra (cW ⟨4,1,0⟩),rV rb (cW ⟨1,1,0⟩)]) ?_ ?_
  ·refine aE<|vx (c.vp (i:=4) (ds:=[_,_,_,_,_,_,_]) rfl rfl rfl)<|⟨?_,?_⟩
   ·refine tP λ_ g=>?_;have c:=c.more g;refine And.intro (c.vp (i:=4) (ds:=[_,_,_,_,_,_,_]) rfl rfl rfl) ?_;refine⟨?_,?_⟩
    ·refine gO (i:=1) _ _ (H.gr c.gr) λ_ g=>?_;have c:=c.more g;rw[show nJ 1=((57:Nat):Int) from rfl];refine And.intro (c.vp (i:=4) (ds:=[_,_,_,_,_,_,_]) rfl rfl rfl) ?_;refine⟨?_,?_⟩
     ·refine(nf (B:=((Bs.of h).and [aD A,aD M]).and N) (v:=w'.m) ⟨⟨c.gr,c.get (i:=1) rfl⟩,c.get (i:=3) rfl⟩ q.ko.ko (E.kk q.ko) (by omega) (i:=57) (by decide) λ_ g=>?_);have c:=c.more g;rw[show(q.ko.mc.me.top 57).w=⟨1,1,0⟩ from t57];refine vx rfl<|vx rfl<|c.v3 λ_ _ c=>?_;refine c.w3 6 λ_ c=>?_;exact⟨_,rfl,c.pick [0,1,2,3,4,5,6]⟩
     ·refine c.v3 λ_ _ c=>?_;refine And.intro (c.vp (i:=4) (ds:=[_,_,_,_,_,_,_]) rfl rfl rfl) ?_;refine(nf (B:=((Bs.of h).and [aD A,aD M]).and N) (v:=w'.m) ⟨⟨c.gr,c.get (i:=1) rfl⟩,c.get (i:=3) rfl⟩ q.ko.ko (E.kk q.ko) (by omega) (i:=57) (by decide) λ_ g=>?_);have c:=c.more g;rw[show(q.ko.mc.me.top 57).w=⟨1,1,0⟩ from t57];refine vx rfl<|vx rfl<|c.w3 6 λ_ c=>?_;exact⟨_,rfl,c.pick [0,1,2,3,4,5,6]⟩
    ·refine c.v3 λ_ _ c=>?_;refine And.intro (c.vp (i:=4) (ds:=[_,_,_,_,_,_,_]) rfl rfl rfl) ?_;refine gO (i:=1) _ _ (H.gr c.gr) λ_ g=>?_;have c:=c.more g;rw[show nJ 1=((57:Nat):Int) from rfl];refine And.intro (c.vp (i:=4) (ds:=[_,_,_,_,_,_,_]) rfl rfl rfl) ?_;refine(nf (B:=((Bs.of h).and [aD A,aD M]).and N) (v:=w'.m) ⟨⟨c.gr,c.get (i:=1) rfl⟩,c.get (i:=3) rfl⟩ q.ko.ko (E.kk q.ko) (by omega) (i:=57) (by decide) λ_ g=>?_);have c:=c.more g;rw[show(q.ko.mc.me.top 57).w=⟨1,1,0⟩ from t57];refine vx rfl<|vx rfl<|c.w3 6 λ_ c=>?_;exact⟨_,rfl,c.pick [0,1,2,3,4,5,6]⟩
   ·refine c.v3 λ_ _ c=>?_;refine And.intro (c.vp (i:=4) (ds:=[_,_,_,_,_,_,_]) rfl rfl rfl) ?_;refine tP λ_ g=>?_;have c:=c.more g;refine And.intro (c.vp (i:=4) (ds:=[_,_,_,_,_,_,_]) rfl rfl rfl) ?_;refine gO (i:=1) _ _ (H.gr c.gr) λ_ g=>?_;have c:=c.more g;rw[show nJ 1=((57:Nat):Int) from rfl];refine And.intro (c.vp (i:=4) (ds:=[_,_,_,_,_,_,_]) rfl rfl rfl) ?_;refine(nf (B:=((Bs.of h).and [aD A,aD M]).and N) (v:=w'.m) ⟨⟨c.gr,c.get (i:=1) rfl⟩,c.get (i:=3) rfl⟩ q.ko.ko (E.kk q.ko) (by omega) (i:=57) (by decide) λ_ g=>?_);have c:=c.more g;rw[show(q.ko.mc.me.top 57).w=⟨1,1,0⟩ from t57];refine vx rfl<|vx rfl<|c.w3 6 λ_ c=>?_;exact⟨_,rfl,c.pick [0,1,2,3,4,5,6]⟩
  ·rintro _ tO ⟨rb,rfl,c⟩;replace c:=c.n7;refine .here<|bU<|bU<|c.rl 5 ?_;refine vx (aG (ds:=[_,_,_]) rfl)<|vx (E1 rfl)<|bU<|c.rl 6 ?_;exact vx (aG (ds:=[_,_,_]) rfl)<|vx (E1 rfl)<|hR _ c.gr
end
section
variable {W:aX} {T n b t:Nat} {w:WV} {m:Mj} {tks:List Tk} {gss:List (List cP)} {sts:List Bool} {tk:Tk} {gs:List cP} {z:Int}
def OJ (u:B.p h) (H:yo B T w m tks gss sts) (G:tks.length<=8) (J:1<=t) (A:t<=tks.length) (E:∀w',Rt B h (λB=>yo B T w' m tks gss (sts.set (t - 1) true)) λh'=>R (rX w') h'):oL.1 (rX w) (.int .i64 t) h R:=by
 have q:=H.sl;have et:((t:Nat):Int) - 1=((t - 1:Nat):Int):=by omega
 have c:=Cx.aB h;refine c.v9 λ_ _ c=>?_;refine c.v9 λ_ _ c=>?_;refine aE<|c.rc 0 ?_;refine vx (H.ts _ (B.up u c.gr)).ln ?_;rw[show((tks.length:Nat):Int)=((sts.length:Nat):Int) by rw[q]];refine c.zq O5 false rfl rfl rfl (by omega) (by decide) λa _ c=>?_;replace c:=c.n3;refine aE<|c.rc 0 ?_;refine c.CC 2 rfl (H.st _ (B.up u c.gr)) (by rw[List.length_replicate]) rfl λ_ c=>?_;replace c:=c.n3;refine vx (fT ⟨by omega,by omega⟩) ?_;rw[et];refine c.wX 2 rfl (j:=t - 1) (by omega) true rfl rfl rfl λ_ c=>?_;replace c:=c.n3;refine aE<|c.q9 0 λ_ c=>?_;refine c.rl 0 ?_;refine c.w9 1 λ_ c=>?_;refine c.rl 1 ?_;exact E ⟨w.m,w.ts,(some a,sts.length,sts.length)⟩ [bJ O5 (aK (some a,sts.length,sts.length)) (sts.set (t - 1) true)] _ (Cx.pack (L:=[]) (c.pick [2])) ⟨H.ko.le (Bs.aJ _ _),H.ts.le (Bs.aJ _ _),On.sl (i:=0) rfl,by rw[List.length_set]; exact q,H.gl,λi tk gs h1 h2=>(H.gs i tk gs h1 h2).le (Bs.aJ _ _)⟩
def DG (q:B.p h) (H:yo B T w m tks gss sts) (k:xP T n b m) (G:1<=T) (u:tks.length<=8) (A:1<=t) (E:tks[t - 1]?=some tk) (hs:sts[t - 1]?=some false) (J:tk.dn=false) {ch:Int} (K:∀w',Rt B h (λB=>yo B T w' m tks gss (sts.set (t - 1) true)) λh'=>R (.tuple #[rX w',.bool true]) h'):cT.1 (rX w) (Py 1 t ch) h R:=by
 have N:=(List.getElem?_eq_some_iff.1 E).1;have c:=Cx.aB h;refine c.v9 λ_ _ c=>?_;refine c.v3 λ_ _ c=>?_;refine c.v9 λ_ _ c=>?_;refine .here<|c.rl 0 ?_;refine fU.2 (yp (w:=w) (B.up q c.gr) H k G λ_ g=>?_);have c:=c.more g;refine aN<|aE<|c.rc 1 ?_;refine vx (v:=.bool false) rfl<|aN<|c.rl 0 ?_;refine aE<|c.rc 1 ?_;refine dB.2 (vk (B.up q c.gr) H u A E hs λ_ g=>?_);rw[J];have c:=c.more g;refine vx (v:=.bool false) (rfl)<|aN<|aE<|c.rc 1 ?_;refine vx (v:=.bool false) rfl<|aN<|aE<|c.rc 1 ?_;refine vx (v:=.bool true) rfl<|bU<|c.rl 0 ?_;refine aE<|c.rc 1 ?_;refine oL.2 (OJ (B.up q c.gr) H u A (by omega) λw' M _ d ok=>?_);have c:=c.aF d;replace c:=c.n4;refine c.w9 2 λ_ c=>?_;refine c.rl 2 ?_;exact K w' M _ (c.pick [3]) ok
def Gn (q:B.p h) (H:yo B T w m tks gss sts) (k:xP T n b m) (u:1<=T) (A:tks.length<=8) (E:1<=t) (G:tks[t - 1]?=some tk) (hs:sts[t - 1]?=some false) (J:tk.dn=false) {kd:Int} (h0:¬kd=0) (h1:¬kd=1) (h2:¬kd=2) {ch:Int} (K:∀h',Gr h h'->R (.tuple #[rX w,.bool false]) h'):cT.1 (rX w) (Py kd t ch) h R:=by
 have c:=Cx.aB h;refine c.v9 λ_ _ c=>?_;refine c.v3 λ_ _ c=>?_;refine c.v9 λ_ _ c=>?_;refine .here<|c.rl 0 ?_;refine fU.2 (yp (w:=w) (B.up q c.gr) H k u λ_ g=>?_);have c:=c.more g;refine aN<|aE<|c.rc 1 ?_;refine vx (fG h2)<|aN<|c.rl 0 ?_;refine aE<|c.rc 1 ?_;refine dB.2 (vk (B.up q c.gr) H A E G hs λ_ g=>?_);rw[J];have c:=c.more g;refine vx (v:=.bool false) (rfl)<|aN<|aE<|c.rc 1 ?_;refine vx (fG h0)<|aN<|aE<|c.rc 1 ?_;refine vx (fG h1)<|aN<|c.rl 0 ?_;refine c.w9 2 λ_ c=>?_;refine c.rl 2 ?_;exact K _ c.gr
end
abbrev vD (who q st:Int) (e:SH):Value:=.agg #[.int .i64 who,.int .i64 q,.int .i64 st,aK e]
def Jz (who q:Int) (es:List Et):Bool:=decide (1<=q/\q<=16777215)&&(decide (eP es=0)&&(eC es&&(es.all (λe=>gX e.at')&&decide ((es.length:Int)<=cG who))))
section
variable {who q st:Int} {e:SH} {es:List Et} {a b:Et}
def QT (u:xB (a.at' - b.at')) (A:∀h',Gr h h'->R (.int .i64 (a.at' - b.at')) h'):m4.1 (vE a) (vE b) h R:=by
 have c:=Cx.aB h;refine c.v6 λ_ _ c=>?_;refine c.v6 λ_ _ c=>?_;refine aE<|c.rc 0 ?_;refine aE<|c.rc 1 ?_;exact vx (fT u)<|A _ c.gr
def kj:∀{who:Int},-1000<=who/\who<=1000->Pz 106 [vL,.int .i64 who] (.tuple #[.int .i64 (aC who),.int .i64 (cG who)]):=λhw h R Z k=>iI.2 (H9 Z hw k)
def Ls (T:Zs h) (hs:Sl EE h (aK e) es) (hw : -1000<=who/\who<=1000) (hm:¬cG who=0) (bY:0<=st/\st<=3) (hl:es.length<=40) (he:∀e∈es,(0<=e.at'/\e.at'<4096)/\Ww e.old) (u:∀z h',Gr h h'->decide (z=0)=Jz who q es->R (.int .i64 z) h'):oI.1 (vD who q st e) vL h R:=by
 unfold Jz at u;have c:=Cx.aB h;refine c.v4 λN _ c=>?_;refine c.v3 λO _ c=>?_;refine c.rl 1 ?_;refine cS _ _ (T.gr c.gr) λ_ g=>?_;have c:=c.more g;refine vx (v:=.bool false) rfl<|aN<|c.rl 1 ?_;refine aE<|c.rc 0 ?_;refine kj hw _ _ (T.gr c.gr) λ_ g=>?_;have c:=c.more g;refine vx rfl<|vx rfl<|vx (fG hm)<|aN<|m3.at (λv h'=>v=.bool (!decide (1<=q/\q<=16777215))/\Cx (λ_=>False) h h' [rV N [.int .i64 who,.int .i64 q,.int .i64 st,aK e],rV O [.int .i64 3,.int .i64 6,.int .i64 4]]) ?_ ?_
 ·refine aE<|c.rc 0 ?_;refine vx aV<|dW (λU=>?_) λU=>?_
  ·first | exact⟨by rw[decide_eq_false (show ¬(1<=q/\q<=16777215) by omega)]; rfl,c⟩| (refine⟨?_,c⟩; congr 1; by_cases x:q<=16777215; rw[decide_eq_false (show ¬16777215<q by omega),decide_eq_true (show 1<=q/\q<=16777215 by omega)]; rfl; rw[decide_eq_true (show 16777215<q by omega),decide_eq_false (show ¬(1<=q/\q<=16777215) by omega)]; rfl)
  ·refine aE<|c.rc 0 ?_;refine vx eY ?_;first | exact⟨by rw[decide_eq_false (show ¬(1<=q/\q<=16777215) by omega)]; rfl,c⟩| (refine⟨?_,c⟩; congr 1; by_cases x:q<=16777215; rw[decide_eq_false (show ¬16777215<q by omega),decide_eq_true (show 1<=q/\q<=16777215 by omega)]; rfl; rw[decide_eq_true (show 16777215<q by omega),decide_eq_false (show ¬(1<=q/\q<=16777215) by omega)]; rfl)
 ·rintro _ dO ⟨rfl,c⟩;replace c:=c.n2;refine En.br (λG=>?_) λG=>?_
  ·exact u 3 _ c.gr (by rw[show decide (1<=q/\q<=16777215)=false from by rw[<-Bool.not_eq_true']; exact G]; rfl)
  ·refine .here<|aE<|c.rc 0 ?_;refine vx (dA (by omega))<|aN<|aE<|c.rc 0 ?_;refine vx (ka (show ¬(3:Int)<st by omega))<|aN<|aE<|c.rc 0 ?_;rw[show decide (1<=q/\q<=16777215)=true from by rw[<-Bool.not_eq_false']; exact G,Bool.true_and] at u;refine rD (hs.gr c.gr) (λx H=>(he x H).2) (by omega) λ_ g=>?_;have c:=c.more g;refine vx dZ<|dW (λJ=>?_) λJ=>?_
   ·exact u _ _ c.gr (by rw[decide_eq_false J]; rfl)
   ·refine aE<|c.rc 0 ?_;rw[decide_eq_true (show eP es=0 from Classical.not_not.1 J),Bool.true_and] at u;refine zt (hs.gr c.gr) (λh' a b R g ha hb u=>.inl (.inl ⟨133,#[],#[],rfl,m4.2 (QT (by have:=(he a ha).1; have:=(he b hb).1; constructor <;> omega) u)⟩)) (by omega) λ_ g=>?_;have c:=c.more g;refine vx rfl<|En.br (λK=>?_) λK=>?_
    ·exact u 12 _ c.gr (by rw[show eC es=false from by simpa using K]; rfl)
    ·refine aE<|c.rc 0 ?_;rw[show eC es=true from by simpa using K,Bool.true_and] at u;refine vx (hs.gr c.gr).ln<|oP.by (λ(i:Nat) v h'=>v=.int .i64 i/\i<=es.length/\(∀y∈es.take i,(!gX y.at')=false)/\Cx (λ_=>False) h h' [rV N [.int .i64 who,.int .i64 q,.int .i64 st,aK e],rV O [.int .i64 3,.int .i64 6,.int .i64 4]]) (λi=>es.length - i) 0 ⟨rfl,Nat.zero_le _,(λy V=>by simp at V),c⟩ ?_;rintro i _ eQ ⟨rfl,hi,A,c⟩ again E;refine vx aV<|dW (λX=>?_) λX=>?_
     ·have H:=List.getElem?_eq_getElem (l:=es) (i:=i) (by omega);generalize es[i]'(by omega)=x at H;have Z:=he x (List.mem_of_getElem? H);have aS:=List.mem_of_getElem? H;have Q:=λhz=>zk (p:=λy:Et=>!gX y.at') H A hz;obtain⟨xa,⟨xv,xq,xr⟩,xn,xb⟩:=x;dsimp only at Z Q;refine(hs.gr c.gr).whole rfl H rfl ?_;refine c.v6 λ_ _ c=>?_;refine c.w6 2 λ_ c=>?_;refine c.rl 1 ?_;refine aE<|c.rc 2 ?_;refine iR (a:=xa) ⟨by omega,by omega⟩ _ _ (T.gr c.gr) λ_ g=>?_;have c:=c.more g;refine vx rfl<|En.br (λM=>?_) λM=>?_
      ·exact u 10 _ c.gr (by rw[show es.all (λe=>gX e.at')=false from List.all_eq_false.2 ⟨_,aS,by simpa using M⟩]; rfl)
      ·exact vx (inc (by omega))<|E (i+1) _ _ ⟨rfl,by omega,Q (by simpa using M),c.pick [0,1]⟩ (by omega)
     ·refine aE<|c.rc 0 ?_;obtain rfl:i=es.length:=by omega
      rw[List.take_length] at A;rw[show es.all (λe=>gX e.at')=true from List.all_eq_true.2 λy V=>by simpa using A y V,Bool.true_and] at u;refine vx (hs.gr c.gr).ln<|vx eY<|dW (λaT=>?_) λaT=>?_
      ·first | exact u 15 _ c.gr (by rw[decide_eq_false (show ¬((es.length:Nat):Int)<=cG who by omega)]; rfl) | exact u 0 _ c.gr (by rw[decide_eq_true (show((es.length:Nat):Int)<=cG who by omega)]; rfl)
      ·first | exact u 15 _ c.gr (by rw[decide_eq_false (show ¬((es.length:Nat):Int)<=cG who by omega)]; rfl) | exact u 0 _ c.gr (by rw[decide_eq_true (show((es.length:Nat):Int)<=cG who by omega)]; rfl)
end
def J0 (W:Int->W3) (p:Int):Nat->Nat->Option (List Et)
 | 0,_=>some []
 | n+1,i=>
  let a:=W (p+2+3*i); let b:=W (p+2+3*i+1); let c:=W (p+2+3*i+2);if Fe a b c=true then match J0 W p n (i+1) with
   | some l=>some (yh a b c::l)
   | none=>none
  else none
def Cu (W:Int->W3) (who:Int):Option (Int × Int × List Et):=
 let p:=aC who;let st:=W p;let q:=W (p+1);if cG who=0 then none
 else if st.v<0\/3<st.v\/¬st.ref=0\/q.v<1\/cG who<q.v\/¬q=⟨q.v,0,0⟩ then none
 else match J0 W p q.v.toNat 0 with
  | some es=>if Jz who st.aO es=true then some (st.v,st.aO,es) else none
  | none=>none
def zV (es:List Et) (c:Int):Option Et:=es.find? λe=>decide (e.at'=c)&&e.wr
def qZ (W:Int->W3) (c:Int):W3:=
 let x:=W c;if aZ x.ref=0 then⟨x.v,x.aO,0⟩
 else match Cu W (aZ x.ref) with
  | some (st,q,es)=>if q=lB x.ref/\st=1 then match zV es c with
   | some e=>⟨e.new,(x.aO+1) % 4294967296,0⟩
   | none=>⟨x.v,x.aO,0⟩
   else⟨x.v,x.aO,0⟩
  | none=>⟨x.v,x.aO,0⟩
def cV (ws:List W3) (p:Int):W3:=if 0<=p then ws.getD p.toNat W0 else W0
def yZ {ws:List W3} {p:Int} {x:W3} (h:0<=p) (q:ws[p.toNat]?=some x):cV ws p=x:=by
 unfold cV;rw[if_pos h,List.getD_eq_getElem?_getD,q]; rfl
def vN {ws:List W3} {p:Int} (h:0<=p/\p<ws.length):∃n:Nat,p=n/\n<ws.length/\ws[n]?=some (cV ws p):=by
 obtain⟨n,rfl⟩:∃n:Nat,p=n:=⟨p.toNat,by omega⟩;have q:=List.getElem?_eq_getElem (l:=ws) (i:=n) (by omega);exact⟨n,rfl,by omega,by rw[yZ (x:=ws[n]'(by omega)) h.1 (by rw[Int.toNat_natCast]; exact q)]; exact q⟩
def Lh {who:Int} (h:¬cG who=0):(64<=aC who/\aC who+2+3*cG who<=512)/\(cG who=10\/cG who=32):=by
 unfold cG aC eN cK at *
 (repeat' split at h) <;> (repeat' split) <;> omega
def MT {ws:List W3} {k:Nat} {a b c:W3} {r:List W3} (h:ws.drop k=a::b::c::r):ws[k]?=some a/\ws[k+1]?=some b/\ws[k+2]?=some c:=by
 have e:∀j:Nat,ws[k+j]?=(a::b::c::r)[j]?:=λj=>by rw[<-h,List.getElem?_drop]
 exact⟨e 0,e 1,e 2⟩
section
variable {who:Int} {vw:Value} {ws:List W3}
def Oy (V:Zs h) (hs:Sl EW h vw ws) (hl:ws.length=512) (hW:∀w∈ws,Ww w) (hw : -1000<=who/\who<=1000)
  (h1:∀st q es u h',Cu (cV ws) who=some (st,q,es)->Cx (λ_=>False) h h' [bJ EE (aK u) es]->R (.tuple #[vD who q st u,.int .i64 0]) h')
  (h0:∀z h',Cu (cV ws) who=none->¬z=0->Gr h h'->R (.tuple #[vD 0 0 0 (none,0,0),.int .i64 z]) h'):oT.1 vL vw (.int .i64 who) h R:=by
 by_cases hm:cG who=0
 ·have hn:Cu (cV ws) who=none:=by unfold Cu; dsimp only; rw[if_pos hm]
  have c:=Cx.aB h;refine c.v3 λ_ _ c=>?_;refine c.v4 λ_ _ c=>?_;refine .here<|c.rl 0 ?_;refine cS _ _ (V.gr c.gr) λ_ g=>?_;have c:=c.more g;refine vx (v:=.bool false) rfl<|aN<|vx (hs.gr c.gr).ln<|c.rl 0 ?_;refine qY _ _ (V.gr c.gr) λ_ g=>?_;have c:=c.more g;refine vx (dA (by omega))<|aN<|c.rl 0 ?_;refine kj hw _ _ (V.gr c.gr) λ_ g=>?_;have c:=c.more g;refine vx rfl<|vx rfl<|vx (jO hm)<|bU<|vx (aG (ds:=[_,_,_,_]) rfl)<|c.w4 1 λ_ c=>?_;refine c.rl 1 ?_;exact h0 3 _ hn (by decide) c.gr
 have hp:=Lh hm;obtain⟨p,ep,hp1,hx⟩:=vN (ws:=ws) (p:=aC who) (by omega);obtain⟨p2,iN,hp2,hy⟩:=vN (ws:=ws) (p:=aC who+1) (by omega);have bY:=hW _ (List.mem_of_getElem? hx);have iS:=hW _ (List.mem_of_getElem? hy);have E:Cu (cV ws) who=if (cV ws (aC who)).v<0\/3<(cV ws (aC who)).v\/¬(cV ws (aC who)).ref=0\/(cV ws (aC who+1)).v<1\/cG who<(cV ws (aC who+1)).v\/¬(cV ws (aC who+1))=⟨(cV ws (aC who+1)).v,0,0⟩ then none
   else match J0 (cV ws) (aC who) (cV ws (aC who+1)).v.toNat 0 with
    | some es=>if Jz who (cV ws (aC who)).aO es=true then some ((cV ws (aC who)).v,(cV ws (aC who)).aO,es) else none
    | none=>none:=by unfold Cu; dsimp only; rw[if_neg hm]
 generalize cV ws (aC who)=st at hx bY E;generalize cV ws (aC who+1)=A at hy iS E;obtain⟨rA,oA,eA,dO,_⟩:=hs.ix hx (n:=3) rfl (k:=.i64) (z:=aC who) ep;obtain⟨rB,oB,eB,Ko,_⟩:=hs.ix hy (n:=3) rfl (k:=.i64) (z:=aC who+1) iN;have K:∀{h'},Gr h h'->aP 3 (.pointer (some ⟨rA,oA,none⟩)) h'=some (mW st):=λg=>(dO.ch g λe=>e).aP rfl;have G:∀{h'},Gr h h'->aP 3 (.pointer (some ⟨rB,oB,none⟩)) h'=some (mW A):=λg=>(Ko.ch g λe=>e).aP rfl;have c:=Cx.aB h;refine c.v3 λX _ c=>?_;refine c.v4 λZ _ c=>?_;refine .here<|c.rl 0 ?_;refine cS _ _ (V.gr c.gr) λ_ g=>?_;have c:=c.more g;refine vx (v:=.bool false) rfl<|aN<|vx (hs.gr c.gr).ln<|c.rl 0 ?_;refine qY _ _ (V.gr c.gr) λ_ g=>?_;have c:=c.more g;refine vx (dA (by omega))<|aN<|c.rl 0 ?_;refine kj hw _ _ (V.gr c.gr) λ_ g=>?_;have c:=c.more g;refine vx rfl<|vx rfl<|vx (fG hm)<|aN<|Du.at (λx y h'=>∃r1 r2,x=bE r1/\y=bE r2/\Cx (λ_=>False) h h' [rV X [.int .i64 3,.int .i64 6,.int .i64 4],rV Z [.int .i64 0,.int .i64 0,.int .i64 0,.slice none 0 0],rV r1 (cW st),rV r2 (cW A)]) ?_ ?_
 ·refine vx eA<|vx (K c.gr)<|vx (iQ ⟨by omega,by omega⟩)<|vx eB<|vx (G c.gr)<|⟨?_,?_⟩
  ·refine c.v3 λ_ _ c=>?_;refine And.intro (G c.gr) ?_;refine And.intro (K c.gr) ?_;refine c.v3 λ_ _ c=>?_;refine And.intro (G c.gr) ?_;refine And.intro (K c.gr) ?_;refine c.w3 2 λ_ c=>?_;refine And.intro (G c.gr) ?_;refine c.w3 3 λ_ c=>?_;first | exact⟨_,_,rfl,rfl,c⟩| exact⟨_,_,rfl,rfl,c.pick [0,1,3,2]⟩
  ·refine c.v3 λ_ _ c=>?_;refine And.intro (G c.gr) ?_;refine And.intro (K c.gr) ?_;refine c.v3 λ_ _ c=>?_;refine And.intro (G c.gr) ?_;refine And.intro (K c.gr) ?_;refine c.w3 3 λ_ c=>?_;refine And.intro (G c.gr) ?_;refine c.w3 2 λ_ c=>?_;first | exact⟨_,_,rfl,rfl,c⟩| exact⟨_,_,rfl,rfl,c.pick [0,1,3,2]⟩
 ·rintro _ _ h7' ⟨r1,r2,rfl,rfl,c⟩;replace c:=c.n4;refine m3.at (λv h'=>v=.bool (decide (st.v<0\/3<st.v\/¬st.ref=0\/A.v<1\/cG who<A.v\/¬A=⟨A.v,0,0⟩))/\Cx (λ_=>False) h h' [rV X [.int .i64 3,.int .i64 6,.int .i64 4],rV Z [.int .i64 0,.int .i64 0,.int .i64 0,.slice none 0 0],rV r1 (cW st),rV r2 (cW A)]) ?_ ?_
  ·refine aE<|c.rc 2 ?_;refine vx aV<|dW (λoF=>?_) λoF=>?_
   ·first | exact⟨congrArg Value.bool (decide_eq_true (by omega)).symm,c⟩| exact⟨congrArg Value.bool (decide_eq_decide.2 ⟨λe=>.inr (.inr (.inr (.inr (.inr e)))),λe M=>by rcases e with e | e | e | e | e | e <;> first | exact e M | omega⟩),c⟩
   ·refine aE<|c.rc 2 ?_;refine vx eY<|dW (λoR=>?_) λoR=>?_
    ·first | exact⟨congrArg Value.bool (decide_eq_true (by omega)).symm,c⟩| exact⟨congrArg Value.bool (decide_eq_decide.2 ⟨λe=>.inr (.inr (.inr (.inr (.inr e)))),λe M=>by rcases e with e | e | e | e | e | e <;> first | exact e M | omega⟩),c⟩
    ·refine aE<|c.rc 2 ?_;refine vx dZ<|dW (λrW=>?_) λrW=>?_
     ·first | exact⟨congrArg Value.bool (decide_eq_true (by omega)).symm,c⟩| exact⟨congrArg Value.bool (decide_eq_decide.2 ⟨λe=>.inr (.inr (.inr (.inr (.inr e)))),λe M=>by rcases e with e | e | e | e | e | e <;> first | exact e M | omega⟩),c⟩
     ·refine aE<|c.rc 3 ?_;refine vx aV<|dW (λtO=>?_) λtO=>?_
      ·first | exact⟨congrArg Value.bool (decide_eq_true (by omega)).symm,c⟩| exact⟨congrArg Value.bool (decide_eq_decide.2 ⟨λe=>.inr (.inr (.inr (.inr (.inr e)))),λe M=>by rcases e with e | e | e | e | e | e <;> first | exact e M | omega⟩),c⟩
      ·refine aE<|c.rc 3 ?_;refine vx eY<|dW (λuS=>?_) λuS=>?_
       ·first | exact⟨congrArg Value.bool (decide_eq_true (by omega)).symm,c⟩| exact⟨congrArg Value.bool (decide_eq_decide.2 ⟨λe=>.inr (.inr (.inr (.inr (.inr e)))),λe M=>by rcases e with e | e | e | e | e | e <;> first | exact e M | omega⟩),c⟩
       ·refine c.rl 3 ?_;refine aE<|c.rc 3 ?_;refine vx (aG (ds:=[_,_,_]) rfl)<|vx (LG A ⟨A.v,0,0⟩) ?_;first | exact⟨congrArg Value.bool (decide_eq_true (by omega)).symm,c⟩| exact⟨congrArg Value.bool (decide_eq_decide.2 ⟨λe=>.inr (.inr (.inr (.inr (.inr e)))),λe M=>by rcases e with e | e | e | e | e | e <;> first | exact e M | omega⟩),c⟩
  ·rintro _ h8' ⟨rfl,c⟩;replace c:=c.n4;refine dW (λT=>?_) λT=>?_
   ·refine vx (aG (ds:=[_,_,_,_]) rfl)<|c.w4 1 λ_ c=>?_;refine c.rl 1 ?_;exact h0 5 _ (E.trans (if_pos T)) (by decide) c.gr
   ·refine aE<|c.rc 2 ?_;rw[if_neg T] at E;have hb:(0<=st.v/\st.v<=3)/\1<=A.v/\A.v<=cG who:=by omega
    clear T;have hsq:=bY.aO;refine vx (Nf (a:=st.aO) ⟨by omega,by omega⟩)<|aE<|c.rc 2 ?_;refine vx (aG (ds:=[_,_,_,_]) rfl)<|c.v4 λeQ _ c=>?_;refine c.w4 4 λ_ c=>?_;refine aE ?_;have hct:((A.v.toNat:Nat):Int)=A.v:=Int.toNat_of_nonneg (by omega);refine c.rc 3 ?_;refine oP.by (λ(z:Nat × List Et) v h'=>v=.int .i64 z.1/\z.1<=A.v.toNat/\z.2.length=z.1/\(∀e∈z.2,(0<=e.at'/\e.at'<4096)/\Ww e.old)/\J0 (cV ws) (aC who) A.v.toNat 0=(J0 (cV ws) (aC who) (A.v.toNat - z.1) z.1).map (z.2++·)/\∃u,Cx (λ_=>False) h h' [rV X [.int .i64 3,.int .i64 6,.int .i64 4],rV Z [.int .i64 0,.int .i64 0,.int .i64 0,.slice none 0 0],rV eQ [.int .i64 who,.int .i64 st.aO,.int .i64 st.v,aK u],bJ EE (aK u) z.2]) (λz=>A.v.toNat - z.1) (0,[]) ⟨rfl,Nat.zero_le _,rfl,(λe he=>by cases he),by cases J0 (cV ws) (aC who) A.v.toNat 0 <;> rfl,(none,0,0),(c.nil EE).pick [0,1,4,5]⟩ ?_;rintro⟨k,es⟩ _ h12' ⟨rfl,hk,iF,aS,J,u,c⟩ again H;dsimp only at hk iF aS J H c;replace c:=c.n4;refine vx aV<|dW (λe88=>?_) λe88=>?_
    ·refine vx (iQ ⟨by omega,by omega⟩)<|vx (Ec ⟨by omega,by omega⟩)<|vx (iQ ⟨by omega,by omega⟩)<|vx (iQ ⟨by omega,by omega⟩) ?_;obtain⟨a,b,Q,r,hd⟩:=PJ (ws:=ws) (k:=p+2+3*k) (by omega);obtain⟨ga,gb,gc⟩:=MT hd;have wa:=hW _ (List.mem_of_getElem? ga);have wb:=hW _ (List.mem_of_getElem? gb);refine(hs.gr c.gr).RJ hd (by omega) (by omega) ?_;have fa:cV ws (aC who+2+3*k)=a:=yZ (by omega) (by rw[show(aC who+2+3*(k:Int)).toNat=p+2+3*k by omega]; exact ga);have fb:cV ws (aC who+2+3*k+1)=b:=yZ (by omega) (by rw[show(aC who+2+3*(k:Int)+1).toNat=p+2+3*k+1 by omega]; exact gb);have fc:cV ws (aC who+2+3*k+2)=Q:=yZ (by omega) (by rw[show(aC who+2+3*(k:Int)+2).toNat=p+2+3*k+2 by omega]; exact gc);have aT:J0 (cV ws) (aC who) (A.v.toNat - k) k=if Fe a b Q=true then match J0 (cV ws) (aC who) (A.v.toNat - (k+1)) (k+1) with
       | some l=>some (yh a b Q::l)
       | none=>none
      else none:=by
      rw[show A.v.toNat - k=A.v.toNat - (k+1)+1 by omega];show(if Fe (cV ws (aC who+2+3*k)) (cV ws (aC who+2+3*k+1)) (cV ws (aC who+2+3*k+2))=true then _ else _)=_;rw[fa,fb,fc]
     refine Ds λ_ g=>?_;obtain⟨x,U⟩:∃x,(if Fe a b Q=true then yh a b Q else Fj)=x:=⟨_,rfl⟩;obtain⟨q,hq⟩:∃q,Fe a b Q=q:=⟨_,rfl⟩;rw[U,hq];have c:=c.more g;obtain⟨xa,⟨xv,xq,xr⟩,xn,xb⟩:=x;refine vx rfl<|vx rfl<|c.v6 λ_ _ c=>?_;refine c.w6 4 λ_ c=>?_;refine vx (v:=.bool (!q)) rfl<|En.br (λN=>?_) λN=>?_
     ·refine vx (aG (ds:=[_,_,_,_]) rfl)<|c.w4 1 λ_ c=>?_;refine c.rl 1 ?_;exact h0 5 _ (by rw[E,J,aT,if_neg (by rw[hq]; simpa using N)]; rfl) (by decide) c.gr
     ·refine aE<|c.rc 2 ?_;have q1:Fe a b Q=true:=by rw[hq]; simpa using N
      rw[if_pos q1] at U aT;have hx2:((0<=xa/\xa<4096)/\Ww ⟨xv,xq,xr⟩):=by
       have h2:yh a b Q=⟨xa,⟨xv,xq,xr⟩,xn,xb⟩:=U;have h3:(yh a b Q).at'=a.v:=rfl;have h4:(yh a b Q).old=b:=rfl;rw[h2] at h3 h4;dsimp only at h3 h4;rw[h3,h4];exact⟨(of_decide_eq_true q1).1,wb⟩
      refine c.rl 4 ?_;refine c.dN EE ⟨xa,⟨xv,xq,xr⟩,xn,xb⟩ rfl rfl λv112 _ c=>?_;replace c:=c.n6;refine c.ap 3 rfl (c.sl (i:=5) rfl).sl rfl rfl (by simp only[List.length_singleton]; omega) (by simp only[List.length_singleton]; omega) λv113 _ c=>?_;obtain⟨u2,rfl⟩:=(c.sl (i:=3) rfl).ol;replace c:=c.n6;refine aE<|c.q4 2 λ_ c=>?_;refine vx (inc (by omega))<|H (k+1,es++[(⟨xa,⟨xv,xq,xr⟩,xn,xb⟩:Et)]) _ _ ⟨rfl,by dsimp only; omega,by dsimp only; rw[List.length_append,List.length_singleton,iF],λe he=>?_,?_,u2,c.pick [0,1,2,3]⟩ (by dsimp only; omega)
      ·rcases List.mem_append.1 he with he | he
       ·exact aS e he
       ·rw[List.mem_singleton.1 he]; exact hx2
      ·dsimp only;rw[J,aT,U];cases J0 (cV ws) (aC who) (A.v.toNat - (k+1)) (k+1) with
       | none=>rfl
       | some l=>exact congrArg some (List.append_assoc es [_] l).symm
    ·refine c.rl 2 ?_;refine c.rl 0 ?_;obtain rfl:k=A.v.toNat:=by omega
     have J:J0 (cV ws) (aC who) A.v.toNat 0=some es:=by rw[J,Nat.sub_self]; show some (es++[])=_; rw[List.append_nil]
     rw[J] at E;dsimp only at E;refine oI.2 (Ls (V.gr c.gr) (c.sl (i:=3) rfl).sl hw hm (by omega) (by omega) aS λz _ g hz=>?_);have c:=c.more g;refine vx dZ<|dW (λO=>?_) λO=>?_
     ·refine vx (aG (ds:=[_,_,_,_]) rfl)<|c.w4 1 λ_ c=>?_;refine c.rl 1 ?_;exact h0 5 _ (by rw[E,if_neg (by rw[<-hz,decide_eq_false O]; decide)]) (by decide) c.gr
     ·refine c.rl 2 ?_;refine c.w4 1 λ_ c=>?_;refine c.rl 1 ?_;exact h1 st.v st.aO es u _ (by rw[E,if_pos (by rw[<-hz,decide_eq_true (Classical.not_not.1 O)])]) (c.pick [3])
def UM (r:Option (Int × Int × List Et)) (q st z:Int) (es:List Et):Prop:=match r with
 | some x=>z=0/\st=x.1/\q=x.2.1/\es=x.2.2
 | none=>¬z=0
def NM {W:Int->W3} {x:Int × Int × List Et} (h:Cu W who=some x):x.2.2.length<=32:=by
 unfold Cu at h;dsimp only at h;split at h
 ·cases h
 ·rename_i hm;have:=Lh hm;split at h
  ·cases h
  ·split at h
   ·split at h
    ·rename_i q;cases h
     unfold Jz at q;simp only[Bool.and_eq_true,decide_eq_true_eq] at q;dsimp only;omega
    ·cases h
   ·cases h
def PI (E:Zs h) (hs:Sl EW h vw ws) (G:ws.length=512) (H:∀w∈ws,Ww w) (hw : -1000<=who/\who<=1000)
  (A:∀w q st z u es h',UM (Cu (cV ws) who) q st z es->es.length<=32->Cx (λ_=>False) h h' [bJ EE (aK u) es]->R (.tuple #[vD w q st u,.int .i64 z]) h'):oT.1 vL vw (.int .i64 who) h R:=
 Oy E hs G H hw (λst q es u h' e c=>A _ _ _ _ u es h' (by rw[e]; exact⟨rfl,rfl,rfl,rfl⟩) (NM e) c) λz h' e J g=>A _ _ _ _ _ [] h' (by rw[e]; exact J) (Nat.zero_le _) (((Cx.aB h).more g).nil EE)
end
def VB {α:Type} {q st z s:Int} {es:List Et} {f:List Et->α} {a:α} (r:Option (Int × Int × List Et)):UM r q st z es->(match r with
  | some (st,q,es)=>if q=s/\st=1 then f es else a
  | none=>a)=if z=0/\q=s/\st=1 then f es else a:=by
 intro h;cases r with
 | none=>
  have h:¬z=0:=h;rw[if_neg λe=>h e.1]
 | some x=>
  obtain⟨u,A,E⟩:=x;obtain⟨h1,h2,G,H⟩:=(show z=0/\st=u/\q=A/\es=E from h);subst h1 h2 G H;dsimp only;by_cases c:q=s/\st=1
  ·rw[if_pos c,if_pos ⟨rfl,c⟩]
  ·rw[if_neg c,if_neg λe=>c e.2]
section
variable {who:Int} {vw:Value} {ws:List W3} {i:Nat}
def P5 (N:B.p h) (hZ:On B Zs) (hw:On B λh=>Sl EW h vw ws) (hl:ws.length=512) (hW:∀w∈ws,Ww w) (hi:i<512) (hm:gX i=true) (G:∀h',Gr h h'->R (.tuple #[mW (qZ (cV ws) i),.int .i64 0]) h'):rP.1 vL vw (.int .i64 i) h R:=by
 obtain⟨n,en,hn,hx⟩:=vN (ws:=ws) (p:=(i:Int)) (by omega);obtain rfl:n=i:=by omega
 have O:=hW _ (List.mem_of_getElem? hx);have aS:qZ (cV ws) n=if aZ (cV ws n).ref=0 then⟨(cV ws n).v,(cV ws n).aO,0⟩ else match Cu (cV ws) (aZ (cV ws n).ref) with
  | some (st,q,es)=>if q=lB (cV ws n).ref/\st=1 then match zV es n with
   | some e=>⟨e.new,((cV ws n).aO+1) % 4294967296,0⟩
   | none=>⟨(cV ws n).v,(cV ws n).aO,0⟩
   else⟨(cV ws n).v,(cV ws n).aO,0⟩
  | none=>⟨(cV ws n).v,(cV ws n).aO,0⟩:=rfl
 rw[aS] at G;generalize cV ws n=x at hx O G;obtain⟨Z,xq,xr⟩:=x;dsimp only at G O;have aT:=uI xr;have c:=Cx.aB h;refine c.v3 λQ _ c=>?_;refine c.v3 λT _ c=>?_;refine .here<|c.rl 0 ?_;refine cS _ _ (hZ _ (B.up N c.gr)) λ_ g=>?_;have c:=c.more g;refine vx (v:=.bool false) rfl<|aN<|vx (hw _ (B.up N c.gr)).ln<|c.rl 0 ?_;refine qY _ _ (hZ _ (B.up N c.gr)) λ_ g=>?_;have c:=c.more g;refine vx (dA (by omega))<|aN<|c.rl 0 ?_;refine iR (a:=(n:Int)) ⟨by omega,by omega⟩ _ _ (hZ _ (B.up N c.gr)) λ_ g=>?_;have c:=c.more g;rw[hm];refine vx (v:=.bool false) (rfl)<|aN<|(hw _ (B.up N c.gr)).whole rfl hx rfl ?_;refine c.v3 λU _ c=>?_;refine c.w3 2 λ_ c=>?_;refine aE<|c.rc 2 ?_;refine qE (r:=xr) O.ref λ_ g=>?_;have c:=c.more g;refine vx rfl<|vx rfl<|aE<|c.rc 2 ?_;refine aE<|c.rc 2 ?_;refine vx (aG (ds:=[_,_,_]) rfl)<|c.v3 λA _ c=>?_;refine c.w3 3 λ_ c=>?_;refine vx bW<|dW (λV=>?_) λV=>?_
 ·refine c.rl 3 ?_;refine c.w3 1 λ_ c=>?_;refine c.rl 1 ?_;rw[if_pos V] at G;exact G _ c.gr
 ·refine c.rl 0 ?_;rw[if_neg V] at G;refine oT.2 (PI (hZ _ (B.up N c.gr)) (hw _ (B.up N c.gr)) hl hW (by omega) λw q st z u es _ bY uS d=>?_);have c:=c.aF d;rw[VB _ bY] at G;clear aT aS bY;replace c:=c.n5;refine vx rfl<|vx rfl<|c.v4 λH _ c=>?_;refine c.w4 5 λ_ c=>?_;refine m3.at (λv h'=>v=.bool (!decide (z=0/\q=lB xr/\st=1))/\Cx (λ_=>False) h h' [rV Q [.int .i64 3,.int .i64 6,.int .i64 4],rV T (cW W0),rV U (cW ⟨Z,xq,xr⟩),rV A (cW ⟨Z,xq,0⟩),bJ EE (aK u) es,rV H [.int .i64 w,.int .i64 q,.int .i64 st,aK u]]) ?_ ?_
  ·refine vx dZ<|dW (λiN=>?_) λiN=>?_
   ·first | exact⟨congrArg Value.bool (by rw[decide_eq_false (by omega)]; rfl),c⟩| exact⟨congrArg Value.bool (by rw[<-decide_not]; exact decide_eq_decide.2 (by omega)),c⟩
   ·refine aE<|c.rc 5 ?_;refine vx dZ<|dW (λiS=>?_) λiS=>?_
    ·first | exact⟨congrArg Value.bool (by rw[decide_eq_false (by omega)]; rfl),c⟩| exact⟨congrArg Value.bool (by rw[<-decide_not]; exact decide_eq_decide.2 (by omega)),c⟩
    ·refine aE<|c.rc 5 ?_;refine vx dZ ?_;first | exact⟨congrArg Value.bool (by rw[decide_eq_false (by omega)]; rfl),c⟩| exact⟨congrArg Value.bool (by rw[<-decide_not]; exact decide_eq_decide.2 (by omega)),c⟩
  ·rintro _ oR ⟨rfl,c⟩;replace c:=c.n6;refine En.br (λK=>?_) λK=>?_
   ·refine c.rl 3 ?_;refine c.w3 1 λ_ c=>?_;refine c.rl 1 ?_;rw[if_neg (λe=>by rw[decide_eq_true e] at K; cases K)] at G;exact G _ c.gr
   ·refine aE<|c.rc 5 ?_;rw[if_pos (by simpa using K)] at G;refine vx (c.sl (i:=4) rfl).sl.ln<|oP.by (λ(k:Nat) v h'=>v=.int .i64 k/\k<=es.length/\zV es n=zV (es.drop k) n/\Cx (λ_=>False) h h' [rV Q [.int .i64 3,.int .i64 6,.int .i64 4],rV T (cW W0),rV U (cW ⟨Z,xq,xr⟩),rV A (cW ⟨Z,xq,0⟩),bJ EE (aK u) es,rV H [.int .i64 w,.int .i64 q,.int .i64 st,aK u]]) (λk=>es.length - k) 0 ⟨rfl,Nat.zero_le _,rfl,c⟩ ?_;rintro k _ rW ⟨rfl,hk,E,c⟩ again M;refine vx aV<|dW (λoF=>?_) λoF=>?_
    ·have dO:=List.getElem?_eq_getElem (l:=es) (i:=k) (by omega);have eQ:es.drop k=es[k]'(by omega)::es.drop (k+1):=List.drop_eq_getElem_cons (by omega);generalize es[k]'(by omega)=y at dO eQ;rw[eQ] at E;obtain⟨ya,⟨yv,yq,yr⟩,yn,yb⟩:=y;refine(c.sl (i:=4) rfl).sl.whole rfl dO rfl ?_;refine c.v6 λiF _ c=>?_;refine c.w6 6 λ_ c=>?_;refine m3.at (λv h'=>v=.bool (decide (ya=n)&&yb)/\Cx (λ_=>False) h h' [rV Q [.int .i64 3,.int .i64 6,.int .i64 4],rV T (cW W0),rV U (cW ⟨Z,xq,xr⟩),rV A (cW ⟨Z,xq,0⟩),bJ EE (aK u) es,rV H [.int .i64 w,.int .i64 q,.int .i64 st,aK u],rV iF (cE ⟨ya,⟨yv,yq,yr⟩,yn,yb⟩)]) ?_ ?_
     ·refine aE<|c.rc 6 ?_;refine vx bW<|dW (λJ=>?_) λJ=>?_
      ·refine aE<|c.rc 6 ?_;first | exact⟨by rw[decide_eq_true J]; rfl,c⟩| exact⟨by rw[decide_eq_false J]; rfl,c⟩
      ·first | exact⟨by rw[decide_eq_true J]; rfl,c⟩| exact⟨by rw[decide_eq_false J]; rfl,c⟩
     ·rintro _ tO ⟨rfl,c⟩;replace c:=c.n7;refine En.br (λX=>?_) λX=>?_
      ·refine aE<|c.rc 6 ?_;refine aE<|c.rc 2 ?_;have E:zV es n=some ⟨ya,⟨yv,yq,yr⟩,yn,yb⟩:=E.trans (List.find?_cons_of_pos (p:=λe:Et=>decide (e.at'=n)&&e.wr) X);rw[E] at G;refine vx zJ<|vx (aG (ds:=[_,_,_]) rfl)<|c.w3 1 λ_ c=>?_;refine c.rl 1 ?_;exact G _ c.gr
      ·have E:zV es n=zV (es.drop (k+1)) n:=E.trans (List.find?_cons_of_neg (p:=λe:Et=>decide (e.at'=n)&&e.wr) (by rw[X]; decide));exact vx (inc (by omega))<|M (k+1) _ _ ⟨rfl,by omega,E,c.pick [0,1,2,3,4,5]⟩ (by omega)
    ·refine c.rl 3 ?_;refine c.w3 1 λ_ c=>?_;refine c.rl 1 ?_;rw[List.drop_of_length_le (by omega)] at E;rw[E] at G;exact G _ c.gr
end
def pT (ws:List W3):List W3:=ws.mapIdx λi _=>if gX i=true then qZ (cV ws) i else W0
def qy {ws:List W3}:(pT ws).length=ws.length:=by unfold pT; rw[List.length_mapIdx]
def pa {ws:List W3} {i:Nat} (h:i<ws.length):(pT ws)[i]?=some (if gX i=true then qZ (cV ws) i else W0):=by
 unfold pT;rw[List.getElem?_mapIdx,List.getElem?_eq_getElem h]; rfl
def J3 (l:List W3) (e:Et):List W3:=if e.wr=true then l.set e.at'.toNat ⟨e.new,(e.old.aO+1) % 4294967296,0⟩ else l
def tA (es:List Et) (ws:List W3):List W3:=es.foldl J3 ws
def HB {l:List W3} {e:Et}:(J3 l e).length=l.length:=by unfold J3; split <;> simp
def B6:∀{es:List Et} {ws:List W3},(tA es ws).length=ws.length
 | [],_=>rfl
 | e::r,ws=>(B6 (es:=r) (ws:=J3 ws e)).trans HB
section
variable {vw vu:Value} {ws:List W3} {es:List Et}
def KC (G:B.p h) (M:On B Zs) (hw:On B λh=>Sl EW h vw ws) (N:ws.length=512) (Q:∀w∈ws,Ww w) (T:∀u h',Cx (λ_=>False) h h' [bJ EW (aK u) (pT ws)]->R (aK u) h'):gA.1 vL vw h R:=by
 have c:=Cx.aB h;refine c.v3 λH _ c=>?_;refine c.Aj EW λv7 _ c=>?_;replace c:=c.n2;refine c.ap 1 rfl (hw _ (B.up G c.gr)) rfl rfl (by simp only[List.length_nil]; omega) (by simp only[List.length_nil]; omega) λv9 _ c=>?_;obtain⟨u,rfl⟩:=(c.sl (i:=1) rfl).ol;replace c:=c.n2;refine oP.by (λ(i:Nat) z h'=>z=.int .i64 i/\i<=512/\Cx (λ_=>False) h h' [rV H [.int .i64 3,.int .i64 6,.int .i64 4],bJ EW (aK u) ((pT ws).take i++ws.drop i)]) (λi=>512 - i) 0 ⟨rfl,Nat.zero_le _,c⟩ ?_;rintro i _ U ⟨rfl,hi,c⟩ again q;have V:(pT ws).length=512:=qy.trans N;refine vx (hw _ (B.up G c.gr)).ln<|vx aV<|dW (λJ=>?_) λJ=>?_
 ·refine .here<|c.rl 0 ?_;refine iR (a:=(i:Int)) ⟨by omega,by omega⟩ _ _ (M _ (B.up G c.gr)) λ_ g=>?_;have c:=c.more g;have K:=pa (ws:=ws) (i:=i) (by omega);have X:ws.drop i=ws[i]'(by omega)::ws.drop (i+1):=List.drop_eq_getElem_cons (by omega);have O:(pT ws).take (i+1)=(pT ws).take i++[if gX i=true then qZ (cV ws) i else W0]:=by rw[List.take_add_one,K]; rfl
  have E:∀y,((pT ws).take i++ws.drop i).set i y=((pT ws).take i++[y])++ws.drop (i+1):=λy=>by
   rw[X,List.set_append_right _ _ (by rw[List.length_take]; omega),List.length_take,show i - min i (pT ws).length=0 by omega,List.set_cons_zero,List.append_assoc]; rfl
  refine En.br (λA=>?_) λA=>?_
  ·refine c.rl 0 ?_;refine rP.2 (P5 (B.up G c.gr) M hw N Q (by omega) A λ_ g=>?_);have c:=c.more g;refine vx rfl<|vx rfl<|c.wX 1 rfl (j:=i) (by rw[List.length_append,List.length_take,List.length_drop]; omega) (qZ (cV ws) i) rfl rfl rfl λ_ c=>?_;rw[E,show qZ (cV ws) i=(if gX i=true then qZ (cV ws) i else W0) from(if_pos A).symm,<-O] at c;replace c:=c.n2;exact vx (inc (by omega))<|q (i+1) _ _ ⟨rfl,by omega,c.pick [0,1]⟩ (by omega)
  ·refine vx (aG (ds:=[_,_,_]) rfl)<|c.wX 1 rfl (j:=i) (by rw[List.length_append,List.length_take,List.length_drop]; omega) W0 rfl rfl rfl λ_ c=>?_;rw[E,show W0=(if gX i=true then qZ (cV ws) i else W0) from(if_neg (by rw[A]; decide)).symm,<-O] at c;replace c:=c.n2;exact vx (inc (by omega))<|q (i+1) _ _ ⟨rfl,by omega,c.pick [0,1]⟩ (by omega)
 ·obtain rfl:i=512:=by omega
  rw[List.take_of_length_le (by omega),List.drop_of_length_le (by omega),List.append_nil] at c;exact T u _ (c.pick [1])
def NY (E:B.p h) (hw:On B λh=>Sl EW h vw ws) (he:On B λh=>Sl EE h vu es) (U:es.length<=1000) (hs:∀e∈es,0<=e.at'/\∃x,ws[e.at'.toNat]?=some x/\x.v=e.old.v/\x.aO=e.old.aO) (O:∀h',Gr h h'->R (.bool true) h'):gS.1 vw vu h R:=by
 dsimp only[gS,dL];have c:=Cx.aB h;refine oP.by (λ(i:Nat) z h'=>z=.int .i64 i/\i<=es.length/\Cx (λ_=>False) h h' []) (λi=>es.length - i) 0 ⟨rfl,Nat.zero_le _,c⟩ ?_;rintro i _ Q ⟨rfl,hi,c⟩ again q;refine vx (he _ (B.up E c.gr)).ln<|vx aV<|dW (λH=>?_) λH=>?_
 ·have J:=List.getElem?_eq_getElem (l:=es) (i:=i) (by omega);generalize es[i]'(by omega)=e at J;obtain⟨T,y,G,M,N⟩:=hs e (List.mem_of_getElem? J);have K:=(List.getElem?_eq_some_iff.1 G).1;obtain⟨A,⟨ev,eq,V⟩,en,eb⟩:=e;dsimp only at T G M N K;refine(he _ (B.up E c.gr)).whole rfl J rfl ?_;refine c.v6 λ_ _ c=>?_;refine c.w6 0 λ_ c=>?_;refine .here<|aE<|c.rc 0 ?_;refine vx (dA ((show ¬A<0 by omega)))<|aN<|aE<|c.rc 0 ?_;refine vx (hw _ (B.up E c.gr)).ln<|vx (iO ((show ¬(ws.length:Int)<=A by omega)))<|aN<|aE<|c.rc 0 ?_;refine(hw _ (B.up E c.gr)).oW (j:=0) rfl G (show A=((A.toNat:Nat):Int) by omega) (u:=.int .i64 y.v) rfl ?_;refine aE<|aE<|c.rc 0 ?_;refine vx (uQ M)<|aN<|aE<|c.rc 0 ?_;refine(hw _ (B.up E c.gr)).oW (j:=1) rfl G (show A=((A.toNat:Nat):Int) by omega) (u:=.int .u32 y.aO) rfl ?_;refine aE<|aE<|c.rc 0 ?_;exact vx (uQ N)<|aN<|vx (inc (by omega))<|q (i+1) _ _ ⟨rfl,by omega,c.pick []⟩ (by omega)
 ·exact O _ c.gr
def Ox (H:B.p h) (hw:On B λh=>Sl EW h vw ws) (he:On B λh=>Sl EE h vu es) (hl:es.length<=1000) (V:ws.length<=1000) (hs:∀e∈es,0<=e.at'/\e.at'<ws.length) (Q:∀u h',Cx (λ_=>False) h h' [bJ EW (aK u) (tA es ws)]->R (aK u) h'):lE.1 vw vu h R:=by
 have c:=Cx.aB h;refine c.Aj EW λv7 _ c=>?_;replace c:=c.n1;refine c.ap 0 rfl (hw _ (B.up H c.gr)) rfl rfl (by simp only[List.length_nil]; omega) (by simp only[List.length_nil]; omega) λv9 _ c=>?_;obtain⟨u,rfl⟩:=(c.sl (i:=0) rfl).ol;replace c:=c.n1;refine oP.by (λ(i:Nat) z h'=>z=.int .i64 i/\i<=es.length/\∃l:List W3,l.length=ws.length/\tA es ws=tA (es.drop i) l/\Cx (λ_=>False) h h' [bJ EW (aK u) l]) (λi=>es.length - i) 0 ⟨rfl,Nat.zero_le _,ws,rfl,rfl,c⟩ ?_;rintro i _ X ⟨rfl,hi,l,E,q,c⟩ again A;refine vx (he _ (B.up H c.gr)).ln<|vx aV<|dW (λN=>?_) λN=>?_
 ·refine .here ?_;have J:=List.getElem?_eq_getElem (l:=es) (i:=i) (by omega);have T:es.drop i=es[i]'(by omega)::es.drop (i+1):=List.drop_eq_getElem_cons (by omega);generalize es[i]'(by omega)=e at J T;obtain⟨Z,e2⟩:=hs e (List.mem_of_getElem? J);obtain⟨K,⟨ev,eq,U⟩,en,eb⟩:=e;dsimp only at Z e2;rw[T] at q;have q:tA es ws=tA (es.drop (i+1)) (J3 l ⟨K,⟨ev,eq,U⟩,en,eb⟩):=q;refine(he _ (B.up H c.gr)).oW (j:=5) rfl J rfl (u:=.bool eb) rfl ?_;refine En.br (λG=>?_) λG=>?_
  ·rw[show J3 l ⟨K,⟨ev,eq,U⟩,en,eb⟩=l.set K.toNat ⟨en,(eq+1) % 4294967296,0⟩ from if_pos G] at q;refine(he _ (B.up H c.gr)).oW (j:=0) rfl J rfl (u:=.int .i64 K) rfl ?_;refine(he _ (B.up H c.gr)).oW (j:=4) rfl J rfl (u:=.int .i64 en) rfl ?_;obtain⟨r9,o9,e9,M,_⟩:=(he _ (B.up H c.gr)).ix J (n:=6) rfl (k:=.i64) (z:=(i:Int)) rfl;refine vx e9<|vx (gQ _ _ _)<|vx (gQ _ _ _)<|vx (M.eH (j:=2) (v:=.int .u32 eq) rfl)<|vx zJ<|vx (aG (ds:=[_,_,_]) rfl)<|c.wX 0 rfl (j:=K.toNat) (by omega) (⟨en,(eq+1) % 4294967296,0⟩:W3) rfl (by omega) rfl λ_ c=>?_;replace c:=c.n1;exact vx (inc (by omega))<|A (i+1) _ _ ⟨rfl,by omega,_,by first | exact(List.length_set ..).trans E | exact E,by first | exact q | exact q.trans (congrArg _ (if_neg λO:eb=true=>Bool.noConfusion (G.symm.trans O))),c.pick [0]⟩ (by omega)
  ·exact vx (inc (by omega))<|A (i+1) _ _ ⟨rfl,by omega,_,by first | exact(List.length_set ..).trans E | exact E,by first | exact q | exact q.trans (congrArg _ (if_neg λO:eb=true=>Bool.noConfusion (G.symm.trans O))),c.pick [0]⟩ (by omega)
 ·rw[List.drop_of_length_le (by omega)] at q;rw[q] at Q;exact Q u _ c
end
def pp (bs cQ:Int->W3) (who:Int):Bool:=decide (0<=aC who/\(bs (aC who)).v=0/\(cQ (aC who)).v=1/\(bs (aC who)).aO=(cQ (aC who)).aO)
def SY (who:Int):aC who<512:=by
 unfold aC eN cK
 (repeat' split) <;> omega
section
variable {va vb vw vn:Value} {bs cQ ws ns:List W3} {og q0:Int} {es0:List Et}
def B3 {who:Nat} (hw:who<=13) (hb:Sl EW h vb bs) (ha:Sl EW h va cQ) (dO:bs.length=512) (eQ:cQ.length=512) {J:Value->Hp->Prop} (A:J (.bool (pp (cV bs) (cV cQ) who)) h) :
  Vb (bin .geq (.int .i64 (aC who)) (.int .i64 0)) λE=>
  Br E (
   Vb (nh 3 vb (.int .i64 (aC who))) λG=>
   Vb (fa 0 G) λH=>
   Vb (eH H h) λK=>
   Vb (bin .eql K (Value.int IntKind.i64 0)) λM=>
   Br M (
    Vb (nh 3 va (.int .i64 (aC who))) λN=>
    Vb (fa 0 N) λO=>
    Vb (eH O h) λQ=>
    Vb (bin .eql Q (Value.int IntKind.i64 1)) λT=>
    Br T (
     Vb (nh 3 vb (.int .i64 (aC who))) λU=>
     Vb (fa 1 U) λV=>
     Vb (eH V h) λX=>
     Vb (nh 3 va (.int .i64 (aC who))) λZ=>
     Vb (fa 1 Z) λaS=>
     Vb (eH aS h) λaT=>
     Vb (bin .eql X aT) λbY=>
     J bY h) (
     J (Value.bool false) h)) (
    J (Value.bool false) h)) (
   J (Value.bool false) h):=by
 have no:¬pp (cV bs) (cV cQ) who=true->J (.bool false) h:=λe=>by
  rw[show pp (cV bs) (cV cQ) who=false by simpa using e] at A;exact A
 have hp:=SY who;refine En.vb km (dW (λe1=>?_) λe1=>no λe=>e1 (of_decide_eq_true e).1);obtain⟨n,en,_,hx⟩:=vN (ws:=bs) (p:=aC who) (by omega);obtain⟨n2,q,_,hy⟩:=vN (ws:=cQ) (p:=aC who) (by omega);refine hb.oW (j:=0) rfl hx en (u:=.int .i64 (cV bs (aC who)).v) rfl (En.vb bW (dW (λe2=>?_) λe2=>no λe=>e2 (of_decide_eq_true e).2.1));refine ha.oW (j:=0) rfl hy q (u:=.int .i64 (cV cQ (aC who)).v) rfl (En.vb bW (dW (λe3=>?_) λe3=>no λe=>e3 (of_decide_eq_true e).2.2.1));refine hb.oW (j:=1) rfl hx en (u:=.int .u32 (cV bs (aC who)).aO) rfl (ha.oW (j:=1) rfl hy q (u:=.int .u32 (cV cQ (aC who)).aO) rfl (En.vb bW ?_));rw[show pp (cV bs) (cV cQ) who=decide ((cV bs (aC who)).aO=(cV cQ (aC who)).aO) from decide_eq_decide.2 ⟨λe=>e.2.2.2,λe=>⟨e1,e2,e3,e⟩⟩] at A;exact A
def IJ (H:B.p h) (T:On B Zs) (X:On B λh=>Sl EW h vb bs) (U:On B λh=>Sl EW h va cQ) (M:bs.length=512) (K:cQ.length=512) (Z:∀w∈cQ,Ww w) {og:Nat} (h0:1<=og/\og<=12)
  (hd:pp (cV bs) (cV cQ) og=true) (hn:∀w:Nat,1<=w->w<og->pp (cV bs) (cV cQ) w=false) (N:Cu (cV cQ) og=some (1,q0,es0)) (hR:∀u h',Cx (λ_=>False) h h' [bJ EE (aK u) es0]->R (.tuple #[aK u,.bool true]) h'):dQ.1 vL vb va vw vn h R:=by
 have c:=Cx.aB h;refine c.v3 λG _ c=>?_;refine oP.by (λ(i:Nat) z h'=>z=.int .i64 i/\1<=i/\i<=og/\Cx (λ_=>False) h h' [rV G [.int .i64 3,.int .i64 6,.int .i64 4]]) (λi=>13 - i) 1 ⟨rfl,Nat.le_refl _,h0.1,c⟩ ?_;rintro i _ aS ⟨rfl,O,hi,c⟩ again E;refine aE<|c.rc 0 ?_;refine vx (iQ ⟨by omega,by omega⟩)<|vx (Be (show(i:Int)<=8+4 by omega))<|bU<|c.rl 0 ?_;refine kj (who:=(i:Int)) (by omega) _ _ (T _ (B.up H c.gr)) λ_ g=>?_;have c:=c.more g;refine vx rfl<|vx rfl<|m3.at (λv h'=>v=.bool (pp (cV bs) (cV cQ) i)/\Cx (λ_=>False) h h' [rV G [.int .i64 3,.int .i64 6,.int .i64 4]]) ?_ ?_
 ·exact B3 (J:=λv h'=>v=.bool (pp (cV bs) (cV cQ) i)/\Cx (λ_=>False) h h' [rV G [.int .i64 3,.int .i64 6,.int .i64 4]]) (by omega) (X _ (B.up H c.gr)) (U _ (B.up H c.gr)) M K ⟨rfl,c⟩
 ·rintro _ aT ⟨rfl,c⟩;replace c:=c.n1;refine En.br (λA=>?_) λA=>?_
  ·refine c.rl 0 ?_;obtain rfl:i=og:=Classical.byContradiction λQ=>by rw[hn i O (by omega)] at A; cases A
   refine oT.2 (PI (T _ (B.up H c.gr)) (U _ (B.up H c.gr)) K Z (by omega) λw q st z u es _ V _ d=>?_);have c:=c.aF d;rw[N] at V;obtain⟨_,_,_,rfl⟩:=(show z=0/\st=1/\q=q0/\es=es0 from V);replace c:=c.n2;refine vx rfl<|vx rfl<|c.v4 λ_ _ c=>?_;refine c.w4 2 λ_ c=>?_;refine aE<|c.rc 2 ?_;exact hR u _ (c.pick [1])
  ·have Q:¬i=og:=λe=>by rw[e,hd] at A; cases A
   exact vx (inc (by omega))<|E (i+1) _ _ ⟨rfl,by omega,by omega,c.pick [0]⟩ (by omega)
def Bw (G:B.p h) (Z:On B Zs) (hb:On B λh=>Sl EW h vb bs) (ha:On B λh=>Sl EW h va cQ) (hw:On B λh=>Sl EW h vw ws) (hv:On B λh=>Sl EW h vn ns) (T:bs.length=512) (U:cQ.length=512) (aS:ws.length=512) (aT:ns.length=512)
  (hn:∀w:Nat,1<=w->w<=12->pp (cV bs) (cV cQ) w=false)
  (h1:∀(i:Nat) x y u h',ws[i]?=some x->ns[i]?=some y->¬x=y->Cx (λ_=>False) h h' [bJ EE (aK u) [⟨i,x,y.v,true⟩]]->R (.tuple #[aK u,.bool true]) h')
  (h2:∀h',ws=ns->Gr h h'->R (.tuple #[.slice none 0 0,.bool false]) h'):dQ.1 vL vb va vw vn h R:=by
 have c:=Cx.aB h;refine c.v3 λA _ c=>?_;refine oP.by (λ(i:Nat) z h'=>z=.int .i64 i/\1<=i/\i<=13/\Cx (λ_=>False) h h' [rV A [.int .i64 3,.int .i64 6,.int .i64 4]]) (λi=>13 - i) 1 ⟨rfl,Nat.le_refl _,by decide,c⟩ ?_;rintro i _ bY ⟨rfl,V,hi,c⟩ again E;refine aE<|c.rc 0 ?_;refine vx (iQ ⟨by omega,by omega⟩)<|vx sP<|dW (λK=>?_) λK=>?_
 ·refine c.rl 0 ?_;have K:(i:Int)<=12:=K;refine kj (who:=(i:Int)) (by omega) _ _ (Z _ (B.up G c.gr)) λ_ g=>?_;have c:=c.more g;refine vx rfl<|vx rfl<|m3.at (λv h'=>v=.bool (pp (cV bs) (cV cQ) i)/\Cx (λ_=>False) h h' [rV A [.int .i64 3,.int .i64 6,.int .i64 4]]) ?_ ?_
  ·exact B3 (J:=λv h'=>v=.bool (pp (cV bs) (cV cQ) i)/\Cx (λ_=>False) h h' [rV A [.int .i64 3,.int .i64 6,.int .i64 4]]) (by omega) (hb _ (B.up G c.gr)) (ha _ (B.up G c.gr)) T U ⟨rfl,c⟩
  ·rintro _ dO ⟨rfl,c⟩;rw[hn i V (by omega)];replace c:=c.n1;exact aN<|vx (inc (by omega))<|E (i+1) _ _ ⟨rfl,by omega,by omega,c.pick [0]⟩ (by omega)
 ·refine vx (hv _ (B.up G c.gr)).ln<|oP.by (λ(j:Nat) z h'=>z=.int .i64 j/\j<=ns.length/\(∀k,k<j->ws[k]?=ns[k]?)/\Cx (λ_=>False) h h' [rV A [.int .i64 3,.int .i64 6,.int .i64 4]]) (λj=>ns.length - j) 0 ⟨rfl,Nat.zero_le _,(λk hk=>by omega),c⟩ ?_;rintro j _ eQ ⟨rfl,hj,H,c⟩ Q q;refine vx aV<|dW (λX=>?_) λX=>?_
  ·have N:=List.getElem?_eq_getElem (l:=ns) (i:=j) (by omega);have O:=List.getElem?_eq_getElem (l:=ws) (i:=j) (by omega);generalize ns[j]'(by omega)=y at N;generalize ws[j]'(by omega)=x at O;refine(hv _ (B.up G c.gr)).whole rfl N rfl ?_;refine(hw _ (B.up G c.gr)).whole rfl O rfl ?_;refine vx (LG y x)<|dW (λM=>?_) λM=>?_
   ·refine(hw _ (B.up G c.gr)).whole rfl O rfl ?_;refine(hv _ (B.up G c.gr)).oW (j:=0) rfl N rfl (u:=.int .i64 y.v) rfl ?_;refine vx (aG (ds:=[_,_,_,_,_,_]) rfl)<|c.dN EE ⟨j,x,y.v,true⟩ rfl rfl λiF _ c=>?_;obtain⟨u,rfl⟩:=(c.sl (i:=1) rfl).ol;replace c:=c.n2;exact h1 j x y u _ O N (λe=>M e.symm) (c.pick [1])
   ·refine vx (inc (by omega))<|q (j+1) _ _ ⟨rfl,by omega,λk hk=>?_,c⟩ (by omega);by_cases e:k=j
    ·rw[e,N,O,Classical.not_not.1 M]
    ·exact H k (by omega)
  ·exact h2 _ (List.ext_getElem? λk=>by
    by_cases e:k<512
    ·exact H k (by omega)
    ·rw[List.getElem?_eq_none (by omega),List.getElem?_eq_none (by omega)]) c.gr
end
structure Good (es:List Et):Prop where
 len:1<=es.length/\es.length<=6
 pl:∀e∈es,56<=e.at'/\e.at'<62
 B9:∀(i j:Nat) (a b:Et),i<j->es[i]?=some a->es[j]?=some b->a.at'<b.at'
 ref:∀e∈es,e.old.ref=0
 aO:∀e∈es,0<=e.old.aO/\e.old.aO<16777216
 val:∀e∈es,xB e.old.v/\xB e.new
 kp:∀e∈es,e.wr=false->e.new=e.old.v
def cB (es:List Et):(aY es).length=1+3*es.length:=by
 have:(es.flatMap λe=>[yy e,yD e,yG e]).length=3*es.length:=by
  induction es with
  | nil=>rfl
  | cons e r h=>rw[List.flatMap_cons,List.length_append,h]; show 3+_=3*(_+1); omega
 rw[aY,List.length_cons,this]; omega
def Good.up {es:List Et} (g:Good es) {e:Et} (he:e∈es):Fe (yy e) (yD e) (yG e)=true/\yh (yy e) (yD e) (yG e)=e:=by
 have u:=g.pl e he;have h:=g.ref e he;obtain⟨a,⟨v,q,r⟩,n,b⟩:=e;dsimp only at u h;subst h;have:yh (yy ⟨a,⟨v,q,0⟩,n,b⟩) (yD ⟨a,⟨v,q,0⟩,n,b⟩) (yG ⟨a,⟨v,q,0⟩,n,b⟩)=⟨a,⟨v,q,0⟩,n,b⟩:=by
  cases b <;> rfl
 refine⟨decide_eq_true ⟨by show 0<=a/\a<4096; omega,?_⟩,this⟩;rw[this];exact⟨rfl,rfl,rfl⟩
def Good.Sk {es:List Et} (g:Good es) {e:Et} (he:e∈es):rQ e=0:=by
 have h1:=g.pl e he;have h2:=g.ref e he;have q:=g.aO e he;have h:=g.kp e he;unfold rQ qF;rw[if_neg (by omega),if_pos h2,if_neg (by omega),if_neg (by omega),if_neg (λx=>x.2 (h x.1))]
def Good.OZ {es:List Et} (g:Good es):∀(n i:Nat),es.length - i=n->AH (es.take i) (es.drop i)=0
 | 0,i,h=>by rw[List.drop_eq_nil_of_le (by omega)]; rfl
 | n+1,i,h=>by
  have hi:i<es.length:=by omega
  rw[List.drop_eq_getElem_cons hi,AH,if_neg (by rw[g.Sk (List.getElem_mem hi)]; simp),if_neg]
  ·have:=g.OZ n (i+1) (by omega);rwa [List.take_add_one,List.getElem?_eq_getElem hi] at this
  ·rw[Bool.not_eq_true,List.any_eq_false];intro y q;obtain⟨j,u,rfl⟩:=List.mem_iff_getElem.1 q;rw[List.length_take] at u;have:=g.B9 j i _ _ (by omega) (List.getElem?_eq_getElem (by omega:j<es.length)) (List.getElem?_eq_getElem hi);rw[List.getElem_take];simp only[decide_eq_true_eq];omega
def Good.check {es:List Et} (g:Good es):eP es=0:=by
 have:=g.len;unfold eP;rw[if_neg (by omega),if_neg (by omega)];exact g.OZ _ 0 rfl
abbrev kG (es:List Et):List W3:=es.flatMap λe=>[yy e,yD e,yG e]
def Good.may {es:List Et} (g:Good es) {e:Et} (he:e∈es):gX e.at'=true:=decide_eq_true (.inl (g.pl e he))
def Good.Ux {es:List Et} (g:Good es):∀(n i:Nat),es.length - i=n->i<=es.length->pV (kG (es.drop i)) (es.take i)=some es
 | 0,i,h,hi=>by
  rw[List.drop_eq_nil_of_le (by omega),List.take_of_length_le (by omega)];show(if eP es=0 then some es else none)=_;rw[if_pos g.check]
 | n+1,i,h,_=>by
  have hi:i<es.length:=by omega
  have hm:=List.getElem_mem hi;rw[List.drop_eq_getElem_cons hi];show pV (yy es[i]::yD es[i]::yG es[i]::kG (es.drop (i+1))) (es.take i)=_;have q:∀l,(es.take i).getLast?=some l->l.at'<es[i].at':=λl u=>by
   rw[List.getLast?_eq_getElem?,List.length_take,Nat.min_eq_left (by omega)] at u;have A:i - 1<i:=by
    rcases Nat.eq_zero_or_pos i with e | e
    ·subst e; simp at u
    ·omega
   rw[List.getElem?_take_of_lt A] at u;exact g.B9 (i - 1) i l _ A u (List.getElem?_eq_getElem hi)
  rw[pV,(g.up hm).2,if_pos ⟨(g.up hm).1,g.may hm,q⟩];have:=g.Ux n (i+1) (by omega) (by omega);rwa [List.take_add_one,List.getElem?_eq_getElem hi] at this
def Good.unpack {es:List Et} (g:Good es):pV (kG es) []=some es:=g.Ux _ 0 rfl (Nat.zero_le _)
def qm (es:List Et):aY es=⟨es.length,0,0⟩::kG es:=rfl
def sC (es:List Et):(kG es).length=3*es.length:=by
 have:=cB es;rw[qm,List.length_cons] at this;omega
abbrev Mem:=Nat->W3
def Lv {p:Nat} (h:p<512):jB ⟨5,p,W0,W0⟩:=⟨.inr ⟨.inr (.inr (.inr (.inl rfl))),Int.natCast_nonneg _,Int.ofNat_lt.2 h⟩,λ_=>rfl,λ_=>rfl,λh=>by dsimp only at h; omega⟩
def K8 {p:Nat} (h:p<512):jB ⟨1,p,W0,W0⟩:=⟨.inr ⟨.inl rfl,Int.natCast_nonneg _,Int.ofNat_lt.2 h⟩,λ_=>rfl,λ_=>rfl,λh=>by dsimp only at h; omega⟩
def LD {p:Nat} {o n:W3} (h:p<512) (q:Ww n):jB ⟨6,p,o,n⟩:=⟨.inr ⟨.inr (.inr (.inr (.inr (.inl rfl)))),Int.natCast_nonneg _,Int.ofNat_lt.2 h⟩,λh=>by dsimp only at h; omega,λh=>by dsimp only at h; omega,λ_=>q⟩
def yQ {p:Nat} {n:W3} {op:Int} (q:op=3\/op=4) (h:p<512) (u:Ww n):jB ⟨op,p,W0,n⟩:=⟨.inr ⟨by dsimp only; omega,Int.natCast_nonneg _,Int.ofNat_lt.2 h⟩,λ_=>rfl,λh=>by dsimp only at h; omega,λ_=>u⟩
def HY {p:Nat} (h:p<512):jB ⟨7,p,W0,W0⟩:=⟨.inr ⟨.inr (.inr (.inr (.inr (.inr rfl)))),Int.natCast_nonneg _,Int.ofNat_lt.2 h⟩,λ_=>rfl,λ_=>rfl,λh=>by dsimp only at h; omega⟩
def qw:jB ⟨8,0,W0,W0⟩:=⟨.inl rfl,λ_=>rfl,λ_=>rfl,λh=>by dsimp only at h; omega⟩
section
variable {post:List Hs->Mem->Prop} {k:Nat} {s:Hs} {a:Ac} {M M2:Mem} {r:Int} {A:Nat} {du:Bool} {es:List Et} {kk:HK}
structure Hr (r:Int) (du:Bool) (n:Nat) (s:Hs):Prop where
 ref:s.ref=r
 cH:s.cH=du
 en:s.ended=false
 es:s.es=[]
 i:s.i=0
 many:s.many=n
 ws:∀x∈s.ws,Ww x
 met:Ww s.met
end
section
variable {post:Sw->Mem->Prop} {k:Nat} {M:Mem} {du:Bool} {es:List Et} {t:Nat} {q:Int} {ph ph':SP}
def zw {s:Sw} {l:List Int} (h:∀p∈l,0<=p/\p<512):∀a∈gM s l,jB a:=by
 unfold gM;split
 ·intro a u;rcases List.mem_append.1 u with u | u
  ·obtain⟨p,A,rfl⟩:=List.mem_map.1 u;obtain⟨n,rfl⟩:∃n:Nat,p=n:=⟨p.toNat,by have:=h p A; omega⟩;exact HY (by have:=h _ A; omega)
  ·rw[List.mem_singleton] at u;subst u;exact qw
 ·intro a u; cases u
def zo:∀(f:List W3) (p:Nat),(∀w∈f,Ww w)->p+f.length<=512->∀a∈eZ f p,jB a
 | [],_,_,_,a,h=>by cases h
 | w::f,p,hw,u,a,h=>by
  have h:a∈(⟨3,p,W0,w⟩:Ac)::eZ f ((p:Int)+1):=h;rcases List.mem_cons.1 h with rfl | h
  ·exact yQ (.inl rfl) (by simp only[List.length_cons] at u; omega) (hw w List.mem_cons_self)
  ·rw[show((p:Int)+1)=((p+1:Nat):Int) by omega] at h;exact zo f (p+1) (λx A=>hw x (List.mem_cons_of_mem _ A)) (by simp only[List.length_cons] at u; omega) a h
def Ww.kG (g:Good es):∀w∈kG es,Ww w:=λw hw=>by
 obtain⟨e,he,hw⟩:=List.mem_flatMap.1 hw;have h:=g.pl e he;have h1:=g.aO e he;have h2:=g.val e he;simp only[List.mem_cons,List.not_mem_nil,or_false] at hw;rcases hw with rfl | rfl | rfl
 ·refine⟨⟨by show -9223372036854775808<=e.at'; omega,by show e.at'<=9223372036854775807; omega⟩,?_,⟨Int.le_refl 0,(by decide:(0:Int)<4294967296)⟩⟩;show 0<=(if e.wr=true then(1:Int) else 0)/\(if e.wr=true then(1:Int) else 0)<4294967296;split <;> omega
 ·exact⟨h2.1,by show 0<=e.old.aO/\e.old.aO<_; omega,⟨Int.le_refl 0,(by decide:(0:Int)<4294967296)⟩⟩
 ·exact⟨h2.2,⟨Int.le_refl 0,(by decide:(0:Int)<4294967296)⟩,⟨Int.le_refl 0,(by decide:(0:Int)<4294967296)⟩⟩
end
def R3 (M:Mem) (q:Int):Prop:=(q=0/\M 64=⟨2,0,0⟩)\/(1<=q/\∃h,Good h/\M 64=⟨1,q,0⟩/\M 65=⟨h.length,0,0⟩/\∀(j:Nat) w,(kG h)[j]?=some w->M (66+j)=w)
def LQ {ps:List Pt}:∀{n:Nat},∀p∈qL ps n,p.cell % 6<n
 | 0,p,h=>by unfold qL at h; simp at h
 | n+1,p,h=>by
  rw[rG] at h;rcases List.mem_append.1 h with h | h
  ·have:=LQ p h; omega
  ·rw[Option.mem_toList] at h;have:=List.find?_some h;simp only[beq_iff_eq] at this;omega
def Hd {ps:List Pt}:∀{n:Nat} (i j:Nat) (a b:Pt),i<j->(qL ps n)[i]?=some a->(qL ps n)[j]?=some b->a.cell % 6<b.cell % 6
 | 0,i,j,a,b,_,h,_=>by unfold qL at h; simp at h
 | n+1,i,j,a,b,q,h1,h2=>by
  rw[rG] at h1 h2;by_cases c:j<(qL ps n).length
  ·rw[List.getElem?_append_left (by omega)] at h1;rw[List.getElem?_append_left c] at h2;exact Hd i j a b q h1 h2
  ·rw[List.getElem?_append_right (by omega)] at h2;cases u:ps.find? λp=>p.cell % 6 == n with
   | none=>rw[u] at h2; simp at h2
   | some y=>
    rw[u] at h1 h2;have A:=List.find?_some u;simp only[beq_iff_eq] at A;have e:j - (qL ps n).length=0:=by
     have:=(List.getElem?_eq_some_iff.1 h2).1;simp only[Option.toList_some,List.length_singleton] at this;omega
    rw[e] at h2;simp only[Option.toList_some,List.getElem?_cons_zero,Option.some.injEq] at h2;subst h2;by_cases c2:i<(qL ps n).length
    ·rw[List.getElem?_append_left c2] at h1;have:=LQ a (List.mem_of_getElem? h1);omega
    ·omega
def Fx {ps:List Pt} (h:¬ps=[]):1<=(qL ps 6).length:=by
 cases ps with
 | nil=>exact absurd rfl h
 | cons p l=>
  have hm:((p::l).find? λy=>y.cell % 6 == p.cell % 6)=some p:=by rw[List.find?_cons_of_pos (by simp)]
  have:p∈qL (p::l) 6:=by
   unfold qL;exact List.mem_filterMap.2 ⟨p.cell % 6,List.mem_range.2 (by omega),hm⟩
  exact List.length_pos_of_mem this
def SC (z:Int):xB (uA z):=QO z
def lW (p:Pt):56<=bO p/\bO p<62:=by unfold bO; omega
structure QD (M:Mem) (n:Nat):Prop where
 ref:∀j,56<=j->j<62->(M j).ref=0
 aO:∀j,56<=j->j<62->(M j).aO<=n
 ww:∀i,Ww (M i)
def Good.Ta {es:List Et} (g:Good es):H7 es:=
 ⟨g.check,by have:=g.len; omega,λi a b h1 h2=>g.B9 i (i+1) a b (by omega) h1 h2,λe he=>g.may he,λe he=>⟨(g.val e he).1,by have:=g.aO e he; omega,by rw[g.ref e he]; decide⟩⟩
structure MI (M:Mem) (q qb:Int) (n:Nat):Prop where
 slot:R3 M q
 bits:M 376=W0
 cL:∃v,M 384=⟨v,qb,0⟩
 VI:QD M n
 qr:0<=q/\q<=n
 qb:0<=qb/\qb<=n
def nY {o:iZ} {r:List iZ}:∀{l:List iZ},iA l=o::r->¬o.ps=[]
 | [],h=>by cases h
 | x::l,h=>by
  by_cases c:x.ps=[]
  ·rw[p0 c] at h; exact nY h
  ·rw[ku c] at h;injection h with h1 h2;subst h1; exact c
def ui {c:Cn} {g:cP} {o:iZ} {r:List iZ} (u:iA c.ops=o::r) (A:c.broken=false) (B:¬o.d % 4=3) (h:(aR c g).length<(aL o).length):dR c g=({c with ops:=o::r,seen:=aR c g++[W0]},⟨5,((aL o).map bO).getD (aR c g).length 0,W0,W0⟩,false):=by
 unfold dR;rw[u];dsimp only;rw[if_neg (by rw[A]; decide),if_neg B];exact if_pos (show(aR c g).length<_ from h)
def mh {c c2:Cn} {a:Ac} {g:cP} {o:iZ} {r:List iZ} (A:iA c.ops=o::r) (B:c.broken=false) (E:¬o.d % 4=3) (h:¬(aR c g).length<(aL o).length) (u:jT {c with ops:=o::r} o (aL o) (aR c g)=(some c2,a)):dR c g=(c2,a,false):=by
 unfold dR;rw[A];dsimp only;rw[if_neg (by rw[B]; decide),if_neg E];refine(if_neg (show ¬(aR c g).length<_ from h)).trans ?_;unfold aR at u;rw[u]
def xo {c:Cn} {g:cP} (h:iA c.ops=[]):dR c g=({c with ops:=[]},jG,true):=by
 unfold dR;rw[h]
def MI.start {first:List Int} {i:Nat} (hi:i<=6) (A:∀z∈first,-128<=z/\z<=127):MI (sK first i) 0 0 0/\(∀j,Ww (sK first i j))/\∀j,(sK first i j).ref=0:=by
 have B:∀k,xB (first.getD k 0):=λk=>by
  rw[List.getD_eq_getElem?_getD];cases h:first[k]? with
  | none=>exact⟨by decide,by decide⟩
  | some z=>
   have:=A z (List.mem_of_getElem? h);exact⟨by show -9223372036854775808<=z; omega,by show z<=9223372036854775807; omega⟩
 have u:(0:Int)<=0/\(0:Int)<4294967296:=⟨by decide,by decide⟩;have key:∀j,Ww (sK first i j)/\(sK first i j).ref=0/\(sK first i j).aO=0:=λj=>by
  unfold sK;split
  ·exact⟨⟨B _,u,u⟩,rfl,rfl⟩
  ·unfold N5;split
   ·exact⟨⟨⟨by decide,by decide⟩,u,u⟩,rfl,rfl⟩
   ·unfold ML;split
    ·exact⟨⟨⟨by decide,by decide⟩,u,u⟩,rfl,rfl⟩
    ·split
     ·exact⟨⟨⟨by decide,by decide⟩,u,u⟩,rfl,rfl⟩
     ·exact⟨⟨⟨by decide,by decide⟩,u,u⟩,rfl,rfl⟩
 refine⟨⟨.inl ⟨rfl,?_⟩,?_,⟨2,?_⟩,⟨λj _ _=>(key j).2.1,λj _ _=>by rw[(key j).2.2]; exact Int.le_refl 0,λj=>(key j).1⟩,⟨by decide,by decide⟩,⟨by decide,by decide⟩⟩,λj=>(key j).1,λj=>(key j).2.1⟩
 ·unfold sK; rw[if_neg (by omega)]; rfl
 ·unfold sK; rw[if_neg (by omega)]; rfl
 ·unfold sK; rw[if_neg (by omega)]; rfl
structure Sh where
 W:Int->W3
 n:Int->Int
 v:Nat->Int->Int
 tv:Int->Int->Int
def Sh.quiet (s s':Sh):Prop:=(∀p,s'.W p=s.W p)/\(∀p,s'.n p=s.n p)/\(∀p j,s'.tv p j=s.tv p j)
inductive pr (t:Nat) (s s':Sh):Ac->cP->Prop where
 | look (p:Int) (o n:W3):s.quiet s'->(∀t j,s.v t j<=s'.v t j)->(∀j,s.tv p j<=s'.v t j)->pr t s s' ⟨5,p,o,n⟩ ⟨s.W p,true⟩
 | load (p:Int) (o n w:W3):s.quiet s'->(∀t j,s.v t j<=s'.v t j)->(s.n p - 1<=s.v t p->w=s.W p)->pr t s s' ⟨1,p,o,n⟩ ⟨w,true⟩
 | put (op p:Int) (o w:W3):op=3\/op=4->(∀j,s'.W j=if j=p then w else s.W j)->(∀j,s'.n j=if j=p then s.n p+1 else s.n j)->(∀k j,¬k=p->s'.tv k j=s.tv k j)->
   (∀t j,s.v t j<=s'.v t j)->s.n p<=s'.v t p->(op=4->∀j,s.v t j<=s'.tv p j)->pr t s s' ⟨op,p,o,w⟩ ⟨W0,true⟩
 | swapT (p:Int) (w:W3):(∀j,s'.W j=if j=p then w else s.W j)->(∀j,s'.n j=if j=p then s.n p+1 else s.n j)->(∀k j,¬k=p->s'.tv k j=s.tv k j)->
   (∀t j,s.v t j<=s'.v t j)->(∀j,s.tv p j<=s'.tv p j)->pr t s s' ⟨6,p,s.W p,w⟩ ⟨s.W p,true⟩
 | Pq (p:Int) (o w:W3):¬s.W p=o->s.quiet s'->(∀t j,s.v t j<=s'.v t j)->(∀j,s.tv p j<=s'.v t j)->pr t s s' ⟨6,p,o,w⟩ ⟨s.W p,false⟩
 | fP (op p:Int) (o n:W3):op=7\/op=8->s.quiet s'->(∀t j,s.v t j<=s'.v t j)->pr t s s' ⟨op,p,o,n⟩ ⟨W0,true⟩
abbrev Dg:Type:=Int->Option (List Et)
abbrev Vg:Type:=Int->Int
def bA (w:Int):Prop:=(1<=w/\w<=3)\/(9<=w/\w<=12)
def dC (s:Sh) (r:Int) (e:Et):Prop:=s.W e.at'=⟨e.old.v,e.old.aO,r⟩
def Live (s:Sh) (r:Int):Prop:=∃v,(0<=v/\v<=2)/\s.W (aC (aZ r))=⟨v,lB r,0⟩
def qK (s:Sh) (e:Et):Prop:=e.old.aO<(s.W e.at').aO
def pS (s:Sh) (p:Int) (l:List W3):Prop:=∀(k:Nat) (w:W3),l[k]?=some w->s.W (p+1+k)=w
def ud (f:Int->Int) (s:Sh) (p:Int) (l:List W3):Prop:=∀(k:Nat) (w:W3),l[k]?=some w->s.n (p+1+k) - 1<=f (p+1+k)
structure Og (D:Dg) (V:Vg) (N:Int) (s:Sh) (who:Int) (v q:Int):Prop where
 eq:s.W (aC who)=⟨v,q,0⟩
 vr:0<=v/\v<=3
 qr:0<=q/\q<=N
 z:q=0->v=2
 op:1<=q->v<=2->∃es,D (bT who q)=some es/\V (bT who q)=v/\pS s (aC who) (aY es)/\ud (s.tv (aC who)) s (aC who) (aY es)
 known:∀q',1<=q'/\q'<1000000->∀es,D (bT who q')=some es->q'<=q/\(q'=q->v<=2)
structure SI (D:Dg) (V:Vg) (N:Int) (s:Sh):Prop where
 st:∀who,bA who->∃v q,Og D V N s who v q
 ok:∀r es,D r=some es->Good es/\∃who q,bA who/\(1<=q/\q<=N)/\r=bT who q
 dec:∀r es,D r=some es->¬Live s r->V r=1\/V r=2
 cell:∀c,56<=c->c<62->¬(s.W c).ref=0->∃es e,D (s.W c).ref=some es/\e∈es/\e.at'=c/\dC s (s.W c).ref e
 ord:∀r es,D r=some es->V r=0->∀(i j:Nat) (a b:Et),i<j->es[i]?=some a->es[j]?=some b->dC s r b->dC s r a
 done:∀r es,D r=some es->V r=1->∀e∈es,e.wr=true->(dC s r e/\Live s r)\/qK s e
 aO:∀c,56<=c->c<62->0<=(s.W c).aO/\(s.W c).aO<=N
 nN:N<1000000
 val:∀c,56<=c->c<62->xB (s.W c).v
structure Gs (D:Dg) (V:Vg) (s:Sh) (D':Dg) (V':Vg) (s':Sh):Prop where
 dd:∀r es,D r=some es->D' r=some es
 vv:∀r es,D r=some es->¬V r=0->V' r=V r
 aO:∀c,56<=c->c<62->(s.W c).aO<=(s'.W c).aO
 live:∀r es,D r=some es->Live s' r->Live s r
 oW:∀r es,D r=some es->Live s' r->∀(k:Nat) (w:W3),(aY es)[k]?=some w->s'.W (aC (aZ r)+1+k)=s.W (aC (aZ r)+1+k)/\s'.n (aC (aZ r)+1+k)=s.n (aC (aZ r)+1+k)
 held:∀r es,D r=some es->V' r=0->∀e∈es,(s.W e.at').ref=r->s'.W e.at'=s.W e.at'
 vw:∀t j,s.v t j<=s'.v t j
def cY {w:Int} (h:bA w):(1<=w/\w<=3/\aC w=104*w - 40)\/(9<=w/\w<=12/\aC w=384+32*(w - 9)):=by
 rcases h with h | h
 ·left;refine⟨h.1,h.2,?_⟩;unfold aC eN;rw[if_neg (by omega),if_pos h]
 ·right;refine⟨h.1,h.2,?_⟩;unfold aC cK;rw[if_pos h.1,if_pos (by omega)]
def KD {w q:Int} (h:bA w) (u:1<=q/\q<1000000):Fw w q=true:=by
 unfold Fw bA at *;exact decide_eq_true (by omega)
def sM {w q:Int} (h:bA w) (u:1<=q/\q<1000000):bT w q / 16777216=w/\bT w q % 16777216=q:=by
 unfold bT bA at *;omega
def yK {w q:Int} (h:bA w) (u:1<=q/\q<1000000):aZ (bT w q)=w:=by
 unfold aZ;rw[(sM h u).1,(sM h u).2,if_pos (KD h u)]
def NU {w q:Int} (h:bA w) (u:1<=q/\q<1000000):lB (bT w q)=q:=by
 unfold lB;rw[(sM h u).1,(sM h u).2,if_pos (KD h u)]
def uF {w q w' u:Int} (h:bA w) (B:1<=q/\q<1000000) (h':bA w') (A:1<=u/\u<1000000) (e:bT w q=bT w' u):w=w'/\q=u:=by
 unfold bT bA at *;omega
def OP {w q:Int} (h:bA w) (u:1<=q/\q<1000000):16777216<bT w q:=by
 unfold bT bA at *;omega
section
variable {D D':Dg} {V V':Vg} {N:Int} {s s':Sh} {r:Int} {es:List Et} {e:Et}
structure Rf (who q:Int) (r:Int):Prop where
 wh:bA who
 qr:1<=q/\q<1000000
 eq:r=bT who q
def SI.rf (H:SI D V N s) (h:D r=some es):∃who q,Rf who q r/\q<=N/\Good es:=by
 obtain⟨g,who,q,h1,h2,u⟩:=H.ok r es h;exact⟨who,q,⟨h1,⟨h2.1,by have:=H.nN; omega⟩,u⟩,h2.2,g⟩
def Rf.w {who q:Int} (h:Rf who q r):aZ r=who:=by rw[h.eq]; exact yK h.wh h.qr
def Rf.sq {who q:Int} (h:Rf who q r):lB r=q:=by rw[h.eq]; exact NU h.wh h.qr
def Rf.pos {who q:Int} (h:Rf who q r):16777216<r:=by rw[h.eq]; exact OP h.wh h.qr
def SI.pos (H:SI D V N s) (h:D r=some es):16777216<r:=let⟨_,_,f,_⟩:=H.rf h; f.pos
def Rf.live {who q:Int} (h:Rf who q r):Live s r↔∃v,(0<=v/\v<=2)/\s.W (aC who)=⟨v,q,0⟩:=by
 unfold Live; rw[h.w,h.sq]
def SI.live (H:SI D V N s) {who q:Int} (f:Rf who q r) (h:D r=some es) (l:Live s r):Og D V N s who (V r) q/\0<=V r/\V r<=2/\pS s (aC who) (aY es)/\ud (s.tv (aC who)) s (aC who) (aY es):=by
 obtain⟨v,hv,e⟩:=f.live.1 l;obtain⟨E,F,I⟩:=H.st who f.wh;have:=I.eq.symm.trans e;simp only[W3.mk.injEq] at this;obtain⟨rfl,rfl,_⟩:=this;obtain⟨u,h1,h2,A,B⟩:=I.op f.qr.1 hv.2;rw[<-f.eq,h] at h1;cases h1
 rw[<-f.eq] at h2;exact⟨h2▸I,h2▸hv.1,h2▸hv.2,A,B⟩
def SI.TE (H:SI D V N s) (h:D r=some es):V r=0\/V r=1\/V r=2:=by
 obtain⟨who,q,f,_,_⟩:=H.rf h;by_cases l:Live s r
 ·have:=H.live f h l;omega
 ·exact .inr (H.dec r es h l)
def SI.EZ (H:SI D V N s) (h:D r=some es) (v:V r=0):Live s r:=by
 by_cases l:Live s r
 ·exact l
 ·have:=H.dec r es h l; omega
def Good.inj (g:Good es) {a b:Et} (u:a∈es) (A:b∈es) (e:a.at'=b.at'):a=b:=by
 obtain⟨i,hi,rfl⟩:=List.mem_iff_getElem.1 u;obtain⟨j,q,rfl⟩:=List.mem_iff_getElem.1 A;rcases Nat.lt_trichotomy i j with h | h | h
 ·have:=g.B9 i j _ _ h (List.getElem?_eq_getElem hi) (List.getElem?_eq_getElem q); omega
 ·subst h; rfl
 ·have:=g.B9 j i _ _ h (List.getElem?_eq_getElem q) (List.getElem?_eq_getElem hi); omega
def SI.Di (H:SI D V N s) (h:D r=some es) (he:e∈es) (q:(s.W e.at').ref=r):dC s r e:=by
 obtain⟨_,_,f,_,g⟩:=H.rf h;have E:=f.pos;obtain⟨A,F,h1,h2,B,u⟩:=H.cell e.at' (g.pl e he).1 (g.pl e he).2 (by omega);rw[q,h] at h1;cases h1
 obtain rfl:=g.inj h2 he B;rw[q] at u;exact u
def SI.mono (H:SI D V N s) {M:Int} (h:N<=M) (u:M<1000000):SI D V M s:=by
 refine⟨λwho hw=>?_,λr es A=>?_,H.dec,H.cell,H.ord,H.done,λc h1 h2=>?_,u,H.val⟩
 ·obtain⟨v,q,I⟩:=H.st who hw;exact⟨v,q,I.eq,I.vr,⟨I.qr.1,by have:=I.qr.2; omega⟩,I.z,I.op,I.known⟩
 ·obtain⟨g,w,q,h1,h2,B⟩:=H.ok r es A;exact⟨g,w,q,h1,⟨h2.1,by omega⟩,B⟩
 ·have:=H.aO c h1 h2; omega
def SI.quiet (H:SI D V N s) (h:s.quiet s') (hv:∀t j,s.v t j<=s'.v t j):SI D V N s'/\Gs D V s D V s':=by
 obtain⟨J,K,L⟩:=h;have u:s'.W=s.W:=funext J;have en:s'.n=s.n:=funext K;have et:s'.tv=s.tv:=funext λp=>funext λj=>L p j;have E:∀r,Live s' r↔Live s r:=λr=>by unfold Live; rw[u]
 have A:∀r e,dC s' r e↔dC s r e:=λr e=>by unfold dC; rw[u]
 refine⟨⟨λwho hw=>?_,H.ok,λr es h l=>H.dec r es h (λx=>l ((E r).2 x)),?_,?_,?_,?_,H.nN,λc h1 h2=>by rw[u]; exact H.val c h1 h2⟩,⟨λ_ _ h=>h,λ_ _ _ _=>rfl,λc _ _=>by rw[u]; exact Int.le_refl _,λr _ _ l=>(E r).1 l,λ_ _ _ _ k w _=>by rw[u,en]; exact⟨rfl,rfl⟩,λ_ _ _ _ e _ _=>by rw[u],hv⟩⟩
 ·obtain⟨v,q,I⟩:=H.st who hw;refine⟨v,q,⟨by rw[u]; exact I.eq,I.vr,I.qr,I.z,λa b=>?_,I.known⟩⟩;obtain⟨es,h1,h2,B,M⟩:=I.op a b;exact⟨es,h1,h2,λk w F=>by rw[u]; exact B k w F,λk w F=>by rw[en,et]; exact M k w F⟩
 ·intro c h1 h2 B;rw[u] at B⊢;obtain⟨es,e,a,b,d,f⟩:=H.cell c h1 h2 B;exact⟨es,e,a,b,d,(A _ _).2 f⟩
 ·intro r es h v i j a b G O Q R;exact(A _ _).2 (H.ord r es h v i j a b G O Q ((A _ _).1 R))
 ·intro r es h v e he hw;rcases H.done r es h v e he hw with ⟨a,b⟩| a
  ·exact .inl ⟨(A _ _).2 a,(E _).2 b⟩
  ·right; unfold qK at *; rw[u]; exact a
 ·intro c h1 h2;rw[u]; exact H.aO c h1 h2
structure Wr (s s':Sh) (p:Int) (w:W3):Prop where
 W:∀j,s'.W j=if j=p then w else s.W j
 n:∀j,s'.n j=if j=p then s.n p+1 else s.n j
 tv:∀k j,¬k=p->s'.tv k j=s.tv k j
 v:∀t j,s.v t j<=s'.v t j
def Wr.ne {p:Int} {w:W3} (h:Wr s s' p w) {j:Int} (e:¬j=p):s'.W j=s.W j:=by rw[h.W,if_neg e]
def Wr.self {p:Int} {w:W3} (h:Wr s s' p w):s'.W p=w:=by rw[h.W,if_pos rfl]
def Wr.I2 {p:Int} {w:W3} (h:Wr s s' p w) {j:Int} (e:¬j=p):s'.n j=s.n j:=by rw[h.n,if_neg e]
section
variable {c:Int} {w:W3}
def Wr.live (h:Wr s s' c w) (u:56<=c/\c<62) {who q:Int} (f:Rf who q r):Live s' r↔Live s r:=by
 rw[f.live,f.live,h.ne (by have:=cY f.wh; omega)]
def Og.cell (h:Wr s s' c w) (E:56<=c/\c<62) {who v q:Int} (hw:bA who) (I:Og D V N s who v q):Og D V N s' who v q:=by
 have F:=cY hw;refine⟨by rw[h.ne (by omega)]; exact I.eq,I.vr,I.qr,I.z,λa b=>?_,I.known⟩;obtain⟨es,h1,h2,A,B⟩:=I.op a b;exact⟨es,h1,h2,λk x u=>by rw[h.ne (by omega)]; exact A k x u,λk x u=>by rw[h.I2 (by omega),h.tv _ _ (by omega)]; exact B k x u⟩
def Wr.oW (h:Wr s s' c w) (u:56<=c/\c<62) (H:SI D V N s) (hD:D r=some es):∀(k:Nat) (x:W3),(aY es)[k]?=some x->s'.W (aC (aZ r)+1+k)=s.W (aC (aZ r)+1+k)/\s'.n (aC (aZ r)+1+k)=s.n (aC (aZ r)+1+k):=λk x _=>by
 obtain⟨who,q,f,_⟩:=H.rf hD;rw[f.w];have:=cY f.wh;exact⟨h.ne (by omega),h.I2 (by omega)⟩
def SI.LZ (H:SI D V N s) (h:Wr s s' c w) (Z:56<=c/\c<62) (hN:N+1<1000000)
  (J:(s.W c).aO<=w.aO/\w.aO<=N+1) (K:xB w.v)
  (E:¬w.ref=0->∃es e,D w.ref=some es/\e∈es/\e.at'=c/\w=⟨e.old.v,e.old.aO,w.ref⟩)
  (L:∀r es,D r=some es->V r=0->w.ref=r->∀(i j:Nat) (a b:Et),i<j->es[i]?=some a->es[j]?=some b->b.at'=c->dC s r a)
  (A:∀r es,D r=some es->V r=0->∀e∈es,e.at'=c->¬(s.W c).ref=r)
  (F:∀r es,D r=some es->V r=1->∀e∈es,e.wr=true->e.at'=c->dC s r e->Live s r->e.old.aO<w.aO) :
  SI D V (N+1) s'/\Gs D V s D V s':=by
 have hl:∀{r es},D r=some es->(Live s' r↔Live s r):=λhD=>let⟨_,_,f,_⟩:=H.rf hD; h.live Z f;refine⟨⟨λwho hw=>?_,λr es hD=>?_,λr es hD l=>H.dec r es hD λx=>l ((hl hD).2 x),λc' h1 h2 T=>?_,λr es hD hv i j a b O ha hb U=>?_,λr es hD hv e he hw=>?_,λc' h1 h2=>?_,hN,λc' h1 h2=>by
  by_cases u:c'=c
  ·subst u; rw[h.self]; exact K
  ·rw[h.ne u]; exact H.val c' h1 h2⟩,⟨λ_ _ h=>h,λ_ _ _ _=>rfl,λc' h1 h2=>?_,λr es hD l=>(hl hD).1 l,λr es hD _=>h.oW Z H hD,λr es hD hv e he hr=>?_,h.v⟩⟩
 ·obtain⟨v,q,I⟩:=(H.mono (M:=N+1) (by omega) hN).st who hw;exact⟨v,q,I.cell h Z hw⟩
 ·exact(H.mono (M:=N+1) (by omega) hN).ok r es hD
 ·by_cases u:c'=c
  ·subst u;rw[h.self] at T⊢;obtain⟨es,e,B,G,Q,X⟩:=E T;refine⟨es,e,B,G,Q,?_⟩;unfold dC;rw[Q,h.self]; exact X
  ·rw[h.ne u] at T⊢;obtain⟨es,e,B,G,Q,X⟩:=H.cell c' h1 h2 T;refine⟨es,e,B,G,Q,?_⟩;unfold dC at *;rw[Q] at X⊢;rw[h.ne u]; exact X
 ·obtain⟨_,_,f,_,g⟩:=H.rf hD;have hp:=f.pos;have fP:∀x∈es,dC s r x->dC s' r x:=λx hx hX=>by
   unfold dC at *;rw[h.ne]; exact hX;intro u;exact A r es hD hv x hx u (by rw[<-u,hX])
  have R:=List.mem_of_getElem? ha;by_cases u:b.at'=c
  ·have e2:w.ref=r:=by
    unfold dC at U;rw[u,h.self] at U;rw[U]
   exact fP a R (L r es hD hv e2 i j a b O ha hb u)
  ·have aS:dC s r b:=by unfold dC at *; rwa [h.ne u] at U
   exact fP a R (H.ord r es hD hv i j a b O ha hb aS)
 ·rcases H.done r es hD hv e he hw with ⟨B,G⟩| B
  ·by_cases u:e.at'=c
   ·right;unfold qK;rw[u,h.self];exact F r es hD hv e he hw u B G
   ·left;exact⟨by unfold dC at *; rw[h.ne u]; exact B,(hl hD).2 G⟩
  ·right;unfold qK at *;by_cases u:e.at'=c
   ·rw[u,h.self]; rw[u] at B; omega
   ·rw[h.ne u]; exact B
 ·by_cases u:c'=c
  ·subst u; rw[h.self]; have:=H.aO c' h1 h2; omega
  ·rw[h.ne u]; have:=H.aO c' h1 h2; omega
 ·by_cases u:c'=c
  ·subst u; rw[h.self]; exact J.1
  ·rw[h.ne u]; exact Int.le_refl _
 ·rw[h.ne];intro u;exact A r es hD hv e he u (by rw[<-u]; exact hr)
def SI.sV (H:SI D V N s) (Q:N+1<1000000) (hD:D r=some es) {i:Nat} (he:es[i]?=some e) (h:Wr s s' e.at' ⟨e.old.v,e.old.aO,r⟩) (hw:s.W e.at'=e.old)
  (R:V r=0->∀j a,j<i->es[j]?=some a->dC s r a):SI D V (N+1) s'/\Gs D V s D V s':=by
 obtain⟨_,_,f,_,g⟩:=H.rf hD;have hm:=List.mem_of_getElem? he;have L:=f.pos;have M:(s.W e.at').ref=0:=by rw[hw]; exact g.ref e hm
 refine H.LZ h (g.pl e hm) Q ⟨by rw[hw]; exact Int.le_refl _,?_⟩ (g.val e hm).1 (λ_=>⟨es,e,hD,hm,rfl,rfl⟩) (λE u q hv O T j a b F U B G=>?_) (λE u q hv X J A O=>?_) λE u q hv X J Z A K _=>?_
 ·have:=H.aO e.at' (g.pl e hm).1 (g.pl e hm).2;rw[hw] at this;show e.old.aO<=N+1;omega
 ·obtain rfl:r=E:=O;rw[hD] at q;cases q
  obtain rfl:=g.inj (List.mem_of_getElem? B) hm G;have:j=i:=by
   obtain⟨hj,e1⟩:=List.getElem?_eq_some_iff.1 B;obtain⟨hi,e2⟩:=List.getElem?_eq_some_iff.1 he;rcases Nat.lt_trichotomy j i with x | x | x
   ·have:=g.B9 j i _ _ x B he; omega
   ·exact x
   ·have:=g.B9 i j _ _ x he B; omega
  subst this;exact R hv T a F U
 ·have:=H.pos q;omega
 ·have:=H.pos q;unfold dC at K;rw[A] at K;rw[K] at M;dsimp only at M;omega
def SI.free (H:SI D V N s) (O:N+1<1000000) (hD:D r=some es) (he:e∈es) {w:W3} (h:Wr s s' e.at' w) (hw:dC s r e) (Q:¬V r=0)
  (G:(w=⟨e.old.v,e.old.aO,0⟩/\(V r=1->e.wr=true->¬Live s r))\/(w=⟨e.new,e.old.aO+1,0⟩)):SI D V (N+1) s'/\Gs D V s D V s':=by
 obtain⟨_,_,f,_,g⟩:=H.rf hD;have A:=H.aO e.at' (g.pl e he).1 (g.pl e he).2;have u:s.W e.at'=⟨e.old.v,e.old.aO,r⟩:=hw;rw[u] at A;dsimp only at A;have w0:w.ref=0:=by rcases G with ⟨rfl,_⟩| rfl <;> rfl
 refine H.LZ h (g.pl e he) O ?_ (by rcases G with ⟨rfl,_⟩| rfl; exact(g.val e he).1; exact(g.val e he).2) (λx=>absurd w0 x) (λK E q hv L=>?_) (λK E q hv R F B L=>?_) λK E q hv R F M B J T=>?_
 ·rw[u];rcases G with ⟨rfl,_⟩| rfl <;> (dsimp only; omega)
 ·have:=H.pos q;omega
 ·rw[u] at L;exact Q (by rw[show r=K from L]; exact hv)
 ·unfold dC at J;rw[B,u] at J;simp only[W3.mk.injEq] at J;obtain⟨_,h2,rfl⟩:=J;rw[hD] at q;cases q
  obtain rfl:=g.inj he F B.symm;rcases G with ⟨rfl,x⟩| rfl
  ·exact absurd T (x hv M)
  ·dsimp only; omega
def SI.QP (H:SI D V N s) (M:N+1<1000000) {v:Int} (u:xB v) (F:56<=c/\c<62) (h:Wr s s' c ⟨v,(s.W c).aO+1,0⟩) (E:(s.W c).ref=0):SI D V (N+1) s'/\Gs D V s D V s':=by
 have K:=H.aO c F.1 F.2;refine H.LZ h F M ⟨by dsimp only; omega,by dsimp only; omega⟩ u (λx=>absurd rfl x) (λL A q hv E=>?_) (λL A q hv O G B Q=>?_) λL A q hv O G R B J T=>?_
 ·have:=H.pos q;dsimp only at E;omega
 ·have:=H.pos q;omega
 ·unfold dC at J;rw[B] at J;rw[J] at E;have:=H.pos q;dsimp only at E;omega
end
end
section
variable {D D':Dg} {V V':Vg} {N:Int} {s s':Sh} {r:Int} {es:List Et} {e:Et} {p:Int} {w:W3}
def SI.out (H:SI D V N s) {B:Int} (hN:N<=B) (L:B<1000000) (u:∀c,56<=c->c<62->s'.W c=s.W c) (hv:∀t j,s.v t j<=s'.v t j)
  (dd:∀r es,D r=some es->D' r=some es) (vv:∀r es,D r=some es->¬V r=0->V' r=V r)
  (M:∀who,bA who->∃v q,Og D' V' B s' who v q)
  (h:∀r es,D' r=some es->Good es/\∃who q,bA who/\(1<=q/\q<=B)/\r=bT who q)
  (E:∀r es,D' r=some es->¬Live s' r->V' r=1\/V' r=2)
  (F:∀r es,D' r=some es->V' r=0->(D r=some es/\V r=0)\/∀c,56<=c->c<62->¬(s.W c).ref=r)
  (A:∀r es,D' r=some es->V' r=1->∀e∈es,e.wr=true->(dC s r e/\Live s' r)\/qK s e)
  (Z:∀r es,D r=some es->Live s' r->Live s r)
  (hf:∀r es,D r=some es->Live s' r->∀(k:Nat) (w:W3),(aY es)[k]?=some w->s'.W (aC (aZ r)+1+k)=s.W (aC (aZ r)+1+k)/\s'.n (aC (aZ r)+1+k)=s.n (aC (aZ r)+1+k)) :
  SI D' V' B s'/\Gs D V s D' V' s':=by
 have G:∀{r es e},D' r=some es->e∈es->(dC s' r e↔dC s r e):=λ{r es e} hD he=>by
  have g:=(h r es hD).1.pl e he;unfold dC;rw[u _ g.1 g.2]
 refine⟨⟨M,h,E,λc h1 h2 Q=>?_,λr es hD hv i j a b O R K T=>?_,λr es hD hv e he hw=>?_,λc h1 h2=>?_,L,λc h1 h2=>by rw[u c h1 h2]; exact H.val c h1 h2⟩,⟨dd,vv,λc h1 h2=>by rw[u c h1 h2]; exact Int.le_refl _,Z,hf,λr es hD hv e he hr=>?_,hv⟩⟩
 ·rw[u c h1 h2] at Q⊢;obtain⟨es,e,U,X,a3,a4⟩:=H.cell c h1 h2 Q;exact⟨es,e,dd _ _ U,X,a3,(G (dd _ _ U) X).2 a4⟩
 ·rcases F r es hD hv with ⟨x,y⟩| x
  ·exact(G hD (List.mem_of_getElem? R)).2 (H.ord r es x y i j a b O R K ((G hD (List.mem_of_getElem? K)).1 T))
  ·have J:=(G hD (List.mem_of_getElem? K)).1 T;have g:=(h r es hD).1.pl b (List.mem_of_getElem? K);unfold dC at J;exact absurd (by rw[J]) (x b.at' g.1 g.2)
 ·rcases A r es hD hv e he hw with ⟨x,y⟩| x
  ·exact .inl ⟨(G hD he).2 x,y⟩
  ·right;have g:=(h r es hD).1.pl e he;unfold qK at *;rw[u _ g.1 g.2]; exact x
 ·rw[u c h1 h2];have:=H.aO c h1 h2;omega
 ·have g:=(H.ok r es hD).1.pl e he;exact u _ g.1 g.2
def cZ {a b:Int} (q:bA a) (u:bA b) (h:¬a=b):aC a+32<=aC b\/aC b+32<=aC a:=by
 have:=cY q;have:=cY u;omega
def Og.other (H:SI D V N s) (h:Wr s s' p w) {who a v q:Int} (J:bA a) (hw:bA who) (F:¬who=a) (O:aC a<=p/\p<aC a+32) (I:Og D V N s who v q)
  (B:∀u,1<=u/\u<1000000->(D' (bT who u)=D (bT who u)/\V' (bT who u)=V (bT who u))) {G:Int} (Q:N<=G):Og D' V' G s' who v q:=by
 have K:=cZ hw J F;have:=cY hw;have R:=I.qr;have T:=H.nN;refine⟨by rw[h.ne (by omega)]; exact I.eq,I.vr,⟨I.qr.1,by omega⟩,I.z,λa b=>?_,λu h1 es h2=>?_⟩
 ·obtain⟨es,h1,h2,L,M⟩:=I.op a b;have U:=cB es;have g:=(H.ok _ _ h1).1.len;have E:∀(k:Nat) (x:W3),(aY es)[k]?=some x->k<19:=λk x A=>by have:=(List.getElem?_eq_some_iff.1 A).1; omega
  have e:=B q ⟨a,by omega⟩;refine⟨es,e.1.trans h1,e.2.trans h2,?_,?_⟩
  ·intro k x A;have:=E k x A;rw[h.ne (by omega)]; exact L k x A
  ·intro k x A;have:=E k x A;rw[h.I2 (by omega),h.tv _ _ (by omega)]; exact M k x A
 ·have e:=B u h1;exact I.known u h1 es (e.1▸h2)
def Wr.HM (h:Wr s s' p w) {who q a:Int} (f:Rf who q r) (A:bA a) (u:¬who=a) (E:aC a<=p/\p<aC a+32):Live s' r↔Live s r:=by
 have B:=cZ f.wh A u;rw[f.live,f.live,h.ne (by omega)]
def Wr.PS (h:Wr s s' p w) {who q a:Int} (f:Rf who q r) (A:bA a) (u:¬who=a) (F:aC a<=p/\p<aC a+32) (g:Good es) (k:Nat) (x:W3) (B:(aY es)[k]?=some x) :
  s'.W (aC (aZ r)+1+k)=s.W (aC (aZ r)+1+k)/\s'.n (aC (aZ r)+1+k)=s.n (aC (aZ r)+1+k):=by
 have E:=cZ f.wh A u;have G:=cB es;have g:=g.len;have:=(List.getElem?_eq_some_iff.1 B).1;rw[f.w];exact⟨h.ne (by omega),h.I2 (by omega)⟩
def Fo (V:Vg) (r z:Int):Vg:=λx=>if x=r then z else V x
def Ns (D:Dg) (r:Int) (es:List Et):Dg:=λx=>if x=r then some es else D x
def SI.decide (H:SI D V N s) (hN:N+1<1000000) {who q z:Int} (f:Rf who q r) (hD:D r=some es) (hs:s.W (aC who)=⟨0,q,0⟩) (hz:z=1\/z=2) (h:Wr s s' (aC who) ⟨z,q,0⟩) (ht:∀j,s.tv (aC who) j<=s'.tv (aC who) j)
  (O:z=1->∀e∈es,dC s r e):SI D (Fo V r z) (N+1) s'/\Gs D V s D (Fo V r z) s':=by
 have dO:=cY f.wh;have lr:Live s r:=f.live.2 ⟨0,by omega,hs⟩;have Z:Live s' r:=f.live.2 ⟨z,by omega,h.self⟩;obtain⟨I,_,_,_,_⟩:=H.live f hD lr;have Q:V r=0:=by
  have:=I.eq.symm.trans hs;simp only[W3.mk.injEq] at this;exact this.1
 rw[Q] at I;have R:∀E,¬E=r->Fo V r z E=V E:=λE e=>if_neg e;have K:Fo V r z r=z:=if_pos rfl;have T:∀u,bA u->¬u=who->∀J,1<=J/\J<1000000->¬bT u J=r:=λu G aS J aT e=>by
  rw[f.eq] at e;exact aS (uF G aT f.wh f.qr e).1
 have F:∀{E B},D E=some B->(Live s' E↔Live s E):=λ{E B} A=>by
  obtain⟨u,J,L,_,_⟩:=H.rf A;by_cases e:u=who
  ·subst e;rw[L.live,L.live,h.self,hs];simp only[W3.mk.injEq,and_true];constructor <;> rintro⟨v,hv,_,rfl⟩
   ·exact⟨0,by omega,rfl,rfl⟩
   ·exact⟨z,by omega,rfl,rfl⟩
  ·exact h.HM L f.wh e (by omega)
 refine H.out (by omega) hN (λc h1 h2=>h.ne (by omega)) h.v (λ_ _ x=>x) (λE B A hv=>R E λe=>hv (e▸Q)) (λu G=>?_) (λE B A=>?_) (λE B A X=>?_) (λE B A hv=>?_) (λE B A hv e he hw=>?_) (λE B A=>(F A).1) λE B A X k x U=>?_
 ·by_cases e:u=who
  ·subst e;refine⟨z,q,h.self,by omega,by have:=I.qr; omega,λx=>by have:=f.qr; omega,λa b=>?_,λJ h1 es h2=>⟨(I.known J h1 es h2).1,λ_=>by omega⟩⟩;obtain⟨B,h1,h2,h3,h4⟩:=I.op a (by omega);have X:=cB B;have g:=(H.ok _ _ h1).1.len;refine⟨B,h1,by rw[<-f.eq]; exact K,λk x U=>?_,λk x U=>?_⟩
   ·rw[h.ne (by omega)]; exact h3 k x U
   ·rw[h.I2 (by omega)];have:=h4 k x U;have:=ht (aC u+1+k);omega
  ·obtain⟨v',J,I'⟩:=H.st u G;exact⟨v',J,I'.other H h f.wh G e (by omega) (λbY hq=>⟨rfl,R _ (T u G e bY hq)⟩) (by omega)⟩
 ·exact(H.mono (M:=N+1) (by omega) hN).ok E B A
 ·have:=H.dec E B A λx=>X ((F A).2 x);rw[R]; exact this;intro e;subst e;omega
 ·by_cases e:E=r
  ·subst e; rw[K] at hv; omega
  ·rw[R E e] at hv; exact .inl ⟨A,hv⟩
 ·by_cases e1:E=r
  ·subst e1;rw[hD] at A;cases A
   rw[K] at hv;exact .inl ⟨O hv e he,Z⟩
  ·rw[R E e1] at hv;rcases H.done E B A hv e he hw with ⟨x,y⟩| x
   ·exact .inl ⟨x,(F A).2 y⟩
   ·exact .inr x
 ·obtain⟨u,J,L,_,g⟩:=H.rf A;rw[L.w];have X:=cB B;have g:=g.len;have:=(List.getElem?_eq_some_iff.1 U).1;have eQ:=cY L.wh;by_cases e:u=who
  ·subst e;exact⟨h.ne (by omega),h.I2 (by omega)⟩
  ·have:=cZ L.wh f.wh e;exact⟨h.ne (by omega),h.I2 (by omega)⟩
def kg (D:Dg) (V:Vg) (s:Sh) (who:Int):Prop:=∀q es,1<=q/\q<1000000->D (bT who q)=some es->¬V (bT who q)=0/\(V (bT who q)=1->∀e∈es,e.wr=true->qK s e)
def SI.NT (H:SI D V N s) (Q:N+1<1000000) {who v q J:Int} (hw:bA who) (hs:s.W (aC who)=⟨v,q,0⟩) (U:q<J/\J<=N+1) (h:Wr s s' (aC who) ⟨3,J,0⟩) (X:kg D V s who) :
  SI D V (N+1) s'/\Gs D V s D V s':=by
 have Z:=cY hw;have aS:0<=q:=by
  obtain⟨R,J,I⟩:=H.st who hw;have:=I.eq.symm.trans hs;simp only[W3.mk.injEq] at this;have:=I.qr;omega
 have F:∀{B A},D B=some A->(Live s' B↔Live s B/\¬aZ B=who):=λ{B A} u=>by
  obtain⟨E,J,G,_,_⟩:=H.rf u;rw[G.w];by_cases e:E=who
  ·subst e;rw[G.live,h.self];simp only[W3.mk.injEq,and_true,not_true,and_false,iff_false];rintro⟨v,hv,rfl,_⟩;omega
  ·rw[h.HM G hw e (by omega)];exact⟨λx=>⟨x,e⟩,λx=>x.1⟩
 have rd:∀{B A},D B=some A->aZ B=who->¬V B=0/\(V B=1->∀e∈A,e.wr=true->qK s e):=λ{B A} u e=>by
  obtain⟨E,J,G,_,_⟩:=H.rf u;rw[G.w] at e;subst e;have:=X J A G.qr (by rw[<-G.eq]; exact u);rwa [<-G.eq] at this
 refine H.out (by omega) Q (λc h1 h2=>h.ne (by omega)) h.v (λ_ _ x=>x) (λB A u hv=>rfl) (λE K=>?_) (λB A u=>?_) (λB A u O=>?_) (λB A u hv=>.inl ⟨u,hv⟩) (λB A u hv e he L=>?_) (λB A u l=>((F u).1 l).1) λB A u O k x hx=>?_
 ·by_cases e:E=who
  ·subst e;refine⟨3,J,h.self,by omega,by omega,λx=>by omega,λa b=>by omega,λq2 h1 es h2=>?_⟩;obtain⟨v0,q0,I⟩:=H.st E K;have:=I.eq.symm.trans hs;simp only[W3.mk.injEq] at this;have:=I.known q2 h1 es h2;exact⟨by omega,λ_=>by omega⟩
  ·obtain⟨R,q2,I'⟩:=H.st E K;exact⟨R,q2,I'.other H h hw K e (by omega) (λaT U=>⟨rfl,rfl⟩) (by omega)⟩
 ·exact(H.mono (M:=N+1) (by omega) Q).ok B A u
 ·by_cases e:aZ B=who
  ·have:=rd u e;have:=H.TE u;omega
  ·exact H.dec B A u λx=>O ((F u).2 ⟨x,e⟩)
 ·by_cases T:aZ B=who
  ·exact .inr ((rd u T).2 hv e he L)
  ·rcases H.done B A u hv e he L with ⟨x,y⟩| x
   ·exact .inl ⟨x,(F u).2 ⟨y,T⟩⟩
   ·exact .inr x
 ·obtain⟨E,J,G,_,g⟩:=H.rf u;have:=((F u).1 O).2;rw[G.w] at this;exact h.PS G hw this (by omega) g k x hx
def SI.field (H:SI D V N s) (O:N+1<1000000) {who q:Int} (hw:bA who) (hs:s.W (aC who)=⟨3,q,0⟩) (hp:aC who<p/\p<aC who+32) (h:Wr s s' p w):SI D V (N+1) s'/\Gs D V s D V s':=by
 have Q:=cY hw;have E:∀{F A},D F=some A->(Live s' F↔Live s F):=λ{F A} u=>by
  obtain⟨B,R,J,_,_⟩:=H.rf u;by_cases e:B=who
  ·subst e;rw[J.live,J.live,h.ne (by omega)]
  ·exact h.HM J hw e (by omega)
 refine H.out (by omega) O (λc h1 h2=>h.ne (by omega)) h.v (λ_ _ x=>x) (λF A u hv=>rfl) (λB G=>?_) (λF A u=>?_) (λF A u K=>?_) (λF A u hv=>.inl ⟨u,hv⟩) (λF A u hv e he L=>?_) (λF A u l=>(E u).1 l) λF A u K k x T=>?_
 ·by_cases e:B=who
  ·subst e;obtain⟨v0,U,I⟩:=H.st B G;have:=I.eq.symm.trans hs;simp only[W3.mk.injEq,and_true] at this;obtain⟨e3,rfl⟩:=this;have:=I.qr;exact⟨3,U,by rw[h.ne (by omega),hs],by omega,by omega,λx=>by have:=I.z (by omega); omega,λa b=>by omega,λq2 h1 es h2=>by have:=I.known q2 h1 es h2; omega⟩
  ·obtain⟨X,q2,Z⟩:=H.st B G;exact⟨X,q2,Z.other H h hw G e (by omega) (λaS hq=>⟨rfl,rfl⟩) (by omega)⟩
 ·exact(H.mono (M:=N+1) (by omega) O).ok F A u
 ·exact H.dec F A u λx=>K ((E u).2 x)
 ·rcases H.done F A u hv e he L with ⟨x,y⟩| x
  ·exact .inl ⟨x,(E u).2 y⟩
  ·exact .inr x
 ·obtain⟨B,R,J,_,g⟩:=H.rf u;by_cases e:B=who
  ·subst e;obtain⟨v,hv,x⟩:=J.live.1 ((E u).1 K);rw[hs] at x;simp only[W3.mk.injEq] at x;omega
  ·exact h.PS J hw e (by omega) g k x T
def SI.opened (H:SI D V N s) (hN:N+1<1000000) {who q:Int} (f:Rf who q r) (hs:s.W (aC who)=⟨3,q,0⟩) (g:Good es) (aT:pS s (aC who) (aY es)) {t:Nat} (bY:ud (s.v t) s (aC who) (aY es))
  (h:Wr s s' (aC who) ⟨0,q,0⟩) (ht:∀j,s.v t j<=s'.tv (aC who) j):D r=none/\SI (Ns D r es) (Fo V r 0) (N+1) s'/\Gs D V s (Ns D r es) (Fo V r 0) s':=by
 have oF:=cY f.wh;have hlen:=cB es;have iS:=g.len;obtain⟨v0,q0,I⟩:=H.st who f.wh;have e0:=I.eq.symm.trans hs;simp only[W3.mk.injEq,and_true] at e0;obtain⟨rfl,rfl⟩:=e0;have hq:=I.qr;have G:D r=none:=by
  cases K:D r with
  | none=>rfl
  | some B=>
   rw[f.eq] at K;have:=I.known q0 f.qr B K;omega
 have T:∀E,¬E=r->Fo V r 0 E=V E:=λE e=>if_neg e;have U:Fo V r 0 r=0:=if_pos rfl;have Q:∀E,¬E=r->Ns D r es E=D E:=λE e=>if_neg e;have X:Ns D r es r=some es:=if_pos rfl;have nr:∀{E B},D E=some B->¬E=r:=λu e=>by rw[e,G] at u; cases u
 have dO:Live s' r:=f.live.2 ⟨0,by omega,h.self⟩;have L:∀A,bA A->¬A=who->∀R,1<=R/\R<1000000->¬bT A R=r:=λA J eQ R iF e=>by
  rw[f.eq] at e;exact eQ (uF J iF f.wh f.qr e).1
 have F:∀{E B},D E=some B->(Live s' E↔Live s E):=λ{E B} u=>by
  obtain⟨A,R,O,_,_⟩:=H.rf u;by_cases e:A=who
  ·subst e;rw[O.live,O.live,h.self,hs];simp only[W3.mk.injEq,and_true];constructor <;> rintro⟨v,hv,_,rfl⟩
   ·exact absurd (O.eq.trans f.eq.symm) (nr u)
   ·exact absurd (O.eq.trans f.eq.symm) (nr u)
  ·exact h.HM O f.wh e (by omega)
 refine⟨G,H.out (by omega) hN (λc h1 h2=>h.ne (by omega)) h.v (λ_ _ x=>by rw[Q _ (nr x)]; exact x) (λE B u hv=>T E (nr u)) (λA J=>?_) (λE B u=>?_) (λE B u hl=>?_) (λE B u hv=>?_) (λE B u hv e he iN=>?_) (λE B u l=>(F u).1 l) λE B u hl k x K=>?_⟩
 ·by_cases e:A=who
  ·subst e;refine⟨0,q0,h.self,by omega,by omega,λx=>by have:=f.qr; omega,λa b=>⟨es,by rw[<-f.eq]; exact X,by rw[<-f.eq]; exact U,λk x K=>?_,λk x K=>?_⟩,λq2 h1 Z h2=>?_⟩
   ·rw[h.ne (by omega)]; exact aT k x K
   ·rw[h.I2 (by omega)];have:=bY k x K;have:=ht (aC A+1+k);omega
   ·by_cases e2:bT A q2=r
    ·rw[f.eq] at e2;have:=(uF f.wh h1 f.wh f.qr e2).2;omega
    ·rw[Q _ e2] at h2;have:=I.known q2 h1 Z h2;omega
  ·obtain⟨v',q2,I'⟩:=H.st A J;exact⟨v',q2,I'.other H h f.wh J e (by omega) (λaS hq=>⟨Q _ (L A J e aS hq),T _ (L A J e aS hq)⟩) (by omega)⟩
 ·by_cases e:E=r
  ·subst e;rw[X] at u;cases u
   exact⟨g,who,q0,f.wh,by have:=f.qr; omega,f.eq⟩
  ·rw[Q _ e] at u;exact(H.mono (M:=N+1) (by omega) hN).ok E B u
 ·by_cases e:E=r
  ·subst e; exact absurd dO hl
  ·rw[Q _ e] at u;rw[T _ e];exact H.dec E B u λx=>hl ((F u).2 x)
 ·by_cases e:E=r
  ·subst e;right;intro c h1 h2 h3;have hp:=f.pos;obtain⟨Z,e2,a1,_⟩:=H.cell c h1 h2 (by omega);rw[h3,G] at a1;cases a1
  ·rw[Q _ e] at u;rw[T _ e] at hv;exact .inl ⟨u,hv⟩
 ·by_cases e1:E=r
  ·subst e1; rw[U] at hv; omega
  ·rw[Q _ e1] at u;rw[T _ e1] at hv;rcases H.done E B u hv e he iN with ⟨x,y⟩| x
   ·exact .inl ⟨x,(F u).2 y⟩
   ·exact .inr x
 ·obtain⟨A,R,O,_,g'⟩:=H.rf u;by_cases e:A=who
  ·subst e;obtain⟨v,hv,x⟩:=O.live.1 ((F u).1 hl);rw[hs] at x;simp only[W3.mk.injEq] at x;omega
  ·exact h.PS O f.wh e (by omega) g' k x K
def SI.bits (H:SI D V N s) (Q:N+1<1000000) (h:Wr s s' 376 w):SI D V (N+1) s'/\Gs D V s D V s':=by
 have hw:bA 3:=by unfold bA; omega
 have B:∀{E A},D E=some A->(Live s' E↔Live s E):=λ{E A} u=>by
  obtain⟨F,R,J,_,_⟩:=H.rf u;have:=cY J.wh;rw[J.live,J.live,h.ne (by omega)]
 refine H.out (by omega) Q (λc h1 h2=>h.ne (by omega)) h.v (λ_ _ x=>x) (λE A u hv=>rfl) (λF K=>?_) (λE A u=>?_) (λE A u L=>?_) (λE A u hv=>.inl ⟨u,hv⟩) (λE A u hv e he O=>?_) (λE A u l=>(B u).1 l) λE A u L k x G=>?_
 ·obtain⟨v,q,I⟩:=H.st F K;have:=cY K;have X:=I.qr;refine⟨v,q,by rw[h.ne (by omega)]; exact I.eq,I.vr,⟨I.qr.1,by omega⟩,I.z,λa b=>?_,I.known⟩;obtain⟨es,h1,h2,T,U⟩:=I.op a b;have L:=cB es;have g:=(H.ok _ _ h1).1.len;refine⟨es,h1,h2,λk x G=>?_,λk x G=>?_⟩
  ·have:=(List.getElem?_eq_some_iff.1 G).1;rw[h.ne (by omega)]; exact T k x G
  ·have:=(List.getElem?_eq_some_iff.1 G).1;rw[h.I2 (by omega),h.tv _ _ (by omega)]; exact U k x G
 ·exact(H.mono (M:=N+1) (by omega) Q).ok E A u
 ·exact H.dec E A u λx=>L ((B u).2 x)
 ·rcases H.done E A u hv e he O with ⟨x,y⟩| x
  ·exact .inl ⟨x,(B u).2 y⟩
  ·exact .inr x
 ·obtain⟨F,R,J,_,g⟩:=H.rf u;have:=cY J.wh;have L:=cB A;have g:=g.len;have:=(List.getElem?_eq_some_iff.1 G).1;rw[J.w];exact⟨h.ne (by omega),h.I2 (by omega)⟩
end
def mZ (es:List Et) (c:Int):Option Et:=es.find? λe=>decide (e.at'=c)
def UG (V:Vg) (x:W3) (e:Et):W3:=if V x.ref=1/\e.wr=true then⟨e.new,e.old.aO+1,0⟩ else⟨x.v,x.aO,0⟩
def yO (D:Dg) (V:Vg) (s:Sh) (c:Int):W3:=
 match (D (s.W c).ref).bind λes=>mZ es c with
 | some e=>UG V (s.W c) e
 | none=>⟨(s.W c).v,(s.W c).aO,0⟩
def UQ (s s':Sh) (who:Int):Prop:=∃q,s.W (aC who)=⟨0,q,0⟩/\s'.W (aC who)=⟨1,q,0⟩
def BZ (s s':Sh):Prop:=∀who,bA who->¬UQ s s' who
def ux (es:List Et) (f:Int->W3) (c:Int):W3:=
 match mZ es c with
 | some e=>if e.wr=true then⟨e.new,e.old.aO+1,0⟩ else f c
 | none=>f c
inductive Lg (D:Dg) (V:Vg) (s:Sh) (D':Dg) (V':Vg) (s':Sh):Prop where
 | same:BZ s s'->(∀c,56<=c->c<62->yO D' V' s' c=yO D V s c)->Lg D V s D' V' s'
 | swap (who q:Int) (es:List Et):bA who->1<=q->s.W (aC who)=⟨0,q,0⟩->s'.W (aC who)=⟨1,q,0⟩->(∀w,bA w->UQ s s' w->w=who)->Good es->pS s' (aC who) (aY es)->
   (∀e∈es,yO D V s e.at'=⟨e.old.v,e.old.aO,0⟩)->(∀c,56<=c->c<62->yO D' V' s' c=ux es (yO D V s) c)->Lg D V s D' V' s'
 | one (c0 v:Int):56<=c0->c0<62->BZ s s'->yO D' V' s' c0=⟨v,(yO D V s c0).aO+1,0⟩->(∀c,56<=c->c<62->¬c=c0->yO D' V' s' c=yO D V s c)->Lg D V s D' V' s'
structure Kp (s s':Sh) (who:Int):Prop where
 st:∀v q,s.W (aC who)=⟨v,q,0⟩->∃v',s'.W (aC who)=⟨v',q,0⟩/\(v'=v\/(v=0/\(v'=1\/v'=2)))
 fl:∀k:Int,1<=k->k<32->s'.W (aC who+k)=s.W (aC who+k)/\s'.n (aC who+k)=s.n (aC who+k)
structure Gx (D:Dg) (V:Vg) (s:Sh) (D':Dg) (V':Vg) (s':Sh):Prop extends Gs D V s D' V' s' where
 lg:Lg D V s D' V' s'
 kp:∀who,bA who->Kp s s' who
 bt:s'.W 376=s.W 376
 lo:∀p,p<56->s'.W p=s.W p
section
variable {D D':Dg} {V V':Vg} {N:Int} {s s':Sh} {r:Int} {es:List Et} {e:Et} {p c:Int} {w:W3}
def Good.mZ (g:Good es) (he:e∈es):mZ es e.at'=some e:=by
 unfold En.mZ;cases h:es.find? λx=>decide (x.at'=e.at') with
 | none=>
  have:=List.find?_eq_none.1 h e he;simp at this
 | some x=>
  have h1:=List.mem_of_find?_eq_some h;have h2:=List.find?_some h;rw[g.inj h1 he (of_decide_eq_true h2)]
def ur {x:Et} (h:mZ es c=some x):x∈es/\x.at'=c:=by
 unfold mZ at h;exact⟨List.mem_of_find?_eq_some h,of_decide_eq_true (List.find?_some (p:=λe:Et=>decide (e.at'=c)) h)⟩
def SI.D0 (H:SI D V N s):D 0=none:=by
 cases h:D 0 with
 | none=>rfl
 | some es=>have:=H.pos h; omega
def SI.SU (H:SI D V N s) (h:(s.W c).ref=0):yO D V s c=⟨(s.W c).v,(s.W c).aO,0⟩:=by
 unfold yO;rw[h,H.D0]; rfl
def SI.Rm (H:SI D V N s) (hD:D r=some es) (he:e∈es) (h:dC s r e):yO D V s e.at'=if V r=1/\e.wr=true then⟨e.new,e.old.aO+1,0⟩ else⟨e.old.v,e.old.aO,0⟩:=by
 obtain⟨_,_,_,_,g⟩:=H.rf hD;unfold dC at h;unfold yO;rw[h];dsimp only;rw[hD,Option.bind_some,g.mZ he];rfl
def p9 (h:s'.W c=s.W c) (q:D' (s.W c).ref=D (s.W c).ref) (hv:V' (s.W c).ref=1↔V (s.W c).ref=1):yO D' V' s' c=yO D V s c:=by
 unfold yO;rw[h,q];split
 ·unfold UG;by_cases x:V (s.W c).ref=1
  ·simp only[x,hv.2 x]
  ·rw[if_neg λy=>x (hv.1 y.1),if_neg λy=>x y.1]
 ·rfl
def Kp.of {who:Int} (u:∀k:Int,0<=k->k<32->s'.W (aC who+k)=s.W (aC who+k)/\s'.n (aC who+k)=s.n (aC who+k)):Kp s s' who:=by
 refine⟨λv q h=>⟨v,?_,.inl rfl⟩,λk h1 h2=>u k (by omega) h2⟩;have:=(u 0 (by omega) (by omega)).1;rw[Int.add_zero] at this;rw[this,h]
def Wr.kp (h:Wr s s' p w) {who:Int} (q:p<aC who\/aC who+32<=p):Kp s s' who:=Kp.of λk h1 h2=>⟨h.ne (by omega),h.I2 (by omega)⟩
def BZ.of (h:∀who,bA who->s'.W (aC who)=s.W (aC who)):BZ s s':=λwho hw ⟨q,a,b⟩=>by
 rw[h who hw,a] at b;cases b
def fK (h:s.quiet s'):s'.W=s.W:=funext h.1
def SI.K7 (H:SI D V N s) (h:s.quiet s') (hv:∀t j,s.v t j<=s'.v t j):SI D V N s'/\Gx D V s D V s':=by
 obtain⟨S,G⟩:=H.quiet h hv;exact⟨S,G,.same (.of λwho _=>h.1 _) λc _ _=>p9 (h.1 c) rfl Iff.rfl,λwho _=>Kp.of λk _ _=>⟨h.1 _,h.2.1 _⟩,h.1 _,λp _=>h.1 p⟩
def Wr.EU (h:Wr s s' c w) (q:56<=c/\c<62):BZ s s'/\∀who,bA who->Kp s s' who:=
 ⟨.of λwho hw=>h.ne (by have:=cY hw; omega),λwho hw=>h.kp (by have:=cY hw; omega)⟩
def Wr.Mn (h:Wr s s' c w) (q:56<=c/\c<62) (u:yO D V s' c=yO D V s c):Lg D V s D V s':=
 .same (h.EU q).1 λc' _ _=>by
  by_cases e:c'=c
  ·subst e; exact u
  ·exact p9 (h.ne e) rfl Iff.rfl
def SI.K5 (H:SI D V N s) (A:N+1<1000000) (hD:D r=some es) {i:Nat} (he:es[i]?=some e) (h:Wr s s' e.at' ⟨e.old.v,e.old.aO,r⟩) (hw:s.W e.at'=e.old)
  (q:V r=0->∀j a,j<i->es[j]?=some a->dC s r a):SI D V (N+1) s'/\Gx D V s D V s':=by
 obtain⟨S,G⟩:=H.sV A hD he h hw q;obtain⟨_,_,f,_,g⟩:=H.rf hD;have hm:=List.mem_of_getElem? he;have u:=g.pl e hm;refine⟨S,G,h.Mn u ?_,(h.EU u).2,h.ne (by omega),λp q=>h.ne (by omega)⟩;have B:dC s' r e:=h.self;rw[S.Rm hD hm B,H.SU (by rw[hw]; exact g.ref e hm),hw,if_neg];rintro⟨v1,wr⟩;rcases H.done r es hD v1 e hm wr with ⟨a,_⟩| a
 ·unfold dC at a;rw[hw] at a;have h1:=g.ref e hm;have h2:=f.pos;rw[a] at h1;dsimp only at h1;omega
 ·unfold qK at a;rw[hw] at a;omega
def SI.L1 (H:SI D V N s) (A:N+1<1000000) (hD:D r=some es) (he:e∈es) {w:W3} (h:Wr s s' e.at' w) (hw:dC s r e) (B:¬V r=0)
  (q:(w=⟨e.old.v,e.old.aO,0⟩/\(V r=1->e.wr=true->¬Live s r))\/(w=⟨e.new,e.old.aO+1,0⟩/\V r=1/\e.wr=true)):SI D V (N+1) s'/\Gx D V s D V s':=by
 obtain⟨S,G⟩:=H.free A hD he h hw B (q.imp_right λx=>x.1);obtain⟨_,_,f,_,g⟩:=H.rf hD;have u:=g.pl e he;refine⟨S,G,h.Mn u ?_,(h.EU u).2,h.ne (by omega),λp u=>h.ne (by omega)⟩;rw[S.SU (by rw[h.self]; rcases q with ⟨rfl,_⟩| ⟨rfl,_⟩ <;> rfl),h.self,H.Rm hD he hw];rcases q with ⟨rfl,x⟩| ⟨rfl,x⟩
 ·rw[if_neg];rintro⟨v1,wr⟩;rcases H.done r es hD v1 e he wr with ⟨_,a⟩| a
  ·exact x v1 wr a
  ·unfold qK at a;unfold dC at hw;rw[hw] at a;dsimp only at a;omega
 ·rw[if_pos x]
def SI.Nn (H:SI D V N s) (B:N+1<1000000) {v:Int} (q:xB v) (u:56<=c/\c<62) (h:Wr s s' c ⟨v,(s.W c).aO+1,0⟩) (A:(s.W c).ref=0):SI D V (N+1) s'/\Gx D V s D V s':=by
 obtain⟨S,G⟩:=H.QP B q u h A;refine⟨S,G,.one c v u.1 u.2 (h.EU u).1 ?_ λc' _ _ e=>p9 (h.ne e) rfl Iff.rfl,(h.EU u).2,h.ne (by omega),λp E=>h.ne (by omega)⟩;rw[S.SU (by rw[h.self]),h.self,H.SU A]
def SI.MX (H:SI D V N s) (hN:N+1<1000000) {who q z:Int} (f:Rf who q r) (hD:D r=some es) (hs:s.W (aC who)=⟨0,q,0⟩) (K:z=1\/z=2) (h:Wr s s' (aC who) ⟨z,q,0⟩) (ht:∀j,s.tv (aC who) j<=s'.tv (aC who) j)
  (A:z=1->∀e∈es,dC s r e):SI D (Fo V r z) (N+1) s'/\Gx D V s D (Fo V r z) s':=by
 obtain⟨S,G⟩:=H.decide hN f hD hs K h ht A;obtain⟨_,_,_,_,g⟩:=H.rf hD;have aS:=cY f.wh;have lr:Live s r:=f.live.2 ⟨0,by omega,hs⟩;obtain⟨I,_,_,fl,_⟩:=H.live f hD lr;have aT:V r=0:=by
  have:=I.eq.symm.trans hs;simp only[W3.mk.injEq] at this;exact this.1
 have hlen:=cB es;have T:=g.len;have L:pS s' (aC who) (aY es):=λk x B=>by
  have:=(List.getElem?_eq_some_iff.1 B).1;rw[h.ne (by omega)]; exact fl k x B
 have U:∀F,¬F=r->Fo V r z F=V F:=λF e=>if_neg e;have E:Fo V r z r=z:=if_pos rfl;have u:∀w,bA w->¬w=who->s'.W (aC w)=s.W (aC w):=λw hw M=>by
  have:=cZ hw f.wh M;exact h.ne (by omega)
 have O:∀w,bA w->Kp s s' w:=λw hw=>by
  by_cases e:w=who
  ·subst e;refine⟨λv X hv=>?_,λk h1 h2=>⟨h.ne (by omega),h.I2 (by omega)⟩⟩;rw[hs] at hv;simp only[W3.mk.injEq,and_true] at hv;obtain⟨rfl,rfl⟩:=hv;exact⟨z,h.self,.inr ⟨rfl,K⟩⟩
  ·have:=cZ hw f.wh e;exact h.kp (by omega)
 have J:∀c,56<=c->c<62->s'.W c=s.W c:=λc h1 h2=>h.ne (by omega);refine⟨S,G,?_,O,h.ne (by omega),λp hp=>h.ne (by omega)⟩;rcases K with rfl | rfl
 ·refine .swap who q es f.wh f.qr.1 hs h.self (λw hw Q=>?_) g L (λe he=>?_) λc h1 h2=>?_
  ·obtain⟨X,a,b⟩:=Q;by_cases e:w=who
   ·exact e
   ·rw[u w hw e,a] at b; cases b
  ·rw[H.Rm hD he (A rfl e he),if_neg (λx=>by omega)]
  ·unfold ux;cases B:mZ es c with
   | some e=>
    obtain⟨he,rfl⟩:=ur B;have Z:=A rfl e he;have R:dC s' r e:=by unfold dC at *; rw[J _ h1 h2]; exact Z
    rw[S.Rm hD he R,E];dsimp only;by_cases wr:e.wr=true
    ·rw[if_pos ⟨rfl,wr⟩,if_pos wr]
    ·rw[if_neg (λx=>wr x.2),if_neg wr,H.Rm hD he Z,if_neg (λx=>wr x.2)]
   | none=>
    dsimp only;by_cases e:(s.W c).ref=r
    ·unfold yO;rw[J c h1 h2,e,hD,Option.bind_some,B]
    ·exact p9 (J c h1 h2) rfl (by rw[U _ e])
 ·refine .same (λw hw Q=>?_) λc h1 h2=>?_
  ·obtain⟨X,a,b⟩:=Q;by_cases e:w=who
   ·subst e; rw[h.self] at b; cases b
   ·rw[u w hw e,a] at b; cases b
  ·refine p9 (J c h1 h2) rfl ?_;by_cases e:(s.W c).ref=r
   ·rw[e,E]; omega
   ·rw[U _ e]
end
section
variable (D:Dg) (V:Vg) (s:Sh) (t:Nat)
structure tu (r:Int) (es:List Et) (aO:Int) (i:Nat):Prop where
 vr:(aO=1/\V r=1)\/(aO=2/\V r=2)\/(aO=4/\¬Live s r)
 rel:∀(j:Nat) (a:Et),j<i->es[j]?=some a->a.wr=true->V r=1->qK s a
structure E8 (h:Hs) (es:List Et):Prop where
 Mw:Live s h.ref->ud (s.v t) s h.at' (aY es)
 ws:Live s h.ref->h.many=es.length/\h.ws=(kG es).take h.ws.length
 many:h.many<=32
def H6 (r:Int) (es:List Et) (i:Nat):Prop:=∀(j:Nat) (b:Et),j<i->es[j]?=some b->dC s r b\/¬V r=0
structure C6 (h:Hs) (e:Et):Prop where
 sF:rK h h.met=true
 known:∃es' e',D h.met.ref=some es'/\e'∈es'/\e'.at'=e.at'/\h.met=⟨e'.old.v,e'.old.aO,h.met.ref⟩
 link:¬V h.met.ref=0\/s.W e.at'=h.met
abbrev AD (p:Int):Ac:=⟨5,p,W0,W0⟩
abbrev BM:Ac:=⟨8,0,W0,W0⟩
abbrev ub (p:Int):Ac:=⟨7,p,W0,W0⟩
def Si (h:Hs) (es:List Et) (a:Ac):HK->Prop
 | .first=>h.i=0/\h.ws=[]/\a=AD h.at'
 | .dE=>h.i=0/\h.ws=[]/\a=⟨1,h.at'+1,W0,W0⟩/\(Live s h.ref->ud (s.v t) s h.at' (aY es))
 | .fA=>h.i=0/\h.ws.length<3*h.many/\a=⟨1,h.at'+2+h.ws.length,W0,W0⟩/\E8 s t h es
 | .checked=>h.i=0/\h.ws.length=3*h.many/\a=AD h.at'/\E8 s t h es
 | .cU=>h.es=es/\H6 V s h.ref es h.i/\∃e,es[h.i]?=some e/\a=⟨6,e.at',e.old,⟨e.old.v,e.old.aO,h.ref⟩⟩
 | .again=>h.es=es/\H6 V s h.ref es h.i/\∃e,es[h.i]?=some e/\a=AD h.at'/\C6 D V s h e
 | .bR=>False
 | .begin=>False
 | .dH=>h.es=es/\H6 V s h.ref es h.i/\∃e,es[h.i]?=some e/\a=⟨6,e.at',h.met,⟨h.met.v,h.met.aO,0⟩⟩/\C6 D V s h e/\¬Live s h.met.ref
 | .dX=>h.es=es/\(∃e,1<=h.i/\es[h.i - 1]?=some e/\a=ub e.at')/\((h.bh=some .settle/\h.aO=1/\H6 V s h.ref es es.length)\/(h.bh=some .through/\¬V h.ref=0/\tu V s h.ref es h.aO es.length))
 | .settle=>h.es=es/\a=BM/\h.aO=1/\H6 V s h.ref es es.length
 | .gC=>h.es=es/\a=⟨6,h.at',⟨0,h.seq,0⟩,⟨h.aO,h.seq,0⟩⟩/\((h.aO=1/\H6 V s h.ref es es.length)\/h.aO=2)
 | .bQ=>h.es=es/\a=ub h.at'/\¬V h.ref=0
 | .cJ=>h.es=es/\a=BM/\¬V h.ref=0
 | .known=>h.es=es/\a=AD h.at'/\¬V h.ref=0
 | .found=>h.es=es/\¬V h.ref=0/\tu V s h.ref es h.aO h.i/\∃e,es[h.i]?=some e/\a=AD e.at'
 | .kS=>h.es=es/\¬V h.ref=0/\tu V s h.ref es h.aO h.i/\∃e,es[h.i]?=some e/\a=⟨6,e.at',⟨e.old.v,e.old.aO,h.ref⟩,if e.wr=true/\h.aO=1 then⟨e.new,e.old.aO+1,0⟩ else⟨e.old.v,e.old.aO,0⟩⟩
 | .through=>h.es=es/\a=BM/\¬V h.ref=0/\tu V s h.ref es h.aO es.length
def HL (h:Hs) (a:Ac):Prop:=h.ended=false/\∃es,D h.ref=some es/\Si D V s t h es a h.nx
def HW (h:Hs) (r:Int):Prop:=h.ended=false/\h.nx=.bR/\r=h.met.ref/\∃es e,D h.ref=some es/\h.es=es/\H6 V s h.ref es h.i/\es[h.i]?=some e/\C6 D V s h e
def I7 (h k:Hs):Prop:=(k.nx=.again->V k.ref=0->(hE h).at'<(hE k).at')/\(k.nx=.bR\/k.nx=.dH->(hE h).at'<(hE k).at')
def jV:List Hs->Ac->Prop
 | [],_=>False
 | [h],a=>HL D V s t h a
 | h::k::r,a=>(HW D V s h k.ref/\I7 V h k)/\jV (k::r) a
def HE (h:Hs):Prop:=h.ended=true/\∃es,D h.ref=some es/\¬V h.ref=0/\tu V s h.ref es h.aO es.length
end
section
variable {D D':Dg} {V V':Vg} {N:Int} {s s':Sh} {t:Nat} {r:Int} {es:List Et} {e:Et} {h:Hs} {a:Ac}
def Gs.Dd (G:Gs D V s D' V' s') (hD:D r=some es) (hv:¬V r=0):¬V' r=0:=by rw[G.vv r es hD hv]; exact hv
def Gs.Jq (G:Gs D V s D' V' s') (g:Good es) (he:e∈es) (h:qK s e):qK s' e:=by
 have:=G.aO e.at' (g.pl e he).1 (g.pl e he).2;unfold qK at *;omega
def Gs.RK (G:Gs D V s D' V' s') (hD:D r=some es) (he:e∈es) (h:dC s r e\/¬V r=0):dC s' r e\/¬V' r=0:=by
 by_cases hv:V' r=0
 ·left;rcases h with h | h
  ·have:=G.held r es hD hv e he (by unfold dC at h; rw[h]);unfold dC at *;rw[this]; exact h
  ·exact absurd hv (G.Dd hD h)
 ·exact .inr hv
def Gs.pre (G:Gs D V s D' V' s') (hD:D r=some es) {i:Nat} (h:H6 V s r es i):H6 V' s' r es i:=λj b u q=>G.RK hD (List.mem_of_getElem? q) (h j b u q)
def Gs.free (G:Gs D V s D' V' s') (hD:D r=some es) (g:Good es) (hv:¬V r=0) {aO:Int} {i:Nat} (h:tu V s r es aO i):tu V' s' r es aO i:=by
 have e:=G.vv r es hD hv;refine⟨?_,λj a A u hw q=>G.Jq g (List.mem_of_getElem? u) (h.rel j a A u hw (by rw[<-e]; exact q))⟩;rw[e];rcases h.vr with x | x | x
 ·exact .inl x
 ·exact .inr (.inl x)
 ·exact .inr (.inr ⟨x.1,λl=>x.2 (G.live r es hD l)⟩)
def Gs.Mw (G:Gs D V s D' V' s') (hD:D h.ref=some es) (c:Live s h.ref->ud (s.v t) s h.at' (aY es)):Live s' h.ref->ud (s'.v t) s' h.at' (aY es):=λl k w q=>by
 have h1:=c (G.live _ _ hD l) k w q;have h2:=(G.oW _ _ hD l k w q).2;have u:=G.vw t (h.at'+1+k);unfold Hs.at' at *;rw[h2];omega
def Gs.load (G:Gs D V s D' V' s') (hD:D h.ref=some es) (l:E8 s t h es):E8 s' t h es:=⟨G.Mw hD l.Mw,λx=>l.ws (G.live _ _ hD x),l.many⟩
def Gs.met (G:Gs D V s D' V' s') (m:C6 D V s h e):C6 D' V' s' h e:=by
 obtain⟨q,A,h1,h2,u,B⟩:=m.known;refine⟨m.sF,⟨q,A,G.dd _ _ h1,h2,u,B⟩,?_⟩;by_cases hv:V' h.met.ref=0
 ·right;rcases m.link with x | x
  ·exact absurd hv (G.Dd h1 x)
  ·have:=G.held _ _ h1 hv A h2 (by rw[u,x]);rw[u] at this;rw[this]; exact x
 ·exact .inl hv
def Si.mono (H:SI D V N s) (G:Gs D V s D' V' s') (hD:D h.ref=some es) {k:HK} (x:Si D V s t h es a k):Si D' V' s' t h es a k:=by
 obtain⟨_,_,_,_,g⟩:=H.rf hD;cases k
 case first=>exact x
 case dE=>exact⟨x.1,x.2.1,x.2.2.1,G.Mw hD x.2.2.2⟩
 case fA=>exact⟨x.1,x.2.1,x.2.2.1,G.load hD x.2.2.2⟩
 case checked=>exact⟨x.1,x.2.1,x.2.2.1,G.load hD x.2.2.2⟩
 case cU=>exact⟨x.1,G.pre hD x.2.1,x.2.2⟩
 case again=>obtain⟨B,E,e,F,J,A⟩:=x; exact⟨B,G.pre hD E,e,F,J,G.met A⟩
 case dH=>
  obtain⟨B,E,e,F,J,A,L⟩:=x;obtain⟨M,O,h1,_⟩:=A.known;exact⟨B,G.pre hD E,e,F,J,G.met A,λl=>L (G.live _ _ h1 l)⟩
 case dX=>
  refine⟨x.1,x.2.1,?_⟩;rcases x.2.2 with ⟨u,q,K⟩| ⟨u,q,K⟩
  ·exact .inl ⟨u,q,G.pre hD K⟩
  ·exact .inr ⟨u,G.Dd hD q,G.free hD g q K⟩
 case settle=>exact⟨x.1,x.2.1,x.2.2.1,G.pre hD x.2.2.2⟩
 case gC=>
  refine⟨x.1,x.2.1,?_⟩;rcases x.2.2 with ⟨u,q⟩| y
  ·exact .inl ⟨u,G.pre hD q⟩
  ·exact .inr y
 case bQ=>exact⟨x.1,x.2.1,G.Dd hD x.2.2⟩
 case cJ=>exact⟨x.1,x.2.1,G.Dd hD x.2.2⟩
 case known=>exact⟨x.1,x.2.1,G.Dd hD x.2.2⟩
 case found=>exact⟨x.1,G.Dd hD x.2.1,G.free hD g x.2.1 x.2.2.1,x.2.2.2⟩
 case kS=>exact⟨x.1,G.Dd hD x.2.1,G.free hD g x.2.1 x.2.2.1,x.2.2.2⟩
 case through=>exact⟨x.1,x.2.1,G.Dd hD x.2.2.1,G.free hD g x.2.2.1 x.2.2.2⟩
 case bR=>exact x
 case begin=>exact x
def HL.mono (H:SI D V N s) (G:Gs D V s D' V' s') (x:HL D V s t h a):HL D' V' s' t h a:=let⟨u,es,q,A⟩:=x; ⟨u,es,G.dd _ _ q,A.mono H G q⟩
def HW.mono (G:Gs D V s D' V' s') (x:HW D V s h r):HW D' V' s' h r:=by
 obtain⟨u,A,B,es,e,q,E,F,H,J⟩:=x;exact⟨u,A,B,es,e,G.dd _ _ q,E,G.pre q F,H,G.met J⟩
def jV.known:∀{l:List Hs} {k:Hs},jV D V s t (k::l) a->∃es,D k.ref=some es
 | [],k,x=>let⟨_,es,h,_⟩:=(show HL D V s t k a from x); ⟨es,h⟩
 | k2::l,k,x=>let⟨_,_,_,es,_,h,_⟩:=x.1.1; ⟨es,h⟩
def I7.mono (G:Gs D V s D' V' s') {k:Hs} (hD:D k.ref=some es) (x:I7 V h k):I7 V' h k:=
 ⟨λe v=>x.1 e (Classical.byContradiction λn=>n ((G.vv _ _ hD n)▸v)),x.2⟩
def jV.mono (H:SI D V N s) (G:Gs D V s D' V' s'):∀{hs:List Hs},jV D V s t hs a->jV D' V' s' t hs a
 | [],x=>x
 | [h],x=>HL.mono H G x
 | h::k::r,x=>let⟨_,hD⟩:=x.2.known; ⟨⟨HW.mono G x.1.1,x.1.2.mono G hD⟩,jV.mono H G x.2⟩
end
section
variable {D D':Dg} {V V':Vg} {N:Int} {s s':Sh} {t:Nat} {r:Int} {es:List Et} {e:Et} {h:Hs} {a:Ac}
def Out (D:Dg) (V:Vg) (s:Sh) (t:Nat) (r:Int):HR->Prop
 | (h,a,false)=>h.ref=r/\HL D V s t h a
 | (h,_,true)=>h.ref=r/\HE D V s h
def lN (h1:h.es=es) {i:Nat} (hi:h.i=i) (he:es[i]?=some e):hE h=e:=by
 unfold hE;rw[h1,hi,List.getD_eq_getElem?_getD,he]; rfl
def oS {k:HK} (hD:D h.ref=some es) (u:h.ended=false) (h1:h.es=es) (hi:h.i<=es.length) (B:h.bh=some k)
  (A:(k=.settle/\h.aO=1/\H6 V s h.ref es es.length)\/(k=.through/\¬V h.ref=0/\tu V s h.ref es h.aO es.length)):Out D V s t h.ref (bG h):=by
 unfold bG;rw[h1,B];by_cases e:h.i=es.length
 ·rw[if_pos e];refine⟨rfl,u,es,hD,?_⟩;rcases A with ⟨rfl,y,z⟩| ⟨rfl,y,z⟩
  ·exact⟨h1,rfl,y,z⟩
  ·exact⟨h1,rfl,y,z⟩
 ·rw[if_neg e];have q:h.i<es.length:=by omega
  refine⟨rfl,u,es,hD,rfl,⟨es[h.i],by show 1<=h.i+1; omega,by show es[h.i+1 - 1]?=_; rw[Nat.add_sub_cancel]; exact List.getElem?_eq_getElem q,by rw[lN h1 rfl (List.getElem?_eq_getElem q)]⟩,?_⟩;rcases A with ⟨rfl,y,z⟩| ⟨rfl,y,z⟩
  ·exact .inl ⟨rfl,y,z⟩
  ·exact .inr ⟨rfl,y,z⟩
def zp (hD:D h.ref=some es) (u:h.ended=false) (h1:h.es=es) (hi:h.i<=es.length) (hv:¬V h.ref=0) (q:tu V s h.ref es h.aO h.i):Out D V s t h.ref (ke h):=by
 unfold ke;rw[h1];by_cases e:h.i<es.length
 ·rw[if_pos e,lN h1 rfl (List.getElem?_eq_getElem e)];exact⟨rfl,u,es,hD,h1,hv,q,_,List.getElem?_eq_getElem e,rfl⟩
 ·have A:h.i=es.length:=by omega
  rw[if_neg e];rw[A] at q;by_cases d:h.cH=true
  ·rw[if_pos d];exact oS (h:={h with i:=0,bh:=some .through}) hD u h1 (Nat.zero_le _) rfl (.inr ⟨rfl,hv,q⟩)
  ·rw[if_neg d];exact⟨rfl,rfl,es,hD,hv,q⟩
def rM (hD:D h.ref=some es) (q:h.ended=false) (h1:h.es=es) (hv:¬V h.ref=0):Out D V s t h.ref (bD h):=by
 unfold bD;by_cases d:h.cH=true
 ·rw[if_pos d];exact⟨rfl,q,es,hD,h1,rfl,hv⟩
 ·rw[if_neg d];exact⟨rfl,q,es,hD,h1,rfl,hv⟩
def Aq (hD:D h.ref=some es) (q:h.ended=false) (h1:h.es=es) (u:(h.aO=1/\H6 V s h.ref es es.length)\/h.aO=2):Out D V s t h.ref (iM h):=
 ⟨rfl,q,es,hD,h1,rfl,u⟩
def z9 {z:Int} (hD:D h.ref=some es) (q:h.ended=false) (h1:h.es=es) (u:(z=1/\H6 V s h.ref es es.length)\/z=2):Out D V s t h.ref (cD h z):=by
 unfold cD;by_cases d:z=1/\h.cH=true
 ·rw[if_pos d];obtain⟨rfl,_⟩:=d;refine oS (h:={h with aO:=1,i:=0,bh:=some .settle}) hD q h1 (Nat.zero_le _) rfl (.inl ⟨rfl,rfl,?_⟩);rcases u with x | x
  ·exact x.2
  ·omega
 ·rw[if_neg d];exact Aq (h:={h with aO:=z}) hD q h1 u
def oz (hD:D h.ref=some es) (u:h.ended=false) (h1:h.es=es) (hi:h.i<=es.length) (A:H6 V s h.ref es h.i):Out D V s t h.ref (aW h):=by
 unfold aW;rw[h1];by_cases e:h.i=es.length
 ·rw[if_pos e];exact z9 hD u h1 (.inl ⟨rfl,by rw[<-e]; exact A⟩)
 ·rw[if_neg e];have q:h.i<es.length:=by omega
  refine⟨rfl,u,es,hD,h1,A,_,List.getElem?_eq_getElem q,?_⟩;unfold rz;rw[lN h1 rfl (List.getElem?_eq_getElem q)]
def D7 (hD:D h.ref=some es) (q:h.ended=false) (hi:h.i=0) (hw:h.ws.length<=3*h.many) (l:E8 s t h es):Out D V s t h.ref (fM h):=by
 unfold fM;by_cases e:h.ws.length=3*h.many
 ·rw[if_pos e];exact⟨rfl,q,es,hD,hi,e,rfl,l.Mw,l.ws,l.many⟩
 ·rw[if_neg e];refine⟨rfl,q,es,hD,hi,by show h.ws.length<3*h.many; omega,?_,l.Mw,l.ws,l.many⟩;show Ac.mk 1 (aC (aZ h.ref)+(2+3*(h.ws.length / 3:Nat)+(h.ws.length % 3:Nat))) W0 W0=⟨1,aC (aZ h.ref)+2+h.ws.length,W0,W0⟩;congr 1;omega
def sN {w:W3} (h:Hs):oX h w=true↔¬∃v,(0<=v/\v<=2)/\w=⟨v,h.seq,0⟩:=by
 unfold oX;rw[decide_eq_true_eq];obtain⟨v,q,r⟩:=w;simp only[W3.mk.injEq];constructor
 ·rintro x ⟨u,hu,rfl,rfl,rfl⟩;omega
 ·intro x;by_cases h1:q=h.seq
  ·by_cases h2:r=0
   ·right; right;by_cases A:0<=v/\v<=2
    ·exact absurd ⟨v,A,rfl,h1,h2⟩ x
    ·omega
   ·exact .inr (.inl h2)
  ·exact .inl h1
def vg {w:W3} (e:s.W h.at'=w):Live s h.ref↔∃v,(0<=v/\v<=2)/\w=⟨v,h.seq,0⟩:=by
 unfold Live Hs.at' Hs.seq at *;rw[<-e]
def SI.gone (H:SI D V N s) (hD:D r=some es) (l:¬Live s r):¬V r=0/\tu V s r es 4 es.length:=by
 have:=H.dec r es hD l;refine⟨by omega,.inr (.inr ⟨rfl,l⟩),λj a u q hw hv=>?_⟩;rcases H.done r es hD hv a (List.mem_of_getElem? q) hw with x | x
 ·exact absurd x.2 l
 ·exact x
def wH (H:SI D V N s) (hD:D h.ref=some es) (l:¬Live s h.ref):Out D V s t h.ref (nM h 4):=⟨rfl,rfl,es,hD,(H.gone hD l).1,(H.gone hD l).2⟩
def pr.mono {g:cP} {a:Ac} (E:pr t s s' a g):∀t j,s.v t j<=s'.v t j:=by
 cases E <;> assumption
def pr.bH {p:Int} {o n:W3} {g:cP} (E:pr t s s' ⟨5,p,o,n⟩ g):s.quiet s'/\(∀j,s.tv p j<=s'.v t j)/\g=⟨s.W p,true⟩:=by
 cases E with
 | look _ _ _ h1 h2 q=>exact⟨h1,q,rfl⟩
 | put _ _ _ _ h=>omega
 | fP _ _ _ _ h=>omega
def pr.IE {p:Int} {o n:W3} {g:cP} (E:pr t s s' ⟨1,p,o,n⟩ g):s.quiet s'/\(s.n p - 1<=s.v t p->g.w=s.W p):=by
 cases E with
 | load _ _ _ _ h1 h2 q=>exact⟨h1,q⟩
 | put _ _ _ _ h=>omega
 | fP _ _ _ _ h=>omega
def pr.fN {op p:Int} {o n:W3} {g:cP} (E:pr t s s' ⟨op,p,o,n⟩ g) (h:op=7\/op=8):s.quiet s':=by
 cases E with
 | fP _ _ _ _ h1 h2 q=>exact h2
 | put _ _ _ _ h=>omega
 | _=>omega
def pr.kH {p:Int} {o n:W3} {g:cP} (E:pr t s s' ⟨6,p,o,n⟩ g):(s.W p=o/\g=⟨o,true⟩/\Wr s s' p n/\∀j,s.tv p j<=s'.tv p j)\/(¬s.W p=o/\g=⟨s.W p,false⟩/\s.quiet s'):=by
 cases E with
 | swapT _ _ h1 h2 q u A=>exact .inl ⟨rfl,rfl,⟨h1,h2,q,u⟩,A⟩
 | Pq _ _ _ h1 h2 q u=>exact .inr ⟨h1,rfl,h2⟩
 | put _ _ _ _ h=>omega
 | fP _ _ _ _ h=>omega
def Sh.quiet.W {s s':Sh} (h:s.quiet s') (p:Int):s'.W p=s.W p:=h.1 p
def BF (H:SI D V N s) (hD:D r=some es) {v q:Int}:qF ⟨v,q,r⟩=1:=by
 obtain⟨who,u,f,_,_⟩:=H.rf hD;have:=f.pos;have h1:=f.w;have h2:=cY f.wh;unfold qF;rw[if_neg (by show ¬r=0; omega),if_pos (by show 0<aZ r; omega)]
def HL.step (H:SI D V N s) (hN:N+1<1000000) (x:HL D V s t h a) {g:cP} (E:pr t s s' a g) :
    ∃V',SI D V' (N+1) s'/\Gx D V s D V' s'/\
      ((h.nx=.again/\g.w=⟨0,h.seq,0⟩/\∃es e,D h.ref=some es/\h.es=es/\H6 V' s' h.ref es h.i/\es[h.i]?=some e/\C6 D V' s' h e)\/
       ((h.nx=.again->¬g.w=⟨0,h.seq,0⟩)/\Out D V' s' t h.ref (dG h g))):=by
  obtain⟨L,es,hD,x⟩:=x;obtain⟨who,q,f,oR,Z⟩:=H.rf hD;have J:h.at'=aC who:=by unfold Hs.at'; rw[f.w]
  have T:h.seq=q:=f.sq;have rW:=cY f.wh;have eQ:¬aC who<0:=by omega
  have Q:s.quiet s'->SI D V (N+1) s'/\Gx D V s D V s':=λq=>let⟨a,b⟩:=H.K7 q E.mono; ⟨a.mono (by omega) hN,b⟩;have lk:Live s h.ref↔∃v,(0<=v/\v<=2)/\s.W (aC who)=⟨v,q,0⟩:=f.live;cases B:h.nx with
  | bR=>rw[B] at x; exact x.elim
  | begin=>rw[B] at x; exact x.elim
  | first=>
    rw[B] at x;obtain⟨A,u,rfl⟩:=x;obtain⟨O,q2,rfl⟩:=E.bH;obtain⟨S,G⟩:=Q O;refine⟨V,S,G,.inr ⟨(λe=>by cases e),?_⟩⟩;unfold dG;rw[B];dsimp only;by_cases l:oX h (s.W h.at')=true
    · rw[if_pos l]
      have nl:¬Live s' h.ref:=λy=>(sN h).1 l ((vg (O.W _)).1 y);exact wH S hD nl
    · rw[if_neg l]
      refine⟨rfl,L,es,hD,A,u,rfl,λy=>?_⟩;have y':=G.live _ _ hD y;obtain⟨_,_,_,_,c⟩:=H.live f hD y';intro k w hw;have c1:=c k w hw;have c2:=q2 (h.at'+1+k);show s'.n (aC (aZ h.ref)+1+k) - 1<=s'.v t (aC (aZ h.ref)+1+k);rw[f.w,O.2.1];have c3:=E.mono;have c2:=q2 (aC who+1+k);rw[J] at c2;omega
  | dE=>
    rw[B] at x;obtain⟨A,u,rfl,F⟩:=x;obtain⟨O,q2⟩:=E.IE;obtain⟨S,G⟩:=Q O;refine⟨V,S,G,.inr ⟨(λe=>by cases e),?_⟩⟩;unfold dG;rw[B];dsimp only;have hl:Live s' h.ref->g.w=⟨es.length,0,0⟩:=λy=>by
      have y':=G.live _ _ hD y;obtain⟨_,_,_,fl,_⟩:=H.live f hD y';have c:=F y' 0 ⟨es.length,0,0⟩ rfl;have f0:=fl 0 ⟨es.length,0,0⟩ rfl;rw[J] at c;rw[Int.natCast_zero,Int.add_zero] at c f0;rw[q2 (by rw[J]; exact c),J,f0]
    unfold j9;have iF:h.mC=10\/h.mC=32:=by
      unfold Hs.mC cG;rw[f.w,if_neg eQ];split
      · exact .inl rfl
      · exact .inr rfl
    have gl:=Z.len;by_cases c:g.w.v<1\/h.mC<g.w.v\/¬g.w=⟨g.w.v,0,0⟩
    · rw[if_pos c]
      refine wH S hD λy=>?_;have:=hl y;rw[this] at c;dsimp only at c;rcases c with c | c | c
      · omega
      · omega
      · exact c rfl
    · rw[if_neg c]
      refine D7 (h:={h with many:=g.w.v.toNat}) hD L A (by show h.ws.length<=_; rw[u]; exact Nat.zero_le _) ⟨G.Mw (h:=h) hD F,λy=>?_,?_⟩
      · have:=hl y
        refine⟨by show g.w.v.toNat=_; rw[this]; exact Int.toNat_natCast _,?_⟩;show h.ws=_;rw[u]; rfl
      · show g.w.v.toNat<=32
        omega
  | fA=>
    rw[B] at x;obtain⟨A,u,rfl,F⟩:=x;obtain⟨O,q2⟩:=E.IE;obtain⟨S,G⟩:=Q O;refine⟨V,S,G,.inr ⟨(λe=>by cases e),?_⟩⟩;unfold dG;rw[B];dsimp only;refine D7 (h:={h with ws:=h.ws++[g.w]}) hD L A (by show(h.ws++[g.w]).length<=_; rw[List.length_append,List.length_singleton]; exact u) ⟨G.Mw (h:=h) hD F.Mw,λy=>?_,F.many⟩;have y':=G.live _ _ hD y;obtain⟨_,_,_,fl,_⟩:=H.live f hD y';obtain⟨w1,w2⟩:=F.ws y';refine⟨w1,?_⟩;show h.ws++[g.w]=(kG es).take (h.ws++[g.w]).length;have iN:=sC es;have aS:h.ws.length<(kG es).length:=by omega
    have hx:(aY es)[h.ws.length+1]?=some ((kG es)[h.ws.length]):=by
      rw[qm,List.getElem?_cons_succ]; exact List.getElem?_eq_getElem aS
    have c:=F.Mw y' _ _ hx;have f0:=fl _ _ hx;rw[J] at c;have e1:aC who+1+((h.ws.length+1:Nat):Int)=aC who+2+(h.ws.length:Int):=by omega
    rw[e1] at c f0;rw[List.length_append,List.length_singleton,List.take_add_one,List.getElem?_eq_getElem aS,<-w2,q2 (by rw[J]; exact c),J,f0];rfl
  | checked=>
    rw[B] at x;obtain⟨A,u,rfl,F⟩:=x;obtain⟨O,q2,rfl⟩:=E.bH;obtain⟨S,G⟩:=Q O;refine⟨V,S,G,.inr ⟨(λe=>by cases e),?_⟩⟩;unfold dG;rw[B];dsimp only;unfold gJ;by_cases l:oX h (s.W h.at')=true
    · rw[if_pos l]
      exact wH S hD λy=>(sN h).1 l ((vg (O.W _)).1 y)
    · rw[if_neg l]
      have ly:Live s h.ref:=by
        rw[vg rfl];exact Classical.not_not.1 λy=>l ((sN h).2 y)
      obtain⟨w1,w2⟩:=F.ws ly;have iN:=sC es;rw[List.take_of_length_le (by omega)] at w2;rw[w2,Z.unpack];dsimp only;obtain⟨I,_⟩:=H.live f hD ly;by_cases z:¬(s.W h.at').v=0
      · rw[if_pos z]
        refine rM (h:={h with es:=es,ws:=kG es}) hD L rfl ?_;rw[J,I.eq] at z;exact z
      · rw[if_neg z]
        exact oz (h:={h with es:=es,ws:=kG es}) hD L rfl (by show h.i<=_; omega) λj b R=>by
          have:j<h.i:=R;omega
  | cU=>
    rw[B] at x;obtain⟨A,u,e,F,rfl⟩:=x;have hm:=List.mem_of_getElem? F;have hi:=(List.getElem?_eq_some_iff.1 F).1;have hh:rz h=⟨e.old.v,e.old.aO,h.ref⟩:=by unfold rz; rw[lN A rfl F]
    have aT:∀{V'},SI D V' (N+1) s'->Gx D V s D V' s'->dC s' h.ref e->Out D V' s' t h.ref (aW {h with i:=h.i+1}):=λ{V'} S G hh=>by
      refine oz (h:={h with i:=h.i+1}) hD L A hi λj b R U=>?_;by_cases e1:j=h.i
      · subst e1
        rw[F] at U;cases U
        exact .inl hh
      · exact G.pre hD u j b (by have:j<h.i+1:=R; omega) U
    rcases E.kH with ⟨M,rfl,K,_⟩| ⟨M,rfl,K⟩
    · obtain⟨S,G⟩:=H.K5 hN hD F K M λhv j a R ha=>(u j a R ha).resolve_right λz=>z hv
      refine⟨V,S,G,.inr ⟨(λe=>by cases e),?_⟩⟩;unfold dG fJ;rw[B];dsimp only;rw[if_pos (.inl rfl)];exact aT S G K.self
    · obtain⟨S,G⟩:=Q K
      refine⟨V,S,G,.inr ⟨(λe=>by cases e),?_⟩⟩;unfold dG fJ;rw[B];dsimp only;rw[hh];by_cases z:s.W e.at'=⟨e.old.v,e.old.aO,h.ref⟩
      · rw[if_pos (.inr z)]
        exact aT S G ((K.W _).trans z)
      · rw[if_neg (λw=>w.elim (λw=>by cases w) z)]
        by_cases fo:rK h (s.W e.at')=true
        · rw[if_pos fo]
          refine⟨rfl,L,es,hD,A,G.pre hD u,e,F,rfl,⟨fo,?_,.inr (K.W _)⟩⟩;have iS:=of_decide_eq_true fo;have oF:¬(s.W e.at').ref=0:=λe0=>iS.2.1 (by rw[e0]; rfl);obtain⟨bY,e',a1,a2,a3,a4⟩:=H.cell e.at' (Z.pl e hm).1 (Z.pl e hm).2 oF;refine⟨bY,e',a1,a2,a3,?_⟩;unfold dC at a4;rw[a3] at a4;exact a4
        · rw[if_neg fo]
          exact z9 hD L A (.inr rfl)
  | again=>
    rw[B] at x;obtain⟨A,u,e,F,rfl,X⟩:=x;obtain⟨O,q2,rfl⟩:=E.bH;obtain⟨S,G⟩:=Q O;refine⟨V,S,G,?_⟩;by_cases z:s.W h.at'=⟨0,h.seq,0⟩
    · exact .inl ⟨rfl,z,es,e,hD,A,G.pre hD u,F,G.met X⟩
    · refine .inr ⟨λ_=>z,?_⟩
      unfold dG;rw[B];dsimp only;refine rM hD L A λv0=>z ?_;obtain⟨I,_⟩:=H.live f hD (H.EZ hD v0);rw[J,T,I.eq,v0]
  | dH=>
    rw[B] at x;obtain⟨A,u,e,F,rfl,X,x5⟩:=x;have hi:=(List.getElem?_eq_some_iff.1 F).1;obtain⟨bY,e',a1,a2,a3,a4⟩:=X.known;have fin:∀{V'},SI D V' (N+1) s'->Gx D V s D V' s'->Out D V' s' t h.ref (dG h g):=λ{V'} S G=>by
      unfold dG;rw[B];dsimp only;exact oz hD L A (by omega) (G.pre hD u)
    rcases E.kH with ⟨M,hg,K,_⟩| ⟨M,hg,K⟩
    · rw[<-a3] at M K
      have hH:dC s h.met.ref e':=M.trans a4;have dO:h.met.v=e'.old.v/\h.met.aO=e'.old.aO:=by rw[a4]; exact⟨rfl,rfl⟩
      obtain⟨S,G⟩:=H.L1 hN a1 a2 K hH (H.gone a1 x5).1 (.inl ⟨by rw[dO.1,dO.2],λ_ _=>x5⟩);exact⟨V,S,G,.inr ⟨(λe=>by cases e),fin S G⟩⟩
    · obtain⟨S,G⟩:=Q K
      exact⟨V,S,G,.inr ⟨(λe=>by cases e),fin S G⟩⟩
  | dX=>
    rw[B] at x;obtain⟨A,⟨e,M,K,rfl⟩,F⟩:=x;obtain⟨S,G⟩:=Q (E.fN (.inl rfl));refine⟨V,S,G,.inr ⟨(λe=>by cases e),?_⟩⟩;unfold dG;rw[B];dsimp only;have hi:=(List.getElem?_eq_some_iff.1 K).1;rcases F with ⟨z1,z2,z3⟩| ⟨z1,z2,z3⟩
    · exact oS hD L A (by omega) z1 (.inl ⟨rfl,z2,G.pre hD z3⟩)
    · exact oS hD L A (by omega) z1 (.inr ⟨rfl,G.Dd hD z2,G.free hD Z z2 z3⟩)
  | settle=>
    rw[B] at x;obtain⟨A,rfl,u,F⟩:=x;obtain⟨S,G⟩:=Q (E.fN (.inr rfl));refine⟨V,S,G,.inr ⟨(λe=>by cases e),?_⟩⟩;unfold dG;rw[B];dsimp only;exact Aq hD L A (.inl ⟨u,G.pre hD F⟩)
  | gC=>
    rw[B] at x;obtain⟨A,rfl,u⟩:=x;have fin:∀{V'},SI D V' (N+1) s'->¬V' h.ref=0->Out D V' s' t h.ref (dG h g):=λ{V'} S hv=>by
      unfold dG;rw[B];dsimp only;exact rM hD L A hv
    rcases E.kH with ⟨M,_,K,y3⟩| ⟨M,_,K⟩
    · rw[J,T] at M
      have lv:Live s h.ref:=lk.2 ⟨0,by omega,M⟩;obtain⟨I,_⟩:=H.live f hD lv;have v0:V h.ref=0:=by
        have:=I.eq.symm.trans M;simp only[W3.mk.injEq] at this;exact this.1
      rw[J,T] at K;rw[J] at y3;obtain⟨S,G⟩:=H.MX hN f hD M (z:=h.aO) (by omega) K y3 λhz b U=>by
        rcases u with ⟨_,u⟩| u
        · obtain⟨j,R,rfl⟩:=List.mem_iff_getElem.1 U
          exact(u j _ R (List.getElem?_eq_getElem R)).resolve_right λz=>z v0
        · omega
      refine⟨_,S,G,.inr ⟨(λe=>by cases e),fin S ?_⟩⟩;show ¬(if h.ref=h.ref then h.aO else V h.ref)=0;rw[if_pos rfl];omega
    · obtain⟨S,G⟩:=Q K
      refine⟨_,S,G,.inr ⟨(λe=>by cases e),fin S λv0=>M ?_⟩⟩;obtain⟨I,_⟩:=H.live f hD (H.EZ hD v0);rw[J,T,I.eq,v0]
  | bQ=>
    rw[B] at x;obtain⟨A,rfl,u⟩:=x;obtain⟨S,G⟩:=Q (E.fN (.inl rfl));refine⟨V,S,G,.inr ⟨(λe=>by cases e),?_⟩⟩;unfold dG;rw[B];exact⟨rfl,L,es,hD,A,rfl,G.Dd hD u⟩
  | cJ=>
    rw[B] at x;obtain⟨A,rfl,u⟩:=x;obtain⟨S,G⟩:=Q (E.fN (.inr rfl));refine⟨V,S,G,.inr ⟨(λe=>by cases e),?_⟩⟩;unfold dG;rw[B];exact⟨rfl,L,es,hD,A,rfl,G.Dd hD u⟩
  | known=>
    rw[B] at x;obtain⟨A,rfl,u⟩:=x;obtain⟨O,q2,rfl⟩:=E.bH;obtain⟨S,G⟩:=Q O;refine⟨V,S,G,.inr ⟨(λe=>by cases e),?_⟩⟩;unfold dG rY;rw[B];dsimp only;have v2:=G.Dd hD u;refine zp (h:={h with aO:=if s.W h.at'=⟨1,h.seq,0⟩\/s.W h.at'=⟨2,h.seq,0⟩ then(s.W h.at').v else 4,i:=0,nx:=.known}) hD L A (Nat.zero_le _) v2 ⟨?_,λj a R=>absurd R (Nat.not_lt_zero _)⟩;dsimp only;by_cases l:Live s h.ref
    · obtain⟨I,b1,b2,_⟩:=H.live f hD l
      rw[J,T,I.eq];simp only[W3.mk.injEq,and_true];by_cases b3:V h.ref=1
      · rw[if_pos (.inl b3)]; exact .inl ⟨b3,b3⟩
      · have b4:V h.ref=2:=by omega
        rw[if_pos (.inr b4)]; exact .inr (.inl ⟨b4,b4⟩)
    · rw[if_neg]
      · exact .inr (.inr ⟨rfl,λy=>l (G.live _ _ hD y)⟩)
      · rw[J,T]
        rintro(y | y)
        · exact l (lk.2 ⟨1,by omega,y⟩)
        · exact l (lk.2 ⟨2,by omega,y⟩)
  | found=>
    rw[B] at x;obtain⟨A,u,F,e,X,rfl⟩:=x;obtain⟨O,q2,rfl⟩:=E.bH;obtain⟨S,G⟩:=Q O;refine⟨V,S,G,.inr ⟨(λe=>by cases e),?_⟩⟩;have hm:=List.mem_of_getElem? X;have hi:=(List.getElem?_eq_some_iff.1 X).1;unfold dG pj;rw[B];dsimp only;rw[lN A rfl X];have F':=G.free hD Z u F;have gv:=Z.aO e hm;by_cases c:(s.W e.at').ref=h.ref
    · have hw:=H.Di hD hm c
      unfold dC at hw;have hr:s6 (s.W e.at') e.new (e.wr&&decide (h.aO=1))=(if e.wr=true/\h.aO=1 then⟨e.new,e.old.aO+1,0⟩ else⟨e.old.v,e.old.aO,0⟩,0):=by
        rw[hw];unfold s6;rw[if_neg (by rw[BF H hD]; simp),if_neg (by dsimp only; omega)];by_cases w1:e.wr=true <;> by_cases w2:h.aO=1 <;> simp[w1,w2]
      rw[if_pos ⟨c,by rw[hr]⟩,hr,hw];exact⟨rfl,L,es,hD,A,G.Dd hD u,F',e,X,rfl⟩
    · rw[if_neg (λy=>c y.1)]
      unfold lV;refine zp (h:={h with i:=h.i+1}) hD L A hi (G.Dd hD u) ⟨F'.vr,λj b R U hw hv=>?_⟩;by_cases e1:j=h.i
      · subst e1
        rw[X] at U;cases U
        rcases S.done _ _ hD hv e hm hw with y | y
        · have:=y.1
          unfold dC at this;rw[O.W] at this;exact absurd (by rw[this]) c
        · exact y
      · exact F'.rel j b (by have:j<h.i+1:=R; omega) U hw hv
  | kS=>
    rw[B] at x;obtain⟨A,u,F,e,X,rfl⟩:=x;have hm:=List.mem_of_getElem? X;have hi:=(List.getElem?_eq_some_iff.1 X).1;have fin:∀{V'},SI D V' (N+1) s'->Gx D V s D V' s'->(e.wr=true->V' h.ref=1->qK s' e)->Out D V' s' t h.ref (dG h g):=λ{V'} S G hp=>by
      unfold dG lV;rw[B];dsimp only;have F':=G.free hD Z u F;refine zp (h:={h with i:=h.i+1,nx:=.kS}) hD L A hi (G.Dd hD u) ⟨F'.vr,λj b R U hw hv=>?_⟩;by_cases e1:j=h.i
      · subst e1
        rw[X] at U;cases U
        exact hp hw hv
      · exact F'.rel j b (by have:j<h.i+1:=R; omega) U hw hv
    rcases E.kH with ⟨M,_,K,y3⟩| ⟨M,_,K⟩
    · have hc:((if e.wr=true/\h.aO=1 then(⟨e.new,e.old.aO+1,0⟩:W3) else⟨e.old.v,e.old.aO,0⟩)=⟨e.old.v,e.old.aO,0⟩/\(V h.ref=1->e.wr=true->¬Live s h.ref))\/((if e.wr=true/\h.aO=1 then(⟨e.new,e.old.aO+1,0⟩:W3) else⟨e.old.v,e.old.aO,0⟩)=⟨e.new,e.old.aO+1,0⟩/\V h.ref=1/\e.wr=true):=by
        by_cases c:e.wr=true/\h.aO=1
        · rw[if_pos c]
          refine .inr ⟨rfl,?_,c.1⟩;rcases F.vr with z | z | z
          · exact z.2
          · omega
          · omega
        · rw[if_neg c]
          refine .inl ⟨rfl,λv1 w=>?_⟩;rcases F.vr with z | z | z
          · exact absurd ⟨w,z.1⟩ c
          · omega
          · exact z.2
      obtain⟨S,G⟩:=H.L1 hN hD hm K M u hc;refine⟨V,S,G,.inr ⟨(λe=>by cases e),fin S G λhw hv=>?_⟩⟩;rcases F.vr with z | z | z
      · unfold qK
        rw[K.self,if_pos ⟨hw,z.1⟩];show e.old.aO<e.old.aO+1;omega
      · omega
      · rcases H.done _ _ hD hv e hm hw with y | y
        · exact absurd y.2 z.2
        · exact G.Jq Z hm y
    · obtain⟨S,G⟩:=Q K
      refine⟨V,S,G,.inr ⟨(λe=>by cases e),fin S G λhw hv=>?_⟩⟩;rcases H.done _ _ hD hv e hm hw with y | y
      · exact absurd y.1 M
      · exact G.Jq Z hm y
  | through=>
    rw[B] at x;obtain⟨A,rfl,u,F⟩:=x;obtain⟨S,G⟩:=Q (E.fN (.inr rfl));refine⟨V,S,G,.inr ⟨(λe=>by cases e),?_⟩⟩;unfold dG;rw[B];exact⟨rfl,rfl,es,hD,G.Dd hD u,G.free hD Z u F⟩
end
section
variable {D D':Dg} {V V':Vg} {N:Int} {s s':Sh} {t:Nat} {r:Int} {es:List Et} {e:Et} {h:Hs} {a:Ac}
def C6.nx (m:C6 D V s h e) (k:HK):C6 D V s {h with nx:=k} e:=⟨m.sF,m.known,m.link⟩
def SN (r:Int) (hs:List Hs):Prop:=∃h l,hs=h::l/\h.ref=r
def Gm (D:Dg) (V:Vg) (s:Sh) (t:Nat) (r:Int):List Hs × Ac × Bool->Prop
 | (hs,a,false)=>SN r hs/\jV D V s t hs a
 | (hs,_,true)=>∃h,hs=[h]/\h.ref=r/\HE D V s h
def Out.row {x:Hs × Ac × Bool} (o:Out D V s t r x):Gm D V s t r ([x.1],x.2):=by
 obtain⟨h,a,d⟩:=x;cases d with
 | false=>exact⟨⟨h,[],rfl,o.1⟩,o.2⟩
 | true=>exact⟨h,rfl,o.1,o.2⟩
def Vd:HK->Bool
 | .again | .bR | .dH=>false
 | _=>true
def Qn (k:HK):Prop:=Vd k=true
def Qn.ne {k:HK} (h:Qn k):¬k=.again/\¬k=.bR/\¬k=.dH:=
 ⟨λe=>(by subst e; cases h),λe=>(by subst e; cases h),λe=>(by subst e; cases h)⟩
def p5 {h:Hs}:Qn (bD h).1.nx:=by
 unfold bD gP eF;split <;> exact rfl
def qt {h:Hs} (q:h.bh=some .settle\/h.bh=some .through):Qn (bG h).1.nx:=by
 unfold bG eF;split
 ·rcases q with e | e <;> rw[e] <;> exact rfl
 ·exact rfl
def Bz {h:Hs} {z:Int}:Qn (cD h z).1.nx:=by
 unfold cD;split
 ·exact qt (h:={h with aO:=z,i:=0,bh:=some .settle}) (.inl rfl)
 ·exact rfl
def ql {h:Hs}:Qn (aW h).1.nx:=by
 unfold aW;split
 ·exact Bz
 ·exact rfl
def Iz {h:Hs}:Qn (fM h).1.nx:=by
 unfold fM gP eF;split <;> exact rfl
def CS {h:Hs} (q:Qn h.nx):Qn (ke h).1.nx:=by
 unfold ke;split
 ·exact rfl
 ·split
  ·exact qt (h:={h with i:=0,bh:=some .through}) (.inr rfl)
  ·exact q
def HL.leads {g:cP} (x:HL D V s t h a):Qn (dG h g).1.nx\/(h.nx=.cU/\¬g.w=rz h/\rK h g.w=true/\(dG h g).1={h with met:=g.w,nx:=.again}):=by
 obtain⟨_,es,_,x⟩:=x;unfold dG;cases q:h.nx <;> rw[q] at x <;> dsimp only
 case first=>
  left;split
  ·show Qn h.nx; rw[q]; rfl
  ·exact rfl
 case dE=>
  left; unfold j9;split
  ·show Qn h.nx; rw[q]; rfl
  ·exact Iz
 case fA=>left; exact Iz
 case checked=>
  left; unfold gJ;split
  ·show Qn h.nx; rw[q]; rfl
  ·split
   ·show Qn h.nx; rw[q]; rfl
   ·split
    ·exact p5
    ·exact ql
 case cU=>
  unfold fJ;split
  ·left; exact ql
  ·rename_i z;split
   ·rename_i u;exact .inr ⟨rfl,λe=>z (.inr e),u,rfl⟩
   ·left; exact Bz
 case again=>left; exact p5
 case bR=>exact x.elim
 case begin=>exact x.elim
 case dH=>left; exact ql
 case dX=>
  left;rcases x.2.2 with y | y
  ·exact qt (.inl y.1)
  ·exact qt (.inr y.1)
 case settle=>left; rfl
 case gC=>left; exact p5
 case bQ=>left; rfl
 case cJ=>left; rfl
 case known=>
  left; unfold rY;exact CS (by show Qn h.nx; rw[q]; rfl)
 case found=>
  left; unfold pj;split
  ·exact rfl
  ·exact CS (by show Qn h.nx; rw[q]; rfl)
 case kS=>
  left; unfold lV;exact CS (by show Qn h.nx; rw[q]; rfl)
 case through=>left; show Qn h.nx; rw[q]; rfl
def I7.qn {k:Hs} (q:Qn k.nx):I7 V h k:=⟨λe=>absurd e q.ne.1,λe=>e.elim (λe=>absurd e q.ne.2.1) λe=>absurd e q.ne.2.2⟩
def I7.out (H:SI D V N s) (G:Gs D V s D' V' s') {g:cP} {k:Hs} (w:HW D V s h k.ref) (x:HL D V s t k a) (E:pr t s s' a g):I7 V' h (dG k g).1:=by
 rcases x.leads (g:=g) with q | ⟨hk,z,fo,e⟩
 ·exact .qn q
 ·rw[e];refine⟨λ_ A=>?_,λe=>e.elim (λe=>by cases e) λe=>by cases e⟩;obtain⟨k0,es,hD,x⟩:=x;rw[hk] at x;obtain⟨Q,x2,F,B,rfl⟩:=x;obtain⟨w1,w2,w3,aS,e1,w4,w5,w6,w7,w8⟩:=w;have A:V' k.ref=0:=A;have A:V k.ref=0:=Classical.byContradiction λn=>n ((G.vv _ _ hD n)▸A);obtain⟨aT,e2,J,a2,R,T⟩:=w8.known;rw[<-w3] at J T;rw[hD] at J;cases J
  have U:dC s k.ref e2:=by
   rcases w8.link with y | y
   ·rw[<-w3] at y; exact absurd A y
   ·unfold dC; rw[R,y]; exact T
  have K:hE h=e1:=lN w5 rfl w7;have L:hE {k with met:=g.w,nx:=.again}=F:=lN (h:={k with met:=g.w,nx:=.again}) Q rfl B;rw[K,L,<-R];have X:¬dC s k.ref F:=λy=>by
   rcases E.kH with ⟨M,Z,_⟩| ⟨M,Z,_⟩
   ·obtain⟨_,_,f,_,O⟩:=H.rf hD;have h1:=O.ref F (List.mem_of_getElem? B);have h2:=f.pos;unfold dC at y;rw[y] at M;rw[<-M] at h1;dsimp only at h1;omega
   ·apply z;rw[Z];unfold rz;rw[lN Q rfl B];exact y
  obtain⟨j,hj,rfl⟩:=List.mem_iff_getElem.1 a2;have u:=List.getElem?_eq_getElem (l:=es) hj;obtain⟨_,_,_,_,O⟩:=H.rf hD;rcases Nat.lt_trichotomy j k.i with c | c | c
  ·exact O.B9 j k.i _ _ c u B
  ·subst c;rw[B] at u;cases u
   exact absurd U X
  ·exact absurd (H.ord k.ref es hD A k.i j _ _ c B u U) X
def I7.row (H:SI D V N s) (G:Gs D V s D' V' s') {g:cP} (E:pr t s s' a g) {l:List Hs} {k:Hs} (w:HW D V s h k.ref) (c:I7 V h k) (x:jV D V s t (k::l) a) {k':Hs} {J:List Hs} {K:Ac} (he:bV (k::l) g=(k'::J,K,false)):I7 V' h k':=by
 cases l with
 | nil=>
  have x:HL D V s t k a:=x;have F:=x.1;have M:¬k.nx=.bR:=λe=>by
   obtain⟨_,es,_,z⟩:=x;rw[e] at z;exact z
  by_cases u:k.nx=.again
  ·rw[gL F u] at he;split at he
   ·injection he with he;injection he with he;rw[<-he];exact .qn p5
   ·rename_i z;have z:g.w=⟨0,k.seq,0⟩:=Classical.not_not.1 z;injection he with he _;injection he with he _;rw[<-he];obtain⟨_,es,hD,x⟩:=x;rw[u] at x;obtain⟨O,Q,R,T,rfl,U⟩:=x;obtain⟨_,_,rfl⟩:=E.bH;have L:V k.ref=0:=by
     obtain⟨who,q,f,_,_⟩:=H.rf hD;have A:k.at'=aC who:=by unfold Hs.at'; rw[f.w]
     have B:k.seq=q:=f.sq;have z:s.W k.at'=⟨0,k.seq,0⟩:=z;rw[A,B] at z;obtain⟨I,_⟩:=H.live f hD (f.live.2 ⟨0,by omega,z⟩);have:=I.eq.symm.trans z;simp only[W3.mk.injEq] at this;exact this.1
    exact⟨λe=>(by cases e),λ_=>c.1 u L⟩
  ·rw[lS F u [] (.inl rfl)] at he;injection he with he;injection he with he;rw[<-he];exact I7.out H G w x E
 | cons k2 l=>
  obtain⟨⟨w2,_⟩,_⟩:=x;rw[jI w2.1 w2.2.1] at he;split at he
  ·injection he with he _;injection he with he _;rw[<-he];exact⟨λe=>(by cases e),λ_=>c.2 (.inl w2.2.1)⟩
  ·split at he
   ·split at he
    ·injection he with he _;injection he with he _;rw[<-he];exact .qn ql
    ·injection he with he _;injection he with he _;rw[<-he];exact⟨λe=>(by cases e),λ_=>c.2 (.inl w2.2.1)⟩
   ·simp at he
def jV.step (H:SI D V N s) (K:N+1<1000000) {g:cP} (E:pr t s s' a g):∀{l:List Hs} {h:Hs},jV D V s t (h::l) a->
  ∃V',SI D V' (N+1) s'/\Gx D V s D V' s'/\Gm D V' s' t h.ref (bV (h::l) g)
 | [],h,x=>by
  have x:HL D V s t h a:=x;obtain⟨V',S,G,y⟩:=x.step H K E;have u:=x.1;refine⟨V',S,G,?_⟩;have hn:¬h.nx=.bR:=λe=>by
   obtain⟨_,es,_,z⟩:=x;rw[e] at z;exact z
  rcases y with ⟨e,Q,es,R,hD,T,U,X,L⟩| ⟨e,y⟩
  ·rw[gL u e,if_neg (λz=>z Q)];obtain⟨F,A,Z,a2,a3,a4⟩:=L.known;refine⟨⟨_,_,rfl,rfl⟩,⟨⟨u,rfl,rfl,es,R,hD,T,U,X,L.nx _⟩,.qn rfl⟩,rfl,F,Z,rfl,rfl,rfl⟩
  ·by_cases B:h.nx=.again
   ·rw[gL u B,if_pos (e B)];have J:=y.row;unfold dG at J;rw[B] at J;exact J
   ·rw[lS u B [] (.inl rfl)];exact y.row
 | k::l,h,x=>by
  obtain⟨⟨w,B9⟩,x⟩:=x;obtain⟨V',S,G,y⟩:=jV.step H K E x;refine⟨V',S,G,?_⟩;have w':=w.mono G.toGs;have ar:=@I7.row D D V V' N s s' t h a H G.toGs g E l k w B9 x;rw[jI w.1 w.2.1];cases M:bV (k::l) g with
  | mk r' q=>
   obtain⟨a',d⟩:=q;rw[M] at y;cases d with
   | false=>
    obtain⟨⟨h2,l2,rfl,A⟩,y⟩:=y;refine⟨⟨_,_,rfl,rfl⟩,⟨?_,ar M⟩,y⟩;rw[A];obtain⟨w1,w2,w3,es,e,w4,w5,w6,w7,w8⟩:=w';exact⟨w1,rfl,w3,es,e,w4,w5,w6,w7,w8.nx _⟩
   | true=>
    obtain⟨h2,rfl,A,y⟩:=y;dsimp only;obtain⟨w1,w2,w3,es,e,w4,w5,w6,w7,w8⟩:=w';have hi:=(List.getElem?_eq_some_iff.1 w7).1;by_cases O:h2.aO=4
    ·rw[if_neg (λz=>z O)];refine⟨⟨_,_,rfl,rfl⟩,w1,es,w4,w5,w6,e,w7,?_,w8.nx _,?_⟩
     ·rw[lN w5 rfl w7]
     ·obtain⟨_,aS,z1,z2,z3⟩:=y;show ¬Live s' h.met.ref;rw[<-w3,<-A];rcases z3.vr with z | z | z
      ·omega
      ·omega
      ·exact z.2
    ·rw[if_pos O];exact(oz w4 w1 w5 (by omega) w6).row
end
abbrev tq:Type:=Nat->Nat
def MA (O:tq) (t:Nat) (who:Int):Prop:=who=t\/∃i:Nat,i<4/\who=9+i/\O i=t
structure BI (D:Dg) (V:Vg) (O:tq) (s:Sh):Prop where
 bw:∃b aO,s.W 376=⟨b,aO,0⟩/\(0<=b/\b<16)/\∀i,i<4->(mR b (2 ^ i)=0↔O i=0)
 rd:∀i:Nat,i<4->O i=0->kg D V s (9+i)
 le:∀i,i<4->O i<=3
 inj:∀i j,i<4->j<4->¬O i=0->O i=O j->i=j
structure zm (t:Nat) (D:Dg) (V:Vg) (O:tq) (s:Sh) (D':Dg) (V':Vg) (O':tq) (s':Sh):Prop extends Gs D V s D' V' s' where
 kp:∀who,bA who->MA O t who->Kp s s' who/\∀q,1<=q/\q<1000000->D' (bT who q)=D (bT who q)
 ow:∀i,i<4->(O' i=t↔O i=t)
structure Sx (A:Int->Prop) (t:Nat) (D:Dg) (V:Vg) (O:tq) (N:Int) (s:Sh) (D':Dg) (V':Vg) (O':tq) (s':Sh):Prop where
 si:SI D' V' (N+1) s'
 gs:Gs D V s D' V' s'
 lg:Lg D V s D' V' s'
 bi:BI D' V' O' s'
 kp:∀who,bA who->¬A who->Kp s s' who/\∀q,1<=q/\q<1000000->D' (bT who q)=D (bT who q)
 own:∀who,A who->MA O t who
 ow:∀i u,i<4->¬u=t->¬u=0->(O' i=u↔O i=u)
 lo:∀p,p<56->s'.W p=s.W p
section
variable {D D':Dg} {V V':Vg} {O O':tq} {N:Int} {s s':Sh} {t u:Nat} {r:Int} {es:List Et} {e:Et} {p c who q:Int} {w:W3}
def Sx.rl {A:Int->Prop} (h:Sx A t D V O N s D' V' O' s') (hu:¬u=t) (h1:1<=u/\u<=3) (H:1<=t/\t<=3):zm u D V O s D' V' O' s':=by
 refine {h.gs with kp:=λwho hw ho=>h.kp who hw λE=>?_,ow:=λi hi=>h.ow i u hi hu (by omega)};have B:=h.own who E;rcases ho with e | ⟨i,hi,e,J⟩ <;> rcases B with F | ⟨j,K,F,G⟩
 ·omega
 ·omega
 ·omega
 ·have:i=j:=by omega
  subst this;omega
def kg.mono (H:SI D V N s) (hD:∀q,1<=q/\q<1000000->D' (bT who q)=D (bT who q)) (G:Gs D V s D' V' s') (h:kg D V s who):kg D' V' s' who:=λq es B he=>by
 rw[hD q B] at he;obtain⟨a,b⟩:=h q es B he;obtain⟨_,_,_,_,g⟩:=H.rf he;exact⟨G.Dd he a,λv E A wr=>G.Jq g A (b (by rw[<-G.vv _ _ he a]; exact v) E A wr)⟩
def PL (D:Dg) (V:Vg) (s:Sh) (who h:Int):Prop:=∀q es,1<=q/\q<1000000->¬q=h->D (bT who q)=some es->¬V (bT who q)=0/\(V (bT who q)=1->∀e∈es,e.wr=true->qK s e)
def PL.mono (H:SI D V N s) (hD:∀q,1<=q/\q<1000000->D' (bT who q)=D (bT who q)) (G:Gs D V s D' V' s') {B:Int} (h:PL D V s who B):PL D' V' s' who B:=λq es E F he=>by
 rw[hD q E] at he;obtain⟨a,b⟩:=h q es E F he;obtain⟨_,_,_,_,g⟩:=H.rf he;exact⟨G.Dd he a,λv J A wr=>G.Jq g A (b (by rw[<-G.vv _ _ he a]; exact v) J A wr)⟩
def BI.mono (B:BI D V O s) (H:SI D V N s) (hD:∀i:Nat,i<4->O i=0->∀q,1<=q/\q<1000000->D' (bT (9+i) q)=D (bT (9+i) q)) (G:Gs D V s D' V' s') (A:s'.W 376=s.W 376):BI D' V' O s':=
 ⟨by rw[A]; exact B.bw,λi hi h=>(B.rd i hi h).mono H (hD i hi h) G,B.le,B.inj⟩
def Gx.sx (G:Gx D V s D V' s') (S:SI D V' (N+1) s') (H:SI D V N s) (B:BI D V O s):Sx (λ_=>False) t D V O N s D V' O s':=
 ⟨S,G.toGs,G.lg,B.mono H (λ_ _ _ _ _=>rfl) G.toGs G.bt,λwho hw _=>⟨G.kp who hw,λ_ _=>rfl⟩,λ_ h=>h.elim,λ_ _ _ _ _=>Iff.rfl,G.lo⟩
structure Claim (D:Dg) (V:Vg) (s:Sh) (who q:Int):Prop where
 st:∃v q0,s.W (aC who)=⟨v,q0,0⟩/\q0<q/\(q=q0+1\/q<=1000)
 rd:kg D V s who
structure Ca (D:Dg) (V:Vg) (s:Sh) (t:Nat) (who q:Int) (es:List Et) (k:Nat):Prop where
 st:s.W (aC who)=⟨3,q,0⟩
 rd:kg D V s who
 fl:∀(j:Nat) (w:W3),j<k->(aY es)[j]?=some w->s.W (aC who+1+j)=w/\s.n (aC who+1+j) - 1<=s.v t (aC who+1+j)
def Kp.bk (h:Kp s s' who) {v q:Int} (hv:¬v=0) (e:s.W (aC who)=⟨v,q,0⟩):s'.W (aC who)=⟨v,q,0⟩:=by
 obtain⟨A,a,b⟩:=h.st v q e;rcases b with rfl | ⟨rfl,_⟩
 ·exact a
 ·exact absurd rfl hv
def Claim.mono (H:SI D V N s) (R:zm t D V O s D' V' O' s') (hw:bA who) (ho:MA O t who) (h:Claim D V s who q):Claim D' V' s' who q:=by
 obtain⟨k,d⟩:=R.kp who hw ho;obtain⟨v,A,a,b⟩:=h.st;obtain⟨B,E,_⟩:=k.st v A a;exact⟨⟨B,A,E,b⟩,h.rd.mono H d R.toGs⟩
def Ca.mono (H:SI D V N s) (R:zm t D V O s D' V' O' s') (hw:bA who) (ho:MA O t who) {k:Nat} (g:es.length<=6) (h:Ca D V s t who q es k):Ca D' V' s' t who q es k:=by
 obtain⟨kp,d⟩:=R.kp who hw ho;refine⟨kp.bk (by omega) h.st,h.rd.mono H d R.toGs,λj w F A=>?_⟩;obtain⟨a,b⟩:=h.fl j w F A;have G:=cB es;have:=(List.getElem?_eq_some_iff.1 A).1;obtain⟨B,E⟩:=kp.fl (1+j) (by omega) (by omega);have hv:=R.vw t (aC who+1+j);rw[<-Int.add_assoc] at B E;rw[B,E];exact⟨a,by omega⟩
def pr.yg {op p:Int} {o n:W3} {g:cP} (E:pr t s s' ⟨op,p,o,n⟩ g) (h:op=3\/op=4):Wr s s' p n/\s.n p<=s'.v t p/\(op=4->∀j,s.v t j<=s'.tv p j):=by
 cases E with
 | put _ _ _ _ h1 h2 A B F G H=>exact⟨⟨h2,A,B,F⟩,G,H⟩
 | fP _ _ _ _ h1=>omega
 | _=>omega
def CY (h:∀c,56<=c->c<62->s'.W c=s.W c):∀c,56<=c->c<62->yO D V s' c=yO D V s c:=λc h1 h2=>p9 (h c h1 h2) rfl Iff.rfl
def Claim.fill (H:SI D V N s) (L:N+1<1000000) (M:1000<=N) (B:BI D V O s) (hw:bA who) (ho:MA O t who) (C:Claim D V s who q) (h:Wr s s' (aC who) ⟨3,q,0⟩):Sx (·=who) t D V O N s D V O s'/\Ca D V s' t who q es 0:=by
 obtain⟨⟨v,K,e,h1,h2⟩,rd⟩:=C;have Q:0<=K/\K<=N:=by
  obtain⟨U,R,I⟩:=H.st who hw;have:=I.eq.symm.trans e;simp only[W3.mk.injEq] at this;have:=I.qr;omega
 obtain⟨S,G⟩:=H.NT L hw e ⟨h1,by omega⟩ h rd;have T:=cY hw;have E:∀w,bA w->¬w=who->Kp s s' w:=λw A F=>by
  have:=cZ A hw F;exact h.kp (by omega)
 refine⟨⟨S,G,.same (λw A ⟨R,a,b⟩=>?_) (CY λc _ _=>h.ne (by omega)),B.mono H (λ_ _ _ _ _=>rfl) G (h.ne (by omega)),λw A J=>⟨E w A J,λ_ _=>rfl⟩,λw e=>e▸ho,λ_ _ _ _ _=>Iff.rfl,λp X=>h.ne (by omega)⟩,h.self,rd.mono H (λ_ _=>rfl) G,λj w Z=>by omega⟩;by_cases x:w=who
 ·subst x; rw[h.self] at b; cases b
 ·have:=cZ A hw x;rw[h.ne (by omega),a] at b; cases b
def Ca.store (H:SI D V N s) (Q:N+1<1000000) (B:BI D V O s) (hw:bA who) (ho:MA O t who) {k:Nat} (g:es.length<=6) (F:Ca D V s t who q es k) {x:W3} (M:(aY es)[k]?=some x) (h:Wr s s' (aC who+1+k) x) (hv:s.n (aC who+1+k)<=s'.v t (aC who+1+k)) :
  Sx (·=who) t D V O N s D V O s'/\Ca D V s' t who q es (k+1):=by
 have T:=cB es;have U:=(List.getElem?_eq_some_iff.1 M).1;have R:=cY hw;obtain⟨S,G⟩:=H.field Q hw F.st (p:=aC who+1+k) ⟨by omega,by omega⟩ h;have J:∀w,bA w->¬w=who->Kp s s' w:=λw A K=>by
  have:=cZ A hw K;exact h.kp (by omega)
 refine⟨⟨S,G,.same (.of λw A=>?_) (CY λc _ _=>h.ne (by omega)),B.mono H (λ_ _ _ _ _=>rfl) G (h.ne (by omega)),λw A L=>⟨J w A L,λ_ _=>rfl⟩,λw e=>e▸ho,λ_ _ _ _ _=>Iff.rfl,λp X=>h.ne (by omega)⟩,?_,F.rd.mono H (λ_ _=>rfl) G,λj w Z E=>?_⟩
 ·by_cases x:w=who
  ·subst x; exact h.ne (by omega)
  ·have:=cZ A hw x;exact h.ne (by omega)
 ·rw[h.ne (by omega)]; exact F.st
 ·by_cases e:j=k
  ·subst e;rw[M] at E;cases E
   refine⟨h.self,?_⟩;rw[h.n,if_pos rfl]; omega
  ·obtain⟨a,b⟩:=F.fl j w (by omega) E;have:=h.v t (aC who+1+j);rw[h.ne (by omega),h.I2 (by omega)];exact⟨a,by omega⟩
def nT (H:SI D V N s) (A:N+1<1000000) (B:BI D V O s) (h:s.quiet s') (hv:∀t j,s.v t j<=s'.v t j):Sx (λ_=>False) t D V O N s D V O s'/\zm t D V O s D V O s':=by
 obtain⟨S,G⟩:=H.K7 h hv;exact⟨G.sx (S.mono (by omega) A) H B,{G.toGs with kp:=λwho hw _=>⟨G.kp who hw,λ_ _=>rfl⟩,ow:=λ_ _=>Iff.rfl}⟩
def Ca.opened (H:SI D V N s) (hN:N+1<1000000) (B:BI D V O s) (f:Rf who q r) (ho:MA O t who) (ht:1<=t/\t<=3) (g:Good es) (F:Ca D V s t who q es (1+3*es.length)) (h:Wr s s' (aC who) ⟨0,q,0⟩) (hv:∀j,s.v t j<=s'.tv (aC who) j) :
  Sx (·=who) t D V O N s (Ns D r es) (Fo V r 0) O s'/\Ns D r es r=some es/\PL (Ns D r es) (Fo V r 0) s' who q:=by
 have hl:=cB es;have aT:=cY f.wh;obtain⟨R,S,G⟩:=H.opened hN f F.st g (λk w T=>(F.fl k w (by have:=(List.getElem?_eq_some_iff.1 T).1; omega) T).1) (λk w T=>(F.fl k w (by have:=(List.getElem?_eq_some_iff.1 T).1; omega) T).2) h hv;have Z:∀M,¬M=r->Ns D r es M=D M:=λM e=>if_neg e;have eV:∀M,¬M=r->Fo V r 0 M=V M:=λM e=>if_neg e;have Q:∀J,bA J->¬J=who->∀L,1<=L/\L<1000000->¬bT J L=r:=λJ K E L A e=>by
  rw[f.eq] at e;exact E (uF K A f.wh f.qr e).1
 have hW:∀c,56<=c->c<62->s'.W c=s.W c:=λc h1 h2=>h.ne (by omega);have U:∀c,56<=c->c<62->¬(s.W c).ref=r:=λc h1 h2 e=>by
  have hp:=f.pos;obtain⟨bY,e2,a1,_⟩:=H.cell c h1 h2 (by omega);rw[e,R] at a1;cases a1
 refine⟨⟨S,G,.same (λw K ⟨L,a,b⟩=>?_) λc h1 h2=>p9 (hW c h1 h2) (Z _ (U c h1 h2)) (by rw[eV _ (U c h1 h2)]),B.mono H (λi hi h0 L A=>Z _ (Q _ ?_ ?_ L A)) G (h.ne (by omega)),λw K E=>?_,λw e=>e▸ho,λ_ _ _ _ _=>Iff.rfl,λp hp=>h.ne (by omega)⟩,if_pos rfl,λL aS A hn he=>?_⟩
 ·by_cases x:w=who
  ·subst x; rw[h.self] at b; cases b
  ·have:=cZ K f.wh x;rw[h.ne (by omega),a] at b; cases b
 ·unfold bA; omega
 ·intro e;rcases ho with e2 | ⟨j,hj,e2,e3⟩
  ·omega
  ·have:i=j:=by omega
   subst this;omega
 ·have:=cZ K f.wh E;exact⟨h.kp (by omega),λL A=>Z _ (Q w K E L A)⟩
 ·have E:¬bT who L=r:=λe=>by
   rw[f.eq] at e;exact hn (uF f.wh A f.wh f.qr e).2
  rw[Z _ E] at he;obtain⟨a,b⟩:=F.rd L aS A he;obtain⟨_,_,_,_,g'⟩:=H.rf he;rw[eV _ E];exact⟨a,λv e' X wr=>G.Jq g' X (b v e' X wr)⟩
def PL.ready (S:SI D V N s) (f:Rf who q r) (hD:D r=some es) {h:Hs} (H:h.ref=r) (hE:HE D V s h) (X:PL D V s who q):kg D V s who:=λF A B he=>by
 by_cases e:F=q
 ·subst e;rw[<-f.eq] at he⊢;obtain⟨_,J,a,b,c⟩:=hE;rw[H] at a b c;rw[hD] at a;cases a
  rw[hD] at he;cases he
  exact⟨b,λv K E wr=>by
   obtain⟨j,G,rfl⟩:=List.mem_iff_getElem.1 E;exact c.rel j _ G (List.getElem?_eq_getElem G) wr v⟩
 ·exact X F A B e he
end
def Lm (b:Fin 16) (i j:Fin 4):Bool:=
 let x:Int:=b.val;let p:Int:=2 ^ i.val;let q:Int:=2 ^ j.val;decide (0<=Fl x p/\Fl x p<16)&&decide (0<=Iv x p/\Iv x p<16)&&(decide (mR (Fl x p) q=0) == (decide (¬j=i)&&decide (mR x q=0)))&&(decide (mR (Iv x p) q=0) == (decide (j=i)||decide (mR x q=0)))
def N1:∀(b:Fin 16) (i j:Fin 4),Lm b i j=true:=by decide +kernel
def CL {b:Int} (B:0<=b/\b<16) {i j:Nat} (hi:i<4) (q:j<4) :
  (0<=Fl b (2 ^ i)/\Fl b (2 ^ i)<16)/\(0<=Iv b (2 ^ i)/\Iv b (2 ^ i)<16)/\(mR (Fl b (2 ^ i)) (2 ^ j)=0↔¬j=i/\mR b (2 ^ j)=0)/\(mR (Iv b (2 ^ i)) (2 ^ j)=0↔j=i\/mR b (2 ^ j)=0):=by
 obtain⟨n,rfl⟩:∃n:Nat,b=n:=⟨b.toNat,by omega⟩;have h:=N1 ⟨n,by omega⟩ ⟨i,hi⟩ ⟨j,q⟩;unfold Lm at h;simp only[Bool.and_eq_true,decide_eq_true_eq,Fin.mk.injEq,beq_iff_eq] at h;obtain⟨⟨⟨h1,h2⟩,u⟩,A⟩:=h;refine⟨h1,h2,?_,?_⟩
 ·rw[<-decide_eq_true_iff (p:=mR (Fl (n:Int) (2 ^ i)) (2 ^ j)=0),u];simp
 ·rw[<-decide_eq_true_iff (p:=mR (Iv (n:Int) (2 ^ i)) (2 ^ j)=0),A];simp
def mV (O:tq) (t:Nat):Prop:=∀i,i<4->¬O i=t
def qG (O:tq) (t b:Nat):Prop:=b<4/\∀i,i<4->(O i=t↔i=b)
def O6 (O:tq) (i t:Nat):tq:=λj=>if j=i then t else O j
section
variable {D D':Dg} {V V':Vg} {O O':tq} {N:Int} {s s':Sh} {t:Nat} {w:W3}
def mV.mono (h:mV O t) (R:zm t D V O s D' V' O' s'):mV O' t:=λi hi e=>h i hi ((R.ow i hi).1 e)
def qG.mono {b:Nat} (h:qG O t b) (R:zm t D V O s D' V' O' s'):qG O' t b:=⟨h.1,λi hi=>(R.ow i hi).trans (h.2 i hi)⟩
def qG.own {b:Nat} (h:qG O t b):MA O t (9+b):=.inr ⟨b,h.1,rfl,(h.2 b h.1).2 rfl⟩
def qG.who {b:Nat} (h:qG O t b):bA (9+b):=by have:=h.1; unfold bA; omega
def Wr.Da (h:Wr s s' 376 w):BZ s s'/\∀who,bA who->Kp s s' who:=
 ⟨.of λwho hw=>h.ne (by have:=cY hw; omega),λwho hw=>h.kp (by have:=cY hw; omega)⟩
def SI.take (H:SI D V N s) (X:N+1<1000000) (B:BI D V O s) (Z:1<=t/\t<=3) (K:mV O t) {i:Nat} (hi:i<4) (L:mR (s.W 376).v (2 ^ i)=0) (h:Wr s s' 376 ⟨Fl (s.W 376).v (2 ^ i),(s.W 376).aO,(s.W 376).ref⟩) :
  Sx (λ_=>False) t D V O N s D V (O6 O i t) s'/\qG (O6 O i t) t i/\kg D V s' (9+i):=by
 obtain⟨b,aO,e,M,Q⟩:=B.bw;rw[e] at L h;dsimp only at L h;have R:O i=0:=(Q i hi).1 L;obtain⟨S,G⟩:=H.bits X h;have F:O6 O i t i=t:=if_pos rfl;have en:∀j,¬j=i->O6 O i t j=O j:=λj A=>if_neg A;have E:∀who,kg D V s who->kg D V s' who:=λwho hR=>hR.mono H (λ_ _=>rfl) G;refine⟨⟨S,G,.same h.Da.1 (CY λc _ _=>h.ne (by omega)),⟨⟨_,_,h.self,(CL M hi hi).1,λj A=>?_⟩,λj A J=>?_,λj A=>?_,λj k A T U q=>?_⟩,λwho hw _=>⟨h.Da.2 who hw,λ_ _=>rfl⟩,λ_ h=>h.elim,λj u A hu aS=>?_,λp hp=>h.ne (by omega)⟩,⟨hi,λj A=>?_⟩,E _ (B.rd i hi R)⟩
 ·rw[(CL M hi A).2.2.1,Q j A];by_cases x:j=i
  ·subst x; rw[F]; omega
  ·rw[en j x]; exact⟨λy=>y.2,λy=>⟨x,y⟩⟩
 ·by_cases x:j=i
  ·subst x; rw[F] at J; omega
  ·rw[en j x] at J; exact E _ (B.rd j A J)
 ·by_cases x:j=i
  ·subst x; rw[F]; exact Z.2
  ·rw[en j x]; exact B.le j A
 ·by_cases x:j=i <;> by_cases y:k=i
  ·omega
  ·subst x; rw[F,en k y] at q; exact absurd q.symm (K k T)
  ·subst y; rw[F,en j x] at q; exact absurd q (K j A)
  ·rw[en j x] at U q; rw[en k y] at q; exact B.inj j k A T U q
 ·by_cases x:j=i
  ·subst x; rw[F,R]; omega
  ·rw[en j x]
 ·by_cases x:j=i
  ·subst x; rw[F]; exact⟨λ_=>rfl,λ_=>rfl⟩
  ·rw[en j x]; exact⟨λy=>absurd y (K j A),λy=>absurd y x⟩
def SI.lX (H:SI D V N s) (R:N+1<1000000) (B:BI D V O s) (Z:1<=t/\t<=3) {i:Nat} (K:qG O t i) (M:kg D V s (9+i)) (h:Wr s s' 376 ⟨Iv (s.W 376).v (2 ^ i),(s.W 376).aO,(s.W 376).ref⟩) :
  Sx (λ_=>False) t D V O N s D V (O6 O i 0) s'/\mV (O6 O i 0) t:=by
 obtain⟨b,aO,e,Q,T⟩:=B.bw;obtain⟨hi,K⟩:=K;rw[e] at h;dsimp only at h;obtain⟨S,G⟩:=H.bits R h;have F:O6 O i 0 i=0:=if_pos rfl;have en:∀j,¬j=i->O6 O i 0 j=O j:=λj q=>if_neg q;have A:∀who,kg D V s who->kg D V s' who:=λwho M=>M.mono H (λ_ _=>rfl) G;refine⟨⟨S,G,.same h.Da.1 (CY λc _ _=>h.ne (by omega)),⟨⟨_,_,h.self,(CL Q hi hi).2.1,λj q=>?_⟩,λj q J=>?_,λj q=>?_,λj k q U L E=>?_⟩,λwho hw _=>⟨h.Da.2 who hw,λ_ _=>rfl⟩,λ_ h=>h.elim,λj u q hu X=>?_,λp hp=>h.ne (by omega)⟩,λj q e=>?_⟩
 ·rw[(CL Q hi q).2.2.2,T j q];by_cases x:j=i
  ·subst x; rw[F]; exact⟨λ_=>rfl,λ_=>.inl rfl⟩
  ·rw[en j x]; exact⟨λy=>y.resolve_left x,λy=>.inr y⟩
 ·by_cases x:j=i
  ·subst x; exact A _ M
  ·rw[en j x] at J; exact A _ (B.rd j q J)
 ·by_cases x:j=i
  ·subst x; rw[F]; exact Nat.zero_le _
  ·rw[en j x]; exact B.le j q
 ·by_cases x:j=i
  ·subst x; exact absurd F L
  ·by_cases y:k=i
   ·subst y; rw[F] at E; exact absurd E L
   ·rw[en j x] at L E; rw[en k y] at E; exact B.inj j k q U L E
 ·by_cases x:j=i
  ·subst x; rw[F];have:=(K j q).2 rfl;omega
  ·rw[en j x]
 ·by_cases x:j=i
  ·subst x; rw[F] at e; omega
  ·rw[en j x] at e;exact x ((K j q).1 e)
def BI.some (B:BI D V O s) (G:1<=t/\t<=3) (h:mV O t):∃i,i<4/\O i=0:=by
 refine Classical.byContradiction λx=>?_;have q:∀i,i<4->¬O i=0:=λi hi e=>x ⟨i,hi,e⟩;have u:=q 0 (by omega); have A:=q 1 (by omega); have H:=q 2 (by omega); have J:=q 3 (by omega);have K:=B.le 0 (by omega); have L:=B.le 1 (by omega); have M:=B.le 2 (by omega); have Q:=B.le 3 (by omega);have R:=h 0 (by omega); have T:=h 1 (by omega); have c2:=h 2 (by omega); have U:=h 3 (by omega);have E:¬O 0=O 1:=λe=>by have:=B.inj 0 1 (by omega) (by omega) u e; omega
 have F:¬O 0=O 2:=λe=>by have:=B.inj 0 2 (by omega) (by omega) u e; omega
 have d12:¬O 1=O 2:=λe=>by have:=B.inj 1 2 (by omega) (by omega) A e; omega
 omega
def nR (B:BI D V O s) (h:1<=t/\t<=3) (q:mV O t):∀(k i:Nat),k+i=4->(∀j,j<i->¬O j=0)->∃j,j<4/\mR (s.W 376).v (2 ^ j)=0/\cF (s.W 376) k i=(.swap j (s.W 376),⟨6,eT,s.W 376,⟨Fl (s.W 376).v (2 ^ j),(s.W 376).aO,(s.W 376).ref⟩⟩,false)
 | 0,i,u,hi=>by
  obtain⟨j,A,e⟩:=B.some h q;exact absurd e (hi j (by omega))
 | k+1,i,u,hi=>by
  obtain⟨b,aO,e,F,E⟩:=B.bw;unfold cF;by_cases x:mR (s.W 376).v (2 ^ i)=0
  ·rw[if_pos x];exact⟨i,by omega,x,rfl⟩
  ·rw[if_neg x];refine nR B h q k (i+1) (by omega) λj A=>?_;by_cases y:j=i
   ·subst y;rw[e] at x;exact λz=>x ((E j (by omega)).2 z)
   ·exact hi j (by omega)
end
def od (D:Dg) (V:Vg) (s:Sh) (t:Nat) (r:Int) (hs:List Hs) (a:Ac):Prop:=SN r hs/\jV D V s t hs a
structure Ii (D:Dg) (V:Vg) (s:Sh) (who q:Int) (es:List Et):Prop where
 hD:D (bT who q)=some es
 rd:PL D V s who q
 st:∃v,s.W (aC who)=⟨v,q,0⟩
section
variable {D D':Dg} {V V':Vg} {O O':tq} {N:Int} {s s':Sh} {t:Nat} {r who q:Int} {es:List Et} {e:Et} {a:Ac} {g:cP} {hs:List Hs}
def od.mono (H:SI D V N s) (G:Gs D V s D' V' s') (x:od D V s t r hs a):od D' V' s' t r hs a:=⟨x.1,jV.mono H G x.2⟩
def od.step (H:SI D V N s) (u:N+1<1000000) (E:pr t s s' a g) (x:od D V s t r hs a):∃V',SI D V' (N+1) s'/\Gx D V s D V' s'/\Gm D V' s' t r (bV hs g):=by
 obtain⟨⟨h,l,rfl,rfl⟩,y⟩:=x;exact jV.step H u E y
def od.new (hD:D r=some es) (cH:Bool):od D V s t r [{Hs.new r cH with nx:=.first}] (AD (aC (aZ r))):=
 ⟨⟨_,[],rfl,rfl⟩,rfl,es,hD,rfl,rfl,rfl⟩
def Ii.mono (H:SI D V N s) (R:zm t D V O s D' V' O' s') (hw:bA who) (ho:MA O t who) (x:Ii D V s who q es):Ii D' V' s' who q es:=
 ⟨R.dd _ _ x.hD,x.rd.mono H (R.kp who hw ho).2 R.toGs,let⟨v,e⟩:=x.st; let⟨h,u,_⟩:=(R.kp who hw ho).1.st v q e; ⟨h,u⟩⟩
def Ii.gx (H:SI D V N s) (G:Gx D V s D V' s') (hw:bA who) (x:Ii D V s who q es):Ii D V' s' who q es:=
 ⟨x.hD,x.rd.mono H (λ_ _=>rfl) G.toGs,let⟨v,e⟩:=x.st; let⟨h,u,_⟩:=(G.kp who hw).st v q e; ⟨h,u⟩⟩
def pR:∀(es:List Et) (k:Nat),(kG es)[k]?=(es[k / 3]?).map λe=>if k % 3=0 then yy e else if k % 3=1 then yD e else yG e
 | [],k=>rfl
 | e::r,0=>rfl
 | e::r,1=>rfl
 | e::r,2=>rfl
 | e::r,k+3=>by
  show(kG r)[k]?=_;rw[pR r k,show(k+3) / 3=k / 3+1 by omega,show(k+3) % 3=k % 3 by omega,List.getElem?_cons_succ]
def BU {b:Bk} {k:Nat} (u:k<dY b):(aY b.es)[k]?=some (Cr b k):=by
 unfold dY at u;unfold Cr;rw[qm];cases k with
 | zero=>rfl
 | succ k=>
  rw[if_neg (by omega),List.getElem?_cons_succ,Nat.add_sub_cancel,pR];have h:k / 3<b.es.length:=by omega
  rw[List.getD_eq_getElem?_getD,List.getElem?_eq_getElem h];rfl
structure yI (D:Dg) (V:Vg) (O:tq) (s:Sh) (t:Nat) (b:Bk):Prop where
 g:Good b.es
 bad:b.bad=0
 o:qG O t b.cL
 sq:1<=b.seq/\b.seq<1000000
def E9 (D:Dg) (V:Vg) (O:tq) (s:Sh) (t:Nat) (b:Bk) (a:Ac):Prop:=
 match b.ph with
 | .take .look=>Good b.es/\b.bad=0/\mV O t/\b.i=0/\a=AD eT
 | .take (.swap i w)=>Good b.es/\b.bad=0/\mV O t/\b.i=0/\i<4/\mR w.v (2 ^ i)=0/\a=⟨6,eT,w,⟨Fl w.v (2 ^ i),w.aO,w.ref⟩⟩
 | .take _=>False
 | .looked=>Good b.es/\b.bad=0/\qG O t b.cL/\b.i=0/\a=AD (cK b.cL)/\kg D V s (9+b.cL)
 | .rel false=>yI D V O s t b/\b.i=0/\a=⟨4,b.at',W0,⟨3,b.seq,0⟩⟩/\Claim D V s (9+b.cL) b.seq
 | .rel true=>yI D V O s t b/\a=⟨4,b.at',W0,⟨0,b.seq,0⟩⟩/\Ca D V s t (9+b.cL) b.seq b.es (dY b)
 | .xU false=>yI D V O s t b/\b.i=0/\a=ub b.at'/\Ca D V s t (9+b.cL) b.seq b.es 0
 | .xU true=>yI D V O s t b/\a=ub b.at'/\Ii D V s (9+b.cL) b.seq b.es
 | .uC false=>yI D V O s t b/\b.i=0/\a=BM/\Ca D V s t (9+b.cL) b.seq b.es 0
 | .uC true=>yI D V O s t b/\a=BM/\Ii D V s (9+b.cL) b.seq b.es
 | .fill=>yI D V O s t b/\∃k,b.i=k+1/\k<dY b/\a=⟨3,b.at'+1+k,W0,Cr b k⟩/\Ca D V s t (9+b.cL) b.seq b.es k
 | .fP=>yI D V O s t b/\(∃p,a=ub p)/\Ca D V s t (9+b.cL) b.seq b.es (dY b)
 | .xg=>yI D V O s t b/\a=BM/\Ca D V s t (9+b.cL) b.seq b.es (dY b)
 | .fZ hs=>yI D V O s t b/\Ii D V s (9+b.cL) b.seq b.es/\od D V s t (bT (9+b.cL) b.seq) hs a
 | .lX h k=>yI D V O s t b/\h=b.cL/\kg D V s (9+b.cL)/\(match k with
  | .look=>a=AD eT
  | .swap w=>¬mR w.v (2 ^ b.cL)=0/\a=⟨6,eT,w,⟨Iv w.v (2 ^ b.cL),w.aO,w.ref⟩⟩
  | .done _=>False)
 | .over=>False
def BS (D:Dg) (V:Vg) (O:tq) (s:Sh) (t:Nat) (es:List Et):BR->Prop
 | (b,a,false)=>b.es=es/\E9 D V O s t b a
 | (b,_,true)=>b.es=es/\b.bad=0/\mV O t
def yI.mono (R:zm t D V O s D' V' O' s') {b:Bk} (x:yI D V O s t b):yI D' V' O' s' t b:=⟨x.g,x.bad,x.o.mono R,x.sq⟩
def yI.Tg (R:zm t D V O s D' V' O' s') {b h:Bk} (x:yI D V O s t b) (u:h.es=b.es:=by rfl) (A:h.bad=b.bad:=by rfl) (B:h.cL=b.cL:=by rfl) (E:h.seq=b.seq:=by rfl):yI D' V' O' s' t h:=
 ⟨u▸x.g,A▸x.bad,B▸x.o.mono R,E▸x.sq⟩
def E9.mono (H:SI D V N s) (R:zm t D V O s D' V' O' s') {b:Bk} (x:E9 D V O s t b a):E9 D' V' O' s' t b a:=by
 obtain⟨du,es,cL,seq,i,dn,bad,ph⟩:=b;have E:qG O t cL->kg D V s (9+cL)->kg D' V' s' (9+cL):=λo y=>y.mono H (R.kp _ o.who o.own).2 R.toGs;cases ph with
 | take k=>
  cases k with
  | look=>obtain⟨h,A,u,B⟩:=x; exact⟨h,A,u.mono R,B⟩
  | swap i w=>obtain⟨h,A,u,B⟩:=x; exact⟨h,A,u.mono R,B⟩
  | done i=>exact x
  | full=>exact x
 | looked=>obtain⟨h,A,u,B,F,G⟩:=x; exact⟨h,A,u.mono R,B,F,E u G⟩
 | rel op=>
  cases op with
  | false=>obtain⟨h,A,u,B⟩:=x; exact⟨h.mono R,A,u,B.mono H R h.o.who h.o.own⟩
  | true=>obtain⟨h,A,u⟩:=x; exact⟨h.mono R,A,u.mono H R h.o.who h.o.own h.g.len.2⟩
 | xU op=>
  cases op with
  | false=>obtain⟨h,A,u,B⟩:=x; exact⟨h.mono R,A,u,B.mono H R h.o.who h.o.own h.g.len.2⟩
  | true=>obtain⟨h,A,u⟩:=x; exact⟨h.mono R,A,u.mono H R h.o.who h.o.own⟩
 | uC op=>
  cases op with
  | false=>obtain⟨h,A,u,B⟩:=x; exact⟨h.mono R,A,u,B.mono H R h.o.who h.o.own h.g.len.2⟩
  | true=>obtain⟨h,A,u⟩:=x; exact⟨h.mono R,A,u.mono H R h.o.who h.o.own⟩
 | fill=>obtain⟨h,k,A,u,B,F⟩:=x; exact⟨h.mono R,k,A,u,B,F.mono H R h.o.who h.o.own h.g.len.2⟩
 | fP=>obtain⟨h,A,u⟩:=x; exact⟨h.mono R,A,u.mono H R h.o.who h.o.own h.g.len.2⟩
 | xg=>obtain⟨h,A,u⟩:=x; exact⟨h.mono R,A,u.mono H R h.o.who h.o.own h.g.len.2⟩
 | fZ hs=>obtain⟨h,A,u⟩:=x; exact⟨h.mono R,A.mono H R h.o.who h.o.own,u.mono H R.toGs⟩
 | lX J k=>obtain⟨h,A,u,B⟩:=x; exact⟨h.mono R,A,E h.o u,B⟩
 | over=>exact x
def xh (b:Bk):aC (9+b.cL)=b.at':=by
 unfold aC Bk.at';rw[if_pos (by omega)];congr 1;omega
section
variable {b:Bk}
def Bp (x:yI D V O s t b) (F:Ca D V s t (9+b.cL) b.seq b.es (dY b)):BS D V O s t b.es (DJ b):=⟨rfl,⟨x.g,x.bad,x.o,x.sq⟩,rfl,F⟩
def BB (x:yI D V O s t b) (F:Ca D V s t (9+b.cL) b.seq b.es (dY b)):BS D V O s t b.es (nW b):=by
 unfold nW;dsimp only;split
 ·exact⟨rfl,⟨x.g,x.bad,x.o,x.sq⟩,rfl,F⟩
 ·exact⟨rfl,⟨x.g,x.bad,x.o,x.sq⟩,⟨_,rfl⟩,F⟩
def wM (x:yI D V O s t b) (hi:b.i<=dY b) (F:Ca D V s t (9+b.cL) b.seq b.es b.i):BS D V O s t b.es (pL b):=by
 unfold pL;by_cases e:b.i<dY b
 ·rw[if_pos e];exact⟨rfl,⟨x.g,x.bad,x.o,x.sq⟩,b.i,rfl,e,rfl,F⟩
 ·rw[if_neg e];have h:b.i=dY b:=by omega
  rw[h] at F;by_cases d:b.cH=true
  ·rw[if_pos d];exact BB (b:={b with i:=0}) ⟨x.g,x.bad,x.o,x.sq⟩ F
  ·rw[if_neg d];exact Bp x F
def BA (x:yI D V O s t b) (P:Ii D V s (9+b.cL) b.seq b.es):BS D V O s t b.es (Dw b):=by
 refine⟨rfl,⟨x.g,x.bad,x.o,x.sq⟩,P,?_⟩;have h:=od.new (D:=D) (V:=V) (s:=s) (t:=t) P.hD b.cH;rwa [yK x.o.who x.sq,xh] at h
def IP (x:yI D V O s t b) (h:kg D V s (9+b.cL)):BS D V O s t b.es (vJ b):=⟨rfl,⟨x.g,x.bad,x.o,x.sq⟩,rfl,h,rfl⟩
end
def E9.step {b:Bk} (H:SI D V N s) (hN:N+1<1000000) (bY:1000<=N) (B:BI D V O s) (ht:1<=t/\t<=3) (x:E9 D V O s t b a) (E:pr t s s' a g) :
  ∃D' V' O' A,Sx A t D V O N s D' V' O' s'/\(∀who,A who->who=9+b.cL)/\BS D' V' O' s' t b.es (bP b g):=by
 obtain⟨du,es,cL,seq,i,dn,bad,ph⟩:=b;have Q:s.quiet s'->Sx (λ_=>False) t D V O N s D V O s'/\zm t D V O s D V O s':=λq=>nT H hN B q E.mono;have L:aC (9+(cL:Int))=Bk.at' ⟨du,es,cL,seq,i,dn,bad,ph⟩:=xh ⟨du,es,cL,seq,i,dn,bad,ph⟩;cases ph with
 | take k=>
  cases k with
  | look=>
   obtain⟨u,K,J,x0,rfl⟩:=x;obtain⟨q1,_,rfl⟩:=E.bH;obtain⟨X,R⟩:=Q q1;refine⟨D,V,O,_,X,λ_ h=>h.elim,?_⟩;obtain⟨j,hj,h1,h2⟩:=nR B ht J 4 0 rfl λj hj=>by omega
   unfold bP eO;dsimp only;rw[h2];exact⟨rfl,u,K,J,x0,hj,h1,rfl⟩
  | swap j w=>
   obtain⟨u,K,J,x0,Z,x5,rfl⟩:=x;rcases E.kH with ⟨T,rfl,U,_⟩| ⟨T,rfl,U⟩
   ·subst T;obtain⟨X,o,rd⟩:=H.take hN B ht J Z x5 U;refine⟨D,V,_,_,X,λ_ h=>h.elim,?_⟩;unfold bP eO;exact⟨rfl,u,K,o,x0,rfl,rd⟩
   ·obtain⟨X,R⟩:=Q U;refine⟨D,V,O,_,X,λ_ h=>h.elim,?_⟩;obtain⟨j,hj,h1,h2⟩:=nR B ht J 4 0 rfl λj hj=>by omega
    unfold bP eO;dsimp only;rw[if_neg (by simp),h2];exact⟨rfl,u,K,J,x0,hj,h1,rfl⟩
  | done i=>exact x.elim
  | full=>exact x.elim
 | looked=>
  obtain⟨u,K,J,Z,rfl,x5⟩:=x;obtain⟨q1,_,rfl⟩:=E.bH;obtain⟨X,R⟩:=Q q1;refine⟨D,V,O,_,X,λ_ h=>h.elim,?_⟩;dsimp only at u K J Z x5;obtain⟨v,q,I⟩:=H.st _ J.who;have hq:=I.qr;have hw:s.W (cK cL)=⟨v,q,0⟩:=by
   have:=I.eq;rw[L] at this;exact this
  unfold bP om;dsimp only;rw[hw,if_neg (by dsimp only; have:=H.nN; omega)];refine⟨rfl,⟨u,K,J,by dsimp only; have:=H.nN; omega⟩,Z,rfl,⟨v,q,by rw[q1.1,I.eq],by dsimp only; omega,.inl rfl⟩,x5.mono H (λ_ _=>rfl) R.toGs⟩
 | rel op=>
  cases op with
  | false=>
   obtain⟨u,K,rfl,J⟩:=x;obtain⟨T,U,_⟩:=E.yg (.inr rfl);obtain⟨X,F⟩:=J.fill (es:=es) H hN bY B u.o.who u.o.own (by rw[L]; exact T);refine⟨D,V,O,_,X,λ_ h=>h,?_⟩;unfold bP;dsimp only at K⊢;by_cases d:du=true
   ·rw[if_pos d];exact⟨rfl,⟨u.g,u.bad,u.o,u.sq⟩,K,rfl,F⟩
   ·rw[if_neg d];unfold fB;rw[if_neg (by simp)];exact wM (b:=⟨du,es,cL,seq,i,dn,bad,.rel false⟩) ⟨u.g,u.bad,u.o,u.sq⟩ (by dsimp only; omega) (by dsimp only; rw[K]; exact F)
  | true=>
   obtain⟨u,rfl,J⟩:=x;obtain⟨T,_,U⟩:=E.yg (.inr rfl);have f:Rf (9+(cL:Int)) seq (bT (9+cL) seq):=⟨u.o.who,u.sq,rfl⟩;obtain⟨X,hD,rd⟩:=J.opened H hN B f u.o.own ht u.g (by rw[L]; exact T) (by rw[L]; exact U rfl);have P:Ii (Ns D (bT (9+cL) seq) es) (Fo V (bT (9+cL) seq) 0) s' (9+cL) seq es:=⟨hD,rd,0,by rw[L]; exact T.self⟩;refine⟨_,_,O,_,X,λ_ h=>h,?_⟩;unfold bP;dsimp only;by_cases d:du=true
   ·rw[if_pos d];exact⟨rfl,⟨u.g,u.bad,u.o,u.sq⟩,rfl,P⟩
   ·rw[if_neg d];unfold fB;rw[if_pos rfl];exact BA (b:=⟨du,es,cL,seq,i,dn,bad,.rel true⟩) ⟨u.g,u.bad,u.o,u.sq⟩ P
 | xU op=>
  cases op with
  | false=>
   obtain⟨u,K,rfl,J⟩:=x;obtain⟨X,R⟩:=Q (E.fN (.inl rfl));refine⟨D,V,O,_,X,λ_ h=>h.elim,?_⟩;exact⟨rfl,u.Tg R,K,rfl,J.mono H R u.o.who u.o.own u.g.len.2⟩
  | true=>
   obtain⟨u,rfl,J⟩:=x;obtain⟨X,R⟩:=Q (E.fN (.inl rfl));refine⟨D,V,O,_,X,λ_ h=>h.elim,?_⟩;exact⟨rfl,u.Tg R,rfl,J.mono H R u.o.who u.o.own⟩
 | uC op=>
  cases op with
  | false=>
   obtain⟨u,K,rfl,J⟩:=x;obtain⟨X,R⟩:=Q (E.fN (.inr rfl));refine⟨D,V,O,_,X,λ_ h=>h.elim,?_⟩;unfold bP fB;dsimp only at K⊢;rw[if_neg (by simp)];exact wM (b:=⟨du,es,cL,seq,i,dn,bad,.uC false⟩) (u.mono R) (by dsimp only; omega) (by dsimp only; rw[K]; exact J.mono H R u.o.who u.o.own u.g.len.2)
  | true=>
   obtain⟨u,rfl,J⟩:=x;obtain⟨X,R⟩:=Q (E.fN (.inr rfl));refine⟨D,V,O,_,X,λ_ h=>h.elim,?_⟩;unfold bP fB;dsimp only;rw[if_pos rfl];exact BA (b:=⟨du,es,cL,seq,i,dn,bad,.uC true⟩) (u.mono R) (J.mono H R u.o.who u.o.own)
 | fill=>
  obtain⟨u,k,K,J,rfl,Z⟩:=x;obtain⟨T,U,_⟩:=E.yg (.inl rfl);obtain⟨X,F⟩:=Z.store H hN B u.o.who u.o.own u.g.len.2 (BU J) (by rw[L]; exact T) (by rw[L]; exact U);refine⟨D,V,O,_,X,λ_ h=>h,?_⟩;exact wM (b:=⟨du,es,cL,seq,i,dn,bad,.fill⟩) ⟨u.g,u.bad,u.o,u.sq⟩ (by dsimp only at K⊢; rw[K]; exact J) (by dsimp only at K⊢; rw[K]; exact F)
 | fP=>
  obtain⟨u,⟨p,rfl⟩,J⟩:=x;obtain⟨X,R⟩:=Q (E.fN (.inl rfl));refine⟨D,V,O,_,X,λ_ h=>h.elim,?_⟩;exact BB (b:=⟨du,es,cL,seq,i,dn,bad,.fP⟩) (u.mono R) (J.mono H R u.o.who u.o.own u.g.len.2)
 | xg=>
  obtain⟨u,rfl,J⟩:=x;obtain⟨X,R⟩:=Q (E.fN (.inr rfl));refine⟨D,V,O,_,X,λ_ h=>h.elim,?_⟩;exact Bp (b:=⟨du,es,cL,seq,i,dn,bad,.xg⟩) (u.mono R) (J.mono H R u.o.who u.o.own u.g.len.2)
 | fZ hs=>
  obtain⟨u,K,J⟩:=x;obtain⟨V',S,G,y⟩:=J.step H hN E;refine⟨D,V',O,_,G.sx S H B,λ_ h=>h.elim,?_⟩;have aS:=K.gx H G u.o.who;unfold bP;dsimp only;cases hq:bV hs g with
  | mk dO q=>
   obtain⟨a',d⟩:=q;rw[hq] at y;cases d with
   | false=>exact⟨rfl,⟨u.g,u.bad,u.o,u.sq⟩,aS,y⟩
   | true=>
    obtain⟨h,rfl,e,hE⟩:=y;have f:Rf (9+(cL:Int)) seq (bT (9+cL) seq):=⟨u.o.who,u.sq,rfl⟩;exact IP (b:={(⟨du,es,cL,seq,i,dn,bad,.fZ hs⟩:Bk) with done:=decide (h.aO=1)}) ⟨u.g,u.bad,u.o,u.sq⟩ (aS.rd.ready S f aS.hD e hE)
 | lX bb k=>
  obtain⟨u,eb,J,Z⟩:=x;have eb:cL=bb:=eb.symm;subst eb;dsimp only at J;have M:¬mR (s.W 376).v (2 ^ cL)=0:=by
   obtain⟨c,aO,e,hr,hx⟩:=B.bw;rw[e];intro z;have:=(hx cL u.o.1).1 z;have:=(u.o.2 cL u.o.1).2 rfl;omega
  have aT:zm t D V O s D V O s'->kg D V s' (9+cL):=λR=>J.mono H (λ_ _=>rfl) R.toGs;cases k with
  | look=>
   obtain rfl:=Z;obtain⟨q1,_,rfl⟩:=E.bH;obtain⟨X,R⟩:=Q q1;refine⟨D,V,O,_,X,λ_ h=>h.elim,?_⟩;unfold bP fC dF;dsimp only;rw[if_neg M];exact⟨rfl,u.Tg R,rfl,aT R,M,rfl⟩
  | swap w=>
   obtain⟨Z,rfl⟩:=Z;rcases E.kH with ⟨T,rfl,U,_⟩| ⟨T,rfl,U⟩
   ·subst T;obtain⟨X,o⟩:=H.lX hN B ht u.o J U;refine⟨D,V,_,_,X,λ_ h=>h.elim,?_⟩;exact⟨rfl,u.bad,o⟩
   ·obtain⟨X,R⟩:=Q U;refine⟨D,V,O,_,X,λ_ h=>h.elim,?_⟩;unfold bP fC dF;dsimp only;rw[if_neg (by simp),if_neg M];exact⟨rfl,u.Tg R,rfl,aT R,M,rfl⟩
  | done z=>exact Z.elim
 | over=>exact x.elim
end
end Go.En
