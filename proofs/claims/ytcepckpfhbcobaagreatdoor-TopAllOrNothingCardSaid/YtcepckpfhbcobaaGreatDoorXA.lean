/-
  Own library for the claim, packed by program: the engine, the clean texts, contracts, the plain law. (Part A.)
-/
import Derived.CallsIn
import Derived.OrdersIn
import Derived.DefersIn
import Derived.TacticsIn
import Derived.Laws.Append
import Derived.Laws.CopyRow
import Derived.Laws.Entries
import Derived.Laws.Build
import Derived.KernelRfl
import Derived.Laws.StructEq
import Derived.MapKept
import Derived.Laws.Externs
import Derived.RangeFuncIn
import Derived.RangeFuncLeaves
import Derived.ProofKit
import Derived.SizedLaws
import Derived.Deep.Slices
import Derived.Deep.Fields
import Derived.OpenShut
import Derived.Test.YtcepckpfhbcobaaGreatDoorProg
set_option maxRecDepth 100000
set_option linter.defProp false
namespace Go.En
abbrev Hp:=Array Obj
abbrev Env:=List (Nat × Value)
def lk:Env->Nat->Option Value
 | [],_=>none
 | (d,v)::r,t=>match Nat.beq d t with
  | true=>some v
  | false=>lk r t
def ev (n:Nat) (env:Env):Operand->Option Value
 | .tmp t=>match Nat.blt t n with
  | true=>lk env t
  | false=>none
 | .const v=>some v
 | .global g=>some (.pointer (some ⟨g,0,none⟩))
 | .func f=>some (.func (.func f) #[] #[])
def Ck (n:Nat) (env:Env):List Operand->Option (List Value)
 | []=>some []
 | x::r=>(ev n env x).bind λv=>(Ck n env r).bind λvs=>some (v::vs)
def Mx (n:Nat) (env:Env):List (Nat × Operand)->Option (List (Nat × Value))
 | []=>some []
 | (i,x)::r=>(ev n env x).bind λv=>(Mx n env r).bind λvs=>some ((i,v)::vs)
def FI (n:Nat) (env:Env):Option Operand->Option (Option Value)
 | none=>some none
 | some x=>(ev n env x).bind λv=>some (some v)
def cellAt (h:Hp) (a:Addr):Option Value:=
 match h[a.block]? with
 | some (.cells c _ _)=>if a.spot.isSome then none else c[a.off]?
 | _=>none
def frozenAt (h:Hp) (a:Addr):Bool:=
 match h[a.block]? with
 | some (.cells _ _ (lo,hi))=>lo<=a.off&&a.off<hi
 | _=>false
def setAt (h:Hp) (a:Addr) (v:Value):Hp:=
 h.modify a.block fun
  | .cells c elem frozen=>.cells (if a.spot.isSome then c else c.setIfInBounds a.off v) elem frozen
  | o=>o
def sG (w:World) (a:Addr):w.cell? a=cellAt w.heap a:=rfl
def DU (w:World) (a:Addr):w.frozen? a=frozenAt w.heap a:=rfl
def md (h:Hp) (a:Addr) (i:Nat):Nat->Option (List Value)
 | 0=>some []
 | n+1=>(cellAt h (a.add i)).bind λv=>(md h a (i+1) n).bind λr=>some (v::r)
def eH (p:Value) (h:Hp):Option Value:=
 match p with
 | .pointer (some a)=>cellAt h a
 | _=>none
def aP (n:Nat) (p:Value) (h:Hp):Option Value:=
 match p with
 | .pointer (some a)=>(md h a 0 n).bind λl=>some (.agg l.toArray)
 | _=>none
def jU (h:Hp) (a:Addr) (i:Nat):List Value->Option Hp
 | []=>some h
 | v::r=>match v.oneCell',cellAt h (a.add i),frozenAt h (a.add i) with
  | true,some _,false=>jU (setAt h (a.add i) v) a (i+1) r
  | _,_,_=>none
def bF (n:Nat) (p v:Value) (h:Hp):Option Hp:=
 match p with
 | .pointer (some a)=>match Nat.beq v.cells.size n with
  | true=>jU h a 0 v.cells.toList
  | false=>none
 | _=>none
def nw (cells:Array Value) (e:TypeId) (h:Hp):Option (Value × Hp):=some (.pointer (some ⟨h.size,0,none⟩),h.push (.cells cells e))
def bin (op:BinOp) (x y:Value):Option Value:=
 match x,y with
 | .int k a,.int k' b=>
  match op with
  | .shl=>if b<0 then none else some (.int k (k.wrap (a*2 ^ (min b.toNat k.bits))))
  | .shr=>if b<0 then none else some (.int k (a.fdiv (2 ^ (min b.toNat k.bits))))
  | .add=>if k=k' then some (.int k (k.wrap (a+b))) else none
  | .sub=>if k=k' then some (.int k (k.wrap (a - b))) else none
  | .mul=>if k=k' then some (.int k (k.wrap (a*b))) else none
  | .quo=>if k=k' then(if b=0 then none else some (.int k (k.wrap (a.tdiv b)))) else none
  | .rem=>if k=k' then(if b=0 then none else some (.int k (a.tmod b))) else none
  | .eql=>if k=k' then some (.bool (a == b)) else none
  | .neq=>if k=k' then some (.bool (a != b)) else none
  | .lss=>if k=k' then some (.bool (decide (a<b))) else none
  | .leq=>if k=k' then some (.bool (decide (a<=b))) else none
  | .gtr=>if k=k' then some (.bool (decide (a > b))) else none
  | .geq=>if k=k' then some (.bool (decide (a>=b))) else none
  | .and=>if k=k' then some (.int k (k.wrap (BitVec.ofInt k.bits a&&& BitVec.ofInt k.bits b).toNat)) else none
  | .or=>if k=k' then some (.int k (k.wrap (BitVec.ofInt k.bits a||| BitVec.ofInt k.bits b).toNat)) else none
  | .xor=>if k=k' then some (.int k (k.wrap (BitVec.ofInt k.bits a ^^^ BitVec.ofInt k.bits b).toNat)) else none
  | .andNot=>if k=k' then some (.int k (k.wrap (BitVec.ofInt k.bits a&&& ~~~BitVec.ofInt k.bits b).toNat)) else none
 | _,_=>none
def O7 (x y:Value):Option Bool:=
 match x,y with
 | .bool a,.bool b=>some (a == b)
 | _,_=>none
def Ug (x y:Value):Option Bool:=
 match x,y with
 | .pointer none,.pointer b=>some b.isNone
 | .pointer (some _),.pointer none=>some false
 | _,_=>none
def Mz (x y:Value):Option Bool:=
 match x,y with
 | .slice none _ _,.slice b _ _=>some b.isNone
 | .slice (some _) _ _,.slice none _ _=>some false
 | _,_=>none
def Ps (x y:Value):Option Bool:=
 match x,y with
 | .map none,.map b=>some b.isNone
 | .map (some _),.map none=>some false
 | _,_=>none
def O4 (x y:Value):Option Bool:=
 match x,y with
 | .nilFunc,.nilFunc=>some true
 | .nilFunc,.func .. | .func ..,.nilFunc=>some false
 | _,_=>none
def S8 (i:Bool) (x y:Value):Option Bool:=
 match i,x,y with
 | true,.int k a,.int k' b=>if k=k' then some (a == b) else none
 | false,.bool a,.bool b=>some (a == b)
 | _,_,_=>none
def uB:List Bool->List Value->List Value->Option Bool
 | [],[],[]=>some true
 | i::l,x::r,y::s=>(S8 i x y).bind λa=>(uB l r s).bind λq=>some (a&&q)
 | _,_,_=>none
def tg (l:List Bool) (x y:Value):Option Bool:=
 match x,y with
 | .agg xs,.agg ys=>uB l xs.toList ys.toList
 | _,_=>none
def nX (o:Option Bool):Option Value:=o.bind λb=>some (.bool !b)
def pos? (o:Option Bool):Option Value:=o.bind λb=>some (.bool b)
def MH (op:UnOp) (x:Value):Option Value:=
 match op,x with
 | .neg,.int k n=>some (.int k (k.wrap (0 - n)))
 | .not,.bool b=>some (.bool !b)
 | _,_=>none
def J2 (k:IntKind) (x:Value):Option Value:=
 match x with
 | .int _ n=>some (.int k (k.wrap n))
 | _=>none
def fa (off:Nat) (p:Value):Option Value:=
 match p with
 | .pointer (some a)=>some (.pointer (some (a.add off)))
 | _=>none
def nh (size:Nat) (x i:Value):Option Value:=
 match x,i with
 | .slice (some a) len _,.int _ n=>if 0<=n/\n<len then some (.pointer (some (a.add (n.toNat*size)))) else none
 | _,_=>none
def Dl (len size:Nat) (x i:Value):Option Value:=
 match x,i with
 | .pointer (some a),.int _ n=>if 0<=n/\n<len then some (.pointer (some (a.add (n.toNat*size)))) else none
 | _,_=>none
def Pu (len size:Nat) (x i:Value):Option Value:=
 match x,i with
 | .agg cs,.int _ n=>if 0<=n/\n<len then cs[n.toNat*size]? else none
 | _,_=>none
def O2 (len size:Nat) (x i:Value):Option Value:=
 match x,i with
 | .agg cs,.int _ n=>if 0<=n/\n<len then some (.agg (cs.extract (n.toNat*size) (n.toNat*size+size))) else none
 | _,_=>none
def ext (i:Nat) (x:Value):Option Value:=
 match x with
 | .tuple vs=>vs[i]?
 | _=>none
def B5 (x:Value):Option Value:=
 match x with
 | .slice _ n _=>some (.int .i64 n)
 | _=>none
def Mr (x:Value) (h:Hp):Option Value:=
 match x with
 | .map none=>some (.int .i64 0)
 | .map (some r)=>match h[r]? with
  | some (.map es _)=>some (.int .i64 es.size)
  | _=>none
 | _=>none
def mn (x y:Value):Option Value:=
 match x,y with
 | .int k a,.int _ b=>some (.int k (if b<a then b else a))
 | _,_=>none
def mx (x y:Value):Option Value:=
 match x,y with
 | .int k a,.int _ b=>some (.int k (if b > a then b else a))
 | _,_=>none
def O3 (x:Value) (y:Nat):Option Nat:=
 match x with
 | .int _ i=>if 0<=i/\i<=y then some i.toNat else none
 | _=>none
def AY (lo:Option Value) (h:Nat):Option Nat:=
 match lo with
 | some v=>O3 v h
 | none=>some 0
def FC (hi:Option Value) (len m:Nat):Option Nat:=
 match hi with
 | some v=>O3 v m
 | none=>some len
def LR (mx:Option Value) (cap:Nat):Option Nat:=
 match mx with
 | some v=>O3 v cap
 | none=>some cap
def Jd (len cap:Nat) (lo hi mx:Option Value):Option (Nat × Nat × Nat):=
 (LR mx cap).bind λm=>(FC hi len m).bind λh=>(AY lo h).bind λl=>some (l,h,m)
def JR (size:Nat) (a:Option Addr) (b:Nat × Nat × Nat):Value:=
 .slice (if b.2.2=b.1 then a else a.map (·.add (b.1*size))) (b.2.1 - b.1) (b.2.2 - b.1)
def sB (size:Nat) (x:Value) (lo hi mx:Option Value):Option Value:=
 match x with
 | .slice a len cap=>(Jd len cap lo hi mx).bind λb=>some (JR size a b)
 | _=>none
def PG (n size:Nat) (x:Value) (lo hi mx:Option Value):Option Value:=
 match x with
 | .pointer (some a)=>(Jd n n lo hi mx).bind λb=>some (JR size (some a) b)
 | _=>none
def Qw (off:Nat) (x:Value):Option Value:=
 match x with
 | .agg cs=>cs[off]?
 | _=>none
def Q8 (off size:Nat) (x:Value):Option Value:=
 match x with
 | .agg cs=>some (.agg (cs.extract off (off+size)))
 | _=>none
def fV (places:List (Nat × Nat)) (zero:Array Value) (parts:List (Nat × Value)):Option Value:=
 (Instr.fill (places[·]?) zero parts).bind λcells=>some (.agg cells)
def FG (size:Nat) (zero:Array Value) (parts:List (Nat × Value)):Option Value:=
 (Instr.fill (λi=>some (i*size,size)) zero parts).bind λcells=>some (.agg cells)
def zO (zero:Array Value) (size len:Nat) (e:TypeId) (parts:List (Nat × Value)) (h:Hp):Option (Value × Hp):=
 (Instr.fill (λi=>some (i*size,size)) ((Array.range (len*size)).map (zero[· % zero.size]!)) parts).bind λcells=>
  some (.slice (some ⟨h.size,0,none⟩) len len,h.push (.cells cells e))
def pk (c x y:Value):Option Value:=
 match c with
 | .bool b=>some (if b then x else y)
 | _=>none
def PO (x:Value):Option Value:=
 match x with
 | .pointer (some a)=>some (.pointer (some a))
 | .func (.func f) first cap=>some (.func (.func f) first cap)
 | .iface t v=>some (.iface t v)
 | _=>none
def inl (op:BinOp) (v:Value):Option Value:=
 match op,v with
 | .eql,.nilIface=>some (.bool true)
 | .eql,.iface _ _=>some (.bool false)
 | .neq,.nilIface=>some (.bool false)
 | .neq,.iface _ _=>some (.bool true)
 | _,_=>none
def Td (P:Program) (t:TypeId):Bool:=
 match P.underlying t with
 | some (.interface _)=>true
 | _=>false
def Rs (P:Program) (t:TypeId):Bool:=
 match P.underlying t with
 | some (.interface _)=>false
 | some _=>true
 | none=>false
def Az (t:TypeId) (z:Value) (ok:Bool) (x:Value):Option Value:=
 match x,ok with
 | .iface h v,true=>some (if h=t then .tuple #[v,.bool true] else .tuple #[z,.bool false])
 | .iface h v,false=>if h=t then some v else none
 | .nilIface,true=>some (.tuple #[z,.bool false])
 | _,_=>none
def Rn (P:Program) (t:TypeId) (name:String):Option FuncId:=
 match P.info? t with
 | none=>none
 | some i=>match i.methods.find? λm=>m.name == name with
  | none=>none
  | some m=>match m.path.toList,m.func,P.underlying t with
   | [],some (_,false),some (.pointer _)=>none
   | [],some (f,false),some _=>some f
   | _,_,_=>none
def rm (m:Value) (h:Hp):Option (Option (Nat × Array MapEntry × Nat)):=
 match m with
 | .map none=>some none
 | .map (some r)=>match h[r]? with
  | some (.map es clock)=>some (some (r,es,clock))
  | _=>none
 | _=>none
def JM (kd:TypeDesc) (zero:Value) (ok:Bool) (m key:Value) (h:Hp):Option Value:=
 (rm m h).bind λr=>
  (Instr.findNow kd key ((r.map λx=>x.2.1.toList).getD []) 0).bind λf=>
   some (if ok then .tuple #[(f.map (·.2)).getD zero,.bool f.isSome] else(f.map (·.2)).getD zero)
def wB (kd:TypeDesc) (m key val:Value) (h:Hp):Option Hp:=
 match rm m h with
 | some (some (r,es,clock))=>match Instr.findNow kd key es.toList 0 with
  | some (some (i,_))=>some (h.setIfInBounds r (.map (es.modify i λe=>{e with key,val:=val}) clock))
  | some none=>some (h.setIfInBounds r (.map (es.push {key,val:=val,born:=clock}) (clock+1)))
  | none=>none
 | _=>none
def T5 (kd:TypeDesc) (zero:Value) (m key:Value) (h:Hp):Option (Value × Hp):=
 match rm m h with
 | some (some (r,es,clock))=>match Instr.findNow kd key es.toList 0 with
  | some (some (i,v))=>some (.tuple #[v,goInt (((es[i]?).map (·.born)).getD 0)],h.setIfInBounds r (.map (es.modify i λe=>{e with key}) clock))
  | some none=>some (.tuple #[zero,goInt clock],h.setIfInBounds r (.map (es.push {key,val:=zero,born:=clock}) (clock+1)))
  | none=>none
 | _=>none
def Tu (m q val:Value) (h:Hp):Option Hp:=
 match rm m h,q with
 | some (some (r,es,clock)),.int _ born=>match es.findIdx? (λe=>(e.born:Int) == born) with
  | some i=>some (h.setIfInBounds r (.map (es.modify i λe=>{e with val:=val}) clock))
  | none=>none
 | _,_=>none
def GZ (kd:TypeDesc) (m key:Value) (h:Hp):Option (Value × Hp):=
 match rm m h with
 | some none=>some (.tuple #[],h)
 | some (some (r,es,clock))=>match Instr.findNow kd key es.toList 0 with
  | some (some (i,_))=>some (.tuple #[],h.setIfInBounds r (.map (es.eraseIdxIfInBounds i) clock))
  | some none=>some (.tuple #[],h.setIfInBounds r (.map es clock))
  | none=>none
 | _=>none
def Gb (h:Hp):Option (Value × Hp):=some (.map (some h.size),h.push (.map #[] 0))
def MJ (m:Value) (h:Hp):Option (Value × Hp):=
 match rm m h with
 | some none=>some (.pointer (some ⟨h.size,0,none⟩),h.push (.mapIter none 0 #[] 0))
 | some (some (r,_,clock))=>some (.pointer (some ⟨h.size,0,none⟩),h.push (.mapIter (some r) clock #[] clock))
 | _=>none
def oV (it:Value) (h:Hp):Option Value:=
 match it with
 | .pointer (some ⟨r,0,_⟩)=>match h[r]? with
  | some (.mapIter (some m) _ seen q)=>match seen.back?,h[m]? with
   | some u,some (.map es clock)=>match Nat.beq clock q,es.find? (·.born == u) with
    | true,some e=>some (.tuple #[e.key,e.val])
    | _,_=>none
   | _,_=>none
  | _=>none
 | _=>none
def Lw (zero:Array Value) (size bytes:Nat) (e:TypeId) (l c:Value) (h:Hp):Option (Value × Hp):=
 match l,c with
 | .int .i64 l,.int .i64 c=>if 0<=l/\l<=c/\c<=9223372036854775807/\c*bytes<=281474976710656 then
   some (.slice (some ⟨h.size,0,none⟩) l.toNat c.toNat,h.push (.cells ((Array.range (c.toNat*size)).map (zero[· % zero.size]!)) e)) else none
 | _,_=>none
def rowOf (x:Value) (m:Nat) (h:Hp):Option (List Value):=
 match x with
 | .slice (some a) _ _=>md h a 0 m
 | .slice none _ _=>some []
 | _=>none
def CC (size:Nat) (d s:Value) (h:Hp):Option (Value × Hp):=
 match d,s with
 | .slice base q _,.slice _ u _=>
  (rowOf s (Nat.min u q*size) h).bind λcells=>
   match base with
   | some a=>(jU h a 0 cells).bind λh'=>some (.int .i64 (Nat.min u q:Nat),h')
   | none=>some (.int .i64 (Nat.min u q:Nat),h)
 | _,_=>none
def Rh (zero:Array Value) (x:Value) (h:Hp):Option (Value × Hp):=
 match x with
 | .slice none _ _=>some (.tuple #[],h)
 | .slice (some a) n _=>match n with
  | 0=>some (.tuple #[],h)
  | n+1=>(jU h a 0 (Builtin.zeroCells zero (n+1)).toList).bind λh'=>some (.tuple #[],h')
 | _=>none
inductive TK where
 | cell
 | agg (n:Nat)
 | bad
def FD (P:Program) (t:TypeId):TK:=
 match P.underlying t,P.info? t with
 | some (.struct _),some i=>.agg i.size
 | some (.array ..),some i=>.agg i.size
 | some _,some _=>.cell
 | _,_=>.bad
def Qz (k:TK) (p:Value) (h:Hp):Option Value:=
 match k with
 | .cell=>eH p h
 | .agg n=>aP n p h
 | .bad=>none
def L9:List Bool->List Bool->List Bool
 | [],e=>e
 | x::r,e=>x::L9 r e
def wU (l:List Bool):Nat->List Bool
 | 0=>[]
 | n+1=>L9 l (wU l n)
def D6:List Bool->Nat
 | []=>0
 | _::r=>D6 r+1
def An (P:Program) (flat:TypeId->Option (List Bool)):List Field->Nat->Option (List Bool)
 | [],_=>some []
 | f::r,off=>match Nat.beq f.offset off,f.name == "_",flat f.type,P.info? f.type with
  | true,false,some l,some i=>match Nat.beq i.size (D6 l),An P flat r (off+D6 l) with
   | true,some h=>some (L9 l h)
   | _,_=>none
  | _,_,_,_=>none
def xT (P:Program):Nat->TypeId->Option (List Bool)
 | 0,_=>none
 | d+1,t=>match P.underlying t with
  | some (.int _)=>some [true]
  | some .bool=>some [false]
  | some (.struct h)=>match P.stoodInHeld t,An P (xT P d) h.toList 0,P.info? t with
   | false,some l,some i=>match Nat.beq i.size (D6 l) with
    | true=>some l
    | false=>none
   | _,_,_=>none
  | some (.array len e)=>match xT P d e,P.info? e,P.info? t with
   | some l,some i,some j=>match Nat.beq i.size (D6 l),Nat.beq j.size (D6 (wU l len)) with
    | true,true=>some (wU l len)
    | _,_=>none
   | _,_,_=>none
  | _=>none
inductive EK where
 | plain | boolean | ptr | sB | map | fn | agg (l:List Bool) | bad
def M3 (P:Program) (t:TypeId):EK:=
 match P.underlying t with
 | some (.int _)=>.plain
 | some .bool=>.boolean
 | some (.pointer _)=>.ptr
 | some (.slice _)=>.sB
 | some (.map _ _)=>.map
 | some (.func ..)=>.fn
 | some (.struct _)=>match P.eqGuardType P.depth t,xT P 5 t with
  | false,some l=>.agg l
  | _,_=>.bad
 | some (.array _ _)=>match P.eqGuardType P.depth t,xT P 5 t with
  | false,some l=>.agg l
  | _,_=>.bad
 | _=>.bad
def Pv (k:EK) (x y:Value):Option Bool:=
 match k with
 | .boolean=>O7 x y
 | .ptr=>Ug x y
 | .sB=>Mz x y
 | .map=>Ps x y
 | .fn=>O4 x y
 | .agg l=>tg l x y
 | .plain | .bad=>none
def SG (k:EK) (op:BinOp) (x y:Value):Option Value:=
 match k,op with
 | .plain,op=>bin op x y
 | k,.eql=>pos? (Pv k x y)
 | k,.neq=>nX (Pv k x y)
 | _,_=>none
inductive CK where
 | int (k:IntKind)
 | bad
def Uk (P:Program) (src dst:TypeId):CK:=
 match P.underlying src,P.underlying dst with
 | some (.int _),some (.int k)=>.int k
 | _,_=>.bad
def Th (c:CK) (x:Value):Option Value:=
 match c with
 | .int k=>J2 k x
 | .bad=>none
inductive FK where
 | cell (off:Nat)
 | agg (off size:Nat)
 | bad
def Pf (P:Program) (s:TypeId) (f:Nat):FK:=
 match P.underlying s with
 | some (.struct h)=>match h[f]? with
  | some fd=>match FD P fd.type,P.info? fd.type with
   | .cell,some i=>match i.size with
    | 0=>.bad
    | _+1=>.cell fd.offset
   | .agg (n+1),_=>.agg fd.offset (n+1)
   | _,_=>.bad
  | none=>.bad
 | _=>.bad
def S6 (k:FK) (p:Value):Option Value:=
 match k with
 | .cell off | .agg off _=>fa off p
 | .bad=>none
def S7 (k:FK) (x:Value):Option Value:=
 match k with
 | .cell off=>Qw off x
 | .agg off size=>Q8 off size x
 | .bad=>none
inductive IK where
 | sB (size:Nat)
 | arr (len size:Nat)
 | bad
def MB (P:Program) (t:TypeId):IK:=
 match P.underlying t with
 | some (.slice e)=>match P.info? e with
  | some i=>.sB i.size
  | none=>.bad
 | some (.array n e)=>match P.info? e with
  | some i=>.arr n i.size
  | none=>.bad
 | _=>.bad
def RR (k:IK) (x i:Value):Option Value:=
 match k with
 | .sB size=>nh size x i
 | .arr n size=>Dl n size x i
 | .bad=>none
def OK (n:Nat) (x:Value):Option Value:=
 match x with
 | .slice a len _=>match Nat.ble n len with
  | true=>some (.pointer a)
  | false=>none
 | _=>none
def RH (k:IK) (x:Value):Option Value:=
 match k with
 | .arr n _=>OK n x
 | _=>none
def Rr (k:IK) (x:Value) (lo hi mx:Option Value):Option Value:=
 match k with
 | .sB size=>sB size x lo hi mx
 | .arr n size=>PG n size x lo hi mx
 | .bad=>none
inductive JK where
 | cell (len size:Nat)
 | agg (len size:Nat)
 | str
 | bad
def TT (P:Program) (t:TypeId):JK:=
 match P.underlying t with
 | some (.array n e)=>match FD P e,P.info? e with
  | .cell,some i=>.cell n i.size
  | .agg s,some _=>.agg n s
  | _,_=>.bad
 | some .string=>.str
 | _=>.bad
def SE (x i:Value):Option Value:=
 match x,i with
 | .string s,.int _ n=>(if 0<=n then s[n.toNat]? else none).map λb=>.int .u8 b.toNat
 | _,_=>none
def So (k:JK) (x i:Value):Option Value:=
 match k with
 | .cell n s=>Pu n s x i
 | .agg n s=>O2 n s x i
 | .str=>SE x i
 | .bad=>none
inductive BK where
 | struct (places:List (Nat × Nat)) (zero:Array Value)
 | arr (size:Nat) (zero:Array Value)
 | bad
def placesOf (P:Program):List Field->Option (List (Nat × Nat))
 | []=>some []
 | f::r=>(P.info? f.type).bind λi=>(placesOf P r).bind λl=>some ((f.offset,i.size)::l)
def Um (P:Program) (t:TypeId):BK:=
 match P.info? t with
 | some i=>match i.zero with
  | some z=>match P.underlying t with
   | some (.struct h)=>match placesOf P h.toList with
    | some ps=>.struct ps z.cells
    | none=>.bad
   | some (.array _ e)=>match P.info? e with
    | some j=>.arr j.size z.cells
    | none=>.bad
   | _=>.bad
  | none=>.bad
 | none=>.bad
def M9 (k:BK) (parts:List (Nat × Value)):Option Value:=
 match k with
 | .struct ps z=>fV ps z parts
 | .arr size z=>FG size z parts
 | .bad=>none
inductive MK where
 | ok (kd:TypeDesc) (zero:Value)
 | bad
def JY (P:Program) (t:TypeId):MK:=
 match P.underlying t with
 | some (.map k e)=>match P.underlying k,P.info? e with
  | some (.int h),some i=>match i.zero with
   | some z=>.ok (.int h) z
   | none=>.bad
  | _,_=>.bad
 | _=>.bad
def Tc (k:MK) (ok:Bool) (m key:Value) (h:Hp):Option Value:=
 match k with
 | .ok kd z=>JM kd z ok m key h
 | .bad=>none
inductive LK where
 | sB | map | bad
def S3 (P:Program) (t:TypeId):LK:=
 match P.underlying t with
 | some (.slice _)=>.sB
 | some (.map ..)=>.map
 | _=>.bad
def Tl (k:LK) (x:Value) (h:Hp):Option Value:=
 match k with
 | .sB=>B5 x
 | .map=>Mr x h
 | .bad=>none
inductive XK where
 | ok (e:TypeId) (zero:Array Value) (size bytes:Nat)
 | bad
def JZ (P:Program) (t:TypeId):XK:=
 match P.underlying t with
 | some (.slice e)=>match P.info? e with
  | some i=>match i.zero with
   | some z=>match Nat.beq z.cells.size i.size,Nat.blt 0 i.size with
    | true,true=>.ok e z.cells i.size i.bytes
    | _,_=>.bad
   | none=>.bad
  | none=>.bad
 | _=>.bad
def UT (P:Program) (t:TypeId):Option (Array Value):=(P.info? t).bind λi=>i.zero.bind λz=>some z.cells
section
variable {P:Program} {w:World}
def Am {a:Addr} {v:Value} (h:cellAt w.heap a=some v):(load a).run P w=.ok v w:=by
 rw[run_load]; rw[sG,h]
def xX {a:Addr}:∀(n i:Nat) (l:List Value) (acc:Array Value),md w.heap a i n=some l->
  (loadCellsFrom a i n acc).run P w=.ok (acc++l.toArray) w
 | 0,i,l,acc,h=>by
  simp only[md,Option.some.injEq] at h;subst h;simp[loadCellsFrom]
 | n+1,i,l,acc,h=>by
  simp only[md,Option.bind_eq_some_iff] at h;obtain⟨v,hv,r,u,q⟩:=h;simp only[Option.some.injEq] at q;subst q;simp only[loadCellsFrom,Sem.run_bind,Am hv,Result.andThen_ok];rw[xX n (i+1) r (acc.push v) u];simp
def run_loadCells {a:Addr} {n:Nat} {l:List Value} (h:md w.heap a 0 n=some l):(loadCells a n).run P w=.ok l.toArray w:=by
 rw[loadCells,xX n 0 l #[] h]; simp
def KR {t:TypeId} (h:FD P t=.cell):∃d,P.underlying t=some d/\(∀q,d≠.struct q)/\(∀n e,d≠.array n e):=by
 unfold FD at h;split at h <;> try contradiction
 rename_i d _ h1 h2 u _;exact⟨d,u,λq e=>h1 q e,λn A e=>h2 n A e⟩
def nU {t:TypeId} (h:FD P t=.cell):(isAgg t).run P w=.ok false w:=by
 obtain⟨d,q,h1,h2⟩:=KR h;unfold isAgg;simp only[Sem.run_bind,run_underlying q,Result.andThen_ok];cases d <;> first | rfl | exact(h1 _ rfl).elim | exact(h2 _ _ rfl).elim
def yU {t:TypeId} {n:Nat} (h:FD P t=.agg n):(∃i,P.info? t=some i/\i.size=n)/\((∃q,P.underlying t=some (.struct q))\/(∃k e,P.underlying t=some (.array k e))):=by
 unfold FD at h;split at h <;> try contradiction
 ·rename_i q i hu hi; simp only[TK.agg.injEq] at h; exact⟨⟨i,hi,h⟩,.inl ⟨q,hu⟩⟩
 ·rename_i k e i hu hi; simp only[TK.agg.injEq] at h; exact⟨⟨i,hi,h⟩,.inr ⟨k,e,hu⟩⟩
def pe {t:TypeId} {n:Nat} (h:FD P t=.agg n):(isAgg t).run P w=.ok true w:=by
 unfold isAgg;rcases(yU h).2 with ⟨q,hu⟩| ⟨k,e,hu⟩ <;> simp[run_underlying hu]
def run_sizeOf {t:TypeId} {i:TypeInfo} (h:P.info? t=some i):(sizeOf t).run P w=.ok i.size w:=by
 simp[sizeOf,typeInfo,h]
def iY {t:TypeId} {i:TypeInfo} {z:Value} (h:P.info? t=some i) (q:i.zero=some z):(zeroValue t).run P w=.ok z w:=by
 simp[zeroValue,typeInfo,h,q]
def Av {t:TypeId} {p v:Value} (h:Qz (FD P t) p w.heap=some v):(Instr.loadAt t p).run P w=.ok v w:=by
 unfold Instr.loadAt loadVar;cases q:FD P t with
 | cell=>
  rw[q] at h;simp only[Qz] at h;unfold eH at h;split at h <;> try contradiction
  rename_i a;simp only[Instr.sureAddr,Sem.run_bind,Sem.run_pure,Result.andThen_ok,nU q,Bool.false_eq_true,if_false];exact Am h
 | agg n=>
  rw[q] at h;simp only[Qz] at h;unfold aP at h;split at h <;> try contradiction
  rename_i a;simp only[Option.bind_eq_some_iff,Option.some.injEq] at h;obtain⟨l,u,hv⟩:=h;obtain⟨⟨i,hi,A⟩,_⟩:=yU q;simp only[Instr.sureAddr,Sem.run_bind,Sem.run_pure,Result.andThen_ok,pe q,if_true,run_sizeOf hi,A,run_loadCells u,hv]
 | bad=>rw[q] at h; simp[Qz] at h
structure l4 (w w':World):Prop where
 os:w'.os=w.os
 tape:w'.tape=w.tape
 output:w'.output=w.output
def l4.refl (w:World):l4 w w:=⟨rfl,rfl,rfl⟩
def l4.trans {a b c:World} (h:l4 a b) (k:l4 b c):l4 a c:=⟨k.os.trans h.os,k.tape.trans h.tape,k.output.trans h.output⟩
def nz {a:Addr}:∀(vs:List Value) (i:Nat) (w:World) (h':Hp),jU w.heap a i vs=some h'->
  ∃w',(storeCells a vs i).run P w=.ok () w'/\w'.heap=h'/\l4 w w'/\w'.drawn=w.drawn
 | [],i,w,h',h=>by
  simp only[jU,Option.some.injEq] at h;exact⟨w,rfl,h,.refl w,rfl⟩
 | v::r,i,w,h',h=>by
  simp only[jU] at h;split at h <;> try contradiction
  rename_i u h1 q A;obtain⟨w',B,E,hs,F⟩:=nz r (i+1) (w.setCell (a.add i) v) h' h;refine⟨w',?_,E,⟨hs.os,hs.tape,hs.output⟩,F⟩;unfold storeCells;simp only[Sem.run_bind];rw[run_store P w _ v _ h1];rw[sG,DU,q,A];simpa using B
def DQ {t:TypeId} {p v:Value} {i:TypeInfo} {h':Hp} (hi:P.info? t=some i) (h:bF i.size p v w.heap=some h') :
  ∃w',(Instr.storeAt t p v).run P w=.ok () w'/\w'.heap=h'/\l4 w w':=by
 unfold bF at h;split at h <;> try contradiction
 rename_i a;split at h <;> try contradiction
 rename_i u;obtain⟨w',A,B,hs,_⟩:=nz (P:=P) (a:=a) v.cells.toList 0 w h' h;refine⟨w',?_,B,hs⟩;have q:v.cells.size=i.size:=Nat.eq_of_beq_eq_true u;simp only[Instr.storeAt,storeVar,Instr.sureAddr,Sem.run_bind,Sem.run_pure,Result.andThen_ok,run_sizeOf hi,q,ne_eq,not_true_eq_false,if_false,A]
def Ni {op:BinOp} {t:TypeId} {x y v:Value} (h:bin op x y=some v):(binOp op t x y).run P w=.ok v w:=by
 unfold bin at h;split at h <;> try contradiction
 rename_i k a k' b;split at h <;> (try contradiction) <;> (try (split at h <;> (try contradiction))) <;> (try (split at h <;> (try contradiction))) <;>
  (simp only[Option.some.injEq] at h; subst h) <;>
  (try subst k') <;>
  (try (rename_i q; have u:¬b<0:=q)) <;>
  (first
   | (simp only[binOp,Op.shift]; rw[if_neg ‹¬b<0›]; rfl)
   | (simp only[binOp,ne_eq,not_true_eq_false,if_false,Op.intDiv]; rw[if_neg ‹¬b=0›]; rfl)
   | (simp only[binOp,ne_eq,not_true_eq_false,if_false,Op.intArith,Op.intCmp]; rfl)
   | (simp only[binOp,ne_eq,not_true_eq_false,if_false,Op.intBits]; rfl))
def yk {op:BinOp} {t:TypeId} {x y:Operand} {k k':IntKind} {a b:Int}:(eqGuard op t x y (.int k a) (.int k' b)).run P w=.ok () w:=by
 unfold eqGuard; cases op <;> rfl
def Mb {op:BinOp} {x y v:Value} (h:bin op x y=some v):∃k a k' b,x=.int k a/\y=.int k' b:=by
 unfold bin at h;split at h <;> try contradiction
 exact⟨_,_,_,_,rfl,rfl⟩
def TL (P:Program) (t:TypeId):EK->Prop
  | .boolean=>P.underlying t=some .bool
  | .ptr=>∃e,P.underlying t=some (.pointer e)
  | .sB=>∃e,P.underlying t=some (.slice e)
  | .map=>∃a b,P.underlying t=some (.map a b)
  | .fn=>∃a b c,P.underlying t=some (.func a b c)
  | .agg n=>xT P 5 t=some n/\P.eqGuardType P.depth t=false/\((∃h,P.underlying t=some (.struct h))\/(∃n e,P.underlying t=some (.array n e)))
  | _=>True
def AZ (P:Program) (t:TypeId):TL P t (M3 P t):=by
 cases h:M3 P t <;> simp only[TL] <;> (unfold M3 at h; split at h <;> (try split at h) <;> simp_all)
def yz:∀(a b:List Bool),L9 a b=a++b
 | [],_=>rfl
 | x::r,b=>by simp[L9,yz r b]
def uX:∀l:List Bool,D6 l=l.length
 | []=>rfl
 | _::r=>by simp[D6,uX r]
def tF:∀{l a u:List _} {A b B:List _} {q:Bool},l.length=a.length->l.length=u.length->uB (l++A) (a++b) (u++B)=some q->∃E q2,uB l a u=some E/\uB A b B=some q2/\q=(E&&q2)
 | [],[],[],A,b,B,q,_,_,h=>⟨true,q,rfl,by simpa using h,by simp⟩
 | i::l,x::a,y::u,A,b,B,q,h1,h2,h=>by
  simp only[List.cons_append,uB,Option.bind_eq_some_iff,Option.some.injEq] at h;obtain⟨G,H,L,F,rfl⟩:=h;obtain⟨E,q2,J,K,rfl⟩:=tF (by simpa using h1) (by simpa using h2) F;exact⟨G&&E,q2,by simp[uB,H,J],K,by simp[Bool.and_assoc]⟩
 | [],_::_,_,_,_,_,_,h1,_,_=>by simp at h1
 | [],[],_::_,_,_,_,_,_,h2,_=>by simp at h2
 | _::_,[],_,_,_,_,_,h1,_,_=>by simp at h1
 | _::_,_::_,[],_,_,_,_,_,h2,_=>by simp at h2
def tK:∀{l:List Bool} {a b:List Value} {q:Bool},uB l a b=some q->a.length=l.length/\b.length=l.length
 | [],[],[],_,_=>⟨rfl,rfl⟩
 | i::l,x::a,y::b,q,h=>by
  simp only[uB,Option.bind_eq_some_iff,Option.some.injEq] at h;obtain⟨_,_,_,h2,_⟩:=h;have:=tK h2;simp[this.1,this.2]
 | [],_::_,_,_,h=>by simp[uB] at h
 | [],[],_::_,_,h=>by simp[uB] at h
 | _::_,[],_,_,h=>by simp[uB] at h
 | _::_,_::_,[],_,h=>by simp[uB] at h
def xR (xs:Array Value) (o n:Nat):List Value:=(xs.toList.drop o).take n
def qo {xs:Array Value} {o n:Nat} (h:o+n<=xs.size):(xR xs o n).length=n:=by
 unfold xR; simp; omega
def yA {xs:Array Value} {o n m:Nat}:xR xs o (n+m)=xR xs o n++xR xs (o+n) m:=by
 unfold xR;rw[List.take_add,List.drop_drop]
def Ct (P:Program) (d:Nat) (t:TypeId) (l:List Bool):Prop:=
 ∀(w:World) (xs ys:Array Value) (o:Nat) (q:Bool),o+l.length<=xs.size->o+l.length<=ys.size->uB l (xR xs o l.length) (xR ys o l.length)=some q->
  ∃x y,(part t xs o).run P w=.ok x w/\(part t ys o).run P w=.ok y w/\(Op.equalIn d t x y).run P w=.ok q w
def xJ {d:Nat} {flat:TypeId->Option (List Bool)} (B:∀t l,flat t=some l->Ct P d t l):∀(K:List Field) (off:Nat) (l:List Bool),An P flat K off=some l->
  ∀(w:World) (xs ys:Array Value) (q:Bool),off+l.length<=xs.size->off+l.length<=ys.size->uB l (xR xs off l.length) (xR ys off l.length)=some q->(Op.eqFields d xs ys K).run P w=.ok q w
 | [],off,l,h=>by
  simp only[An,Option.some.injEq] at h;subst h;intro w xs ys q _ _ A;simp only[xR,List.length_nil,List.take_zero,uB,Option.some.injEq] at A;subst A;rfl
 | f::r,off,l,h=>by
  unfold An at h;split at h <;> try contradiction
  rename_i M i ho E H hi;split at h <;> try contradiction
  rename_i N O u;simp only[Option.some.injEq] at h;subst h;have F:=Nat.eq_of_beq_eq_true ho;rw[uX] at u;have G:=xJ B r (off+M.length) N u;intro w xs ys q Q R A;rw[yz,List.length_append] at Q R A;rw[yA,yA] at A;obtain⟨L,q2,h1,h2,rfl⟩:=tF (by rw[qo (by omega)]) (by rw[qo (by omega)]) A;obtain⟨x,y,T,p2,U⟩:=B _ _ H w xs ys off L (by omega) (by omega) h1;have J:f.name≠"_":=λe=>by rw[e] at E; simp at E
  unfold Op.eqFields;rw[if_pos J];rw[F];simp only[Sem.run_bind,T,p2,U,Result.andThen_ok];cases L with
  | false=>simp
  | true=>simpa using G w xs ys q2 (by omega) (by omega) h2
def xw (l:List Bool):∀n,(wU l n).length=n*l.length
 | 0=>by simp[wU]
 | n+1=>by simp[wU,yz,xw l n,Nat.succ_mul,Nat.add_comm]
def run_equalIn_array {d:Nat} {t e:TypeId} {len:Nat} {l:List Bool} {i:TypeInfo} (hu:P.underlying t=some (.array len e)) (hi:P.info? e=some i) (E:i.size=l.length) (u:Ct P d e l) (w:World) (xs ys:Array Value) (q:Bool)
  (F:xs.size=len*l.length) (G:ys.size=len*l.length) (H:uB (wU l len) xs.toList ys.toList=some q):(Op.equalIn (d+1) t (.agg xs) (.agg ys)).run P w=.ok q w:=by
 simp only[Op.equalIn,Sem.run_bind,run_underlying hu,Result.andThen_ok,run_sizeOf hi,E];rw[Std.Legacy.Range.forIn_eq_forIn_range'];have A:({start:=0,stop:=len,step:=1,step_pos:=by decide}:Std.Legacy.Range).size=len:=by simp[Std.Legacy.Range.size]
 simp only[A];have key:∀(k j:Nat) (w:World) (q:Bool),j+k=len->uB (wU l k) (xR xs (j*l.length) (k*l.length)) (xR ys (j*l.length) (k*l.length))=some q->
   (forIn (List.range' j k 1) ((none,PUnit.unit):Option Bool × PUnit) (λi r=>do
    let a <-part e xs (i*l.length);let b <-part e ys (i*l.length);let c <-Op.equalIn d e a b;if (!c)=true then pure (ForInStep.done (some false,PUnit.unit)) else do
     pure PUnit.unit
     pure (ForInStep.yield (none,PUnit.unit))):Sem (Option Bool × PUnit)).run P w=.ok (if q then none else some false,PUnit.unit) w:=by
  intro k;induction k with
  | zero=>
   intro j w q _ h;simp only[Nat.zero_mul,xR,List.take_zero,wU,uB,Option.some.injEq] at h;subst h;rfl
  | succ k J=>
   intro j w q Q h;have R:j*l.length+l.length<=len*l.length:=by
    have:(j+1)*l.length<=len*l.length:=Nat.mul_le_mul_right _ (by omega);rw[Nat.succ_mul] at this; exact this
   rw[wU,yz,Nat.succ_mul,Nat.add_comm (k*l.length) l.length,yA,yA] at h;obtain⟨B,q2,h1,h2,rfl⟩:=tF (by rw[qo (by omega)]) (by rw[qo (by omega)]) h;obtain⟨x,y,K,p2,L⟩:=u w xs ys (j*l.length) B (by omega) (by omega) h1;rw[List.range'_succ,List.forIn_cons];simp only[Sem.run_bind,K,p2,L,Result.andThen_ok];cases B with
   | false=>simp
   | true=>
    simp only[Bool.not_true,Bool.false_eq_true,if_false,Sem.run_pure,Result.andThen_ok,Bool.true_and];exact J (j+1) w q2 (by omega) (by rw[Nat.succ_mul]; exact h2)
 have M:uB (wU l len) (xR xs (0*l.length) (len*l.length)) (xR ys (0*l.length) (len*l.length))=some q:=by
  have ex:xR xs (0*l.length) (len*l.length)=xs.toList:=by unfold xR; rw[Nat.zero_mul,List.drop_zero,List.take_of_length_le (by simp[F])]
  have N:xR ys (0*l.length) (len*l.length)=ys.toList:=by unfold xR; rw[Nat.zero_mul,List.drop_zero,List.take_of_length_le (by simp[G])]
  rw[ex,N]; exact H
 have O:=key len 0 w q (by omega) M;rw[O];cases q <;> rfl
def CJ:∀(d:Nat) (t:TypeId) (l:List Bool),xT P d t=some l->∀k,d<=k->
  Ct P k t l/\((∃G,P.underlying t=some (.struct G))\/(∃n e,P.underlying t=some (.array n e))->∀(w:World) (xs ys:Array Value) (q:Bool),uB l xs.toList ys.toList=some q->(Op.equalIn k t (.agg xs) (.agg ys)).run P w=.ok q w)
 | 0,t,n,h,_,_=>by simp[xT] at h
 | d+1,t,l,h,k,hk=>by
  obtain⟨k,rfl⟩:∃j,k=j+1:=⟨k - 1,by omega⟩;have X:d<=k:=by omega
  have L:∀(u:TypeDesc),P.underlying t=some u->((∃G,u=.struct G)\/∃l e,u=.array l e)->∀(i:TypeInfo),P.info? t=some i->∀(w:World) (o:Nat) (a:Array Value),(part t a o).run P w=.ok (.agg (a.extract o (o+i.size))) w:=by
   intro u hu E i hi w o a;unfold part isAgg;rcases E with ⟨G,rfl⟩| ⟨l,e,rfl⟩ <;> simp[run_underlying hu,run_sizeOf hi]
  have M:∀(a:Array Value) (o m:Nat),(a.extract o (o+m)).toList=xR a o m:=by
   intro a o m;unfold xR;rw[Array.toList_extract,List.extract_eq_drop_take'];simp[List.drop_take]
  have B:∀(a:Array Value) (o:Nat),o+1<=a.size->∃v,a[o]?=some v/\xR a o 1=[v]:=by
   intro a o ha;have Z:o<a.size:=by omega
   refine⟨a[o],Array.getElem?_eq_getElem Z,?_⟩;unfold xR;rw[List.drop_eq_getElem_cons (by simpa using Z)];simp
  have A:∀(u:TypeDesc),P.underlying t=some u->((∃G,u=.struct G)\/∃l e,u=.array l e)->∀(i:TypeInfo),P.info? t=some i->i.size=l.length->
    (∀(w:World) (xs ys:Array Value) (q:Bool),uB l xs.toList ys.toList=some q->(Op.equalIn (k+1) t (.agg xs) (.agg ys)).run P w=.ok q w)->Ct P (k+1) t l:=by
   intro u hu E i hi H hw w xs ys o q hx hy F;refine⟨_,_,L u hu E i hi w o xs,L u hu E i hi w o ys,hw w _ _ q ?_⟩;rw[M,M,H];exact F
  unfold xT at h;split at h
  ·rename_i ik hu;simp only[Option.some.injEq] at h;subst h;refine⟨λw xs ys o q hx hy F=>?_,λE=>by rcases E with ⟨G,h1⟩| ⟨n,e,h1⟩ <;> (rw[hu] at h1; cases h1)⟩;obtain⟨x,O,Q⟩:=B xs o hx;obtain⟨y,R,T⟩:=B ys o hy;simp only[List.length_cons,List.length_nil,Nat.zero_add] at F;rw[Q,T] at F;simp only[uB,Option.bind_eq_some_iff,Option.some.injEq] at F;obtain⟨q0,K,q1,U,rfl⟩:=F;subst U;have hp:∀(a:Array Value) (v:Value),a[o]?=some v->(part t a o).run P w=.ok v w:=by
    intro a v hv;unfold part isAgg;simp[run_underlying hu,hv]
   refine⟨x,y,hp _ _ O,hp _ _ R,?_⟩;unfold S8 at K;split at K <;> try contradiction
   split at K <;> try contradiction
   rename_i bY;simp only[Option.some.injEq] at K;subst K;subst bY;simp[Op.equalIn,run_underlying hu]
  ·rename_i hu;simp only[Option.some.injEq] at h;subst h;refine⟨λw xs ys o q hx hy F=>?_,λE=>by rcases E with ⟨G,h1⟩| ⟨n,e,h1⟩ <;> (rw[hu] at h1; cases h1)⟩;obtain⟨x,O,Q⟩:=B xs o hx;obtain⟨y,R,T⟩:=B ys o hy;simp only[List.length_cons,List.length_nil,Nat.zero_add] at F;rw[Q,T] at F;simp only[uB,Option.bind_eq_some_iff,Option.some.injEq] at F;obtain⟨q0,K,q1,U,rfl⟩:=F;subst U;have hp:∀(a:Array Value) (v:Value),a[o]?=some v->(part t a o).run P w=.ok v w:=by
    intro a v hv;unfold part isAgg;simp[run_underlying hu,hv]
   refine⟨x,y,hp _ _ O,hp _ _ R,?_⟩;unfold S8 at K;split at K <;> try contradiction
   simp only[Option.some.injEq] at K;subst K;simp[Op.equalIn,run_underlying hu]
  ·rename_i G hu;split at h <;> try contradiction
   rename_i l' i dO eQ hi;split at h <;> try contradiction
   rename_i H;simp only[Option.some.injEq] at h;subst h;have J:i.size=l'.length:=by rw[<-uX]; exact Nat.eq_of_beq_eq_true H
   have aS:P.fieldsOf t=G:=by simp[Program.fieldsOf,hu]
   have hw:∀(w:World) (xs ys:Array Value) (q:Bool),uB l' xs.toList ys.toList=some q->(Op.equalIn (k+1) t (.agg xs) (.agg ys)).run P w=.ok q w:=by
    intro w xs ys q F;rw[run_equalIn_struct w k t xs ys (by rw[aS]; exact hu) dO,aS];have N:=tK F;have e1:∀a:Array Value,a.toList.length=l'.length->xR a 0 l'.length=a.toList:=λa ha=>by unfold xR; rw[List.drop_zero,List.take_of_length_le (by omega)]
    exact xJ (λt' iF iN=>(CJ d t' iF iN k X).1) G.toList 0 l' eQ w xs ys q (by have:=N.1; simp at this; omega) (by have:=N.2; simp at this; omega) (by rw[e1 xs N.1,e1 ys N.2]; exact F)
   exact⟨A _ hu (.inl ⟨_,rfl⟩) i hi J hw,λ_=>hw⟩
  ·rename_i len e hu;split at h <;> try contradiction
   rename_i le i j hle hi hj;split at h <;> try contradiction
   rename_i H aT;simp only[Option.some.injEq] at h;subst h;have J:i.size=le.length:=by rw[<-uX]; exact Nat.eq_of_beq_eq_true H
   have V:j.size=(wU le len).length:=by rw[<-uX]; exact Nat.eq_of_beq_eq_true aT
   have hw:∀(w:World) (xs ys:Array Value) (q:Bool),uB (wU le len) xs.toList ys.toList=some q->(Op.equalIn (k+1) t (.agg xs) (.agg ys)).run P w=.ok q w:=by
    intro w xs ys q F;have N:=tK F;rw[xw] at N;exact run_equalIn_array hu hi J (CJ d e le hle k X).1 w xs ys q (by simpa using N.1) (by simpa using N.2) F
   exact⟨A _ hu (.inr ⟨_,_,rfl⟩) j hj V hw,λ_=>hw⟩
  ·contradiction
def Ep (d:Nat) (E:4<=d) {t:TypeId} {x y:Value} {b:Bool} (h:Pv (M3 P t) x y=some b):(Op.equalIn (d+1) t x y).run P w=.ok b w:=by
 have hu:=AZ P t;cases q:M3 P t <;> rw[q] at h hu <;> simp only[Pv,TL] at h hu <;> try contradiction
 ·unfold O7 at h;split at h <;> try contradiction
  simp only[Option.some.injEq] at h;simp[Op.equalIn,run_underlying hu,h]
 ·obtain⟨e,hu⟩:=hu;unfold Ug at h;split at h <;> try contradiction
  all_goals (simp only[Option.some.injEq] at h; simp[Op.equalIn,run_underlying hu,h])
 ·obtain⟨e,hu⟩:=hu;unfold Mz at h;split at h <;> try contradiction
  all_goals (simp only[Option.some.injEq] at h; simp[Op.equalIn,run_underlying hu,h])
 ·obtain⟨e,u,hu⟩:=hu;unfold Ps at h;split at h <;> try contradiction
  all_goals (simp only[Option.some.injEq] at h; simp[Op.equalIn,run_underlying hu,h])
 ·obtain⟨e,u,A,hu⟩:=hu;unfold O4 at h;split at h <;> try contradiction
  all_goals (simp only[Option.some.injEq] at h; simp[Op.equalIn,run_underlying hu,h])
 ·obtain⟨h1,h2,B⟩:=hu;unfold tg at h;split at h <;> try contradiction
  exact(CJ 5 t _ h1 (d+1) (by omega)).2 B w _ _ b h
def G9 {t:TypeId} {x y:Value} {b:Bool} (h:Pv (M3 P t) x y=some b):(Op.equal t x y).run P w=.ok b w:=
 Ep 9999 (by omega) h
def Jl {k:EK} {x y:Value} {b:Bool} (h:Pv k x y=some b) (q:∀ds,k≠.agg ds) :
  (∀(op:BinOp) (t:TypeId) (ox oy:Operand),(eqGuard op t ox oy x y).run P w=.ok () w)/\
  (∀t,binOp .eql t x y=(do pure (.bool (<-Op.equal t x y))))/\(∀t,binOp .neq t x y=(do pure (.bool (!(<-Op.equal t x y))))):=by
 cases k <;> simp only[Pv] at h <;> try contradiction
 ·unfold O7 at h; split at h <;> try contradiction
  exact⟨λop _ _ _=>by cases op <;> rfl,λ_=>rfl,λ_=>rfl⟩
 ·unfold Ug at h; split at h <;> try contradiction
  all_goals exact⟨λop _ _ _=>by cases op <;> rfl,λ_=>rfl,λ_=>rfl⟩
 ·unfold Mz at h; split at h <;> try contradiction
  all_goals exact⟨λop _ _ _=>by cases op <;> rfl,λ_=>rfl,λ_=>rfl⟩
 ·unfold Ps at h; split at h <;> try contradiction
  all_goals exact⟨λop _ _ _=>by cases op <;> rfl,λ_=>rfl,λ_=>rfl⟩
 ·unfold O4 at h; split at h <;> try contradiction
  all_goals exact⟨λop _ _ _=>by cases op <;> rfl,λ_=>rfl,λ_=>rfl⟩
 ·exact(q _ rfl).elim
def Nl {op:BinOp} {t:TypeId} {ox oy:Operand} {x y v:Value} (h:SG (M3 P t) op x y=some v) :
  (do eqGuard op t ox oy x y; binOp op t x y:Sem Value).run P w=.ok v w:=by
 cases u:M3 P t with
 | plain=>
  rw[u] at h;simp only[SG] at h;obtain⟨k,a,k',b,rfl,rfl⟩:=Mb h;simp only[Sem.run_bind,yk,Result.andThen_ok,Ni h]
 | agg l=>
  have hu:=AZ P t;rw[u] at h hu;obtain⟨h1,h2,G⟩:=hu;cases op <;> simp only[SG] at h <;> try contradiction
  all_goals
   simp only[pos?,nX,Option.bind_eq_some_iff,Option.some.injEq] at h;obtain⟨b,q,rfl⟩:=h;have A:=G9 (P:=P) (w:=w) (t:=t) (x:=x) (y:=y) (b:=b) (by rw[u]; exact q);simp only[Pv,tg] at q;split at q <;> try contradiction
   simp only[Op.equal,Op.maxDepth] at A;simp only[Sem.run_bind,run_eqGuard_agg w _ _ _ _ _ _ h2,Result.andThen_ok,run_eql_struct,run_neq_struct,A]
 | _=>
  rw[u] at h;cases op <;> simp only[SG] at h <;> try contradiction
  all_goals
   simp only[pos?,nX,Option.bind_eq_some_iff,Option.some.injEq] at h;obtain⟨b,q,rfl⟩:=h;obtain⟨B,E,F⟩:=Jl (P:=P) (w:=w) q (λds e=>by simp at e);rw[<-u] at q;have A:=G9 (P:=P) (w:=w) q;simp only[Sem.run_bind,B,E,F,Result.andThen_ok,A,Sem.run_pure]
def Fz (d:Nat) {t:TypeId} {x:Value} {b:Bool} (hi:Td P t=true) (h:(x=.nilIface/\b=true)\/((∃q v,x=.iface q v)/\b=false)):(Op.equalIn (d+1) t x .nilIface).run P w=.ok b w:=by
 unfold Td at hi;split at hi <;> try contradiction
 rename_i ms hu;unfold Op.equalIn;rcases h with ⟨rfl,rfl⟩| ⟨⟨q,v,rfl⟩,rfl⟩
 ·simp only[Sem.run_bind,run_underlying hu,Result.andThen_ok,Sem.run_pure]
 ·simp only[Sem.run_bind,run_underlying hu,Result.andThen_ok,Sem.run_pure]
def Nu {op:BinOp} {t:TypeId} {ox:Operand} {x v:Value} (hi:Td P t=true) (h:inl op x=some v) :
  (do eqGuard op t ox (.const .nilIface) x .nilIface; binOp op t x .nilIface:Sem Value).run P w=.ok v w:=by
 have e:∀b,((x=.nilIface/\b=true)\/((∃q v,x=.iface q v)/\b=false))->(Op.equal t x .nilIface).run P w=.ok b w:=λb A=>Fz 9999 hi A;unfold inl at h;split at h <;> try contradiction
 all_goals
  simp only[Option.some.injEq] at h;subst h
 ·have g:(eqGuard .eql t ox (.const .nilIface) .nilIface .nilIface).run P w=.ok () w:=by
   unfold eqGuard; simp
  have b:binOp .eql t .nilIface .nilIface=(do pure (.bool (<-Op.equal t .nilIface .nilIface))):=rfl;simp only[Sem.run_bind,g,b,Result.andThen_ok,e true (.inl ⟨rfl,rfl⟩),Sem.run_pure]
 ·rename_i q u;have g:(eqGuard .eql t ox (.const .nilIface) (.iface q u) .nilIface).run P w=.ok () w:=rfl;have b:binOp .eql t (.iface q u) .nilIface=(do pure (.bool (<-Op.equal t (.iface q u) .nilIface))):=rfl;simp only[Sem.run_bind,g,b,Result.andThen_ok,e false (.inr ⟨⟨_,_,rfl⟩,rfl⟩),Sem.run_pure]
 ·have g:(eqGuard .neq t ox (.const .nilIface) .nilIface .nilIface).run P w=.ok () w:=by
   unfold eqGuard; simp
  have b:binOp .neq t .nilIface .nilIface=(do pure (.bool (!(<-Op.equal t .nilIface .nilIface)))):=rfl;simp only[Sem.run_bind,g,b,Result.andThen_ok,e true (.inl ⟨rfl,rfl⟩),Sem.run_pure,Bool.not_true]
 ·rename_i q u;have g:(eqGuard .neq t ox (.const .nilIface) (.iface q u) .nilIface).run P w=.ok () w:=rfl;have b:binOp .neq t (.iface q u) .nilIface=(do pure (.bool (!(<-Op.equal t (.iface q u) .nilIface)))):=rfl;simp only[Sem.run_bind,g,b,Result.andThen_ok,e false (.inr ⟨⟨_,_,rfl⟩,rfl⟩),Sem.run_pure,Bool.not_false]
def Nj {t:TypeId} {x:Value} (hi:Rs P t=true):(Instr.makeInterface t x).run P w=.ok (.iface t x) w:=by
 unfold Rs at hi;split at hi <;> try contradiction
 rename_i d h hu;unfold Instr.makeInterface;simp only[Sem.run_bind,run_underlying hu,Result.andThen_ok,Sem.run_pure]
def OH {t B:TypeId} {i:TypeInfo} {z x v:Value} {ok:Bool} (hi:Rs P t=true) (E:P.info? t=some i) (F:i.zero=some z) (h:Az t z ok x=some v):(Instr.typeAssert x B t ok).run P w=.ok v w:=by
 unfold Rs at hi;split at hi <;> try contradiction
 rename_i d u hu;have q:=iY (P:=P) (w:=w) E F;unfold Az at h;unfold Instr.typeAssert;split at h <;> try contradiction
 ·rename_i A G;simp only[Option.some.injEq] at h;subst h;simp only[Sem.run_bind,run_underlying hu,Result.andThen_ok];by_cases e:A=t
  ·cases d <;> first | (rename_i ms; exact(u ms rfl).elim) | simp[e]
  ·cases d <;> first | (rename_i ms; exact(u ms rfl).elim) | simp[e,q]
 ·rename_i A G;split at h <;> try contradiction
  rename_i e;simp only[Option.some.injEq] at h;subst h;simp only[Sem.run_bind,run_underlying hu,Result.andThen_ok];cases d <;> first | (rename_i ms; exact(u ms rfl).elim) | simp[e]
 ·simp only[Option.some.injEq] at h;subst h;simp only[Sem.run_bind,run_underlying hu,Result.andThen_ok];cases d <;> first | (rename_i ms; exact(u ms rfl).elim) | simp[q]
def Nc {op:UnOp} {x v:Value} (h:MH op x=some v):(Op.unary op x).run P w=.ok v w:=by
 unfold MH at h;split at h <;> try contradiction
 all_goals (simp only[Option.some.injEq] at h; subst h; simp[Op.unary,Op.intArith])
def N4 {s d:TypeId} {x v:Value} (h:Th (Uk P s d) x=some v):(convert s d x).run P w=.ok v w:=by
 unfold Uk at h;split at h
 ·rename_i k' k hs q;simp only[Th] at h;unfold J2 at h;split at h <;> try contradiction
  simp only[Option.some.injEq] at h;subst h;simp[convert,run_underlying hs,run_underlying q,Conv.intToInt]
 ·simp[Th] at h
def BD {s:TypeId} {f:Nat} {k:FK} (h:Pf P s f=k) (A:k≠.bad):∃q fd i,P.underlying s=some (.struct q)/\q[f]?=some fd/\P.info? fd.type=some i/\i.size≠0/\
  ((k=.cell fd.offset/\FD P fd.type=.cell)\/(k=.agg fd.offset i.size/\FD P fd.type=.agg i.size)):=by
 unfold Pf at h;split at h <;> try (exact(A h.symm).elim)
 rename_i q hu;split at h <;> try (exact(A h.symm).elim)
 rename_i fd u;split at h <;> try (exact(A h.symm).elim)
 ·rename_i i B hi;split at h <;> try (exact(A h.symm).elim)
  rename_i hs;exact⟨q,fd,i,hu,u,hi,by omega,.inl ⟨h.symm,B⟩⟩
 ·rename_i n B;obtain⟨⟨i,hi,E⟩,_⟩:=yU B;exact⟨q,fd,i,hu,u,hi,by omega,.inr ⟨by rw[<-h,E],by rw[B,E]⟩⟩
def EP {s:TypeId} {f:Nat} {p v:Value} (h:S6 (Pf P s f) p=some v):(Instr.fieldAt s p f).run P w=.ok v w:=by
 have A:Pf P s f≠.bad:=λe=>by rw[e] at h; simp[S6] at h
 obtain⟨E,fd,i,hu,q,hi,u,B⟩:=BD rfl A;have h':fa fd.offset p=some v:=by
  rcases B with ⟨e,_⟩| ⟨e,_⟩ <;> (rw[e] at h; simpa[S6] using h)
 unfold fa at h';split at h' <;> try contradiction
 simp only[Option.some.injEq] at h';subst h';simp[Instr.fieldAt,run_underlying hu,q,Instr.sureAddr,fieldPlace,run_sizeOf hi,u]
def Js {s:TypeId} {f:Nat} {x v:Value} (h:S7 (Pf P s f) x=some v):(Instr.field s x f).run P w=.ok v w:=by
 have A:Pf P s f≠.bad:=λe=>by rw[e] at h; simp[S7] at h
 obtain⟨F,fd,i,hu,q,hi,B,E⟩:=BD rfl A;rcases E with ⟨e,u⟩| ⟨e,u⟩ <;> rw[e] at h <;> simp only[S7] at h
 ·unfold Qw at h;split at h <;> try contradiction
  simp[Instr.field,run_underlying hu,q,asAgg,part,nU u,h]
 ·unfold Q8 at h;split at h <;> try contradiction
  simp only[Option.some.injEq] at h;subst h;simp[Instr.field,run_underlying hu,q,asAgg,part,pe u,run_sizeOf hi]
def DT {t:TypeId} {x i v:Value} (h:RR (MB P t) x i=some v):(Instr.indexAt t x i).run P w=.ok v w:=by
 unfold MB at h;split at h
 ·rename_i e hu;split at h <;> simp only[RR] at h <;> try contradiction
  rename_i ii hi;unfold nh at h;split at h <;> try contradiction
  split at h <;> try contradiction
  rename_i q;simp only[Option.some.injEq] at h;subst h;simp[Instr.indexAt,asIntOf,run_underlying hu,q,run_sizeOf hi]
 ·rename_i n e hu;split at h <;> simp only[RR] at h <;> try contradiction
  rename_i ii hi;unfold Dl at h;split at h <;> try contradiction
  split at h <;> try contradiction
  rename_i q;simp only[Option.some.injEq] at h;subst h;simp[Instr.indexAt,asIntOf,run_underlying hu,q,run_sizeOf hi,Instr.sureAddr]
 ·simp[RR] at h
def Ek {t:TypeId} {x v:Value} (h:RH (MB P t) x=some v):(Instr.arrayAt t x).run P w=.ok v w:=by
 unfold MB at h;split at h
 ·split at h <;> simp[RH] at h
 ·rename_i n e hu;split at h <;> simp only[RH] at h <;> try contradiction
  unfold OK at h;split at h <;> try contradiction
  split at h <;> try contradiction
  rename_i q;have q:=Nat.le_of_ble_eq_true q;simp only[Option.some.injEq] at h;subst h;simp[Instr.arrayAt,run_underlying hu,Nat.not_lt.2 q]
 ·simp[RH] at h
def JS {t:TypeId} {x i v:Value} (h:So (TT P t) x i=some v):(Instr.index t x i).run P w=.ok v w:=by
 unfold TT at h;split at h
 ·rename_i n e hu;split at h <;> simp only[So] at h <;> try contradiction
  ·rename_i ii A hi;unfold Pu at h;split at h <;> try contradiction
   split at h <;> try contradiction
   rename_i q;simp[Instr.index,asIntOf,run_underlying hu,q,run_sizeOf hi,part,nU A,h]
  ·rename_i s ii A hi;unfold O2 at h;split at h <;> try contradiction
   split at h <;> try contradiction
   rename_i q;simp only[Option.some.injEq] at h;subst h;obtain⟨⟨i2,u,B⟩,_⟩:=yU A;have:ii=i2:=by rw[hi] at u; simpa using u
   subst this;simp[Instr.index,asIntOf,run_underlying hu,q,run_sizeOf hi,part,pe A,B]
 ·rename_i hu;simp only[So] at h;unfold SE at h;split at h <;> try contradiction
  rename_i s _ n;rw[Option.map_eq_some_iff] at h;obtain⟨b,q,rfl⟩:=h;simp[Instr.index,asIntOf,run_underlying hu,q]
 ·simp[So] at h
def Ny {it v:Value} (h:oV it w.heap=some v):(Instr.entry it).run P w=.ok v w:=by
 unfold oV at h;split at h <;> try contradiction
 rename_i r _;split at h <;> try contradiction
 rename_i m E seen q F;split at h <;> try contradiction
 rename_i A es clock G hm;split at h <;> try contradiction
 rename_i e B he;simp only[Option.some.injEq] at h;subst h;have u:=Nat.eq_of_beq_eq_true B;subst u;have H:(getObj r).run P w=.ok (.mapIter (some m) E seen clock) w:=by simp only[getObj,Sem.run,F]
 have J:(getObj m).run P w=.ok (.map es clock) w:=by simp only[getObj,Sem.run,hm]
 unfold Instr.entry;simp only[Sem.run_bind,H,Result.andThen_ok,G,J,bne_self_eq_false,Bool.false_eq_true,if_false,he,Sem.run_pure]
def ni {x:Value} {y:Nat} {c:BoundsCode} {m:Nat} (h:O3 x y=some m):(Instr.sliceBound x y c).run P w=.ok m w:=by
 unfold O3 at h;split at h <;> try contradiction
 split at h <;> try contradiction
 rename_i q;simp only[Option.some.injEq] at h;subst h;simp[Instr.sliceBound,asIntOf,q]
def EX {A:Bool} {len cap:Nat} {lo hi mx:Option Value} {b:Nat × Nat × Nat} (hm:hi=none->mx=none) (h:Jd len cap lo hi mx=some b) :
  (Instr.sliceBounds A len cap lo hi mx).run P w=.ok b w:=by
 unfold Jd at h;simp only[Option.bind_eq_some_iff,Option.some.injEq] at h;obtain⟨m,h1,B,h2,l,q,rfl⟩:=h;unfold Instr.sliceBounds;cases mx with
 | none=>
  simp only[LR,Option.some.injEq] at h1;subst h1;cases hi with
  | none=>
   simp only[FC,Option.some.injEq] at h2;subst h2;cases lo with
   | none=>simp only[AY,Option.some.injEq] at q; subst q; rfl
   | some u=>simp only[AY] at q; simp only[Sem.run_bind,Sem.run_pure,Result.andThen_ok,ni q]
  | some v=>
   simp only[FC] at h2;cases lo with
   | none=>simp only[AY,Option.some.injEq] at q; subst q; simp only[Sem.run_bind,Sem.run_pure,Result.andThen_ok,ni h2]
   | some u=>simp only[AY] at q; simp only[Sem.run_bind,Sem.run_pure,Result.andThen_ok,ni q,ni h2]
 | some x=>
  simp only[LR] at h1;cases hi with
  | none=>exact absurd (hm rfl) (by simp)
  | some v=>
   simp only[FC] at h2;cases lo with
   | none=>simp only[AY,Option.some.injEq] at q; subst q; simp only[Sem.run_bind,Sem.run_pure,Result.andThen_ok,ni h2,ni h1]
   | some u=>simp only[AY] at q; simp only[Sem.run_bind,Sem.run_pure,Result.andThen_ok,ni q,ni h2,ni h1]
def D3 {t:TypeId} {x v:Value} {lo hi mx:Option Value} (hm:hi=none->mx=none) (h:Rr (MB P t) x lo hi mx=some v) :
  (Instr.sliceAt t x lo hi mx).run P w=.ok v w:=by
 unfold MB at h;split at h
 ·rename_i e hu;split at h <;> simp only[Rr] at h <;> try contradiction
  rename_i ii q;unfold sB at h;split at h <;> try contradiction
  simp only[Option.bind_eq_some_iff,Option.some.injEq] at h;obtain⟨b,u,rfl⟩:=h;simp[Instr.sliceAt,Instr.slice,run_underlying hu,EX hm u,run_sizeOf q,JR]
 ·rename_i n e hu;split at h <;> simp only[Rr] at h <;> try contradiction
  rename_i ii q;unfold PG at h;split at h <;> try contradiction
  simp only[Option.bind_eq_some_iff,Option.some.injEq] at h;obtain⟨b,u,rfl⟩:=h;simp only[Instr.sliceAt,Sem.run_bind,run_underlying hu,Result.andThen_ok,Instr.sureAddr,Sem.run_pure,EX hm u,run_sizeOf q,JR];congr 2;split <;> rfl
 ·simp[Rr] at h
def Ol {x v:Value} {i:Nat} (h:ext i x=some v):(Instr.extract x i).run P w=.ok v w:=by
 unfold ext at h;split at h <;> try contradiction
 simp[Instr.extract,h]
def run_places:∀(q:List Field) (ps:List (Nat × Nat)),placesOf P q=some ps->
  (q.mapM λf=>do pure (f.offset,<-sizeOf f.type):Sem (List (Nat × Nat))).run P w=.ok ps w
 | [],ps,h=>by simp only[placesOf,Option.some.injEq] at h; subst h; rfl
 | f::r,ps,h=>by
  simp only[placesOf,Option.bind_eq_some_iff,Option.some.injEq] at h;obtain⟨i,hi,l,u,rfl⟩:=h;have:=run_places r l u;simp only[List.mapM_cons,Sem.run_bind,run_sizeOf hi,Result.andThen_ok,Sem.run_pure,this]
def run_build {t:TypeId} {parts:Array (Nat × Value)} {v:Value} (h:M9 (Um P t) parts.toList=some v):(Instr.build t parts).run P w=.ok v w:=by
 unfold Um at h;split at h <;> try (simp only[M9] at h; contradiction)
 rename_i i hi;split at h <;> try (simp only[M9] at h; contradiction)
 rename_i z E;split at h <;> try (simp only[M9] at h; contradiction)
 ·rename_i F hu;split at h <;> try (simp only[M9] at h; contradiction)
  rename_i ps q;simp only[M9] at h;unfold fV at h;simp only[Option.bind_eq_some_iff,Option.some.injEq] at h;obtain⟨cells,u,rfl⟩:=h;have G:=run_places (P:=P) (w:=w) F.toList ps q;have A:(F.mapM λf=>do pure (f.offset,<-sizeOf f.type):Sem (Array (Nat × Nat))).run P w=.ok ps.toArray w:=by
   rw[Array.mapM_eq_mapM_toList,Sem.run_map,G]; rfl
  have B:Instr.fill (λi=>ps.toArray[i]?) z.cells parts.toList=some cells:=by simpa using u
  simp only[Instr.build,Sem.run_bind,iY hi E,Result.andThen_ok,run_underlying hu,A,B,Sem.run_pure]
 ·rename_i n e hu;split at h <;> try (simp only[M9] at h; contradiction)
  rename_i j H;simp only[M9] at h;unfold FG at h;simp only[Option.bind_eq_some_iff,Option.some.injEq] at h;obtain⟨cells,u,rfl⟩:=h;simp only[Instr.build,Sem.run_bind,iY hi E,Result.andThen_ok,run_underlying hu,run_sizeOf H,u,Sem.run_pure]
def zE {t e:TypeId} {z:Array Value} {s b:Nat} (h:JZ P t=.ok e z s b):P.underlying t=some (.slice e)/\∃i v,P.info? e=some i/\i.zero=some v/\v.cells=z/\i.size=s/\i.bytes=b/\z.size=s/\0<s:=by
 unfold JZ at h;split at h <;> try contradiction
 rename_i u hu;split at h <;> try contradiction
 rename_i i hi;split at h <;> try contradiction
 rename_i v q;split at h <;> try contradiction
 rename_i h1 h2;simp only[XK.ok.injEq] at h;obtain⟨rfl,rfl,rfl,rfl⟩:=h;exact⟨hu,i,v,hi,q,rfl,rfl,rfl,Nat.eq_of_beq_eq_true h1,by simpa[Nat.blt_eq] using h2⟩
def Ar {t e:TypeId} {z:Array Value} {s b len:Nat} {parts:Array (Nat × Value)} {v:Value} {h':Hp} (F:JZ P t=.ok e z s b) (K:len*s<=16777216)
  (h:zO z s len e parts.toList w.heap=some (v,h')):∃w',(Instr.buildSlice t len parts).run P w=.ok v w'/\w'.heap=h'/\l4 w w':=by
 obtain⟨hu,i,B,hi,G,rfl,rfl,rfl,H,E⟩:=zE F;unfold zO at h;simp only[Option.bind_eq_some_iff,Option.some.injEq,Prod.mk.injEq] at h;obtain⟨cells,u,rfl,rfl⟩:=h;have q:¬(len*i.size > 16777216):=by omega
 by_cases A:len*i.size=0
 ·refine⟨{w with heap:=w.heap.push (.cells cells e)},?_,rfl,⟨rfl,rfl,rfl⟩⟩;have J:(Array.range (len*i.size)).map (λx=>B.cells[x % B.cells.size]!)=(Array.range (len*i.size)).map (λx=>(#[]:Array Value)[x % 0]!):=by
   rw[A]; simp
  rw[J] at u;simp only[Instr.buildSlice,Sem.run_bind,run_underlying hu,Result.andThen_ok,run_sizeOf hi,q,A,if_true,if_false,Sem.run_pure,newRow,run_newObj,Nat.reducePow,Nat.not_lt_zero,gt_iff_lt];rw[A] at u;simp only[List.size_toArray,List.length_nil];rw[u];rfl
 ·refine⟨{w with heap:=w.heap.push (.cells cells e)},?_,rfl,⟨rfl,rfl,rfl⟩⟩;simp only[Instr.buildSlice,Sem.run_bind,run_underlying hu,Result.andThen_ok,run_sizeOf hi,q,A,if_false,Sem.run_pure,newRow,run_newObj,Nat.reducePow,iY hi G,u]
def CQ {e:TypeId} {i:TypeInfo} {z v:Value} {h':Hp} (hi:P.info? e=some i) (q:i.zero=some z) (h:nw z.cells e w.heap=some (v,h')) :
  ∃w',(Instr.alloc e true (.tuple #[])).run P w=.ok v w'/\w'.heap=h'/\l4 w w':=by
 simp only[nw,Option.some.injEq,Prod.mk.injEq] at h;obtain⟨rfl,rfl⟩:=h;refine⟨{w with heap:=w.heap.push (.cells z.cells e)},?_,rfl,⟨rfl,rfl,rfl⟩⟩;simp[Instr.alloc,iY hi q,newVar,newRow]
def Gl {e:TypeId} {x v:Value} {h':Hp} (h:nw x.cells e w.heap=some (v,h')) :
  ∃w',(Instr.box e x).run P w=.ok v w'/\w'.heap=h'/\l4 w w':=by
 simp only[nw,Option.some.injEq,Prod.mk.injEq] at h;obtain⟨rfl,rfl⟩:=h;refine⟨{w with heap:=w.heap.push (.cells x.cells e)},?_,rfl,⟨rfl,rfl,rfl⟩⟩;simp[Instr.box,newVar,newRow]
end
section
variable {P:Program} {w:World}
def CP {t:TypeId} {kd:TypeDesc} {z:Value} (h:JY P t=.ok kd z):∃k e q i,P.underlying t=some (.map k e)/\P.underlying k=some (.int q)/\kd=.int q/\P.info? e=some i/\i.zero=some z:=by
 unfold JY at h;split at h <;> try contradiction
 rename_i k e hu;split at h <;> try contradiction
 rename_i q i u hi;split at h <;> try contradiction
 rename_i B A;simp only[MK.ok.injEq] at h;obtain⟨rfl,rfl⟩:=h;exact⟨k,e,q,i,hu,u,rfl,hi,A⟩
def run_checkKey (e:Bool) (n:Nat) {k:TypeId} {h:IntKind} (q:P.underlying k=some (.int h)) (v:Value):(Instr.checkKey e (n+1) k v).run P w=.ok () w:=by
 unfold Instr.checkKey;simp only[Sem.run_bind,run_underlying q,Result.andThen_ok];cases v <;> rfl
def run_findKey {k:TypeId} {kd:TypeDesc} (q:P.underlying k=some kd) {key:Value} {es:List MapEntry} {r:Option (Nat × Value)} (h:Instr.findNow kd key es 0=some r) :
  (Instr.findKey k key es).run P w=.ok r w:=by
 unfold Instr.findKey;simp only[Sem.run_bind,run_underlying q,Result.andThen_ok,h,Sem.run_pure]
def wT {m:Value} {h:Hp} (e:rm m h=some none):m=.map none:=by
 unfold rm at e;split at e
 ·rfl
 ·split at e <;> simp at e
 ·simp at e
def nk {m:Value} {h:Hp} {r:Nat} {es:Array MapEntry} {c:Nat} (e:rm m h=some (some (r,es,c))):m=.map (some r)/\h[r]?=some (.map es c):=by
 unfold rm at e;split at e
 ·simp at e
 ·rename_i A;split at e
  ·rename_i q c' u;simp only[Option.some.injEq,Prod.mk.injEq] at e;obtain⟨rfl,rfl,rfl⟩:=e;exact⟨rfl,u⟩
  ·simp at e
 ·simp at e
def gV {r:Nat} {es:Array MapEntry} {c:Nat} (h:w.heap[r]?=some (.map es c)):(getObj r).run P w=.ok (.map es c) w:=by
 simp only[getObj,Sem.run,h]
def ky {r:Nat} {es:Array MapEntry} {c:Nat} (o:Obj) (h:w.heap[r]?=some (.map es c)):(setObj r o).run P w=.ok () {w with heap:=w.heap.setIfInBounds r o}:=by
 simp only[setObj,Sem.run,h]
def Gp {t:TypeId} {ok:Bool} {m key v:Value} (h:Tc (JY P t) ok m key w.heap=some v):(Instr.lookup t m key ok).run P w=.ok v w:=by
 cases B:JY P t with
 | bad=>rw[B] at h; simp[Tc] at h
 | ok kd z=>
  rw[B] at h;simp only[Tc] at h;obtain⟨k,e,J,i,hu,q,rfl,hi,E⟩:=CP B;unfold JM at h;simp only[Option.bind_eq_some_iff,Option.some.injEq] at h;obtain⟨r,F,f,A,hv⟩:=h;have G:=λ(b:Bool)=>run_checkKey (P:=P) (w:=w) b 9999 q key;cases r with
  | none=>
   have:=wT F;subst this;simp only[Option.map_none,Option.getD_none,Instr.findNow,Option.some.injEq] at A;subst A;unfold Instr.lookup;have u:=run_findKey (P:=P) (w:=w) q (key:=key) (es:=[]) (r:=none) rfl;simp only[Sem.run_bind,run_underlying hu,Result.andThen_ok,Sem.run_pure,G,u,iY hi E];subst hv;cases ok <;> rfl
  | some x=>
   obtain⟨r,es,c⟩:=x;obtain⟨rfl,H⟩:=nk F;simp only[Option.map_some,Option.getD_some] at A;have u:=run_findKey (P:=P) (w:=w) q A;unfold Instr.lookup;simp only[Sem.run_bind,run_underlying hu,Result.andThen_ok,Sem.run_pure,gV H,G,u];subst hv;cases f with
   | none=>simp only[Sem.run_bind,iY hi E,Result.andThen_ok,Sem.run_pure]; cases ok <;> rfl
   | some y=>simp only[Sem.run_pure,Result.andThen_ok]; cases ok <;> rfl
def xu {A:IntKind} {key:Value}:∀(es:List MapEntry) (i j:Nat) (v:Value),Instr.findNow (.int A) key es i=some (some (j,v))->
  i<=j/\∃e,es[j - i]?=some e/\e.val=v/\(∃k a,key=.int k a/\e.key=.int k a)
 | [],i,j,v,h=>by simp[Instr.findNow] at h
 | e::es,i,j,v,h=>by
  unfold Instr.findNow at h;split at h
  ·rename_i hs;simp only[Option.some.injEq,Prod.mk.injEq] at h;obtain⟨rfl,rfl⟩:=h;refine⟨Nat.le_refl _,e,by simp,rfl,?_⟩;unfold Instr.sameNow at hs;split at hs <;> try contradiction
   ·rename_i q;split at hs <;> try contradiction
    rename_i u;simp only[Option.some.injEq,beq_iff_eq] at hs;exact⟨_,_,rfl,by rw[q,u,hs]⟩
  ·obtain⟨h1,B,h2,E,F⟩:=xu es (i+1) j v h;refine⟨by omega,B,?_,E,F⟩;have:j - i=(j - (i+1))+1:=by omega
   rw[this,List.getElem?_cons_succ];exact h2
  ·contradiction
def Db (n:Nat) (k:IntKind) (a:Int):Instr.sameBits n (.int k a) (.int k a)=true:=by
 cases n <;> simp[Instr.sameBits]
def uZ {u:IntKind} {key:Value} {es:Array MapEntry} {j:Nat} {v:Value} (h:Instr.findNow (.int u) key es.toList 0=some (some (j,v))) :
  (Instr.keyThatStays (((es[j]?).map (·.key)).getD key) key).run P w=.ok key w:=by
 obtain⟨_,e,h2,_,k,a,rfl,A⟩:=xu _ _ _ _ h;have q:es[j]?=some e:=by simpa using h2
 unfold Instr.keyThatStays;rw[q];simp only[Option.map_some,Option.getD_some,A];rw[if_pos (Db _ _ _)];rfl
def te {t:TypeId} {kd:TypeDesc} {z m key v:Value} {h':Hp} (E:JY P t=.ok kd z) (h:wB kd m key v w.heap=some h') :
  ∃w',(Instr.mapUpdate t m key v).run P w=.ok () w'/\w'.heap=h'/\l4 w w':=by
 obtain⟨k,e,G,i,hu,q,rfl,hi,H⟩:=CP E;have F:=λ(b:Bool)=>run_checkKey (P:=P) (w:=w) b 9999 q key;unfold wB at h;split at h <;> try contradiction
 rename_i r es c hm;obtain⟨rfl,B⟩:=nk hm;unfold Instr.mapUpdate;simp only[Sem.run_bind,run_underlying hu,Result.andThen_ok,gV B,F];split at h <;> try contradiction
 ·rename_i j u A;simp only[Option.some.injEq] at h;subst h;refine⟨{w with heap:=w.heap.setIfInBounds r _},?_,rfl,⟨rfl,rfl,rfl⟩⟩;simp only[run_findKey q A,Result.andThen_ok,Sem.run_bind,uZ A,ky _ B]
 ·rename_i A;simp only[Option.some.injEq] at h;subst h;refine⟨{w with heap:=w.heap.setIfInBounds r _},?_,rfl,⟨rfl,rfl,rfl⟩⟩;simp only[run_findKey q A,Result.andThen_ok,ky _ B]
def Cs {t:TypeId} {kd:TypeDesc} {z m key v:Value} {h':Hp} (E:JY P t=.ok kd z) (h:T5 kd z m key w.heap=some (v,h')) :
  ∃w',(Instr.mapEntry t m key).run P w=.ok v w'/\w'.heap=h'/\l4 w w':=by
 obtain⟨k,e,H,i,hu,q,rfl,hi,F⟩:=CP E;have G:=λ(b:Bool)=>run_checkKey (P:=P) (w:=w) b 9999 q key;unfold T5 at h;split at h <;> try contradiction
 rename_i r es c hm;obtain⟨rfl,B⟩:=nk hm;unfold Instr.mapEntry;simp only[Sem.run_bind,run_underlying hu,Result.andThen_ok,gV B,G];split at h <;> try contradiction
 ·rename_i j u A;simp only[Option.some.injEq,Prod.mk.injEq] at h;obtain⟨rfl,rfl⟩:=h;refine⟨{w with heap:=w.heap.setIfInBounds r _},?_,rfl,⟨rfl,rfl,rfl⟩⟩;simp only[run_findKey q A,Result.andThen_ok,Sem.run_bind,uZ A,ky _ B,Sem.run_pure]
 ·rename_i A;simp only[Option.some.injEq,Prod.mk.injEq] at h;obtain⟨rfl,rfl⟩:=h;refine⟨{w with heap:=w.heap.setIfInBounds r _},?_,rfl,⟨rfl,rfl,rfl⟩⟩;simp only[run_findKey q A,Result.andThen_ok,Sem.run_bind,iY hi F,ky _ B,Sem.run_pure]
def zD {t:TypeId} {m s v:Value} {h':Hp} (h:Tu m s v w.heap=some h') :
  ∃w',(Instr.entryStore t m s v).run P w=.ok () w'/\w'.heap=h'/\l4 w w':=by
 unfold Tu at h;split at h <;> try contradiction
 rename_i r es c k born hm;obtain⟨rfl,q⟩:=nk hm;split at h <;> try contradiction
 rename_i i u;simp only[Option.some.injEq] at h;subst h;refine⟨{w with heap:=w.heap.setIfInBounds r _},?_,rfl,⟨rfl,rfl,rfl⟩⟩;simp only[Instr.entryStore,Sem.run_bind,gV q,Result.andThen_ok,asInt,asIntOf,Sem.run_pure,u,ky _ q]
def G2 {t ty:TypeId} {ts:Array TypeId} {kd:TypeDesc} {z m key v:Value} {h':Hp} (F:ts[0]?=some t) (G:JY P t=.ok kd z) (h:GZ kd m key w.heap=some (v,h')) :
  ∃w',(Builtin.delete_ ts ty #[m,key]).run P w=.ok v w'/\w'.heap=h'/\l4 w w':=by
 obtain⟨k,e,K,i,hu,q,rfl,hi,L⟩:=CP G;have B:=λ(b:Bool)=>run_checkKey (P:=P) (w:=w) b 9999 q key;unfold GZ at h;unfold Builtin.delete_;have H:(#[m,key]:Array Value)[0]?=some m:=rfl;have J:(#[m,key]:Array Value)[1]?=some key:=rfl;rw[F,H,J];split at h <;> try contradiction
 ·rename_i hm;have:=wT hm;subst this;simp only[Option.some.injEq,Prod.mk.injEq] at h;obtain⟨rfl,rfl⟩:=h;exact⟨w,by simp only[Sem.run_bind,run_underlying hu,Result.andThen_ok,B,Sem.run_pure],rfl,.refl w⟩
 ·rename_i r es c hm;obtain⟨rfl,A⟩:=nk hm;split at h <;> try contradiction
  ·rename_i j u E;simp only[Option.some.injEq,Prod.mk.injEq] at h;obtain⟨rfl,rfl⟩:=h;refine⟨{w with heap:=w.heap.setIfInBounds r _},?_,rfl,⟨rfl,rfl,rfl⟩⟩;simp only[Sem.run_bind,run_underlying hu,Result.andThen_ok,B,gV A,run_findKey q E,ky _ A,Sem.run_pure]
  ·rename_i E;simp only[Option.some.injEq,Prod.mk.injEq] at h;obtain⟨rfl,rfl⟩:=h;refine⟨{w with heap:=w.heap.setIfInBounds r _},?_,rfl,⟨rfl,rfl,rfl⟩⟩;simp only[Sem.run_bind,run_underlying hu,Result.andThen_ok,B,gV A,run_findKey q E,ky _ A,Sem.run_pure]
def run_makeMap {t:TypeId} {v:Value} {h':Hp} (h:Gb w.heap=some (v,h')):∃w',(Instr.makeMap t none).run P w=.ok v w'/\w'.heap=h'/\l4 w w':=by
 simp only[Gb,Option.some.injEq,Prod.mk.injEq] at h;obtain⟨rfl,rfl⟩:=h;exact⟨{w with heap:=w.heap.push (.map #[] 0)},rfl,rfl,⟨rfl,rfl,rfl⟩⟩
def JQ {t k e:TypeId} {m v:Value} {h':Hp} (hu:P.underlying t=some (.map k e)) (h:MJ m w.heap=some (v,h')):∃w',(Instr.range t m).run P w=.ok v w'/\w'.heap=h'/\l4 w w':=by
 unfold MJ at h;split at h <;> try contradiction
 ·rename_i hm;have:=wT hm;subst this;simp only[Option.some.injEq,Prod.mk.injEq] at h;obtain⟨rfl,rfl⟩:=h;exact⟨{w with heap:=w.heap.push (.mapIter none 0 #[] 0)},by simp only[Instr.range,Sem.run_bind,run_underlying hu,Result.andThen_ok,Sem.run_pure,run_newObj],rfl,⟨rfl,rfl,rfl⟩⟩
 ·rename_i r es c hm;obtain⟨rfl,q⟩:=nk hm;simp only[Option.some.injEq,Prod.mk.injEq] at h;obtain⟨rfl,rfl⟩:=h;exact⟨{w with heap:=w.heap.push (.mapIter (some r) c #[] c)},by simp only[Instr.range,Sem.run_bind,run_underlying hu,Result.andThen_ok,Sem.run_pure,run_newObj,gV q],rfl,⟨rfl,rfl,rfl⟩⟩
def Nx (it:Value) (h:Hp) (k:Value->Hp->Prop):Prop:=
  ∃r,it=.pointer (some ⟨r,0,none⟩)/\
    ((∃s q l,h[r]?=some (.mapIter none s q l)/\k (.tuple #[.bool false]) h)\/
     (∃m since seen last es clock,h[r]?=some (.mapIter (some m) since seen last)/\h[m]?=some (.map es clock)/\
       (!seen.isEmpty&&!es.isEmpty&&es.all (·.born>=last))=false/\
       ((∀e∈es,e.born<since->seen.contains e.born=true)->k (.tuple #[.bool false]) h)/\
       (∀e∈es,seen.contains e.born=false->k (.tuple #[.bool true,e.key,e.val]) (h.setIfInBounds r (.mapIter (some m) since (seen.push e.born) clock)))))
def Gd (n t:Nat) (h:0<n):(if Question.forced (.mapNext n) then 0 else Question.cut (.mapNext n) t)<n:=by
 split
 ·exact h
 ·simp only[Question.cut]; exact Nat.mod_lt _ h
def Lo {it:Value} {ty:TypeId} {k:Value->Hp->Prop} (h:Nx it w.heap k):∃v w',(Instr.next it false ty).run P w=.ok v w'/\l4 w w'/\k v w'.heap:=by
 obtain⟨r,rfl,h⟩:=h;rcases h with ⟨s,q,l,M,hk⟩| ⟨m,since,seen,last,es,clock,M,hm,N,F,G⟩
 ·have N:(getObj r).run P w=.ok (.mapIter none s q l) w:=by simp only[getObj,Sem.run,M]
  exact⟨_,w,by simp only[Instr.next,Sem.run_bind,N,Result.andThen_ok,Sem.run_pure],.refl w,hk⟩
 ·have O:(getObj r).run P w=.ok (.mapIter (some m) since seen last) w:=by simp only[getObj,Sem.run,M]
  have K:∀(w':World) (o:Obj),w'.heap=w.heap->(setObj r o).run P w'=.ok () {w' with heap:=w'.heap.setIfInBounds r o}:=by
   intro w' o e;simp only[setObj,Sem.run,e,M]
  unfold Instr.next;simp only[Sem.run_bind,O,Result.andThen_ok,gV hm,N,Bool.false_eq_true,if_false,Sem.run_pure];generalize Q:((if (((es.filter λe=>!seen.contains e.born).filter (·.born<since))).isEmpty then #[none] else #[])++
   (((es.filter λe=>!seen.contains e.born).filter (·.born<since))++((es.filter λe=>!seen.contains e.born).filter (·.born>=since))).map some:Array (Option MapEntry))=C
  have L:0<C.size:=by
   rw[<-Q];simp only[Array.size_append,Array.size_map];by_cases hE:((es.filter λe=>!seen.contains e.born).filter (·.born<since)).isEmpty=true
   ·rw[if_pos hE]; simp;omega
   ·rw[if_neg hE];have:0<((es.filter λe=>!seen.contains e.born).filter (·.born<since)).size:=by
     rcases Nat.eq_zero_or_pos ((es.filter λe=>!seen.contains e.born).filter (·.born<since)).size with R | R
     ·exact absurd (by rw[Array.isEmpty,R]; rfl) hE
     ·exact R
    omega
  have E:∀j (T:j<C.size) (w':World),w'.heap=w.heap->l4 w w'->∃v H,(match C[j]? with
    | some (some e)=>do
     setObj r (.mapIter (some m) since (seen.push e.born) clock)
     pure (.tuple #[.bool true,e.key,e.val])
    | some none=>pure (.tuple #[.bool false])
    | none=>stuck "Next: no such candidate":Sem Value).run P w'=.ok v H/\l4 w H/\k v H.heap:=by
   intro j T w' J hs;have u:C[j]∈C:=Array.getElem_mem T;rw[Array.getElem?_eq_getElem T];cases Z:C[j] with
   | none=>
    rw[Z,<-Q] at u;have hE:((es.filter λe=>!seen.contains e.born).filter (·.born<since)).isEmpty=true:=by
     rcases Array.mem_append.1 u with h1 | h1
     ·split at h1
      ·assumption
      ·simp at h1
     ·simp at h1
    refine⟨_,w',rfl,hs,?_⟩;rw[J];refine F λe he hb=>?_;cases U:seen.contains e.born with
    | true=>rfl
    | false=>
     have A:e∈((es.filter λe=>!seen.contains e.born).filter (·.born<since)):=by
      simp only[Array.mem_filter,decide_eq_true_eq];exact⟨⟨he,by simp only[U,Bool.not_false]⟩,hb⟩
     have hz:((es.filter λe=>!seen.contains e.born).filter (·.born<since))=#[]:=by simpa using hE
     rw[hz] at A;simp at A
   | some e=>
    rw[Z,<-Q] at u;have A:e∈es/\seen.contains e.born=false:=by
     rcases Array.mem_append.1 u with h1 | h1
     ·split at h1 <;> simp at h1
     ·simp only[Array.mem_map,Option.some.injEq] at h1;obtain⟨e',V,rfl⟩:=h1;rcases Array.mem_append.1 V with h2 | h2
      ·simp only[Array.mem_filter] at h2;exact⟨h2.1.1,by simpa using h2.1.2⟩
      ·simp only[Array.mem_filter] at h2;exact⟨h2.1.1,by simpa using h2.1.2⟩
    refine⟨.tuple #[.bool true,e.key,e.val],{w' with heap:=w'.heap.setIfInBounds r (.mapIter (some m) since (seen.push e.born) clock)},?_,⟨hs.os,hs.tape,hs.output⟩,?_⟩
    ·simp only[Sem.run_bind,K w' _ J,Result.andThen_ok,Sem.run_pure]
    ·have:=G e A.1 A.2;rw[<-J] at this;exact this
  simp only[run_choose];have B:=Gd C.size (w.tape w.drawn (.mapNext C.size)) L;split
  ·rename_i X;rw[if_pos X] at B;exact E 0 B w rfl (.refl w)
  ·rename_i X;rw[if_neg X] at B;exact E _ B {w with drawn:=w.drawn+1} rfl ⟨rfl,rfl,rfl⟩
def Ou {t ty:TypeId} {ts:Array TypeId} {x v:Value} (q:ts[0]?=some t) (h:Tl (S3 P t) x w.heap=some v):(Builtin.len_ ts ty #[x]).run P w=.ok v w:=by
 unfold Builtin.len_;have u:(#[x]:Array Value)[0]?=some x:=rfl;rw[q,u];unfold S3 at h;split at h <;> simp only[Tl] at h <;> try contradiction
 ·rename_i e hu;unfold B5 at h;split at h <;> try contradiction
  simp only[Option.some.injEq] at h;subst h;simp only[Sem.run_bind,run_underlying hu,Result.andThen_ok,Sem.run_pure,goInt]
 ·rename_i e B hu;unfold Mr at h;split at h <;> try contradiction
  ·simp only[Option.some.injEq] at h;subst h;simp only[Sem.run_bind,run_underlying hu,Result.andThen_ok,Sem.run_pure,goInt]
  ·split at h <;> try contradiction
   rename_i r es c A;simp only[Option.some.injEq] at h;subst h;simp only[Sem.run_bind,run_underlying hu,Result.andThen_ok,Sem.run_pure,goInt,gV A]
def Lx {x y v:Value} (h:mn x y=some v):(Builtin.min2 x y).run P w=.ok v w:=by
 unfold mn at h;split at h <;> try contradiction
 simp only[Option.some.injEq] at h;subst h;rfl
def KQ {x y v:Value} (h:mx x y=some v):(Builtin.max2 x y).run P w=.ok v w:=by
 unfold mx at h;split at h <;> try contradiction
 simp only[Option.some.injEq] at h;subst h;rfl
def run_makeSlice {t e:TypeId} {z:Array Value} {s b:Nat} {l c v:Value} {h':Hp} (F:JZ P t=.ok e z s b) (h:Lw z s b e l c w.heap=some (v,h')) :
  ∃w',(Instr.makeSlice t l c).run P w=.ok v w'/\w'.heap=h'/\l4 w w':=by
 obtain⟨hu,i,A,hi,G,rfl,rfl,rfl,H,B⟩:=zE F;unfold Lw at h;split at h <;> try contradiction
 rename_i l c;split at h <;> try contradiction
 rename_i J;obtain⟨h1,h2,O,K⟩:=J;simp only[Option.some.injEq,Prod.mk.injEq] at h;obtain⟨rfl,rfl⟩:=h;have wl:IntKind.i64.wrap l=l:=by simp only[IntKind.wrap,IntKind.signed,IntKind.bits]; simp; omega
 have L:IntKind.i64.wrap c=c:=by simp only[IntKind.wrap,IntKind.signed,IntKind.bits]; simp; omega
 refine⟨{w with heap:=w.heap.push (.cells ((Array.range (c.toNat*i.size)).map (A.cells[· % A.cells.size]!)) e)},?_,rfl,⟨rfl,rfl,rfl⟩⟩;have M:¬((i.bytes:Int)*c > 2 ^ 48):=by rw[Int.mul_comm]; simpa using K
 have q:((decide (c<0)||decide ((i.bytes:Int)*c > 2 ^ 48))||decide (l<0)||decide (l > c))=false:=by
  simp only[Bool.or_eq_false_iff,decide_eq_false_iff_not];exact⟨⟨⟨by omega,M⟩,by omega⟩,by omega⟩
 have u:(typeInfo e).run P w=.ok i w:=by simp[typeInfo,hi]
 unfold Instr.makeSlice;simp only[Sem.run_bind,run_underlying hu,Result.andThen_ok,asInt,asIntOf,Sem.run_pure,u,wl,L,q,Bool.false_eq_true,if_false,run_askRoom,run_sizeOf hi];by_cases E:c.toNat*i.size=0
 ·have N:∀f g:Nat->Value,(Array.range 0).map f=(Array.range 0).map g:=λf g=>by
   apply Array.ext <;> simp
  simp only[E,if_true,Sem.run_pure,Result.andThen_ok,newRow,Sem.run_bind,run_newObj];exact congrArg (λc=>Result.ok _ (w.alloc (.cells c e))) (N _ _)
 ·simp only[E,if_false,Sem.run_bind,iY hi G,Result.andThen_ok,Sem.run_pure,newRow,run_newObj]
def xe {x:Value} {s n:Nat} {l:List Value} (h:rowOf x (n*s) w.heap=some l):(Builtin.firstCells s n x).run P w=.ok l.toArray w:=by
 unfold rowOf at h;split at h <;> try contradiction
 ·exact run_loadCells h
 ·simp only[Option.some.injEq] at h; subst h; rfl
def Lt {A ts ty:TypeId} {e:TypeId} {z:Array Value} {s b:Nat} {d x v:Value} {h':Hp} (H:JZ P A=.ok e z s b) (h:CC s d x w.heap=some (v,h')) :
  ∃w',(Builtin.copy_ #[A,ts] ty #[d,x]).run P w=.ok v w'/\w'.heap=h'/\l4 w w':=by
 obtain⟨hu,i,R,hi,T,rfl,rfl,rfl,J,G⟩:=zE H;unfold CC at h;split at h <;> try contradiction
 rename_i base q dc sb u B;simp only[Option.bind_eq_some_iff] at h;obtain⟨cells,K,h⟩:=h;have L:=xe (P:=P) K;unfold Builtin.copy_;have M:(#[A,ts]:Array TypeId)[0]?=some A:=rfl;have N:(#[Value.slice base q dc,Value.slice sb u B]:Array Value)[0]?=some (.slice base q dc):=rfl;have O:(#[Value.slice base q dc,Value.slice sb u B]:Array Value)[1]?=some (.slice sb u B):=rfl;rw[M,N,O];simp only[Sem.run_bind,run_underlying hu,Result.andThen_ok,Builtin.lenOf,Sem.run_pure,run_sizeOf hi,L];cases base with
 | none=>
  simp only[Option.some.injEq,Prod.mk.injEq] at h;obtain⟨rfl,rfl⟩:=h;exact⟨w,rfl,rfl,.refl w⟩
 | some a=>
  simp only[Option.bind_eq_some_iff,Option.some.injEq,Prod.mk.injEq] at h;obtain⟨h1,hs,rfl,rfl⟩:=h;obtain⟨w',E,Q,F,_⟩:=nz (P:=P) (a:=a) cells 0 w h1 hs;refine⟨w',?_,Q,F⟩;simp only[Sem.run_bind,E,Result.andThen_ok,goInt,Sem.run_pure]
def IM {t ty:TypeId} {e:TypeId} {z:Array Value} {s b:Nat} {x v:Value} {h':Hp} (B:JZ P t=.ok e z s b) (h:Rh z x w.heap=some (v,h')) :
  ∃w',(Builtin.clear_ #[t] ty #[x]).run P w=.ok v w'/\w'.heap=h'/\l4 w w':=by
 obtain⟨hu,i,K,hi,E,rfl,rfl,rfl,F,A⟩:=zE B;unfold Rh at h;unfold Builtin.clear_;have G:(#[t]:Array TypeId)[0]?=some t:=rfl;have H:(#[x]:Array Value)[0]?=some x:=rfl;rw[G,H];split at h
 ·simp only[Option.some.injEq,Prod.mk.injEq] at h;obtain⟨rfl,rfl⟩:=h;refine⟨w,?_,rfl,.refl w⟩;simp[Sem.run_bind,run_underlying hu]
 ·split at h
  ·simp only[Option.some.injEq,Prod.mk.injEq] at h;obtain⟨rfl,rfl⟩:=h;refine⟨w,?_,rfl,.refl w⟩;simp[Sem.run_bind,run_underlying hu]
  ·simp only[Option.bind_eq_some_iff,Option.some.injEq,Prod.mk.injEq] at h;obtain⟨h1,hs,rfl,rfl⟩:=h;obtain⟨w',q,J,u,_⟩:=nz (P:=P) _ 0 w h1 hs;refine⟨w',?_,J,u⟩;simp only[Sem.run_bind,run_underlying hu,Result.andThen_ok,iY hi E,q,Sem.run_pure]
 ·contradiction
def Ap (e:TypeId) (zero:Array Value) (size bytes:Nat) (s x:Value) (h:Hp) (k:Value->Hp->Prop):Prop:=
 ∃base q u B n E news,s=.slice base q u/\x=.slice B n E/\rowOf x (n*size) h=some news/\
  (q+n<=u->match base with
   | some a=>∃h',jU h (a.add (q*size)) 0 news=some h'/\k (.slice base (q+n) u) h'
   | none=>k (.slice base (q+n) u) h)/\
  (u<q+n->(q+n)*bytes<=140737488355328/\q+n<=9223372036854775807/\∃A,rowOf s (q*size) h=some A/\
   ∀cap,q+n<=cap->cap<=9223372036854775807->k (.slice (some ⟨h.size,0,none⟩) (q+n) cap) (h.push (.cells (A.toArray++news.toArray++Builtin.zeroCells zero (cap - (q+n))) e)))
def FE {t ty e:TypeId} {z:Array Value} {sz b:Nat} {s x:Value} {k:Value->Hp->Prop} (hk:JZ P t=.ok e z sz b) (h:Ap e z sz b s x w.heap k) :
  ∃v w',(Builtin.append_ #[t,t] ty #[s,x]).run P w=.ok v w'/\l4 w w'/\k v w'.heap:=by
 obtain⟨hu,i,zv,hi,hz,rfl,rfl,rfl,aT,aS⟩:=zE hk;obtain⟨base,q,u,L,n,M,news,rfl,rfl,hx,B,E⟩:=h;have A:=λ(w':World) (e':w'.heap=w.heap)=>xe (P:=P) (w:=w') (x:=.slice L n M) (s:=i.size) (n:=n) (l:=news) (by rw[e']; exact hx);unfold Builtin.append_;have e0:(#[t,t]:Array TypeId)[0]?=some t:=rfl;have e1:(#[t,t]:Array TypeId)[1]?=some t:=rfl;have e2:(#[Value.slice base q u,Value.slice L n M]:Array Value)[0]?=some (.slice base q u):=rfl;have e3:(#[Value.slice base q u,Value.slice L n M]:Array Value)[1]?=some (.slice L n M):=rfl;rw[e0,e1,e2,e3];simp only[Sem.run_bind,run_underlying hu,Result.andThen_ok,Sem.run_pure,run_sizeOf hi,Builtin.lenOf,Bool.false_eq_true,if_false,Bool.not_false,if_true];by_cases hle:q+n<=u
 ·have N:=B hle;simp only[hle,if_true,Sem.run_bind,A w rfl,Result.andThen_ok];cases base with
  | none=>exact⟨_,w,rfl,.refl w,N⟩
  | some a=>
   simp only at N;obtain⟨h',hs,O⟩:=N;obtain⟨w',Q,hh,R,_⟩:=nz (P:=P) (a:=a.add (q*i.size)) news 0 w h' hs;refine⟨_,w',?_,R,by rw[hh]; exact O⟩;simp only[Sem.run_bind,Q,Result.andThen_ok,Sem.run_pure]
 ·obtain⟨hb,bY,G,ho,H⟩:=E (by omega);have T:(typeInfo e).run P w=.ok i w:=by simp[typeInfo,hi]
  have U:¬(Builtin.nextslicecap (q+n) u*i.bytes > 2 ^ 48):=by
   have:=growslice_fits (need:=q+n) (old:=u) (bytes:=i.bytes) (by omega) hb;simpa using this
  have dO:i.bytes=0\/0<i.bytes:=Nat.eq_zero_or_pos _;have J:¬(((q+n:Nat):Int) > IntKind.i64.max):=by
   have:IntKind.i64.max=9223372036854775807:=rfl;omega
  have F:(typeInfo e).run P {w with drawn:=w.drawn+1}=.ok i {w with drawn:=w.drawn+1}:=by simp[typeInfo,hi]
  have V:(zeroValue e).run P {w with drawn:=w.drawn+1}=.ok zv {w with drawn:=w.drawn+1}:=iY hi hz;have hold:=xe (P:=P) (w:={w with drawn:=w.drawn+1}) (x:=.slice base q u) (s:=i.size) (n:=q) (l:=G) ho;have K:=A {w with drawn:=w.drawn+1} rfl;have hf:Question.forced (.appendCap (q+n) u e)=false:=rfl;simp only[hle,if_false,Sem.run_bind,Sem.run_pure,Result.andThen_ok,T,J,false_and,U,run_choose,hf,Bool.false_eq_true,run_askRoom,F,hold,K,V,newRow,run_newObj];refine⟨_,_,rfl,⟨rfl,rfl,rfl⟩,?_⟩;have X:q+n<=Question.cut (.appendCap (q+n) u e) (w.tape w.drawn (.appendCap (q+n) u e)):=by simp[Question.cut]
  have Z:Question.cut (.appendCap (q+n) u e) (w.tape w.drawn (.appendCap (q+n) u e))<=9223372036854775807:=by
   have eQ:=Nat.mod_lt (w.tape w.drawn (.appendCap (q+n) u e)) (show 0<2 ^ 63 - (q+n) by omega);simp only[Question.cut];omega
  exact H _ X Z
end
def Vb (o:Option Value) (k:Value->Prop):Prop:=∃v,o=some v/\k v
def Eb (o:Option (Value × Hp)) (k:Value->Hp->Prop):Prop:=∃v h',o=some (v,h')/\k v h'
def Sb (o:Option Hp) (k:Hp->Prop):Prop:=∃h',o=some h'/\k h'
def Sp (P:Program) (f:FuncId) (args:List Value) (h:Hp) (R:Value->Hp->Prop):Prop:=
 ∀w,w.heap=h->Calls P f args.toArray w λe w'=>∃v,e=.returned v/\R v w'.heap/\l4 w w'
def Uy (P:Program) (f:FuncId) (args:List Value) (h:Hp) (R:Hp->Prop):Prop:=
 ∀w,w.heap=h->CallsDIn Fence.wide 0 P f args.toArray .returning w λe u w'=>u=.returning/\(∃v,e=.returned v)/\R w'.heap/\l4 w w'
structure Wd (F:Fence):Prop where
 fn:F.fn=λ_=>True
 depth:F.depth=none
 alive:F.alive=false
def Wd.wide:Wd Fence.wide:=⟨rfl,rfl,rfl⟩
def Wd.inRound {F:Fence} (h:Wd F) (l:Nat):Wd (F.inRound l):=⟨h.fn,h.depth,h.alive⟩
def Wd.fenced {F:Fence} (h:Wd F) (P:Program):Machine.fenced P F=Machine.fenced P Fence.wide:=by
 obtain⟨fn,depth,alive,round⟩:=F;obtain⟨h1,h2,q⟩:=h;simp only at h1 h2 q;subst h1; subst h2; subst q;rfl
def Wd.calls {F:Fence} (h:Wd F) {n m:Nat} {P:Program} {f:FuncId} {args:Array Value} {w:World} {R:Ending->World->Prop} (q:CallsIn Fence.wide m P f args w R):CallsIn F n P f args w R:=by
 refine⟨by rw[h.fn]; trivial,λcs _=>?_⟩;rw[h.fenced P];exact q.2 cs (room_wide _)
def Wd.any {F:Fence} (h:Wd F) (f:FuncId):F.fn f:=by rw[h.fn]; trivial
def Uz (P:Program):Op->Option (FuncId)
 | .call {callee:=.value (.func f),..}=>match P.funcs[f]? with
  | some fn=>match fn.name == "runtime.NumGoroutine",fn.body with
   | false,some _=>some f
   | _,_=>none
  | none=>none
 | _=>none
def okF (P:Program) (f:FuncId):Bool:=
 match P.funcs[f]? with
 | some fn=>!(fn.name == "runtime.NumGoroutine")&&fn.body.isSome
 | none=>false
def Dq (P:Program) (n:Nat) (env:Env) (op:Op) (h:Hp):Option Value:=
 match op with
 | .pick c x y=>(ev n env c).bind λc=>(ev n env x).bind λx=>(ev n env y).bind λy=>pk c x y
 | .load t x=>(ev n env x).bind λp=>Qz (FD P t) p h
 | .nilCheck x=>(ev n env x).bind λp=>PO p
 | .binOp op t x y _=>match y,Td P t with
  | .const .nilIface,true=>(ev n env x).bind λa=>inl op a
  | y,_=>(ev n env x).bind λa=>(ev n env y).bind λb=>SG (M3 P t) op a b
 | .unOp op _ x=>(ev n env x).bind λa=>MH op a
 | .convert s d x=>(ev n env x).bind λa=>Th (Uk P s d) a
 | .makeFunc fn first cap=>(Ck n env first.toList).bind λf=>(Ck n env cap.toList).bind λc=>some (.func fn f.toArray c.toArray)
 | .slice t x lo hi mx=>match hi,mx with
  | none,some _=>none
  | _,_=>(ev n env x).bind λa=>(FI n env lo).bind λl=>(FI n env hi).bind λu=>(FI n env mx).bind λm=>Rr (MB P t) a l u m
 | .fieldAddr s x f=>(ev n env x).bind λp=>S6 (Pf P s f) p
 | .field s x f=>(ev n env x).bind λp=>S7 (Pf P s f) p
 | .indexAddr t x i=>(ev n env x).bind λa=>(ev n env i).bind λb=>RR (MB P t) a b
 | .sliceToArrayPointer t x=>(ev n env x).bind λa=>RH (MB P t) a
 | .index t x i=>(ev n env x).bind λa=>(ev n env i).bind λb=>So (TT P t) a b
 | .entry it=>(ev n env it).bind λa=>oV a h
 | .lookup t m k ok=>(ev n env m).bind λa=>(ev n env k).bind λb=>Tc (JY P t) ok a b h
 | .extract x i=>(ev n env x).bind λa=>ext i a
 | .makeInterface t x=>match Rs P t with
  | true=>(ev n env x).bind λa=>some (.iface t a)
  | false=>none
 | .typeAssert x _ t ok=>match Rs P t,P.info? t with
  | true,some i=>i.zero.bind λz=>(ev n env x).bind λa=>Az t z ok a
  | _,_=>none
 | .build t parts=>(Mx n env parts.toList).bind λps=>M9 (Um P t) ps
 | .call {callee:=.builtin .len,args:=⟨[x]⟩,argTypes:=⟨t::_⟩}=>(ev n env x).bind λa=>Tl (S3 P t) a h
 | .call {callee:=.builtin .min,args:=⟨[x,y]⟩,..}=>(ev n env x).bind λa=>(ev n env y).bind λb=>mn a b
 | .call {callee:=.builtin .max,args:=⟨[x,y]⟩,..}=>(ev n env x).bind λa=>(ev n env y).bind λb=>mx a b
 | _=>none
def Tb:Op->Bool
 | .pick .. | .load .. | .nilCheck .. | .binOp .. | .unOp .. | .convert .. | .makeFunc .. | .slice .. | .fieldAddr .. | .field .. | .indexAddr .. | .index .. | .sliceToArrayPointer .. | .entry .. | .lookup .. | .extract .. | .build .. | .makeInterface .. | .typeAssert ..=>true
 | .call {callee:=.builtin .len,..} | .call {callee:=.builtin .min,..} | .call {callee:=.builtin .max,..}=>true
 | _=>false
def eL (n:Nat) (env:Env) (ρ:Operand->Value):Prop:=∀x v,ev n env x=some v->ρ x=v
def eL.Ck {n:Nat} {env:Env} {ρ:Operand->Value} (q:eL n env ρ):∀{xs:List Operand} {vs:List Value},Ck n env xs=some vs->xs.map ρ=vs
 | [],vs,h=>by simp only[En.Ck,Option.some.injEq] at h; subst h; rfl
 | x::r,vs,h=>by
  simp only[En.Ck,Option.bind_eq_some_iff,Option.some.injEq] at h;obtain⟨v,hv,us,hu,rfl⟩:=h;simp[q _ _ hv,eL.Ck q hu]
def eL.Mx {n:Nat} {env:Env} {ρ:Operand->Value} (q:eL n env ρ):∀{xs:List (Nat × Operand)} {vs:List (Nat × Value)},Mx n env xs=some vs->xs.map (λx=>(x.1,ρ x.2))=vs
 | [],vs,h=>by simp only[En.Mx,Option.some.injEq] at h; subst h; rfl
 | (i,x)::r,vs,h=>by
  simp only[En.Mx,Option.bind_eq_some_iff,Option.some.injEq] at h;obtain⟨v,hv,us,hu,rfl⟩:=h;simp[q _ _ hv,eL.Mx q hu]
def eL.FI {n:Nat} {env:Env} {ρ:Operand->Value} (q:eL n env ρ) {x:Option Operand} {v:Option Value} (h:FI n env x=some v):x.map ρ=v:=by
 cases x with
 | none=>simp only[En.FI,Option.some.injEq] at h; subst h; rfl
 | some x=>
  simp only[En.FI,Option.bind_eq_some_iff,Option.some.injEq] at h;obtain⟨u,hu,rfl⟩:=h;simp[q _ _ hu]
def eL.parts {n:Nat} {env:Env} {ρ:Operand->Value} (q:eL n env ρ) {xs:Array (Nat × Operand)} {vs:List (Nat × Value)} (h:En.Mx n env xs.toList=some vs) :
  (xs.map λ(i,x)=>(i,ρ x))=vs.toArray:=by
 rw[<-eL.Mx q h];apply Array.ext';simp
def Cf {P:Program} {w:World} {n:Nat} {env:Env} {ρ:Operand->Value} (A:eL n env ρ) {o:Oper} {v:Value} (h:Dq P n env o.op w.heap=some v) :
  (execOp ρ o).run P w=.ok (.value v) w:=by
 unfold execOp;cases K:o.op <;> rw[K] at h <;> simp only[Dq] at h <;> (try contradiction) <;> dsimp only
 case pick c x y=>
  simp only[Option.bind_eq_some_iff] at h;obtain⟨cv,E,xv,Q,yv,R,h⟩:=h;unfold pk at h;split at h <;> try contradiction
  rename_i b;simp only[Option.some.injEq] at h;rw[A _ _ E,A _ _ Q,A _ _ R];simp[asBool,h]
 case load t x=>
  simp only[Option.bind_eq_some_iff] at h;obtain⟨p,B,h⟩:=h;rw[A _ _ B];simp only[Sem.run_bind,Av h,Result.andThen_ok,Sem.run_pure]
 case nilCheck x=>
  simp only[Option.bind_eq_some_iff] at h;obtain⟨p,B,h⟩:=h;rw[A _ _ B];unfold PO at h;split at h <;> try contradiction
  all_goals (simp only[Option.some.injEq] at h; subst h; rfl)
 case binOp op t x y yt=>
  split at h
  ·rename_i hi;simp only[Option.bind_eq_some_iff] at h;obtain⟨a,F,h⟩:=h;have G:ρ (.const .nilIface)=.nilIface:=A _ _ rfl;rw[A _ _ F,G];have:=Nu (P:=P) (w:=w) (ox:=x) hi h;simp only[Sem.run_bind] at this⊢;rw[this];rfl
  simp only[Option.bind_eq_some_iff] at h;obtain⟨a,F,b,G,h⟩:=h;rw[A _ _ F,A _ _ G];have:=λoy=>Nl (P:=P) (w:=w) (ox:=x) (oy:=oy) h;simp only[Sem.run_bind] at this⊢;rw[this];rfl
 case unOp op t x=>
  simp only[Option.bind_eq_some_iff] at h;obtain⟨p,B,h⟩:=h;rw[A _ _ B];simp only[Sem.run_bind,Nc h,Result.andThen_ok,Sem.run_pure]
 case convert s d x=>
  simp only[Option.bind_eq_some_iff] at h;obtain⟨p,B,h⟩:=h;rw[A _ _ B];simp only[Sem.run_bind,N4 h,Result.andThen_ok,Sem.run_pure]
 case makeFunc fn first cap=>
  simp only[Option.bind_eq_some_iff,Option.some.injEq] at h;obtain⟨f,T,c,E,rfl⟩:=h;have U:=eL.Ck A T;have V:=eL.Ck A E;have L:first.map ρ=f.toArray:=by rw[<-U]; apply Array.ext'; simp
  have M:cap.map ρ=c.toArray:=by rw[<-V]; apply Array.ext'; simp
  rw[L,M];rfl
 case slice t x lo hi mx=>
  have hm:hi=none->mx=none:=by
   intro e;subst e;cases mx with
   | none=>rfl
   | some _=>simp at h
  have h':((ev n env x).bind λa=>(FI n env lo).bind λl=>(FI n env hi).bind λu=>(FI n env mx).bind λm=>Rr (MB P t) a l u m)=some v:=by
   split at h
   ·contradiction
   ·exact h
  simp only[Option.bind_eq_some_iff] at h';obtain⟨a,F,l,X,u,hu,m,H,h'⟩:=h';rw[A _ _ F,eL.FI A X,eL.FI A hu,eL.FI A H];have N:u=none->m=none:=by
   intro e;have:=eL.FI A hu;rw[e] at this;have:hi=none:=by cases hi <;> simp_all
   have h2:=eL.FI A H;rw[hm this] at h2;simpa using h2.symm
  simp only[Sem.run_bind,D3 N h',Result.andThen_ok,Sem.run_pure]
 case fieldAddr s x f=>
  simp only[Option.bind_eq_some_iff] at h;obtain⟨p,B,h⟩:=h;rw[A _ _ B];simp only[Sem.run_bind,EP h,Result.andThen_ok,Sem.run_pure]
 case field s x f=>
  simp only[Option.bind_eq_some_iff] at h;obtain⟨p,B,h⟩:=h;rw[A _ _ B];simp only[Sem.run_bind,Js h,Result.andThen_ok,Sem.run_pure]
 case indexAddr t x i=>
  simp only[Option.bind_eq_some_iff] at h;obtain⟨p,B,q,J,h⟩:=h;rw[A _ _ B,A _ _ J];simp only[Sem.run_bind,DT h,Result.andThen_ok,Sem.run_pure]
 case sliceToArrayPointer t x=>
  simp only[Option.bind_eq_some_iff] at h;obtain⟨p,B,h⟩:=h;rw[A _ _ B];simp only[Sem.run_bind,Ek h,Result.andThen_ok,Sem.run_pure]
 case index t x i=>
  simp only[Option.bind_eq_some_iff] at h;obtain⟨p,B,q,J,h⟩:=h;rw[A _ _ B,A _ _ J];simp only[Sem.run_bind,JS h,Result.andThen_ok,Sem.run_pure]
 case entry it=>
  simp only[Option.bind_eq_some_iff] at h;obtain⟨p,B,h⟩:=h;rw[A _ _ B];simp only[Sem.run_bind,Ny h,Result.andThen_ok,Sem.run_pure]
 case lookup t m k ok=>
  simp only[Option.bind_eq_some_iff] at h;obtain⟨p,B,q,J,h⟩:=h;rw[A _ _ B,A _ _ J];simp only[Sem.run_bind,Gp h,Result.andThen_ok,Sem.run_pure]
 case extract x i=>
  simp only[Option.bind_eq_some_iff] at h;obtain⟨p,B,h⟩:=h;rw[A _ _ B];simp only[Sem.run_bind,Ol h,Result.andThen_ok,Sem.run_pure]
 case makeInterface t x=>
  split at h <;> try contradiction
  rename_i hi;simp only[Option.bind_eq_some_iff,Option.some.injEq] at h;obtain⟨p,B,rfl⟩:=h;rw[A _ _ B];simp only[Sem.run_bind,Nj hi,Result.andThen_ok,Sem.run_pure]
 case typeAssert x xt t ok=>
  split at h <;> try contradiction
  rename_i i hi Z;simp only[Option.bind_eq_some_iff] at h;obtain⟨z,hz,p,B,h⟩:=h;rw[A _ _ B];simp only[Sem.run_bind,OH hi Z hz h,Result.andThen_ok,Sem.run_pure]
 case build t parts=>
  simp only[Option.bind_eq_some_iff] at h;obtain⟨ps,O,h⟩:=h;rw[eL.parts A O];simp only[Sem.run_bind,run_build (parts:=ps.toArray) h,Result.andThen_ok,Sem.run_pure]
 case call c=>
  split at h <;> try contradiction
  ·rename_i E;simp only[Op.call.injEq] at E;subst E;rename_i x t ts;simp only[Option.bind_eq_some_iff] at h;obtain⟨a,F,h⟩:=h;have:=Ou (P:=P) (w:=w) (ts:=⟨t::ts⟩) (ty:=o.type) (t:=t) (by simp) h;simp only[resolve,invoke,builtin,Sem.run_bind,Sem.run_pure,Result.andThen_ok,List.map_toArray,List.map_cons,List.map_nil,A _ _ F,this]
  ·rename_i E;simp only[Op.call.injEq] at E;subst E;simp only[Option.bind_eq_some_iff] at h;obtain⟨a,F,b,G,h⟩:=h;have:=Lx (P:=P) (w:=w) h;simp only[resolve,invoke,builtin,Sem.run_bind,Sem.run_pure,Result.andThen_ok,List.map_toArray,List.map_cons,List.map_nil,A _ _ F,A _ _ G,Builtin.min_,List.foldlM_cons,List.foldlM_nil,this]
  ·rename_i E;simp only[Op.call.injEq] at E;subst E;simp only[Option.bind_eq_some_iff] at h;obtain⟨a,F,b,G,h⟩:=h;have:=KQ (P:=P) (w:=w) h;simp only[resolve,invoke,builtin,Sem.run_bind,Sem.run_pure,Result.andThen_ok,List.map_toArray,List.map_cons,List.map_nil,A _ _ F,A _ _ G,Builtin.max_,List.foldlM_cons,List.foldlM_nil,this]
def Cl (P:Program) (f:FuncId) (args:List Value) (h:Hp) (k:Value->Hp->Prop):Prop:=okF P f=true/\Sp P f args h k
def Cv (C:FuncId->List Value->Hp->(Value->Hp->Prop)->Prop) (Y:Nat->List Value->Hp->(Value->Hp->Prop)->Prop) (f:Value) (args:List Value) (h:Hp) (k:Value->Hp->Prop):Prop:=
 (∃g first cap,f=.func (.func g) first cap/\C g (first.toList++args++cap.toList) h k)\/
 (∃l,f=.func (.yield l) #[] #[]/\Y l args h k)
def Ci (C:FuncId->List Value->Hp->(Value->Hp->Prop)->Prop) (M:TypeId->String->Option FuncId) (name:String) (r:Value) (args:List Value) (h:Hp) (k:Value->Hp->Prop):Prop:=
 ∃t v f,r=.iface t v/\M t name=some f/\C f (v::args) h k
def Cw (C:FuncId->List Value->Hp->(Value->Hp->Prop)->Prop) (Y:Nat->List Value->Hp->(Value->Hp->Prop)->Prop) (M:TypeId->String->Option FuncId) (f:Value) (args:List Value) (h:Hp) (k:Value->Hp->Prop):Prop:=
 Cv C Y f args h k\/∃name r,f=.func (.method name) #[r] #[]/\Ci C M name r args h k
def Sy (P:Program) (l:Nat) (args:List Value) (h:Hp) (R:Value->Hp->Prop):Prop:=
 ∀w,w.heap=h->∃r:Loop,(Instr.getLoop l).run P w=.ok r w/\args.length=r.params.size/\
  RoundIn Fence.wide 0 P l r.fn ((r.params.zip args.toArray).foldl (λtmps (t,a)=>tmps.setIfInBounds t a) r.tmps) r.assign r.body w
   λe w'=>∃v,e=.returned v/\R v w'.heap/\l4 w w'
def CW (P:Program) (f:FuncId):Bool:=
 match P.funcs[f]? with
 | some fn=>match fn.body with
  | some _=>false
  | none=>fn.name == "maps.clone"&&fn.origin == ""
 | none=>false
def K9 (args:List Value) (h:Hp):Option (Value × Hp):=
 match args with
 | [.iface t (.map (some r))]=>match h[r]? with
  | some (.map es clock)=>some (.iface t (.map (some h.size)),h.push (.map es clock))
  | _=>none
 | _=>none
def OI {P:Program} {w:World} {f:FuncId} {vs:List Value} {v:Value} {h':Hp} (h:CW P f=true) (hm:K9 vs w.heap=some (v,h')):∃w',(callFunc f vs.toArray).run P w=.ok (.value v) w'/\w'.heap=h'/\l4 w w':=by
 unfold CW at h;split at h <;> try contradiction
 rename_i fn q;split at h <;> try contradiction
 rename_i B;simp only[Bool.and_eq_true,beq_iff_eq] at h;obtain⟨h1,h2⟩:=h;unfold K9 at hm;split at hm <;> try contradiction
 rename_i t r;split at hm <;> try contradiction
 rename_i es clock E;simp only[Option.some.injEq,Prod.mk.injEq] at hm;obtain⟨rfl,rfl⟩:=hm;have F:Extern.findNext fn=none:=by
  unfold Extern.findNext;rw[h1,h2];have a:List.lookup "maps.clone" Extern.allNextRows=none:=by kernel_rfl
  have b:List.lookup "" Extern.allNextRows=none:=by kernel_rfl
  simp[a,b]
 have he:Extern.find fn=some Extern.MapsClone.clone:=by
  unfold Extern.find;rw[h1];have a:List.lookup "maps.clone" Extern.allGenericRows=none:=by kernel_rfl
  have b:List.lookup "maps.clone" Extern.allTypedRows=none:=by kernel_rfl
  have c:List.lookup "maps.clone" Extern.allRows=some Extern.MapsClone.clone:=by kernel_rfl
  simp[a,b,c]
 have A:=run_callFunc_extern q (by rw[h1]; rfl) (by rw[B]; rfl) F he #[.iface t (.map (some r))] w;have u:(Extern.MapsClone.clone #[.iface t (.map (some r))]).run P w=.ok (.iface t (.map (some w.heap.size))) {w with heap:=w.heap.push (.map es clock)}:=by
  have e:Extern.MapsClone.clone #[.iface t (.map (some r))]=(getObj r >>= λo=>match o with
   | .map entries clock=>(newObj (.map entries clock) >>= λn=>pure (.iface t (.map (some n))))
   | _=>stuck "maps.clone: a map expected"):=rfl
  rw[e];simp only[Sem.run_bind,MapKept.run_getObj_map E,Result.andThen_ok,run_newObj,Sem.run_pure]
 rw[u] at A;exact⟨_,A,rfl,⟨rfl,rfl,rfl⟩⟩
def Rk (v:Value):Array Value:=v.cells
def Rl (P:Program) (n:Nat) (env:Env) (op:Op) (h:Hp) (k:Value->Hp->Prop):Prop:=
 match op with
 | .alloc e=>match UT P e with
  | some z=>Eb (nw z e h) k
  | none=>False
 | .box e x=>match ev n env x with
  | some v=>Eb (nw (Rk v) e h) k
  | none=>False
 | .buildSlice t len parts=>match Mx n env parts.toList,JZ P t with
  | some ps,.ok e z s _=>match Nat.ble (len*s) 16777216 with
   | true=>Eb (zO z s len e ps h) k
   | false=>False
  | _,_=>False
 | .store t a x=>match ev n env a,ev n env x,P.info? t with
  | some p,some v,some i=>Sb (bF i.size p v h) (k undef)
  | _,_,_=>False
 | .mapUpdate t m kk x=>match ev n env m,ev n env kk,ev n env x,JY P t with
  | some m,some q,some v,.ok kd _=>Sb (wB kd m q v h) (k undef)
  | _,_,_,_=>False
 | .insert t m kk x=>match ev n env m,ev n env kk,ev n env x,JY P t with
  | some m,some q,some v,.ok kd _=>Sb (wB kd m q v h) (k undef)
  | _,_,_,_=>False
 | .makeMap _ none=>Eb (Gb h) k
 | .makeSlice t l c=>match ev n env l,ev n env c,JZ P t with
  | some l,some c,.ok e z s b=>Eb (Lw z s b e l c h) k
  | _,_,_=>False
 | .mapEntry t m kk=>match ev n env m,ev n env kk,JY P t with
  | some m,some q,.ok kd z=>Eb (T5 kd z m q h) k
  | _,_,_=>False
 | .entryStore _ m s x=>match ev n env m,ev n env s,ev n env x with
  | some m,some q,some v=>Sb (Tu m q v h) (k undef)
  | _,_,_=>False
 | .range t m=>match ev n env m,P.underlying t with
  | some m,some (.map ..)=>Eb (MJ m h) k
  | _,_=>False
 | .next it false=>match ev n env it with
  | some it=>Nx it h k
  | none=>False
 | .call {callee:=.builtin .append,args:=⟨[x,y]⟩,argTypes:=⟨[t,u]⟩}=>match ev n env x,ev n env y,Nat.beq t u,JZ P t with
  | some s,some x,true,.ok e z sz b=>Ap e z sz b s x h k
  | _,_,_,_=>False
 | .call {callee:=.builtin .copy,args:=⟨[x,y]⟩,argTypes:=⟨[t,_]⟩}=>match ev n env x,ev n env y,JZ P t with
  | some d,some s,.ok _ _ sz _=>Eb (CC sz d s h) k
  | _,_,_=>False
 | .call {callee:=.builtin .clear,args:=⟨[x]⟩,argTypes:=⟨[t]⟩}=>match ev n env x,JZ P t with
  | some s,.ok _ z _ _=>Eb (Rh z s h) k
  | _,_=>False
 | .call {callee:=.builtin .delete,args:=⟨[x,y]⟩,argTypes:=⟨t::_⟩}=>match ev n env x,ev n env y,JY P t with
  | some m,some q,.ok kd _=>Eb (GZ kd m q h) k
  | _,_,_=>False
 | .call {callee:=.value (.func f),args,..}=>match Ck n env args.toList,CW P f with
  | some vs,true=>Eb (K9 vs h) k
  | some vs,false=>Cl P f vs h k
  | none,_=>False
 | .call {callee:=.value x,args,..}=>match ev n env x,Ck n env args.toList with
  | some v,some vs=>Cw (Cl P) (Sy P) (Rn P) v vs h k
  | _,_=>False
 | .call {callee:=.invoke x name,args,..}=>match ev n env x,Ck n env args.toList with
  | some v,some vs=>Ci (Cl P) (Rn P) name v vs h k
  | _,_=>False
 | _=>False
def MW (P:Program) (F:Fence) (n:Nat) (o:Oper) (a:Act) (w:World) (k:Value->Hp->Prop):Prop:=
 ∀(next:Act->World->Prop) (Q:Exit->Act->World->Prop),(∀v w',l4 w w'->k v w'.heap->next (a.put o.dst v) w')->o.wpIn F n P a w next Q
def dD {P:Program} {F:Fence} (h:Wd F) {n:Nat} {o:Oper} {a:Act} {w w':World} {v:Value} {k:Value->Hp->Prop} (q:∀c,o.op≠.defer c)
  (u:(execOp a.eval o).run P w=.ok (.value v) w') (hs:l4 w w') (A:k v w'.heap):MW P F n o a w k:=by
 intro next Q B
 refine⟨λf _=>h.any f,?_⟩;rw[Oper.semAt_eq _ _ _ q,u,Oper.uponIn_value];exact B v w' hs A
def uW {P:Program} {F:Fence} (h:Wd F) {n:Nat} {o:Oper} {a:Act} {w w':World} {k:Value->Hp->Prop} (q:∀c,o.op≠.defer c)
  (u:(execOp a.eval o).run P w=.ok .skip w') (hs:l4 w w') (A:k undef w'.heap):MW P F n o a w k:=by
 intro next Q B
 refine⟨λf _=>h.any f,?_⟩;rw[Oper.semAt_eq _ _ _ q,u,Oper.uponIn_skip];exact B undef w' hs A
def Qs {P:Program} {f:FuncId} (h:okF P f=true):∃fn,P.funcs[f]?=some fn/\(fn.name == "runtime.NumGoroutine")=false/\fn.body.isNone=false:=by
 unfold okF at h;split at h
 ·rename_i fn q;simp only[Bool.and_eq_true,Bool.not_eq_true'] at h;exact⟨fn,q,h.1,by cases u:fn.body <;> simp_all⟩
 ·contradiction
def la {P:Program} {w:World} {f:FuncId} (h:okF P f=true) (args:Array Value):(callFunc f args).run P w=.ok (.enter f args) w:=by
 obtain⟨fn,q,h1,h2⟩:=Qs h;unfold callFunc;simp only[Sem.run_bind,run_program,Result.andThen_ok,q,h1,h2,Bool.false_eq_true,if_false,Sem.run_pure]
def GP {P:Program} {w:World} {t:TypeId} {u:Value} {name:String} {f:FuncId} (hm:Rn P t name=some f) (d:Nat):(method (d+1) t u name).run P w=.ok (f,u) w:=by
 unfold Rn at hm;split at hm <;> try contradiction
 rename_i i hi;split at hm <;> try contradiction
 rename_i m A;split at hm <;> try contradiction
 rename_i F B E h q hu;simp only[Option.some.injEq] at hm;subst hm;unfold method;simp only[Sem.run_bind,typeInfo,run_program,Result.andThen_ok,hi,Sem.run_pure,A,h,follow,q,receiverAt,run_underlying hu];cases B <;> first | exact(E _ rfl).elim | (simp only[Place.get,Sem.run_bind,Sem.run_pure,Result.andThen_ok])
def su {P:Program} {w:World} {t:TypeId} {u:Value} {name:String} {f:FuncId} (hm:Rn P t name=some f) (h:okF P f=true) (args:List Value):(callMethod (.iface t u) name args.toArray).run P w=.ok (.enter f (u::args).toArray) w:=by
 unfold callMethod;have h1:(method (P.types.size+Made.depth) t u name).run P w=.ok (f,u) w:=GP hm (P.types.size+99);simp only[Sem.run_bind,run_program,Result.andThen_ok,h1];have h2:=la (w:=w) h (u::args).toArray;have e:#[u]++args.toArray=(u::args).toArray:=by simp
 rw[e];exact h2
def sL {P:Program} {F:Fence} (h:Wd F) {n:Nat} {o:Oper} {a:Act} {w:World} {f:FuncId} {args:List Value} {k:Value->Hp->Prop} (q:∀c,o.op≠.defer c)
  (u:(execOp a.eval o).run P w=.ok (.enter f args.toArray) w) (A:Sp P f args w.heap k):MW P F n o a w k:=by
 intro next Q B
 refine⟨λf _=>h.any f,?_⟩;rw[Oper.semAt_eq _ _ _ q,u,Oper.uponIn_enter];refine⟨λe=>(by rw[h.depth] at e; cases e),h.calls (m:=0) (callsIn_wide.2 ((A w rfl).mono ?_))⟩;rintro e w' ⟨v,rfl,E,hs⟩;exact B v w' hs E
def Wd.round {F:Fence} (h:Wd F) {n m:Nat} {P:Program} {l:Nat} {f:FuncId} {tmps:Array Value} {cQ body:Code} {w:World} {R:Ending->World->Prop}
  (q:RoundIn Fence.wide m P l f tmps cQ body w R):RoundIn F n P l f tmps cQ body w R:=by
 refine⟨h.any f,λc cs _=>?_⟩;rw[h.fenced P];exact q.2 c cs (room_wide _)
def Jv {P:Program} {F:Fence} (q:Wd F) {n:Nat} {o:Oper} {a:Act} {w:World} {l:Nat} {args:List Value} {k:Value->Hp->Prop} (u:∀c,o.op≠.defer c)
  (A:(execOp a.eval o).run P w=(Instr.yield l args.toArray).run P w) (B:Sy P l args w.heap k):MW P F n o a w k:=by
 intro next Q E
 obtain⟨r,G,H,h⟩:=B w rfl;refine⟨λf _=>q.any f,?_⟩;have J:(Instr.yield l args.toArray).run P w=.ok (.round l r.fn ((r.params.zip args.toArray).foldl (λtmps (t,a)=>tmps.setIfInBounds t a) r.tmps) r.assign r.body) w:=by
  unfold Instr.yield;have:args.toArray.size=r.params.size:=by simpa using H
  simp only[Sem.run_bind,G,Result.andThen_ok,this,ne_eq,not_true_eq_false,if_false,Sem.run_pure]
 rw[Oper.semAt_eq _ _ _ u,A,J,Oper.uponIn_round];refine⟨λe=>(by rw[q.depth] at e; cases e),(q.round (m:=0) h).mono ?_⟩;rintro e w' ⟨v,rfl,K,hs⟩;exact E v w' hs K
def Hn {P:Program} {F:Fence} (K:Wd F) {n:Nat} {m:Nat} {env:Env} {o:Oper} {a:Act} {w:World} {k:Value->Hp->Prop} {ρ:Operand->Value} (E:eL n env ρ) (A:execOp a.eval o=execOp ρ o) (h:Rl P n env o.op w.heap k) :
  MW P F m o a w k:=by
 cases B:o.op <;> rw[B] at h <;> simp only[Rl] at h <;> try contradiction
 case alloc e=>
  split at h <;> try contradiction
  rename_i z hz;unfold UT at hz;simp only[Option.bind_eq_some_iff,Option.some.injEq] at hz;obtain⟨i,hi,zv,aS,rfl⟩:=hz;obtain⟨v,h',he,G⟩:=h;obtain⟨w',H,rfl,hs⟩:=CQ hi aS he;refine dD K (by simp[B]) (w':=w') ?_ hs G;rw[A]; unfold execOp; rw[B]; simp only[Sem.run_bind,H,Result.andThen_ok,Sem.run_pure]
 case box e x=>
  split at h <;> try contradiction
  rename_i u hu;obtain⟨v,h',he,G⟩:=h;obtain⟨w',H,rfl,hs⟩:=Gl (P:=P) he;refine dD K (by simp[B]) (w':=w') ?_ hs G;rw[A]; unfold execOp; rw[B]; simp only[E _ _ hu,Sem.run_bind,H,Result.andThen_ok,Sem.run_pure]
 case buildSlice t len parts=>
  split at h <;> try contradiction
  rename_i ps e z s b aT L;split at h <;> try contradiction
  rename_i hle;obtain⟨v,h',he,G⟩:=h;obtain⟨w',H,rfl,hs⟩:=Ar (P:=P) (parts:=ps.toArray) L (Nat.le_of_ble_eq_true hle) he;refine dD K (by simp[B]) (w':=w') ?_ hs G;rw[A]; unfold execOp; rw[B]; simp only[eL.parts E aT,Sem.run_bind,H,Result.andThen_ok,Sem.run_pure]
 case insert t m kk x=>
  split at h <;> try contradiction
  rename_i mv q v kd z hm R hv N;obtain⟨h',he,G⟩:=h;obtain⟨w',H,rfl,hs⟩:=te (P:=P) N he;refine uW K (by simp[B]) (w':=w') ?_ hs G;rw[A]; unfold execOp; rw[B]; simp only[E _ _ hm,E _ _ R,E _ _ hv,Sem.run_bind,H,Result.andThen_ok,Sem.run_pure]
 case store t p x=>
  split at h <;> try contradiction
  rename_i pv xv i hp T hi;obtain⟨h',he,G⟩:=h;obtain⟨w',H,rfl,hs⟩:=DQ (P:=P) hi he;refine uW K (by simp[B]) (w':=w') ?_ hs G;rw[A]; unfold execOp; rw[B]; simp only[E _ _ hp,E _ _ T,Sem.run_bind,H,Result.andThen_ok,Sem.run_pure]
 case makeMap t r=>
  cases r with
  | some _=>simp only at h
  | none=>
   simp only at h;obtain⟨v,h',he,G⟩:=h;obtain⟨w',H,rfl,hs⟩:=run_makeMap (P:=P) (t:=t) he;refine dD K (by simp[B]) (w':=w') ?_ hs G;rw[A]; unfold execOp; rw[B]; simp only[Option.map_none,Sem.run_bind,H,Result.andThen_ok,Sem.run_pure]
 case makeSlice t l c=>
  split at h <;> try contradiction
  rename_i lv cv e z s b hl J L;obtain⟨v,h',he,G⟩:=h;obtain⟨w',H,rfl,hs⟩:=run_makeSlice (P:=P) L he;refine dD K (by simp[B]) (w':=w') ?_ hs G;rw[A]; unfold execOp; rw[B]; simp only[E _ _ hl,E _ _ J,Sem.run_bind,H,Result.andThen_ok,Sem.run_pure]
 case mapUpdate t m kk x=>
  split at h <;> try contradiction
  rename_i mv q v kd z hm R hv N;obtain⟨h',he,G⟩:=h;obtain⟨w',H,rfl,hs⟩:=te (P:=P) N he;refine uW K (by simp[B]) (w':=w') ?_ hs G;rw[A]; unfold execOp; rw[B]; simp only[E _ _ hm,E _ _ R,E _ _ hv,Sem.run_bind,H,Result.andThen_ok,Sem.run_pure]
 case mapEntry t m kk=>
  split at h <;> try contradiction
  rename_i mv q kd z hm R N;obtain⟨v,h',he,G⟩:=h;obtain⟨w',H,rfl,hs⟩:=Cs (P:=P) N he;refine dD K (by simp[B]) (w':=w') ?_ hs G;rw[A]; unfold execOp; rw[B]; simp only[E _ _ hm,E _ _ R,Sem.run_bind,H,Result.andThen_ok,Sem.run_pure]
 case entryStore t m s x=>
  split at h <;> try contradiction
  rename_i mv q v hm R hv;obtain⟨h',he,G⟩:=h;obtain⟨w',H,rfl,hs⟩:=zD (P:=P) (t:=t) he;refine uW K (by simp[B]) (w':=w') ?_ hs G;rw[A]; unfold execOp; rw[B]; simp only[E _ _ hm,E _ _ R,E _ _ hv,Sem.run_bind,H,Result.andThen_ok,Sem.run_pure]
 case range t m=>
  split at h <;> try contradiction
  rename_i mv kt et hm hu;obtain⟨v,h',he,G⟩:=h;obtain⟨w',H,rfl,hs⟩:=JQ (P:=P) hu he;refine dD K (by simp[B]) (w':=w') ?_ hs G;rw[A]; unfold execOp; rw[B]; simp only[E _ _ hm,Sem.run_bind,H,Result.andThen_ok,Sem.run_pure]
 case next it s=>
  cases s with
  | true=>simp only at h
  | false=>
   simp only at h;split at h <;> try contradiction
   rename_i iv hi;obtain⟨v,w',H,hs,G⟩:=Lo (P:=P) (ty:=o.type) h;refine dD K (by simp[B]) (w':=w') ?_ hs G;rw[A]; unfold execOp; rw[B]; simp only[E _ _ hi,Sem.run_bind,H,Result.andThen_ok,Sem.run_pure]
 case call c=>
  split at h <;> try contradiction
  ·rename_i J;simp only[Op.call.injEq] at J;subst J;split at h <;> try contradiction
   rename_i x y t u s xv e z sz b hs T bY L;have:=Nat.eq_of_beq_eq_true bY;subst this;obtain⟨v,w',H,M,G⟩:=FE (P:=P) (ty:=o.type) L h;refine dD K (by simp[B]) (w':=w') ?_ M G;rw[A]; unfold execOp; rw[B];simp only[resolve,invoke,builtin,Sem.run_bind,Sem.run_pure,Result.andThen_ok,List.map_toArray,List.map_cons,List.map_nil,E _ _ hs,E _ _ T,H]
  ·rename_i Q x0 y0 t0 u0 J;simp only[Op.call.injEq] at J;subst J;split at h <;> try contradiction
   rename_i d s e z sz b hd hs L;obtain⟨v,h',he,G⟩:=h;obtain⟨w',H,rfl,M⟩:=Lt (P:=P) (ts:=u0) (ty:=o.type) L he;refine dD K (by simp[B]) (w':=w') ?_ M G;rw[A]; unfold execOp; rw[B];simp only[resolve,invoke,builtin,Sem.run_bind,Sem.run_pure,Result.andThen_ok,List.map_toArray,List.map_cons,List.map_nil,E _ _ hd,E _ _ hs,H]
  ·rename_i Q x0 t0 J;simp only[Op.call.injEq] at J;subst J;split at h <;> try contradiction
   rename_i s e z sz b hs L;obtain⟨v,h',he,G⟩:=h;obtain⟨w',H,rfl,M⟩:=IM (P:=P) (ty:=o.type) L he;refine dD K (by simp[B]) (w':=w') ?_ M G;rw[A]; unfold execOp; rw[B];simp only[resolve,invoke,builtin,Sem.run_bind,Sem.run_pure,Result.andThen_ok,List.map_toArray,List.map_cons,List.map_nil,E _ _ hs,H]
  ·rename_i Q x0 y0 t0 dO J;simp only[Op.call.injEq] at J;subst J;split at h <;> try contradiction
   rename_i m q kd z hm R N;obtain⟨v,h',he,G⟩:=h;obtain⟨w',H,rfl,M⟩:=G2 (P:=P) (ts:=⟨t0::dO⟩) (t:=t0) (ty:=o.type) (by simp) N he;refine dD K (by simp[B]) (w':=w') ?_ M G;rw[A]; unfold execOp; rw[B];simp only[resolve,invoke,builtin,Sem.run_bind,Sem.run_pure,Result.andThen_ok,List.map_toArray,List.map_cons,List.map_nil,E _ _ hm,E _ _ R,H]
  ·rename_i Q f args ts J;simp only[Op.call.injEq] at J;subst J;split at h <;> try contradiction
   ·rename_i vs O X;obtain⟨v,h',he,G⟩:=h;obtain⟨w',H,rfl,M⟩:=OI X he;refine dD K (by simp[B]) (w':=w') ?_ M G;have U:args.map ρ=vs.toArray:=by rw[<-eL.Ck E O]; apply Array.ext'; simp
    rw[A]; unfold execOp; rw[B];have V:ρ (.func f)=.func (.func f) #[] #[]:=E _ _ rfl;simp only[resolve,V,Deferred.ofValue,invoke,Sem.run_bind,Sem.run_pure,Result.andThen_ok,U,Array.empty_append,Array.append_empty,H]
   rename_i vs O X;obtain⟨Z,h⟩:=h;refine sL K (by simp[B]) (f:=f) (args:=vs) ?_ h;have U:args.map ρ=vs.toArray:=by rw[<-eL.Ck E O]; apply Array.ext'; simp
   rw[A]; unfold execOp; rw[B];have V:ρ (.func f)=.func (.func f) #[] #[]:=E _ _ rfl;simp only[resolve,V,Deferred.ofValue,invoke,Sem.run_bind,Sem.run_pure,Result.andThen_ok,U,Array.empty_append,Array.append_empty,la Z]
  ·rename_i Q x args ts eQ J;simp only[Op.call.injEq] at J;subst J;split at h <;> try contradiction
   rename_i fv vs T O;have U:args.map ρ=vs.toArray:=by rw[<-eL.Ck E O]; apply Array.ext'; simp
   rcases h with (⟨g,first,cap,rfl,⟨hg,J⟩⟩| ⟨l,rfl,hy⟩) | ⟨name,r,rfl,t,u,f,rfl,hm,Z,J⟩
   ·refine sL K (by simp[B]) (f:=g) (args:=first.toList++vs++cap.toList) ?_ J;rw[A]; unfold execOp; rw[B];have e2:first++vs.toArray++cap=(first.toList++vs++cap.toList).toArray:=by simp
    simp only[resolve,E _ _ T,Deferred.ofValue,invoke,Sem.run_bind,Sem.run_pure,Result.andThen_ok,U,e2,la hg]
   ·refine Jv K (by simp[B]) (l:=l) (args:=vs) ?_ hy;rw[A]; unfold execOp; rw[B];simp only[resolve,E _ _ T,Deferred.ofValue,invoke,Sem.run_bind,Sem.run_pure,Result.andThen_ok,U,Array.empty_append]
   ·refine sL K (by simp[B]) (f:=f) (args:=u::vs) ?_ J;rw[A]; unfold execOp; rw[B];have e3:(#[Value.iface t u]++vs.toArray)[0]?=some (Value.iface t u):=by simp
    have e4:(#[Value.iface t u]++vs.toArray).extract 1 (#[Value.iface t u]++vs.toArray).size=vs.toArray:=by simp
    simp only[resolve,E _ _ T,Deferred.ofValue,invoke,Sem.run_bind,Sem.run_pure,Result.andThen_ok,U,e3,e4,su hm Z]
  ·rename_i Q x name args ts J;simp only[Op.call.injEq] at J;subst J;split at h <;> try contradiction
   rename_i fv vs T O;have U:args.map ρ=vs.toArray:=by rw[<-eL.Ck E O]; apply Array.ext'; simp
   obtain⟨t,u,f,rfl,hm,Z,J⟩:=h;refine sL K (by simp[B]) (f:=f) (args:=u::vs) ?_ J;rw[A]; unfold execOp; rw[B];have e3:(#[Value.iface t u]++vs.toArray)[0]?=some (Value.iface t u):=by simp
   have e4:(#[Value.iface t u]++vs.toArray).extract 1 (#[Value.iface t u]++vs.toArray).size=vs.toArray:=by simp
   simp only[resolve,E _ _ T,invoke,Sem.run_bind,Sem.run_pure,Result.andThen_ok,U,e3,e4,su hm Z]
abbrev KB:=List (Nat × Option Bool)
def FV:KB->Nat->Option (Option Bool)
 | [],_=>none
 | (d,r)::s,t=>match Nat.beq d t with
  | true=>some r
  | false=>FV s t
def Ry (h:KB) (dst:Option Nat):KB:=
 match dst with
 | none=>h
 | some d=>h.filter λx=>!(Nat.beq x.1 d)
def put (env:Env) (dst:Option Nat) (v:Value):Env:=
 match dst with
 | none=>env
 | some d=>(d,v)::env
def Br (v:Value) (A B:Prop):Prop:=
 match v with
 | .bool true=>A
 | .bool false=>B
 | _=>False
def DN {v:Value} {A B:Prop} (h:Br v A B):∃b,v=.bool b/\(b=true->A)/\(b=false->B):=by
 unfold Br at h;split at h
 ·exact⟨true,rfl,(λ_=>h),(λe=>by cases e)⟩
 ·exact⟨false,rfl,(λe=>by cases e),λ_=>h⟩
 ·exact h.elim
def dec:Value->Deferred
 | .func fn first cap=>{target:=.fn fn cap,args:=first}
 | .pointer (some a)=>{target:=.collected a.block,args:=#[]}
 | _=>default
structure wk (n:Nat) (env:Env) (a:Act):Prop where
 sz:a.tmps.size=n
 sl:∀t v,t<n->lk env t=some v->a.tmps.getD t undef=v
 df:∀v,lk env n=some v->∃ds:List Value,v=.tuple ⟨ds⟩/\a.defers=ds.map dec
def wk.holds {n:Nat} {env:Env} {a:Act} (h:wk n env a):eL n env a.eval:=by
 intro x v hv;cases x with
 | tmp t=>
  simp only[ev] at hv;split at hv
  ·rename_i q;exact h.sl t v (by simpa[Nat.blt_eq] using q) hv
  ·contradiction
 | const u=>simpa[ev,Act.eval] using hv
 | global g=>simpa[ev,Act.eval] using hv
 | func f=>simpa[ev,Act.eval] using hv
def dV {env:Env} {d t:Nat} {v:Value}:lk ((d,v)::env) t=if d=t then some v else lk env t:=by
 simp only[lk];by_cases h:d=t
 ·subst h; simp
 ·have:Nat.beq d t=false:=by
   cases q:Nat.beq d t with
   | false=>rfl
   | true=>exact absurd (Nat.eq_of_beq_eq_true q) h
  rw[this]; simp[h]
def nI {a:Act} {d t:Nat} {v:Value} (q:d<a.tmps.size):(a.put (some d) v).tmps.getD t undef=if d=t then v else a.tmps.getD t undef:=by
 simp only[Act.put,Array.getD_eq_getD_getElem?,Array.getElem?_setIfInBounds];by_cases h:d=t
 ·subst h; simp[q]
 ·simp[h]
def wk.put {n:Nat} {env:Env} {a:Act} (h:wk n env a) {dst:Option Nat} {v:Value} (A:∀d,dst=some d->d<n):wk n (put env dst v) (a.put dst v):=by
 cases dst with
 | none=>exact h
 | some d=>
  have q:=A d rfl;refine⟨by simp[Act.put,h.sz],λt u B hu=>?_,λu hu=>?_⟩
  ·simp only[En.put] at hu;rw[dV] at hu;rw[nI (by rw[h.sz]; exact q)];split at hu
   ·rename_i e; subst e; simpa using hu
   ·rename_i e; rw[if_neg e]; exact h.sl t u B hu
  ·simp only[En.put] at hu;rw[dV,if_neg (by omega)] at hu;exact h.df u hu
def pN (n:Nat) (h:KB) (env:Env):Prop:=∀d r,FV h d=some r->d<n/\∃v,lk env d=some v/\match r with
 | some b=>v=.bool b
 | none=>v=undef
def nm {q:KB} {d t:Nat} {r:Option Bool}:FV ((d,r)::q) t=if d=t then some r else FV q t:=by
 simp only[FV];by_cases h:d=t
 ·subst h; simp
 ·have:Nat.beq d t=false:=by
   cases u:Nat.beq d t with
   | false=>rfl
   | true=>exact absurd (Nat.eq_of_beq_eq_true u) h
  rw[this]; simp[h]
def GF {u:KB} {d t:Nat} {r:Option Bool} (h:FV (u.filter λx=>!(Nat.beq x.1 d)) t=some r):FV u t=some r/\t≠d:=by
 induction u with
 | nil=>simp[FV] at h
 | cons x u E=>
  obtain⟨x,q⟩:=x;by_cases A:x=d
  ·subst A;rw[List.filter_cons_of_neg (by simp)] at h;obtain⟨h1,h2⟩:=E h;exact⟨by rw[nm,if_neg (λe=>h2 e.symm)]; exact h1,h2⟩
  ·have B:Nat.beq x d=false:=by
    cases B:Nat.beq x d with
    | false=>rfl
    | true=>exact absurd (Nat.eq_of_beq_eq_true B) A
   rw[List.filter_cons_of_pos (by simp[B]),nm] at h;split at h
   ·rename_i e; subst e; exact⟨by rw[nm,if_pos rfl]; exact h,A⟩
   ·rename_i e;obtain⟨h1,h2⟩:=E h;exact⟨by rw[nm,if_neg e]; exact h1,h2⟩
def pN.put {n:Nat} {q:KB} {env:Env} (h:pN n q env) (dst:Option Nat) (v:Value):pN n (Ry q dst) (put env dst v):=by
 cases dst with
 | none=>exact h
 | some d=>
  intro t r A;obtain⟨h1,h2⟩:=GF A;obtain⟨B,u,hu,hm⟩:=h t r h1;exact⟨B,u,by rw[En.put,dV,if_neg (λe=>h2 e.symm)]; exact hu,hm⟩
def pN.nil (n:Nat) (env:Env):pN n [] env:=λd r h=>by simp[FV] at h
def pN.add {n:Nat} {A:KB} {env:Env} (h:pN n A env) {d:Nat} {r:Option Bool} {v:Value} (B:d<n) (E:lk env d=some v) (hv:match r with
  | some b=>v=.bool b
  | none=>v=undef):pN n ((d,r)::A) env:=by
 intro t q u;rw[nm] at u;split at u
 ·rename_i e; subst e; simp only[Option.some.injEq] at u; subst u; exact⟨B,v,E,hv⟩
 ·exact h t q u
def step (P:Program) (n:Nat) (op:Op) (env:Env) (q:KB) (h:Hp) (k:Value->Hp->Prop):Prop:=
 match op with
 | .move x=>match ev n env x with
  | some v=>k v h
  | none=>False
 | .assign x=>match ev n env x with
  | some v=>k v h
  | none=>False
 | .pick (.tmp c) x y=>match FV q c with
  | some (some true)=>match ev n env x with
   | some v=>k v h
   | none=>False
  | some (some false)=>match ev n env y with
   | some v=>k v h
   | none=>False
  | some none=>False
  | none=>Vb (Dq P n env (.pick (.tmp c) x y) h) λv=>k v h
 | op=>match Tb op with
  | true=>Vb (Dq P n env op h) λv=>k v h
  | false=>Rl P n env op h k
def AV {P:Program} {n:Nat} {env:Env} {op:Op} {h:Hp} {v:Value} (hv:Dq P n env op h=some v):∀c,op≠.defer c:=by
 intro c e; subst e; simp[Dq] at hv
def Kt {P:Program} {F:Fence} (E:Wd F) {n m:Nat} {env:Env} {L:KB} {o:Oper} {a:Act} {w:World} {k:Value->Hp->Prop} (A:eL n env a.eval) (M:pN n L env)
  (h:step P n o.op env L w.heap k):MW P F m o a w k:=by
 have q:∀x v,(o.op=.move x\/o.op=.assign x)->ev n env x=some v->k v w.heap->MW P F m o a w k:=by
  intro x v ho hv H;refine dD E (w':=w) (v:=v) (by rcases ho with e | e <;> simp[e]) ?_ (.refl w) H;rw[<-A x v hv];rcases ho with e | e <;> (unfold execOp; rw[e]; rfl)
 have N:∀(hv:Vb (Dq P n env o.op w.heap) λv=>k v w.heap),MW P F m o a w k:=by
  rintro⟨v,hv,H⟩;exact dD E (AV hv) (Cf A hv) (.refl w) H
 have G:(match Tb o.op with
   | true=>Vb (Dq P n env o.op w.heap) λv=>k v w.heap
   | false=>Rl P n env o.op w.heap k)->MW P F m o a w k:=by
  intro h;split at h
  ·exact N h
  ·exact Hn E A rfl h
 unfold step at h;split at h
 ·rename_i x ho;split at h <;> try contradiction
  rename_i v hv;exact q x v (.inl ho) hv h
 ·rename_i x ho;split at h <;> try contradiction
  rename_i v hv;exact q x v (.inr ho) hv h
 ·rename_i c x y ho;split at h
  ·rename_i J;split at h <;> try contradiction
   rename_i v hv;obtain⟨K,u,hu,hm⟩:=M _ _ J;simp only at hm;subst hm;refine dD E (w':=w) (v:=v) (by simp[ho]) ?_ (.refl w) h;have B:ev n env (.tmp c)=some (.bool true):=by
    have:Nat.blt c n=true:=by simpa[Nat.blt_eq] using K
    simp[ev,this,hu]
   unfold execOp; rw[ho]; simp[A _ _ B,A _ _ hv,asBool]
  ·rename_i J;split at h <;> try contradiction
   rename_i v hv;obtain⟨K,u,hu,hm⟩:=M _ _ J;simp only at hm;subst hm;refine dD E (w':=w) (v:=v) (by simp[ho]) ?_ (.refl w) h;have B:ev n env (.tmp c)=some (.bool false):=by
    have:Nat.blt c n=true:=by simpa[Nat.blt_eq] using K
    simp[ev,this,hu]
   unfold execOp; rw[ho]; simp[A _ _ B,A _ _ hv,asBool]
  ·contradiction
  ·rw[<-ho] at h; exact N h
 ·exact G h
def Rj (ops:Array Oper) (env:Env) (h:KB) (g:Option (Nat × Bool)) (yes no:KB->Prop):Prop:=
 match g with
 | none=>yes h
 | some (j,want)=>match (ops[j]?).bind (·.dst) with
  | none=>False
  | some d=>match FV h d with
   | some (some b)=>match b,want with
    | true,true=>yes h
    | false,false=>yes h
    | _,_=>no h
   | some none=>no h
   | none=>match lk env d with
    | none=>False
    | some v=>match want with
     | true=>Br v (yes ((d,some true)::h)) (no ((d,some false)::h))
     | false=>Br v (no ((d,some true)::h)) (yes ((d,some false)::h))
def rR (n:Nat) (ops:List Oper):Bool:=
 match ops with
 | []=>true
 | o::r=>match o.dst with
  | none=>rR n r
  | some d=>match Nat.blt d n with
   | true=>rR n r
   | false=>false
def jL {n:Nat} {ops:List Oper} (h:rR n ops=true):∀o∈ops,∀d,o.dst=some d->d<n:=by
 induction ops with
 | nil=>intro o ho; cases ho
 | cons o r B=>
  unfold rR at h;intro x q d u;split at h
  ·rename_i E;rcases List.mem_cons.1 q with rfl | q
   ·rw[E] at u; cases u
   ·exact B h x q d u
  ·rename_i G A;split at h
   ·rename_i F;rcases List.mem_cons.1 q with rfl | q
    ·rw[A] at u; cases u; simpa[Nat.blt_eq] using F
    ·exact B h x q d u
   ·contradiction
def CU:Value->Option Bool
 | .bool b=>some b
 | _=>none
def zR {n:Nat} {env:Env} {a:Act} {ops:Array Oper} (q:a.tmps.size=n) {j d:Nat} {v:Value} (u:(ops[j]?).bind (·.dst)=some d) (A:d<n) (hv:a.tmps.getD d undef=v) :
  yielded ops a.tmps j=CU v:=by
 unfold yielded;rw[u];simp only[Option.bind_some];have:a.tmps[d]?=some v:=by
  rw[Array.getD_eq_getD_getElem?] at hv;have h:d<a.tmps.size:=by omega
  rw[Array.getElem?_eq_getElem h] at hv⊢;simpa using hv
 rw[this];cases v <;> rfl
def IZ {n:Nat} {ops:Array Oper} {env:Env} {B:KB} {a:Act} {o:Oper} {yes no:KB->Prop} (N:rR n ops.toList=true) (J:a.tmps.size=n) (q:pN n B env)
  (E:∀d v,(∃j want,o.guard=some (j,want)/\(ops[j]?).bind (·.dst)=some d)->lk env d=some v->a.tmps.getD d undef=v)
  (h:Rj ops env B o.guard yes no) :
  ∃F,pN n F env/\((Region.wanted o (yielded ops a.tmps)=true/\yes F)\/(Region.wanted o (yielded ops a.tmps)=false/\no F)):=by
 unfold Rj at h;split at h
 ·rename_i H;exact⟨B,q,.inl ⟨by simp[Region.wanted,H],h⟩⟩
 ·rename_i j want H;split at h <;> try contradiction
  rename_i d G;have u:d<n:=by
   cases ho:ops[j]? with
   | none=>rw[ho] at G; cases G
   | some O=>
    rw[ho] at G;exact jL N O (by rw[Array.mem_toList_iff]; exact Array.mem_of_getElem? ho) d G
  have hw:∀v,lk env d=some v->Region.wanted o (yielded ops a.tmps)=(CU v == some want):=by
   intro v hv;have:=zR (env:=env) J G u (E d v ⟨j,want,H,G⟩ hv);simp only[Region.wanted,H,this]
  split at h
  ·rename_i b K;obtain⟨_,v,hv,hm⟩:=q _ _ K;simp only at hm;subst hm;have:=hw _ hv;split at h
   ·exact⟨B,q,.inl ⟨by rw[this]; rfl,h⟩⟩
   ·exact⟨B,q,.inl ⟨by rw[this]; rfl,h⟩⟩
   ·rename_i h1 h2;refine⟨B,q,.inr ⟨?_,h⟩⟩;rw[this];cases b <;> cases want <;> first | rfl | exact(h1 rfl rfl).elim | exact(h2 rfl rfl).elim
  ·rename_i K;obtain⟨_,v,hv,hm⟩:=q _ _ K;simp only at hm;subst hm;exact⟨B,q,.inr ⟨by rw[hw _ hv]; rfl,h⟩⟩
  ·split at h <;> try contradiction
   rename_i v hv;have A:=hw _ hv;split at h
   ·obtain⟨b,rfl,L,M⟩:=DN h;cases b with
    | true=>exact⟨_,q.add u hv (r:=some true) rfl,.inl ⟨by rw[A]; rfl,L rfl⟩⟩
    | false=>exact⟨_,q.add u hv (r:=some false) rfl,.inr ⟨by rw[A]; rfl,M rfl⟩⟩
   ·obtain⟨b,rfl,L,M⟩:=DN h;cases b with
    | true=>exact⟨_,q.add u hv (r:=some true) rfl,.inr ⟨by rw[A]; rfl,L rfl⟩⟩
    | false=>exact⟨_,q.add u hv (r:=some false) rfl,.inl ⟨by rw[A]; rfl,M rfl⟩⟩
def I4 (P:Program) (n:Nat) (rd:Bool) (ops:Array Oper):List Oper->Env->KB->Hp->(Env->Hp->Prop)->Prop
 | [],env,_,h,k=>k env h
 | o::r,env,q,h,k=>
  Rj ops env q o.guard
   (λq=>match o.op with
    | .defer {callee:=.value (.func f),args,..}=>match rd,okF P f,Ck n env args.toList,lk env n with
     | false,true,some vs,some (.tuple ⟨ds⟩)=>match o.dst with
      | none=>I4 P n rd ops r ((n,.tuple ⟨.func (.func f) vs.toArray #[]::ds⟩)::env) q h k
      | some _=>False
     | _,_,_,_=>False
    | op=>step P n op env q h λv h'=>I4 P n rd ops r (put env o.dst v) (Ry q o.dst) h' k)
   (λq=>I4 P n rd ops r (put env o.dst undef) (match o.dst with
    | some d=>(d,none)::q
    | none=>q) h k)
def p6 {P:Program} {F:Fence} (U:Wd F) {n m:Nat} {rd:Bool} (B:rd=false->F.round=none) {ops:Array Oper} (V:rR n ops.toList=true) {Q:Exit->Act->World->Prop} {w0:World} {k:Env->Hp->Prop}
  {T:List Nat} {b:Nat->Option Value} (hT:∀o∈ops.toList,∀d,o.dst=some d->d∉T) (E:n∈T->∀o∈ops.toList,∀c,o.op≠.defer c)
  (hQ:∀env a w,wk n env a->l4 w0 w->(∀t∈T,lk env t=b t)->k env w.heap->Q .normal a w) :
  ∀(l:List Oper) (env:Env) (kb:KB) (a:Act) (w:World),(∀t∈T,lk env t=b t)->(∀o∈l,o∈ops.toList)->wk n env a->pN n kb env->l4 w0 w->I4 P n rd ops l env kb w.heap k->wpListIn F m P ops Q l a w
 | [],env,kb,a,w,X,_,q,_,Z,h=>hQ env a w q Z X h
 | o::l,env,kb,a,w,X,hl,q,hK,Z,h=>by
  have aS:∀v,∀t∈T,lk (put env o.dst v) t=b t:=by
   intro v t H;cases hd:o.dst with
   | none=>exact X t H
   | some d=>
    simp only[put];rw[dV,if_neg (λ(e:d=t)=>hT o (hl o (List.mem_cons_self ..)) d hd (by rw[e]; exact H))];exact X t H
  have ho:=hl o (List.mem_cons_self ..);have M:∀x∈l,x∈ops.toList:=λx hx=>hl x (List.mem_cons_of_mem _ hx);have hd:∀d,o.dst=some d->d<n:=jL V o ho;unfold I4 at h;obtain⟨dO,u,N⟩:=IZ V q.sz hK (λd v ⟨j,want,hg,G⟩ hv=>q.sl d v (by
   cases O:ops[j]? with
   | none=>rw[O] at G; cases G
   | some oj=>rw[O] at G; exact jL V oj (by rw[Array.mem_toList_iff]; exact Array.mem_of_getElem? O) d G) hv) h
  refine wpListIn_step λK R=>?_;rcases N with ⟨hw,hy⟩| ⟨hw,eQ⟩
  ·rw[hw,if_pos rfl];split at hy
   ·rename_i f args ts aT;split at hy <;> try contradiction
    rename_i vs ds hf iF iN;split at hy <;> try contradiction
    rename_i A;have iS:=B rfl;refine⟨λf _=>U.any f,?_⟩;have e1:args.map a.eval=vs.toArray:=by rw[<-eL.Ck q.holds iF]; apply Array.ext'; simp
    have bY:(o.semAt F.round a.eval).run P w=.ok (.defer {target:=.fn (.func f) #[],args:=vs.toArray}) w:=by
     rw[iS,Oper.semAt_none];unfold execOp; rw[aT];have oF:a.eval (.func f)=.func (.func f) #[] #[]:=rfl;simp only[resolve,oF,Deferred.ofValue,Sem.run_bind,Sem.run_pure,Result.andThen_ok,e1,Array.empty_append]
    rw[bY,Oper.uponIn_defer,A];refine R _ _ (p6 U B V hT E hQ l _ dO _ w ?_ M ?_ ?_ Z hy)
    ·intro t H;by_cases e:n=t
     ·subst e; exact absurd aT (E H o ho _)
     ·rw[dV,if_neg e]; exact X t H
    ·obtain⟨rW,J,oR⟩:=q.df _ iN;simp only[Value.tuple.injEq,Array.mk.injEq] at J;subst J;refine⟨q.sz,λt v H hv=>?_,λv hv=>?_⟩
     ·rw[dV,if_neg (by omega)] at hv;exact q.sl t v H hv
     ·rw[dV,if_pos rfl] at hv;simp only[Option.some.injEq] at hv;refine⟨_,hv.symm,?_⟩;simp[Act.put,dec,oR]
    ·intro t r L;obtain⟨h1,v,h2,h3⟩:=u t r L;exact⟨h1,v,by rw[dV,if_neg (by omega)]; exact h2,h3⟩
   ·refine Kt U q.holds u hy K Q λv w' hs hk=>R _ _ ?_;exact p6 U B V hT E hQ l _ _ _ w' (aS v) M (q.put hd) (u.put _ _) (Z.trans hs) hk
  ·rw[hw];refine⟨λf _=>U.any f,R _ _ (p6 U B V hT E hQ l _ _ _ w (aS _) M (q.put hd) ?_ Z eQ)⟩;cases A:o.dst with
   | none=>simpa[put] using u
   | some d=>
    simp only;intro t r L;rw[nm] at L;by_cases e:d=t
    ·subst e;rw[if_pos rfl] at L;simp only[Option.some.injEq] at L;subst L;exact⟨hd d A,undef,by simp only[put]; rw[dV,if_pos rfl],rfl⟩
    ·rw[if_neg e] at L;obtain⟨h1,v,h2,h3⟩:=u t r L;exact⟨h1,v,by simp only[put]; rw[dV,if_neg e]; exact h2,h3⟩
inductive DC where
 | p | v | e | bad
def tp (P:Program):Op->Bool
 | .load .. | .lookup .. | .entry _=>false
 | .call {callee:=.builtin .len,argTypes:=⟨t::_⟩,..}=>match S3 P t with
  | .sB=>true
  | _=>false
 | .call {callee:=.builtin .min,..} | .call {callee:=.builtin .max,..}=>true
 | .call _=>false
 | _=>true
def dc (P:Program) (op:Op):DC:=
 match op with
 | .move _ | .assign _=>.p
 | .defer _ | .select ..=>.bad
 | op=>match Tb op with
  | true=>match tp P op with
   | true=>.p
   | false=>.v
  | false=>.e
def UN:DC->Bool
 | .e=>true
 | _=>false
structure Pd where
 i:Nat
 env:Env
 op:Op
 v:Value
def BN (P:Program) (n:Nat) (u:Nat) (h:Hp) (q:Prop):List Pd->Prop
 | []=>q
 | ⟨i,env,op,v⟩::r=>match u.testBit i with
  | true=>BN P n u h q r
  | false=>Dq P n env op h=some v/\BN P n u h q r
def zB (h:Nat):List Pd->List Pd
 | []=>[]
 | ⟨i,env,op,v⟩::r=>match h.testBit i with
  | true=>zB h r
  | false=>⟨i,env,op,v⟩::zB h r
def Ue (h:KB) (dst:Option Nat):KB:=
 match dst with
 | some d=>(d,none)::h
 | none=>h
inductive OT where
 | nil
 | cons (i:Nat) (r:OT)
 | kK (a b:OT)
def oc:List Nat->OT->OT
 | [],t=>t
 | i::r,t=>.cons i (oc r t)
def xZ (P:Program) (n:Nat) (ops:Array Oper) (pre:Array Nat):OT->List Pd->Env->KB->Hp->(Env->Hp->Prop)->Prop
 | .nil,_,env,_,h,k=>k env h
 | .kK a b,pend,env,q,h,k=>xZ P n ops pre a pend env q h k/\xZ P n ops pre b pend env q h k
 | .cons i r,pend,env,q,h,k=>match ops[i]? with
  | none=>False
  | some o=>Rj ops env q o.guard
   (λq=>match dc P o.op with
    | .p=>step P n o.op env q h λv _=>xZ P n ops pre r pend (put env o.dst v) (Ry q o.dst) h k
    | .v=>Vb (Dq P n env o.op h) λv=>xZ P n ops pre r ({i,env,op:=o.op,v}::pend) (put env o.dst v) (Ry q o.dst) h k
    | .e=>Rl P n env o.op h λv h'=>BN P n (pre.getD i 0) h' (xZ P n ops pre r (zB (pre.getD i 0) pend) (put env o.dst v) (Ry q o.dst) h' k) pend
    | .bad=>False)
   (λq=>xZ P n ops pre r pend (put env o.dst undef) (Ue q o.dst) h k)
def rel (pre:Array Nat) (i j:Nat):Bool:=(pre.getD i 0).testBit j
def iK (ops:Array Oper) (j:Nat):Option Nat:=(ops[j]?).bind (·.dst)
def Pw (ops:Array Oper) (j:Nat) (o:Oper):Bool:=
 match iK ops j with
 | some d=>(o.looksAt ops).contains d
 | none=>false
def HF (ops:Array Oper) (i j:Nat):Bool:=
 match iK ops i,iK ops j with
 | some d,some e=>Nat.beq d e
 | _,_=>false
def U1 (P:Program) (ops:Array Oper) (j:Nat):Bool:=
 match ops[j]? with
 | some o=>UN (dc P o.op)
 | none=>false
def nV:OT->List Nat
 | .nil=>[]
 | .cons i _=>[i]
 | .kK a b=>nV a++nV b
def oh (P:Program) (ops:Array Oper) (pre:Array Nat):OT->List Nat->List Nat->Bool
 | .nil,_,h=>(List.range ops.size).all λj=>h.contains j
 | .kK a b,hs,h=>hs.all (λe=>U1 P ops e)&&oh P ops pre a hs h&&oh P ops pre b hs h
 | .cons i r,hs,h=>(match ops[i]? with
  | none=>false
  | some o=>!(h.contains i)&&hs.contains i&&o.after.toList.all (λe=>!Region.binds .any e||h.contains e.on)&&
   h.all (λj=>!Pw ops j o||rel pre i j)&&
   (List.range ops.size).all (λj=>Nat.beq j i||h.contains j||!Pw ops j o||rel pre j i)&&
   (!UN (dc P o.op)||(List.range ops.size).all λj=>h.contains j||hs.contains j||hs.any λe=>rel pre j e))&&oh P ops pre r (nV r) (i::h)
def pathOf:OT->List Nat
 | .nil=>[]
 | .cons i r=>i::pathOf r
 | .kK a _=>pathOf a
def O9 (P:Program) (n:Nat) (ops:Array Oper) (pre:Array Nat) (ord:OT):Bool:=
 rR n ops.toList&&(List.range ops.size).all (λi=>(List.range ops.size).all λj=>Nat.beq i j||!HF ops i j)&&
  (List.range ops.size).all (λi=>match ops[i]? with
   | none=>false
   | some o=>o.after.toList.all (λe=>!Region.binds .any e||(Nat.blt ((pathOf ord).idxOf e.on) ((pathOf ord).idxOf i)&&Nat.blt e.on ops.size))&&
    (List.range ops.size).all (λj=>!rel pre i j||o.after.toList.any λe=>Region.binds .any e&&(Nat.beq e.on j||rel pre e.on j)))&&
  oh P ops pre ord (nV ord) []
structure R0 (P:Program) (ops:Array Oper) (pre:Array Nat) (hs l1:List Nat) (i:Nat) (o:Oper):Prop where
 at_:ops[i]?=some o
 Bf:i∉l1
 VK:i∈hs
 U6:∀e∈o.after,Region.binds .any e=true->e.on∈l1
 RZ:∀j∈l1,Pw ops j o=true->rel pre i j=true
 RY:∀j,j<ops.size->j≠i->j∉l1->Pw ops j o=true->rel pre j i=true
 wait:dc P o.op=.e->∀j,j<ops.size->j∉l1->j∉hs->∃e∈hs,rel pre j e=true
def uE {P:Program} {ops:Array Oper} {pre:Array Nat} {hs B:List Nat} {i:Nat} {r:OT} (h:oh P ops pre (.cons i r) hs B=true):(∃o,R0 P ops pre hs B i o)/\oh P ops pre r (nV r) (i::B)=true:=by
 unfold oh at h;rw[Bool.and_eq_true] at h;refine⟨?_,h.2⟩;have h1:=h.1;split at h1
 ·contradiction
 ·rename_i o ho;simp only[Bool.and_eq_true,List.all_eq_true,Array.mem_toList_iff,Bool.or_eq_true,Bool.not_eq_true',List.contains_iff_mem,List.contains_eq_mem,decide_eq_false_iff_not,decide_eq_true_eq,List.mem_range,List.any_eq_true] at h1;obtain⟨⟨⟨⟨⟨H,J⟩,K⟩,L⟩,M⟩,N⟩:=h1;refine⟨o,ho,H,J,λe he O=>?_,λj u E=>?_,λj u F q E=>?_,λQ j u q G=>?_⟩
  ·rcases K e he with h2 | h2
   ·rw[O] at h2; cases h2
   ·exact h2
  ·rcases L j u with h2 | h2
   ·rw[E] at h2; cases h2
   ·exact h2
  ·rcases M j u with ((h2 | h2) | h2) | h2
   ·exact absurd (Nat.eq_of_beq_eq_true h2) F
   ·exact absurd h2 q
   ·rw[E] at h2; cases h2
   ·exact h2
  ·rcases N with h2 | h2
   ·rw[Q] at h2; cases h2
   ·rcases h2 j u with (A | A) | A
    ·exact absurd A q
    ·exact absurd A G
    ·exact A
def zP {P:Program} {ops:Array Oper} {pre:Array Nat} {hs q:List Nat} {a b:OT} (h:oh P ops pre (.kK a b) hs q=true):(∀e∈hs,U1 P ops e=true)/\oh P ops pre a hs q=true/\oh P ops pre b hs q=true:=by
 unfold oh at h;simp only[Bool.and_eq_true,List.all_eq_true] at h;exact⟨h.1.1,h.1.2,h.2⟩
def m8 (n:Nat) (env:Env) (ts:List Tmp) (a:Act):Prop:=a.tmps.size=n/\∀t u,t∈ts->t<n->lk env t=some u->a.tmps.getD t undef=u
def Sj (n:Nat) (env:Env) (a:Act):Operand->Value:=λx=>(ev n env x).getD (a.eval x)
def BE {n:Nat} {env:Env} {a:Act}:eL n env (Sj n env a):=λx v h=>by simp[Sj,h]
def EF {n:Nat} {env:Env} {a:Act} {ops:Array Oper} {o:Oper} (hs:∀cs b,o.op≠.select cs b) (h:m8 n env (o.looksAt ops) a):execOp a.eval o=execOp (Sj n env a) o:=by
 refine execOp_congr o hs λx q=>?_;unfold Sj;cases he:ev n env x with
 | none=>rfl
 | some v=>
  simp only[Option.getD_some];cases x with
  | tmp t=>
   simp only[ev] at he;split at he
   ·rename_i A;exact h.2 t v (List.mem_append_left _ (List.mem_filterMap.2 ⟨.tmp t,by simpa using q,rfl⟩)) (by simpa[Nat.blt_eq] using A) he
   ·contradiction
  | const u=>simpa[ev,Act.eval] using he
  | global g=>simpa[ev,Act.eval] using he
  | func f=>simpa[ev,Act.eval] using he
def vi (ops:Array Oper) (env:Env) (o:Oper):Bool:=
 match o.guard with
 | none=>true
 | some (j,want)=>match iK ops j with
  | none=>false
  | some d=>match lk env d with
   | none=>false
   | some v=>CU v == some want
def OV {n:Nat} {ops:Array Oper} {env:Env} {K:KB} {o:Oper} {yes no:KB->Prop} (U:rR n ops.toList=true) (E:pN n K env) (h:Rj ops env K o.guard yes no) :
  ∃F,pN n F env/\((vi ops env o=true/\yes F)\/(vi ops env o=false/\no F))/\
   (∀a,m8 n env (o.looksAt ops) a->Region.wanted o (yielded ops a.tmps)=vi ops env o):=by
 have key:∀(a:Act),m8 n env (o.looksAt ops) a->(∀j want d,o.guard=some (j,want)->iK ops j=some d->∃v,lk env d=some v)->(∀j want,o.guard=some (j,want)->∃d,iK ops j=some d)->
   Region.wanted o (yielded ops a.tmps)=vi ops env o:=by
  intro a J hv G;unfold vi;cases B:o.guard with
  | none=>simp[Region.wanted,B]
  | some g=>
   obtain⟨j,want⟩:=g;obtain⟨d,q⟩:=G j want B;obtain⟨v,L⟩:=hv j want d B q;simp only[q,L];have A:d<n:=by
    unfold iK at q;cases ho:ops[j]? with
    | none=>rw[ho] at q; cases q
    | some N=>rw[ho] at q; exact jL U N (by rw[Array.mem_toList_iff]; exact Array.mem_of_getElem? ho) d q
   have O:d∈o.looksAt ops:=by
    unfold Oper.looksAt;refine List.mem_append_right _ ?_;rw[B];simp only;have:(ops[j]?).bind (·.dst)=some d:=q;rw[this]; simp
   have V:=zR (env:=env) (v:=v) J.1 (j:=j) (ops:=ops) q A (J.2 d v O A L);simp only[Region.wanted,B,V]
 have Z:=h;unfold Rj at h;split at h
 ·rename_i B;refine⟨K,E,.inl ⟨by simp[vi,B],h⟩,λa J=>key a J (λj want d u _=>by rw[B] at u; cases u) (λj want u=>by rw[B] at u; cases u)⟩
 ·rename_i j want B;split at h <;> try contradiction
  rename_i d G;have q:iK ops j=some d:=G;have A:d<n:=by
   cases ho:ops[j]? with
   | none=>rw[ho] at G; cases G
   | some N=>rw[ho] at G; exact jL U N (by rw[Array.mem_toList_iff]; exact Array.mem_of_getElem? ho) d G
  have fin:∀v,lk env d=some v->(∀a,m8 n env (o.looksAt ops) a->Region.wanted o (yielded ops a.tmps)=vi ops env o):=λv hv a J=>key a J
   (λX H d' u M=>by rw[B] at u; cases u; rw[q] at M; cases M; exact⟨v,hv⟩) (λX H u=>by rw[B] at u; cases u; exact⟨d,q⟩)
  have hw:∀v,lk env d=some v->vi ops env o=(CU v == some want):=λv hv=>by simp[vi,B,q,hv]
  split at h
  ·rename_i b Q;obtain⟨_,v,hv,hm⟩:=E _ _ Q;simp only at hm;subst hm;refine⟨K,E,?_,fin _ hv⟩;rw[hw _ hv];split at h
   ·exact .inl ⟨rfl,h⟩
   ·exact .inl ⟨rfl,h⟩
   ·rename_i h1 h2;refine .inr ⟨?_,h⟩;cases b <;> cases want <;> first | rfl | exact(h1 rfl rfl).elim | exact(h2 rfl rfl).elim
  ·rename_i Q;obtain⟨_,v,hv,hm⟩:=E _ _ Q;simp only at hm;subst hm;exact⟨K,E,.inr ⟨by rw[hw _ hv]; rfl,h⟩,fin _ hv⟩
  ·split at h <;> try contradiction
   rename_i v hv;split at h
   ·obtain⟨b,rfl,R,T⟩:=DN h;cases b with
    | true=>exact⟨_,E.add A hv (r:=some true) rfl,.inl ⟨by rw[hw _ hv]; rfl,R rfl⟩,fin _ hv⟩
    | false=>exact⟨_,E.add A hv (r:=some false) rfl,.inr ⟨by rw[hw _ hv]; rfl,T rfl⟩,fin _ hv⟩
   ·obtain⟨b,rfl,R,T⟩:=DN h;cases b with
    | true=>exact⟨_,E.add A hv (r:=some true) rfl,.inr ⟨by rw[hw _ hv]; rfl,R rfl⟩,fin _ hv⟩
    | false=>exact⟨_,E.add A hv (r:=some false) rfl,.inl ⟨by rw[hw _ hv]; rfl,T rfl⟩,fin _ hv⟩
def mP (P:Program) (F:Fence) (m n:Nat) (ops:Array Oper) (i:Nat) (o:Oper) (env:Env) (v:Value) (h:Hp):Prop:=
 ∀(a:Act) (w:World) (Q:Exit->Act->World->Prop) (next:Act->World->Prop),w.heap=h->m8 n env (o.looksAt ops) a->next (a.put o.dst v) w->wpOpIn F m P ops Q i next a w
def I6 {P:Program} {n:Nat} {env:Env} {op:Op} (q:tp P op=true) (h h':Hp):Dq P n env op h=Dq P n env op h':=by
 cases op <;> first | rfl | (simp[tp] at q; done) | skip
 rename_i c;obtain⟨cl,⟨cQ⟩,⟨ts⟩⟩:=c;cases cl with
 | value f=>simp[tp] at q
 | invoke r m=>simp[tp] at q
 | builtin b=>
  cases b <;> first | (simp[tp] at q; done) | skip
  ·cases ts with
   | nil=>simp[tp] at q
   | cons t r=>
    simp only[tp] at q;split at q
    ·rename_i u;match cQ with
     | []=>rfl
     | [x]=>simp only[Dq,u,Tl]
     | _::_::_=>rfl
    ·contradiction
  ·match cQ with
   | []=>rfl
   | [x]=>rfl
   | [x,y]=>rfl
   | _::_::_::_=>rfl
  ·match cQ with
   | []=>rfl
   | [x]=>rfl
   | [x,y]=>rfl
   | _::_::_::_=>rfl
def IY {P:Program} {n:Nat} {env:Env} {J:KB} {o:Oper} {h:Hp} {k:Value->Hp->Prop} (O:pN n J env) (H:dc P o.op=.p) (hs:step P n o.op env J h k) :
  ∃v,(∀(ρ:Operand->Value) (w:World),eL n env ρ->(execOp ρ o).run P w=.ok (.value v) w)/\k v h:=by
 have A:∀x v,(o.op=.move x\/o.op=.assign x)->ev n env x=some v->k v h->∃v,(∀(ρ:Operand->Value) (w:World),eL n env ρ->(execOp ρ o).run P w=.ok (.value v) w)/\k v h:=by
  intro x v ho hv K;refine⟨v,λρ w q=>?_,K⟩;rw[<-q x v hv];rcases ho with e | e <;> (unfold execOp; rw[e]; rfl)
 have N:tp P o.op=true->Vb (Dq P n env o.op h) (λv=>k v h)->∃v,(∀(ρ:Operand->Value) (w:World),eL n env ρ->(execOp ρ o).run P w=.ok (.value v) w)/\k v h:=by
  rintro B ⟨v,hv,K⟩;exact⟨v,λρ w q=>Cf q (by rw[I6 B w.heap h]; exact hv),K⟩
 unfold step at hs;split at hs
 ·rename_i x ho;split at hs <;> try contradiction
  rename_i v hv;exact A x v (.inl ho) hv hs
 ·rename_i x ho;split at hs <;> try contradiction
  rename_i v hv;exact A x v (.inr ho) hv hs
 ·rename_i c x y ho;have E:∀b,FV J c=some (some b)->ev n env (.tmp c)=some (.bool b):=by
   intro b G;obtain⟨Q,u,hu,hm⟩:=O _ _ G;simp only at hm;subst hm;have:Nat.blt c n=true:=by simpa[Nat.blt_eq] using Q
   simp[ev,this,hu]
  split at hs
  ·rename_i G;split at hs <;> try contradiction
   rename_i v hv;refine⟨v,λρ w q=>?_,hs⟩;unfold execOp; rw[ho]; simp[q _ _ (E _ G),q _ _ hv,asBool]
  ·rename_i G;split at hs <;> try contradiction
   rename_i v hv;refine⟨v,λρ w q=>?_,hs⟩;unfold execOp; rw[ho]; simp[q _ _ (E _ G),q _ _ hv,asBool]
  ·contradiction
  ·rw[<-ho] at hs; exact N (by rw[ho]; rfl) hs
 ·rename_i h1 h2 R;have B:Tb o.op=true/\tp P o.op=true:=by
   unfold dc at H;split at H
   ·rename_i L; exact(h1 _ L).elim
   ·rename_i L; exact(h2 _ L).elim
   ·contradiction
   ·contradiction
   ·split at H
    ·rename_i hv;split at H
     ·rename_i M; exact⟨hv,M⟩
     ·contradiction
    ·contradiction
  rw[B.1] at hs;exact N B.2 hs
def Tq {P:Program} {op:Op} (h:dc P op=.v):∀cs b,op≠.select cs b:=by
 intro cs b e; subst e; simp[dc] at h
def TJ {P:Program} {op:Op} (h:dc P op=.p):∀cs b,op≠.select cs b:=by
 intro cs b e; subst e; simp[dc] at h
def TG {P:Program} {op:Op} (h:dc P op=.e):∀cs b,op≠.select cs b:=by
 intro cs b e; subst e; simp[dc] at h
def zS {P:Program} {F:Fence} (hF:Wd F) {m n:Nat} {ops:Array Oper} {i:Nat} {o:Oper} {env:Env} {v:Value} {h:Hp} (ho:ops[i]?=some o) (hs:∀cs b,o.op≠.select cs b) (u:∀c,o.op≠.defer c)
  (hw:∀a,m8 n env (o.looksAt ops) a->Region.wanted o (yielded ops a.tmps)=true)
  (A:∀(ρ:Operand->Value) (w:World),w.heap=h->eL n env ρ->(execOp ρ o).run P w=.ok (.value v) w):mP P F m n ops i o env v h:=by
 intro a w Q next B q hn
 unfold wpOpIn;simp only[ho];rw[hw a q,if_pos rfl];refine⟨λf _=>hF.any f,?_⟩;rw[Oper.semAt_eq _ _ _ u,EF hs q,A _ w B BE,Oper.uponIn_value];exact hn
def EY {P:Program} {F:Fence} (hF:Wd F) {m n:Nat} {ops:Array Oper} {i:Nat} {o:Oper} {env:Env} {h:Hp} (ho:ops[i]?=some o)
  (hw:∀a,m8 n env (o.looksAt ops) a->Region.wanted o (yielded ops a.tmps)=false):mP P F m n ops i o env undef h:=by
 intro a w Q next u q hn
 unfold wpOpIn;simp only[ho];rw[hw a q];exact⟨λf _=>hF.any f,hn⟩
def Ew (listed:Array Bool) (j:Nat):Bool:=listed.getD j false
structure Ut (P:Program) (F:Fence) (m n:Nat) (ops:Array Oper) (pre:Array Nat) (pl:List Nat) (env:Env) (D:Nat->Bool) (a:Act) (h:Hp) (pend:List Pd) (i:Nat) (o:Oper) (env':Env) (pl':List Nat) (v:Value):Prop where
 at_:ops[i]?=some o
 sub:∀j∈pl',j∈pl
 run:mP P F m n ops i o env' v h
 fP:(∀h',mP P F m n ops i o env' v h')\/(∃p∈pend,p.i=i/\∀h',Dq P n p.env p.op h'=some p.v->mP P F m n ops i o env' v h')
 val:∀d,o.dst=some d->lk env d=some v
 fr:∀t u,t∈o.looksAt ops->t<n->lk env' t=some u->(∀j∈pl',iK ops j=some t->D j=true)->a.tmps.getD t undef=u
 h1:∀j∈pl',Pw ops j o=true->rel pre i j=true
 h2:∀j,j<ops.size->j≠i->j∉pl'->Pw ops j o=true->rel pre j i=true
 S9:∀j∈pl',∀t u,lk env' t=some u->iK ops j=some t->lk env t=some u
structure St (P:Program) (F:Fence) (m n:Nat) (ops:Array Oper) (pre:Array Nat) (pl:List Nat) (env:Env) (D:Nat->Bool) (a:Act) (h:Hp) (pend:List Pd) (T:List Nat) (b:Nat->Option Value):Prop where
 tr:∀t∈T,lk env t=b t
 sz:a.tmps.size=n
 df:∀v,lk env n=some v->∃ds:List Value,v=.tuple ⟨ds⟩/\a.defers=ds.map dec
 fr:∀t v,t<n->lk env t=some v->(∀j∈pl,iK ops j=some t->D j=true)->a.tmps.getD t undef=v
 sub:∀j,j<ops.size->D j=true->j∈pl
 S5:∀i,D i=true->∀j,j<ops.size->rel pre i j=true->D j=true
 lt:∀j∈pl,j<ops.size
 pd:∀i∈pl,D i=false->∃o env' pl' v,Ut P F m n ops pre pl env D a h pend i o env' pl' v
def tX (P:Program) (n:Nat) (ops:Array Oper) (pre:Array Nat) (pend:List Pd) (env:Env) (h:Hp) (k:Env->Hp->Prop):OT->Prop
 | .nil=>False
 | .kK a b=>tX P n ops pre pend env h k a/\tX P n ops pre pend env h k b
 | .cons e r=>∃o q,ops[e]?=some o/\dc P o.op=.e/\pN n q env/\(∀a,m8 n env (o.looksAt ops) a->Region.wanted o (yielded ops a.tmps)=true)/\
  Rl P n env o.op h λv h'=>BN P n (pre.getD e 0) h' (xZ P n ops pre r (zB (pre.getD e 0) pend) (put env o.dst v) (Ry q o.dst) h' k) pend
def DL (P:Program) (n:Nat) (ops:Array Oper) (pre:Array Nat) (rest:OT) (pend:List Pd) (env:Env) (h:Hp) (k:Env->Hp->Prop):Prop:=
 (rest=.nil/\k env h)\/tX P n ops pre pend env h k rest
def wC {ops:Array Oper} {i:Nat} {o:Oper} (h:ops[i]?=some o):i<ops.size:=(Array.getElem?_eq_some_iff.1 h).1
def uG {ops:Array Oper} {i:Nat} {o:Oper} (h:ops[i]?=some o):iK ops i=o.dst:=by simp[iK,h]
def CZ {ops:Array Oper} {j t:Nat} {o:Oper} (h:iK ops j=some t) (q:t∈o.looksAt ops):Pw ops j o=true:=by
 unfold Pw; rw[h]; simpa using q
def tE {P:Program} {n:Nat} {A:Nat} {h:Hp} {q:Prop}:∀{pend:List Pd},BN P n A h q pend->q/\∀p∈pend,A.testBit p.i=false->Dq P n p.env p.op h=some p.v
 | [],hs=>⟨hs,λp G=>by cases G⟩
 | p::r,hs=>by
  unfold BN at hs;split at hs
  ·rename_i E;obtain⟨h1,h2⟩:=tE (pend:=r) hs;refine⟨h1,λx B u=>?_⟩;rcases List.mem_cons.1 B with rfl | B
   ·rw[E] at u; cases u
   ·exact h2 x B u
  ·rename_i E;obtain⟨h1,h2⟩:=tE (pend:=r) hs.2;refine⟨h1,λx B u=>?_⟩;rcases List.mem_cons.1 B with rfl | B
   ·exact hs.1
   ·exact h2 x B u
def wK {h:Nat}:∀{pend:List Pd} {p:Pd},p∈pend->h.testBit p.i=false->p∈zB h pend
 | [],p,q,_=>by cases q
 | x::r,p,q,u=>by
  unfold zB;rcases List.mem_cons.1 q with rfl | q
  ·rw[u]; exact List.mem_cons_self ..
  ·split
   ·exact wK q u
   ·exact List.mem_cons_of_mem _ (wK q u)
section
variable {P:Program} {F:Fence} (hF:Wd F) {m n:Nat} {ops:Array Oper} {pre:Array Nat}
variable {T:List Nat} {b:Nat->Option Value} (hT:∀o∈ops.toList,∀d,o.dst=some d->d∉T)
variable (hn:rR n ops.toList=true) (hdist:∀i j d,i<ops.size->j<ops.size->iK ops i=some d->iK ops j=some d->i=j)
include hF hT hn hdist
def St.more {hs pl:List Nat} {i:Nat} {env:Env} {D:Nat->Bool} {a:Act} {h:Hp} {pend E:List Pd} {o:Oper} {v:Value} (B:R0 P ops pre hs pl i o) (hs:St P F m n ops pre pl env D a h pend T b)
  (hp:∀p∈pend,p∈E) (N:mP P F m n ops i o env v h) (K:(∀h',mP P F m n ops i o env v h')\/(∃p∈E,p.i=i/\∀h',Dq P n p.env p.op h'=some p.v->mP P F m n ops i o env v h')) :
  St P F m n ops pre (i::pl) (put env o.dst v) D a h E T b:=by
 have _:=hF;have hi:=wC B.at_;have O:=uG B.at_;have U:D i=false:=by
  cases hD:D i with
  | false=>rfl
  | true=>exact absurd (hs.sub i hi hD) B.Bf
 have J:∀j∈pl,∀t,iK ops j=some t->o.dst≠some t:=by
  intro j q t G e;rw[<-O] at e;have:=hdist j i t (hs.lt j q) hi G e;subst this;exact B.Bf q
 have H:∀t,o.dst≠some t->lk (put env o.dst v) t=lk env t:=by
  intro t L;cases M:o.dst with
  | none=>rfl
  | some d=>
   simp only[put];rw[dV,if_neg (λe=>L (by rw[M,e]))]
 have V:o.dst≠some n:=λe=>by
  exact Nat.lt_irrefl n (jL hn o (by rw[Array.mem_toList_iff]; exact Array.mem_of_getElem? B.at_) n e)
 refine⟨?_,hs.sz,?_,?_,?_,hs.S5,?_,?_⟩
 ·intro t L;rw[H t (λe=>hT o (by rw[Array.mem_toList_iff]; exact Array.mem_of_getElem? B.at_) t e L)];exact hs.tr t L
 ·intro u hu;rw[H n V] at hu;exact hs.df u hu
 ·intro t u L hu q;by_cases e:o.dst=some t
  ·have:=q i (List.mem_cons_self ..) (by rw[O]; exact e);rw[U] at this; cases this
  ·rw[H t e] at hu;exact hs.fr t u L hu λj X=>q j (List.mem_cons_of_mem _ X)
 ·exact λj q hD=>List.mem_cons_of_mem _ (hs.sub j q hD)
 ·intro j q;rcases List.mem_cons.1 q with rfl | q
  ·exact hi
  ·exact hs.lt j q
 ·intro x R Z;rcases List.mem_cons.1 R with rfl | R
  ·refine⟨o,env,pl,v,B.at_,λj q=>List.mem_cons_of_mem _ q,N,K,?_,?_,B.RZ,?_,?_⟩
   ·intro d M; rw[M]; simp only[put]; rw[dV,if_pos rfl]
   ·intro t u L aS hu q;exact hs.fr t u aS hu q
   ·exact λj q aT bY hh=>B.RY j q aT bY hh
   ·intro j q t u hu G;rw[H t (J j q t G)]; exact hu
  ·obtain⟨o',Q,dO,v',A⟩:=hs.pd x R Z;refine⟨o',Q,dO,v',A.at_,λj q=>List.mem_cons_of_mem _ (A.sub j q),A.run,?_,?_,A.fr,A.h1,A.h2,?_⟩
   ·rcases A.fP with hk | ⟨p,eQ,iF,iN⟩
    ·exact .inl hk
    ·exact .inr ⟨p,hp p eQ,iF,iN⟩
   ·intro d M;rw[H d (J x R d (by rw[uG A.at_]; exact M))];exact A.val d M
   ·intro j q t u hu G;rw[H t (J j (A.sub j q) t G)];exact A.S9 j q t u hu G
def advance {k:Env->Hp->Prop} {D:Nat->Bool} {a:Act} {h:Hp}:∀(rest:OT) (J pl:List Nat) (pend:List Pd) (env:Env) (Q:KB),oh P ops pre rest J pl=true->pN n Q env->St P F m n ops pre pl env D a h pend T b->
  xZ P n ops pre rest pend env Q h k->
  (oh P ops pre rest J pl=true/\St P F m n ops pre pl env D a h pend T b/\DL P n ops pre rest pend env h k)\/
  ∃L A u B,oh P ops pre A (nV A) L=true/\St P F m n ops pre L B D a h u T b/\DL P n ops pre A u B h k
 | .nil,J,pl,pend,env,Q,K,_,hs,E=>.inl ⟨K,hs,.inl ⟨rfl,E⟩⟩
 | .kK x y,J,pl,pend,env,Q,K,hK,hs,E=>by
  obtain⟨hE,hx,hy⟩:=zP K;rcases advance x J pl pend env Q hx hK hs E.1 with ⟨_,_,h1⟩| h1
  ·rcases advance y J pl pend env Q hy hK hs E.2 with ⟨_,_,h2⟩| h2
   ·rcases h1 with ⟨rfl,h1⟩| h1
    ·exact .inr ⟨pl,.nil,pend,env,hx,hs,.inl ⟨rfl,h1⟩⟩
    ·rcases h2 with ⟨rfl,h2⟩| h2
     ·exact .inr ⟨pl,.nil,pend,env,hy,hs,.inl ⟨rfl,h2⟩⟩
     ·exact .inl ⟨K,hs,.inr ⟨h1,h2⟩⟩
   ·exact .inr h2
  ·exact .inr h1
 | .cons i r,J,pl,pend,env,Q,K,hK,hs,E=>by
  obtain⟨⟨o,ho⟩,X⟩:=uE K;have fin:∀{u:List Pd} {B:Env} {N:KB},pN n N B->St P F m n ops pre (i::pl) B D a h u T b->xZ P n ops pre r u B N h k->
    ∃L A u B,oh P ops pre A (nV A) L=true/\St P F m n ops pre L B D a h u T b/\DL P n ops pre A u B h k:=λG aT bY=>by
   rcases advance r (nV r) (i::pl) _ _ _ X G aT bY with ⟨h1,h2,h3⟩| h1
   ·exact⟨_,_,_,_,h1,h2,h3⟩
   ·exact h1
  unfold xZ at E;simp only[ho.at_] at E;obtain⟨N,G,R,hw⟩:=OV hn hK E;rcases R with ⟨Z,E⟩| ⟨dO,E⟩
  ·have M:=λa ha=>(hw a ha).trans Z;split at E
   ·rename_i H;obtain⟨v,hr,E⟩:=IY G H E;have O:∀h',mP P F m n ops i o env v h':=λh'=>zS hF ho.at_ (TJ H) (by intro c e; rw[e] at H; simp[dc] at H) M λρ w _ U=>hr ρ w U;exact .inr (fin (G.put _ _) (hs.more hF hT hn hdist ho (λp H=>H) (O h) (.inl O)) E)
   ·rename_i H;obtain⟨v,hv,E⟩:=E;have O:∀h',Dq P n env o.op h'=some v->mP P F m n ops i o env v h':=λh' eQ=>zS hF ho.at_ (Tq H) (by intro c e; rw[e] at H; simp[dc] at H) M λρ w hh U=>Cf U (by rw[hh]; exact eQ);exact .inr (fin (G.put _ _)
     (hs.more hF hT hn hdist ho (λp H=>List.mem_cons_of_mem _ H) (O h hv) (.inr ⟨{i,env,op:=o.op,v},List.mem_cons_self ..,rfl,O⟩)) E)
   ·rename_i H;exact .inl ⟨K,hs,.inr ⟨o,N,ho.at_,H,G,M,E⟩⟩
   ·contradiction
  ·have M:=λa ha=>(hw a ha).trans dO;have O:∀h',mP P F m n ops i o env undef h':=λh'=>EY hF ho.at_ M;refine .inr (fin ?_ (hs.more hF hT hn hdist ho (λp H=>H) (O h) (.inl O)) E);cases aS:o.dst with
   | none=>simpa[put,Ue] using G
   | some d=>
    simp only[Ue,put];intro t q V;rw[nm] at V;by_cases e:d=t
    ·subst e;rw[if_pos rfl] at V;simp only[Option.some.injEq] at V;subst V;exact⟨jL hn o (by rw[Array.mem_toList_iff]; exact Array.mem_of_getElem? ho.at_) d aS,undef,by rw[dV,if_pos rfl],rfl⟩
    ·rw[if_neg e] at V;obtain⟨h1,v,h2,h3⟩:=G t q V;exact⟨h1,v,by rw[dV,if_neg e]; exact h2,h3⟩
end
def pX {P:Program} {n:Nat} {ops:Array Oper} {pre:Array Nat} {pend:List Pd} {env:Env} {h:Hp} {k:Env->Hp->Prop} {hs pl:List Nat}:∀{t:OT},oh P ops pre t hs pl=true->tX P n ops pre pend env h k t->∀i∈nV t,
  ∃r,oh P ops pre (.cons i r) hs pl=true/\tX P n ops pre pend env h k (.cons i r)
 | .nil,_,u,i,hi=>by cases hi
 | .cons e r,q,u,i,hi=>by
  simp only[nV,List.mem_singleton] at hi;subst hi;exact⟨r,q,u⟩
 | .kK x y,q,u,i,hi=>by
  obtain⟨_,A,B⟩:=zP q;rcases List.mem_append.1 hi with h1 | h1
  ·exact pX A u.1 i h1
  ·exact pX B u.2 i h1
def tT {P:Program} {n:Nat} {ops:Array Oper} {pre:Array Nat} {pend:List Pd} {env:Env} {h:Hp} {k:Env->Hp->Prop} {hs pl:List Nat}:∀{t:OT},oh P ops pre t hs pl=true->tX P n ops pre pend env h k t->
  ∃e r,oh P ops pre (.cons e r) hs pl=true/\tX P n ops pre pend env h k (.cons e r)
 | .nil,_,u=>u.elim
 | .cons e r,q,u=>⟨e,r,q,u⟩
 | .kK x y,q,u=>tT (zP q).2.1 u.1
def Q6 (ops:Array Oper) (listed:Array Bool):Nat:=((List.range ops.size).filter λi=>!listed.getD i true).length
def H8 {ops:Array Oper} {listed:Array Bool} (B:listed.size=ops.size) {i:Nat} (hi:i<ops.size) (G:listed.getD i true=false):Q6 ops listed=Q6 ops (listed.setIfInBounds i true)+1:=by
 unfold Q6;have H:∀j,(listed.setIfInBounds i true).getD j true=if i=j then true else listed.getD j true:=by
  intro j;simp only[Array.getD_eq_getD_getElem?,Array.getElem?_setIfInBounds];by_cases e:i=j
  ·subst e; simp[B,hi]
  ·simp[e]
 simp only[H];have key:∀(l:List Nat),l.Nodup->i∈l->(l.filter λj=>!listed.getD j true).length=(l.filter λj=>!(if i=j then true else listed.getD j true)).length+1:=by
  intro l;induction l with
  | nil=>intro _ h; cases h
  | cons x l J=>
   intro q hm;rw[List.nodup_cons] at q;rcases List.mem_cons.1 hm with rfl | hm
   ·rw[List.filter_cons_of_pos (by simp[G]),List.filter_cons_of_neg (by simp)];simp only[List.length_cons];congr 2;apply List.filter_congr;intro y K;have:i≠y:=λe=>q.1 (e▸K);simp[this]
   ·have u:i≠x:=λe=>q.1 (e▸hm);have:=J q.2 hm;by_cases E:listed.getD x true=true
    ·rw[List.filter_cons_of_neg (by simp[E]),List.filter_cons_of_neg (by simp[u,E])];exact this
    ·have A:listed.getD x true=false:=by simpa using E
     rw[List.filter_cons_of_pos (by simp[A]),List.filter_cons_of_pos (by simp[u,A])];simp only[List.length_cons,this]
 exact key _ List.nodup_range (List.mem_range.2 hi)
def vU {listed:Array Bool} {ops:Array Oper} (h:listed.size=ops.size) {i:Nat} (hi:i<ops.size):listed.getD i true=Ew listed i:=by
 unfold Ew;simp[Array.getD_eq_getD_getElem?,h,hi]
def OO {listed:Array Bool} {ops:Array Oper} (h:listed.size=ops.size) {i:Nat} (hi:i<ops.size) (j:Nat):Ew (listed.setIfInBounds i true) j=if i=j then true else Ew listed j:=by
 unfold Ew;simp only[Array.getD_eq_getD_getElem?,Array.getElem?_setIfInBounds];by_cases e:i=j
 ·subst e; simp[h,hi]
 ·simp[e]
section
variable {P:Program} {F:Fence} (hF:Wd F) {m n:Nat} {ops:Array Oper} {pre:Array Nat}
variable {T:List Nat} {b:Nat->Option Value} (hT:∀o∈ops.toList,∀d,o.dst=some d->d∉T)
variable (hn:rR n ops.toList=true) (hdist:∀i j d,i<ops.size->j<ops.size->iK ops i=some d->iK ops j=some d->i=j)
variable (rk:Nat->Nat) (hrk:∀i o,ops[i]?=some o->∀e∈o.after,Region.binds .any e=true->rk e.on<rk i/\e.on<ops.size)
variable (hclos:∀i o,ops[i]?=some o->∀j,j<ops.size->rel pre i j=true->∃e∈o.after,Region.binds .any e=true/\(e.on=j\/rel pre e.on j=true))
def wY {listed:Array Bool} (h:listed.size=ops.size) {i:Nat}:i∈Region.ready .any ops listed↔i<ops.size/\Ew listed i=false/\∃o,ops[i]?=some o/\∀e∈o.after,Region.binds .any e=true->Ew listed e.on=true:=by
 unfold Region.ready;simp only[List.mem_filter,List.mem_range,Bool.and_eq_true,Bool.not_eq_true'];constructor
 ·rintro⟨hi,h1,h2⟩;refine⟨hi,by rw[<-vU h hi]; exact h1,ops[i],Array.getElem?_eq_getElem hi,?_⟩;rw[Array.getElem?_eq_getElem hi] at h2;simp only[Option.map_some,Option.getD_some,Array.all_eq_true_iff_forall_mem,Bool.or_eq_true,Bool.not_eq_true'] at h2;intro e he u;rcases h2 e he with q | q
  ·rw[u] at q; cases q
  ·exact q
 ·rintro⟨hi,h1,o,ho,h2⟩;refine⟨hi,by rw[vU h hi]; exact h1,?_⟩;rw[ho];simp only[Option.map_some,Option.getD_some,Array.all_eq_true_iff_forall_mem,Bool.or_eq_true,Bool.not_eq_true'];intro e he;cases u:Region.binds .any e with
  | false=>exact .inl rfl
  | true=>exact .inr (h2 e he u)
include hrk in
theorem JG {listed:Array Bool} (q:listed.size=ops.size) (h:Region.ready .any ops listed=[]):∀i,i<ops.size->Ew listed i=true:=by
 have key:∀r i,rk i=r->i<ops.size->Ew listed i=true:=by
  intro r;induction r using Nat.strongRecOn with
  | _ r u=>
   intro i E hi;cases A:Ew listed i with
   | true=>rfl
   | false=>
    have:i∈Region.ready .any ops listed:=(wY q).2 ⟨hi,A,ops[i],Array.getElem?_eq_getElem hi,λe he B=>by
     obtain⟨h1,h2⟩:=hrk i ops[i] (Array.getElem?_eq_getElem hi) e he B;exact u (rk e.on) (by omega) e.on rfl h2⟩
    rw[h] at this;cases this
 exact λi hi=>key _ i rfl hi
include hF hT hn hdist hrk hclos in
theorem Bg {Q:Exit->Act->World->Prop} {w0:World} {k:Env->Hp->Prop} (hQ:∀env a w,wk n env a->l4 w0 w->(∀t∈T,lk env t=b t)->k env w.heap->Q .normal a w) :
  ∀(U:Nat) (listed:Array Bool) (a:Act) (w:World) (pl:List Nat) (rest:OT) (pend:List Pd) (env:Env),listed.size=ops.size->Q6 ops listed=U->oh P ops pre rest (nV rest) pl=true->
   St P F m n ops pre pl env (Ew listed) a w.heap pend T b->DL P n ops pre rest pend env w.heap k->l4 w0 w->wpAnyIn F m P .any ops Q U listed a w:=by
 have hend:∀(listed:Array Bool) (a:Act) (w:World) (pl:List Nat) (rest:OT) (pend:List Pd) (env:Env),listed.size=ops.size->oh P ops pre rest (nV rest) pl=true->
   St P F m n ops pre pl env (Ew listed) a w.heap pend T b->DL P n ops pre rest pend env w.heap k->l4 w0 w->Region.ready .any ops listed=[]->Q .normal a w:=by
  intro listed a w pl rest pend env K G hs ha hR eQ;have hall:=JG rk hrk K eQ;rcases ha with ⟨rfl,hk⟩| ha
  ·refine hQ env a w ⟨hs.sz,λt v X hv=>hs.fr t v X hv λj E _=>hall j (hs.lt j E),hs.df⟩ hR hs.tr hk
  ·obtain⟨e,r,G,_⟩:=tT G ha;obtain⟨⟨o',ho'⟩,_⟩:=uE G;exact absurd (hs.sub e (wC ho'.at_) (hall e (wC ho'.at_))) ho'.Bf
 intro U;induction U with
 | zero=>
  intro listed a w pl rest pend env K hu G hs ha hR;have eQ:Region.ready .any ops listed=[]:=by
   cases hr:Region.ready .any ops listed with
   | nil=>rfl
   | cons i l=>
    have hi:i∈Region.ready .any ops listed:=by rw[hr]; exact List.mem_cons_self ..
    obtain⟨h1,h2,_⟩:=(wY K).1 hi;have:=H8 K h1 (by rw[vU K h1]; exact h2);omega
  exact⟨eQ,hend listed a w pl rest pend env K G hs ha hR eQ⟩
 | succ U ih=>
  intro listed a w pl rest pend env K hu G hs ha hR;refine⟨hend listed a w pl rest pend env K G hs ha hR,λi hi=>?_⟩;obtain⟨H,hil,o,ho,iF⟩:=(wY K).1 hi;have M:∀j,j<ops.size->rel pre i j=true->Ew listed j=true:=by
   intro j E hr;obtain⟨e,he,hb,hc⟩:=hclos i o ho j E hr;rcases hc with rfl | hc
   ·exact iF e he hb
   ·exact hs.S5 e.on (iF e he hb) j E hc
  have hu':Q6 ops (listed.setIfInBounds i true)=U:=by
   have:=H8 K H (by rw[vU K H]; exact hil);omega
  have oR:(listed.setIfInBounds i true).size=ops.size:=by simp[K]
  have O:=λj=>OO K H j;have aS:=uG ho;by_cases hip:i∈pl
  ·
   obtain⟨o',env',pl',v,hp⟩:=hs.pd i hip hil;have:o'=o:=by have:=hp.at_; rw[ho] at this; exact(Option.some.inj this).symm
   subst this;have Z:∀d,o'.dst=some d->d<n:=λd R=>jL hn o' (by rw[Array.mem_toList_iff]; exact Array.mem_of_getElem? ho) d R;refine hp.run a w Q _ rfl ⟨hs.sz,λt u X J hu=>hp.fr t u X J hu λj E A=>M j (hs.lt j (hp.sub j E)) (hp.h1 j E (CZ A X))⟩ ?_;refine ih _ _ w pl rest pend env oR hu' G ⟨hs.tr,?_,?_,?_,?_,?_,hs.lt,?_⟩ ha hR
   ·cases R:o'.dst <;> simp[Act.put,hs.sz]
   ·intro u hu;obtain⟨ds,h1,h2⟩:=hs.df u hu;exact⟨ds,h1,by cases R:o'.dst <;> simpa[Act.put] using h2⟩
   ·intro t u J hu E;by_cases e:o'.dst=some t
    ·have:=hp.val t e;rw[this] at hu;simp only[Option.some.injEq] at hu;subst hu;rw[e,nI (by rw[hs.sz]; exact J),if_pos rfl]
    ·have L:(a.put o'.dst v).tmps.getD t undef=a.tmps.getD t undef:=by
      cases R:o'.dst with
      | none=>rfl
      | some d=>rw[nI (by rw[hs.sz]; exact Z d R),if_neg (λh=>e (by rw[R,h]))]
     rw[L];refine hs.fr t u J hu λj aT A=>?_;have:=E j aT A;rw[O] at this;split at this
     ·rename_i bY; subst bY; exact absurd (aS▸A) e
     ·exact this
   ·intro j E dO;rw[O] at dO;split at dO
    ·rename_i e; subst e; exact hip
    ·exact hs.sub j E dO
   ·intro x hx j E hr;rw[O] at hx⊢;split
    ·rfl
    ·split at hx
     ·rename_i e; subst e; exact M j E hr
     ·exact hs.S5 x hx j E hr
   ·intro x hx N;rw[O] at N;split at N
    ·cases N
    ·rename_i hix;obtain⟨ox,iN,rW,vx,q⟩:=hs.pd x hx N;refine⟨ox,iN,rW,vx,q.at_,q.sub,q.run,q.fP,q.val,?_,q.h1,q.h2,q.S9⟩;intro t u X J hu E;by_cases e:o'.dst=some t
     ·have hdt:iK ops i=some t:=by rw[aS]; exact e
      by_cases hin:i∈rW
      ·have h1:=q.S9 i hin t u hu hdt;have h2:=hp.val t e;rw[h2] at h1;simp only[Option.some.injEq] at h1;subst h1;rw[e,nI (by rw[hs.sz]; exact J),if_pos rfl]
      ·have:=M x (hs.lt x hx) (q.h2 i H hix hin (CZ hdt X));rw[N] at this; cases this
     ·have L:(a.put o'.dst v).tmps.getD t undef=a.tmps.getD t undef:=by
       cases R:o'.dst with
       | none=>rfl
       | some d=>rw[nI (by rw[hs.sz]; exact Z d R),if_neg (λh=>e (by rw[R,h]))]
      rw[L];refine q.fr t u X J hu λj aT A=>?_;have:=E j aT A;rw[O] at this;split at this
      ·rename_i bY; subst bY; exact absurd (aS▸A) e
      ·exact this
  ·
   rcases ha with ⟨rfl,_⟩| ha
   ·unfold oh at G;simp only[List.all_eq_true,List.mem_range,List.contains_eq_mem,decide_eq_true_eq] at G;exact absurd (G i H) hip
   ·by_cases hih:i∈nV rest
    ·obtain⟨r,G,ha⟩:=pX G ha i hih;obtain⟨oe,kb,oF,hdc,hK,hw,hE⟩:=ha;obtain⟨⟨B,V⟩,hok'⟩:=uE G;have:B=oe:=by have:=V.at_; rw[oF] at this; exact(Option.some.inj this).symm
     subst this;have:B=o:=by have:=oF; rw[ho] at this; exact(Option.some.inj this).symm
     subst this;have Z:∀d,B.dst=some d->d<n:=λd R=>jL hn B (by rw[Array.mem_toList_iff]; exact Array.mem_of_getElem? ho) d R;have iS:m8 n env (B.looksAt ops) a:=⟨hs.sz,λt u X J hu=>hs.fr t u J hu λj E A=>M j (hs.lt j E) (V.RZ j E (CZ A X))⟩;have hcong:=EF (TG hdc) iS;unfold wpOpIn;simp only[ho];rw[hw a iS,if_pos rfl];refine Hn hF (ρ:=Sj n env a) BE hcong hE _ Q λv w' hs' hk=>?_;obtain⟨hrest,hst⟩:=tE hk;have hoth:∀j∈pl,∀t,iK ops j=some t->B.dst≠some t:=by
      intro j E t A e;rw[<-aS] at e;have:=hdist j i t (hs.lt j E) H A e;subst this;exact V.Bf E
     have tO:∀t,B.dst≠some t->lk (put env B.dst v) t=lk env t:=by
      intro t X;cases R:B.dst with
      | none=>rfl
      | some d=>simp only[put]; rw[dV,if_neg (λe=>X (by rw[R,e]))]
     have hnn:B.dst≠some n:=λe=>Nat.lt_irrefl n (Z n e);have L:∀t,B.dst≠some t->(a.put B.dst v).tmps.getD t undef=a.tmps.getD t undef:=by
      intro t e;cases R:B.dst with
      | none=>rfl
      | some d=>rw[nI (by rw[hs.sz]; exact Z d R),if_neg (λh=>e (by rw[R,h]))]
     have hs2:St P F m n ops pre (i::pl) (put env B.dst v) (Ew (listed.setIfInBounds i true)) (a.put B.dst v) w'.heap (zB (pre.getD i 0) pend) T b:=by
      refine⟨λt X=>by rw[tO t (λe=>hT B (by rw[Array.mem_toList_iff]; exact Array.mem_of_getElem? ho) t e X)]; exact hs.tr t X,?_,?_,?_,?_,?_,?_,?_⟩
      ·cases R:B.dst <;> simp[Act.put,hs.sz]
      ·intro u hu;rw[tO n hnn] at hu;obtain⟨ds,h1,h2⟩:=hs.df u hu;exact⟨ds,h1,by cases R:B.dst <;> simpa[Act.put] using h2⟩
      ·intro t u J hu E;by_cases e:B.dst=some t
       ·rw[e] at hu⊢;simp only[put] at hu;rw[dV,if_pos rfl] at hu;simp only[Option.some.injEq] at hu;subst hu;rw[nI (by rw[hs.sz]; exact J),if_pos rfl]
       ·rw[tO t e] at hu;rw[L t e];refine hs.fr t u J hu λj aT A=>?_;have:=E j (List.mem_cons_of_mem _ aT) A;rw[O] at this;split at this
        ·rename_i bY; subst bY; exact absurd (aS▸A) e
        ·exact this
      ·intro j E dO;rw[O] at dO;split at dO
       ·rename_i e; subst e; exact List.mem_cons_self ..
       ·exact List.mem_cons_of_mem _ (hs.sub j E dO)
      ·intro x hx j E hr;rw[O] at hx⊢;split
       ·rfl
       ·split at hx
        ·rename_i e; subst e; exact M j E hr
        ·exact hs.S5 x hx j E hr
      ·intro j E;rcases List.mem_cons.1 E with rfl | E
       ·exact H
       ·exact hs.lt j E
      ·intro x hx N;rw[O] at N;split at N
       ·cases N
       ·rename_i hix;rcases List.mem_cons.1 hx with h1 | hx
        ·exact absurd h1.symm hix
        ·obtain⟨ox,iN,rW,vx,q⟩:=hs.pd x hx N;have uS:rel pre i x=false:=by
          cases hr:rel pre i x with
          | false=>rfl
          | true=>have:=M x (hs.lt x hx) hr; rw[N] at this; cases this
         have hrun:mP P F m n ops x ox iN vx w'.heap:=by
          rcases q.fP with hk' | ⟨p,hpm,hpi,hpv⟩
          ·exact hk' _
          ·exact hpv _ (hst p hpm (by rw[hpi]; exact uS))
         refine⟨ox,iN,rW,vx,q.at_,λj E=>List.mem_cons_of_mem _ (q.sub j E),hrun,?_,?_,?_,q.h1,q.h2,?_⟩
         ·rcases q.fP with hk' | ⟨p,hpm,hpi,hpv⟩
          ·exact .inl hk'
          ·exact .inr ⟨p,wK hpm (by rw[hpi]; exact uS),hpi,hpv⟩
         ·intro d R;rw[tO d (hoth x hx d (by rw[uG q.at_]; exact R))];exact q.val d R
         ·intro t u X J hu E;by_cases e:B.dst=some t
          ·have hdt:iK ops i=some t:=by rw[aS]; exact e
           have hnin:i∉rW:=λh=>V.Bf (q.sub i h);have:=M x (hs.lt x hx) (q.h2 i H hix hnin (CZ hdt X));rw[N] at this; cases this
          ·rw[L t e];refine q.fr t u X J hu λj aT A=>?_;have:=E j aT A;rw[O] at this;split at this
           ·rename_i bY; subst bY; exact absurd (aS▸A) e
           ·exact this
         ·intro j E t u hu A;rw[tO t (hoth j (q.sub j E) t A)];exact q.S9 j E t u hu A
     rcases advance hF hT hn hdist r (nV r) (i::pl) _ _ _ hok' (hK.put _ _) hs2 hrest with ⟨hok2,hst2,hah2⟩| ⟨pl2,rest2,pend2,env2,hok2,hst2,hah2⟩
     ·exact ih _ _ w' _ _ _ _ oR hu' hok2 hst2 hah2 (hR.trans hs')
     ·exact ih _ _ w' pl2 rest2 pend2 env2 oR hu' hok2 hst2 hah2 (hR.trans hs')
    ·
     obtain⟨e0,r0,hok0,ha0⟩:=tT G ha;obtain⟨⟨o0,ho0⟩,_⟩:=uE hok0;obtain⟨o1,_,ho1,hdc1,_⟩:=ha0;have:o0=o1:=by have:=ho0.at_; rw[ho1] at this; exact(Option.some.inj this).symm
     subst this;obtain⟨e,heh,hrel⟩:=ho0.wait hdc1 i H hip hih;obtain⟨r,V,hae⟩:=pX G ha e heh;obtain⟨⟨oe,oF⟩,_⟩:=uE V;have:=M e (wC oF.at_) hrel;exact absurd (hs.sub e (wC oF.at_) this) oF.Bf
end
def GL {P:Program} {F:Fence} (hF:Wd F) {m n:Nat} {ops:Array Oper} {pre:Array Nat} {ord:OT} (hm:P.follows .mixedOrders=true) (E:O9 P n ops pre ord=true) {Q:Exit->Act->World->Prop} {w0:World} {k:Env->Hp->Prop} {T:List Nat} {b:Nat->Option Value} (hT:∀o∈ops.toList,∀d,o.dst=some d->d∉T)
  (hQ:∀env a w,wk n env a->l4 w0 w->(∀t∈T,lk env t=b t)->k env w.heap->Q .normal a w) {env:Env} {a:Act} {w:World} {id:Nat} (K:∀t∈T,lk env t=b t) (R:wk n env a) (J:l4 w0 w) (h:xZ P n ops pre ord [] env [] w.heap k) :
  (Code.region id ops true).wpIn F m P Q a w:=by
 unfold O9 at E;simp only[Bool.and_eq_true,List.all_eq_true,List.mem_range,Bool.or_eq_true,Bool.not_eq_true'] at E;obtain⟨⟨⟨hn,L⟩,U⟩,V⟩:=E;have hdist:∀i j d,i<ops.size->j<ops.size->iK ops i=some d->iK ops j=some d->i=j:=by
  intro i j d hi B h1 h2;rcases L i hi j B with X | X
  ·exact Nat.eq_of_beq_eq_true X
  ·simp[HF,h1,h2] at X
 have M:∀i o,ops[i]?=some o->(∀e∈o.after,Region.binds .any e=true->(pathOf ord).idxOf e.on<(pathOf ord).idxOf i/\e.on<ops.size)/\∀j,j<ops.size->rel pre i j=true->∃e∈o.after,Region.binds .any e=true/\(e.on=j\/rel pre e.on j=true):=by
  intro i o ho;have:=U i (wC ho);simp only[ho,Bool.and_eq_true,List.all_eq_true,Array.mem_toList_iff,List.mem_range,Bool.or_eq_true,Bool.not_eq_true',List.any_eq_true,Nat.blt_eq] at this;refine⟨λe he K=>?_,λj B hr=>?_⟩
  ·rcases this.1 e he with h2 | h2
   ·rw[K] at h2; cases h2
   ·exact h2
  ·rcases this.2 j B with h2 | h2
   ·rw[hr] at h2; cases h2
   ·obtain⟨e,he,K,hc⟩:=h2;exact⟨e,he,K,hc.imp Nat.eq_of_beq_eq_true (λh=>h)⟩
 have hrk:∀i o,ops[i]?=some o->∀e∈o.after,Region.binds .any e=true->(pathOf ord).idxOf e.on<(pathOf ord).idxOf i/\e.on<ops.size:=λi o ho=>(M i o ho).1;have hclos:∀i o,ops[i]?=some o->∀j,j<ops.size->rel pre i j=true->∃e∈o.after,Region.binds .any e=true/\(e.on=j\/rel pre e.on j=true):=λi o ho=>(M i o ho).2;refine wpIn_region_any hm ?_;have N:∀j,Ew (Array.replicate ops.size false) j=false:=by
  intro j;unfold Ew;simp only[Array.getD_eq_getD_getElem?,Array.getElem?_replicate];split <;> rfl
 have hu:Q6 ops (Array.replicate ops.size false)=ops.size:=by
  unfold Q6;rw[List.filter_eq_self.2]
  ·simp
  ·intro j B;have:j<ops.size:=List.mem_range.1 B;simp[Array.getD_eq_getD_getElem?,this]
 have Z:St P F m n ops pre [] env (Ew (Array.replicate ops.size false)) a w.heap [] T b:=
  ⟨K,R.sz,R.df,λt v ht hv _=>R.sl t v ht hv,λj _ hD=>(by rw[N] at hD; cases hD),λi hD=>(by rw[N] at hD; cases hD),λj B=>(by cases B),λj B=>(by cases B)⟩
 rcases advance hF hT hn hdist ord (nV ord) [] [] env [] V (pN.nil n env) Z h with ⟨q,u,A⟩| ⟨aS,G,H,O,q,u,A⟩
 ·exact Bg hF hT hn hdist ((pathOf ord).idxOf ·) hrk hclos hQ ops.size (Array.replicate ops.size false) a {w with drawn:=w.drawn+1} _ _ _ _ (by simp) hu q u A ⟨J.os,J.tape,J.output⟩
 ·exact Bg hF hT hn hdist ((pathOf ord).idxOf ·) hrk hclos hQ ops.size (Array.replicate ops.size false) a {w with drawn:=w.drawn+1} aS G H O (by simp) hu q u A ⟨J.os,J.tape,J.output⟩
noncomputable def Nat.vz {p:Nat->Prop} (h:∃n,p n):Nat:=by
 classical
 exact(Classical.epsilon λn=>p n/\∀k,p k->n<=k)
def Nat.Aa {p:Nat->Prop} (h:∃n,p n):p (Nat.vz h)/\∀k,p k->Nat.vz h<=k:=by
 have key:∀n,p n->∃m,p m/\∀k,p k->m<=k:=by
  intro n;induction n using Nat.strongRecOn with
  | _ n E=>
   intro q;by_cases B:∃k,k<n/\p k
   ·obtain⟨k,u,F⟩:=B; exact E k u F
   ·exact⟨n,q,λk u=>Nat.le_of_not_lt λA=>B ⟨k,A,u⟩⟩
 obtain⟨n,q⟩:=h;exact Classical.epsilon_spec (p:=λn=>p n/\∀k,p k->n<=k) (key n q)
def Nat.nZ {p:Nat->Prop} (h:∃n,p n):p (Nat.vz h):=(Nat.Aa h).1
def Nat.pM {p:Nat->Prop} (h:∃n,p n) {k:Nat} (q:p k):Nat.vz h<=k:=(Nat.Aa h).2 k q
def Cm (K:Hp->Prop) (body:(Hp->Prop)->Prop):Prop:=∃J:Hp->Prop,body J/\∀h,J h->K h
def Fm (h:Hp) (body:Hp->(Hp->Prop)->Prop):Prop:=
 ∃(I:Hp->Prop) (m:Hp->Nat),I h/\∀h,I h->body h λh'=>I h'/\m h'<m h
def Cm.here {K:Hp->Prop} {body:(Hp->Prop)->Prop} (h:body K):Cm K body:=⟨K,h,λ_ h=>h⟩
def Cm.at {K:Hp->Prop} {body:(Hp->Prop)->Prop} (J:Hp->Prop) (h:body J) (h':∀h,J h->K h):Cm K body:=⟨J,h,h'⟩
def Fm.by {α:Type} {h:Hp} {body:Hp->(Hp->Prop)->Prop} (I:α->Hp->Prop) (m:α->Nat) (x:α) (F:I x h)
  (G:∀x h,I x h->∀again:Hp->Prop,(∀u h,I u h->m u<m x->again h)->body h again):Fm h body:=by
 classical
 refine⟨λh=>∃x,I x h,λh=>if e:∃n x,I x h/\m x=n then Nat.vz e else 0,⟨x,F⟩,λh H=>?_⟩;have e:∃n x,I x h/\m x=n:=let⟨x,A⟩:=H; ⟨_,x,A,rfl⟩;obtain⟨x,A,hm⟩:=Nat.nZ e;refine G x h A _ λu h q B=>⟨⟨u,q⟩,?_⟩;have E:∃n x,I x h/\m x=n:=⟨_,u,q,rfl⟩;dsimp only;rw[dif_pos E,dif_pos e];exact Nat.lt_of_le_of_lt (Nat.pM E ⟨u,q,rfl⟩) (by rw[<-hm]; exact B)
def m3 (K:Value->Hp->Prop) (body:(Value->Hp->Prop)->Prop):Prop:=∃J:Value->Hp->Prop,body J/\∀q h,J q h->K q h
def oP (q:Value) (h:Hp) (body:Value->Hp->(Value->Hp->Prop)->Prop):Prop:=
 ∃(I:Value->Hp->Prop) (m:Value->Hp->Nat),I q h/\∀q h,I q h->body q h λu h'=>I u h'/\m u h'<m q h
def m3.here {K:Value->Hp->Prop} {body:(Value->Hp->Prop)->Prop} (h:body K):m3 K body:=⟨K,h,λq _ h=>h⟩
def m3.at {K:Value->Hp->Prop} {body:(Value->Hp->Prop)->Prop} (J:Value->Hp->Prop) (h:body J) (h':∀q h,J q h->K q h):m3 K body:=⟨J,h,h'⟩
def oP.by {α:Type} {q:Value} {h:Hp} {body:Value->Hp->(Value->Hp->Prop)->Prop} (I:α->Value->Hp->Prop) (m:α->Nat) (x:α) (G:I x q h)
  (H:∀x q h,I x q h->∀again:Value->Hp->Prop,(∀A q h,I A q h->m A<m x->again q h)->body q h again):oP q h body:=by
 classical
 refine⟨λq h=>∃x,I x q h,λq h=>if e:∃n x,I x q h/\m x=n then Nat.vz e else 0,⟨x,G⟩,λq h J=>?_⟩;have e:∃n x,I x q h/\m x=n:=let⟨x,B⟩:=J; ⟨_,x,B,rfl⟩;obtain⟨x,B,hm⟩:=Nat.nZ e;refine H x q h B _ λA q h u E=>⟨⟨A,u⟩,?_⟩;have F:∃n x,I x q h/\m x=n:=⟨_,A,u,rfl⟩;dsimp only;rw[dif_pos F,dif_pos e];exact Nat.lt_of_le_of_lt (Nat.pM F ⟨A,u,rfl⟩) (by rw[<-hm]; exact E)
def Du (K:Value->Value->Hp->Prop) (body:(Value->Value->Hp->Prop)->Prop):Prop:=∃J:Value->Value->Hp->Prop,body J/\∀q u h,J q u h->K q u h
def wA (q u:Value) (h:Hp) (body:Value->Value->Hp->(Value->Value->Hp->Prop)->Prop):Prop:=
 ∃(I:Value->Value->Hp->Prop) (m:Value->Value->Hp->Nat),I q u h/\∀q u h,I q u h->body q u h λA B h'=>I A B h'/\m A B h'<m q u h
def Du.here {K:Value->Value->Hp->Prop} {body:(Value->Value->Hp->Prop)->Prop} (h:body K):Du K body:=⟨K,h,λq u _ h=>h⟩
def Du.at {K:Value->Value->Hp->Prop} {body:(Value->Value->Hp->Prop)->Prop} (J:Value->Value->Hp->Prop) (h:body J) (h':∀q u h,J q u h->K q u h):Du K body:=⟨J,h,h'⟩
def wA.by {α:Type} {q u:Value} {h:Hp} {body:Value->Value->Hp->(Value->Value->Hp->Prop)->Prop} (I:α->Value->Value->Hp->Prop) (m:α->Nat) (x:α) (H:I x q u h)
  (J:∀x q u h,I x q u h->∀again:Value->Value->Hp->Prop,(∀B q u h,I B q u h->m B<m x->again q u h)->body q u h again):wA q u h body:=by
 classical
 refine⟨λq u h=>∃x,I x q u h,λq u h=>if e:∃n x,I x q u h/\m x=n then Nat.vz e else 0,⟨x,H⟩,λq u h K=>?_⟩;have e:∃n x,I x q u h/\m x=n:=let⟨x,E⟩:=K; ⟨_,x,E,rfl⟩;obtain⟨x,E,hm⟩:=Nat.nZ e;refine J x q u h E _ λB q u h A F=>⟨⟨B,A⟩,?_⟩;have G:∃n x,I x q u h/\m x=n:=⟨_,B,A,rfl⟩;dsimp only;rw[dif_pos G,dif_pos e];exact Nat.lt_of_le_of_lt (Nat.pM G ⟨B,A,rfl⟩) (by rw[<-hm]; exact F)
def Vo (K:Value->Value->Value->Hp->Prop) (body:(Value->Value->Value->Hp->Prop)->Prop):Prop:=∃J:Value->Value->Value->Hp->Prop,body J/\∀q u A h,J q u A h->K q u A h
def Km (q u A:Value) (h:Hp) (body:Value->Value->Value->Hp->(Value->Value->Value->Hp->Prop)->Prop):Prop:=
 ∃(I:Value->Value->Value->Hp->Prop) (m:Value->Value->Value->Hp->Nat),I q u A h/\∀q u A h,I q u A h->body q u A h λB E F h'=>I B E F h'/\m B E F h'<m q u A h
def Km.by {α:Type} {q u A:Value} {h:Hp} {body:Value->Value->Value->Hp->(Value->Value->Value->Hp->Prop)->Prop} (I:α->Value->Value->Value->Hp->Prop) (m:α->Nat) (x:α) (J:I x q u A h)
  (K:∀x q u A h,I x q u A h->∀again:Value->Value->Value->Hp->Prop,(∀E q u A h,I E q u A h->m E<m x->again q u A h)->body q u A h again):Km q u A h body:=by
 classical
 refine⟨λq u A h=>∃x,I x q u A h,λq u A h=>if e:∃n x,I x q u A h/\m x=n then Nat.vz e else 0,⟨x,J⟩,λq u A h L=>?_⟩;have e:∃n x,I x q u A h/\m x=n:=let⟨x,F⟩:=L; ⟨_,x,F,rfl⟩;obtain⟨x,F,hm⟩:=Nat.nZ e;refine K x q u A h F _ λE q u A h B G=>⟨⟨E,B⟩,?_⟩;have H:∃n x,I x q u A h/\m x=n:=⟨_,E,B,rfl⟩;dsimp only;rw[dif_pos H,dif_pos e];exact Nat.lt_of_le_of_lt (Nat.pM H ⟨E,B,rfl⟩) (by rw[<-hm]; exact G)
def Vn (K:Value->Value->Value->Value->Hp->Prop) (body:(Value->Value->Value->Value->Hp->Prop)->Prop):Prop:=∃J:Value->Value->Value->Value->Hp->Prop,body J/\∀q u A B h,J q u A B h->K q u A B h
def U8 (q u A B:Value) (h:Hp) (body:Value->Value->Value->Value->Hp->(Value->Value->Value->Value->Hp->Prop)->Prop):Prop:=
 ∃(I:Value->Value->Value->Value->Hp->Prop) (m:Value->Value->Value->Value->Hp->Nat),I q u A B h/\∀q u A B h,I q u A B h->body q u A B h λE F G H h'=>I E F G H h'/\m E F G H h'<m q u A B h
def U3 (K:Value->Value->Value->Value->Value->Hp->Prop) (body:(Value->Value->Value->Value->Value->Hp->Prop)->Prop):Prop:=∃J:Value->Value->Value->Value->Value->Hp->Prop,body J/\∀q u A B E h,J q u A B E h->K q u A B E h
def Vc (q u A B E:Value) (h:Hp) (body:Value->Value->Value->Value->Value->Hp->(Value->Value->Value->Value->Value->Hp->Prop)->Prop):Prop:=
 ∃(I:Value->Value->Value->Value->Value->Hp->Prop) (m:Value->Value->Value->Value->Value->Hp->Nat),I q u A B E h/\∀q u A B E h,I q u A B E h->body q u A B E h λF G H J K h'=>I F G H J K h'/\m F G H J K h'<m q u A B E h
def U9 (K:Value->Value->Value->Value->Value->Value->Hp->Prop) (body:(Value->Value->Value->Value->Value->Value->Hp->Prop)->Prop):Prop:=∃J:Value->Value->Value->Value->Value->Value->Hp->Prop,body J/\∀q u A B E F h,J q u A B E F h->K q u A B E F h
def Vr (q u A B E F:Value) (h:Hp) (body:Value->Value->Value->Value->Value->Value->Hp->(Value->Value->Value->Value->Value->Value->Hp->Prop)->Prop):Prop:=
 ∃(I:Value->Value->Value->Value->Value->Value->Hp->Prop) (m:Value->Value->Value->Value->Value->Value->Hp->Nat),I q u A B E F h/\∀q u A B E F h,I q u A B E F h->body q u A B E F h λG H J K L M h'=>I G H J K L M h'/\m G H J K L M h'<m q u A B E F h
def Vq (K:Value->Value->Value->Value->Value->Value->Value->Hp->Prop) (body:(Value->Value->Value->Value->Value->Value->Value->Hp->Prop)->Prop):Prop:=∃J:Value->Value->Value->Value->Value->Value->Value->Hp->Prop,body J/\∀q u A B E F G h,J q u A B E F G h->K q u A B E F G h
def U7 (q u A B E F G:Value) (h:Hp) (body:Value->Value->Value->Value->Value->Value->Value->Hp->(Value->Value->Value->Value->Value->Value->Value->Hp->Prop)->Prop):Prop:=
 ∃(I:Value->Value->Value->Value->Value->Value->Value->Hp->Prop) (m:Value->Value->Value->Value->Value->Value->Value->Hp->Nat),I q u A B E F G h/\∀q u A B E F G h,I q u A B E F G h->body q u A B E F G h λH J K L M N O h'=>I H J K L M N O h'/\m H J K L M N O h'<m q u A B E F G h
def U4 (K:Value->Value->Value->Value->Value->Value->Value->Value->Hp->Prop) (body:(Value->Value->Value->Value->Value->Value->Value->Value->Hp->Prop)->Prop):Prop:=∃J:Value->Value->Value->Value->Value->Value->Value->Value->Hp->Prop,body J/\∀q u A B E F G H h,J q u A B E F G H h->K q u A B E F G H h
def VE (q u A B E F G H:Value) (h:Hp) (body:Value->Value->Value->Value->Value->Value->Value->Value->Hp->(Value->Value->Value->Value->Value->Value->Value->Value->Hp->Prop)->Prop):Prop:=
 ∃(I:Value->Value->Value->Value->Value->Value->Value->Value->Hp->Prop) (m:Value->Value->Value->Value->Value->Value->Value->Value->Hp->Nat),I q u A B E F G H h/\∀q u A B E F G H h,I q u A B E F G H h->body q u A B E F G H h λJ K L M N O Q R h'=>I J K L M N O Q R h'/\m J K L M N O Q R h'<m q u A B E F G H h
def VA (K:Value->Value->Value->Value->Value->Value->Value->Value->Value->Hp->Prop) (body:(Value->Value->Value->Value->Value->Value->Value->Value->Value->Hp->Prop)->Prop):Prop:=∃J:Value->Value->Value->Value->Value->Value->Value->Value->Value->Hp->Prop,body J/\∀q u A B E F G H L h,J q u A B E F G H L h->K q u A B E F G H L h
def Vs (q u A B E F G H J:Value) (h:Hp) (body:Value->Value->Value->Value->Value->Value->Value->Value->Value->Hp->(Value->Value->Value->Value->Value->Value->Value->Value->Value->Hp->Prop)->Prop):Prop:=
 ∃(I:Value->Value->Value->Value->Value->Value->Value->Value->Value->Hp->Prop) (m:Value->Value->Value->Value->Value->Value->Value->Value->Value->Hp->Nat),I q u A B E F G H J h/\∀q u A B E F G H J h,I q u A B E F G H J h->body q u A B E F G H J h λK L M N O Q R T U h'=>I K L M N O Q R T U h'/\m K L M N O Q R T U h'<m q u A B E F G H J h
def TR (K:Value->Value->Value->Value->Value->Value->Value->Value->Value->Value->Hp->Prop) (body:(Value->Value->Value->Value->Value->Value->Value->Value->Value->Value->Hp->Prop)->Prop):Prop:=∃J:Value->Value->Value->Value->Value->Value->Value->Value->Value->Value->Hp->Prop,body J/\∀q u A B E F G H L M h,J q u A B E F G H L M h->K q u A B E F G H L M h
def TY (q u A B E F G H J K:Value) (h:Hp) (body:Value->Value->Value->Value->Value->Value->Value->Value->Value->Value->Hp->(Value->Value->Value->Value->Value->Value->Value->Value->Value->Value->Hp->Prop)->Prop):Prop:=
 ∃(I:Value->Value->Value->Value->Value->Value->Value->Value->Value->Value->Hp->Prop) (m:Value->Value->Value->Value->Value->Value->Value->Value->Value->Value->Hp->Nat),I q u A B E F G H J K h/\∀q u A B E F G H J K h,I q u A B E F G H J K h->body q u A B E F G H J K h λL M N O Q R T U V X h'=>I L M N O Q R T U V X h'/\m L M N O Q R T U V X h'<m q u A B E F G H J K h
def QG (J:Hp->Prop) (vs:List Value) (h:Hp):Prop:=
 match vs with
 | []=>J h
 | _=>False
def Q0 (J:Value->Hp->Prop) (vs:List Value) (h:Hp):Prop:=
 match vs with
 | [q]=>J q h
 | _=>False
def Qy (J:Value->Value->Hp->Prop) (vs:List Value) (h:Hp):Prop:=
 match vs with
 | [q,u]=>J q u h
 | _=>False
def QY (J:Value->Value->Value->Hp->Prop) (vs:List Value) (h:Hp):Prop:=
 match vs with
 | [q,u,A]=>J q u A h
 | _=>False
def Qu (J:Value->Value->Value->Value->Hp->Prop) (vs:List Value) (h:Hp):Prop:=
 match vs with
 | [q,u,A,B]=>J q u A B h
 | _=>False
def Q9 (J:Value->Value->Value->Value->Value->Hp->Prop) (vs:List Value) (h:Hp):Prop:=
 match vs with
 | [q,u,A,B,E]=>J q u A B E h
 | _=>False
def P0 (J:Value->Value->Value->Value->Value->Value->Hp->Prop) (vs:List Value) (h:Hp):Prop:=
 match vs with
 | [q,u,A,B,E,F]=>J q u A B E F h
 | _=>False
def P9 (J:Value->Value->Value->Value->Value->Value->Value->Hp->Prop) (vs:List Value) (h:Hp):Prop:=
 match vs with
 | [q,u,A,B,E,F,G]=>J q u A B E F G h
 | _=>False
def Rc (J:Value->Value->Value->Value->Value->Value->Value->Value->Hp->Prop) (vs:List Value) (h:Hp):Prop:=
 match vs with
 | [q,u,A,B,E,F,G,H]=>J q u A B E F G H h
 | _=>False
def Ra (J:Value->Value->Value->Value->Value->Value->Value->Value->Value->Hp->Prop) (vs:List Value) (h:Hp):Prop:=
 match vs with
 | [q,u,A,B,E,F,G,H,K]=>J q u A B E F G H K h
 | _=>False
def FB (J:Value->Value->Value->Value->Value->Value->Value->Value->Value->Value->Hp->Prop) (vs:List Value) (h:Hp):Prop:=
 match vs with
 | [q,u,A,B,E,F,G,H,K,L]=>J q u A B E F G H K L h
 | _=>False
def Tt (S:List Nat) (K:List Value->Hp->Prop) (body:(List Value->Hp->Prop)->Prop):Prop:=
 match S with
 | []=>Cm (K []) (λJ=>body (QG J))
 | [_]=>m3 (λh=>K [h]) (λJ=>body (Q0 J))
 | [_,_]=>Du (λh q=>K [h,q]) (λJ=>body (Qy J))
 | [_,_,_]=>Vo (λh q u=>K [h,q,u]) (λJ=>body (QY J))
 | [_,_,_,_]=>Vn (λh q u A=>K [h,q,u,A]) (λJ=>body (Qu J))
 | [_,_,_,_,_]=>U3 (λh q u A B=>K [h,q,u,A,B]) (λJ=>body (Q9 J))
 | [_,_,_,_,_,_]=>U9 (λh q u A B E=>K [h,q,u,A,B,E]) (λJ=>body (P0 J))
 | [_,_,_,_,_,_,_]=>Vq (λh q u A B E F=>K [h,q,u,A,B,E,F]) (λJ=>body (P9 J))
 | [_,_,_,_,_,_,_,_]=>U4 (λh q u A B E F G=>K [h,q,u,A,B,E,F,G]) (λJ=>body (Rc J))
 | [_,_,_,_,_,_,_,_,_]=>VA (λh q u A B E F G H=>K [h,q,u,A,B,E,F,G,H]) (λJ=>body (Ra J))
 | [_,_,_,_,_,_,_,_,_,_]=>TR (λh q u A B E F G H L=>K [h,q,u,A,B,E,F,G,H,L]) (λJ=>body (FB J))
 | _=>False
def TC (S:List Nat) (K:List Value) (h:Hp) (body:List Value->Hp->(List Value->Hp->Prop)->Prop):Prop:=
 match S,K with
 | [],[]=>Fm h (λh again=>body [] h (QG again))
 | [_],[i0]=>oP i0 h (λq h again=>body [q] h (Q0 again))
 | [_,_],[i0,i1]=>wA i0 i1 h (λq u h again=>body [q,u] h (Qy again))
 | [_,_,_],[i0,i1,i2]=>Km i0 i1 i2 h (λq u A h again=>body [q,u,A] h (QY again))
 | [_,_,_,_],[i0,i1,i2,i3]=>U8 i0 i1 i2 i3 h (λq u A B h again=>body [q,u,A,B] h (Qu again))
 | [_,_,_,_,_],[i0,i1,i2,i3,i4]=>Vc i0 i1 i2 i3 i4 h (λq u A B E h again=>body [q,u,A,B,E] h (Q9 again))
 | [_,_,_,_,_,_],[i0,i1,i2,i3,i4,i5]=>Vr i0 i1 i2 i3 i4 i5 h (λq u A B E F h again=>body [q,u,A,B,E,F] h (P0 again))
 | [_,_,_,_,_,_,_],[i0,i1,i2,i3,i4,i5,i6]=>U7 i0 i1 i2 i3 i4 i5 i6 h (λq u A B E F G h again=>body [q,u,A,B,E,F,G] h (P9 again))
 | [_,_,_,_,_,_,_,_],[i0,i1,i2,i3,i4,i5,i6,i7]=>VE i0 i1 i2 i3 i4 i5 i6 i7 h (λq u A B E F G H h again=>body [q,u,A,B,E,F,G,H] h (Rc again))
 | [_,_,_,_,_,_,_,_,_],[i0,i1,i2,i3,i4,i5,i6,i7,i8]=>Vs i0 i1 i2 i3 i4 i5 i6 i7 i8 h (λq u A B E F G H J h again=>body [q,u,A,B,E,F,G,H,J] h (Ra again))
 | [_,_,_,_,_,_,_,_,_,_],[i0,i1,i2,i3,i4,i5,i6,i7,i8,i9]=>TY i0 i1 i2 i3 i4 i5 i6 i7 i8 i9 h (λq u A B E F G H J L h again=>body [q,u,A,B,E,F,G,H,J,L] h (FB again))
 | _,_=>False
def JW {S:List Nat} {K:List Value->Hp->Prop} {body:(List Value->Hp->Prop)->Prop} (h:Tt S K body):∃J:List Value->Hp->Prop,body J/\∀vs h,J vs h->K vs h:=by
 unfold Tt at h;split at h
 ·obtain⟨J,u,A⟩:=h;refine⟨_,u,λvs h q=>?_⟩;unfold QG at q;split at q
  ·exact A _ q
  ·exact q.elim
 ·obtain⟨J,u,A⟩:=h;refine⟨_,u,λvs h q=>?_⟩;unfold Q0 at q;split at q
  ·exact A _ _ q
  ·exact q.elim
 ·obtain⟨J,u,A⟩:=h;refine⟨_,u,λvs h q=>?_⟩;unfold Qy at q;split at q
  ·exact A _ _ _ q
  ·exact q.elim
 ·obtain⟨J,u,A⟩:=h;refine⟨_,u,λvs h q=>?_⟩;unfold QY at q;split at q
  ·exact A _ _ _ _ q
  ·exact q.elim
 ·obtain⟨J,u,A⟩:=h;refine⟨_,u,λvs h q=>?_⟩;unfold Qu at q;split at q
  ·exact A _ _ _ _ _ q
  ·exact q.elim
 ·obtain⟨J,u,A⟩:=h;refine⟨_,u,λvs h q=>?_⟩;unfold Q9 at q;split at q
  ·exact A _ _ _ _ _ _ q
  ·exact q.elim
 ·obtain⟨J,u,A⟩:=h;refine⟨_,u,λvs h q=>?_⟩;unfold P0 at q;split at q
  ·exact A _ _ _ _ _ _ _ q
  ·exact q.elim
 ·obtain⟨J,u,A⟩:=h;refine⟨_,u,λvs h q=>?_⟩;unfold P9 at q;split at q
  ·exact A _ _ _ _ _ _ _ _ q
  ·exact q.elim
 ·obtain⟨J,u,A⟩:=h;refine⟨_,u,λvs h q=>?_⟩;unfold Rc at q;split at q
  ·exact A _ _ _ _ _ _ _ _ _ q
  ·exact q.elim
 ·obtain⟨J,u,A⟩:=h;refine⟨_,u,λvs h q=>?_⟩;unfold Ra at q;split at q
  ·exact A _ _ _ _ _ _ _ _ _ _ q
  ·exact q.elim
 ·obtain⟨J,u,A⟩:=h;refine⟨_,u,λvs h q=>?_⟩;unfold FB at q;split at q
  ·exact A _ _ _ _ _ _ _ _ _ _ _ q
  ·exact q.elim
 ·exact h.elim
def Jw {S:List Nat} {iv:List Value} {h:Hp} {body:List Value->Hp->(List Value->Hp->Prop)->Prop} (H:TC S iv h body) :
  ∃(I:List Value->Hp->Prop) (m:List Value->Hp->Nat) (C:List Value->Hp->List Value->Hp->Prop),I iv h/\(∀vs h,I vs h->body vs h (C vs h))/\∀vs h M h',C vs h M h'->I M h'/\m M h'<m vs h:=by
 unfold TC at H;split at H
 ·obtain⟨I,m,T,U⟩:=H;refine⟨QG I,λvs h=>match vs with
   | []=>m h
   | _=>0,λvs h=>match vs with
   | []=>QG (λh'=>I h'/\m h'<m h)
   | _=>λ_ _=>False,T,λvs h A=>?_,λvs h M h' q=>?_⟩
  ·unfold QG at A;split at A
   ·exact U _ A
   ·exact A.elim
  ·dsimp only at q;split at q
   ·unfold QG at q;split at q
    ·exact q
    ·exact q.elim
   ·exact q.elim
 ·obtain⟨I,m,T,U⟩:=H;refine⟨Q0 I,λvs h=>match vs with
   | [G]=>m G h
   | _=>0,λvs h=>match vs with
   | [G]=>Q0 (λu h'=>I u h'/\m u h'<m G h)
   | _=>λ_ _=>False,T,λvs h A=>?_,λvs h M h' q=>?_⟩
  ·unfold Q0 at A;split at A
   ·exact U _ _ A
   ·exact A.elim
  ·dsimp only at q;split at q
   ·unfold Q0 at q;split at q
    ·exact q
    ·exact q.elim
   ·exact q.elim
 ·obtain⟨I,m,T,U⟩:=H;refine⟨Qy I,λvs h=>match vs with
   | [G,J]=>m G J h
   | _=>0,λvs h=>match vs with
   | [G,J]=>Qy (λu B h'=>I u B h'/\m u B h'<m G J h)
   | _=>λ_ _=>False,T,λvs h A=>?_,λvs h M h' q=>?_⟩
  ·unfold Qy at A;split at A
   ·exact U _ _ _ A
   ·exact A.elim
  ·dsimp only at q;split at q
   ·unfold Qy at q;split at q
    ·exact q
    ·exact q.elim
   ·exact q.elim
 ·obtain⟨I,m,T,U⟩:=H;refine⟨QY I,λvs h=>match vs with
   | [G,J,L]=>m G J L h
   | _=>0,λvs h=>match vs with
   | [G,J,L]=>QY (λu B E h'=>I u B E h'/\m u B E h'<m G J L h)
   | _=>λ_ _=>False,T,λvs h A=>?_,λvs h M h' q=>?_⟩
  ·unfold QY at A;split at A
   ·exact U _ _ _ _ A
   ·exact A.elim
  ·dsimp only at q;split at q
   ·unfold QY at q;split at q
    ·exact q
    ·exact q.elim
   ·exact q.elim
 ·obtain⟨I,m,T,U⟩:=H;refine⟨Qu I,λvs h=>match vs with
   | [G,J,L,O]=>m G J L O h
   | _=>0,λvs h=>match vs with
   | [G,J,L,O]=>Qu (λu B E F h'=>I u B E F h'/\m u B E F h'<m G J L O h)
   | _=>λ_ _=>False,T,λvs h A=>?_,λvs h M h' q=>?_⟩
  ·unfold Qu at A;split at A
   ·exact U _ _ _ _ _ A
   ·exact A.elim
  ·dsimp only at q;split at q
   ·unfold Qu at q;split at q
    ·exact q
    ·exact q.elim
   ·exact q.elim
 ·obtain⟨I,m,T,U⟩:=H;refine⟨Q9 I,λvs h=>match vs with
   | [G,J,L,O,Q]=>m G J L O Q h
   | _=>0,λvs h=>match vs with
   | [G,J,L,O,Q]=>Q9 (λu B E F K h'=>I u B E F K h'/\m u B E F K h'<m G J L O Q h)
   | _=>λ_ _=>False,T,λvs h A=>?_,λvs h M h' q=>?_⟩
  ·unfold Q9 at A;split at A
   ·exact U _ _ _ _ _ _ A
   ·exact A.elim
  ·dsimp only at q;split at q
   ·unfold Q9 at q;split at q
    ·exact q
    ·exact q.elim
   ·exact q.elim
 ·obtain⟨I,m,T,U⟩:=H;refine⟨P0 I,λvs h=>match vs with
   | [G,J,L,O,Q,V]=>m G J L O Q V h
   | _=>0,λvs h=>match vs with
   | [G,J,L,O,Q,V]=>P0 (λu B E F K N h'=>I u B E F K N h'/\m u B E F K N h'<m G J L O Q V h)
   | _=>λ_ _=>False,T,λvs h A=>?_,λvs h M h' q=>?_⟩
  ·unfold P0 at A;split at A
   ·exact U _ _ _ _ _ _ _ A
   ·exact A.elim
  ·dsimp only at q;split at q
   ·unfold P0 at q;split at q
    ·exact q
    ·exact q.elim
   ·exact q.elim
 ·obtain⟨I,m,T,U⟩:=H;refine⟨P9 I,λvs h=>match vs with
   | [G,J,L,O,Q,V,Z]=>m G J L O Q V Z h
   | _=>0,λvs h=>match vs with
   | [G,J,L,O,Q,V,Z]=>P9 (λu B E F K N R h'=>I u B E F K N R h'/\m u B E F K N R h'<m G J L O Q V Z h)
   | _=>λ_ _=>False,T,λvs h A=>?_,λvs h M h' q=>?_⟩
  ·unfold P9 at A;split at A
   ·exact U _ _ _ _ _ _ _ _ A
   ·exact A.elim
  ·dsimp only at q;split at q
   ·unfold P9 at q;split at q
    ·exact q
    ·exact q.elim
   ·exact q.elim
 ·obtain⟨I,m,T,U⟩:=H;refine⟨Rc I,λvs h=>match vs with
   | [G,J,L,O,Q,V,Z,a7]=>m G J L O Q V Z a7 h
   | _=>0,λvs h=>match vs with
   | [G,J,L,O,Q,V,Z,a7]=>Rc (λu B E F K N R X h'=>I u B E F K N R X h'/\m u B E F K N R X h'<m G J L O Q V Z a7 h)
   | _=>λ_ _=>False,T,λvs h A=>?_,λvs h M h' q=>?_⟩
  ·unfold Rc at A;split at A
   ·exact U _ _ _ _ _ _ _ _ _ A
   ·exact A.elim
  ·dsimp only at q;split at q
   ·unfold Rc at q;split at q
    ·exact q
    ·exact q.elim
   ·exact q.elim
 ·obtain⟨I,m,T,U⟩:=H;refine⟨Ra I,λvs h=>match vs with
   | [G,J,L,O,Q,V,Z,a7,a8]=>m G J L O Q V Z a7 a8 h
   | _=>0,λvs h=>match vs with
   | [G,J,L,O,Q,V,Z,a7,a8]=>Ra (λu B E F K N R X aS h'=>I u B E F K N R X aS h'/\m u B E F K N R X aS h'<m G J L O Q V Z a7 a8 h)
   | _=>λ_ _=>False,T,λvs h A=>?_,λvs h M h' q=>?_⟩
  ·unfold Ra at A;split at A
   ·exact U _ _ _ _ _ _ _ _ _ _ A
   ·exact A.elim
  ·dsimp only at q;split at q
   ·unfold Ra at q;split at q
    ·exact q
    ·exact q.elim
   ·exact q.elim
 ·obtain⟨I,m,T,U⟩:=H;refine⟨FB I,λvs h=>match vs with
   | [G,J,L,O,Q,V,Z,a7,a8,a9]=>m G J L O Q V Z a7 a8 a9 h
   | _=>0,λvs h=>match vs with
   | [G,J,L,O,Q,V,Z,a7,a8,a9]=>FB (λu B E F K N R X aS aT h'=>I u B E F K N R X aS aT h'/\m u B E F K N R X aS aT h'<m G J L O Q V Z a7 a8 a9 h)
   | _=>λ_ _=>False,T,λvs h A=>?_,λvs h M h' q=>?_⟩
  ·unfold FB at A;split at A
   ·exact U _ _ _ _ _ _ _ _ _ _ _ A
   ·exact A.elim
  ·dsimp only at q;split at q
   ·unfold FB at q;split at q
    ·exact q
    ·exact q.elim
   ·exact q.elim
 ·exact H.elim
inductive HT where
 | z
 | o (ord:OT)
 | s (l r:HT)
 | j (S K:List Nat) (l r:HT)
 | c (l r:HT)
 | b (t:HT)
 | l (S K:List Nat) (t:HT)
 | r (l r:HT)
structure Ex where
 MC:Nat->Env->Hp->Prop
 ret:Env->Hp->Prop
def pick (S:List Nat) (env:Env):Option (List Value):=
 match S with
 | []=>some []
 | s::r=>match lk env s with
  | none=>none
  | some v=>match pick r env with
   | none=>none
   | some vs=>some (v::vs)
def HS (S:List Nat) (env:Env) (f:List Value->Prop):Prop:=
 match pick S env with
 | some vs=>f vs
 | none=>False
def pG:List Nat->List Value->Env
 | s::r,v::vs=>(s,v)::pG r vs
 | _,_=>[]
def L2:Env->Env->Env
 | [],e=>e
 | x::r,e=>x::L2 r e
def DE (t:Nat):List Nat->Bool
 | []=>false
 | x::r=>match Nat.beq x t with
  | true=>true
  | false=>DE t r
def D5 (t:Nat):List Oper->Bool
 | []=>true
 | o::r=>match o.dst with
  | none=>D5 t r
  | some d=>match Nat.beq d t with
   | true=>false
   | false=>D5 t r
def H0:List Oper->Bool
 | []=>true
 | o::r=>match o.op with
  | .defer _=>false
  | _=>H0 r
def keeps (n t:Nat):Code->HT->Bool
 | .skip,_ | .exit _,_ | .ret,_ | .label _,_=>true
 | .region _ ops _,_=>match D5 t ops.toList with
  | true=>match Nat.beq t n with
   | true=>H0 ops.toList
   | false=>true
  | false=>false
 | .seq a b,.s l r=>match keeps n t a l with
  | true=>keeps n t b r
  | false=>false
 | .seq a b,.j S K l r=>match DE t K,DE t S,keeps n t a l with
  | true,false,true=>keeps n t b r
  | _,_,_=>false
 | .cond _ a b,.c l r=>match keeps n t a l with
  | true=>keeps n t b r
  | false=>false
 | .block _ b,.b h=>keeps n t b h
 | .scope b,h=>keeps n t b h
 | .loop b,.l S K h=>match DE t K,DE t S with
  | true,false=>keeps n t b h
  | _,_=>false
 | .rangeFunc _ _ _ _,.r _ _=>match Nat.beq t n with
  | true=>false
  | false=>true
 | _,_=>false
def rj (n:Nat) (K:List Nat) (c:Code) (h:HT):Bool:=
 match K with
 | []=>true
 | t::r=>match keeps n t c h with
  | true=>rj n r c h
  | false=>false
def okB (b:Bool) (A:Prop):Prop:=match b with
 | true=>A
 | false=>False
def Xb (i c:Nat) (A B:Prop):Prop:=
 match Nat.beq i c with
 | true=>A
 | false=>B
def OU (o:Loop) (l:Nat) (h:Hp):Prop:=∃st pd,h[l]?=some (.loop {o with state:=st,pending:=pd})
def Hy (l:Nat) (h:Hp):Option Hp:=
 match h[l]? with
 | some (.loop r)=>match r.state with
  | .ready=>some (h.setIfInBounds l (.loop {r with state:=.busy}))
  | _=>none
 | _=>none
def fin (l:Nat) (j:Option Code) (h:Hp):Option Hp:=
 match h[l]? with
 | some (.loop r)=>some (h.setIfInBounds l (.loop {r with state:=if j.isNone then .ready else .done,pending:=j}))
 | _=>none
def Cz (l:Nat) (h:Hp):Option (Option Code × Hp):=
 match h[l]? with
 | some (.loop r)=>match r.state with
  | .busy=>none
  | _=>some (r.pending,h.setIfInBounds l (.loop {r with state:=.exhausted}))
 | _=>none
def Jp (j:Option Code) (A B:Prop) (C:Nat->Prop):Prop:=
 match j with
 | none=>A
 | some .ret=>B
 | some (.exit id)=>C id
 | some _=>False
def Rg (C:FuncId->List Value->Hp->(Value->Hp->Prop)->Prop) (Y:Nat->List Value->Hp->(Value->Hp->Prop)->Prop) (g:Value) (h:Hp) (round:Nat->List Value->Hp->(Value->Hp->Prop)->Prop) (q:Option Code->Hp->Prop):Prop:=
 ∀o:Loop,o.state=.ready->o.pending=none->(∀args h' R,OU o (h.size+1) h'->round (h.size+1) args h' R->Y (h.size+1) args h' R)->
  ∃f first cap,g=.func (.func f) first cap/\C f (first.toList++[.func (.yield (h.size+1)) #[] #[]]++cap.toList) ((h.push (.deferred (some []))).push (.loop o)) λ_ h2=>∃j u,Cz (h.size+1) h2=some (j,u)/\q j u
def Ma:List Nat->List Value->Env->Env
 | p::ps,v::vs,e=>Ma ps vs ((p,v)::e)
 | _,_,e=>e
def A0 (args:List Value) (f:Prop):Prop:=
 match args with
 | []=>f
 | _=>False
def A1 (args:List Value) (f:Value->Prop):Prop:=
 match args with
 | [v]=>f v
 | _=>False
def A2 (args:List Value) (f:Value->Value->Prop):Prop:=
 match args with
 | [v,w]=>f v w
 | _=>False
def Im (ps:List Nat) (env:Env) (args:List Value) (f:Env->Prop):Prop:=
 match ps with
 | []=>A0 args (f env)
 | [p]=>A1 args λv=>f ((p,v)::env)
 | [p,q]=>A2 args λv w=>f ((q,w)::(p,v)::env)
 | _=>False
def GM {ps:List Nat} {env:Env} {args:List Value} {f:Env->Prop} (h:Im ps env args f):args.length=ps.length/\f (Ma ps args env):=by
 unfold Im at h;split at h
 ·unfold A0 at h; split at h
  ·exact⟨rfl,h⟩
  ·exact h.elim
 ·unfold A1 at h; split at h
  ·exact⟨rfl,h⟩
  ·exact h.elim
 ·unfold A2 at h; split at h
  ·exact⟨rfl,h⟩
  ·exact h.elim
 ·exact h.elim
def CE (n:Nat):List Nat->Bool
 | []=>true
 | p::r=>match Nat.blt p n with
  | true=>CE n r
  | false=>false
def den (P:Program) (n:Nat) (rd:Bool):Code->HT->Ex->Env->Hp->(Env->Hp->Prop)->Prop
 | .skip,_,_,env,h,k=>k env h
 | .label _,_,_,env,h,k=>k env h
 | .exit id,_,E,env,h,_=>E.MC id env h
 | .ret,_,E,env,h,_=>E.ret env h
 | .region _ ops false,_,_,env,h,k=>match rR n ops.toList with
  | true=>I4 P n rd ops ops.toList env [] h k
  | false=>False
 | .region _ ops true,.o ord,_,env,h,k=>okB (O9 P n ops (Region.before ops) ord) (xZ P n ops (Region.before ops) ord [] env [] h k)
 | .seq a b,.s l r,E,env,h,k=>den P n rd a l E env h λq h'=>den P n rd b r E q h' k
 | .seq a b,.j S K l r,E,env,h,k=>match rj n K a l,pick K env with
  | true,some G=>Tt S (λvs h'=>den P n rd b r E (L2 (pG S vs) (pG K G)) h' k) λJ=>den P n rd a l E env h λq h'=>HS S q λvs=>J vs h'
  | _,_=>False
 | .cond c x y,.c l r,E,env,h,k=>match ev n env c with
  | some v=>Br v (den P n rd x l E env h k) (den P n rd y r E env h k)
  | none=>False
 | .block id b,.b t,E,env,h,k=>den P n rd b t {E with MC:=λi q h'=>Xb i id (k q h') (E.MC i q h')} env h k
 | .rangeFunc g ps cQ x,.r M N,E,env,h,k=>match rd,CE n ps.toList,ev n env g,lk env n with
  | false,true,some O,some (.tuple ⟨ds⟩)=>Rg (Cl P) (Sy P) O h
    (λl args h' R=>Im ps.toList ((n,.tuple ⟨[]⟩)::env) args λA=>den P n true cQ M {MC:=λ_ _ _=>False,ret:=λ_ _=>False} A h' λB h1=>Sb (Hy l h1) λh2=>
       den P n true x N {MC:=λid _ u=>Sb (fin l (some (.exit id)) u) λF=>R (.bool false) F,ret:=λ_ u=>Sb (fin l (some .ret) u) λF=>R (.bool false) F} B h2 λ_ u=>Sb (fin l none u) λF=>R (.bool true) F)
    λj u=>Jp j (k ((n,.tuple ⟨.pointer (some ⟨h.size,0,none⟩)::ds⟩)::env) u) (E.ret ((n,.tuple ⟨.pointer (some ⟨h.size,0,none⟩)::ds⟩)::env) u) λid=>E.MC id ((n,.tuple ⟨.pointer (some ⟨h.size,0,none⟩)::ds⟩)::env) u
  | _,_,_,_=>False
 | .scope b,t,E,env,h,k=>den P n rd b t E env h k
 | .loop b,.l S K t,E,env,h,_=>match rj n K b t,pick K env,pick S env with
  | true,some G,some Q=>TC S Q h λvs h' again=>den P n rd b t E (L2 (pG S vs) (pG K G)) h' λq H=>HS S q λL=>again L H
  | _,_,_=>False
 | _,_,_,_,_,_=>False
def rU {t:Nat}:∀{l:List Nat},DE t l=true↔t∈l
 | []=>by simp[DE]
 | x::r=>by
  unfold DE;split
  ·rename_i h; have:=Nat.eq_of_beq_eq_true h; subst this; simp
  ·rename_i h;rw[rU];have:x≠t:=λe=>by subst e; simp at h
   simp[Ne.symm this]
def wE {t:Nat}:∀{l:List Oper},D5 t l=true->∀o∈l,o.dst≠some t
 | [],_,o,ho=>by cases ho
 | x::r,h,o,ho=>by
  unfold D5 at h;split at h
  ·rename_i q;rcases List.mem_cons.1 ho with rfl | ho
   ·rw[q]; simp
   ·exact wE h o ho
  ·rename_i d u;split at h
   ·contradiction
   ·rename_i A;rcases List.mem_cons.1 ho with rfl | ho
    ·rw[u]; intro e; cases e; simp at A
    ·exact wE h o ho
def B4:∀{l:List Oper},H0 l=true->∀o∈l,∀c,o.op≠.defer c
 | [],_,o,ho=>by cases ho
 | x::r,h,o,ho=>by
  unfold H0 at h;split at h
  ·contradiction
  ·rename_i q;rcases List.mem_cons.1 ho with rfl | ho
   ·exact λc e=>q c e
   ·exact B4 h o ho
def xf {e h:Env} {t:Nat}:lk (L2 e h) t=(match lk e t with
  | some v=>some v
  | none=>lk h t):=by
 induction e with
 | nil=>rfl
 | cons x r q=>
  obtain⟨d,v⟩:=x;simp only[L2,lk];split
  ·rfl
  ·exact q
def nj {env:Env}:∀{S:List Nat} {vs:List Value},pick S env=some vs->∀t v,lk (pG S vs) t=some v->lk env t=some v
 | [],vs,h,t,v,hv=>by simp[pG,lk] at hv
 | s::r,vs,h,t,v,hv=>by
  unfold pick at h;split at h <;> try contradiction
  rename_i u hu;split at h <;> try contradiction
  rename_i us q;simp only[Option.some.injEq] at h;subst h;simp only[pG] at hv;rw[dV] at hv;split at hv
  ·rename_i e; subst e; rw[hu]; exact hv
  ·exact nj q t v hv
def vQ {env:Env}:∀{S:List Nat} {vs:List Value},pick S env=some vs->∀t∈S,lk (pG S vs) t=lk env t
 | [],vs,h,t,q=>by cases q
 | s::r,vs,h,t,q=>by
  unfold pick at h;split at h <;> try contradiction
  rename_i u hu;split at h <;> try contradiction
  rename_i us A;simp only[Option.some.injEq] at h;subst h;simp only[pG];rw[dV];split
  ·rename_i e; subst e; exact hu.symm
  ·rename_i e;rcases List.mem_cons.1 q with h1 | h1
   ·exact absurd h1.symm e
   ·exact vQ A t h1
def BL {env:Env}:∀{S:List Nat} {vs:List Value},pick S env=some vs->∀t∈S,(lk env t).isSome=true
 | [],vs,h,t,q=>by cases q
 | s::r,vs,h,t,q=>by
  unfold pick at h;split at h <;> try contradiction
  rename_i u hu;split at h <;> try contradiction
  rename_i us A;rcases List.mem_cons.1 q with rfl | h1
  ·rw[hu]; rfl
  ·exact BL A t h1
def ml {S:List Nat} {vs:List Value} {t:Nat} (h:t∉S):lk (pG S vs) t=none:=by
 induction S generalizing vs with
 | nil=>cases vs <;> rfl
 | cons s r q=>
  cases vs with
  | nil=>rfl
  | cons v vs=>
   simp only[pG];rw[dV,if_neg (λe=>h (by rw[e]; exact List.mem_cons_self ..))];exact q λu=>h (List.mem_cons_of_mem _ u)
def wk.sub {n:Nat} {env q:Env} {a:Act} (h:wk n q a) (hs:∀t v,lk env t=some v->lk q t=some v):wk n env a:=
 ⟨h.sz,λt v u hv=>h.sl t v u (hs t v hv),λv hv=>h.df v (hs n v hv)⟩
def QQ (n:Nat) (w0:World) (T:List Nat) (b:Nat->Option Value) (E:Ex) (k:Env->Hp->Prop):Exit->Act->World->Prop
 | .normal,a,w=>∃env,wk n env a/\l4 w0 w/\(∀t∈T,lk env t=b t)/\k env w.heap
 | .exit id,a,w=>∃env,wk n env a/\l4 w0 w/\(∀t∈T,lk env t=b t)/\E.MC id env w.heap
 | .ret,a,w=>∃env,wk n env a/\l4 w0 w/\(∀t∈T,lk env t=b t)/\E.ret env w.heap
 | _,_,_=>False
def Gq {P:Program} {F:Fence} {m:Nat} {c:Code} {Q:Exit->Act->World->Prop} {a:Act} {w:World} (M:∀l a w,¬Q (.goto l) a w) (h:c.wpIn F m P Q a w):(Code.scope c).wpIn F m P Q a w:=by
 intro b k cs G H J;have s1:_root_.Go.step P (lone (b.atR a (.code (.scope c)::k)) cs w)=.next (lone (b.atR a (.code c::.inScope c::k)) cs w):=
  step_lone_go (by simp[stepG,stepG.exec,Frame.atR])
 have f1:(lone (b.atR a (.code (.scope c)::k)) cs w).fenced P F:=fenced_calm (fr:=b.atR a (.code (.scope c)::k)) H J rfl;obtain⟨e,q,A,B,u⟩:=h b (.inScope c::k) cs G H J;cases e with
 | normal=>
  refine⟨.normal,q,A,B,.head f1 s1 (StepsIn.trans u (.one (fenced_calm (fr:=b.atR q (.inScope c::k)) H J rfl) ?_))⟩;exact step_lone_go (by simp[stepG,stepG.exec,Frame.atR])
 | exit id=>
  refine⟨.exit id,q,A,B,λk' K=>.head f1 s1 (u.1 k' (by simp[exitTo,K])),λL K=>?_⟩;obtain⟨E,h1,h2⟩:=u.2 L (by simp[exitTo,K]);exact⟨E,h1,.head f1 s1 h2⟩
 | goto l=>exact(M _ _ _ B).elim
 | ret=>exact⟨_,q,A,B,.of_steps (.one f1 s1) u⟩
 | panic ch=>exact⟨_,q,A,B,.of_steps (.one f1 s1) u⟩
 | outgrown=>exact⟨_,q,A,B,.of_steps (b:=b) (k:=k) (cs:=cs) (e:=.outgrown) (.one f1 s1) u⟩
def p8 {n:Nat} {c:Code} {h:HT}:∀{K:List Nat},rj n K c h=true->∀t∈K,keeps n t c h=true
 | [],_,t,q=>by cases q
 | x::r,u,t,q=>by
  unfold rj at u;split at u
  ·rename_i A;rcases List.mem_cons.1 q with rfl | q
   ·exact A
   ·exact p8 u t q
  ·contradiction
def Ik {n:Nat}:∀{ps:List Nat} {args:List Value} {env:Env} {tmps:Array Value},CE n ps=true->wk n env {tmps:=tmps,defers:=[]}->
  wk n (Ma ps args env) {tmps:=(ps.zip args).foldl (λtmps (x:Nat × Value)=>tmps.setIfInBounds x.1 x.2) tmps,defers:=[]}
 | [],_,_,_,_,h=>by simpa[Ma] using h
 | _::_,[],_,_,_,h=>by simpa[Ma] using h
 | p::ps,v::vs,env,tmps,u,h=>by
  unfold CE at u;split at u <;> try contradiction
  rename_i q;have q:p<n:=by simpa[Nat.blt_eq] using q
  have:=h.put (dst:=some p) (v:=v) (λd e=>by simp only[Option.some.injEq] at e; omega);exact Ik (ps:=ps) (args:=vs) u this
def MR {P:Program} {w:World} {l:Nat} {h':Hp} (h:Hy l w.heap=some h'):∃w',(Instr.beginRound l).run P w=.ok () w'/\w'.heap=h'/\l4 w w':=by
 unfold Hy at h;split at h <;> try contradiction
 rename_i r q;split at h <;> try contradiction
 rename_i hs;simp only[Option.some.injEq] at h;refine⟨{w with heap:=h'},?_,rfl,⟨rfl,rfl,rfl⟩⟩;simp[Instr.beginRound,Instr.getLoop,getObj,setObj,Sem.run,q,hs,h]
def De {P:Program} {w:World} {l:Nat} {j:Option Code} {h':Hp} (h:fin l j w.heap=some h'):∃w',(Instr.endRound l j).run P w=.ok (.bool j.isNone) w'/\w'.heap=h'/\l4 w w':=by
 unfold fin at h;split at h <;> try contradiction
 rename_i r q;simp only[Option.some.injEq] at h;refine⟨{w with heap:=h'},?_,rfl,⟨rfl,rfl,rfl⟩⟩;rw[<-h];simp[Instr.endRound,Instr.getLoop,getObj,setObj,Sem.run,q]
def LJ {P:Program} {w:World} {l:Nat} {j:Option Code} {h':Hp} (h:Cz l w.heap=some (j,h')):∃w',(Instr.endLoop l).run P w=.ok j w'/\w'.heap=h'/\l4 w w':=by
 unfold Cz at h;split at h <;> try contradiction
 rename_i r u;split at h <;> try contradiction
 rename_i hs;simp only[Option.some.injEq,Prod.mk.injEq] at h;refine⟨{w with heap:=h'},?_,rfl,⟨rfl,rfl,rfl⟩⟩;rw[<-h.1,<-h.2];have q:¬r.state=LoopState.busy:=λe=>hs e;simp[Instr.endLoop,Instr.getLoop,getObj,setObj,Sem.run,u,q]
def GD {P:Program} {n:Nat} (hm:P.follows .mixedOrders=true) :
  ∀(c:Code) {F:Fence} (Q:Wd F) {m:Nat} {rd:Bool} (B:rd=false->F.round=none) {w0:World} (A:HT) (E:Ex) (env:Env) (k:Env->Hp->Prop) (T:List Nat) (b:Nat->Option Value) (a:Act) (w:World),(∀t∈T,keeps n t c A=true)->(∀t∈T,lk env t=b t)->wk n env a->l4 w0 w->
   den P n rd c A E env w.heap k->c.wpIn F m P (QQ n w0 T b E k) a w:=by
 intro c;induction c with
 | skip=>intro F Q m rd B w0 A E env k T b a w _ U H V h; exact wpIn_skip ⟨env,H,V,U,by simpa[den] using h⟩
 | label l=>intro F Q m rd B w0 A E env k T b a w _ U H V h; exact wpIn_label ⟨env,H,V,U,by simpa[den] using h⟩
 | exit id=>intro F Q m rd B w0 A E env k T b a w _ U H V h; exact wpIn_exit ⟨env,H,V,U,by simpa[den] using h⟩
 | ret=>intro F Q m rd B w0 A E env k T b a w _ U H V h; exact wpIn_ret ⟨env,H,V,U,by simpa[den] using h⟩
 | region id ops draw=>
  intro F Q m rd B w0 A E env k T b a w hT U H V h;have hTd:∀o∈ops.toList,∀d,o.dst=some d->d∉T:=by
   intro o ho d hd hdT;have:=hT d hdT;unfold keeps at this;split at this
   ·rename_i hnd; exact wE hnd o ho hd
   ·contradiction
  have hTn:n∈T->∀o∈ops.toList,∀c,o.op≠.defer c:=by
   intro hnT;have:=hT n hnT;unfold keeps at this;split at this
   ·have e:Nat.beq n n=true:=by simp
    rw[e] at this;exact B4 this
   ·contradiction
  cases draw with
  | false=>
   simp only[den] at h;split at h
   ·rename_i hn;refine wpIn_region_list (p6 Q B hn hTd hTn (λq a' w' G O bY N=>⟨q,G,O,bY,N⟩) ops.toList env [] a w U (λ_ h=>h) H (pN.nil _ _) V h)
   ·contradiction
  | true=>
   cases A with
   | o ord=>
    simp only[den] at h; unfold okB at h;split at h
    ·rename_i hok;exact GL Q hm hok hTd (λq a' w' G O bY N=>⟨q,G,O,bY,N⟩) U H V h
    ·contradiction
   | _=>simp[den] at h
 | seq x y iN ihy=>
  intro F Q m rd B w0 A E env k T b a w hT U H V h;cases A with
  | s l r=>
   simp only[den] at h;have X:∀t∈T,keeps n t x l=true:=λt A=>by have:=hT t A; simp only[keeps] at this; split at this <;> simp_all
   have hTy:∀t∈T,keeps n t y r=true:=λt A=>by have:=hT t A; simp only[keeps] at this; split at this <;> simp_all
   refine wpIn_seq (wpIn_mono (iN Q B l E env _ T b a w X U H V h) λe a' w' Z=>?_);cases e with
   | normal=>
    obtain⟨q,G,O,bY,N⟩:=Z;exact ihy Q B r E q k T b a' w' hTy bY G O N
   | _=>exact Z
  | j S K l r=>
   simp only[den] at h;split at h
   ·rename_i kv hka iS;obtain⟨J,hJ,hJK⟩:=JW h;have X:∀t∈T,t∈K/\t∉S/\keeps n t x l=true/\keeps n t y r=true:=by
     intro t A;have:=hT t A;simp only[keeps] at this;split at this
     ·rename_i h1 h2 h3;exact⟨rU.1 h1,(λhs=>by rw[rU.2 hs] at h2; cases h2),h3,this⟩
     ·contradiction
    refine wpIn_seq (wpIn_mono (iN Q B l E env _ K (lk env) a w (p8 hka) (λ_ _=>rfl) H V hJ) λe a' w' Z=>?_);have oF:∀(q:Env),(∀t∈K,lk q t=lk env t)->∀t∈T,lk q t=b t:=λq hK t A=>(hK t (X t A).1).trans (U t A);cases e with
    | normal=>
     obtain⟨q,G,O,hK,N⟩:=Z;unfold HS at N;split at N
     ·rename_i vs hvs;have hsub:∀t v,lk (L2 (pG S vs) (pG K kv)) t=some v->lk q t=some v:=by
       intro t v hv;rw[xf] at hv;split at hv
       ·rename_i u hu; rw[nj hvs t u hu]; exact hv
       ·have h1:=nj iS t v hv;by_cases hKt:t∈K
        ·rw[hK t hKt]; exact h1
        ·rw[ml hKt] at hv; cases hv
      refine ihy Q B r E _ k T b a' w' (λt A=>(X t A).2.2.2) (λt A=>?_) (G.sub hsub) O (hJK _ _ N);rw[xf,ml (X t A).2.1];simp only;rw[vQ iS t (X t A).1];exact U t A
     ·exact N.elim
    | exit id=>
     obtain⟨q,G,O,hK,N⟩:=Z;exact⟨q,G,O,oF q hK,N⟩
    | ret=>
     obtain⟨q,G,O,hK,N⟩:=Z;exact⟨q,G,O,oF q hK,N⟩
    | _=>exact Z
   ·contradiction
  | _=>simp[den] at h
 | cond c x y iN ihy=>
  intro F Q m rd B w0 A E env k T b a w hT U H V h;cases A with
  | c l r=>
   simp only[den] at h;have X:∀t∈T,keeps n t x l=true:=λt A=>by have:=hT t A; simp only[keeps] at this; split at this <;> simp_all
   have hTy:∀t∈T,keeps n t y r=true:=λt A=>by have:=hT t A; simp only[keeps] at this; split at this <;> simp_all
   split at h
   ·rename_i v hv;obtain⟨t,rfl,h1,h2⟩:=DN h;refine wpIn_cond_split (H.holds c _ hv) (λe=>?_) (λe=>?_)
    ·exact iN Q B l E env k T b a w X U H V (h1 e)
    ·exact ihy Q B r E env k T b a w hTy U H V (h2 e)
   ·contradiction
  | _=>simp[den] at h
 | block id x ih=>
  intro F Q m rd B w0 A E env k T b a w hT U H V h;cases A with
  | b t=>
   simp only[den] at h;have hT':∀s∈T,keeps n s x t=true:=λs hs=>by have:=hT s hs; simpa[keeps] using this
   refine wpIn_block (wpIn_mono (ih Q B t _ env k T b a w hT' U H V h) λe a' w' Z=>?_);cases e with
   | exit i=>
    obtain⟨q,G,O,hK,N⟩:=Z;simp only[Exit.inBlock];cases hi:Nat.beq i id with
    | true=>
     rw[if_pos (Nat.eq_of_beq_eq_true hi)];refine⟨q,G,O,hK,?_⟩;simp only[Xb,hi] at N;exact N
    | false=>
     rw[if_neg (λe=>by subst e; simp at hi)];refine⟨q,G,O,hK,?_⟩;simp only[Xb,hi] at N;exact N
   | _=>exact Z
  | _=>simp[den] at h
 | scope x ih=>
  intro F Q m rd B w0 A E env k T b a w hT U H V h;simp only[den] at h;have hT':∀s∈T,keeps n s x A=true:=λs hs=>by have:=hT s hs; simpa[keeps] using this
  exact Gq (λ_ _ _ h=>h) (ih Q B A E env k T b a w hT' U H V h)
 | loop x ih=>
  intro F Q m rd B w0 A E env k T b a w hT U H V h;cases A with
  | l S K t=>
   simp only[den] at h;have X:∀s∈T,s∈K/\s∉S/\keeps n s x t=true:=by
    intro s hs;have:=hT s hs;simp only[keeps] at this;split at this
    ·rename_i h1 h2;exact⟨rU.1 h1,(λhss=>by rw[rU.2 hss] at h2; cases h2),this⟩
    ·contradiction
   split at h
   ·rename_i kv iv hka iS hiv;obtain⟨I,μ,C,h0,hbody,hC⟩:=Jw h;let L:List Value->Env:=λvs=>L2 (pG S vs) (pG K kv);have hLb:∀vs,∀s∈T,lk (L vs) s=b s:=by
     intro vs s hs;show lk (L2 _ _) s=_;rw[xf,ml (X s hs).2.1];simp only;rw[vQ iS s (X s hs).1];exact U s hs
    let M:Act->World->Nat->Prop:=λa w j=>∃vs,wk n (L vs) a/\I vs w.heap/\μ vs w.heap=j;classical
    have hM0:∃j,M a w j:=⟨_,iv,H.sub (λs v hv=>by
     have aS:lk (L2 (pG S iv) (pG K kv)) s=some v:=hv;rw[xf] at aS;split at aS
     ·rename_i u hu; rw[nj hiv s u hu]; exact aS
     ·exact nj iS s v aS),h0,rfl⟩
    refine wpIn_loop (λa w=>l4 w0 w/\∃j,M a w j) (λa w=>if e:∃j,M a w j then Nat.vz e else 0) ⟨V,hM0⟩ λa1 w1 ⟨hR1,hM1⟩=>?_;obtain⟨vs,hA1,hI,hμ⟩:=Nat.nZ hM1;have hd:=hbody vs w1.heap hI;refine wpIn_mono (ih Q B t E (L vs) _ K (lk (L vs)) a1 w1 (p8 hka) (λs hs=>rfl) hA1 hR1 hd) λe a2 w2 Z=>?_;have oF:∀(q:Env),(∀s∈K,lk q s=lk (L vs) s)->∀s∈T,lk q s=b s:=λq hK s hs=>(hK s (X s hs).1).trans (hLb vs s hs);cases e with
    | normal=>
     obtain⟨q,dO,eQ,oR,N⟩:=Z;unfold HS at N;split at N
     ·rename_i vs' rW;obtain⟨hI2,hlt⟩:=hC _ _ _ _ N;have hA2':wk n (L vs') a2:=dO.sub λs v hv=>by
       have aS:lk (L2 (pG S vs') (pG K kv)) s=some v:=hv;rw[xf] at aS;split at aS
       ·rename_i u hu; rw[nj rW s u hu]; exact aS
       ·rename_i tO;have hKs:s∈K:=by
         by_cases h:s∈K
         ·exact h
         ·rw[ml h] at aS; cases aS
        have hSs:s∉S:=by
         intro h;rw[vQ rW s h] at tO;have:=BL rW s h;rw[tO] at this; cases this
        rw[oR s hKs];show lk (L2 _ _) s=_;rw[xf,ml hSs];exact aS
      have hM2:M a2 w2 (μ vs' w2.heap):=⟨vs',hA2',hI2,rfl⟩;refine⟨⟨eQ,_,hM2⟩,?_⟩;rw[dif_pos ⟨_,hM2⟩,dif_pos hM1];exact Nat.lt_of_le_of_lt (Nat.pM ⟨_,hM2⟩ hM2) (by rw[<-hμ]; exact hlt)
     ·exact N.elim
    | exit id=>
     obtain⟨q,dO,eQ,oR,N⟩:=Z;exact⟨q,dO,eQ,oF q oR,N⟩
    | ret=>
     obtain⟨q,dO,eQ,oR,N⟩:=Z;exact⟨q,dO,eQ,oF q oR,N⟩
    | _=>exact Z
   ·contradiction
  | _=>simp[den] at h
 | rangeFunc g ps cQ x iha iN=>
  intro F Q m rd B w0 A E env k T b a w hT U H V h;cases A with
  | r ta tx=>
   simp only[den] at h;split at h <;> try contradiction
   rename_i gv ds hps hgv hds;have hro:=B rfl;obtain⟨ds',hds',hdf⟩:=H.df _ hds;simp only[Value.tuple.injEq,Array.mk.injEq] at hds';subst hds';refine wpIn_rangeFunc λfn _=>?_;let o:Loop:={state:=.ready,pending:=none,fn,tmps:=a.tmps,params:=ps,assign:=cQ,body:=x,defers:=w.heap.size};have hround:∀args h' R,OU o (w.heap.size+1) h'->(Im ps.toList ((n,.tuple ⟨[]⟩)::env) args λenv0=>den P n true cQ ta {MC:=λ_ _ _=>False,ret:=λ_ _=>False} env0 h' λenv1 h1=>Sb (Hy (w.heap.size+1) h1) λh2=>
       den P n true x tx {MC:=λid _ h3=>Sb (fin (w.heap.size+1) (some (.exit id)) h3) λh4=>R (.bool false) h4,ret:=λ_ h3=>Sb (fin (w.heap.size+1) (some .ret) h3) λh4=>R (.bool false) h4} env1 h2 λ_ h3=>Sb (fin (w.heap.size+1) none h3) λh4=>R (.bool true) h4)->Sy P (w.heap.size+1) args h' R:=by
    intro args h' R ⟨st,pd,hl⟩ uS;obtain⟨hlen,uS⟩:=GM uS;intro w1 hw1;subst hw1;refine⟨{o with state:=st,pending:=pd},by simp[Instr.getLoop,getObj,Sem.run,hl],by simpa using hlen,?_⟩;have hA0:wk n ((n,.tuple ⟨[]⟩)::env) {tmps:=a.tmps,defers:=[]}:=by
     refine⟨H.sz,λt v A hv=>?_,λv hv=>?_⟩
     ·rw[dV,if_neg (by omega)] at hv; exact H.sl t v A hv
     ·rw[dV,if_pos rfl] at hv;simp only[Option.some.injEq] at hv;exact⟨[],hv.symm,rfl⟩
    have hA1:=Ik (args:=args) hps hA0;have etm:(ps.zip args.toArray).foldl (λtmps (x:Nat × Value)=>tmps.setIfInBounds x.1 x.2) a.tmps=(ps.toList.zip args).foldl (λtmps (x:Nat × Value)=>tmps.setIfInBounds x.1 x.2) a.tmps:=by
     rw[<-Array.foldl_toList]; simp
    refine roundIn_of_wpIn trivial ?_;show cQ.wpIn _ 0 P _ {tmps:=(ps.zip args.toArray).foldl (λtmps (x:Nat × Value)=>tmps.setIfInBounds x.1 x.2) a.tmps,defers:=[]} w1;rw[etm];refine wpIn_mono (iha (Wd.wide.inRound _) (m:=0) (rd:=true) (λe=>by cases e) (w0:=w1) ta _ _ _ [] (λ_=>none) _ w1 (λt A=>by cases A) (λt A=>by cases A) hA1 (.refl w1) uS) λe a1 w2 Z=>?_;cases e with
    | normal=>
     obtain⟨env1,dO,eQ,_,h2,hb2,hk2⟩:=Z;obtain⟨w3,e3,rfl,hR3⟩:=MR (P:=P) hb2;refine⟨w3,e3,?_⟩;refine wpIn_mono (iN (Wd.wide.inRound _) (m:=0) (rd:=true) (λe=>by cases e) (w0:=w1) tx _ _ _ [] (λ_=>none) _ w3 (λt A=>by cases A) (λt A=>by cases A) dO (eQ.trans hR3) hk2) λe a3 w4 Z=>?_;cases e with
     | normal=>
      obtain⟨_,_,iF,_,h4,hf4,hk4⟩:=Z;obtain⟨w5,e5,rfl,hR5⟩:=De (P:=P) hf4;exact⟨_,w5,e5,_,rfl,hk4,iF.trans hR5⟩
     | ret=>
      obtain⟨_,_,iF,_,h4,hf4,hk4⟩:=Z;obtain⟨w5,e5,rfl,hR5⟩:=De (P:=P) hf4;exact⟨_,w5,e5,_,rfl,hk4,iF.trans hR5⟩
     | exit id=>
      obtain⟨_,_,iF,_,h4,hf4,hk4⟩:=Z;obtain⟨w5,e5,rfl,hR5⟩:=De (P:=P) hf4;exact⟨_,w5,e5,_,rfl,hk4,iF.trans hR5⟩
     | _=>exact Z.elim
    | ret=>obtain⟨_,_,_,_,N⟩:=Z; exact N.elim
    | exit id=>obtain⟨_,_,_,_,N⟩:=Z; exact N.elim
    | _=>exact Z.elim
   obtain⟨f,first,cap,rfl,hf,hc⟩:=h o rfl rfl hround;have hev:=H.holds g _ hgv;let w1:World:={w with heap:=(w.heap.push (.deferred (some []))).push (.loop o)};refine⟨w.heap.size+1,[{target:=.collected w.heap.size,args:=#[]}],w1,{target:=.fn (.func f) cap,args:=first++#[.func (.yield (w.heap.size+1)) #[] #[]]},w1,f,first++#[.func (.yield (w.heap.size+1)) #[] #[]]++cap,w1,?_,?_,λf' _=>Q.any f',?_,λe=>(by rw[Q.depth] at e; cases e),?_⟩
   ·rw[hro];simp[Instr.enterLoop,newObj,Sem.run,w1,o];rfl
   ·simp only[rangeCall,resolve,hev,Deferred.ofValue,Sem.run_bind,Sem.run_pure,Result.andThen_ok,List.map_toArray,List.map_cons,List.map_nil];rfl
   ·simp only[invoke,la hf]
   ·have e2:first++#[Value.func (.yield (w.heap.size+1)) #[] #[]]++cap=(first.toList++[Value.func (.yield (w.heap.size+1)) #[] #[]]++cap.toList).toArray:=by simp
    rw[e2];refine Q.calls (m:=0) (callsIn_wide.2 ((hc w1 rfl).mono ?_));rintro e w3 ⟨v,rfl,⟨j,h3,he,aT⟩,hs⟩;obtain⟨w4,e4,rfl,iF⟩:=LJ (P:=P) he;have hRw:l4 w0 w4:=(V.trans ((show l4 w w1 from⟨rfl,rfl,rfl⟩).trans hs)).trans iF;have G:wk n ((n,.tuple ⟨.pointer (some ⟨w.heap.size,0,none⟩)::ds⟩)::env) {a with defers:=[{target:=.collected w.heap.size,args:=#[]}]++a.defers}:=by
     refine⟨H.sz,λt v A hv=>?_,λv hv=>?_⟩
     ·rw[dV,if_neg (by omega)] at hv; exact H.sl t v A hv
     ·rw[dV,if_pos rfl] at hv;simp only[Option.some.injEq] at hv;exact⟨_,hv.symm,by simp[dec,hdf]⟩
    have bY:∀t∈T,lk ((n,.tuple ⟨.pointer (some ⟨w.heap.size,0,none⟩)::ds⟩)::env) t=b t:=λt A=>by
     have h1:=hT t A;unfold keeps at h1;split at h1 <;> try contradiction
     rename_i hne;rw[dV,if_neg (λe=>by subst e; simp at hne)];exact U t A
    refine⟨j,w4,e4,?_⟩;unfold Jp at aT;split at aT
    ·exact⟨_,G,hRw,bY,aT⟩
    ·exact wpIn_ret ⟨_,G,hRw,bY,aT⟩
    ·exact wpIn_exit ⟨_,G,hRw,bY,aT⟩
    ·exact aT.elim
  | _=>simp[den] at h
 | goto l=>intro F Q m rd B w0 A E env k T b a w _ U H V h; cases A <;> simp[den] at h
 | refuse s=>intro F Q m rd B w0 A E env k T b a w _ U H V h; cases A <;> simp[den] at h
def JV {P:Program} {F:Fence} (u:Wd F) {n m:Nat} {rd:Bool} (h:rd=false->F.round=none) (hm:P.follows .mixedOrders=true) {w0:World} (c:Code) (q:HT) (E:Ex) (env:Env) (k:Env->Hp->Prop) (T:List Nat) (b:Nat->Option Value) (a:Act) (w:World)
  (h1:∀t∈T,keeps n t c q=true) (h2:∀t∈T,lk env t=b t) (A:wk n env a) (B:l4 w0 w) (G:den P n rd c q E env w.heap k):c.wpIn F m P (QQ n w0 T b E k) a w:=
 GD hm c u h q E env k T b a w h1 h2 A B G
def JN (i:Nat):List Value->Env
 | []=>[]
 | v::r=>(i,v)::JN (i+1) r
def Ga (P:Program) (env:Env) (h:Hp):List ResultVar->(List Value->Prop)->Prop
 | [],k=>k []
 | .tmp t::r,k=>match lk env t with
  | some v=>Ga P env h r λvs=>k (v::vs)
  | none=>False
 | .cell a t::r,k=>match lk env a with
  | some p=>Vb (Qz (FD P t) p h) λv=>Ga P env h r λvs=>k (v::vs)
  | none=>False
def one (vs:List Value):Value:=
 match vs with
 | [v]=>v
 | vs=>.tuple ⟨vs⟩
def Fg (r:Nat) (h:Hp):Option Hp:=
 match h[r]? with
 | some (.deferred (some []))=>some (h.setIfInBounds r (.deferred none))
 | _=>none
def NE {P:Program} {w:World} {r:Nat} {h':Hp} (h:Fg r w.heap=some h'):∃w',(Instr.takeDeferred r).run P w=.ok [] w'/\w'.heap=h'/\l4 w w':=by
 unfold Fg at h;split at h <;> try contradiction
 rename_i q;simp only[Option.some.injEq] at h;refine⟨{w with heap:=h'},?_,rfl,⟨rfl,rfl,rfl⟩⟩;rw[<-h];simp[Instr.takeDeferred,getObj,setObj,Sem.run,q]
def Ky (P:Program) (ds:List Value) (h:Hp) (k:Hp->Prop):Prop:=
 match ds with
 | []=>k h
 | .func (.func f) ⟨first⟩ ⟨[]⟩::r=>match okF P f with
  | true=>Uy P f first h λh'=>Ky P r h' k
  | false=>False
 | .pointer (some ⟨q,0,none⟩)::r=>Sb (Fg q h) λh'=>Ky P r h' k
 | _=>False
def leave (P:Program) (n:Nat) (q:List ResultVar) (R:Value->Hp->Prop) (env:Env) (h:Hp):Prop:=
 match lk env n with
 | some (.tuple ⟨ds⟩)=>Ky P ds h λh=>Ga P env h q λvs=>R (one vs) h
 | _=>False
def zL (n:Nat):List ResultVar->Bool
 | []=>true
 | .tmp t::r=>match Nat.blt t n with
  | true=>zL n r
  | false=>false
 | .cell t _::r=>match Nat.blt t n with
  | true=>zL n r
  | false=>false
def QF (P:Program) (fn:Func) (c:Code) (q:HT) (args:List Value) (h:Hp) (R:Value->Hp->Prop):Prop:=
 match Nat.ble args.length fn.ntmps,zL fn.ntmps fn.results.toList with
 | true,true=>den P fn.ntmps false c q {MC:=λ_ _ _=>False,ret:=leave P fn.ntmps fn.results.toList R} ((fn.ntmps,.tuple ⟨[]⟩)::JN 0 args) h (leave P fn.ntmps fn.results.toList R)
 | _,_=>False
def Hl:∀(args:List Value) (i t:Nat) (v:Value),lk (JN i args) t=some v->i<=t/\args[t - i]?=some v
 | [],i,t,v,h=>by simp[JN,lk] at h
 | u::r,i,t,v,h=>by
  simp only[JN] at h;rw[dV] at h;split at h
  ·rename_i e; subst e; simpa using h
  ·obtain⟨h1,h2⟩:=Hl r (i+1) t v h;refine⟨by omega,?_⟩;have:t - i=(t - (i+1))+1:=by omega
   rw[this,List.getElem?_cons_succ];exact h2
def IW {n:Nat} {args:List Value} (hle:args.length<=n):wk n ((n,.tuple ⟨[]⟩)::JN 0 args) {tmps:=args.toArray++Array.replicate (n - args.toArray.size) undef,defers:=[]}:=by
 refine⟨by simp; omega,λt v u hv=>?_,λv hv=>?_⟩
 ·rw[dV,if_neg (by omega)] at hv;obtain⟨_,h2⟩:=Hl args 0 t v hv;have q:t<args.length:=by
   rcases Nat.lt_or_ge t args.length with h | h
   ·exact h
   ·rw[List.getElem?_eq_none (by simpa using h)] at h2; cases h2
  simp only[Nat.sub_zero] at h2;simp only[Array.getD_eq_getD_getElem?];rw[Array.getElem?_append_left (by simpa using q)];simp[h2]
 ·rw[dV,if_pos rfl] at hv;simp only[Option.some.injEq] at hv;exact⟨[],hv.symm,rfl⟩
def Sf (tmps:Array Value):ResultVar->Sem Value
 | .tmp t=>pure (tmps.getD t undef)
 | .cell a t=>do loadVar t (<-asAddr (tmps.getD a undef))
def FX (fn:Func) (tmps:Array Value):results fn tmps=(do let vs <-fn.results.mapM (Sf tmps); pure (if h:vs.size=1 then vs[0] else .tuple vs)):=by
 unfold results;congr 2
def zU {P:Program} {w:World} {n:Nat} {env:Env} {a:Act} (E:wk n env a):∀(F:List ResultVar) (k:List Value->Prop),zL n F=true->Ga P env w.heap F k->
  ∃vs,(F.mapM (Sf a.tmps)).run P w=.ok vs w/\k vs
 | [],k,_,h=>⟨[],rfl,h⟩
 | .tmp t::r,k,q,h=>by
  simp only[zL] at q;split at q <;> try contradiction
  rename_i G;have u:t<n:=by simpa[Nat.blt_eq] using G
  simp only[Ga] at h;split at h <;> try contradiction
  rename_i v hv;obtain⟨vs,h1,h2⟩:=zU E r _ q h;refine⟨v::vs,?_,h2⟩;simp only[List.mapM_cons,Sem.run_bind,Sf,Sem.run_pure,Result.andThen_ok,h1,E.sl t v u hv]
 | .cell H t::r,k,q,h=>by
  simp only[zL] at q;split at q <;> try contradiction
  rename_i G;have u:H<n:=by simpa[Nat.blt_eq] using G
  simp only[Ga] at h;split at h <;> try contradiction
  rename_i p L;obtain⟨v,hv,h⟩:=h;obtain⟨vs,h1,h2⟩:=zU E r _ q h;refine⟨v::vs,?_,h2⟩;have K:=Av (P:=P) hv;have J:∃A,p=.pointer (some A):=by
   cases M:FD P t <;> rw[M] at hv <;> simp only[Qz] at hv
   ·unfold eH at hv; split at hv <;> first | contradiction | exact⟨_,rfl⟩
   ·unfold aP at hv; split at hv <;> first | contradiction | exact⟨_,rfl⟩
   ·contradiction
  obtain⟨A,rfl⟩:=J;simp only[Instr.loadAt,Instr.sureAddr,Sem.run_bind,Sem.run_pure,Result.andThen_ok] at K;have B:(Sf a.tmps (.cell H t)).run P w=.ok v w:=by
   simp only[Sf,Sem.run_bind,E.sl H _ u L,asAddr,Sem.run_pure,Result.andThen_ok,K]
  simp only[List.mapM_cons,Sem.run_bind,B,Sem.run_pure,Result.andThen_ok,h1]
def Dt {P:Program} {w:World} {fn:Func} {env:Env} {a:Act} {k:Value->Prop} (q:wk fn.ntmps env a) (u:zL fn.ntmps fn.results.toList=true) (h:Ga P env w.heap fn.results.toList λvs=>k (one vs)) :
  ∃v,(results fn a.tmps).run P w=.ok v w/\k v:=by
 obtain⟨vs,h1,h2⟩:=zU q fn.results.toList _ u h;refine⟨one vs,?_,h2⟩;rw[FX];simp only[Sem.run_bind];rw[Array.mapM_eq_mapM_toList,Sem.run_map,h1];simp only[Result.andThen_ok,Sem.run_pure];congr 1;match vs with
 | []=>rfl
 | [v]=>rfl
 | _::_::_=>simp[one]
def tM {P:Program} {fn:Func} {tmps:Array Value} {R:Value->Hp->Prop} {w0:World} {k:Hp->Prop} (E:∀w,l4 w0 w->k w.heap->∃v,(results fn tmps).run P w=.ok v w/\R v w.heap) :
  ∀(ds:List Value) (w:World),l4 w0 w->Ky P ds w.heap k->LeavesInM Fence.wide 0 P fn tmps (λe w'=>∃v,e=.returned v/\R v w'.heap/\l4 w0 w') (ds.map dec) .returning w
 | [],w,B,h=>by
  obtain⟨v,h1,h2⟩:=E w B h;exact⟨v,h1,v,rfl,h2,B⟩
 | d::ds,w,B,h=>by
  unfold Ky at h;split at h
  ·rename_i he; cases he
  ·rename_i f first r he
   simp only[List.cons.injEq] at he;obtain⟨rfl,rfl⟩:=he;split at h <;> try contradiction
   rename_i F;refine⟨by simp,.inr ⟨λe=>(by cases e),.func f,#[],f,first.toArray,rfl,?_,λ_ _=>trivial,?_⟩⟩
   ·have:=la (w:=w) F first.toArray
    show(callFunc f (first.toArray++#[])).run P w=_;simpa using this
   ·refine(h w rfl).mono ?_;rintro e u w' ⟨rfl,⟨v,rfl⟩,A,hs⟩;exact tM E _ w' (B.trans hs) A
  ·rename_i q r he;simp only[List.cons.injEq] at he;obtain⟨rfl,rfl⟩:=he;obtain⟨h',G,A⟩:=h;obtain⟨w',H,rfl,hs⟩:=NE (P:=P) G;exact⟨by simp,.inl ⟨q,w',rfl,H,tM E _ w' (B.trans hs) A⟩⟩
  ·contradiction
def Jy {P:Program} {f:FuncId} {fn:Func} {c:Code} {E:HT} {args:List Value} {h:Hp} {R:Value->Hp->Prop} (K:P.funcs[f]?=some fn) (L:fn.body=some c) (hm:P.follows .mixedOrders=true)
  (H:QF P fn c E args h R):Sp P f args h R:=by
 intro w hw;subst hw;unfold QF at H;split at H <;> try contradiction
 rename_i hle M;have N:=IW (n:=fn.ntmps) (args:=args) (Nat.le_of_ble_eq_true hle);refine callsIn_wide.1 (callsIn_of_wp_marks (n:=0) K L trivial (wpIn_mono (JV Wd.wide (m:=0) (λ_=>rfl) hm (w0:=w) c E _ _ _ [] (λ_=>none) _ w (λt E=>by cases E) (λt E=>by cases E) N (.refl w) H) λe a w' F=>?_));have fin:∀env,wk fn.ntmps env a->l4 w w'->leave P fn.ntmps fn.results.toList R env w'.heap->LeavesInM Fence.wide 0 P fn a.tmps (λe w'=>∃v,e=.returned v/\R v w'.heap/\l4 w w') a.defers .returning w':=by
  intro env q u A;unfold leave at A;split at A
  ·rename_i ds G;obtain⟨O,B,J⟩:=q.df _ G;simp only[Value.tuple.injEq,Array.mk.injEq] at B;subst B;rw[J];exact tM (λw1 Q T=>Dt (k:=λv=>R v w1.heap) q M T) ds w' u A
  ·contradiction
 cases e with
 | normal=>obtain⟨env,q,u,_,A⟩:=F; exact fin env q u A
 | ret=>obtain⟨env,q,u,_,A⟩:=F; exact fin env q u A
 | exit id=>obtain⟨env,q,u,_,A⟩:=F; exact A.elim
 | goto l=>exact F.elim
 | panic ch=>exact F.elim
 | outgrown=>exact F.elim
structure Sys where
 C:FuncId->List Value->Hp->(Value->Hp->Prop)->Prop
 Y:Nat->List Value->Hp->(Value->Hp->Prop)->Prop
 D:FuncId->List Value->Hp->(Hp->Prop)->Prop
def Sys.of (P:Program):Sys:={C:=Cl P,Y:=Sy P,D:=Uy P}
def pJ (P:Program) (fn:Func) (q:HT) (args:List Value) (h:Hp) (R:Value->Hp->Prop):Prop:=
 match fn.body with
 | some c=>QF P fn c q args h R
 | none=>False
def gI {P:Program} {f:FuncId} {fn:Func} {u:HT} {args:List Value} {h:Hp} {R:Value->Hp->Prop} {A:Prop} (B:P.funcs[f]?=some fn) (q:okF P f=true) (hm:P.follows .mixedOrders=true)
  (he:A=pJ P fn u args h R) (H:A):(Sys.of P).C f args h R:=by
 subst he;refine⟨q,?_⟩;unfold pJ at H;split at H
 ·rename_i c E; exact Jy B E hm H
 ·exact H.elim
def T3 (n:Nat) (x:Value) (m:Nat) (y v:Value) (h:Hp) (R:Value->Hp->Prop):Prop:=
 Vb (ext 0 v) λa=>Vb (ext 1 v) λb=>Vb (ext 2 v) λd=>Sb (bF n x a h) λh1=>Sb (bF m y b h1) λh2=>Vb (aP n x h2) λq=>Vb (aP m y h2) λu=>R (.tuple #[q,u,d]) h2
def T2 (m:Nat) (y v:Value) (h:Hp) (R:Value->Hp->Prop):Prop:=
 Vb (ext 0 v) λa=>Vb (ext 1 v) λb=>Vb (ext 2 v) λd=>Sb (bF m y b h) λh1=>Vb (aP m y h1) λq=>R (.tuple #[a,q,d]) h1
section
variable {P:Program} {o o':Option Value} {k k':Value->Prop} {e e':Option (Value × Hp)} {K K':Value->Hp->Prop} {s s':Option Hp} {L L':Hp->Prop} {v v' w w' x x' y y':Value} {A A' B B':Prop} {l l':List Value} {h:Hp} {f f' n n':Nat} {z z':Array Value}
def TN (h1:o=o') (h2:∀v,k v=k' v):Vb o k=Vb o' k':=by rw[h1,funext h2]
def TW (h1:e=e') (h2:∀v h,K v h=K' v h):Eb e K=Eb e' K':=by rw[h1,funext λv=>funext (h2 v)]
def TA (h1:s=s') (h2:∀h,L h=L' h):Sb s L=Sb s' L':=by rw[h1,funext h2]
def Ts (h1:v=v') (h2:A=A') (q:B=B'):Br v A B=Br v' A' B':=by rw[h1,h2,q]
def Tz (h2:A=A'):Br (.bool true) A B=A':=h2
def Ur (h2:B=B'):Br (.bool false) A B=B':=h2
def T9 (h1:l=l') (h2:∀v h,K v h=K' v h):Cl P f l h K=Cl P f l' h K':=by rw[h1,funext λv=>funext (h2 v)]
def TH {C M m} (h1:v=v') (h2:l=l') (q:∀v h,K v h=K' v h):Ci C M m v l h K=Ci C M m v' l' h K':=by rw[h1,h2,funext λv=>funext (q v)]
def T1 {C Y M} (h1:v=v') (h2:l=l') (q:∀v h,K v h=K' v h):Cw C Y M v l h K=Cw C Y M v' l' h K':=by rw[h1,h2,funext λv=>funext (q v)]
def Ty {t:TypeId} (h1:z=z') (h2:n=n') (q:f=f') (u:v=v') (E:w=w') (F:∀v h,K v h=K' v h):Ap t z n f v w h K=Ap t z' n' f' v' w' h K':=by rw[h1,h2,q,u,E,funext λv=>funext (F v)]
def Uu (h1:v=v') (h2:∀v h,K v h=K' v h):Nx v h K=Nx v' h K':=by rw[h1,funext λv=>funext (h2 v)]
def R8 (h1:A=A') (h2:B=B'):(A/\B)=(A'/\B'):=by rw[h1,h2]
def Tw (h1:o=o') (h2:v=v'):(o=some v)=(o'=some v'):=by rw[h1,h2]
def Ss {b q:(Hp->Prop)->Prop} (h1:∀h,L h=L' h) (h2:∀J,b J=q J):Cm L b=Cm L' q:=by rw[funext h1,funext h2]
def RN {b q:(Value->Hp->Prop)->Prop} (h1:∀v h,K v h=K' v h) (h2:∀J,b J=q J):m3 K b=m3 K' q:=by rw[funext λv=>funext (h1 v),funext h2]
def SD {C q:Value->Value->Hp->Prop} {b u:(Value->Value->Hp->Prop)->Prop} (h1:∀v w h,C v w h=q v w h) (h2:∀J,b J=u J):Du C b=Du q u:=by rw[funext λv=>funext λw=>funext (h1 v w),funext h2]
def Sv {b q:Hp->(Hp->Prop)->Prop} (h1:∀h g,b h g=q h g):Fm h b=Fm h q:=by rw[funext λh=>funext (h1 h)]
def R6 {b q:Value->Hp->(Value->Hp->Prop)->Prop} (u:v=v') (h1:∀v h g,b v h g=q v h g):oP v h b=oP v' h q:=by rw[u,funext λv=>funext λh=>funext (h1 v h)]
def RV {b q:Value->Value->Hp->(Value->Value->Hp->Prop)->Prop} (u:v=v') (hw:w=w') (h1:∀v w h g,b v w h g=q v w h g):wA v w h b=wA v' w' h q:=by rw[u,hw,funext λv=>funext λw=>funext λh=>funext (h1 v w h)]
def Se {b q:Value->Value->Value->Hp->(Value->Value->Value->Hp->Prop)->Prop} (u:v=v') (hw:w=w') (E:x=x') (h1:∀v w x h g,b v w x h g=q v w x h g):Km v w x h b=Km v' w' x' h q:=by rw[u,hw,E,funext λv=>funext λw=>funext λx=>funext λh=>funext (h1 v w x h)]
def Ul {C Y} {r q:Nat->List Value->Hp->(Value->Hp->Prop)->Prop} {a u:Option Code->Hp->Prop} (h1:v=v') (h2:∀n l h R,r n l h R=q n l h R) (E:∀j h,a j h=u j h):Rg C Y v h r a=Rg C Y v' h q u:=by rw[h1,funext λn=>funext λl=>funext λh=>funext (h2 n l h),funext λj=>funext (E j)]
def T4 {j:Option Code} {C q:Nat->Prop} (h1:A=A') (h2:B=B') (u:∀n,C n=q n):Jp j A B C=Jp j A' B' q:=by rw[h1,h2,funext u]
def TX (h:Nat.beq n f=true) (h2:A=A'):Xb n f A B=A':=by unfold Xb; rw[h]; exact h2
def TD (h:Nat.beq n f=false) (h2:B=B'):Xb n f A B=B':=by unfold Xb; rw[h]; exact h2
def Uq (h1:A=A') (h2:B=B'):Xb n f A B=Xb n f A' B':=by rw[h1,h2]
def Tx {C q:Value->Value->Prop} (h1:∀v w,C v w=q v w):A2 l C=A2 l q:=by rw[funext λv=>funext (h1 v)]
def RE {b:Bool} (h:b=true) (h1:A=A'):okB b A=A':=by rw[h,<-h1]; rfl
def TM {R:Hp->Prop}:R h=R h:=rfl
def Ud {R:Value->Hp->Prop} (h1:v=v'):R v h=R v' h:=by rw[h1]
def Ub {R:Value->Value->Hp->Prop} (h1:v=v') (h2:w=w'):R v w h=R v' w' h:=by rw[h1,h2]
def TF {R:Value->Value->Value->Hp->Prop} (h1:v=v') (h2:w=w') (q:x=x'):R v w x h=R v' w' x' h:=by rw[h1,h2,q]
end
def zN (n:Nat):Int.ofNat (no_index (@OfNat.ofNat Nat n _))=@OfNat.ofNat Int n _:=rfl
def zM:Int.negSucc 0 = -1:=rfl
def rd (A:Prop) {Q:Prop} (h:A=Q:=by
    repeat' first
      | intro _
      | (refine Eq.trans (by conv=>lhs; whnf) ?_
         first
          | refine RE (by kernel_rfl) ?_
          | apply TN
          | apply TW
          | apply TA
          | apply T9
          | apply Tz
          | apply Ur
          | apply Ts
          | apply RN
          | apply Ty
          | apply T1
          | apply TH
          | apply R6
          | apply RV
          | apply Ss
          | apply R8
          | apply Tw
          | apply SD
          | apply Sv
          | apply Se
          | apply Uu
          | apply Ul
          | apply T4
          | refine TX rfl ?_
          | refine TD rfl ?_
          | apply Uq
          | apply Tx
          | apply TM
          | apply Ud
          | apply Ub
          | apply TF)
    all_goals (conv=>lhs; reduce; try dsimp only[zN,zM])):A=Q:=h
def vb {o:Option Value} {k:Value->Prop} {v:Value} (h:o=some v) (q:k v):Vb o k:=⟨v,h,q⟩
def eb {o:Option (Value × Hp)} {k:Value->Hp->Prop} {v:Value} {h':Hp} (h:o=some (v,h')) (q:k v h'):Eb o k:=⟨v,h',h,q⟩
def sb {o:Option Hp} {k:Hp->Prop} {h':Hp} (h:o=some h') (q:k h'):Sb o k:=⟨h',h,q⟩
@[go_sem] theorem aQ (v:Value) (k:Value->Prop):Vb (some v) k=k v:=by simp[Vb]
@[go_sem] theorem C8 (A B:Prop):Br (.bool true) A B=A:=rfl
@[go_sem] theorem kl (A B:Prop):Br (.bool false) A B=B:=rfl
def br {b:Bool} {A B:Prop} (h1:b=true->A) (h2:b=false->B):Br (.bool b) A B:=by cases b; exact h2 rfl; exact h1 rfl
def dW {p:Prop} [Decidable p] {A B:Prop} (h1:p->A) (h2:¬p->B):Br (.bool (decide p)) A B:=br (λh=>h1 (by simpa using h)) (λh=>h2 (by simpa using h))
section
variable {k:IntKind} {a b:Int}
@[go_sem] theorem yV:bin .add (.int k a) (.int k b)=some (.int k (k.wrap (a+b))):=by simp[bin]
@[go_sem] theorem N0:bin .sub (.int k a) (.int k b)=some (.int k (k.wrap (a - b))):=by simp[bin]
@[go_sem] theorem vG:bin .mul (.int k a) (.int k b)=some (.int k (k.wrap (a*b))):=by simp[bin]
@[go_sem] theorem bW:bin .eql (.int k a) (.int k b)=some (.bool (decide (a=b))):=by simp[bin,Bool.beq_eq_decide_eq]
@[go_sem] theorem dZ:bin .neq (.int k a) (.int k b)=some (.bool (decide (a≠b))):=by simp[bin,bne,Bool.beq_eq_decide_eq]
@[go_sem] theorem aV:bin .lss (.int k a) (.int k b)=some (.bool (decide (a<b))):=by simp[bin]
@[go_sem] theorem sP:bin .leq (.int k a) (.int k b)=some (.bool (decide (a<=b))):=by simp[bin]
@[go_sem] theorem eY:bin .gtr (.int k a) (.int k b)=some (.bool (decide (b<a))):=by simp[bin]
@[go_sem] theorem km:bin .geq (.int k a) (.int k b)=some (.bool (decide (b<=a))):=by simp[bin]
def Il (q:b≠0):bin .rem (.int k a) (.int k b)=some (.int k (a.tmod b)):=by simp[bin,q]
def Ot (q:b≠0):bin .quo (.int k a) (.int k b)=some (.int k (k.wrap (a.tdiv b))):=by simp[bin,q]
@[go_sem] theorem E2 (x:Bool):nX (some x)=some (.bool !x):=rfl
end
def zb {n:Int} (h : -9223372036854775808<=n/\n<=9223372036854775807):IntKind.i64.wrap n=n:=by
 rw[IntKind.wrap_i64]; omega
def UB {n:Nat} (h:n<9223372036854775807):IntKind.i64.wrap ((n:Int)+1)=((n+1:Nat):Int):=by
 rw[zb (by omega)]; rfl
def inc {n:Nat} (h:n<9223372036854775807):bin .add (.int .i64 n) (.int .i64 1)=some (.int .i64 (n+1:Nat)):=by rw[yV,UB h]
def cl (h:Hp) (r o:Nat):Option Value:=
 match h[r]? with
 | some (.cells c _ _)=>c[o]?
 | _=>none
def fz (h:Hp) (r o:Nat):Bool:=
 match h[r]? with
 | some (.cells _ _ (lo,hi))=>lo<=o&&o<hi
 | _=>false
def pE (h:Hp) (r o:Nat):cellAt h ⟨r,o,none⟩=cl h r o:=by unfold cellAt cl; split <;> simp_all
def D1 (h:Hp) (r o:Nat):frozenAt h ⟨r,o,none⟩=fz h r o:=rfl
def uY (r o i:Nat):(⟨r,o,none⟩:Addr).add i=⟨r,o+i,none⟩:=by
 unfold Addr.add; split
 ·simp_all
 ·rfl
@[go_sem] theorem gQ (r o j:Nat):fa j (.pointer (some ⟨r,o,none⟩))=some (.pointer (some ⟨r,o+j,none⟩)):=by simp[fa,uY]
def QE (h:Hp) (r o:Nat):eH (.pointer (some ⟨r,o,none⟩)) h=cl h r o:=by simp[eH,pE]
def Po {h:Hp} {r o:Nat} {v:Value} (e:cl h r o=some v):r<h.size:=by
 unfold cl at e;split at e <;> try contradiction
 rename_i q;exact(Array.getElem?_eq_some_iff.mp q).1
structure Ch (D:Nat->Prop) (h h':Hp):Prop where
 size:h.size<=h'.size
 same:∀r,r<h.size->¬D r->h'[r]?=h[r]?
abbrev Gr (h h':Hp):Prop:=Ch (λ_=>False) h h'
def Ch.refl (D:Nat->Prop) (h:Hp):Ch D h h:=⟨Nat.le_refl _,λ_ _ _=>rfl⟩
def Ch.trans {D u E:Nat->Prop} {a b c:Hp} (h:Ch D a b) (k:Ch u b c) (h1:∀r,r<a.size->D r->E r) (h2:∀r,r<a.size->u r->E r):Ch E a c:=
 ⟨Nat.le_trans h.size k.size,λr q A=>(k.same r (Nat.lt_of_lt_of_le q h.size) λe=>A (h2 r q e)).trans (h.same r q λe=>A (h1 r q e))⟩
def Ch.mono {D q:Nat->Prop} {a b:Hp} (h:Ch D a b) (A:∀r,r<a.size->D r->q r):Ch q a b:=⟨h.size,λr u B=>h.same r u λe=>B (A r u e)⟩
def Gr.trans {a b c:Hp} (h:Gr a b) (k:Gr b c):Gr a c:=Ch.trans h k (λ_ _ e=>e) (λ_ _ e=>e)
def Ch.push (h:Hp) (o:Obj):Gr h (h.push o):=⟨by simp,λr q _=>by rw[Array.getElem?_push]; rw[if_neg (by omega)]⟩
def Ch.cl {D:Nat->Prop} {h h':Hp} (c:Ch D h h') {r o:Nat} {v:Value} (q:¬D r) (e:En.cl h r o=some v):En.cl h' r o=some v:=by
 have u:=Po e;unfold En.cl at e⊢;rw[c.same r u q];exact e
def Ch.fz {D:Nat->Prop} {h h':Hp} (c:Ch D h h') {r o:Nat} (q:r<h.size) (u:¬D r):En.fz h' r o=En.fz h r o:=by
 unfold En.fz;rw[c.same r q u]
def KE (h:Hp) (r o q A:Nat) (v u:Value) (hu:cl h r o=some u):cl (setAt h ⟨r,o,none⟩ v) q A=if q=r/\A=o then some v else cl h q A:=by
 have J:=Po hu;unfold cl at hu;unfold cl setAt;rw[Array.getElem?_modify];by_cases e:r=q
 ·subst e;simp only[if_true,true_and];cases G:h[r]? with
  | none=>rw[G] at hu; contradiction
  | some H=>
   rw[G] at hu;cases H <;> simp only at hu <;> try contradiction
   rename_i c el fr;simp only[Option.map_some,Option.isSome_none,Bool.false_eq_true,if_false];have B:=(Array.getElem?_eq_some_iff.mp hu).1;rw[Array.getElem?_setIfInBounds];by_cases F:o=A
   ·subst F; simp[B]
   ·rw[if_neg F,if_neg (λh=>F h.symm)]
 ·rw[if_neg e,if_neg (λh=>e h.1.symm)]
def Ey (h:Hp) (a:Addr) (q u:Nat) (v:Value):fz (setAt h a v) q u=fz h q u:=by
 unfold fz setAt;rw[Array.getElem?_modify];by_cases e:a.block=q
 ·rw[if_pos e];cases B:h[q]? with
  | none=>rfl
  | some A=>cases A <;> rfl
 ·rw[if_neg e]
def Fy (h:Hp) (a:Addr) (v:Value):(setAt h a v).size=h.size:=by simp[setAt]
def LL (h:Hp) (r o:Nat) (v:Value):Ch (λx=>x=r) h (setAt h ⟨r,o,none⟩ v):=
 ⟨by simp[setAt],λx _ q=>by unfold setAt; rw[Array.getElem?_modify,if_neg (λe=>q e.symm)]⟩
structure Up (h h':Hp) (r o:Nat) (vs:List Value):Prop where
 size:h'.size=h.size
 ch:Ch (λx=>x=r) h h'
 fz:∀r' o',fz h' r' o'=fz h r' o'
 put:∀j v,vs[j]?=some v->cl h' r (o+j)=some v
 fP:∀o',(∀j,j<vs.length->o'≠o+j)->cl h' r o'=cl h r o'
def Up.some {h h':Hp} {r o:Nat} {vs:List Value} (u:Up h h' r o vs) {q:Nat} (e:(cl h r q).isSome=true):(cl h' r q).isSome=true:=by
 by_cases k:∃j,j<vs.length/\q=o+j
 ·obtain⟨j,A,rfl⟩:=k;rw[u.put j vs[j] (by simp[A])]; rfl
 ·rw[u.fP q (λj A e=>k ⟨j,A,e⟩)]; exact e
def pA {r o:Nat}:∀(vs:List Value) (i:Nat) (h:Hp),(∀v,v∈vs->v.oneCell'=true)->(∀j,j<vs.length->(cl h r (o+i+j)).isSome=true/\fz h r (o+i+j)=false)->
  ∃h',jU h ⟨r,o,none⟩ i vs=some h'/\Up h h' r (o+i) vs
 | [],i,h,_,_=>⟨h,rfl,rfl,.refl _ _,λ_ _=>rfl,λj v e=>by simp at e,λ_ _=>rfl⟩
 | v::vs,i,h,h1,h2=>by
  have A:=h2 0 (by simp);rw[Nat.add_zero] at A;obtain⟨u,hu⟩:=Option.isSome_iff_exists.mp A.1;have G:∀B q,cl (setAt h ⟨r,o+i,none⟩ v) B q=if B=r/\q=o+i then some v else cl h B q:=λB q=>KE h r (o+i) B q v u hu
  obtain⟨h',e,up⟩:=pA vs (i+1) (setAt h ⟨r,o+i,none⟩ v) (λx H=>h1 x (List.mem_cons_of_mem _ H)) (λj F=>by
   have:=h2 (j+1) (by simpa using F);have e:o+(i+1)+j=o+i+(j+1):=by omega
   rw[e,Ey,G,if_neg (by omega)];exact this)
  refine⟨h',?_,?_⟩
  ·simp only[jU,uY,h1 v (by simp),pE,hu,D1,A.2];exact e
  ·refine⟨up.size.trans (Fy _ _ _),Ch.trans (LL h r (o+i) v) up.ch (λ_ _ e=>e) (λ_ _ e=>e),λB q=>(up.fz B q).trans (Ey _ _ _ _ _),λj w F=>?_,λq ho=>?_⟩
   ·cases j with
    | zero=>
     simp only[List.getElem?_cons_zero,Option.some.injEq] at F;subst F;rw[Nat.add_zero,up.fP (o+i) (λj _=>by omega),G,if_pos ⟨rfl,rfl⟩]
    | succ j=>
     have e:o+i+(j+1)=o+(i+1)+j:=by omega
     rw[e];exact up.put j w (by simpa using F)
   ·rw[up.fP q (λj F=>by have:=ho (j+1) (by simpa using F); omega),G,if_neg (λe=>ho 0 (by simp) (by omega))]
def ug {h:Hp} {r o:Nat}:∀(vs:List Value) (i:Nat),(∀j v,vs[j]?=some v->cl h r (o+i+j)=some v)->md h ⟨r,o,none⟩ i vs.length=some vs
 | [],_,_=>rfl
 | v::vs,i,q=>by
  have u:=q 0 v rfl;rw[Nat.add_zero] at u;have A:=ug (h:=h) (r:=r) (o:=o) vs (i+1) (λj w B=>by
   have:=q (j+1) w (by simpa using B);have e:o+(i+1)+j=o+i+(j+1):=by omega
   rw[e]; exact this)
  simp only[List.length_cons,md,uY,pE,u,A,Option.bind_some]
structure jZ (α:Type) where
 n:Nat
 c:α->List Value
 len:∀a,(c a).length=n
 one:∀a v,v∈c a->v.oneCell'=true
def Row {α:Type} (E:jZ α) (h:Hp) (r o:Nat) (x:α):Prop:=∀j v,(E.c x)[j]?=some v->cl h r (o+j)=some v
def Row.ch {α:Type} {E:jZ α} {D:Nat->Prop} {h h':Hp} {r o:Nat} {x:α} (e:Row E h r o x) (c:Ch D h h') (q:¬D r):Row E h' r o x:=λj v hv=>c.cl q (e j v hv)
def Row.aP {α:Type} {E:jZ α} {h:Hp} {r o:Nat} {x:α} (e:Row E h r o x) {n:Nat} (q:n=E.n):aP n (.pointer (some ⟨r,o,none⟩)) h=some (.agg (E.c x).toArray):=by
 unfold En.aP;have:=ug (h:=h) (r:=r) (o:=o) (E.c x) 0 (λj v hv=>e j v hv);rw[E.len] at this;simp only[q,this,Option.bind_some]
def Row.eH {α:Type} {E:jZ α} {h:Hp} {r o j:Nat} {x:α} (e:Row E h r o x) {v:Value} (hv:(E.c x)[j]?=some v):eH (.pointer (some ⟨r,o+j,none⟩)) h=some v:=by
 rw[QE]; exact e j v hv
def Row.rq {α:Type} {E:jZ α} {h:Hp} {r o:Nat} {x:α} (e:Row E h r o x) {v:Value} (hv:(E.c x)[0]?=some v):En.eH (.pointer (some ⟨r,o,none⟩)) h=some v:=e.eH (j:=0) hv
def Sl {α:Type} (E:jZ α) (h:Hp) (v:Value) (xs:List α):Prop:=
 ∃a cap,v=.slice a xs.length cap/\xs.length<=cap/\(a=none->cap=0)/\∀i x,xs[i]?=some x->∃r o,a=some ⟨r,o,none⟩/\Row E h r (o+i*E.n) x
def cL:Value->Option Nat
 | .slice (some a) _ _=>some a.block
 | _=>none
def Ow {α:Type} (E:jZ α) (h:Hp) (v:Value) (xs:List α):Prop:=
 (v=.slice none 0 0/\xs=[])\/∃r o cap,v=.slice (some ⟨r,o,none⟩) xs.length cap/\xs.length<=cap/\r<h.size/\(∀i x,xs[i]?=some x->Row E h r (o+i*E.n) x)/\
  ∀j,j<cap*E.n->(cl h r (o+j)).isSome=true/\fz h r (o+j)=false
section
variable {α:Type} {E:jZ α} {h h':Hp} {v:Value} {xs:List α} {D:Nat->Prop}
def Ow.sl (H:Ow E h v xs):Sl E h v xs:=by
 rcases H with ⟨rfl,rfl⟩| ⟨r,o,cap,rfl,u,_,A,_⟩
 ·exact⟨none,0,rfl,by simp,λ_=>rfl,λi x q=>by simp at q⟩
 ·exact⟨_,cap,rfl,u,λe=>by simp at e,λi x q=>⟨r,o,rfl,A i x q⟩⟩
def Sl.ch (H:Sl E h v xs) (c:Ch D h h') (q:∀r,cL v=some r->¬D r):Sl E h' v xs:=by
 obtain⟨a,cap,rfl,h1,h2,u⟩:=H;refine⟨a,cap,rfl,h1,h2,λi x A=>?_⟩;obtain⟨r,o,rfl,B⟩:=u i x A;exact⟨r,o,rfl,B.ch c (q r rfl)⟩
def Sl.gr (H:Sl E h v xs) (c:Gr h h'):Sl E h' v xs:=H.ch c λ_ _ e=>e
def Ow.ch (H:Ow E h v xs) (c:Ch D h h') (q:∀r,cL v=some r->¬D r):Ow E h' v xs:=by
 rcases H with ⟨rfl,rfl⟩| ⟨r,o,cap,rfl,B,A,F,hw⟩
 ·exact .inl ⟨rfl,rfl⟩
 ·refine .inr ⟨r,o,cap,rfl,B,Nat.lt_of_lt_of_le A c.size,λi x G=>(F i x G).ch c (q r rfl),λj J=>?_⟩;obtain⟨a,b⟩:=hw j J;obtain⟨u,hu⟩:=Option.isSome_iff_exists.mp a;exact⟨by rw[c.cl (q r rfl) hu]; rfl,by rw[c.fz A (q r rfl)]; exact b⟩
def Ow.nil:Ow E h (.slice none 0 0) []:=.inl ⟨rfl,rfl⟩
def Sl.nil:Sl E h (.slice none 0 0) []:=Ow.nil.sl
def Sl.ln (H:Sl E h v xs):B5 v=some (.int .i64 xs.length):=by obtain⟨a,cap,rfl,_⟩:=H; rfl
def Ow.lt (H:Ow E h v xs) {r:Nat} (q:cL v=some r):r<h.size:=by
 rcases H with ⟨rfl,rfl⟩| ⟨u,o,cap,rfl,A,B,_⟩
 ·simp[cL] at q
 ·simp only[cL,Option.some.injEq] at q; omega
def Sl.ix (H:Sl E h v xs) {i:Nat} {x:α} (u:xs[i]?=some x) {n:Nat} (A:n=E.n) {k:IntKind} {z:Int} (B:z=i) :
  ∃r o,nh n v (.int k z)=some (.pointer (some ⟨r,o,none⟩))/\Row E h r o x/\cL v=some r:=by
 obtain⟨a,cap,rfl,h1,h2,F⟩:=H;obtain⟨r,o,rfl,G⟩:=F i x u;have q:=(List.getElem?_eq_some_iff.mp u).1;subst B A;exact⟨r,o+i*E.n,by simp[nh,q,uY],G,rfl⟩
def Sl.whole (H:Sl E h v xs) {n:Nat} (u:n=E.n) {k:Value->Prop} {i:Nat} {x:α} (A:xs[i]?=some x) {q:IntKind} {z:Int} (B:z=i) (F:k (.agg (E.c x).toArray)) :
  Vb (nh n v (.int q z)) λp=>Vb (aP n p h) k:=by
 obtain⟨r,o,e,G,_⟩:=H.ix A u B (k:=q);exact vb e (vb (G.aP u) F)
def Sl.one (H:Sl E h v xs) {n:Nat} (A:n=E.n) {k:Value->Prop} {i:Nat} {x:α} (B:xs[i]?=some x) {q:IntKind} {z:Int} (F:z=i) {u:Value} (hu:(E.c x)[0]?=some u) (G:k u) :
  Vb (nh n v (.int q z)) λp=>Vb (eH p h) k:=by
 obtain⟨r,o,e,J,_⟩:=H.ix B A F (k:=q);exact vb e (vb (J.rq hu) G)
def Sl.oW (H:Sl E h v xs) {n:Nat} (A:n=E.n) {k:Value->Prop} {i:Nat} {x:α} (B:xs[i]?=some x) {q:IntKind} {z:Int} (F:z=i) {j:Nat} {u:Value} (hu:(E.c x)[j]?=some u) (G:k u) :
  Vb (nh n v (.int q z)) λp=>Vb (fa j p) λp=>Vb (eH p h) k:=by
 obtain⟨r,o,e,J,_⟩:=H.ix B A F (k:=q);exact vb e (vb (gQ _ _ _) (vb (J.eH hu) G))
def yu (E:jZ α):∀(xs:List α) (j:Nat) (u:Value),(xs.flatMap E.c)[j]?=some u->∃i x q,xs[i]?=some x/\(E.c x)[q]?=some u/\j=i*E.n+q
 | [],j,u,h=>by simp at h
 | x::xs,j,u,h=>by
  rw[List.flatMap_cons] at h;by_cases A:j<(E.c x).length
  ·rw[List.getElem?_append_left A] at h;exact⟨0,x,j,rfl,h,by simp⟩
  ·rw[List.getElem?_append_right (by omega),E.len] at h;obtain⟨i,y,q,h1,h2,B⟩:=yu E xs _ u h;rw[E.len] at A;exact⟨i+1,y,q,by simpa using h1,h2,by rw[Nat.succ_mul]; omega⟩
def kR (E:jZ α):∀xs:List α,(xs.flatMap E.c).length=xs.length*E.n
 | []=>by simp
 | x::xs=>by rw[List.flatMap_cons,List.length_append,kR E xs,E.len,List.length_cons,Nat.succ_mul]; omega
def Sl.row (H:Sl E h v xs) {n:Nat} (A:n=xs.length*E.n):rowOf v n h=some (xs.flatMap E.c):=by
 obtain⟨a,cap,rfl,h1,h2,q⟩:=H;subst A;cases xs with
 | nil=>
  cases a with
  | none=>rfl
  | some a=>simp[rowOf,md]
 | cons B F=>
  obtain⟨r,o,rfl,_⟩:=q 0 B rfl;unfold rowOf;rw[<-kR];refine ug _ _ λj u G=>?_;obtain⟨i,x,J,K,L,rfl⟩:=yu E _ j u G;obtain⟨N,O,e,M⟩:=q i x K;simp only[Option.some.injEq,Addr.mk.injEq,and_true] at e;obtain⟨rfl,rfl⟩:=e;have:=M J u L;rw[Nat.add_zero,<-Nat.add_assoc];exact this
end
def sr (z:Array Value) (n:Nat):(Builtin.zeroCells z n).size=n*z.size:=by simp[Builtin.zeroCells]
def ap {α:Type} {E:jZ α} {e:TypeId} {zero:Array Value} {n bytes:Nat} {s x:Value} {h:Hp} {xs ys:List α} {k:Value->Hp->Prop}
  (hs:Ow E h s xs) (R:Sl E h x ys) (hn:n=E.n) (hz:zero.size=E.n) (T:(xs.length+ys.length)*bytes<=140737488355328) (U:xs.length+ys.length<=9223372036854775807)
  (M:∀v h',Ow E h' v (xs++ys)->Ch (λr=>cL s=some r) h h'->(cL v=cL s\/cL v=some h.size)->k v h'):Ap e zero n bytes s x h k:=by
 obtain⟨xa,xc,ex,V,aS,N⟩:=id R;have A:=R.row rfl;subst hn;have L:=hs.sl;have B:=L.row rfl;have grow:∀(sn:Option Addr) (sc:Nat),s=.slice sn xs.length sc->∀cap,xs.length+ys.length<=cap->k (.slice (some ⟨h.size,0,none⟩) (xs.length+ys.length) cap) (h.push (.cells ((xs.flatMap E.c).toArray++(ys.flatMap E.c).toArray++Builtin.zeroCells zero (cap - (xs.length+ys.length))) e)):=by
  intro sn sc X cap G;refine M _ _ (.inr ⟨h.size,0,cap,by simp,by simpa using G,by simp,λi y F=>?_,λj J=>?_⟩) ((Ch.push h _).mono λ_ _ e=>e.elim) (.inr rfl)
  ·intro j u hu;have H:((xs++ys).flatMap E.c)[i*E.n+j]?=some u:=by
    clear M R A B L hs T U G X N;generalize xs++ys=Z at F;induction Z generalizing i with
    | nil=>simp at F
    | cons z Z ih=>
     rw[List.flatMap_cons];cases i with
     | zero=>
      simp only[List.getElem?_cons_zero,Option.some.injEq] at F;subst F;rw[Nat.zero_mul,Nat.zero_add,List.getElem?_append_left (List.getElem?_eq_some_iff.mp hu).1];exact hu
     | succ i=>
      have:=ih i (by simpa using F);rw[List.getElem?_append_right (by rw[E.len,Nat.succ_mul]; omega),E.len];have e2:(i+1)*E.n+j - E.n=i*E.n+j:=by rw[Nat.succ_mul]; omega
      rw[e2]; exact this
   have O:=(List.getElem?_eq_some_iff.mp H).1;unfold cl;simp only[Array.getElem?_push_size,Nat.zero_add];rw[Array.getElem?_append_left (by rw[List.flatMap_append,List.length_append] at O; simpa using O)];rw[List.flatMap_append] at H;simpa using H
  ·unfold cl fz;simp only[Array.getElem?_push_size,Nat.zero_add];refine⟨?_,by simp⟩;have:j<((xs.flatMap E.c).toArray++(ys.flatMap E.c).toArray++Builtin.zeroCells zero (cap - (xs.length+ys.length))).size:=by
    have h1:=kR E xs;have h2:=kR E ys;simp only[Array.size_append,List.size_toArray,sr,hz,h1,h2];have:cap=xs.length+ys.length+(cap - (xs.length+ys.length)):=by omega
    rw[this,Nat.add_mul,Nat.add_mul] at J;exact J
   rw[Array.getElem?_eq_getElem this]; rfl
 rcases hs with ⟨rfl,rfl⟩| ⟨r,o,cap,rfl,G,hr,K,hw⟩
 ·refine⟨none,0,0,xa,ys.length,xc,_,rfl,ex,A,λhle=>?_,λ_=>⟨by simpa using T,by simpa using U,_,B,λcap hc _=>by simpa using grow none 0 rfl cap (by simpa using hc)⟩⟩;have:ys=[]:=List.length_eq_zero_iff.mp (by omega);subst this;simp only[List.length_nil,Nat.add_zero];exact M _ _ (.inl ⟨rfl,rfl⟩) (.refl _ _) (.inl rfl)
 ·refine⟨_,xs.length,cap,xa,ys.length,xc,_,rfl,ex,A,λhle=>?_,λ_=>⟨T,U,_,B,λQ hc _=>grow _ _ rfl Q hc⟩⟩;have ea:(⟨r,o,none⟩:Addr).add (xs.length*E.n)=⟨r,o+xs.length*E.n,none⟩:=uY _ _ _;show ∃h',jU h ((⟨r,o,none⟩:Addr).add (xs.length*E.n)) 0 (ys.flatMap E.c)=some h'/\_;rw[ea];obtain⟨h',e1,up⟩:=pA (r:=r) (o:=o+xs.length*E.n) (ys.flatMap E.c) 0 h (λu hu=>by
    obtain⟨y,_,F⟩:=List.mem_flatMap.mp hu;exact E.one y u F) (λj J=>by
    rw[kR] at J;have:=hw (xs.length*E.n+j) (by
     have:(xs.length+ys.length)*E.n<=cap*E.n:=Nat.mul_le_mul_right _ hle;rw[Nat.add_mul] at this; omega)
    rw[Nat.add_zero,Nat.add_assoc]; exact this)
  refine⟨h',e1,M _ _ (.inr ⟨r,o,cap,by simp,by simpa using hle,by rw[up.size]; exact hr,λi y F j u hu=>?_,λj J=>?_⟩) (up.ch.mono λx _ e=>by subst e; rfl) (.inl rfl)⟩
  ·have J:j<E.n:=by have:=(List.getElem?_eq_some_iff.mp hu).1; rwa [E.len] at this
   by_cases hi:i<xs.length
   ·rw[List.getElem?_append_left hi] at F;rw[up.fP _ (λj' _=>by
     have:(i+1)*E.n<=xs.length*E.n:=Nat.mul_le_mul_right _ hi;rw[Nat.succ_mul] at this; omega)]
    exact K i y F j u hu
   ·rw[List.getElem?_append_right (by omega)] at F;have H:(ys.flatMap E.c)[(i - xs.length)*E.n+j]?=some u:=by
     generalize i - xs.length=q at F;clear M R A B L T U G K hw grow up e1 hle N V ex;induction ys generalizing q with
     | nil=>simp at F
     | cons z Z ih=>
      rw[List.flatMap_cons];cases q with
      | zero=>
       simp only[List.getElem?_cons_zero,Option.some.injEq] at F;subst F;rw[Nat.zero_mul,Nat.zero_add,List.getElem?_append_left (by rw[E.len]; exact J)];exact hu
      | succ q=>
       have:=ih q (by simpa using F);rw[List.getElem?_append_right (by rw[E.len,Nat.succ_mul]; omega),E.len];have e2:(q+1)*E.n+j - E.n=q*E.n+j:=by rw[Nat.succ_mul]; omega
       rw[e2]; exact this
    have:=up.put _ _ H;have hh:o+i*E.n+j=o+xs.length*E.n+0+((i - xs.length)*E.n+j):=by
     obtain⟨q,rfl⟩:∃q,i=xs.length+q:=⟨i - xs.length,by omega⟩;rw[Nat.add_sub_cancel_left,Nat.add_mul]; omega
    rw[hh]; exact this
  ·exact⟨up.some (hw j J).1,by rw[up.fz]; exact(hw j J).2⟩
section
variable {α:Type} {E:jZ α} {h h':Hp} {v:Value} {xs:List α}
def Iy:∀{xs:List α} {i:Nat} {y:α} {j:Nat} {u:Value},xs[i]?=some y->(E.c y)[j]?=some u->(xs.flatMap E.c)[i*E.n+j]?=some u
 | [],_,_,_,_,h,_=>by simp at h
 | z::A,i,y,j,u,q,hu=>by
  rw[List.flatMap_cons];cases i with
  | zero=>
   simp only[List.getElem?_cons_zero,Option.some.injEq] at q;subst q;rw[Nat.zero_mul,Nat.zero_add,List.getElem?_append_left (List.getElem?_eq_some_iff.mp hu).1];exact hu
  | succ i=>
   have:=Iy (xs:=A) (i:=i) (by simpa using q) hu;rw[List.getElem?_append_right (by rw[E.len,Nat.succ_mul]; omega),E.len];have B:(i+1)*E.n+j - E.n=i*E.n+j:=by rw[Nat.succ_mul]; omega
   rw[B]; exact this
def Ow.new {cs:Array Value} {e:TypeId} {cap:Nat} (A:∀(j:Nat) (u:Value),(xs.flatMap E.c)[j]?=some u->cs[j]?=some u) (B:xs.length<=cap) (q:cap*E.n<=cs.size) :
  Ow E (h.push (.cells cs e)) (.slice (some ⟨h.size,0,none⟩) xs.length cap) xs:=by
 refine .inr ⟨h.size,0,cap,rfl,B,by simp,λi x F j u hu=>?_,λj G=>?_⟩
 ·unfold cl;simp only[Array.getElem?_push_size,Nat.zero_add];exact A _ _ (Iy F hu)
 ·unfold cl fz;simp only[Array.getElem?_push_size,Nat.zero_add];exact⟨by rw[Array.getElem?_eq_getElem (by omega)]; rfl,by simp⟩
def Ow.lit {cs:List Value} {e:TypeId} {len:Nat} (q:cs=xs.flatMap E.c) (A:xs.length=len):Ow E (h.push (.cells ⟨cs⟩ e)) (.slice (some ⟨h.size,0,none⟩) len len) xs:=by
 subst A q;exact Ow.new (λ(j:Nat) (u:Value) B=>by simpa using B) (Nat.le_refl _) (by rw[List.size_toArray,kR]; exact Nat.le_refl _)
def z5 (off:Nat):∀(l:List Value) (i:Nat) (cs:List Value),off+i+l.length<=cs.length->((l.zipIdx i).foldl (λ(cs:Array Value) (x:Value × Nat)=>cs.setIfInBounds (off+x.2) x.1) cs.toArray).toList=cs.take (off+i)++l++cs.drop (off+i+l.length)
 | [],i,cs,_=>by simp
 | u::l,i,cs,h=>by
  rw[List.length_cons] at h;rw[List.zipIdx_cons,List.foldl_cons];have e:cs.toArray.setIfInBounds (off+i) u=(cs.set (off+i) u).toArray:=by simp
  simp only[e];rw[z5 off l (i+1) (cs.set (off+i) u) (by rw[List.length_set]; omega),List.set_eq_take_append_cons_drop,if_pos (by omega)];have q:(cs.take (off+i)).length=off+i:=by rw[List.length_take]; omega
  have A:(cs.take (off+i)++u::cs.drop (off+i+1)).take (off+(i+1))=cs.take (off+i)++[u]:=by
   rw[List.take_append,q,List.take_of_length_le (by omega),show off+(i+1) - (off+i)=1 by omega]; rfl
  have B:(cs.take (off+i)++u::cs.drop (off+i+1)).drop (off+(i+1)+l.length)=cs.drop (off+i+(l.length+1)):=by
   rw[List.drop_append,q,List.drop_of_length_le (by omega),List.nil_append,show off+(i+1)+l.length - (off+i)=l.length+1 by omega,List.drop_succ_cons,List.drop_drop];congr 1; omega
  rw[A,B,List.length_cons];simp
def ID {n:Nat}:∀(us:List Value) (i:Nat) (cs:List Value),cs.length=(i+us.length)*n->(∀u,u∈us->u.cells.size=n)->
  Instr.fill (λi=>some (i*n,n)) cs.toArray ((us.zipIdx i).map λx=>(x.2,x.1))=some (cs.take (i*n)++us.flatMap λu=>u.cells.toList).toArray
 | [],i,cs,h,_=>by
  simp only[List.zipIdx_nil,List.map_nil,Instr.fill,List.flatMap_nil,List.append_nil];rw[List.take_of_length_le (by simp at h; omega)]
 | u::us,i,cs,h,hu=>by
  have h1:=hu u (by simp);rw[List.zipIdx_cons,List.map_cons];unfold Instr.fill;simp only[List.length_cons] at h;have hm:(i+(us.length+1))*n=i*n+n+us.length*n:=by rw[Nat.add_mul,Nat.add_mul,Nat.one_mul]; omega
  rw[hm] at h;have B:(u.cells.size≠n||i*n+u.cells.size > cs.toArray.size)=false:=by simp[h1]; omega
  simp only[B,Bool.false_eq_true,if_false];have F:(u.cells.zipIdx.foldl (λcs x=>cs.setIfInBounds (i*n+x.2) x.1) cs.toArray)=(cs.take (i*n)++u.cells.toList++cs.drop (i*n+n)).toArray:=by
   apply Array.ext';rw[<-Array.foldl_toList,Array.toList_zipIdx,z5]
   ·have:u.cells.toList.length=n:=by simpa using h1
    rw[Nat.add_zero,this]
   ·have:u.cells.toList.length=n:=by simpa using h1
    rw[Nat.add_zero,this]; omega
  have q:u.cells.toList.length=n:=by simpa using h1
  have A:(cs.take (i*n)).length=i*n:=by rw[List.length_take]; omega
  rw[F,ID us (i+1) _ (by rw[List.length_append,List.length_append,A,q,List.length_drop,Nat.add_mul,Nat.add_mul,Nat.one_mul]; omega) (λu h=>hu u (List.mem_cons_of_mem _ h))];congr 2;rw[Nat.succ_mul,List.flatMap_cons,<-List.append_assoc];congr 1;rw[List.take_append,List.length_append,A,q,Nat.sub_self,List.take_zero,List.append_nil,List.take_of_length_le (by rw[List.length_append,A,q]; omega)]
def GB {zero:Array Value} {n len:Nat} {e:TypeId} {us:List Value} {parts:List (Nat × Value)} (q:parts=us.zipIdx.map λx=>(x.2,x.1)) (A:us.length=len) (hu:∀u,u∈us->u.cells.size=n) :
  zO zero n len e parts h=some (.slice (some ⟨h.size,0,none⟩) len len,h.push (.cells ⟨us.flatMap λu=>u.cells.toList⟩ e)):=by
 unfold zO;subst q;have:=ID (n:=n) us 0 ((Array.range (len*n)).map (zero[· % zero.size]!)).toList (by simp[A]) hu;rw[Array.toArray_toList] at this;rw[this];simp
def Ow.ix (H:Ow E h v xs) {i:Nat} {x:α} (q:xs[i]?=some x) {n:Nat} (A:n=E.n) {k:IntKind} {z:Int} (B:z=i) :
  ∃r o cap,v=.slice (some ⟨r,o,none⟩) xs.length cap/\nh n v (.int k z)=some (.pointer (some ⟨r,o+i*E.n,none⟩))/\Row E h r (o+i*E.n) x:=by
 rcases H with ⟨rfl,rfl⟩| ⟨r,o,cap,rfl,G,J,F,hw⟩
 ·simp at q
 ·have u:=(List.getElem?_eq_some_iff.mp q).1;subst B A;exact⟨r,o,cap,rfl,by simp[nh,u,uY],F i x q⟩
def Ow.put (H:Ow E h v xs) {i:Nat} {x y:α} (T:xs[i]?=some x) {j:Nat} {vs:List Value} (Z:∀A u,(E.c y)[A]?=some u->if j<=A/\A<j+vs.length then vs[A - j]?=some u else(E.c x)[A]?=some u)
  (hj:j+vs.length<=E.n) (K:∀u,u∈vs->u.oneCell'=true) {n:Nat} (hn:n=E.n) {q:IntKind} {z:Int} (hz:z=i) :
  ∃r o h',nh n v (.int q z)=some (.pointer (some ⟨r,o,none⟩))/\jU h ⟨r,o+j,none⟩ 0 vs=some h'/\Ow E h' v (xs.set i y)/\Ch (λr=>cL v=some r) h h'/\h'.size=h.size:=by
 obtain⟨r,o,cap,rfl,e1,L⟩:=H.ix T hn hz (k:=q);have M:=(List.getElem?_eq_some_iff.mp T).1;rcases H with ⟨e,_⟩| ⟨r',o',U,e,V,hb,hr,hw⟩
 ·simp at e
 simp only[Value.slice.injEq,Option.some.injEq,Addr.mk.injEq,and_true,true_and] at e;obtain⟨⟨rfl,rfl⟩,rfl⟩:=e;have hmul:i*E.n+E.n<=xs.length*E.n:=by have:(i+1)*E.n<=xs.length*E.n:=Nat.mul_le_mul_right _ M; rw[Nat.succ_mul] at this; exact this
 have Q:xs.length*E.n<=cap*E.n:=Nat.mul_le_mul_right _ V;obtain⟨h',e2,up⟩:=pA (r:=r) (o:=o+i*E.n+j) vs 0 h K (λA B=>by
  have:=hw (i*E.n+j+A) (by omega);rw[Nat.add_zero,show o+i*E.n+j+A=o+(i*E.n+j+A) by omega]; exact this)
 refine⟨r,o+i*E.n,h',e1,e2,.inr ⟨r,o,cap,by simp,by simpa using V,by rw[up.size]; exact hb,λG x' F A u hu=>?_,λA B=>?_⟩,up.ch.mono λx _ e=>by subst e; rfl,up.size⟩
 ·have B:A<E.n:=by have:=(List.getElem?_eq_some_iff.mp hu).1; rwa [E.len] at this
  rw[Nat.add_zero] at up;by_cases J:G=i
  ·subst J;rw[List.getElem?_set_self M,Option.some.injEq] at F;subst F;have:=Z A u hu;split at this
   ·rename_i hc;have X:=up.put (A - j) u this;rw[show o+G*E.n+j+(A - j)=o+G*E.n+A by omega] at X;exact X
   ·rename_i hc;rw[up.fP _ (λq hq=>by omega)];exact L A u this
  ·rw[List.getElem?_set_ne (λe=>J e.symm)] at F;have R:∀q,q<vs.length->o+G*E.n+A≠o+i*E.n+j+q:=by
    intro q hq;rcases Nat.lt_or_gt_of_ne J with N | O
    ·have:(G+1)*E.n<=i*E.n:=Nat.mul_le_mul_right _ N;rw[Nat.succ_mul] at this; omega
    ·have:(i+1)*E.n<=G*E.n:=Nat.mul_le_mul_right _ O;rw[Nat.succ_mul] at this; omega
   rw[up.fP _ R];exact hr G x' F A u hu
 ·exact⟨up.some (hw A B).1,by rw[up.fz]; exact(hw A B).2⟩
def IC {r o n:Nat} {cs:List Value} (q:cs.length=n):bF n (.pointer (some ⟨r,o,none⟩)) (.agg ⟨cs⟩) h=jU h ⟨r,o,none⟩ 0 cs:=by
 have:Nat.beq (Value.cells (.agg ⟨cs⟩)).size n=true:=by simp[Value.cells,q]
 simp only[bF,this]; rfl
def MZ {r o:Nat} {u:Value} (hu:u.oneCell'=true):bF 1 (.pointer (some ⟨r,o,none⟩)) u h=jU h ⟨r,o,none⟩ 0 [u]:=by
 cases u <;> first | rfl | contradiction
def Ow.set (H:Ow E h v xs) {i:Nat} (hi:i<xs.length) (y:α) {n:Nat} (A:n=E.n) {q:IntKind} {z:Int} (B:z=i) {k:Hp->Prop} {w:Value} (hw:w=.agg ⟨E.c y⟩)
  (F:∀h',Ow E h' v (xs.set i y)->Ch (λr=>cL v=some r) h h'->k h'):Vb (nh n v (.int q z)) λp=>Sb (bF n p w h) k:=by
 obtain⟨r,o,h',G,J,K,L,_⟩:=H.put (List.getElem?_eq_getElem hi) (y:=y) (j:=0) (vs:=E.c y) (λM u hu=>by
  rw[if_pos ⟨Nat.zero_le _,by have:=(List.getElem?_eq_some_iff.mp hu).1; omega⟩]; exact hu) (by rw[E.len]; omega) (E.one y) A B (q:=q)
 subst hw;exact vb G (sb ((IC (by rw[E.len,A])).trans J) (F h' K L))
def Ow.EJ (H:Ow E h v xs) {i:Nat} {x:α} (B:xs[i]?=some x) (y:α) {n:Nat} (F:n=E.n) {q:IntKind} {z:Int} (G:z=i) {j:Nat} {k:Hp->Prop} {w:Value} (hw:w.oneCell'=true) (R:j<E.n) (J:E.c y=(E.c x).set j w)
  (K:∀h',Ow E h' v (xs.set i y)->Ch (λr=>cL v=some r) h h'->k h'):Vb (nh n v (.int q z)) λp=>Vb (fa j p) λp=>Sb (bF 1 p w h) k:=by
 obtain⟨r,o,h',L,M,N,O,_⟩:=H.put B (y:=y) (j:=j) (vs:=[w]) (λQ u hu=>by
  rw[J,List.getElem?_set] at hu;split
  ·rename_i A;have:j=Q:=by simp only[List.length_cons,List.length_nil] at A; omega
   subst this;rw[if_pos rfl] at hu;split at hu <;> simp_all
  ·rename_i A;rw[if_neg (λe=>A (by subst e; simp))] at hu;exact hu) (by simp; omega) (by simpa using hw) F G (q:=q)
 exact vb L (vb (gQ _ _ _) (sb ((MZ hw).trans M) (K h' N O)))
def F8 {n:Nat} {a:Option Addr} {len cap:Nat} {lo hi:Option Value} {l u:Nat} (q:lo=none/\l=0\/∃k z,lo=some (.int k z)/\z=l) (hu:hi=none/\u=len\/∃k z,hi=some (.int k z)/\z=u) (h1:l<=u) (h2:u<=cap) :
  sB n (.slice a len cap) lo hi none=some (.slice (if cap=l then a else a.map (·.add (l*n))) (u - l) (cap - l)):=by
 have A:FC hi len cap=some u:=by
  rcases hu with ⟨rfl,rfl⟩| ⟨k,z,rfl,rfl⟩
  ·rfl
  ·simp[FC,O3,h2]
 have B:AY lo u=some l:=by
  rcases q with ⟨rfl,rfl⟩| ⟨k,z,rfl,rfl⟩
  ·rfl
  ·simp[AY,O3,h1]
 simp[sB,Jd,LR,A,B,JR]
def Sl.sub (H:Sl E h v xs) {n:Nat} (F:n=E.n) {lo hi:Option Value} {l u:Nat} (G:lo=none/\l=0\/∃k z,lo=some (.int k z)/\z=l) (hu:hi=none/\u=xs.length\/∃k z,hi=some (.int k z)/\z=u) (h1:l<=u) (h2:u<=xs.length) :
  ∃w,sB n v lo hi none=some w/\Sl E h w ((xs.take u).drop l)/\(cL w=cL v):=by
 obtain⟨a,cap,rfl,J,K,L⟩:=H;refine⟨_,F8 G hu h1 (Nat.le_trans h2 J),?_,?_⟩
 ·refine⟨_,_,by rw[List.length_drop,List.length_take]; congr 1; omega,by rw[List.length_drop,List.length_take]; omega,?_,λi x q=>?_⟩
  ·intro e;split at e
   ·omega
   ·have:=K (by simpa using e); omega
  ·rw[List.getElem?_drop] at q;have A:=(List.getElem?_eq_some_iff.mp q).1;rw[List.length_take] at A;rw[List.getElem?_take_of_lt (by omega)] at q;obtain⟨r,o,rfl,B⟩:=L _ _ q;rw[if_neg (by omega)];refine⟨r,o+l*n,by simp[uY],?_⟩;subst F;rw[Nat.add_mul] at B;rw[Nat.add_assoc]; exact B
 ·split
  ·cases a <;> rfl
  ·cases a with
   | none=>rfl
   | some a=>simp only[cL,Option.map_some]; unfold Addr.add; split <;> rfl
def Ow.sub (H:Ow E h v xs) {n:Nat} (J:n=E.n) {hi:Option Value} {u:Nat} (hu:hi=none/\u=xs.length\/∃k z,hi=some (.int k z)/\z=u) (h2:u<=xs.length) :
  ∃w,sB n v none hi none=some w/\Ow E h w (xs.take u)/\(cL w=cL v):=by
 rcases H with ⟨rfl,rfl⟩| ⟨r,o,cap,rfl,B,F,G,hw⟩
 ·have:u=0:=by simpa using h2
  subst this;exact⟨_,F8 (.inl ⟨rfl,rfl⟩) hu (Nat.zero_le _) (Nat.zero_le _),.inl ⟨rfl,rfl⟩,rfl⟩
 ·refine⟨_,F8 (.inl ⟨rfl,rfl⟩) hu (Nat.zero_le _) (Nat.le_trans h2 B),.inr ⟨r,o,cap,?_,?_,F,λi x q=>?_,hw⟩,?_⟩
  ·rw[List.length_take,Nat.min_eq_left h2];simp[uY]
  ·rw[List.length_take]; omega
  ·have A:=(List.getElem?_eq_some_iff.mp q).1;rw[List.length_take] at A;rw[List.getElem?_take_of_lt (by omega)] at q;exact G i x q
  ·split
   ·rfl
   ·simp[cL,uY]
end
def bH {α:Type} (ps:List (Int × α)) (k:Int):Option α:=(ps.find? λp=>p.1 == k).map (·.2)
def lC {α:Type}:List (Int × α)->Int->α->List (Int × α)
 | [],k,x=>[(k,x)]
 | p::ps,k,x=>if p.1=k then(k,x)::ps else p::lC ps k x
def pZ {α:Type} (k k':Int) (x:α):∀ps:List (Int × α),bH (lC ps k x) k'=if k'=k then some x else bH ps k'
 | []=>by
  by_cases h:k'=k
  ·subst h; simp[bH,lC]
  ·have h':¬k=k':=λe=>h e.symm;simp[bH,lC,h,h']
 | p::ps=>by
  have u:=pZ k k' x ps;unfold bH at u⊢;unfold lC;by_cases h:p.1=k
  ·rw[if_pos h];by_cases h2:k'=k
   ·subst h2; simp
   ·rw[if_neg h2,List.find?_cons_of_neg (by simpa using λe=>h2 e.symm),List.find?_cons_of_neg (by rw[h]; simpa using λe=>h2 e.symm)]
  ·rw[if_neg h];by_cases q:p.1=k'
   ·rw[List.find?_cons_of_pos (by simpa using q),List.find?_cons_of_pos (by simpa using q),if_neg (by rw[<-q]; exact h)]
   ·rw[List.find?_cons_of_neg (by simpa using q),List.find?_cons_of_neg (by simpa using q)]; exact u
def DX {α:Type} {k:Int} {x:α} {p:Int × α}:∀{ps:List (Int × α)},p∈lC ps k x->p=(k,x)\/p∈ps
 | [],h=>by simpa[lC] using h
 | q::ps,h=>by
  unfold lC at h;split at h
  ·rcases List.mem_cons.mp h with e | e
   ·exact .inl e
   ·exact .inr (List.mem_cons_of_mem _ e)
  ·rcases List.mem_cons.mp h with e | e
   ·exact .inr (by rw[e]; simp)
   ·exact(DX e).imp id (List.mem_cons_of_mem _)
def tI {α:Type} (k:Int) (x:α):∀{ps:List (Int × α)},(ps.map (·.1)).Nodup->((lC ps k x).map (·.1)).Nodup
 | [],_=>by simp[lC]
 | p::ps,h=>by
  rw[List.map_cons,List.nodup_cons] at h;unfold lC;split
  ·rename_i e;rw[List.map_cons,List.nodup_cons];exact⟨by simpa[<-e] using h.1,h.2⟩
  ·rename_i e;rw[List.map_cons,List.nodup_cons];refine⟨λhm=>?_,tI k x h.2⟩;obtain⟨q,u,A⟩:=List.mem_map.mp hm;rcases DX u with rfl | u
   ·exact e A.symm
   ·exact h.1 (List.mem_map.mpr ⟨q,u,A⟩)
def wZ {α:Type} {ps:List (Int × α)} (u:(ps.map (·.1)).Nodup) {k:Int} {x:α}:(k,x)∈ps↔bH ps k=some x:=by
 induction ps with
 | nil=>simp[bH]
 | cons p ps q=>
  rw[List.map_cons,List.nodup_cons] at u;have q:=q u.2;unfold bH at q⊢;by_cases h:p.1=k
  ·rw[List.find?_cons_of_pos (by simpa using h)];simp only[Option.map_some,Option.some.injEq,List.mem_cons];constructor
   ·rintro(e | e)
    ·rw[<-e]
    ·exact absurd (List.mem_map.mpr ⟨_,e,h.symm⟩) u.1
   ·intro e; left; rw[<-h,<-e]
  ·rw[List.find?_cons_of_neg (by simpa using h),<-q,List.mem_cons];constructor
   ·rintro(e | e)
    ·exact absurd (by rw[<-e]) h
    ·exact e
   ·exact .inr
structure SW {α:Type} (ik:IntKind) (E:α->Value) (es:List MapEntry) (ps:List (Int × α)) (clock:Nat):Prop where
 Nr:es.map (λe=>(e.key,e.val))=ps.map (λp=>(Value.int ik p.1,E p.2))
 born:∀e,e∈es->e.born<clock
 nodup:(es.map (·.born)).Nodup
def Mp {α:Type} (ik:IntKind) (E:α->Value) (h:Hp) (v:Value) (ps:List (Int × α)):Prop:=
 ∃r es clock,v=.map (some r)/\h[r]?=some (.map es clock)/\SW ik E es.toList ps clock
def uV:Value->Option Nat
 | .map r=>r
 | _=>none
def yL {α:Type} {ik:IntKind} {E:α->Value} {k:Int}:∀{es:List MapEntry} {ps:List (Int × α)} (i:Nat),es.map (λe=>(e.key,e.val))=ps.map (λp=>(Value.int ik p.1,E p.2))->
  ∃r,Instr.findNow (.int ik) (.int ik k) es i=some r/\r.map (·.2)=(bH ps k).map E/\
   ∀j u,r=some (j,u)->∃A e B ps1 p ps2,es=A++e::B/\ps=ps1++p::ps2/\A.length=j - i/\i<=j/\ps1.length=A.length/\p.1=k/\(∀q∈ps1,q.1≠k)/\e.key=.int ik k
 | [],[],i,_=>⟨none,rfl,rfl,λj u e=>by simp at e⟩
 | [],_::_,_,h=>by simp at h
 | _::_,[],_,h=>by simp at h
 | e::es,p::ps,i,h=>by
  simp only[List.map_cons,List.cons.injEq,Prod.mk.injEq] at h;obtain⟨⟨h1,h2⟩,J⟩:=h;unfold Instr.findNow;rw[h1];simp only[Instr.sameNow,if_true];by_cases G:k=p.1
  ·subst G;simp only[beq_self_eq_true];refine⟨_,rfl,by simp[bH,h2],λj u H=>?_⟩;simp only[Option.some.injEq,Prod.mk.injEq] at H;obtain⟨rfl,rfl⟩:=H;exact⟨[],e,es,[],p,ps,rfl,rfl,by simp,Nat.le_refl _,rfl,rfl,λq F=>by simp at F,h1⟩
  ·have:(k == p.1)=false:=by simpa using G
   simp only[this];obtain⟨r,K,L,M⟩:=yL (k:=k) (i+1) J;refine⟨r,K,?_,λj u H=>?_⟩
   ·rw[L]; unfold bH; rw[List.find?_cons_of_neg (by simpa using λe=>G e.symm)]
   ·obtain⟨A,N,B,ps1,O,ps2,rfl,rfl,V,X,Q,R,T,U⟩:=M j u H;refine⟨e::A,N,B,p::ps1,O,ps2,rfl,rfl,by simp; omega,by omega,by simp[Q],R,λq F=>?_,U⟩;rcases List.mem_cons.mp F with rfl | F
    ·exact λe=>G e.symm
    ·exact T q F
section
variable {α:Type} {ik:IntKind} {E:α->Value} {h h':Hp} {v:Value} {ps:List (Int × α)} {D:Nat->Prop}
def Mp.new:Mp ik E (h.push (.map #[] 0)) (.map (some h.size)) []:=⟨h.size,#[],0,rfl,by simp,rfl,λe he=>by simp at he,by simp⟩
def Mp.ch (H:Mp ik E h v ps) (c:Ch D h h') (u:∀r,uV v=some r->¬D r):Mp ik E h' v ps:=by
 obtain⟨r,es,clock,rfl,q,he⟩:=H;exact⟨r,es,clock,rfl,(c.same r (Array.getElem?_eq_some_iff.mp q).1 (u r rfl)).trans q,he⟩
def Mp.gr (H:Mp ik E h v ps) (c:Gr h h'):Mp ik E h' v ps:=H.ch c λ_ _ e=>e
def Mp.lt (H:Mp ik E h v ps) {r:Nat} (q:uV v=some r):r<h.size:=by
 obtain⟨A,es,clock,rfl,u,he⟩:=H;simp only[uV,Option.some.injEq] at q;subst q;exact(Array.getElem?_eq_some_iff.mp u).1
def Mp.look (H:Mp ik E h v ps) {zero:Value} {k:Int}:JM (.int ik) zero false v (.int ik k) h=some (((bH ps k).map E).getD zero):=by
 obtain⟨r,es,clock,rfl,q,he⟩:=H;obtain⟨f,h1,h2,_⟩:=yL (k:=k) 0 he.Nr;simp[JM,rm,q,h1,h2]
def DS {p:Int × α} {k:Int} {x:α}:∀{ps1 ps2:List (Int × α)},(∀q∈ps1,q.1≠k)->p.1=k->lC (ps1++p::ps2) k x=ps1++(k,x)::ps2
 | [],ps2,_,h=>by simp[lC,h]
 | q::ps1,ps2,h1,h2=>by
  rw[List.cons_append,lC,if_neg (h1 q (by simp)),DS (λq u=>h1 q (List.mem_cons_of_mem _ u)) h2,List.cons_append]
def Er {k:Int} {x:α}:∀{ps:List (Int × α)},bH ps k=none->lC ps k x=ps++[(k,x)]
 | [],_=>rfl
 | p::ps,h=>by
  unfold bH at h;by_cases e:p.1=k
  ·rw[List.find?_cons_of_pos (by simpa using e)] at h; simp at h
  ·rw[List.find?_cons_of_neg (by simpa using e)] at h;rw[lC,if_neg e,Er h,List.cons_append]
def Mp.put (H:Mp ik E h v ps) (k:Int) (x:α):∃h',wB (.int ik) v (.int ik k) (E x) h=some h'/\Mp ik E h' v (lC ps k x)/\Ch (λr=>uV v=some r) h h'/\h'.size=h.size:=by
 obtain⟨r,es,clock,rfl,L,he⟩:=H;obtain⟨f,h1,h2,Q⟩:=yL (k:=k) 0 he.Nr;have G:=(Array.getElem?_eq_some_iff.mp L).1;have J:∀o,Ch (λN=>uV (.map (some r))=some N) h (h.setIfInBounds r o):=λo=>⟨by simp,λN _ R=>by rw[Array.getElem?_setIfInBounds,if_neg (λe=>R (by rw[<-e]; rfl))]⟩;cases f with
 | some y=>
  obtain⟨j,u⟩:=y;refine⟨_,by simp only[wB,rm,L,h1]; rfl,⟨r,_,clock,rfl,by rw[Array.getElem?_setIfInBounds,if_pos rfl,if_pos G],?_⟩,J _,by simp⟩;obtain⟨K,e,M,ps1,p,ps2,B,rfl,a3,a4,T,U,V,a8⟩:=Q j u rfl;have hm:(es.modify j λe=>{e with key:=.int ik k,val:=E x}).toList=K++{e with key:=.int ik k,val:=E x}::M:=by
   rw[Array.toList_modify,B];have:j=K.length:=by omega
   rw[this,List.modify_eq_take_cons_drop (by simp)];simp
  rw[hm];have O:=he.Nr;rw[B,List.map_append,List.map_append,List.map_cons,List.map_cons] at O;obtain⟨d1,d2⟩:=List.append_inj O (by simp[T]);simp only[List.cons.injEq] at d2;refine⟨?_,?_,?_⟩
  ·rw[DS V U,List.map_append,List.map_append,List.map_cons,List.map_cons,d1,d2.2]
  ·intro F q;rcases List.mem_append.mp q with m | m
   ·exact he.born F (by rw[B]; simp[m])
   ·rcases List.mem_cons.mp m with rfl | m
    ·exact he.born e (by rw[B]; simp)
    ·exact he.born F (by rw[B]; simp[m])
  ·have:=he.nodup;rw[B] at this;simpa using this
 | none=>
  have A:bH ps k=none:=by simpa using h2.symm
  refine⟨_,by simp only[wB,rm,L,h1]; rfl,⟨r,_,clock+1,rfl,by rw[Array.getElem?_setIfInBounds,if_pos rfl,if_pos G],?_⟩,J _,by simp⟩;rw[Array.toList_push];refine⟨?_,?_,?_⟩
  ·rw[Er A,List.map_append,List.map_append,he.Nr]; rfl
  ·intro F q;rcases List.mem_append.mp q with m | m
   ·exact Nat.lt_succ_of_lt (he.born F m)
   ·simp only[List.mem_singleton] at m; subst m; exact Nat.lt_succ_self _
  ·rw[List.map_append,List.nodup_append];refine⟨he.nodup,by simp,λa X b Z=>?_⟩;obtain⟨F,hm,rfl⟩:=List.mem_map.mp X;simp only[List.map_cons,List.map_nil,List.mem_singleton] at Z;have:=he.born F hm;omega
end
def Fs (h:Hp) (v:Value):Prop:=∀r,cL v=some r->h.size<=r
def Nw (h:Hp) (s v:Value):Prop:=∀r,cL v=some r->cL s=some r\/h.size<=r
section
variable {α:Type} {E:jZ α} {h h0 h':Hp} {v s:Value} {xs ys:List α}
def U5 {e:TypeId} {zero:Array Value} {n bytes:Nat} {x:Value} {k:Value->Hp->Prop}
  (hs:Ow E h s xs) (q:Sl E h x ys) (u:n=E.n) (A:zero.size=E.n) (B:(xs.length+ys.length)*bytes<=140737488355328) (F:xs.length+ys.length<=9223372036854775807)
  (G:∀v h',Ow E h' v (xs++ys)->Ch (λr=>cL s=some r) h h'->Nw h s v->k v h'):Ap e zero n bytes s x h k:=
 ap hs q u A B F λv h' a b c=>G v h' a b λr e=>by
  rcases c with c | c
  ·exact .inl (c▸e)
  ·rw[c] at e; simp only[Option.some.injEq] at e; exact .inr (by omega)
end
structure Va {α:Type} (E:jZ α) (h:Hp) (r:Nat) (x:α):Prop where
 lt:r<h.size
 row:Row E h r 0 x
 wr:∀j,j<E.n->(cl h r j).isSome=true/\fz h r j=false
abbrev bE (r:Nat):Value:=.pointer (some ⟨r,0,none⟩)
section
variable {α:Type} {E:jZ α} {h h':Hp} {x y:α} {r:Nat} {D:Nat->Prop}
def Va.ch (H:Va E h r x) (c:Ch D h h') (q:¬D r):Va E h' r x:=
 ⟨Nat.lt_of_lt_of_le H.lt c.size,H.row.ch c q,λj A=>by
  obtain⟨a,b⟩:=H.wr j A;obtain⟨u,hu⟩:=Option.isSome_iff_exists.mp a;exact⟨by rw[c.cl q hu]; rfl,by rw[c.fz H.lt q]; exact b⟩⟩
def Va.whole (H:Va E h r x) {n:Nat} (q:n=E.n):aP n (bE r) h=some (.agg ⟨E.c x⟩):=H.row.aP q
def Va.oW (H:Va E h r x) {j:Nat} {u:Value} (hu:(E.c x)[j]?=some u) {k:Value->Prop} (q:k u):Vb (fa j (bE r)) λp=>Vb (eH p h) k:=
 vb (gQ _ _ _) (vb (H.row.eH hu) q)
def Va.new {cs:Array Value} {e:TypeId} (q:cs.toList=E.c x):Va E (h.push (.cells cs e)) h.size x:=by
 have hs:cs.size=E.n:=by rw[<-Array.length_toList,q,E.len]
 refine⟨by simp,λj u hu=>?_,λj A=>?_⟩
 ·unfold cl;simp only[Array.getElem?_push_size,Nat.zero_add];rw[<-q] at hu;simpa using hu
 ·unfold cl fz;simp only[Array.getElem?_push_size];exact⟨by rw[Array.getElem?_eq_getElem (by omega)]; rfl,by simp⟩
def Va.put (H:Va E h r x) {j:Nat} {vs:List Value} (J:∀A u,(E.c y)[A]?=some u->if j<=A/\A<j+vs.length then vs[A - j]?=some u else(E.c x)[A]?=some u)
  (L:j+vs.length<=E.n) (F:∀u,u∈vs->u.oneCell'=true):∃h',jU h ⟨r,j,none⟩ 0 vs=some h'/\Va E h' r y/\Ch (λq=>q=r) h h'/\h'.size=h.size:=by
 obtain⟨h',K,up⟩:=pA (r:=r) (o:=j) vs 0 h F (λA B=>by rw[Nat.add_zero]; exact H.wr _ (by omega));rw[Nat.add_zero] at up;refine⟨h',K,⟨by rw[up.size]; exact H.lt,λA u hu=>?_,λA B=>⟨up.some (H.wr A B).1,by rw[up.fz]; exact(H.wr A B).2⟩⟩,up.ch,up.size⟩;rw[Nat.zero_add];have:=J A u hu;split at this
 ·have G:=up.put (A - j) u this;rw[show j+(A - j)=A by omega] at G;exact G
 ·rw[up.fP _ (λq M=>by omega)];have:=H.row A u this;rw[Nat.zero_add] at this; exact this
def Va.bF (H:Va E h r x) (y:α) {n:Nat} (A:n=E.n) {w:Value} (hw:w=.agg ⟨E.c y⟩) {k:Hp->Prop} (B:∀h',Va E h' r y->Ch (λq=>q=r) h h'->k h'):Sb (bF n (bE r) w h) k:=by
 obtain⟨h',F,G,J,_⟩:=H.put (y:=y) (j:=0) (vs:=E.c y) (λK u hu=>by
  rw[if_pos ⟨Nat.zero_le _,by have:=(List.getElem?_eq_some_iff.mp hu).1; omega⟩]; exact hu) (by rw[E.len]; omega) (E.one y)
 subst hw;exact sb ((IC (by rw[E.len,A])).trans F) (B h' G J)
end
section
variable {α:Type} {ik:IntKind} {E:α->Value} {h h':Hp} {v:Value} {ps:List (Int × α)}
def Mp.wB (H:Mp ik E h v ps) (k:Int) (x:α) {w:Value} (hw:w=E x) {K:Hp->Prop} (q:∀h',Mp ik E h' v (lC ps k x)->Ch (λr=>uV v=some r) h h'->K h') :
  Sb (En.wB (.int ik) v (.int ik k) w h) K:=by
 subst hw;obtain⟨h',a,b,c,_⟩:=H.put k x;exact sb a (q h' b c)
end
def No {α:Type} {E:jZ α} {h:Hp} {G:α} {zero:Array Value} {n size bytes:Nat} {e:TypeId} (N:zero.toList=E.c G) (hs:size=E.n) (Q:n<=1000000000) (H:bytes<=10000) {k:Value->Hp->Prop}
  (R:∀h',Ow E h' (.slice (some ⟨h.size,0,none⟩) n n) (List.replicate n G)->Gr h h'->h'.size=h.size+1->k (.slice (some ⟨h.size,0,none⟩) n n) h'):Eb (Lw zero size bytes e (.int .i64 n) (.int .i64 n) h) k:=by
 have hm:n*bytes<=1000000000*10000:=Nat.mul_le_mul Q H;refine eb (h':=h.push (.cells ((Array.range (n*size)).map (zero[· % zero.size]!)) e)) (v:=.slice (some ⟨h.size,0,none⟩) n n) ?_ (R _ ?_ (Ch.push _ _) (by simp))
 ·simp only[Lw];rw[if_pos ⟨by omega,by omega,by omega,by have:((n*bytes:Nat):Int)=(n:Int)*(bytes:Int):=(by simp); omega⟩];simp
 ·have J:zero.size=E.n:=by rw[<-Array.length_toList,N,E.len]
  have:=Ow.new (E:=E) (h:=h) (xs:=List.replicate n G) (cs:=(Array.range (n*size)).map (zero[· % zero.size]!)) (e:=e) (cap:=n) (λj u T=>?_) (by simp) (by simp[hs])
  ·simpa using this
  ·obtain⟨i,x,q,K,O,rfl⟩:=yu E _ j u T;have U:x=G:=by rw[List.getElem?_replicate] at K; split at K <;> simp_all
   subst U;have hi:i<n:=by have:=(List.getElem?_eq_some_iff.mp K).1; simpa using this
   have L:q<E.n:=by have:=(List.getElem?_eq_some_iff.mp O).1; rwa [E.len] at this
   have M:i*E.n+q<n*size:=by
    have:(i+1)*E.n<=n*E.n:=Nat.mul_le_mul_right _ hi;rw[Nat.succ_mul] at this; rw[hs]; omega
   have A:(i*E.n+q) % zero.size=q:=by rw[J,Nat.mul_comm,Nat.mul_add_mod,Nat.mod_eq_of_lt L]
   have B:zero[q]?=some u:=by rw[<-Array.getElem?_toList,N]; exact O
   simp only[Array.getElem?_map,Array.getElem?_range,M,if_true,Option.map_some,A];have F:q<zero.size:=by omega
   rw[getElem!_pos zero q F];rw[Array.getElem?_eq_getElem F] at B;exact B
end Go.En
namespace Go.En
open Go.ChangeShapes Go.WideShapes Go.ChangeAt Go.RowKit Go.Deep
section
variable {H:Type} {enc:TypeId × Value->H} {P:Program} {W W':World}
def xK {w:World} {base:Nat} {spare:Nat->Bool} {held:Bool}:∀{ts:List TypeId} {vs:List Value} {ds:List (DataW H)} {ps:List MemPlace},DataW.TrodAll enc P w base spare held ts vs ds ps->vs.length=ts.length/\ds.length=ts.length
 | [],[],[],_,_=>⟨rfl,rfl⟩
 | _::ts,_::vs,_::ds,_,h=>by
  obtain⟨p,q,_,h2,_⟩:=h;have:=xK h2;simp[this.1,this.2]
 | [],[],_::_,_,h=>h.elim
 | [],_::_,_,_,h=>h.elim
 | _::_,[],_,_,h=>h.elim
 | _::_,_::_,[],_,h=>h.elim
def tB (E:laidOutB P=true) (F:Below W.heap.size W W'):∀{ts:List TypeId} {vs:List Value} {ds:List (DataW H)} {ps:List MemPlace},(ts.all λt=>P.readableRec t&&decide (t<P.types.size))=true->
  (∀x∈ps,x.block<W.heap.size)->DataW.TrodAll enc P W 0 (λ_=>true) true ts vs ds ps->DataW.TrodAll enc P W' 0 (λb=>decide (b<W.heap.size)) true ts vs ds ps
 | [],[],[],_,_,_,h=>h
 | t::ts,v::vs,d::ds,ps,A,u,h=>by
  obtain⟨p,q,h1,h2,rfl⟩:=h;simp only[List.all_cons,Bool.and_eq_true,decide_eq_true_eq] at A;exact⟨p,q,Below.trod E A.1.1 A.1.2 h1 F (λx B=>u x (List.mem_append_left _ B)),
   tB E F (by simpa using A.2) (λx B=>u x (List.mem_append_right _ B)) h2,rfl⟩
 | [],[],_::_,_,_,_,h=>h.elim
 | [],_::_,_,_,_,_,h=>h.elim
 | _::_,[],_,_,_,_,h=>h.elim
 | _::_,_::_,[],_,_,_,h=>h.elim
theorem true_calls {f:FuncId} {fn:Func} {spec:ChangeSpec} {N:TypeId} {args:Array Value} {ds gs:List (DataW H)} {before:List MemPlace}
  (U:laidOutB P=true) (V:(fn.params.toList.all λt=>P.readableRec t&&decide (t<P.types.size))=true) (u:spec.vars=[]) (B:fn.resultTypes=#[N]) (F:P.underlying N=some .bool)
  (G:∀ds:List (DataW H),ds.length=fn.params.toList.length->spec.fn H (ds++[])={results:=[.lit (.bool true)],args:=ds})
  (O:DataW.Whole enc P fn.params.toList spec.vars false W args.toList ds gs before)
  (X:Sp P f args.toList W.heap (λv h'=>v=.bool true/\Gr W.heap h')) :
  Calls P f args W (λe W'=>∃v,e=.returned v/\spec.post enc P fn false true false false W args v W'):=by
 have:=X W rfl;rw[Array.toArray_toList] at this;refine this.mono ?_;rintro e W' ⟨v,rfl,⟨rfl,Q⟩,A⟩;refine⟨_,rfl,?_⟩;have R:Below W.heap.size W W':=⟨A.os,A.tape,A.output,Q.size,λk Z=>Q.same k Z (λe=>e)⟩;have E:=O;obtain⟨p,q,T,J,rfl,hn,ha⟩:=O;rw[u] at J;have K:gs=[]/\q=[]:=by
  cases gs with
  | nil=>exact⟨rfl,J⟩
  | cons g gs=>exact J.elim
 obtain⟨rfl,rfl⟩:=K;have hlen:=xK T;have L:=G ds hlen.2;have M:∀x∈p,x.block<W.heap.size:=λx hx=>by simpa using E.lt x (by simpa using hx)
 refine⟨ds,[],p++[],[]++[],p,[],E,?_,?_,?_,R.frame _,λh=>by cases h⟩
 ·rw[L,B];exact⟨[],[],⟨1,by simp[DataW.trod,F,Value.cells]⟩,rfl,rfl⟩
 ·rw[L];exact tB U R V M T
 ·rw[u,L];rfl
def vW {α:Type} {Q:Nat->α->Prop}:∀(n:Nat),(∀i,i<n->∃x,Q i x)->∃xs:List α,xs.length=n/\∀i x,xs[i]?=some x->Q i x
 | 0,_=>⟨[],rfl,λi x h=>by simp at h⟩
 | n+1,h=>by
  obtain⟨xs,u,A⟩:=vW n λi hi=>h i (by omega);obtain⟨y,B⟩:=h n (by omega);refine⟨xs++[y],by simp[u],λi x hi=>?_⟩;by_cases q:i<xs.length
  ·rw[List.getElem?_append_left q] at hi; exact A i x hi
  ·rw[List.getElem?_append_right (by omega)] at hi;have:i=n:=by
    have:=(List.getElem?_eq_some_iff.mp hi).1;simp at this; omega
   subst this;rw[u,Nat.sub_self] at hi;simp only[List.getElem?_cons_zero,Option.some.injEq] at hi;subst hi; exact B
theorem sl_open {α:Type} {E:jZ α} {Q:α->Prop} {t e:TypeId} {v:Value} {d:DataW H} {p:List MemPlace} {base:Nat} (V:P.underlying t=some (.slice e)) (X:P.cellsOf e=E.n) (F:0<E.n)
  (L:∀n cs y,DataW.trod enc P W 0 (λ_=>true) true n e cs=some y->∃x,cs=E.c x/\Q x)
  (hv:Value.okWide P W .any base t v) (h:DataW.Trod enc P W 0 (λ_=>true) true t v d p):∃xs,Sl E W.heap v xs/\∀x∈xs,Q x:=by
 obtain⟨a0,A,Z,rfl⟩:=okWide_slice V hv;obtain⟨aS,hf⟩:=h;rcases open_slice V hf with ⟨q,_⟩| ⟨a,len,cap,m,n,D,Pl,q,_,hl,_,hm,_,hi⟩
 ·simp[Value.cells] at q;obtain⟨rfl,rfl,rfl⟩:=q;exact⟨[],.nil,λx G=>by simp at G⟩
 ·simp[Value.cells] at q;obtain⟨rfl,rfl,rfl⟩:=q;simp only[if_true] at hm;subst hm;have G:∀i,i<A->∃x,(∀j u,(E.c x)[j]?=some u->W.cell? (a.add (i*E.n+j))=some u)/\Q x:=by
   intro i M;obtain⟨aT,N,O⟩:=hi i (by omega);obtain⟨x,rfl,hq⟩:=L _ _ _ O;obtain⟨_,bY,R⟩:=World.cells?_some N;refine⟨x,λj u hu=>?_,hq⟩;have hj:j<P.cellsOf e:=by rw[X]; have:=(List.getElem?_eq_some_iff.mp hu).1; rwa [E.len] at this
   have:=R j hj;rw[hu,X,Go.Deep.add_add] at this;exact this
  obtain⟨xs,hlen,B⟩:=vW A G;refine⟨xs,⟨some a,m,by rw[hlen],by omega,λe=>by simp at e,λi x J=>?_⟩,λx G=>?_⟩
  ·have N:=(B i x J).1;have M:=(List.getElem?_eq_some_iff.mp J).1;have K:a.spot=none:=by
    have h0:0<xs.length:=by omega
    have T:=(B 0 xs[0] (by simp)).1;have U:0<(E.c xs[0]).length:=by rw[E.len]; exact F
    have:=World.cell?_spot (T 0 _ (List.getElem?_eq_getElem U));simpa[Addr.add] using this
   obtain⟨b,off,spot⟩:=a;simp only at K;subst K;refine⟨b,off,rfl,λj u hu=>?_⟩;have:=N j u hu;rw[uY,sG,pE] at this;rw[Nat.add_assoc]; exact this
  ·obtain⟨i,hi,rfl⟩:=List.mem_iff_getElem.mp G;exact(B i _ (List.getElem?_eq_getElem hi)).2
def Qd (P:Program) (f:Field) (i:Nat) (k:Option IntKind):Bool:=
 Nat.beq f.offset i&&Nat.beq (P.cellsOf f.type) 1&&(match P.underlying f.type,k with
  | some (.int a),some b=>a == b
  | some .bool,none=>true
  | _,_=>false)
def IG (P:Program):List Field->Nat->List (Option IntKind)->Bool
 | [],_,[]=>true
 | f::h,i,k::q=>Qd P f i k&&IG P h (i+1) q
 | _,_,_=>false
def Ru (P:Program) (e:TypeId) (h:List (Option IntKind)):Bool:=
 Nat.beq (P.cellsOf e) h.length&&(match P.underlying e with
  | some (.struct q)=>IG P q.toList 0 h
  | _=>false)
def Hf {P:Program}:∀{u:List Field} {i:Nat} {A:List (Option IntKind)},IG P u i A=true->u.length=A.length/\∀(j:Nat) (k:Option IntKind),A[j]?=some k->∃f,u[j]?=some f/\Qd P f (i+j) k=true
 | [],_,[],_=>⟨rfl,λj k h=>by simp at h⟩
 | f::u,i,k::A,h=>by
  simp only[IG,Bool.and_eq_true] at h;obtain⟨h1,h2⟩:=Hf h.2;refine⟨by simp[h1],λj q B=>?_⟩;cases j with
  | zero=>
   simp only[List.getElem?_cons_zero,Option.some.injEq] at B;subst B;exact⟨f,rfl,h.1⟩
  | succ j=>
   obtain⟨g,a,b⟩:=h2 j q (by simpa using B);exact⟨g,by simpa using a,by rw[show i+(j+1)=i+1+j by omega]; exact b⟩
 | [],_,_::_,h=>by simp[IG] at h
 | _::_,_,[],h=>by simp[IG] at h
def Ql (k:Option IntKind) (v:Option Value):Prop:=
 match k with
 | some h=>∃z,v=some (.int h z)/\(Lit.int h z).wf=true
 | none=>∃b,v=some (.bool b)
def ER {e:TypeId} {A:List (Option IntKind)} (hs:Ru P e A=true):∀n cs y,DataW.trod enc P W 0 (λ_=>true) true n e cs=some y->cs.length=A.length/\∀(j:Nat) (k:Option IntKind),A[j]?=some k->Ql k cs[j]?:=by
 intro n cs y h;unfold Ru at hs;rw[Bool.and_eq_true] at hs;obtain⟨F,hs⟩:=hs;have F:=Nat.eq_of_beq_eq_true F;split at hs <;> try contradiction
 rename_i M hu;obtain⟨N,O⟩:=Hf hs;obtain⟨xs,m,_,_,hlen,G,J⟩:=DataW.trod_struct hu h;rw[F] at hlen;refine⟨hlen,λj k L=>?_⟩;obtain⟨f,h1,h2⟩:=O j k L;have Q:j<A.length:=(List.getElem?_eq_some_iff.mp L).1;have t0:=J j f (by simpa using h1);unfold Qd at h2;simp only[Bool.and_eq_true,Nat.zero_add] at h2;obtain⟨⟨o,c⟩,u⟩:=h2;have o:=Nat.eq_of_beq_eq_true o;have c:=Nat.eq_of_beq_eq_true c;have B:(cs.drop j).take 1=[cs[j]'(by omega)]:=by
  rw[List.drop_eq_getElem_cons (by omega)]; rfl
 rw[o,c,B] at t0;have K:xs[j]?=some (xs[j]'(by rw[G]; have:M.size=A.length:=(by simpa using N); omega)):=List.getElem?_eq_getElem _;rw[K] at t0;rw[List.getElem?_eq_getElem (by omega:j<cs.length)];split at u
 ·rename_i a b q;have:a=b:=by simpa using u
  subst this;obtain⟨z,E,_,w⟩:=DataW.trod_int q t0;simp only[List.cons.injEq,and_true] at E;exact⟨z,by rw[E],w⟩
 ·rename_i q;obtain⟨b,E,_⟩:=DataW.trod_bool q t0;simp only[List.cons.injEq,and_true] at E;exact⟨b,by rw[E]⟩
 ·contradiction
end
end Go.En
namespace Go.En
structure It {α:Type} (ik:IntKind) (E:α->Value) (h:Hp) (r m:Nat) (ps:List (Int × α)) (D:List Nat):Prop where
 ex:∃(es:Array MapEntry) (clock:Nat),h[m]?=some (.map es clock)/\SW ik E es.toList ps clock/\h[r]?=some (.mapIter (some m) clock (D.map λi=>((es.toList[i]?).map (·.born)).getD 0).toArray clock)
 nodup:D.Nodup
 lt:∀i∈D,i<ps.length
 ne:r≠m
section
variable {α:Type} {ik:IntKind} {E:α->Value} {h h':Hp} {r m:Nat} {ps:List (Int × α)} {D:List Nat}
def It.mp (H:It ik E h r m ps D):Mp ik E h (.map (some m)) ps:=by
 obtain⟨es,clock,h1,h2,_⟩:=H.ex;exact⟨m,es,clock,rfl,h1,h2⟩
def It.len (H:It ik E h r m ps D):D.length<=ps.length:=by
 have A:(D++(List.range ps.length).filter λi=>!D.contains i).Perm (List.range ps.length):=by
  refine(List.perm_ext_iff_of_nodup ?_ List.nodup_range).mpr λi=>?_
  ·rw[List.nodup_append];refine⟨H.nodup,List.nodup_range.filter _,λa B b q e=>?_⟩;subst e;rw[List.mem_filter] at q;have:=q.2;simp only[Bool.not_eq_true',List.contains_eq_mem,decide_eq_false_iff_not] at this;exact this B
  ·rw[List.mem_append,List.mem_filter,List.mem_range];constructor
   ·rintro(h | h)
    ·exact H.lt i h
    ·exact h.1
   ·intro hi;by_cases u:i∈D
    ·exact .inl u
    ·exact .inr ⟨hi,by simpa using u⟩
 have:=A.length_eq;rw[List.length_append,List.length_range] at this;omega
def N2 {es:List MapEntry} {clock:Nat} (H:SW ik E es ps clock):es.length=ps.length:=by have:=congrArg List.length H.Nr; simpa using this
def PN {es:List MapEntry} {clock:Nat} (H:SW ik E es ps clock) {i:Nat} {e:MapEntry} (h:es[i]?=some e):∃p,ps[i]?=some p/\e.key=.int ik p.1/\e.val=E p.2:=by
 have q:=congrArg (λl=>l[i]?) H.Nr;simp only[List.getElem?_map,h,Option.map_some] at q;cases u:ps[i]? with
 | none=>rw[u] at q; simp at q
 | some p=>
  rw[u] at q;simp only[Option.map_some,Option.some.injEq,Prod.mk.injEq] at q;exact⟨p,rfl,q.1,q.2⟩
def Mt {es:List MapEntry} {clock:Nat} (H:SW ik E es ps clock) {i j:Nat} {e q:MapEntry} (h:es[i]?=some e) (h':es[j]?=some q) (u:e.born=q.born):i=j:=by
 have hi:=(List.getElem?_eq_some_iff.mp h).1;refine(List.getElem?_inj (l:=es.map (·.born)) (by simpa using hi) H.nodup).mp ?_;rw[List.getElem?_map,List.getElem?_map,h,h'];simp[u]
def Ja {es:List MapEntry} {i:Nat} {e:MapEntry} (q:(es.map (·.born)).Nodup) (h:es[i]?=some e):es.find? (·.born == e.born)=some e:=by
 induction es generalizing i with
 | nil=>simp at h
 | cons x es u=>
  rw[List.map_cons,List.nodup_cons] at q;cases i with
  | zero=>
   simp only[List.getElem?_cons_zero,Option.some.injEq] at h;subst h;rw[List.find?_cons_of_pos (by simp)]
  | succ i=>
   have h:es[i]?=some e:=by simpa using h
   have:x.born≠e.born:=λeq=>q.1 (by rw[eq]; exact List.mem_map.mpr ⟨e,List.mem_of_getElem? h,rfl⟩);rw[List.find?_cons_of_neg (by simpa using this)];exact u q.2 h
def It.next (H:It ik E h r m ps D) {k:Value->Hp->Prop} (h0:(∀i,i<ps.length->i∈D)->k (.tuple #[.bool false]) h)
  (h1:∀i p h',ps[i]?=some p->i∉D->It ik E h' r m ps (D++[i])->Ch (λq=>q=r) h h'->oV (bE r) h'=some (.tuple #[.int ik p.1,E p.2])->k (.tuple #[.bool true,.int ik p.1,E p.2]) h'):Nx (bE r) h k:=by
 obtain⟨es,clock,hm,he,V⟩:=H.ex;refine⟨r,rfl,.inr ⟨m,clock,_,clock,es,clock,V,hm,?_,λG=>h0 λi hi=>?_,λe N O=>?_⟩⟩
 ·cases Q:es.isEmpty with
  | true=>simp
  | false=>
   have R:0<es.size:=by
    rcases Nat.eq_zero_or_pos es.size with h | h
    ·have:es=#[]:=Array.eq_empty_of_size_eq_zero h;subst this;simp at Q
    ·exact h
   have:es.all (λe=>decide (e.born>=clock))=false:=by
    rw[Array.all_eq_false];exact⟨0,R,by have:=he.born es[0] (by simp); simpa using this⟩
   rw[this,Bool.and_false]
 ·have hlen:=N2 he;have J:i<es.toList.length:=by omega
  have u:es.toList[i]?=some es.toList[i]:=List.getElem?_eq_getElem J;have K:es.toList[i]∈es:=by simp
  have:=G _ K (he.born _ (List.getElem_mem J));rw[Array.contains_iff_mem,List.mem_toArray,List.mem_map] at this;obtain⟨j,B,e⟩:=this;have aS:=H.lt j B;have A:es.toList[j]?=some (es.toList[j]'(by omega)):=List.getElem?_eq_getElem _;rw[A] at e;simp only[Option.map_some,Option.getD_some] at e;have:=Mt he A u e;subst this;exact B
 ·obtain⟨i,hi,rfl⟩:=List.mem_iff_getElem.mp (Array.mem_toList_iff.mpr N);have u:es.toList[i]?=some es.toList[i]:=List.getElem?_eq_getElem hi;obtain⟨p,X,Z,hv⟩:=PN he u;have F:i∉D:=by
   intro hc;have:(D.map λi=>((es.toList[i]?).map (·.born)).getD 0).toArray.contains es.toList[i].born=true:=by
    rw[Array.contains_iff_mem,List.mem_toArray,List.mem_map];exact⟨i,hc,by rw[u]; rfl⟩
   rw[this] at O;contradiction
  have T:=(Array.getElem?_eq_some_iff.mp V).1;rw[Z,hv];have L:(h.setIfInBounds r (Obj.mapIter (some m) clock ((D.map λi=>((es.toList[i]?).map (·.born)).getD 0).toArray.push es.toList[i].born) clock))[r]?=some (.mapIter (some m) clock ((D.map λi=>((es.toList[i]?).map (·.born)).getD 0).toArray.push es.toList[i].born) clock):=by
   rw[Array.getElem?_setIfInBounds,if_pos rfl,if_pos T]
  have M:(h.setIfInBounds r (Obj.mapIter (some m) clock ((D.map λi=>((es.toList[i]?).map (·.born)).getD 0).toArray.push es.toList[i].born) clock))[m]?=some (.map es clock):=by
   rw[Array.getElem?_setIfInBounds,if_neg H.ne]; exact hm
  refine h1 i p _ X F ⟨⟨es,clock,M,he,?_⟩,?_,λj B=>?_,H.ne⟩ ⟨by simp,λq _ hq=>by rw[Array.getElem?_setIfInBounds,if_neg (λe=>hq e.symm)]⟩ ?_
  ·rw[L,List.map_append,List.map_cons,List.map_nil,u];congr 2;apply Array.ext';simp
  ·rw[List.nodup_append];exact⟨H.nodup,by simp,λa ha b hb e=>F (by simp only[List.mem_singleton] at hb; rw[<-hb,<-e]; exact ha)⟩
  ·rcases List.mem_append.mp B with B | B
   ·exact H.lt j B
   ·simp only[List.mem_singleton] at B;subst B;exact(List.getElem?_eq_some_iff.mp X).1
  ·unfold oV bE;simp only[L,M,Array.back?_push];have U:Nat.beq clock clock=true:=Nat.beq_refl clock;have hf:es.find? (·.born == es.toList[i].born)=some es.toList[i]:=by
    have:=Ja he.nodup u;rw[<-Array.find?_toList]; exact this
   simp only[U,hf,Z,hv]
end
end Go.En
namespace Go.En
open Go.ChangeShapes Go.WideShapes Go.ChangeAt Go.RowKit Go.Deep
def EAr (ik:IntKind) (n:Nat):jZ (Nat->Int):={n:=n,c:=λf=>(List.range n).map λi=>.int ik (f i),len:=λ_=>by simp,one:=λa v h=>by obtain⟨i,_,rfl⟩:=List.mem_map.1 h; rfl}
def NN {ik:IntKind} {n i:Nat} {f:Nat->Int} (h:i<n):((EAr ik n).c f)[i]?=some (.int ik (f i)):=by
 show((List.range n).map λi=>Value.int ik (f i))[i]?=_;simp[h]
section
variable {H:Type} {enc:TypeId × Value->H} {P:Program} {W:World}
def isAgg (P:Program) (t:TypeId):Bool:=match P.underlying t with | some (.struct _)=>true | some (.array _ _)=>true | _=>false
end
section
variable {h:Hp} {r n:Nat} {ik:IntKind} {f:Nat->Int}
def P8 {q:IntKind} {z:Int} {i:Nat} (u:z=i) (hi:i<n) (o:Nat):Dl n 1 (.pointer (some ⟨r,o,none⟩)) (.int q z)=some (.pointer (some ⟨r,o+i,none⟩)):=by
 subst u;have:(0:Int)<=(i:Int)/\(i:Int)<n:=by omega
 simp only[Dl,this,and_self,if_true,uY,Int.toNat_natCast,Nat.mul_one]
end
end Go.En
